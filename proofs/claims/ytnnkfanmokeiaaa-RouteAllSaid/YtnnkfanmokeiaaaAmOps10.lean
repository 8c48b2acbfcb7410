import Derived.Test.YtnnkfanmokeiaaaAmOps9
set_option linter.unusedVariables false
set_option linter.unusedSectionVars false
set_option linter.unusedSimpArgs false
namespace Go.AM
open Go Go.RowKit
variable [Glob]
section
variable {P : Program} {A : Nat → Nat → Prop} {μ : Nat → Option bI} {σ σ' : aL} {w : World} {o : Oper} {a : Act} {v : V} {n n' : Nat} {e : AX → V}
theorem fA.keep {μ' : Nat → Option bI} {w' : World} (g : bk μ σ w μ' σ' w') (alt : ∀ b o, A b o → b < w.heap.size) {k : Option Nat} {ys : List D} {news : List Value} (h : fA (aD A μ σ) w k ys news) : fA (aD A μ' σ') w' k ys news :=
  ⟨h.1, h.2.1, fun i d hd => ⟨(h.2.2 i d hd).1, fun j x hx => let ⟨v, h1, h2, h3⟩ := (h.2.2 i d hd).2 j x hx; ⟨v, h1, h2, g.keepD alt h3⟩⟩⟩
theorem kS {t el t2 : TypeId} {u2 : TypeDesc} {k : Option Nat} {i : TypeInfo} {z : Value} (ht : P.underlying t = some (.slice el)) (hu2 : P.underlying t2 = some u2) (hni : (∃ q, u2 = .slice q) ∨ u2 = .string)
    (hk : co P el = some k) (hi : P.info? el = some i) (hz : i.zero = some z) (hzs : z.cells.size = am k) (hby : P.bytesOf el ≤ 4096) {u : Value} {base : Option Addr} {sLen sCap : Nat} {ys els : List D} {news olds : List Value}
    (hrun : ∀ r, (Builtin.append_ #[t, t2] o.type #[.slice base sLen sCap, u]).run P w = r → (execOp a.eval o).run P w = r.andThen fun x w' => .ok (.value x) w')
    (hlen : (Builtin.lenOf u).run P w = .ok ys.length w) (hnew : ∀ dr, (Builtin.firstCells (am k) ys.length u).run P { w with drawn := dr } = .ok news.toArray { w with drawn := dr })
    (hrow : fA (aD A μ σ) w k ys news) (hold : ∀ dr, (Builtin.firstCells (am k) sLen (.slice base sLen sCap)).run P { w with drawn := dr } = .ok olds.toArray { w with drawn := dr }) (horow : fA (aD A μ σ) w k els olds)
    (hsl : sLen = els.length) (hlim : els.length + ys.length ≤ 4294967296) (hs : bm A μ σ w) (hn : μ n = none) (m : Bool) {σ0 : aL} (hd : ∀ j blk, σ0 j = some blk → σ j = some blk)
    (hroom : sLen + ys.length ≤ sCap → bV P A μ σ w o a (.loc n 0 (els.length + ys.length)) (aw σ0 n (some (.lst m k (els ++ ys)))) n (n + 1)) :
    bV P A μ σ w o a (.loc n 0 (els.length + ys.length)) (aw σ0 n (some (.lst m k (els ++ ys)))) n (n + 1) := by
  obtain ⟨_, hsz, _, _, hpos⟩ := eQ (w := w) hk
  rcases j4 (P := P) (w := w) ht hu2 hni hk hi hz hby o.type base sLen sCap ys.length u olds news hlen hnew hold (by omega) with ⟨h1, _⟩ | ⟨h1, cap, h2, h3, h4⟩
  · exact hroom h1
  · have hr := hrun _ h4
    simp only [Result.andThen_ok] at hr
    have gd : bk μ σ w μ σ0 w := bk.drop hd
    have hlen2 : (els ++ ys).length = els.length + ys.length := by simp
    have harr : (olds.toArray ++ news.toArray ++ Builtin.zeroCells z.cells (cap - (sLen + ys.length))) = (olds ++ news ++ (Builtin.zeroCells z.cells (cap - (sLen + ys.length))).toList).toArray := by
      apply Array.ext'; simp
    rw [harr, hsl] at hr
    have := nH (P := P) (A := A) (μ := μ) (σ := σ0) (w := w) (o := o) (a := a) (n := n) (d := w.drawn + 1) (k := k) (els := els ++ ys) (ty := el) (cap := cap) (hs.drop hd) hn m hpos (0, 0) (.inl rfl)
      (c := (olds ++ news ++ (Builtin.zeroCells z.cells (cap - (els.length + ys.length))).toList).toArray) (by rw [hlen2]; exact hr) (by rw [hlen2]; omega) h3
      (by
        have e1 := horow.1
        have e2 := hrow.1
        have : (Builtin.zeroCells z.cells (cap - (els.length + ys.length))).size = (cap - (els.length + ys.length)) * am k := by simp [Builtin.zeroCells, hzs]
        simp only [List.size_toArray, List.length_append, Array.length_toList, this, e1, e2, ← Nat.add_mul]
        congr 1; omega)
      (pO (horow.keep gd hs.alt) (hrow.keep gd hs.alt))
    rw [hlen2] at this
    exact this.ofDrop hd
theorem yo {k : Option Nat} (hpos : 0 < am k) {id b : Nat} {m : Bool} {els ys : List D} {news : List Value} {cap : Nat} (hid : σ id = some (.lst m k els)) (hp : μ id = some (.at b k)) (hs : bm A μ σ w) (hn : μ n = none)
    (hrow : fA (aD A μ σ) w k ys news) (hfit : io w b (cap * am k)) (hmax : cap ≤ maxLen) (hle : els.length + ys.length ≤ cap)
    (hrun : ∀ w', (storeCells ((⟨b, 0, none⟩ : Addr).add (els.length * am k)) news).run P w = .ok () w' → (execOp a.eval o).run P w = .ok (.value (.slice (some ⟨b, 0, none⟩) (els.length + ys.length) cap)) w') :
    bV P A μ σ w o a (.loc n 0 (els.length + ys.length)) (aw (aw σ id none) n (some (.lst m k (els ++ ys)))) n (n + 1) := by
  rcases hs.blks id _ hid with ⟨h1, _⟩ | ⟨b', c, ty, fr, h1, h2, h3, h4, h5⟩
  · rw [h1] at hp; cases hp
  · rw [h1] at hp; cases hp
    obtain ⟨c0, ty0, fr0, hc0, hfit⟩ := hfit
    rw [h2] at hc0; cases hc0
    have hmul : (els.length + ys.length) * am k ≤ cap * am k := Nat.mul_le_mul_right _ hle
    rw [Nat.add_mul, ← hrow.1] at hmul
    have hst := lX (P := P) b (els.length * am k) ty fr news 0 c w h2 h3 (by omega) hrow.2.1
    simp only [Nat.add_zero] at hst
    have hr := hrun _ (by rw [Addr.add_lit, Nat.zero_add]; exact hst)
    have hszc : (c.toList.take (els.length * am k) ++ news ++ c.toList.drop (els.length * am k + news.length)).toArray.size = c.size := by simp; omega
    have g := bk.write (blk' := .lst m k (els ++ ys)) (c' := (c.toList.take (els.length * am k) ++ news ++ c.toList.drop (els.length * am k + news.length)).toArray) hs hid h1 h2 hszc
      (fun o' ho' => by
        have hlt : o' < els.length * am k := by
          cases m with
          | true => exact (ho' rfl).elim
          | false =>
            rcases Nat.lt_or_ge o' (els.length * am k) with h | h
            · exact h
            · exact (ho' ⟨rfl, h⟩).elim
        rw [List.getElem?_toArray, List.append_assoc, List.getElem?_append_left (by simp; omega), List.getElem?_take, if_pos hlt]; simp)
      (fun o' ho' => by
        cases m with
        | true => exact ho'
        | false =>
          obtain ⟨_, h⟩ := ho'
          refine ⟨rfl, ?_⟩
          rw [List.length_append, Nat.add_mul] at h
          omega)
    have hs' := hs.write hid h1 h2 g (.inr ⟨b, _, ty, fr, h1, ir h2, by show fr.1 = fr.2 ∨ _ ≤ fr.1; rw [hszc]; exact h3, by
      rw [hszc, List.length_append, Nat.add_mul, ← hrow.1]; omega, fun i' d' hd' => by
        have horow : fA (aD A μ (aw σ id (some (.lst m k (els ++ ys))))) (c8 w b (c.toList.take (els.length * am k) ++ news ++ c.toList.drop (els.length * am k + news.length)).toArray) k els (c.toList.take (els.length * am k)) := by
          refine ⟨by simp; omega, fun v hv => ?_, fun i d hd => ⟨(h5 i d hd).1, fun j x hx => ?_⟩⟩
          · obtain ⟨q, hq, rfl⟩ := List.getElem_of_mem hv
            have hq' : q < els.length * am k := by simp at hq; omega
            have hqi : q / am k < els.length := by rw [Nat.div_lt_iff_lt_mul hpos]; exact hq'
            obtain ⟨s1, s2⟩ := h5 _ _ (bU hqi)
            have hqj : q % am k < (els[q / am k]).cells.length := by rw [eE s1]; exact Nat.mod_lt _ hpos
            obtain ⟨v, hv, ho, _⟩ := s2 _ _ (bU hqj)
            have e : q / am k * am k + q % am k = q := by have := Nat.div_add_mod q (am k); rw [Nat.mul_comm] at this; omega
            rw [e] at hv
            have hqc : q < c.size := by omega
            rw [Array.getElem?_eq_getElem hqc] at hv
            have : c.toList.take (els.length * am k) = c.toList.take (els.length * am k) := rfl
            simp only [List.getElem_take, Array.getElem_toList]
            rw [bM hv]; exact ho
          · obtain ⟨v, hv, ho, hr⟩ := (h5 i d hd).2 j x hx
            have hi : i < els.length := (List.getElem?_eq_some_iff.1 hd).1
            have hj : j < am k := by have := (List.getElem?_eq_some_iff.1 hx).1; rw [eE (h5 i d hd).1] at this; exact this
            have hlt : i * am k + j < els.length * am k := by
              have : (i + 1) * am k ≤ els.length * am k := Nat.mul_le_mul_right _ hi
              rw [Nat.add_mul] at this; omega
            exact ⟨v, by rw [List.getElem?_take, if_pos hlt]; simpa using hv, ho, g.keepD hs.alt hr⟩
        exact pO horow (hrow.keep g hs.alt) i' d' hd'⟩)
    obtain ⟨g2, hs2⟩ := sX hs' (id := id) (n := n) (bz _ _ _) h1 hn
    have e1 : aw (aw (aw σ id (some (.lst m k (els ++ ys)))) id none) n (some (.lst m k (els ++ ys))) = aw (aw σ id none) n (some (.lst m k (els ++ ys))) := by
      funext q; simp only [aw]; by_cases c1 : q = n <;> by_cases c2 : q = id <;> simp [c1, c2]
    rw [e1] at g2 hs2
    refine ⟨_, _, _, _, hr, .inl rfl, ?_, hs2, g.trans g2, fun j hj => ?_⟩
    · have := aR.loc (μ := aw μ n (some (.at b k))) (own := aD A (aw μ n (some (.at b k))) (aw (aw σ id none) n (some (.lst m k (els ++ ys))))) (w := c8 w b (c.toList.take (els.length * am k) ++ news ++ c.toList.drop (els.length * am k + news.length)).toArray) n 0 (els.length + ys.length) b k cap (bz _ _ _) hle hmax
        ⟨_, ty, fr, ir h2, by rw [hszc]; simpa using hfit⟩
      simpa using this
    · by_cases e : j = n
      · exact .inr (by omega)
      · rw [bg _ _ e] at hj; exact .inl hj
theorem sY {c : Call} {x y : Operand} {t t2 : TypeId} {ux uy : Value} (ho : o.op = .call c) (hb : c.callee = .builtin .append) (hy : c.args = #[x, y]) (ht : c.argTypes = #[t, t2]) (hx1 : a.eval x = ux) (hy1 : a.eval y = uy) :
    ∀ r, (Builtin.append_ #[t, t2] o.type #[ux, uy]).run P w = r → (execOp a.eval o).run P w = r.andThen fun x w' => .ok (.value x) w' := by
  intro r hr
  simp [execOp, ho, resolve, hb, hy, ht, hx1, hy1, invoke, builtin, hr]
theorem pP {k : Option Nat} {y : V} {ys : List D} (h : fI σ k y = some ys) : (y = .d .nils ∧ ys = []) ∨ (cI σ y = some k ∧ eC σ y = some ys) := by
  unfold fI at h
  split at h
  · cases h; exact .inl ⟨rfl, rfl⟩
  · split at h
    · rename_i hk; exact .inr ⟨hk, h⟩
    · cases h
theorem sZ {k : Option Nat} (hpos : 0 < am k) {y : V} {u : Value} (hs : bm A μ σ w) (hy : aR μ (aD A μ σ) w y u) {ys : List D}
    (h : (∃ s, y = .d (.str s) ∧ k = none ∧ ys = ga s) ∨ (y = .d .nils ∧ ys = []) ∨ (cI σ y = some k ∧ eC σ y = some ys)) :
    ∃ news, (Builtin.lenOf u).run P w = .ok ys.length w ∧ fA (aD A μ σ) w k ys news ∧ ∀ dr, (Builtin.firstCells (am k) ys.length u).run P { w with drawn := dr } = .ok news.toArray { w with drawn := dr } := by
  rcases h with ⟨s, rfl, rfl, rfl⟩ | h
  · have := jh hy
    subst this
    have hl : (ga s).length = s.size := by simp [ga]
    refine ⟨_, by simp [Builtin.lenOf, hl], sW s, fun dr => ?_⟩
    simp only [Builtin.firstCells, hl]
    have : s.extract 0 s.size = s := by simp
    simp [this]
    apply Array.ext'; simp
  · obtain ⟨p, c, news, rfl, h1, h2⟩ := sV (P := P) hpos hs hy h
    exact ⟨news, by simp [Builtin.lenOf], h1, h2⟩
theorem pQ {k : Option Nat} {x y : AX} {m : Bool} {c : Call} {el : TypeId} {i : TypeInfo} {z : Value} {u2 : TypeDesc} (ho : o.op = .call c) (hb : c.callee = .builtin .append) (hc : cU [x, y] c.args.toList = true) (ht2 : c.argTypes.size = 2)
    (hu : (c.argTypes[0]?).bind P.underlying = some (.slice el)) (hu2 : (c.argTypes[1]?).bind P.underlying = some u2) (hni : (∃ q, u2 = .slice q) ∨ u2 = .string) (hk : co P el = some k) (hi : P.info? el = some i) (hz : i.zero = some z) (hzs : z.cells.size = am k) (hby : P.bytesOf el ≤ 4096)
    (he : dU μ (aD A μ σ) w e a) (hs : bm A μ σ w) (hn : μ n = none) (hv : eX σ n k (e x) (e y) m = some (v, σ', n')) : bV P A μ σ w o a v σ' n n' := by
  obtain ⟨_, hsz, _, _, hpos⟩ := eQ (w := w) hk
  obtain ⟨p, q, hargs, hxp, hyq⟩ := nD hc
  obtain ⟨t, t2, hts⟩ := sE ht2
  have hx := he x p hxp
  have hy := he y q hyq
  rw [hts] at hu hu2
  simp at hu hu2
  unfold eX at hv
  generalize hys : fv σ k (e y) = ysO at hv
  cases ysO with
  | none => cases hv
  | some ys =>
    simp only at hv
    have hsrc : (∃ s, e y = .d (.str s) ∧ k = none ∧ ys = ga s) ∨ (e y = .d .nils ∧ ys = []) ∨ (cI σ (e y) = some k ∧ eC σ (e y) = some ys) := by
      unfold fv at hys
      split at hys
      · rename_i s hs'
        split at hys
        · rename_i hk0; cases hys; exact .inl ⟨s, hs', hk0, rfl⟩
        · cases hys
      · exact .inr (pP hys)
    obtain ⟨news, hlen, hrow, hnew⟩ := sZ (P := P) hpos hs hy hsrc
    generalize hxe : a.eval p = ux at hx
    have hrun := fun (ux' : Value) (h : a.eval p = ux') => sY (P := P) (w := w) ho hb hargs hts h rfl
    have hnilrow : fA (aD A μ σ) w k [] [] := ⟨by simp, by simp, fun i d h => by simp at h⟩
    split at hv
    · rename_i hx0
      rw [hx0] at hx
      have hux := nA hx
      subst hux
      split at hv
      · rename_i hl
        cases hv
        have := kS (P := P) (A := A) (μ := μ) (σ := σ) (σ0 := σ) (w := w) (o := o) (a := a) (n := n) (els := []) (olds := []) hu hu2 hni hk hi hz hzs hby (hrun _ hxe) hlen hnew hrow (fun dr => by simp [Builtin.firstCells]) hnilrow rfl (by simpa [fQ] using hl) hs hn m (fun _ _ h => h) (fun hroom => by
          have h0 : ys = [] := List.eq_nil_of_length_eq_zero (by omega)
          subst h0
          have hw := (j4 (P := P) (w := w) hu hu2 hni hk hi hz hby o.type none 0 0 0 (a.eval q) [] news hlen hnew (fun dr => by simp [Builtin.firstCells]) (by omega))
          rcases hw with ⟨_, hw⟩ | ⟨hw, _⟩
          · have := hrun _ hxe _ (hw w rfl)
            exact nL hs hn m k (by simpa using this)
          · omega)
        simpa using this
      · cases hv
    · rename_i id len hx0
      rw [hx0] at hx
      split at hv
      · rename_i m' k' els hid
        split at hv
        · rename_i hcond
          obtain ⟨rfl, rfl, hl⟩ := hcond
          cases hv
          have hd : ∀ j blk, aw σ id none j = some blk → σ j = some blk := by
            intro j blk h
            by_cases e : j = id
            · subst e; simp [bz] at h
            · rwa [bg _ _ e] at h
          rcases hs.blks id _ hid with ⟨h1, h2⟩ | ⟨b, cc, ty, fr, h1, h2, h3, h4, h5⟩
          · -- nothing there yet
            subst h2
            have hux : ∃ ad, ux = .slice ad 0 0 := by
              cases hx with
              | loc0 => exact ⟨_, rfl⟩
              | loc _ _ _ b k cap g1 => rw [h1] at g1; cases g1
            obtain ⟨ad, rfl⟩ := hux
            have hf0 : ∀ dr, (Builtin.firstCells (am k') 0 (.slice ad 0 0)).run P { w with drawn := dr } = .ok ([] : List Value).toArray { w with drawn := dr } := fun dr => by
              cases ad <;> simp [Builtin.firstCells, loadCells, loadCellsFrom]
            exact kS (P := P) (A := A) (μ := μ) (σ := σ) (σ0 := aw σ id none) (w := w) (o := o) (a := a) (n := n) (els := []) (olds := []) hu hu2 hni hk hi hz hzs hby (hrun _ hxe) hlen hnew hrow hf0 hnilrow rfl (by simpa [fQ] using hl) hs hn m' hd (fun hroom => by
              have h0 : ys = [] := List.eq_nil_of_length_eq_zero (by omega)
              subst h0
              have hnews : news = [] := List.eq_nil_of_length_eq_zero (by rw [hrow.1]; simp)
              subst hnews
              rcases j4 (P := P) (w := w) hu hu2 hni hk hi hz hby o.type ad 0 0 0 (a.eval q) [] [] hlen hnew hf0 (by omega) with ⟨_, hw⟩ | ⟨hw, _⟩
              · have := hrun _ hxe _ (hw w (by cases ad <;> simp [storeCells]))
                exact (nL (hs.drop hd) hn m' k' (by simpa using this)).ofDrop hd
              · omega)
          · have hcases : (∃ ad, ux = .slice ad 0 0 ∧ els = []) ∨ ∃ cap, ux = .slice (some ⟨b, 0, none⟩) els.length cap ∧ els.length ≤ cap ∧ cap ≤ maxLen ∧ io w b (cap * am k') := by
              generalize hll : els.length = ll at hx
              cases hx with
              | loc0 => exact .inl ⟨_, rfl, List.eq_nil_of_length_eq_zero hll⟩
              | loc _ _ _ b' k'' cap g1 g2 g3 g4 =>
                rw [h1] at g1; cases g1
                refine .inr ⟨cap, by simp, g2, g3, by simpa using g4⟩
            rcases hcases with ⟨ad, rfl, rfl⟩ | ⟨cap, rfl, hcap, hmax, hfit⟩
            · have hf0 : ∀ dr, (Builtin.firstCells (am k') 0 (.slice ad 0 0)).run P { w with drawn := dr } = .ok ([] : List Value).toArray { w with drawn := dr } := fun dr => by
                cases ad <;> simp [Builtin.firstCells, loadCells, loadCellsFrom]
              exact kS (P := P) (A := A) (μ := μ) (σ := σ) (σ0 := aw σ id none) (w := w) (o := o) (a := a) (n := n) (els := []) (olds := []) hu hu2 hni hk hi hz hzs hby (hrun _ hxe) hlen hnew hrow hf0 hnilrow rfl (by simpa [fQ] using hl) hs hn m' hd (fun hroom => by
                have h0 : ys = [] := List.eq_nil_of_length_eq_zero (by omega)
                subst h0
                have hnews : news = [] := List.eq_nil_of_length_eq_zero (by rw [hrow.1]; simp)
                subst hnews
                rcases j4 (P := P) (w := w) hu hu2 hni hk hi hz hby o.type ad 0 0 0 (a.eval q) [] [] hlen hnew hf0 (by omega) with ⟨_, hw⟩ | ⟨hw, _⟩
                · have := hrun _ hxe _ (hw w (by cases ad <;> simp [storeCells]))
                  exact (nL (hs.drop hd) hn m' k' (by simpa using this)).ofDrop hd
                · omega)
            · have horow := nJ (O := aD A μ σ) (w := w) (k := k') (ys := els) hpos (fun i j => cc.getD (i * am k' + j) Go.undef) (fun i d hd => (h5 i d hd).1)
                (fun i d j x hd hx => by obtain ⟨v, hv, ho, hr⟩ := (h5 i d hd).2 j x hx; simpa [hv] using ho) (fun i d j x hd hx => by obtain ⟨v, hv, ho, hr⟩ := (h5 i d hd).2 j x hx; simpa [hv] using hr)
              have hold : ∀ dr, (Builtin.firstCells (am k') els.length (.slice (some ⟨b, 0, none⟩) els.length cap)).run P { w with drawn := dr } = .ok ((List.range (els.length * am k')).map fun q => (fun i j => cc.getD (i * am k' + j) Go.undef) (q / am k') (q % am k')).toArray { w with drawn := dr } := by
                intro dr
                simp only [Builtin.firstCells]
                exact nK hpos b 0 (fun i j => cc.getD (i * am k' + j) Go.undef) (fun i d hd => (h5 i d hd).1) (fun i d j x hd hx => by
                  obtain ⟨v, hv, ho, hr⟩ := (h5 i d hd).2 j x hx
                  rw [fu h2, Nat.zero_add, hv]; simp [hv]) dr
              exact kS (P := P) (A := A) (μ := μ) (σ := σ) (σ0 := aw σ id none) (w := w) (o := o) (a := a) (n := n) hu hu2 hni hk hi hz hzs hby (hrun _ hxe) hlen hnew hrow hold horow rfl (by simpa [fQ] using hl) hs hn m' hd (fun hroom => by
                refine yo hpos hid h1 hs hn hrow hfit hmax hroom fun w' hw' => ?_
                rcases j4 (P := P) (w := w) hu hu2 hni hk hi hz hby o.type (some ⟨b, 0, none⟩) els.length cap ys.length (a.eval q) _ news hlen hnew hold (by simpa [fQ] using hl) with ⟨_, hw⟩ | ⟨hw, _⟩
                · have := hrun _ hxe _ (hw w' hw')
                  simpa using this
                · omega)
        · cases hv
      · cases hv
    · cases hv
theorem s6 {kb : Option Nat} {els els' : List D} {pl : Option bI} {b o : Nat} (h : bu.ownsAt (.lst true kb els) pl b o) : bu.ownsAt (.lst true kb els') pl b o := by
  cases pl with
  | none => exact h
  | some p => cases p <;> exact h
theorem pR {id : Nat} {kb : Option Nat} {els els' : List D} (hid : σ id = some (.lst true kb els)) : aD A μ (aw σ id (some (.lst true kb els'))) = aD A μ σ := by
  funext b o
  apply propext
  unfold aD dl
  refine or_congr ⟨?_, ?_⟩ Iff.rfl
  · rintro ⟨j, blk, h1, h2⟩
    by_cases e : j = id
    · subst e
      rw [bz] at h1; cases h1
      exact ⟨j, _, hid, s6 h2⟩
    · rw [bg _ _ e] at h1; exact ⟨j, blk, h1, h2⟩
  · rintro ⟨j, blk, h1, h2⟩
    by_cases e : j = id
    · subst e
      rw [hid] at h1; cases h1
      exact ⟨j, _, bz _ _ _, s6 h2⟩
    · exact ⟨j, blk, by rw [bg _ _ e]; exact h1, h2⟩
theorem bk.cutL {id : Nat} {kb : Option Nat} {els els' : List D} (hid : σ id = some (.lst true kb els)) : bk μ σ w μ (aw σ id (some (.lst true kb els'))) w where
  os := rfl
  tape := rfl
  output := rfl
  size := Nat.le_refl _
  block _ _ _ := rfl
  cells _ c _ _ hc := ⟨c, hc, rfl, fun _ _ => rfl⟩
  own b o ho := by
    have : aD (fun _ _ => False) μ (aw σ id (some (.lst true kb els'))) b o := .inl ho
    rw [pR hid] at this
    exact .inl (this.elim (fun h => h) (fun h => h.elim))
  ownB b ho := by
    obtain ⟨j, blk, k, h1, h2⟩ := ho
    by_cases e : j = id
    · subst e; exact .inl ⟨j, _, k, hid, h2⟩
    · rw [bg _ _ e] at h1; exact .inl ⟨j, blk, k, h1, h2⟩
  grow _ _ h := h
theorem bm.cutL (hs : bm A μ σ w) {id : Nat} {kb : Option Nat} {els : List D} (hid : σ id = some (.lst true kb els)) (len : Nat) : bm A μ (aw σ id (some (.lst true kb (els.take len)))) w := by
  refine hs.update (bk.cutL hid) id (fun j x hj h => by rwa [bg _ _ hj] at h) (fun j hj => rfl) (fun x hx => ?_) (fun _ _ _ _ _ _ _ => rfl) (fun b k' x hx hp => ⟨fun o => hs.amb id _ b k' hid hp o, fun j y k'' hj hy hp' => hj ?_⟩)
  · simp only [bz, Option.some.injEq] at hx
    subst hx
    rw [pR hid]
    rcases hs.blks id _ hid with ⟨h1, h2⟩ | ⟨b, c, ty, fr, h1, h2, h3, h4, h5⟩
    · exact .inl ⟨h1, by simp [h2]⟩
    · refine .inr ⟨b, c, ty, fr, h1, h2, h3, Nat.le_trans (Nat.mul_le_mul_right _ (by simp; omega)) h4, fun i d hd => ?_⟩
      rw [List.getElem?_take] at hd
      split at hd
      · exact h5 i d hd
      · cases hd
  · rw [bg _ _ hj] at hy
    exact hs.inj j id y _ b k'' k' hy hid hp' hp
theorem yp {id : Nat} {kb : Option Nat} {els els' : List D} (hid : σ id = some (.lst true kb els)) (h : bV P A μ (aw σ id (some (.lst true kb els'))) w o a v σ' n n') : bV P A μ σ w o a v σ' n n' := by
  obtain ⟨nx, cv, w', μ', h1, h2, h3, h4, h5, h6⟩ := h
  exact ⟨nx, cv, w', μ', h1, h2, h3, h4, (bk.cutL hid).trans h5, h6⟩
end
end Go.AM
