import Derived.Test.YtfjelgjfbjjopaaAmOps9
set_option linter.unusedVariables false
set_option linter.unusedSectionVars false
set_option linter.unusedSimpArgs false
namespace Go.AM
open Go Go.RowKit
variable [Glob]
section
variable {P : Program} {A : Nat → Nat → Prop} {μ : Nat → Option aJ} {σ σ' : au} {w : World} {o : Oper} {a : Act} {v : V} {n n' : Nat} {e : AX → V}
theorem da.keep {μ' : Nat → Option aJ} {w' : World} (g : aA μ σ w μ' σ' w') (alt : ∀ b o, A b o → b < w.heap.size) {k : Option Nat} {ys : List D} {news : List Value} (h : da (ak A μ σ) w k ys news) : da (ak A μ' σ') w' k ys news :=
  ⟨h.1, h.2.1, fun i d hd => ⟨(h.2.2 i d hd).1, fun j x hx => let ⟨v, h1, h2, h3⟩ := (h.2.2 i d hd).2 j x hx; ⟨v, h1, h2, g.keepD alt h3⟩⟩⟩
theorem gF {t el t2 : TypeId} {u2 : TypeDesc} {k : Option Nat} {i : TypeInfo} {z : Value} (ht : P.underlying t = some (.slice el)) (hu2 : P.underlying t2 = some u2) (hni : (∃ q, u2 = .slice q) ∨ u2 = .string)
    (hk : bp P el = some k) (hi : P.info? el = some i) (hz : i.zero = some z) (hzs : z.cells.size = ah k) (hby : P.bytesOf el ≤ 4096) {u : Value} {base : Option Addr} {sLen sCap : Nat} {ys els : List D} {news olds : List Value}
    (hrun : ∀ r, (Builtin.append_ #[t, t2] o.type #[.slice base sLen sCap, u]).run P w = r → (execOp a.eval o).run P w = r.andThen fun x w' => .ok (.value x) w')
    (hlen : (Builtin.lenOf u).run P w = .ok ys.length w) (hnew : ∀ dr, (Builtin.firstCells (ah k) ys.length u).run P { w with drawn := dr } = .ok news.toArray { w with drawn := dr })
    (hrow : da (ak A μ σ) w k ys news) (hold : ∀ dr, (Builtin.firstCells (ah k) sLen (.slice base sLen sCap)).run P { w with drawn := dr } = .ok olds.toArray { w with drawn := dr }) (horow : da (ak A μ σ) w k els olds)
    (hsl : sLen = els.length) (hlim : els.length + ys.length ≤ 4294967296) (hs : aB A μ σ w) (hn : μ n = none) (m : Bool) {σ0 : au} (hd : ∀ j blk, σ0 j = some blk → σ j = some blk)
    (hroom : sLen + ys.length ≤ sCap → aZ P A μ σ w o a (.loc n 0 (els.length + ys.length)) (aj σ0 n (some (.lst m k (els ++ ys)))) n (n + 1)) :
    aZ P A μ σ w o a (.loc n 0 (els.length + ys.length)) (aj σ0 n (some (.lst m k (els ++ ys)))) n (n + 1) := by
  obtain ⟨_, hsz, _, _, hpos⟩ := cH (w := w) hk
  rcases fR (P := P) (w := w) ht hu2 hni hk hi hz hby o.type base sLen sCap ys.length u olds news hlen hnew hold (by omega) with ⟨h1, _⟩ | ⟨h1, cap, h2, h3, h4⟩
  · exact hroom h1
  · have hr := hrun _ h4
    simp only [Result.andThen_ok] at hr
    have gd : aA μ σ w μ σ0 w := aA.drop hd
    have hlen2 : (els ++ ys).length = els.length + ys.length := by simp
    have harr : (olds.toArray ++ news.toArray ++ Builtin.zeroCells z.cells (cap - (sLen + ys.length))) = (olds ++ news ++ (Builtin.zeroCells z.cells (cap - (sLen + ys.length))).toList).toArray := by
      apply Array.ext'; simp
    rw [harr, hsl] at hr
    have := jt (P := P) (A := A) (μ := μ) (σ := σ0) (w := w) (o := o) (a := a) (n := n) (d := w.drawn + 1) (k := k) (els := els ++ ys) (ty := el) (cap := cap) (hs.drop hd) hn m hpos (0, 0) (.inl rfl)
      (c := (olds ++ news ++ (Builtin.zeroCells z.cells (cap - (els.length + ys.length))).toList).toArray) (by rw [hlen2]; exact hr) (by rw [hlen2]; omega) h3
      (by
        have e1 := horow.1
        have e2 := hrow.1
        have : (Builtin.zeroCells z.cells (cap - (els.length + ys.length))).size = (cap - (els.length + ys.length)) * ah k := by simp [Builtin.zeroCells, hzs]
        simp only [List.size_toArray, List.length_append, Array.length_toList, this, e1, e2, ← Nat.add_mul]
        congr 1; omega)
      (kz (horow.keep gd hs.alt) (hrow.keep gd hs.alt))
    rw [hlen2] at this
    exact this.ofDrop hd
theorem pU {k : Option Nat} (hpos : 0 < ah k) {id b : Nat} {m : Bool} {els ys : List D} {news : List Value} {cap : Nat} (hid : σ id = some (.lst m k els)) (hp : μ id = some (.at b k)) (hs : aB A μ σ w) (hn : μ n = none)
    (hrow : da (ak A μ σ) w k ys news) (hfit : eK w b (cap * ah k)) (hmax : cap ≤ maxLen) (hle : els.length + ys.length ≤ cap)
    (hrun : ∀ w', (storeCells ((⟨b, 0, none⟩ : Addr).add (els.length * ah k)) news).run P w = .ok () w' → (execOp a.eval o).run P w = .ok (.value (.slice (some ⟨b, 0, none⟩) (els.length + ys.length) cap)) w') :
    aZ P A μ σ w o a (.loc n 0 (els.length + ys.length)) (aj (aj σ id none) n (some (.lst m k (els ++ ys)))) n (n + 1) := by
  rcases hs.blks id _ hid with ⟨h1, _⟩ | ⟨b', c, ty, fr, h1, h2, h3, h4, h5⟩
  · rw [h1] at hp; cases hp
  · rw [h1] at hp; cases hp
    obtain ⟨c0, ty0, fr0, hc0, hfit⟩ := hfit
    rw [h2] at hc0; cases hc0
    have hmul : (els.length + ys.length) * ah k ≤ cap * ah k := Nat.mul_le_mul_right _ hle
    rw [Nat.add_mul, ← hrow.1] at hmul
    have hst := iv (P := P) b (els.length * ah k) ty fr news 0 c w h2 h3 (by omega) hrow.2.1
    simp only [Nat.add_zero] at hst
    have hr := hrun _ (by rw [Addr.add_lit, Nat.zero_add]; exact hst)
    have hszc : (c.toList.take (els.length * ah k) ++ news ++ c.toList.drop (els.length * ah k + news.length)).toArray.size = c.size := by simp; omega
    have g := aA.write (blk' := .lst m k (els ++ ys)) (c' := (c.toList.take (els.length * ah k) ++ news ++ c.toList.drop (els.length * ah k + news.length)).toArray) hs hid h1 h2 hszc
      (fun o' ho' => by
        have hlt : o' < els.length * ah k := by
          cases m with
          | true => exact (ho' rfl).elim
          | false =>
            rcases Nat.lt_or_ge o' (els.length * ah k) with h | h
            · exact h
            · exact (ho' ⟨rfl, h⟩).elim
        rw [List.getElem?_toArray, List.append_assoc, List.getElem?_append_left (by simp; omega), List.getElem?_take, if_pos hlt]; simp)
      (fun o' ho' => by
        cases m with
        | true => exact ho'
        | false =>
          obtain ⟨_, h⟩ := ho'
          refine ⟨rfl, ?_⟩
          rw [List.length_append, Nat.add_mul] at h
          omega)
    have hs' := hs.write hid h1 h2 g (.inr ⟨b, _, ty, fr, h1, dY h2, by show fr.1 = fr.2 ∨ _ ≤ fr.1; rw [hszc]; exact h3, by
      rw [hszc, List.length_append, Nat.add_mul, ← hrow.1]; omega, fun i' d' hd' => by
        have horow : da (ak A μ (aj σ id (some (.lst m k (els ++ ys))))) (bY w b (c.toList.take (els.length * ah k) ++ news ++ c.toList.drop (els.length * ah k + news.length)).toArray) k els (c.toList.take (els.length * ah k)) := by
          refine ⟨by simp; omega, fun v hv => ?_, fun i d hd => ⟨(h5 i d hd).1, fun j x hx => ?_⟩⟩
          · obtain ⟨q, hq, rfl⟩ := List.getElem_of_mem hv
            have hq' : q < els.length * ah k := by simp at hq; omega
            have hqi : q / ah k < els.length := by rw [Nat.div_lt_iff_lt_mul hpos]; exact hq'
            obtain ⟨s1, s2⟩ := h5 _ _ (bt hqi)
            have hqj : q % ah k < (els[q / ah k]).cells.length := by rw [ck s1]; exact Nat.mod_lt _ hpos
            obtain ⟨v, hv, ho, _⟩ := s2 _ _ (bt hqj)
            have e : q / ah k * ah k + q % ah k = q := by have := Nat.div_add_mod q (ah k); rw [Nat.mul_comm] at this; omega
            rw [e] at hv
            have hqc : q < c.size := by omega
            rw [Array.getElem?_eq_getElem hqc] at hv
            have : c.toList.take (els.length * ah k) = c.toList.take (els.length * ah k) := rfl
            simp only [List.getElem_take, Array.getElem_toList]
            rw [aH hv]; exact ho
          · obtain ⟨v, hv, ho, hr⟩ := (h5 i d hd).2 j x hx
            have hi : i < els.length := (List.getElem?_eq_some_iff.1 hd).1
            have hj : j < ah k := by have := (List.getElem?_eq_some_iff.1 hx).1; rw [ck (h5 i d hd).1] at this; exact this
            have hlt : i * ah k + j < els.length * ah k := by
              have : (i + 1) * ah k ≤ els.length * ah k := Nat.mul_le_mul_right _ hi
              rw [Nat.add_mul] at this; omega
            exact ⟨v, by rw [List.getElem?_take, if_pos hlt]; simpa using hv, ho, g.keepD hs.alt hr⟩
        exact kz horow (hrow.keep g hs.alt) i' d' hd'⟩)
    obtain ⟨g2, hs2⟩ := mJ hs' (id := id) (n := n) (aL _ _ _) h1 hn
    have e1 : aj (aj (aj σ id (some (.lst m k (els ++ ys)))) id none) n (some (.lst m k (els ++ ys))) = aj (aj σ id none) n (some (.lst m k (els ++ ys))) := by
      funext q; simp only [aj]; by_cases c1 : q = n <;> by_cases c2 : q = id <;> simp [c1, c2]
    rw [e1] at g2 hs2
    refine ⟨_, _, _, _, hr, .inl rfl, ?_, hs2, g.trans g2, fun j hj => ?_⟩
    · have := aw.loc (μ := aj μ n (some (.at b k))) (own := ak A (aj μ n (some (.at b k))) (aj (aj σ id none) n (some (.lst m k (els ++ ys))))) (w := bY w b (c.toList.take (els.length * ah k) ++ news ++ c.toList.drop (els.length * ah k + news.length)).toArray) n 0 (els.length + ys.length) b k cap (aL _ _ _) hle hmax
        ⟨_, ty, fr, dY h2, by rw [hszc]; simpa using hfit⟩
      simpa using this
    · by_cases e : j = n
      · exact .inr (by omega)
      · rw [aG _ _ e] at hj; exact .inl hj
theorem mK {c : Call} {x y : Operand} {t t2 : TypeId} {ux uy : Value} (ho : o.op = .call c) (hb : c.callee = .builtin .append) (hy : c.args = #[x, y]) (ht : c.argTypes = #[t, t2]) (hx1 : a.eval x = ux) (hy1 : a.eval y = uy) :
    ∀ r, (Builtin.append_ #[t, t2] o.type #[ux, uy]).run P w = r → (execOp a.eval o).run P w = r.andThen fun x w' => .ok (.value x) w' := by
  intro r hr
  simp [execOp, ho, resolve, hb, hy, ht, hx1, hy1, invoke, builtin, hr]
theorem kA {k : Option Nat} {y : V} {ys : List D} (h : dO σ k y = some ys) : (y = .d .nils ∧ ys = []) ∨ (bX σ y = some k ∧ cW σ y = some ys) := by
  unfold dO at h
  split at h
  · cases h; exact .inl ⟨rfl, rfl⟩
  · split at h
    · rename_i hk; exact .inr ⟨hk, h⟩
    · cases h
theorem mL {k : Option Nat} (hpos : 0 < ah k) {y : V} {u : Value} (hs : aB A μ σ w) (hy : aw μ (ak A μ σ) w y u) {ys : List D}
    (h : (∃ s, y = .d (.str s) ∧ k = none ∧ ys = dC s) ∨ (y = .d .nils ∧ ys = []) ∨ (bX σ y = some k ∧ cW σ y = some ys)) :
    ∃ news, (Builtin.lenOf u).run P w = .ok ys.length w ∧ da (ak A μ σ) w k ys news ∧ ∀ dr, (Builtin.firstCells (ah k) ys.length u).run P { w with drawn := dr } = .ok news.toArray { w with drawn := dr } := by
  rcases h with ⟨s, rfl, rfl, rfl⟩ | h
  · have := fq hy
    subst this
    have hl : (dC s).length = s.size := by simp [dC]
    refine ⟨_, by simp [Builtin.lenOf, hl], mI s, fun dr => ?_⟩
    simp only [Builtin.firstCells, hl]
    have : s.extract 0 s.size = s := by simp
    simp [this]
    apply Array.ext'; simp
  · obtain ⟨p, c, news, rfl, h1, h2⟩ := mH (P := P) hpos hs hy h
    exact ⟨news, by simp [Builtin.lenOf], h1, h2⟩
theorem kB {k : Option Nat} {x y : AX} {m : Bool} {c : Call} {el : TypeId} {i : TypeInfo} {z : Value} {u2 : TypeDesc} (ho : o.op = .call c) (hb : c.callee = .builtin .append) (hc : bM [x, y] c.args.toList = true) (ht2 : c.argTypes.size = 2)
    (hu : (c.argTypes[0]?).bind P.underlying = some (.slice el)) (hu2 : (c.argTypes[1]?).bind P.underlying = some u2) (hni : (∃ q, u2 = .slice q) ∨ u2 = .string) (hk : bp P el = some k) (hi : P.info? el = some i) (hz : i.zero = some z) (hzs : z.cells.size = ah k) (hby : P.bytesOf el ≤ 4096)
    (he : cx μ (ak A μ σ) w e a) (hs : aB A μ σ w) (hn : μ n = none) (hv : cX σ n k (e x) (e y) m = some (v, σ', n')) : aZ P A μ σ w o a v σ' n n' := by
  obtain ⟨_, hsz, _, _, hpos⟩ := cH (w := w) hk
  obtain ⟨p, q, hargs, hxp, hyq⟩ := jp hc
  obtain ⟨t, t2, hts⟩ := ml ht2
  have hx := he x p hxp
  have hy := he y q hyq
  rw [hts] at hu hu2
  simp at hu hu2
  unfold cX at hv
  generalize hys : dV σ k (e y) = ysO at hv
  cases ysO with
  | none => cases hv
  | some ys =>
    simp only at hv
    have hsrc : (∃ s, e y = .d (.str s) ∧ k = none ∧ ys = dC s) ∨ (e y = .d .nils ∧ ys = []) ∨ (bX σ (e y) = some k ∧ cW σ (e y) = some ys) := by
      unfold dV at hys
      split at hys
      · rename_i s hs'
        split at hys
        · rename_i hk0; cases hys; exact .inl ⟨s, hs', hk0, rfl⟩
        · cases hys
      · exact .inr (kA hys)
    obtain ⟨news, hlen, hrow, hnew⟩ := mL (P := P) hpos hs hy hsrc
    generalize hxe : a.eval p = ux at hx
    have hrun := fun (ux' : Value) (h : a.eval p = ux') => mK (P := P) (w := w) ho hb hargs hts h rfl
    have hnilrow : da (ak A μ σ) w k [] [] := ⟨by simp, by simp, fun i d h => by simp at h⟩
    split at hv
    · rename_i hx0
      rw [hx0] at hx
      have hux := jm hx
      subst hux
      split at hv
      · rename_i hl
        cases hv
        have := gF (P := P) (A := A) (μ := μ) (σ := σ) (σ0 := σ) (w := w) (o := o) (a := a) (n := n) (els := []) (olds := []) hu hu2 hni hk hi hz hzs hby (hrun _ hxe) hlen hnew hrow (fun dr => by simp [Builtin.firstCells]) hnilrow rfl (by simpa [dN] using hl) hs hn m (fun _ _ h => h) (fun hroom => by
          have h0 : ys = [] := List.eq_nil_of_length_eq_zero (by omega)
          subst h0
          have hw := (fR (P := P) (w := w) hu hu2 hni hk hi hz hby o.type none 0 0 0 (a.eval q) [] news hlen hnew (fun dr => by simp [Builtin.firstCells]) (by omega))
          rcases hw with ⟨_, hw⟩ | ⟨hw, _⟩
          · have := hrun _ hxe _ (hw w rfl)
            exact jw hs hn m k (by simpa using this)
          · omega)
        simpa using this
      · cases hv
    · rename_i id len hx0
      rw [hx0] at hx
      split at hv
      · rename_i m' k' els hid
        split at hv
        · rename_i hcond
          obtain ⟨rfl, rfl, hl⟩ := hcond
          cases hv
          have hd : ∀ j blk, aj σ id none j = some blk → σ j = some blk := by
            intro j blk h
            by_cases e : j = id
            · subst e; simp [aL] at h
            · rwa [aG _ _ e] at h
          rcases hs.blks id _ hid with ⟨h1, h2⟩ | ⟨b, cc, ty, fr, h1, h2, h3, h4, h5⟩
          · -- nothing there yet
            subst h2
            have hux : ∃ ad, ux = .slice ad 0 0 := by
              cases hx with
              | loc0 => exact ⟨_, rfl⟩
              | loc _ _ _ b k cap g1 => rw [h1] at g1; cases g1
            obtain ⟨ad, rfl⟩ := hux
            have hf0 : ∀ dr, (Builtin.firstCells (ah k') 0 (.slice ad 0 0)).run P { w with drawn := dr } = .ok ([] : List Value).toArray { w with drawn := dr } := fun dr => by
              cases ad <;> simp [Builtin.firstCells, loadCells, loadCellsFrom]
            exact gF (P := P) (A := A) (μ := μ) (σ := σ) (σ0 := aj σ id none) (w := w) (o := o) (a := a) (n := n) (els := []) (olds := []) hu hu2 hni hk hi hz hzs hby (hrun _ hxe) hlen hnew hrow hf0 hnilrow rfl (by simpa [dN] using hl) hs hn m' hd (fun hroom => by
              have h0 : ys = [] := List.eq_nil_of_length_eq_zero (by omega)
              subst h0
              have hnews : news = [] := List.eq_nil_of_length_eq_zero (by rw [hrow.1]; simp)
              subst hnews
              rcases fR (P := P) (w := w) hu hu2 hni hk hi hz hby o.type ad 0 0 0 (a.eval q) [] [] hlen hnew hf0 (by omega) with ⟨_, hw⟩ | ⟨hw, _⟩
              · have := hrun _ hxe _ (hw w (by cases ad <;> simp [storeCells]))
                exact (jw (hs.drop hd) hn m' k' (by simpa using this)).ofDrop hd
              · omega)
          · have hcases : (∃ ad, ux = .slice ad 0 0 ∧ els = []) ∨ ∃ cap, ux = .slice (some ⟨b, 0, none⟩) els.length cap ∧ els.length ≤ cap ∧ cap ≤ maxLen ∧ eK w b (cap * ah k') := by
              generalize hll : els.length = ll at hx
              cases hx with
              | loc0 => exact .inl ⟨_, rfl, List.eq_nil_of_length_eq_zero hll⟩
              | loc _ _ _ b' k'' cap g1 g2 g3 g4 =>
                rw [h1] at g1; cases g1
                refine .inr ⟨cap, by simp, g2, g3, by simpa using g4⟩
            rcases hcases with ⟨ad, rfl, rfl⟩ | ⟨cap, rfl, hcap, hmax, hfit⟩
            · have hf0 : ∀ dr, (Builtin.firstCells (ah k') 0 (.slice ad 0 0)).run P { w with drawn := dr } = .ok ([] : List Value).toArray { w with drawn := dr } := fun dr => by
                cases ad <;> simp [Builtin.firstCells, loadCells, loadCellsFrom]
              exact gF (P := P) (A := A) (μ := μ) (σ := σ) (σ0 := aj σ id none) (w := w) (o := o) (a := a) (n := n) (els := []) (olds := []) hu hu2 hni hk hi hz hzs hby (hrun _ hxe) hlen hnew hrow hf0 hnilrow rfl (by simpa [dN] using hl) hs hn m' hd (fun hroom => by
                have h0 : ys = [] := List.eq_nil_of_length_eq_zero (by omega)
                subst h0
                have hnews : news = [] := List.eq_nil_of_length_eq_zero (by rw [hrow.1]; simp)
                subst hnews
                rcases fR (P := P) (w := w) hu hu2 hni hk hi hz hby o.type ad 0 0 0 (a.eval q) [] [] hlen hnew hf0 (by omega) with ⟨_, hw⟩ | ⟨hw, _⟩
                · have := hrun _ hxe _ (hw w (by cases ad <;> simp [storeCells]))
                  exact (jw (hs.drop hd) hn m' k' (by simpa using this)).ofDrop hd
                · omega)
            · have horow := ju (O := ak A μ σ) (w := w) (k := k') (ys := els) hpos (fun i j => cc.getD (i * ah k' + j) Go.undef) (fun i d hd => (h5 i d hd).1)
                (fun i d j x hd hx => by obtain ⟨v, hv, ho, hr⟩ := (h5 i d hd).2 j x hx; simpa [hv] using ho) (fun i d j x hd hx => by obtain ⟨v, hv, ho, hr⟩ := (h5 i d hd).2 j x hx; simpa [hv] using hr)
              have hold : ∀ dr, (Builtin.firstCells (ah k') els.length (.slice (some ⟨b, 0, none⟩) els.length cap)).run P { w with drawn := dr } = .ok ((List.range (els.length * ah k')).map fun q => (fun i j => cc.getD (i * ah k' + j) Go.undef) (q / ah k') (q % ah k')).toArray { w with drawn := dr } := by
                intro dr
                simp only [Builtin.firstCells]
                exact jv hpos b 0 (fun i j => cc.getD (i * ah k' + j) Go.undef) (fun i d hd => (h5 i d hd).1) (fun i d j x hd hx => by
                  obtain ⟨v, hv, ho, hr⟩ := (h5 i d hd).2 j x hx
                  rw [cD h2, Nat.zero_add, hv]; simp [hv]) dr
              exact gF (P := P) (A := A) (μ := μ) (σ := σ) (σ0 := aj σ id none) (w := w) (o := o) (a := a) (n := n) hu hu2 hni hk hi hz hzs hby (hrun _ hxe) hlen hnew hrow hold horow rfl (by simpa [dN] using hl) hs hn m' hd (fun hroom => by
                refine pU hpos hid h1 hs hn hrow hfit hmax hroom fun w' hw' => ?_
                rcases fR (P := P) (w := w) hu hu2 hni hk hi hz hby o.type (some ⟨b, 0, none⟩) els.length cap ys.length (a.eval q) _ news hlen hnew hold (by simpa [dN] using hl) with ⟨_, hw⟩ | ⟨hw, _⟩
                · have := hrun _ hxe _ (hw w' hw')
                  simpa using this
                · omega)
        · cases hv
      · cases hv
    · cases hv
theorem mM {kb : Option Nat} {els els' : List D} {pl : Option aJ} {b o : Nat} (h : aK.ownsAt (.lst true kb els) pl b o) : aK.ownsAt (.lst true kb els') pl b o := by
  cases pl with
  | none => exact h
  | some p => cases p <;> exact h
theorem kC {id : Nat} {kb : Option Nat} {els els' : List D} (hid : σ id = some (.lst true kb els)) : ak A μ (aj σ id (some (.lst true kb els'))) = ak A μ σ := by
  funext b o
  apply propext
  unfold ak bJ
  refine or_congr ⟨?_, ?_⟩ Iff.rfl
  · rintro ⟨j, blk, h1, h2⟩
    by_cases e : j = id
    · subst e
      rw [aL] at h1; cases h1
      exact ⟨j, _, hid, mM h2⟩
    · rw [aG _ _ e] at h1; exact ⟨j, blk, h1, h2⟩
  · rintro ⟨j, blk, h1, h2⟩
    by_cases e : j = id
    · subst e
      rw [hid] at h1; cases h1
      exact ⟨j, _, aL _ _ _, mM h2⟩
    · exact ⟨j, blk, by rw [aG _ _ e]; exact h1, h2⟩
theorem aA.cutL {id : Nat} {kb : Option Nat} {els els' : List D} (hid : σ id = some (.lst true kb els)) : aA μ σ w μ (aj σ id (some (.lst true kb els'))) w where
  os := rfl
  tape := rfl
  output := rfl
  size := Nat.le_refl _
  block _ _ _ := rfl
  cells _ c _ _ hc := ⟨c, hc, rfl, fun _ _ => rfl⟩
  own b o ho := by
    have : ak (fun _ _ => False) μ (aj σ id (some (.lst true kb els'))) b o := .inl ho
    rw [kC hid] at this
    exact .inl (this.elim (fun h => h) (fun h => h.elim))
  ownB b ho := by
    obtain ⟨j, blk, k, h1, h2⟩ := ho
    by_cases e : j = id
    · subst e; exact .inl ⟨j, _, k, hid, h2⟩
    · rw [aG _ _ e] at h1; exact .inl ⟨j, blk, k, h1, h2⟩
  grow _ _ h := h
theorem aB.cutL (hs : aB A μ σ w) {id : Nat} {kb : Option Nat} {els : List D} (hid : σ id = some (.lst true kb els)) (len : Nat) : aB A μ (aj σ id (some (.lst true kb (els.take len)))) w := by
  refine hs.update (aA.cutL hid) id (fun j x hj h => by rwa [aG _ _ hj] at h) (fun j hj => rfl) (fun x hx => ?_) (fun _ _ _ _ _ _ _ => rfl) (fun b k' x hx hp => ⟨fun o => hs.amb id _ b k' hid hp o, fun j y k'' hj hy hp' => hj ?_⟩)
  · simp only [aL, Option.some.injEq] at hx
    subst hx
    rw [kC hid]
    rcases hs.blks id _ hid with ⟨h1, h2⟩ | ⟨b, c, ty, fr, h1, h2, h3, h4, h5⟩
    · exact .inl ⟨h1, by simp [h2]⟩
    · refine .inr ⟨b, c, ty, fr, h1, h2, h3, Nat.le_trans (Nat.mul_le_mul_right _ (by simp; omega)) h4, fun i d hd => ?_⟩
      rw [List.getElem?_take] at hd
      split at hd
      · exact h5 i d hd
      · cases hd
  · rw [aG _ _ hj] at hy
    exact hs.inj j id y _ b k'' k' hy hid hp' hp
theorem pV {id : Nat} {kb : Option Nat} {els els' : List D} (hid : σ id = some (.lst true kb els)) (h : aZ P A μ (aj σ id (some (.lst true kb els'))) w o a v σ' n n') : aZ P A μ σ w o a v σ' n n' := by
  obtain ⟨nx, cv, w', μ', h1, h2, h3, h4, h5, h6⟩ := h
  exact ⟨nx, cv, w', μ', h1, h2, h3, h4, (aA.cutL hid).trans h5, h6⟩
end
end Go.AM
