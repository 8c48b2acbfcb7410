import Derived.Test.YtfjelgjfbjjopaaAmN4
set_option linter.unusedVariables false
set_option linter.unusedSectionVars false
set_option linter.unusedSimpArgs false
namespace Go.AM
open Go Go.RowKit
variable [Glob]
section
variable {P : Program} {N na : Nat} {A : Nat → Nat → Prop} {μ μ' : Nat → Option aJ} {T T' : Nat → V} {σ σ' : au} {w w' : World} {o : Oper} {a : Act} {n n' : Nat} {v : V} {e : AX → V}
theorem sA {k : Option Nat} (hpos : 0 < ah k) {id b : Nat} {m : Bool} {els ys : List D} {news : List Value} {cap off len : Nat} (hol : off + len = els.length) (hid : σ id = some (.lst m k els)) (hp : μ id = some (.at b k)) (hs : aB A μ σ w) (hn : μ n = none)
    (hrow : da (ak A μ σ) w k ys news) (hfit : eK w b ((off + cap) * ah k)) (hmax : cap ≤ maxLen) (hle : len + ys.length ≤ cap)
    (hrun : ∀ w', (storeCells ((⟨b, 0, none⟩ : Addr).add (els.length * ah k)) news).run P w = .ok () w' → (execOp a.eval o).run P w = .ok (.value (.slice (some ⟨b, off * ah k, none⟩) (len + ys.length) cap)) w') :
    aZ P A μ σ w o a (.loc n off (len + ys.length)) (aj (aj σ id none) n (some (.lst m k (els ++ ys)))) n (n + 1) := by
  rcases hs.blks id _ hid with ⟨h1, _⟩ | ⟨b', c, ty, fr, h1, h2, h3, h4, h5⟩
  · rw [h1] at hp; cases hp
  · rw [h1] at hp; cases hp
    obtain ⟨c0, ty0, fr0, hc0, hfit⟩ := hfit
    rw [h2] at hc0; cases hc0
    have hmul : (els.length + ys.length) * ah k ≤ (off + cap) * ah k := Nat.mul_le_mul_right _ (by omega)
    rw [Nat.add_mul, ← hrow.1] at hmul
    have hst := iv (P := P) b (els.length * ah k) ty fr news 0 c w h2 h3 (by omega) hrow.2.1
    simp only [Nat.add_zero] at hst
    have hr := hrun _ (by rw [Addr.add_lit, Nat.zero_add]; exact hst)
    have hszc : (c.toList.take (els.length * ah k) ++ news ++ c.toList.drop (els.length * ah k + news.length)).toArray.size = c.size := by simp; omega
    have g := aA.write (blk' := .lst m k (els ++ ys)) (c' := (c.toList.take (els.length * ah k) ++ news ++ c.toList.drop (els.length * ah k + news.length)).toArray) hs hid h1 h2 hszc
      (fun o' ho' => by
        have hlt : o' < els.length * ah k := by
          cases m with
          | true => exact (ho' rfl).elim
          | false =>
            rcases Nat.lt_or_ge o' (els.length * ah k) with h | h
            · exact h
            · exact (ho' ⟨rfl, h⟩).elim
        rw [List.getElem?_toArray, List.append_assoc, List.getElem?_append_left (by simp; omega), List.getElem?_take, if_pos hlt]; simp)
      (fun o' ho' => by
        cases m with
        | true => exact ho'
        | false =>
          obtain ⟨_, h⟩ := ho'
          refine ⟨rfl, ?_⟩
          rw [List.length_append, Nat.add_mul] at h
          omega)
    have hs' := hs.write hid h1 h2 g (.inr ⟨b, _, ty, fr, h1, dY h2, by show fr.1 = fr.2 ∨ _ ≤ fr.1; rw [hszc]; exact h3, by
      rw [hszc, List.length_append, Nat.add_mul, ← hrow.1]; omega, fun i' d' hd' => by
        have horow : da (ak A μ (aj σ id (some (.lst m k (els ++ ys))))) (bY w b (c.toList.take (els.length * ah k) ++ news ++ c.toList.drop (els.length * ah k + news.length)).toArray) k els (c.toList.take (els.length * ah k)) := by
          refine ⟨by simp; omega, fun v hv => ?_, fun i d hd => ⟨(h5 i d hd).1, fun j x hx => ?_⟩⟩
          · obtain ⟨q, hq, rfl⟩ := List.getElem_of_mem hv
            have hq' : q < els.length * ah k := by simp at hq; omega
            have hqi : q / ah k < els.length := by rw [Nat.div_lt_iff_lt_mul hpos]; exact hq'
            obtain ⟨s1, s2⟩ := h5 _ _ (bt hqi)
            have hqj : q % ah k < (els[q / ah k]).cells.length := by rw [ck s1]; exact Nat.mod_lt _ hpos
            obtain ⟨v, hv, ho, _⟩ := s2 _ _ (bt hqj)
            have e : q / ah k * ah k + q % ah k = q := by have := Nat.div_add_mod q (ah k); rw [Nat.mul_comm] at this; omega
            rw [e] at hv
            have hqc : q < c.size := by omega
            rw [Array.getElem?_eq_getElem hqc] at hv
            have : c.toList.take (els.length * ah k) = c.toList.take (els.length * ah k) := rfl
            simp only [List.getElem_take, Array.getElem_toList]
            rw [aH hv]; exact ho
          · obtain ⟨v, hv, ho, hr⟩ := (h5 i d hd).2 j x hx
            have hi : i < els.length := (List.getElem?_eq_some_iff.1 hd).1
            have hj : j < ah k := by have := (List.getElem?_eq_some_iff.1 hx).1; rw [ck (h5 i d hd).1] at this; exact this
            have hlt : i * ah k + j < els.length * ah k := by
              have : (i + 1) * ah k ≤ els.length * ah k := Nat.mul_le_mul_right _ hi
              rw [Nat.add_mul] at this; omega
            exact ⟨v, by rw [List.getElem?_take, if_pos hlt]; simpa using hv, ho, g.keepD hs.alt hr⟩
        exact kz horow (hrow.keep g hs.alt) i' d' hd'⟩)
    obtain ⟨g2, hs2⟩ := mJ hs' (id := id) (n := n) (aL _ _ _) h1 hn
    have e1 : aj (aj (aj σ id (some (.lst m k (els ++ ys)))) id none) n (some (.lst m k (els ++ ys))) = aj (aj σ id none) n (some (.lst m k (els ++ ys))) := by
      funext q; simp only [aj]; by_cases c1 : q = n <;> by_cases c2 : q = id <;> simp [c1, c2]
    rw [e1] at g2 hs2
    refine ⟨_, _, _, _, hr, .inl rfl, ?_, hs2, g.trans g2, fun j hj => ?_⟩
    · exact aw.loc (μ := aj μ n (some (.at b k))) (own := ak A (aj μ n (some (.at b k))) (aj (aj σ id none) n (some (.lst m k (els ++ ys))))) (w := bY w b (c.toList.take (els.length * ah k) ++ news ++ c.toList.drop (els.length * ah k + news.length)).toArray) n off (len + ys.length) b k cap (aL _ _ _) hle hmax
        ⟨_, ty, fr, dY h2, by rw [hszc]; exact hfit⟩
    · by_cases e : j = n
      · exact .inr (by omega)
      · rw [aG _ _ e] at hj; exact .inl hj
theorem sB {k : Option Nat} {x y : AX} {c : Call} {el : TypeId} {i : TypeInfo} {z : Value} {u2 : TypeDesc} (ho : o.op = .call c) (hb : c.callee = .builtin .append) (hc : bM [x, y] c.args.toList = true) (ht2 : c.argTypes.size = 2)
    (hu : (c.argTypes[0]?).bind P.underlying = some (.slice el)) (hu2 : (c.argTypes[1]?).bind P.underlying = some u2) (hni : (∃ q, u2 = .slice q) ∨ u2 = .string) (hk : bp P el = some k) (hi : P.info? el = some i) (hz : i.zero = some z) (hzs : z.cells.size = ah k) (hby : P.bytesOf el ≤ 4096)
    (he : cx μ (ak A μ σ) w e a) (hs : aB A μ σ w) (hn : μ n = none) {id off len : Nat} {m : Bool} {els ys : List D} (hx : e x = .loc id off len) (hid : σ id = some (.lst m k els)) (hol : off + len = els.length) (hys : dV σ k (e y) = some ys) (hl : len + ys.length ≤ dN) :
    ∃ g : List D, aZ P A μ σ w o a (.loc n g.length (len + ys.length)) (aj (aj σ id none) n (some (.lst m k (g ++ (els.drop off ++ ys))))) n (n + 1) := by
  by_cases h0 : off = 0
  · subst h0
    refine ⟨[], ?_⟩
    have hl2 : len = els.length := by omega
    have := kB (m := m) (v := .loc n 0 (els.length + ys.length)) (σ' := aj (aj σ id none) n (some (.lst m k (els ++ ys)))) (n' := n + 1) ho hb hc ht2 hu hu2 hni hk hi hz hzs hby he hs hn (by
      unfold cX
      rw [hys, hx]
      simp only [hid]
      rw [if_pos ⟨trivial, hl2, by rw [← hl2]; exact hl⟩])
    rw [hl2]; simpa using this
  obtain ⟨_, hsz, _, _, hpos⟩ := cH (w := w) hk
  obtain ⟨p, q, hargs, hxp, hyq⟩ := jp hc
  obtain ⟨t, t2, hts⟩ := ml ht2
  have hxv := he x p hxp
  have hy := he y q hyq
  rw [hts] at hu hu2
  simp at hu hu2
  have hsrc : (∃ s, e y = .d (.str s) ∧ k = none ∧ ys = dC s) ∨ (e y = .d .nils ∧ ys = []) ∨ (bX σ (e y) = some k ∧ cW σ (e y) = some ys) := by
    unfold dV at hys
    split at hys
    · rename_i s hs'
      split at hys
      · rename_i hk0; cases hys; exact .inl ⟨s, hs', hk0, rfl⟩
      · cases hys
    · exact .inr (kA hys)
  obtain ⟨news, hlen, hrow, hnew⟩ := mL (P := P) hpos hs hy hsrc
  generalize hxe : a.eval p = ux at hxv
  have hrun := fun (ux' : Value) (h : a.eval p = ux') => mK (P := P) (w := w) ho hb hargs hts h rfl
  rw [hx] at hxv
  have hd : ∀ j blk, aj σ id none j = some blk → σ j = some blk := by
    intro j blk h
    by_cases e : j = id
    · subst e; simp [aL] at h
    · rwa [aG _ _ e] at h
  have hlim : len + ys.length ≤ 4294967296 := hl
  rcases hs.blks id _ hid with ⟨h1, h2⟩ | ⟨b, cc, ty, fr, h1, h2, h3, h4, h5⟩
  · subst h2; simp at hol; omega
  · have hcases : (∃ ad, ux = .slice ad 0 0 ∧ len = 0) ∨ ∃ cap, ux = .slice (some ⟨b, off * ah k, none⟩) len cap ∧ len ≤ cap ∧ cap ≤ maxLen ∧ eK w b ((off + cap) * ah k) := by
      generalize hll : len = ll at hxv
      cases hxv with
      | loc0 => exact .inl ⟨_, rfl, rfl⟩
      | loc _ _ _ b' k'' cap g1 g2 g3 g4 =>
        rw [h1] at g1; cases g1
        exact .inr ⟨cap, rfl, g2, g3, g4⟩
    rcases hcases with ⟨ad, rfl, rfl⟩ | ⟨cap, rfl, hcap, hmax, hfit⟩
    · -- nothing of it is left
      refine ⟨[], ?_⟩
      have e0 : els.drop off = [] := List.drop_eq_nil_of_le (by omega)
      rw [e0]
      have hnilrow : da (ak A μ σ) w k [] [] := ⟨by simp, by simp, fun i d h => by simp at h⟩
      have hf0 : ∀ dr, (Builtin.firstCells (ah k) 0 (.slice ad 0 0)).run P { w with drawn := dr } = .ok ([] : List Value).toArray { w with drawn := dr } := fun dr => by
        cases ad <;> simp [Builtin.firstCells, loadCells, loadCellsFrom]
      exact gF (P := P) (A := A) (μ := μ) (σ := σ) (σ0 := aj σ id none) (w := w) (o := o) (a := a) (n := n) (els := []) (olds := []) hu hu2 hni hk hi hz hzs hby (hrun _ hxe) hlen hnew hrow hf0 hnilrow rfl (by simp; omega) hs hn m hd (fun hroom => by
        have h0 : ys = [] := List.eq_nil_of_length_eq_zero (by omega)
        subst h0
        have hnews : news = [] := List.eq_nil_of_length_eq_zero (by rw [hrow.1]; simp)
        subst hnews
        rcases fR (P := P) (w := w) hu hu2 hni hk hi hz hby o.type ad 0 0 0 (a.eval q) [] [] hlen hnew hf0 (by omega) with ⟨_, hw⟩ | ⟨hw, _⟩
        · have := hrun _ hxe _ (hw w (by cases ad <;> simp [storeCells]))
          exact (jw (hs.drop hd) hn m k (by simpa using this)).ofDrop hd
        · omega)
    · have gt : ∀ (i : Nat), (els.drop off)[i]? = els[off + i]? := fun i => by rw [List.getElem?_drop]
      have horow := ju (O := ak A μ σ) (w := w) (k := k) (ys := els.drop off) hpos (fun i j => cc.getD ((off + i) * ah k + j) Go.undef) (fun i d hd => (h5 _ d (by rw [← gt]; exact hd)).1)
        (fun i d j x hd hx => by obtain ⟨v, hv, ho, hr⟩ := (h5 _ d (by rw [← gt]; exact hd)).2 j x hx; simpa [hv] using ho) (fun i d j x hd hx => by obtain ⟨v, hv, ho, hr⟩ := (h5 _ d (by rw [← gt]; exact hd)).2 j x hx; simpa [hv] using hr)
      have hlen2 : (els.drop off).length = len := by simp; omega
      have hold : ∀ dr, (Builtin.firstCells (ah k) len (.slice (some ⟨b, off * ah k, none⟩) len cap)).run P { w with drawn := dr } = .ok ((List.range ((els.drop off).length * ah k)).map fun q => (fun i j => cc.getD ((off + i) * ah k + j) Go.undef) (q / ah k) (q % ah k)).toArray { w with drawn := dr } := by
        intro dr
        simp only [Builtin.firstCells]
        have := jv (P := P) hpos b (off * ah k) (fun i j => cc.getD ((off + i) * ah k + j) Go.undef) (ys := els.drop off) (w := w) (fun i d hd => (h5 _ d (by rw [← gt]; exact hd)).1) (fun i d j x hd hx => by
          obtain ⟨v, hv, ho, hr⟩ := (h5 _ d (by rw [← gt]; exact hd)).2 j x hx
          rw [cD h2, ← Nat.add_mul, hv]; simp [hv]) dr
        rw [hlen2] at this ⊢
        exact this
      by_cases hroom : len + ys.length ≤ cap
      · refine ⟨els.take off, ?_⟩
        have e1 : (els.take off).length = off := by simp; omega
        have e2 : els.take off ++ (els.drop off ++ ys) = els ++ ys := by rw [← List.append_assoc, List.take_append_drop]
        rw [e1, e2]
        refine sA hpos hol hid h1 hs hn hrow hfit hmax hroom fun w' hw' => ?_
        rcases fR (P := P) (w := w) hu hu2 hni hk hi hz hby o.type (some ⟨b, off * ah k, none⟩) len cap ys.length (a.eval q) _ news hlen hnew hold (by omega) with ⟨_, hw⟩ | ⟨hw, _⟩
        · have e3 : ((⟨b, off * ah k, none⟩ : Addr).add (len * ah k)) = (⟨b, 0, none⟩ : Addr).add (els.length * ah k) := by
            rw [Addr.add_lit, Addr.add_lit, Nat.zero_add, ← Nat.add_mul, hol]
          have := hrun _ hxe _ (hw w' (by simp only; rw [e3]; exact hw'))
          simpa using this
        · omega
      · refine ⟨[], ?_⟩
        have := gF (P := P) (A := A) (μ := μ) (σ := σ) (σ0 := aj σ id none) (w := w) (o := o) (a := a) (n := n) (els := els.drop off) hu hu2 hni hk hi hz hzs hby (hrun _ hxe) hlen hnew hrow hold horow hlen2.symm (by rw [hlen2]; omega) hs hn m hd (fun h => (hroom h).elim)
        rw [hlen2] at this
        exact this
def jU (i : aQ) (s : S) (K : S → Prop) : Prop :=
  i.guard = none ∧ ∃ k x y m id off len m' els ys, i.op = .append k x y m ∧ aD s.T x = .loc id off len ∧ s.σ id = some (.lst m' k els) ∧ off + len = els.length ∧ dV s.σ k (aD s.T y) = some ys ∧ len + ys.length ≤ dN ∧
    ∀ g : List D, K ⟨aO s.T i.dst (.loc s.n g.length (len + ys.length)), aj (aj s.σ id none) s.n (some (.lst m' k (g ++ (els.drop off ++ ys)))), s.n + 1⟩
def gY (P : Program) : List aQ → S → (S → Prop) → Prop
  | [], s, K => K s
  | i :: l, s, K => aV P [i] s (fun s' => gY P l s' K) ∨ jU i s (fun s' => gY P l s' K)
theorem jU.sound {ops : Array Oper} {Q : Exit → Act → World → Prop} {K : Act → World → Prop} {i : aQ} {s : S} {L : S → Prop} (hc : fN P N ops i o = true) (hsim : ca N A μ s.T s.σ a w) (hfr : ∀ id, s.n ≤ id → μ id = none)
    (h : jU i s L) (hk : ∀ s', L s' → s.n ≤ s'.n → gH P N A μ s.σ w s'.T s'.σ s.n s'.n K) : if Region.wanted o (yielded ops a.tmps) then o.wp P a w K Q else K (a.put o.dst Go.undef) w := by
  obtain ⟨hgn, k, x, y, m, id, off, len, m', els, ys, hop, hx, hid, hol, hys, hl, hK⟩ := h
  simp only [fN, Bool.and_eq_true, beq_iff_eq] at hc
  obtain ⟨⟨⟨hdst, hdN⟩, hg⟩, hch⟩ := hc
  have hd : ∀ d, o.dst = some d → d < N := by
    intro d hd
    rw [← hdst] at hd
    rw [hd] at hdN
    simpa using hdN
  rw [hgn] at hg
  cases hgo : o.guard with
  | some q => rw [hgo] at hg; simp [gw] at hg
  | none =>
    simp only [Region.wanted, hgo, if_true]
    rw [hop] at hch
    generalize hoo : o.op = oo at hch
    unfold eu at hch
    cases oo <;> simp only [Bool.false_eq_true] at hch
    rename_i c
    split at hch
    · rename_i hb
      simp only [Bool.and_eq_true, beq_iff_eq] at hch
      obtain ⟨⟨h1, h2⟩, hch⟩ := hch
      split at hch
      · rename_i el u hu hu2
        simp only [Bool.and_eq_true, decide_eq_true_eq] at hch
        obtain ⟨⟨⟨hni, hkk⟩, hby⟩, hch⟩ := hch
        split at hch
        · rename_i i' hi
          split at hch
          · rename_i z hz
            simp only [beq_iff_eq] at hch
            obtain ⟨g, nx, cv, w', μ', hr, hnx, hv, hs', hg', hdom⟩ := sB (P := P) (n := s.n) hoo hb h1 h2 hu hu2 (by
              split at hni
              · exact .inl ⟨_, rfl⟩
              · exact .inr rfl
              · cases hni) (cR hkk) hi hz hch hby hsim.ev hsim.store (hfr _ (Nat.le_refl _)) hx hid hol hys hl
            have hk := hk _ (hK g) (Nat.le_succ _)
            unfold Oper.wp
            rw [hr]
            rw [hdst] at hk
            rcases hnx with rfl | ⟨rfl, rfl⟩
            · exact hk _ _ μ' (hsim.put hg' hs' hv hd) hg' hdom
            · exact hk _ _ μ' (hsim.put hg' hs' hv hd) hg' hdom
          · cases hch
        · cases hch
      · cases hch
    · cases hch
theorem gY.sound {ops : Array Oper} {Q : Exit → Act → World → Prop} {L : S → Prop} {ak : List aQ} (hc : cZ P N ops ak ops.toList = true) :
    ∀ (suf : List aQ) (k : Nat) (s : S) (μ : Nat → Option aJ) (a : Act) (w : World), ak.drop k = suf → gY P suf s L → ca N A μ s.T s.σ a w → (∀ id, s.n ≤ id → μ id = none) →
      (∀ s' μ' a' w', L s' → ca N A μ' s'.T s'.σ a' w' → (∀ id, s'.n ≤ id → μ' id = none) → aA μ s.σ w μ' s'.σ w' → (∀ id, μ' id ≠ none → μ id ≠ none ∨ s.n ≤ id) → s.n ≤ s'.n → Q .normal a' w') →
      wpOps P ops Q (List.range' k suf.length) a w
  | [], k, s, μ, a, w, hf, h, hsim, hfr, hk => hk s μ a w h hsim hfr (aA.refl _ _ _) (fun _ h => .inl h) (Nat.le_refl _)
  | i :: suf, k, s, μ, a, w, hf, h, hsim, hfr, hk => by
    obtain ⟨hl, hcs⟩ := fV hc
    have hkl : k < ak.length := by
      rcases Nat.lt_or_ge k ak.length with h | h
      · exact h
      · rw [List.drop_eq_nil_of_le h] at hf; cases hf
    have hi : ak[k]? = some i := by
      have := List.drop_eq_getElem_cons hkl
      rw [this] at hf
      rw [bt hkl, (List.cons.inj hf).1]
    have hf' : ak.drop (k + 1) = suf := by
      have := List.drop_eq_getElem_cons hkl
      rw [this] at hf
      exact (List.cons.inj hf).2
    have hlt : k < ops.size := by rw [hl] at hkl; simpa using hkl
    have ho : ops[k]? = some ops[k] := by simp [hlt]
    simp only [List.length_cons, List.range'_succ]
    rw [wpOps_cons]
    have rest : ∀ (s1 : S), gY P suf s1 L → s.n ≤ s1.n → gH P N A μ s.σ w s1.T s1.σ s.n s1.n (fun a w => wpOps P ops Q (List.range' (k + 1) suf.length) a w) := by
      intro s1 hr hle a1 w1 μ1 hsim1 hg1 hd1
      have hfr1 : ∀ id, s1.n ≤ id → μ1 id = none := by
        intro id hid
        cases hm : μ1 id with
        | none => rfl
        | some p =>
          rcases hd1 id (by rw [hm]; simp) with h | h
          · exact (h (hfr id (Nat.le_trans hle hid))).elim
          · omega
      refine gY.sound hc suf (k + 1) s1 μ1 a1 w1 hf' hr hsim1 hfr1 fun s' μ' a' w' h1 h2 h3 h4 h5 h6 => ?_
      refine hk s' μ' a' w' h1 h2 h3 (hg1.trans h4) (fun id hid => ?_) (Nat.le_trans hle h6)
      rcases h5 id hid with h | h
      · rcases hd1 id h with h | h
        · exact .inl h
        · exact .inr h.1
      · exact .inr (Nat.le_trans hle h)
    unfold wpOp
    rw [ho]
    simp only
    have fin : (if Region.wanted ops[k] (yielded ops a.tmps) then ops[k].wp P a w (fun a w => wpOps P ops Q (List.range' (k + 1) suf.length) a w) Q else (fun a w => wpOps P ops Q (List.range' (k + 1) suf.length) a w) (a.put ops[k].dst Go.undef) w) → wpOp P ops Q k (fun a w => wpOps P ops Q (List.range' (k + 1) suf.length) a w) a w := by
      intro this
      unfold wpOp
      rw [ho]
      simp only
      split
      · rename_i hw; rw [if_pos hw] at this; exact .inl this
      · rename_i hw; rw [if_neg hw] at this; exact this
    have fin := fin
    unfold wpOp at fin
    rw [ho] at fin
    refine fin ?_
    rcases h with h | h
    · obtain ⟨ν, T', σ', e1, e2, e3, e4⟩ := aV.chain [i] [] s _ h
      obtain ⟨iq, T1, σ1, q1, q2, q3⟩ := e3
      simp at q1
      subst q1
      obtain ⟨rfl, rfl⟩ := q3
      have e0 : ν 0 = s.n := e1 0 (Nat.zero_le _)
      simp only [List.length_nil, List.length_singleton, Nat.zero_add] at q2 e4
      have hst : aU P i s.T s.σ s.n T1 σ1 (ν 1) := by rw [← e0]; exact q2
      exact aU.sound (hcs k i ops[k] hi (by simp)) hsim (fun id hid _ => hfr id hid) hst (rest ⟨T1, σ1, ν 1⟩ e4 (by have := e2 0; simp only at this ⊢; rw [e0] at this; exact this))
    · exact jU.sound (hcs k i ops[k] hi (by simp)) hsim hfr h fun s' h1 h2 => rest s' h1 h2
end
end Go.AM
