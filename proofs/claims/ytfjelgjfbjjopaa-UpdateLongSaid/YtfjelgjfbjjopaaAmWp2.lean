import Derived.Test.YtfjelgjfbjjopaaAmWp
set_option linter.unusedVariables false
set_option linter.unusedSectionVars false
set_option linter.unusedSimpArgs false
namespace Go.AM
open Go Go.RowKit
variable [Glob]
section
variable {P : Program} {N : Nat} {A : Nat → Nat → Prop} {μ : Nat → Option aJ} {T T' T1 T2 : Nat → V} {σ σ' σ1 σ2 : au} {w : World} {a : Act} {o : Oper} {n n' n1 n2 : Nat} {v : V} {e : AX → V} {i j : aQ}
inductive ex (ops : Array Oper) : Nat → Nat → Prop
  | one {j : Nat} {o : Oper} {e : Edge} : ops[j]? = some o → e ∈ o.after → Region.binds .any e = true → ex ops j e.on
  | more {j i : Nat} {o : Oper} {e : Edge} : ops[j]? = some o → e ∈ o.after → Region.binds .any e = true → ex ops e.on i → ex ops j i
theorem kP {ops : Array Oper} : ∀ (k j i : Nat), im ops k j i = true → ex ops j i
  | 0, _, _, h => by cases h
  | k + 1, j, i, h => by
    unfold im at h
    split at h
    · rename_i o ho
      obtain ⟨q, hq, hc⟩ := Array.any_eq_true.1 h
      simp only [Bool.and_eq_true, Bool.or_eq_true, beq_iff_eq] at hc
      obtain ⟨hb, hc | ⟨_, hc⟩⟩ := hc
      · subst hc; exact .one ho (Array.getElem_mem hq) hb
      · exact .more ho (Array.getElem_mem hq) hb (kP k _ _ hc)
    · cases h
theorem ex.out {ops : Array Oper} {rem : List Nat} (hcl : ∀ j, j ∉ rem → ∀ o, ops[j]? = some o → ∀ e ∈ o.after, Region.binds .any e = true → e.on ∉ rem) {j i : Nat} (h : ex ops j i) : j ∉ rem → i ∉ rem := by
  induction h with
  | one h1 h2 h3 => exact fun hj => hcl _ hj _ h1 _ h2 h3
  | more h1 h2 h3 _ ih => exact fun hj => ih (hcl _ hj _ h1 _ h2 h3)
theorem ex.ready {ops : Array Oper} {rem : List Nat} (hcl : ∀ j, j ∉ rem → ∀ o, ops[j]? = some o → ∀ e ∈ o.after, Region.binds .any e = true → e.on ∉ rem) {q i : Nat} {o : Oper} (ho : ops[q]? = some o) (hq : ∀ e ∈ o.after, Region.binds .any e = true → e.on ∉ rem) (h : ex ops q i) : i ∉ rem := by
  cases h with
  | one h1 h2 h3 => rw [ho] at h1; cases h1; exact hq _ h2 h3
  | more h1 h2 h3 h4 => rw [ho] at h1; cases h1; exact h4.out hcl (hq _ h2 h3)
theorem qx {l : List aQ} {ops : Array Oper} (h : io l ops = true) :
    (∀ (j : Nat) o, ops[j]? = some o → ∀ e ∈ o.after, Region.binds .any e = true → e.on < j) ∧
    ∀ (i j : Nat) a b o, i < j → l[i]? = some a → l[j]? = some b → ops[j]? = some o → ex ops j i ∨ fO a b = true := by
  unfold io at h
  simp only [Bool.and_eq_true] at h
  obtain ⟨h1, h2⟩ := h
  refine ⟨fun j o ho e he hb => ?_, fun i j a b o hij ha hb ho => ?_⟩
  · unfold jh at h1
    have hj : j < ops.size := (Array.getElem?_eq_some_iff.1 ho).1
    have := List.all_eq_true.1 h1 j (List.mem_range.2 hj)
    rw [ho] at this
    have := Array.all_eq_true_iff_forall_mem.1 this e he
    simpa [hb] using this
  · have hj : j < ops.size := (Array.getElem?_eq_some_iff.1 ho).1
    have := List.all_eq_true.1 h2 j (List.mem_range.2 hj)
    have := List.all_eq_true.1 this i (List.mem_range.2 hij)
    rw [ha, hb, ho] at this
    simp only [Bool.or_eq_true] at this
    rcases this with (this | this) | this
    · left
      unfold jg at this
      obtain ⟨q, hq, hc⟩ := Array.any_eq_true.1 this
      simp only [Bool.and_eq_true, beq_iff_eq] at hc
      obtain ⟨hb, hc⟩ := hc
      subst hc
      exact .one ho (Array.getElem_mem hq) hb
    · exact .inr this
    · exact .inl (kP _ _ _ this)
theorem ca.vld (h : ca N A μ T σ a w) (t : Nat) : eQ μ (T t) := ⟨_, _, _, h.tmps t⟩
theorem ca.fresh_store (h : ca N A μ T σ a w) {id : Nat} (hid : μ id = none) : σ id = none := Go.AM.pd h.store hid
theorem d5.cls0 {l : List aQ} {ν : Nat → Nat} : ∀ (r : List Nat) (T : Nat → V) (σ : au), d5 P l ν r T σ T' σ' → ∀ j ∈ r, ∀ ij, l[j]? = some ij → ij.op.cls = 0 → ν (j + 1) = ν j
  | [], _, _, _, j, hj, _, _, _ => by simp at hj
  | q :: r, T, σ, h, j, hj, ij, hl, hc => by
    obtain ⟨i, T1, σ1, h1, h2, h3⟩ := h
    rcases List.mem_cons.1 hj with rfl | hj
    · rw [h1] at hl; cases hl; exact (h2.cls0 hc).2.1
    · exact d5.cls0 r T1 σ1 h3 j hj ij hl hc
set_option maxHeartbeats 1000000 in
theorem qy {l : List aQ} {ops : Array Oper} {ν : Nat → Nat} {Q : Exit → Act → World → Prop} (hc : cZ P N ops l ops.toList = true) (hd : io l ops = true) (hν : ∀ k, ν k ≤ ν (k + 1)) (hz : ∀ (j : Nat) ij, l[j]? = some ij → ij.op.cls = 0 → ν (j + 1) = ν j) :
    ∀ (fuel : Nat) (rem : List Nat) (listed : Array Bool) (T : Nat → V) (σ : au) (a : Act) (w : World) (μ : Nat → Option aJ), rem.length = fuel → rem.Pairwise (· < ·) → (∀ j, j ∈ rem ↔ j < ops.size ∧ listed.getD j false = false) →
      listed.size = ops.size → d5 P l ν rem T σ T' σ' → ca N A μ T σ a w → (∀ j ∈ rem, ∀ id, ν j ≤ id → id < ν (j + 1) → μ id = none) → (∀ id, μ id ≠ none → id < ν 0 ∨ ∃ j, j < l.length ∧ j ∉ rem ∧ ν j ≤ id ∧ id < ν (j + 1)) →
      (∀ j, j ∉ rem → ∀ o, ops[j]? = some o → ∀ e ∈ o.after, Region.binds .any e = true → e.on ∉ rem) →
      (∀ a' w' μ', ca N A μ' T' σ' a' w' → aA μ σ w μ' σ' w' → (∀ id, μ' id ≠ none → μ id ≠ none ∨ ∃ j ∈ rem, ν j ≤ id ∧ id < ν (j + 1)) → Q .normal a' w') →
      wpAny P .any ops Q fuel listed a w := by
  obtain ⟨hback, hpair⟩ := qx hd
  obtain ⟨hlen, hchk⟩ := fV hc
  have hle : ∀ p q, p ≤ q → ν p ≤ ν q := by
    intro p q hpq
    induction q with
    | zero => have : p = 0 := by omega
              subst this; exact Nat.le_refl _
    | succ q ih =>
      rcases Nat.lt_or_ge p (q + 1) with h | h
      · exact Nat.le_trans (ih (by omega)) (hν _)
      · have : p = q + 1 := by omega
        subst this; exact Nat.le_refl _
  intro fuel
  induction fuel with
  | zero =>
    intro rem listed T σ a w μ hl hs hm hsz hch hsim hfr hdn hcl hk
    have : rem = [] := List.eq_nil_of_length_eq_zero hl
    subst this
    obtain ⟨rfl, rfl⟩ := hch
    refine ⟨?_, hk a w μ hsim (aA.refl _ _ _) fun id h => .inl h⟩
    cases hr : Region.ready .any ops listed with
    | nil => rfl
    | cons j r =>
      have hj : j ∈ Region.ready .any ops listed := by rw [hr]; simp
      obtain ⟨h0, o, ho, _⟩ := mem_ready.1 hj
      have hjlt : j < ops.size := (Array.getElem?_eq_some_iff.1 ho).1
      have : j ∈ ([] : List Nat) := (hm j).2 ⟨hjlt, by
        rw [Array.getD_eq_getD_getElem?] at h0 ⊢
        rw [Array.getElem?_eq_getElem (by omega)] at h0 ⊢
        simpa using h0⟩
      simp at this
  | succ fuel ih =>
    intro rem listed T σ a w μ hl hs hm hsz hch hsim hfr hdn hcl hk
    refine ⟨fun h0 => ?_, fun q hq => ?_⟩
    · -- something is always ready
      exfalso
      cases rem with
      | nil => simp at hl
      | cons h r =>
        obtain ⟨hh1, hh2⟩ := (hm h).1 (by simp)
        have ho : ops[h]? = some ops[h] := by simp [hh1]
        have : h ∈ Region.ready .any ops listed := by
          refine mem_ready.2 ⟨?_, ops[h], ho, fun e he hb => ?_⟩
          · rw [Array.getD_eq_getD_getElem?] at hh2 ⊢
            rw [Array.getElem?_eq_getElem (by omega)] at hh2 ⊢
            simpa using hh2
          · have hlt := hback h ops[h] ho e he hb
            cases hx : listed.getD e.on false with
            | true => rfl
            | false =>
              have hmem := (hm e.on).2 ⟨by omega, hx⟩
              rcases List.mem_cons.1 hmem with h' | h'
              · omega
              · have := (List.pairwise_cons.1 hs).1 e.on h'
                omega
        rw [h0] at this
        simp at this
    · obtain ⟨g0, oq, hoq, hall⟩ := mem_ready.1 hq
      have hqlt : q < ops.size := (Array.getElem?_eq_some_iff.1 hoq).1
      have hqr : q ∈ rem := (hm q).2 ⟨hqlt, by
        rw [Array.getD_eq_getD_getElem?] at g0 ⊢
        rw [Array.getElem?_eq_getElem (by omega)] at g0 ⊢
        simpa using g0⟩
      obtain ⟨r1, r2, rfl⟩ := List.append_of_mem hqr
      have hql : q < l.length := by rw [hlen]; simpa using hqlt
      have hlq : l[q]? = some l[q] := by simp [hql]
      obtain ⟨p1, p2, p3⟩ := List.pairwise_append.1 hs
      have hr1lt : ∀ j ∈ r1, j < q := fun j hj => p3 j hj q (by simp)
      have hind : ∀ j ∈ r1, ∀ ij, l[j]? = some ij → fO ij l[q] = true := by
        intro j hj ij hij
        rcases hpair j q ij l[q] oq (hr1lt j hj) hij hlq hoq with hord | h
        · refine (hord.ready hcl hoq (fun e he hb hmem => ?_) (by simp [hj])).elim
          have h1 := hall e he hb
          rw [((hm e.on).1 hmem).2] at h1
          cases h1
        · exact h
      obtain ⟨T1, σ1, hst, hch1⟩ := nt (μ := μ) hlq r1 r2 T σ hch hind (fun t _ => hsim.vld t) (fun j hj => hfr j (by simp [hj]))
        (fun _ id hid1 hid2 => hsim.fresh_store (hfr q (by simp) id hid1 hid2)) (fun j hj => hle _ _ (hr1lt j hj))
      have hnr : ∀ j, j ∉ r1 ++ q :: r2 → j ∉ r1 ++ r2 := by
        intro j h h'
        apply h
        rcases List.mem_append.1 h' with h' | h'
        · exact List.mem_append.2 (.inl h')
        · exact List.mem_append.2 (.inr (by simp [h']))
      refine kO hc hlq hsim (hfr q (by simp)) hst fun a1 w1 μ1 hsim1 hg1 hd1 => ?_
      refine ih (r1 ++ r2) (listed.setIfInBounds q true) T1 σ1 a1 w1 μ1 (by simp at hl ⊢; omega) ?_ (fun j => ?_) (by simpa using hsz) hch1 hsim1 (fun j hj id hid1 hid2 => ?_) (fun id h => ?_) (fun j hj o ho e he hb => ?_) fun a2 w2 μ2 hsim2 hg2 hd2 => ?_
      · rw [List.pairwise_append]
        refine ⟨p1, (List.pairwise_cons.1 p2).2, fun x hx y hy => p3 x hx y (by simp [hy])⟩
      · have hnq : q ∉ r1 ++ r2 := by
          intro h
          rcases List.mem_append.1 h with h | h
          · have := hr1lt q h; omega
          · have := (List.pairwise_cons.1 p2).1 q h; omega
        constructor
        · intro hj
          have hjq : j ≠ q := fun e => hnq (e ▸ hj)
          have : j ∈ r1 ++ q :: r2 := by
            rcases List.mem_append.1 hj with h | h
            · exact List.mem_append.2 (.inl h)
            · exact List.mem_append.2 (.inr (by simp [h]))
          obtain ⟨k1, k2⟩ := (hm j).1 this
          exact ⟨k1, by rw [getD_set_ne false (Ne.symm hjq)]; exact k2⟩
        · rintro ⟨k1, k2⟩
          have hjq : j ≠ q := by
            rintro rfl
            rw [Array.getD_eq_getD_getElem?] at k2
            simp [show j < listed.size by omega] at k2
          rw [getD_set_ne false (Ne.symm hjq)] at k2
          have := (hm j).2 ⟨k1, k2⟩
          rcases List.mem_append.1 this with h | h
          · exact List.mem_append.2 (.inl h)
          · rcases List.mem_cons.1 h with h | h
            · exact (hjq h).elim
            · exact List.mem_append.2 (.inr h)
      · have hjm : j ∈ r1 ++ q :: r2 := by
          rcases List.mem_append.1 hj with h | h
          · exact List.mem_append.2 (.inl h)
          · exact List.mem_append.2 (.inr (by simp [h]))
        cases hm1 : μ1 id with
        | none => rfl
        | some p =>
          rcases hd1 id (by rw [hm1]; simp) with h | h
          · exact (h (hfr j hjm id hid1 hid2)).elim
          · exfalso
            rcases List.mem_append.1 hj with h' | h'
            · have := hle (j + 1) q (hr1lt j h'); omega
            · have := hle (q + 1) j ((List.pairwise_cons.1 p2).1 j h'); omega
      · have hnq : q ∉ r1 ++ r2 := by
          intro h
          rcases List.mem_append.1 h with h | h
          · have := hr1lt q h; omega
          · have := (List.pairwise_cons.1 p2).1 q h; omega
        rcases hd1 id h with h | h
        · rcases hdn id h with h | ⟨j, h0, h1, h2⟩
          · exact .inl h
          · exact .inr ⟨j, h0, hnr j h1, h2⟩
        · exact .inr ⟨q, hql, hnq, h⟩
      · by_cases hjq : j = q
        · subst hjq
          have : o = oq := by rw [hoq] at ho; cases ho; rfl
          subst this
          have h1 := hall e he hb
          intro hmem
          have h2 := ((hm e.on).1 (by
            rcases List.mem_append.1 hmem with h' | h'
            · exact List.mem_append.2 (.inl h')
            · exact List.mem_append.2 (.inr (by simp [h'])))).2
          rw [h2] at h1
          cases h1
        · refine hnr _ (hcl j (fun h' => hj ?_) o ho e he hb)
          rcases List.mem_append.1 h' with h' | h'
          · exact List.mem_append.2 (.inl h')
          · rcases List.mem_cons.1 h' with h' | h'
            · exact (hjq h').elim
            · exact List.mem_append.2 (.inr h')
      · refine hk a2 w2 μ2 hsim2 (hg1.trans hg2) fun id h => ?_
        rcases hd2 id h with h | ⟨j, hj, h⟩
        · rcases hd1 id h with h | h
          · exact .inl h
          · exact .inr ⟨q, by simp, h⟩
        · refine .inr ⟨j, ?_, h⟩
          rcases List.mem_append.1 hj with h | h
          · exact List.mem_append.2 (.inl h)
          · exact List.mem_append.2 (.inr (by simp [h]))
def cb (N : Nat) (A : Nat → Nat → Prop) (μ : Nat → Option aJ) (s : S) (a : Act) (w : World) : Prop := ca N A μ s.T s.σ a w ∧ ∀ id, s.n ≤ id → μ id = none
def kQ : Exit → Prop
  | .normal | .ret | .exit _ | .panic _ => True
  | _ => False
def eR (μ : Nat → Option aJ) (n : Nat) (μ' : Nat → Option aJ) (n' : Nat) : Prop := n ≤ n' ∧ ∀ id, μ' id ≠ none → μ id ≠ none ∨ n ≤ id
theorem eR.refl (μ : Nat → Option aJ) (n : Nat) : eR μ n μ n := ⟨Nat.le_refl _, fun _ h => .inl h⟩
theorem eR.trans {μ μ1 μ2 : Nat → Option aJ} {n n1 n2 : Nat} (h : eR μ n μ1 n1) (k : eR μ1 n1 μ2 n2) : eR μ n μ2 n2 :=
  ⟨Nat.le_trans h.1 k.1, fun id hi => (k.2 id hi).elim (fun h' => h.2 id h') (fun h' => .inr (Nat.le_trans h.1 h'))⟩
def qz (N : Nat) (A : Nat → Nat → Prop) (Q : Exit → S → Prop) (μ : Nat → Option aJ) (σ : au) (n : Nat) (w : World) : Exit → Act → World → Prop :=
  fun e a' w' => kQ e ∧ ∃ s' μ', Q e s' ∧ cb N A μ' s' a' w' ∧ aA μ σ w μ' s'.σ w' ∧ eR μ n μ' s'.n
def bv (P : Program) (N : Nat) (c : bk) (Q : Exit → S → Prop) (s : S) : Prop :=
  ∀ code, ct P N c code = true → ∀ A μ a w, cb N A μ s a w → code.wp P (qz N A Q μ s.σ s.n w) a w
theorem bv.mono {c : bk} {Q Q' : Exit → S → Prop} {s : S} (h : bv P N c Q s) (hq : ∀ e s, Q e s → Q' e s) : bv P N c Q' s :=
  fun code hc A μ a w hs => wp_mono (h code hc A μ a w hs) fun e a w ⟨h1, s', μ', h2, h3⟩ => ⟨h1, s', μ', hq _ _ h2, h3⟩
theorem bv.skip {Q : Exit → S → Prop} {s : S} (h : Q .normal s) : bv P N .skip Q s := by
  intro code hc A μ a w hs
  cases code <;> simp [ct] at hc
  exact wp_skip ⟨trivial, s, μ, h, hs, aA.refl _ _ _, eR.refl _ _⟩
theorem bv.ret {Q : Exit → S → Prop} {s : S} (h : Q .ret s) : bv P N .ret Q s := by
  intro code hc A μ a w hs
  cases code <;> simp [ct] at hc
  exact wp_ret ⟨trivial, s, μ, h, hs, aA.refl _ _ _, eR.refl _ _⟩
theorem bv.exit {Q : Exit → S → Prop} {s : S} {id : Nat} (h : Q (.exit id) s) : bv P N (.exit id) Q s := by
  intro code hc A μ a w hs
  cases code <;> simp [ct] at hc
  subst hc
  exact wp_exit ⟨trivial, s, μ, h, hs, aA.refl _ _ _, eR.refl _ _⟩
theorem bv.ops {Q : Exit → S → Prop} {s : S} {d : Bool} {l : List aQ} (h : aV P l s fun s' => Q .normal s') : bv P N (.ops d l) Q s := by
  intro code hc A μ a w ⟨hs, hfr⟩
  cases code <;> simp only [ct, Bool.false_eq_true] at hc
  rename_i id ops draw
  simp only [Bool.and_eq_true, beq_iff_eq, Bool.or_eq_true, Bool.not_eq_true'] at hc
  obtain ⟨⟨hdd, hcl⟩, hdr⟩ := hc
  obtain ⟨ν, T', σ', e1, e2, e3, e4⟩ := aV.chain l [] s _ h
  have hlen := (fV hcl).1
  have hls : l.length = ops.size := by simpa using hlen
  simp only [List.length_nil, List.nil_append, Nat.zero_add] at e3 e4
  have e0 : ν 0 = s.n := e1 0 (Nat.zero_le _)
  have hle : ∀ p q, p ≤ q → ν p ≤ ν q := by
    intro p q hpq
    induction q with
    | zero => have : p = 0 := by omega
              subst this; exact Nat.le_refl _
    | succ q ih =>
      rcases Nat.lt_or_ge p (q + 1) with h | h
      · exact Nat.le_trans (ih (by omega)) (e2 _)
      · have : p = q + 1 := by omega
        subst this; exact Nat.le_refl _
  cases draw with
  | false =>
    refine wp_region ?_
    rw [List.range_eq_range', ← hls]
    refine nv hcl e2 l.length 0 s.T s.σ a w μ e3 hs (fun id hid1 => hfr id (by omega)) fun a' w' μ' hsim hg hdom => ?_
    refine ⟨trivial, ⟨T', σ', ν l.length⟩, μ', e4, ⟨hsim, fun id hid => ?_⟩, hg, by have := hle 0 l.length (Nat.zero_le _); simp only; omega, fun id h => (hdom id h).imp_right fun h => by have := h.1; omega⟩
    cases hm : μ' id with
    | none => rfl
    | some p =>
      rcases hdom id (by rw [hm]; simp) with h | h
      · exact (h (hfr id (by have := hle 0 l.length (Nat.zero_le _); simp only at hid; omega))).elim
      · simp only [Nat.zero_add] at h hid; omega
  | true =>
    have hz : ∀ (j : Nat) ij, l[j]? = some ij → ij.op.cls = 0 → ν (j + 1) = ν j := fun j ij hj hc0 =>
      d5.cls0 _ _ _ e3 j (List.mem_range'_1.2 ⟨Nat.zero_le _, by have := (List.getElem?_eq_some_iff.1 hj).1; omega⟩) ij hj hc0
    obtain ⟨hdo, hmix⟩ : io l ops = true ∧ P.follows .mixedOrders = true := by
      rcases hdr with h | h
      · rw [hdd] at h; cases h
      · exact h
    refine wp_region_any hmix ?_
    have g0 : aA μ s.σ w μ s.σ { w with drawn := w.drawn + 1 } := aA.drew _
    have hs0 : ca N A μ s.T s.σ a { w with drawn := w.drawn + 1 } := ⟨hs.size, hs.defers, fun i => g0.keepV hs.store.alt (hs.tmps i), hs.store.drew _⟩
    refine qy hcl hdo e2 hz ops.size (List.range' 0 l.length) _ s.T s.σ a _ μ (by simp [hls]) List.pairwise_lt_range' (fun j => ?_) (by simp) e3 hs0 (fun j hj id hid1 _ => hfr id (by have := hle 0 j (Nat.zero_le _); omega)) (fun id h => ?_) (fun j hj o ho => ?_) fun a' w' μ' hsim hg hdom => ?_
    · rw [List.mem_range'_1]
      constructor
      · intro hj
        refine ⟨by omega, ?_⟩
        rw [Array.getD_eq_getD_getElem?]
        simp [show j < ops.size by omega]
      · rintro ⟨hj, _⟩; omega
    · by_cases hid : s.n ≤ id
      · exact (h (hfr id hid)).elim
      · exact .inl (by omega)
    · exfalso
      have := (Array.getElem?_eq_some_iff.1 ho).1
      exact hj (List.mem_range'_1.2 (by omega))
    · refine ⟨trivial, ⟨T', σ', ν l.length⟩, μ', e4, ⟨hsim, fun id hid => ?_⟩, g0.trans hg, by have := hle 0 l.length (Nat.zero_le _); simp only; omega, fun id h => (hdom id h).imp_right fun ⟨j, hj, h1, h2⟩ => by have := hle 0 j (Nat.zero_le _); omega⟩
      cases hm : μ' id with
      | none => rfl
      | some p =>
        rcases hdom id (by rw [hm]; simp) with h | ⟨j, hj, h⟩
        · exact (h (hfr id (by have := hle 0 l.length (Nat.zero_le _); simp only at hid; omega))).elim
        · have hj' := List.mem_range'_1.1 hj
          have := hle (j + 1) l.length (by omega)
          simp only at hid; omega
theorem bv.seq {Q : Exit → S → Prop} {s : S} {x y : bk} (h : bv P N x (fun e s' => match e with | .normal => bv P N y Q s' | e => Q e s') s) : bv P N (.seq x y) Q s := by
  intro code hc A μ a w hs
  cases code <;> simp only [ct, Bool.false_eq_true] at hc
  simp only [Bool.and_eq_true] at hc
  refine wp_seq (wp_mono (h _ hc.1 A μ a w hs) fun e a' w' ⟨hp, s', μ', hq, hs', hg, hdo⟩ => ?_)
  cases e with
  | normal => exact wp_mono (hq _ hc.2 A μ' a' w' hs') fun e a w ⟨h1, s2, μ2, h2, h3, h4, h5⟩ => ⟨h1, s2, μ2, h2, h3, hg.trans h4, hdo.trans h5⟩
  | exit id => exact ⟨trivial, s', μ', hq, hs', hg, hdo⟩
  | ret => exact ⟨trivial, s', μ', hq, hs', hg, hdo⟩
  | goto l => exact hp.elim
  | panic c => exact ⟨trivial, s', μ', hq, hs', hg, hdo⟩
  | outgrown => exact hp.elim
theorem bv.cond {Q : Exit → S → Prop} {s : S} {x : AX} {c d : bk} {t : Bool} (ht : aD s.T x = .d (.bool t)) (h : bv P N (if t then c else d) Q s) : bv P N (.cond x c d) Q s := by
  intro code hc A μ a w hs
  cases code <;> simp only [ct, Bool.false_eq_true] at hc
  simp only [Bool.and_eq_true] at hc
  have hv := hs.1.ev _ _ hc.1.1
  rw [ht] at hv
  have hv := fp hv
  refine wp_cond hv ?_
  cases t with
  | true => exact h _ hc.1.2 A μ a w hs
  | false => exact h _ hc.2 A μ a w hs
theorem bv.block {Q : Exit → S → Prop} {s : S} {id : Nat} {c : bk} (h : bv P N c (fun e s' => match e with | .exit j => if j = id then Q .normal s' else Q (.exit j) s' | e => Q e s') s) : bv P N (.block id c) Q s := by
  intro code hc A μ a w hs
  cases code <;> simp only [ct, Bool.false_eq_true] at hc
  simp only [Bool.and_eq_true, beq_iff_eq] at hc
  obtain ⟨rfl, hc⟩ := hc
  refine wp_block (wp_mono (h _ hc A μ a w hs) fun e a' w' ⟨hp, s', μ', hq, hs', hg, hdo⟩ => ?_)
  cases e with
  | normal => exact ⟨trivial, s', μ', hq, hs', hg, hdo⟩
  | exit j =>
    simp only [Exit.inBlock]
    simp only at hq
    split
    · rename_i e; rw [if_pos e] at hq; exact ⟨trivial, s', μ', hq, hs', hg, hdo⟩
    · rename_i e; rw [if_neg e] at hq; exact ⟨trivial, s', μ', hq, hs', hg, hdo⟩
  | ret => exact ⟨trivial, s', μ', hq, hs', hg, hdo⟩
  | goto l => exact hp.elim
  | panic c => exact ⟨trivial, s', μ', hq, hs', hg, hdo⟩
  | outgrown => exact hp.elim
theorem qA {m m2 x : Machine} (h : Steps P m x) (hne : x ≠ m) (hs : step P m = .next m2) : Steps P m2 x := by
  obtain ⟨k, hk⟩ := h
  cases k with
  | zero => simp [runN] at hk; exact (hne hk.symm).elim
  | succ k => exact ⟨k, by simpa [runN, hs] using hk⟩
theorem kR {id : Nat} : ∀ {k k' : List Item}, exitTo id k = some k' → k'.length < k.length
  | [], k', h => by simp [exitTo] at h
  | x :: k, k', h => by
    cases x <;> simp only [exitTo] at h
    case inBlock q =>
      split at h
      · cases h; simp
      · have := kR h; simp; omega
    all_goals (have := kR h; simp; omega)
theorem nw {c : Code} {Q : Exit → Act → World → Prop} (hp : ∀ e a w, Q e a w → kQ e) (h : c.wp P (Exit.then ((Code.loop c).wp P Q) Q) a w) : (Code.loop c).wp P Q a w := by
  intro b k cs
  obtain ⟨e, a₁, w₁, hq, harr⟩ := h b (.inLoop c :: k) cs
  cases e with
  | normal =>
    obtain ⟨e₂, a₂, w₂, hq₂, harr₂⟩ := hq b k cs
    refine ⟨e₂, a₂, w₂, hq₂, .of_steps (.head step_loop harr) ?_⟩
    have h1 : step P (lone (b.at a₁ (.code (.loop c) :: k)) cs w₁) = .next (lone (b.at a₁ (.code c :: .inLoop c :: k)) cs w₁) := step_loop
    have h2 : step P (lone (b.at a₁ (.inLoop c :: k)) cs w₁) = .next (lone (b.at a₁ (.code c :: .inLoop c :: k)) cs w₁) := step_inLoop
    have conv : ∀ {x : Machine}, x ≠ lone (b.at a₁ (.code (.loop c) :: k)) cs w₁ → Steps P (lone (b.at a₁ (.code (.loop c) :: k)) cs w₁) x → Steps P (lone (b.at a₁ (.inLoop c :: k)) cs w₁) x :=
      fun hne hst => .head h2 (qA hst hne h1)
    cases e₂ with
    | normal =>
      refine conv (fun he => ?_) harr₂
      have := congrArg (fun m => ((m.gs[0]?).map fun g => g.frame.todo.length)) he
      simp [lone, Frame.at] at this
    | exit id =>
      intro k' hk'
      refine conv (fun he => ?_) (harr₂ k' hk')
      have := congrArg (fun m => ((m.gs[0]?).map fun g => g.frame.todo.length)) he
      have hl := kR hk'
      simp [lone, Frame.at] at this
      omega
    | ret =>
      obtain ⟨todo, hst⟩ := harr₂
      refine ⟨todo, conv (fun he => ?_) hst⟩
      have := congrArg (fun m => ((m.gs[0]?).map fun g => g.frame.mode)) he
      simp [lone, Frame.at] at this
    | goto l => exact (hp _ _ _ hq₂).elim
    | panic ch =>
      obtain ⟨todo, hst⟩ := harr₂
      refine ⟨todo, conv (fun he => ?_) hst⟩
      have := congrArg (fun m => ((m.gs[0]?).map fun g => g.frame.mode)) he
      simp [lone, Frame.at] at this
    | outgrown => exact (hp _ _ _ hq₂).elim
  | exit id => exact ⟨_, a₁, w₁, hq, .of_steps (.one step_loop) (.pass (x := .inLoop c) rfl (fun _ _ => .inl (by simp)) harr)⟩
  | goto l => exact (hp _ _ _ hq).elim
  | ret => exact ⟨_, a₁, w₁, hq, .of_steps (.one step_loop) (.pass (x := .inLoop c) rfl (fun _ _ => .inl (by simp)) harr)⟩
  | panic ch => exact ⟨_, a₁, w₁, hq, .of_steps (.one step_loop) (.pass (x := .inLoop c) rfl (fun _ _ => .inl (by simp)) harr)⟩
  | outgrown => exact (hp _ _ _ hq).elim
theorem bv.loop {Q : Exit → S → Prop} {s : S} {c : bk} (h : bv P N c (fun e s' => match e with | .normal => bv P N (.loop c) Q s' | e => Q e s') s) : bv P N (.loop c) Q s := by
  intro code hc A μ a w hs
  cases code <;> simp only [ct, Bool.false_eq_true] at hc
  rename_i c'
  refine nw (fun e a w h => h.1) (wp_mono (h _ hc A μ a w hs) fun e a' w' ⟨hp, s', μ', hq, hs', hg, hdo⟩ => ?_)
  cases e with
  | normal => exact wp_mono (hq (.loop c') hc A μ' a' w' hs') fun e a w ⟨h1, s2, μ2, h2, h3, h4, h5⟩ => ⟨h1, s2, μ2, h2, h3, hg.trans h4, hdo.trans h5⟩
  | exit id => exact ⟨trivial, s', μ', hq, hs', hg, hdo⟩
  | ret => exact ⟨trivial, s', μ', hq, hs', hg, hdo⟩
  | goto l => exact hp.elim
  | panic c => exact ⟨trivial, s', μ', hq, hs', hg, hdo⟩
  | outgrown => exact hp.elim
end
end Go.AM
