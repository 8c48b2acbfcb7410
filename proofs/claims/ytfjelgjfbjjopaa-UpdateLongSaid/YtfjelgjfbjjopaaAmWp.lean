import Derived.Test.YtfjelgjfbjjopaaAmOrder
set_option linter.unusedVariables false
set_option linter.unusedSectionVars false
set_option linter.unusedSimpArgs false
namespace Go.AM
open Go Go.RowKit
variable [Glob]
def dj (P : Program) (op : aM) (dst : Option Nat) (s : S) (K : S → Prop) : Prop :=
  match op with
  | .call false f xs => ∃ ds r, bh s.σ (xs.map (aD s.T)) ds ∧ PCall P f ds r ∧ K ⟨aO s.T dst (.d r), s.σ, s.n⟩
  | .call true f xs => ∃ v σ' n', dE P f (xs.map (aD s.T)) s.σ s.n v σ' n' ∧ s.n ≤ n' ∧ K ⟨aO s.T dst v, σ', n'⟩
  | .callv false x xs => ∃ f caps ds r, aD s.T x = .d (.func f caps) ∧ bh s.σ (xs.map (aD s.T)) ds ∧ PCall P f (ds ++ caps) r ∧ K ⟨aO s.T dst (.d r), s.σ, s.n⟩
  | .callv true x xs => ∃ f caps v σ' n', (aD s.T x = .func f caps ∨ ∃ ds, aD s.T x = .d (.func f ds) ∧ caps = ds.map V.d) ∧ dE P f (xs.map (aD s.T) ++ caps) s.σ s.n v σ' n' ∧ s.n ≤ n' ∧ K ⟨aO s.T dst v, σ', n'⟩
  | op => match ay op (aD s.T) s.σ s.n with
    | some (v, σ', n') => K ⟨aO s.T dst v, σ', n'⟩
    | none => False
def aV (P : Program) : List aQ → S → (S → Prop) → Prop
  | [], s, K => K s
  | i :: l, s, K => match i.guard with
    | none => dj P i.op i.dst s fun s' => aV P l s' K
    | some (g, b) => match fU (s.T g) with
      | some b' => if b' = some b then dj P i.op i.dst s fun s' => aV P l s' K else aV P l ⟨aO s.T i.dst V.skip, s.σ, s.n⟩ K
      | none => False
section
variable {P : Program} {N : Nat} {A : Nat → Nat → Prop} {μ : Nat → Option aJ} {T T' T1 T2 : Nat → V} {σ σ' σ1 σ2 : au} {w : World} {a : Act} {o : Oper} {n n' n1 n2 : Nat} {v : V} {e : AX → V} {i j : aQ}
theorem qv {k : Option Nat} {x y : V} {m : Bool} (h : cX σ n k x y m = some (v, σ', n')) : n ≤ n' := by
  unfold cX at h
  split at h
  · cases h
  · split at h
    · split at h
      · simp only [Option.some.injEq, Prod.mk.injEq] at h; omega
      · cases h
    · split at h
      · split at h
        · simp only [Option.some.injEq, Prod.mk.injEq] at h; omega
        · cases h
      · cases h
    · cases h
theorem nu {op : aM} (h : ay op e σ n = some (v, σ', n')) : n ≤ n' := by
  by_cases c0 : op.cls = 0
  · rw [(nb c0 h).2.1]; exact Nat.le_refl _
  by_cases c1 : op.cls = 1
  · rw [(np (σ2 := σ) (n2 := n) c1 h (fun _ _ h => h)).2.1]; exact Nat.le_refl _
  by_cases c2 : op.cls = 2
  · rw [(nc c2 h).1]; omega
  cases op <;> simp [aM.cls] at c0 c1 c2
  case box k x imm => cases imm <;> simp at c0 c2
  case store k x y =>
    simp only [ay, Option.map_eq_some_iff, Prod.mk.injEq] at h
    obtain ⟨z, hz, _, _, rfl⟩ := h; exact Nat.le_refl _
  case mset q x i u =>
    simp only [ay] at h
    repeat' split at h
    all_goals first | (cases h; done) | (simp only [Option.some.injEq, Prod.mk.injEq] at h; omega)
  case bsliceV k parts m =>
    simp only [ay] at h
    split at h
    · split at h
      · simp only [Option.some.injEq, Prod.mk.injEq] at h; omega
      · cases h
    · cases h
  case appendC k x y m =>
    simp only [ay] at h
    split at h
    · split at h
      · split at h
        · exact qv h
        · cases h
      · cases h
    · cases h
  case clear k z x =>
    simp only [ay] at h
    split at h
    · split at h
      · split at h
        · simp only [Option.some.injEq, Prod.mk.injEq] at h; omega
        · cases h
      · cases h
    · cases h
  case append k x y m =>
    simp only [ay] at h
    unfold cX at h
    split at h
    · cases h
    · split at h
      · split at h
        · simp only [Option.some.injEq, Prod.mk.injEq] at h; omega
        · cases h
      · split at h
        · split at h
          · simp only [Option.some.injEq, Prod.mk.injEq] at h; omega
          · cases h
        · cases h
      · cases h
  case call w f xs => cases h
  case callv w x xs => cases h
theorem bQ.mono {op : aM} (h : bQ P op e σ n v σ' n') : n ≤ n' := by
  unfold bQ at h
  split at h
  · obtain ⟨_, _, _, _, _, _, rfl⟩ := h; exact Nat.le_refl _
  · exact h.2
  · obtain ⟨_, _, _, _, _, _, _, _, _, rfl⟩ := h; exact Nat.le_refl _
  · obtain ⟨_, _, _, _, h⟩ := h; exact h
  · exact nu h
theorem aU.mono (h : aU P i T σ n T' σ' n') : n ≤ n' := by
  unfold aU at h
  split at h
  · obtain ⟨v, hv, _⟩ := h; exact hv.mono
  · obtain ⟨b', _, h⟩ := h
    split at h
    · obtain ⟨v, hv, _⟩ := h; exact hv.mono
    · obtain ⟨_, _, rfl⟩ := h; exact Nat.le_refl _
theorem dj.step {op : aM} {dst : Option Nat} {s : S} {K : S → Prop} (h : dj P op dst s K) : ∃ v σ' n', bQ P op (aD s.T) s.σ s.n v σ' n' ∧ K ⟨aO s.T dst v, σ', n'⟩ := by
  unfold dj at h
  split at h
  · obtain ⟨ds, r, h1, h2, h3⟩ := h; exact ⟨_, _, _, ⟨ds, r, h1, h2, rfl, rfl, rfl⟩, h3⟩
  · obtain ⟨v, σ', n', h1, h2, h3⟩ := h; exact ⟨v, σ', n', ⟨h1, h2⟩, h3⟩
  · obtain ⟨f, caps, ds, r, h0, h1, h2, h3⟩ := h; exact ⟨_, _, _, ⟨f, caps, ds, r, h0, h1, h2, rfl, rfl, rfl⟩, h3⟩
  · obtain ⟨f, caps, v, σ', n', h0, h1, h2, h3⟩ := h; exact ⟨v, σ', n', ⟨f, caps, h0, h1, h2⟩, h3⟩
  · rename_i h1 h2 h3 h4
    split at h
    · rename_i v σ' n' hst
      refine ⟨v, σ', n', ?_, h⟩
      unfold bQ
      split
      · exact (h1 _ _ rfl).elim
      · exact (h2 _ _ rfl).elim
      · exact (h3 _ _ rfl).elim
      · exact (h4 _ _ rfl).elim
      · exact hst
    · exact h.elim
theorem aV.chain : ∀ (suf pre : List aQ) (s : S) (K : S → Prop), aV P suf s K → ∃ (ν : Nat → Nat) (T' : Nat → V) (σ' : au), (∀ k, k ≤ pre.length → ν k = s.n) ∧ (∀ k, ν k ≤ ν (k + 1)) ∧
    d5 P (pre ++ suf) ν (List.range' pre.length suf.length) s.T s.σ T' σ' ∧ K ⟨T', σ', ν (pre.length + suf.length)⟩
  | [], pre, s, K, h => ⟨fun _ => s.n, s.T, s.σ, fun _ _ => rfl, fun _ => Nat.le_refl _, ⟨rfl, rfl⟩, h⟩
  | i :: suf, pre, s, K, h => by
    have hstep : ∃ T1 σ1 n1, aU P i s.T s.σ s.n T1 σ1 n1 ∧ aV P suf ⟨T1, σ1, n1⟩ K := by
      unfold aV at h
      cases hg : i.guard with
      | none =>
        rw [hg] at h
        obtain ⟨v, σ', n', h1, h2⟩ := dj.step h
        exact ⟨_, σ', n', by unfold aU; rw [hg]; exact ⟨v, h1, rfl⟩, h2⟩
      | some p =>
        obtain ⟨g, b⟩ := p
        rw [hg] at h
        simp only at h
        split at h
        · rename_i b' hT
          split at h
          · rename_i hb
            obtain ⟨v, σ', n', h1, h2⟩ := dj.step h
            exact ⟨_, σ', n', by unfold aU; rw [hg]; exact ⟨b', hT, by rw [if_pos hb]; exact ⟨v, h1, rfl⟩⟩, h2⟩
          · rename_i hb
            exact ⟨_, _, _, by unfold aU; rw [hg]; exact ⟨b', hT, by rw [if_neg hb]; exact ⟨rfl, rfl, rfl⟩⟩, h⟩
        · exact h.elim
    obtain ⟨T1, σ1, n1, hs, hr⟩ := hstep
    obtain ⟨ν, T', σ', e1, e2, e3, e4⟩ := aV.chain suf (pre ++ [i]) ⟨T1, σ1, n1⟩ K hr
    have hl : (pre ++ [i]).length = pre.length + 1 := by simp
    have hmono := hs.mono
    refine ⟨fun k => if k ≤ pre.length then s.n else ν k, T', σ', fun k hk => by simp [hk], fun k => ?_, ?_, ?_⟩
    · by_cases c1 : k + 1 ≤ pre.length
      · simp [c1, show k ≤ pre.length by omega]
      · by_cases c2 : k ≤ pre.length
        · simp only [c2, c1, if_true, if_false]
          have : ν (k + 1) = n1 := by have := e1 (k + 1) (by omega); exact this
          omega
        · simp only [c2, c1, if_false]; exact e2 k
    · simp only [List.length_cons, List.range'_succ]
      refine ⟨i, T1, σ1, by simp, ?_, ?_⟩
      · have : ν (pre.length + 1) = n1 := e1 _ (by omega)
        simp only [Nat.le_refl, if_true, show ¬ (pre.length + 1 ≤ pre.length) by omega, if_false, this]
        exact hs
      · rw [hl] at e3
        have hcong : ∀ (r : List Nat) (T : Nat → V) (σ : au), (∀ q ∈ r, pre.length + 1 ≤ q) → d5 P (pre ++ [i] ++ suf) ν r T σ T' σ' → d5 P (pre ++ i :: suf) (fun k => if k ≤ pre.length then s.n else ν k) r T σ T' σ' := by
          intro r
          induction r with
          | nil => intro T σ _ h; exact h
          | cons q r ih =>
            intro T σ hq h
            obtain ⟨iq, Tq, σq, h1, h2, h3⟩ := h
            have hq0 := hq q (by simp)
            refine ⟨iq, Tq, σq, by simpa using h1, ?_, ih Tq σq (fun x hx => hq x (by simp [hx])) h3⟩
            simp only [show ¬ (q ≤ pre.length) by omega, show ¬ (q + 1 ≤ pre.length) by omega, if_false]
            exact h2
        exact hcong _ _ _ (fun q hq => by have := List.mem_range'.1 hq; omega) e3
    · have : ¬ (pre.length + (suf.length + 1) ≤ pre.length) := by omega
      simp only [List.length_cons, this, if_false]
      rw [hl, show pre.length + 1 + suf.length = pre.length + (suf.length + 1) by omega] at e4
      exact e4
theorem fV {ops : Array Oper} : ∀ {l : List aQ} {os : List Oper}, cZ P N ops l os = true → l.length = os.length ∧ ∀ (j : Nat) i o, l[j]? = some i → os[j]? = some o → fN P N ops i o = true
  | [], [], _ => ⟨rfl, fun j i o h => by simp at h⟩
  | i :: l, o :: os, h => by
    simp only [cZ, Bool.and_eq_true] at h
    obtain ⟨h1, h2⟩ := fV h.2
    refine ⟨by simp [h1], fun j x y hx hy => ?_⟩
    cases j with
    | zero => simp at hx hy; subst hx; subst hy; exact h.1
    | succ j => exact h2 j x y (by simpa using hx) (by simpa using hy)
  | [], _ :: _, h => by simp [cZ] at h
  | _ :: _, [], h => by simp [cZ] at h
def qw (N : Nat) (A : Nat → Nat → Prop) (μ : Nat → Option aJ) (σ : au) (w : World) (T' : Nat → V) (σ' : au) (lo hi : Nat) (K : Act → World → Prop) : Prop :=
  ∀ a' w' μ', ca N A μ' T' σ' a' w' → aA μ σ w μ' σ' w' → (∀ id, μ' id ≠ none → μ id ≠ none ∨ (lo ≤ id ∧ id < hi)) → K a' w'
theorem kO {l : List aQ} {ops : Array Oper} {Q : Exit → Act → World → Prop} {K : Act → World → Prop} (hc : cZ P N ops l ops.toList = true) {q : Nat} {iq : aQ} (hq : l[q]? = some iq) (hsim : ca N A μ T σ a w)
    (hfr : ∀ id, n ≤ id → id < n' → μ id = none) (h : aU P iq T σ n T1 σ1 n') (hk : gH P N A μ σ w T1 σ1 n n' K) : wpOp P ops Q q K a w := by
  obtain ⟨hl, hcs⟩ := fV hc
  have hlt : q < ops.size := by have := (List.getElem?_eq_some_iff.1 hq).1; rw [hl] at this; simpa using this
  have ho : ops[q]? = some ops[q] := by simp [hlt]
  have := aU.sound (Q := Q) (K := K) (hcs q iq ops[q] hq (by simp)) hsim hfr h hk
  unfold wpOp
  rw [ho]
  simp only
  split
  · rename_i hw; rw [if_pos hw] at this; exact .inl this
  · rename_i hw; rw [if_neg hw] at this; exact this
theorem nv {l : List aQ} {ops : Array Oper} {ν : Nat → Nat} {Q : Exit → Act → World → Prop} (hc : cZ P N ops l ops.toList = true) (hν : ∀ k, ν k ≤ ν (k + 1)) :
    ∀ (m k : Nat) (T : Nat → V) (σ : au) (a : Act) (w : World) (μ : Nat → Option aJ), d5 P l ν (List.range' k m) T σ T' σ' → ca N A μ T σ a w → (∀ id, ν k ≤ id → μ id = none) →
      qw N A μ σ w T' σ' (ν k) (ν (k + m)) (fun a w => Q .normal a w) → wpOps P ops Q (List.range' k m) a w
  | 0, k, T, σ, a, w, μ, h, hsim, hfr, hk => by
    obtain ⟨rfl, rfl⟩ := h
    exact hk a w μ hsim (aA.refl _ _ _) fun id h => .inl h
  | m + 1, k, T, σ, a, w, μ, h, hsim, hfr, hk => by
    rw [List.range'_succ] at h ⊢
    obtain ⟨iq, T1, σ1, h1, h2, h3⟩ := h
    rw [wpOps_cons]
    have hle : ∀ p q, ν p ≤ ν (p + q) := by
      intro p q; induction q with
      | zero => exact Nat.le_refl _
      | succ q ih => exact Nat.le_trans ih (hν _)
    have e1 : k + 1 + m = k + (m + 1) := by omega
    refine kO hc h1 hsim (fun id hid1 hid2 => hfr id hid1) h2 fun a1 w1 μ1 hsim1 hg1 hd1 => ?_
    refine nv hc hν m (k + 1) T1 σ1 a1 w1 μ1 h3 hsim1 (fun id hid1 => ?_) fun a2 w2 μ2 hsim2 hg2 hd2 => ?_
    · cases hm : μ1 id with
      | none => rfl
      | some p =>
        rcases hd1 id (by rw [hm]; simp) with h | h
        · exact (h (hfr id (Nat.le_trans (hν k) hid1))).elim
        · omega
    · refine hk a2 w2 μ2 hsim2 (hg1.trans hg2) fun id h => ?_
      rcases hd2 id h with h | h
      · rcases hd1 id h with h | h
        · exact .inl h
        · exact .inr ⟨h.1, Nat.lt_of_lt_of_le h.2 (by rw [← e1]; exact hle _ _)⟩
      · exact .inr ⟨Nat.le_trans (hν k) h.1, by rw [← e1]; exact h.2⟩
end
end Go.AM
