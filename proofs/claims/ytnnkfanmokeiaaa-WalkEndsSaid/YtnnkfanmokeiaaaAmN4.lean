import Derived.Test.YtnnkfanmokeiaaaAmN3
import Derived.Test.YtnnkfanmokeiaaaAmPre
set_option linter.unusedVariables false
set_option linter.unusedSectionVars false
set_option linter.unusedSimpArgs false
namespace Go.AM
open Go Go.RowKit
variable [Glob]
section
variable {P : Program} {N na : Nat} {A : Nat → Nat → Prop} {μ μ' : Nat → Option bg} {T T' : Nat → V} {σ σ' : az} {w w' : World} {a : Act} {n n' : Nat} {l : List bo} {dst : Option Nat} {op : a9} {K : S → Prop}
theorem cz {c : bv} {Q : Exit → S → Prop} {s : S} (t : Nat) {k : IntKind} {x : Int} (ht : s.T t = .d (.int k x)) (h : k.wrap x = x → aK P N na c Q s) : aK P N na c Q s := by
  intro code hc A μ a w hs
  have := hs.1.tmps t
  rw [ht] at this
  exact h (f0 this) code hc A μ a w hs
theorem al {Q : Exit → S → Prop} {s : S} (s0 : S) {d : Bool} {l : List bo} {y : bv} (h : bh P l s fun s' => bK na s' s0) (k : aK P N na y Q s0) : aK P N na (.seq (.ops d l) y) Q s :=
  qa (RunOps_mono l s (fun s' hs => ⟨s0, hs, k⟩) h)
where
  RunOps_mono {K K' : S → Prop} : ∀ (l : List bo) (s : S), (∀ s, K s → K' s) → bh P l s K → bh P l s K'
    | [], s, hk, h => hk s h
    | i :: l, s, hk, h => by
      have one : ∀ {K1 K2 : S → Prop} {op : a9} {dst : Option Nat}, (∀ s, K1 s → K2 s) → dq P op dst s K1 → dq P op dst s K2 := by
        intro K1 K2 op dst hk h
        unfold dq at h ⊢
        split at h
        · obtain ⟨ds, r, h1, h2, h3⟩ := h; exact ⟨ds, r, h1, h2, hk _ h3⟩
        · obtain ⟨v, σ', n', h1, h2, h3⟩ := h; exact ⟨v, σ', n', h1, h2, hk _ h3⟩
        · obtain ⟨f, caps, ds, r, h0, h1, h2, h3⟩ := h; exact ⟨f, caps, ds, r, h0, h1, h2, hk _ h3⟩
        · obtain ⟨f, caps, v, σ', n', h0, h1, h2, h3⟩ := h; exact ⟨f, caps, v, σ', n', h0, h1, h2, hk _ h3⟩
        · split at h
          · exact hk _ h
          · exact h.elim
      unfold bh at h ⊢
      cases hg : i.guard with
      | none => rw [hg] at h; exact one (fun s => RunOps_mono l s hk) h
      | some p =>
        obtain ⟨g, b⟩ := p
        rw [hg] at h
        simp only at h ⊢
        cases hb : e9 (s.T g) with
        | none => rw [hb] at h; exact h.elim
        | some b' =>
          rw [hb] at h
          simp only at h ⊢
          by_cases hbb : b' = some b
          · rw [if_pos hbb] at h ⊢; exact one (fun s => RunOps_mono l s hk) h
          · rw [if_neg hbb] at h ⊢; exact RunOps_mono l _ hk h
theorem bT {Q : Exit → S → Prop} {s : S} (s0 : S) {d : Bool} {l : List bo} (h : bh P l s fun s' => bK na s' s0) (k : Q .normal s0) : aK P N na (.ops d l) Q s :=
  aK.ops (al.RunOps_mono l s (fun s' hs => ⟨s0, hs, k⟩) h)
def JN (s0 : S) (e : Exit) (s' : S) : Prop := e = .normal ∧ s' = s0
theorem eO {Q : Exit → S → Prop} {s : S} (s0 : S) {x y : bv} (hx : aK P N na x (JN s0) s) (hy : aK P N na y Q s0) : aK P N na (.seq x y) Q s := by
  refine aF (hx.mono fun e s' ⟨h1, h2⟩ => ?_)
  subst h1; subst h2; exact hy
def JS {α ρ : Type} (s0 : α → S) (PQ : ρ → Exit → S → Prop) : α ⊕ ρ → Exit → S → Prop
  | .inl v, e, s' => e = .normal ∧ s' = s0 v
  | .inr r, e, s' => e ≠ .normal ∧ PQ r e s'
theorem mt {α ρ : Type} {s : S} (s0 : α → S) {Q : Exit → S → Prop} {xv : α ⊕ ρ} {r : ρ} {x y : bv} (hx : aK P N na x (JS s0 (fun r' e s' => r = r' → Q e s') xv) s) (hr : ∀ r', xv = .inr r' → r' = r) (hy : ∀ v, xv = .inl v → aK P N na y Q (s0 v)) : aK P N na (.seq x y) Q s := by
  refine aF (hx.mono fun e s' h => ?_)
  cases xv with
  | inl v => obtain ⟨h1, h2⟩ := h; subst h1; subst h2; exact hy v rfl
  | inr r' =>
    obtain ⟨h1, h2⟩ := h
    have h2 := h2 (hr r' rfl).symm
    cases e with
    | normal => exact (h1 rfl).elim
    | _ => exact h2
section
variable {β ρ : Type}
def LO (st' : β → S) (x : β) (e : Exit) (s' : S) : Prop := e = .normal ∧ s' = st' x
def LK (st' : β → S) (X : Nat) (stx : β → S) : β ⊕ β → Exit → S → Prop
  | .inl s, e, s' => e = .normal ∧ s' = st' s
  | .inr s, e, s' => e = .exit X ∧ s' = stx s
def LR (st' : β → S) (X : Nat) (stx : β → S) (PQ : ρ → Exit → S → Prop) : Br β ρ → Exit → S → Prop
  | .next s, e, s' => e = .normal ∧ s' = st' s
  | .brk s, e, s' => e = .exit X ∧ s' = stx s
  | .ret r, e, s' => e ≠ .normal ∧ PQ r e s'
def LE (X : Nat) (s0 : S) (e : Exit) (s' : S) : Prop := e = .exit X ∧ s' = s0
theorem qi {a b : Int} (h : ¬ a < b) : bS a b = [] := by
  simp [bS, show (b - a).toNat = 0 by omega]
theorem qj {a b : Int} (h : a < b) : bS a b = a :: bS (a + 1) b := by
  unfold bS
  rw [show (b - a).toNat = (b - (a + 1)).toNat + 1 by omega, List.range_succ_eq_map, List.map_cons, List.map_map]
  congr 1
  · simp
  · refine List.map_congr_left fun i _ => ?_
    simp only [Function.comp_apply]; push_cast; omega
structure jO (go : Int → Prop) (nx : Int → Int) (L : Int → List Int) : Prop where
  stop : ∀ i, ¬ go i → L i = []
  step : ∀ i, go i → L i = i :: L (nx i)
theorem cA (b : Int) : jO (· < b) (· + 1) (fun i => bS i b) := ⟨fun i h => qi h, fun i h => qj h⟩
variable {go : Int → Prop} {nx : Int → Int} {L : Int → List Int} {c : bv} {Q : Exit → S → Prop}
theorem fN (hL : jO go nx L) {f : Int → β → Option β} (st : Int → β → S) (X : Nat) (stx : β → S) (inv : Int → Prop) (hinv : ∀ i, inv i → go i → inv (nx i)) {a : Int} {s r : β} (h : dw f (L a) s = some r) (ha : inv a)
    (hb : ∀ i s x, inv i → go i → f i s = some x → aK P N na c (LO (st (nx i)) x) (st i s)) (he : ∀ i s, inv i → ¬ go i → aK P N na c (LE X (stx s)) (st i s)) (hQ : Q (.exit X) (stx r)) : aK P N na (.loop c) Q (st a s) := by
  have key : ∀ (k : List Int) (a : Int) (s : β), L a = k → inv a → dw f k s = some r → aK P N na (.loop c) Q (st a s) := by
    intro k
    induction k with
    | nil =>
      intro a s hk ha h
      have hng : ¬ go a := fun hg => by rw [hL.step a hg] at hk; cases hk
      cases h
      refine gb ((he a _ ha hng).mono fun e s' ⟨h1, h2⟩ => ?_)
      subst h1; subst h2; exact hQ
    | cons i k ih =>
      intro a s hk ha h
      have hg : go a := Classical.byContradiction fun hg => by rw [hL.stop a hg] at hk; cases hk
      rw [hL.step a hg] at hk
      obtain ⟨rfl, hk2⟩ := List.cons.inj hk
      obtain ⟨s2, h1, h2⟩ := aw h
      refine gb ((hb a s s2 ha hg h1).mono fun e s' ⟨g1, g2⟩ => ?_)
      subst g1; subst g2
      exact ih _ _ hk2 (hinv _ ha hg) h2
  exact key _ a s rfl ha h
theorem df (hL : jO go nx L) {f : Int → β → Option (Br β ρ)} (st : Int → β → S) (X : Nat) (stx : β → S) (inv : Int → Prop) (hinv : ∀ i, inv i → go i → inv (nx i)) {a : Int} {s : β} {y : Ex β ρ} {r : ρ} (h : cl f (L a) s = some y) (ha : inv a)
    (hb : ∀ i s x, inv i → go i → f i s = some x → aK P N na c (LR (st (nx i)) X stx (fun r' e s' => r = r' → Q e s') x) (st i s)) (he : ∀ i s, inv i → ¬ go i → aK P N na c (LE X (stx s)) (st i s)) (hr : ∀ r', y = .ret r' → r' = r) (hQ : ∀ s, y = .done s → Q (.exit X) (stx s)) : aK P N na (.loop c) Q (st a s) := by
  have key : ∀ (k : List Int) (a : Int) (s : β), L a = k → inv a → cl f k s = some y → aK P N na (.loop c) Q (st a s) := by
    intro k
    induction k with
    | nil =>
      intro a s hk ha h
      have hng : ¬ go a := fun hg => by rw [hL.step a hg] at hk; cases hk
      cases h
      refine gb ((he a _ ha hng).mono fun e s' ⟨h1, h2⟩ => ?_)
      subst h1; subst h2; exact hQ _ rfl
    | cons i k ih =>
      intro a s hk ha h
      have hg : go a := Classical.byContradiction fun hg => by rw [hL.stop a hg] at hk; cases hk
      rw [hL.step a hg] at hk
      obtain ⟨rfl, hk2⟩ := List.cons.inj hk
      obtain ⟨x, h1, h2⟩ := aw h
      refine gb ((hb a s x ha hg h1).mono fun e s' g => ?_)
      cases x with
      | next s2 => obtain ⟨g1, g2⟩ := g; subst g1; subst g2; exact ih _ _ hk2 (hinv _ ha hg) h2
      | brk s2 => obtain ⟨g1, g2⟩ := g; subst g1; subst g2; cases h2; exact hQ _ rfl
      | ret r' =>
        obtain ⟨g1, g2⟩ := g
        cases h2
        have g2 := g2 (hr r' rfl).symm
        cases e with
        | normal => exact (g1 rfl).elim
        | _ => exact g2
  exact key _ a s rfl ha h
theorem mx {f : β → Option (β ⊕ β)} (st : β → S) (X : Nat) (stx : β → S) {k : Nat} {s r : β} (h : fM f k s = some r)
    (hb : ∀ s x, f s = some x → aK P N na c (LK st X stx x) (st s)) (hQ : Q (.exit X) (stx r)) : aK P N na (.loop c) Q (st s) := by
  induction k generalizing s with
  | zero => cases h
  | succ k ih =>
    obtain ⟨x, h1, h2⟩ := aw h
    refine gb ((hb s x h1).mono fun e s' g => ?_)
    cases x with
    | inl s2 => obtain ⟨g1, g2⟩ := g; subst g1; subst g2; exact ih h2
    | inr s2 => obtain ⟨g1, g2⟩ := g; subst g1; subst g2; cases h2; exact hQ
theorem qk {f : β → Option (Br β ρ)} (st : β → S) (X : Nat) (stx : β → S) {k : Nat} {s : β} {y : Ex β ρ} {r : ρ} (h : gh f k s = some y)
    (hb : ∀ s x, f s = some x → aK P N na c (LR st X stx (fun r' e s' => r = r' → Q e s') x) (st s)) (hr : ∀ r', y = .ret r' → r' = r) (hQ : ∀ s, y = .done s → Q (.exit X) (stx s)) : aK P N na (.loop c) Q (st s) := by
  induction k generalizing s with
  | zero => cases h
  | succ k ih =>
    obtain ⟨x, h1, h2⟩ := aw h
    refine gb ((hb s x h1).mono fun e s' g => ?_)
    cases x with
    | next s2 => obtain ⟨g1, g2⟩ := g; subst g1; subst g2; exact ih h2
    | brk s2 => obtain ⟨g1, g2⟩ := g; subst g1; subst g2; cases h2; exact hQ _ rfl
    | ret r' =>
      obtain ⟨g1, g2⟩ := g
      cases h2
      have g2 := g2 (hr r' rfl).symm
      cases e with
      | normal => exact (g1 rfl).elim
      | _ => exact g2
end
def bF (i : Int) : Prop := -9223372036854775808 ≤ i
theorem cB {b : Int} : ∀ i, bF i → i < b → bF (i + 1) := fun i h _ => by unfold bF at *; omega
theorem VN.eq {ρ : Nat → Nat} {n0 : Nat} {x y : D} (h : x = y) : VN ρ n0 (.d x) (.d y) := h ▸ .d x
theorem VN.nl {ρ : Nat → Nat} {n0 : Nat} {k : Option Nat} : VN ρ n0 (.d .nils) (.d (.vec k [])) := .sub _ _ (.nils k)
theorem VN.le {ρ : Nat → Nat} {n0 id off len len' : Nat} (h : len = len') (hid : id < n0) : VN ρ n0 (.loc (ρ id) off len) (.loc id off len') := h ▸ .loc id off len hid
end
end Go.AM
