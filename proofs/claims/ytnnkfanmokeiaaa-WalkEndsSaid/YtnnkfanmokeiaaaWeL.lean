import Derived.Test.YtnnkfanmokeiaaaAmLp
import Derived.Test.YtnnkfanmokeiaaaWeT
set_option linter.unusedVariables false
namespace Go.AM
open Go
theorem nS {α : Type} {l r : List α} {i : Int} {v : α} (h : de l i v = some r) : r.length = l.length := by
  unfold de at h
  split at h
  · split at h
    · cases h; simp
    · cases h
  · cases h
theorem nT {σ : Type} (f : σ → Option (σ ⊕ σ)) (P : σ → Prop) (hf : ∀ s x, P s → f s = some x → match x with | .inl s' => P s' | .inr s' => P s') : ∀ (k : Nat) (s r : σ), P s → fM f k s = some r → P r
  | 0, s, r, _, h => by cases h
  | k + 1, s, r, hs, h => by
    rw [qI] at h
    cases hx : f s with
    | none => rw [hx] at h; cases h
    | some x =>
      rw [hx] at h
      have := hf s x hs hx
      cases x with
      | inl s' => exact nT f P hf k s' r this h
      | inr s' => cases h; exact this
theorem nU {σ : Type} (f : Int → σ → Option σ) (P : σ → Prop) (hf : ∀ i s s', P s → f i s = some s' → P s') : ∀ (l : List Int) (s r : σ), P s → dw f l s = some r → P r
  | [], s, r, hs, h => by cases h; exact hs
  | i :: l, s, r, hs, h => by
    simp only [dw] at h
    cases hx : f i s with
    | none => rw [hx] at h; cases h
    | some s' => rw [hx] at h; exact nU f P hf l s' r (hf i s s' hs hx) h
theorem rH {l r : List (A8 Int)} {a b : Int} {f : A8 Int → A8 Int → Option Int} (h : iG l a b f = some r) : r.length = l.length := by
  unfold iG at h
  obtain ⟨z, hz, h⟩ := Option.bind_eq_some_iff.1 h
  cases h
  refine nU _ (fun s => s.length = l.length) (fun i s s' hs h => ?_) _ _ _ rfl hz
  unfold m6 at h
  obtain ⟨⟨z1, z2⟩, hz, h⟩ := Option.bind_eq_some_iff.1 h
  cases h
  refine nT _ (fun q => q.1.length = l.length) (fun q x hq h => ?_) _ _ _ hs hz
  obtain ⟨q1, q2⟩ := q
  simp only [m5] at h
  obtain ⟨y, _, h⟩ := Option.bind_eq_some_iff.1 h
  cases y
  · cases h; exact hq
  · simp only [if_true] at h
    obtain ⟨x1, _, h⟩ := Option.bind_eq_some_iff.1 h
    obtain ⟨x2, _, h⟩ := Option.bind_eq_some_iff.1 h
    obtain ⟨l1, h1, h⟩ := Option.bind_eq_some_iff.1 h
    obtain ⟨x3, _, h⟩ := Option.bind_eq_some_iff.1 h
    obtain ⟨l2, h2, h⟩ := Option.bind_eq_some_iff.1 h
    cases h
    show l2.length = l.length
    rw [nS h2, nS h1]; exact hq
theorem nV {σ ρ : Type} (f : σ → Option (Br σ ρ)) (P : σ → Prop) (R : ρ → Prop) (hf : ∀ s x, P s → f s = some x → match x with | .next s' => P s' | .brk s' => P s' | .ret r => R r) : ∀ (k : Nat) (s : σ) (x : Ex σ ρ), P s → gh f k s = some x → match x with | .done s' => P s' | .ret r => R r
  | 0, s, r, _, h => by cases h
  | k + 1, s, r, hs, h => by
    rw [qH] at h
    cases hx : f s with
    | none => rw [hx] at h; cases h
    | some x =>
      rw [hx] at h
      have := hf s x hs hx
      cases x with
      | next s' => exact nV f P R hf k s' r this h
      | brk s' => cases h; exact this
      | ret r' => cases h; exact this
theorem rI {l r : List (A8 Int)} {f : A8 Int → A8 Int → Option Int} (h : iH l f = some r) : r.length = l.length := by
  unfold iH at h
  obtain ⟨n, _, h⟩ := Option.bind_eq_some_iff.1 h
  obtain ⟨q, hq, h⟩ := Option.bind_eq_some_iff.1 h
  cases h
  unfold ka at hq
  obtain ⟨x, hx, hq⟩ := Option.bind_eq_some_iff.1 hq
  have := nV _ (fun _ => True) (fun (r : List (A8 Int)) => r.length = l.length) (fun s x _ h => ?_) _ _ _ trivial hx
  · cases x with
    | done _ => cases hq; rfl
    | ret r' => cases hq; exact this
  · unfold m7 at h
    split at h
    · obtain ⟨r3, h3, h⟩ := Option.bind_eq_some_iff.1 h
      cases h
      exact rH h3
    · split at h
      · cases h
      · obtain ⟨_, _, h⟩ := Option.bind_eq_some_iff.1 h
        cases h
end Go.AM
