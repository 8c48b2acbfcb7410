import Derived.Test.YtfjelgjfbjjopaaAmLp
import Derived.Test.YtfjelgjfbjjopaaMfT
/-
  A sort keeps the length.
-/
set_option linter.unusedVariables false
namespace Go.AM
open Go

theorem gput_len' {α : Type} {l r : List α} {i : Int} {v : α} (h : gput l i v = some r) : r.length = l.length := by
  unfold gput at h
  split at h
  · split at h
    · cases h; simp
    · cases h
  · cases h

theorem whK_keep {σ : Type} (f : σ → Option (σ ⊕ σ)) (P : σ → Prop) (hf : ∀ s x, P s → f s = some x → match x with | .inl s' => P s' | .inr s' => P s') : ∀ (k : Nat) (s r : σ), P s → whK f k s = some r → P r
  | 0, s, r, _, h => by cases h
  | k + 1, s, r, hs, h => by
    rw [whK_step] at h
    cases hx : f s with
    | none => rw [hx] at h; cases h
    | some x =>
      rw [hx] at h
      have := hf s x hs hx
      cases x with
      | inl s' => exact whK_keep f P hf k s' r this h
      | inr s' => cases h; exact this

theorem forO_keepL {σ : Type} (f : Int → σ → Option σ) (P : σ → Prop) (hf : ∀ i s s', P s → f i s = some s' → P s') : ∀ (l : List Int) (s r : σ), P s → forO f l s = some r → P r
  | [], s, r, hs, h => by cases h; exact hs
  | i :: l, s, r, hs, h => by
    simp only [forO] at h
    cases hx : f i s with
    | none => rw [hx] at h; cases h
    | some s' => rw [hx] at h; exact forO_keepL f P hf l s' r (hf i s s' hs hx) h

theorem len_ins {l r : List (A8 Int)} {a b : Int} {f : A8 Int → A8 Int → Option Int} (h : slices_insertionSortCmpFunc_api_Packet l a b f = some r) : r.length = l.length := by
  unfold slices_insertionSortCmpFunc_api_Packet at h
  obtain ⟨z, hz, h⟩ := Option.bind_eq_some_iff.1 h
  cases h
  refine forO_keepL _ (fun s => s.length = l.length) (fun i s s' hs h => ?_) _ _ _ rfl hz
  unfold slices_insertionSortCmpFunc_api_Packet_b1 at h
  obtain ⟨⟨z1, z2⟩, hz, h⟩ := Option.bind_eq_some_iff.1 h
  cases h
  refine whK_keep _ (fun q => q.1.length = l.length) (fun q x hq h => ?_) _ _ _ hs hz
  obtain ⟨q1, q2⟩ := q
  simp only [slices_insertionSortCmpFunc_api_Packet_b2] at h
  obtain ⟨y, _, h⟩ := Option.bind_eq_some_iff.1 h
  cases y
  · cases h; exact hq
  · simp only [if_true] at h
    obtain ⟨x1, _, h⟩ := Option.bind_eq_some_iff.1 h
    obtain ⟨x2, _, h⟩ := Option.bind_eq_some_iff.1 h
    obtain ⟨l1, h1, h⟩ := Option.bind_eq_some_iff.1 h
    obtain ⟨x3, _, h⟩ := Option.bind_eq_some_iff.1 h
    obtain ⟨l2, h2, h⟩ := Option.bind_eq_some_iff.1 h
    cases h
    show l2.length = l.length
    rw [gput_len' h2, gput_len' h1]; exact hq

theorem whR_keep {σ ρ : Type} (f : σ → Option (Br σ ρ)) (P : σ → Prop) (R : ρ → Prop) (hf : ∀ s x, P s → f s = some x → match x with | .next s' => P s' | .brk s' => P s' | .ret r => R r) : ∀ (k : Nat) (s : σ) (x : Ex σ ρ), P s → whR f k s = some x → match x with | .done s' => P s' | .ret r => R r
  | 0, s, r, _, h => by cases h
  | k + 1, s, r, hs, h => by
    rw [whR_step] at h
    cases hx : f s with
    | none => rw [hx] at h; cases h
    | some x =>
      rw [hx] at h
      have := hf s x hs hx
      cases x with
      | next s' => exact whR_keep f P R hf k s' r this h
      | brk s' => cases h; exact this
      | ret r' => cases h; exact this

theorem len_SortFunc {l r : List (A8 Int)} {f : A8 Int → A8 Int → Option Int} (h : slices_SortFunc_api_Packet l f = some r) : r.length = l.length := by
  unfold slices_SortFunc_api_Packet at h
  obtain ⟨n, _, h⟩ := Option.bind_eq_some_iff.1 h
  obtain ⟨q, hq, h⟩ := Option.bind_eq_some_iff.1 h
  cases h
  unfold slices_pdqsortCmpFunc_api_Packet at hq
  obtain ⟨x, hx, hq⟩ := Option.bind_eq_some_iff.1 hq
  have := whR_keep _ (fun _ => True) (fun (r : List (A8 Int)) => r.length = l.length) (fun s x _ h => ?_) _ _ _ trivial hx
  · cases x with
    | done _ => cases hq; rfl
    | ret r' => cases hq; exact this
  · unfold slices_pdqsortCmpFunc_api_Packet_b1 at h
    split at h
    · obtain ⟨r3, h3, h⟩ := Option.bind_eq_some_iff.1 h
      cases h
      exact len_ins h3
    · split at h
      · cases h
      · obtain ⟨_, _, h⟩ := Option.bind_eq_some_iff.1 h
        cases h
end Go.AM
