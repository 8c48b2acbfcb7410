import Derived.Test.YtkgegocfjalcbaaDoorAmN6
/-
  Bytes, strings, ranges: facts for plain laws.
-/
set_option linter.unusedVariables false
set_option linter.unusedSectionVars false
set_option linter.unusedSimpArgs false
namespace Go.AM
open Go

theorem w_u64 (n : Int) : IntKind.u64.wrap n = n % 18446744073709551616 := wrap_u64 n
theorem w_i64 {n : Int} (h0 : -9223372036854775808 ≤ n) (h1 : n < 9223372036854775808) : IntKind.i64.wrap n = n := wrap_i64 h0 h1

theorem irange_nat (i k : Nat) : irange (i : Int) ((i + k : Nat) : Int) = (List.range k).map fun (j : Nat) => ((i + j : Nat) : Int) := by
  simp only [irange]
  rw [show (((i + k : Nat) : Int) - (i : Int)).toNat = k by omega]
  refine List.map_congr_left fun j _ => ?_
  push_cast; rfl

theorem irangeN_cons (i k : Nat) : irange (i : Int) ((i + (k + 1) : Nat) : Int) = (i : Int) :: irange ((i + 1 : Nat) : Int) ((i + (k + 1) : Nat) : Int) := by
  rw [irange_nat, show i + (k + 1) = (i + 1) + k by omega, irange_nat, List.range_succ_eq_map]
  simp only [List.map_cons, List.map_map, Nat.add_zero]
  congr 1
  refine List.map_congr_left fun j _ => ?_
  simp only [Function.comp_apply, Nat.succ_eq_add_one]
  push_cast; omega

theorem irangeN_nil (i : Nat) : irange (i : Int) (i : Int) = [] := by simp [irange]

theorem gapp_some {α : Type} {xs ys : List α} (h : xs.length + ys.length ≤ 4294967296) : gapp xs ys = some (xs ++ ys) := by unfold gapp; rw [if_pos h]

theorem gat_nat {α : Type} (l : List α) (i : Nat) : gat l (i : Int) = l[i]? := by
  unfold gat; rw [if_pos (by omega), Int.toNat_natCast]

theorem FUEL_big (k : Nat) (h : k ≤ 1000000) : ∃ m, FUEL = m + k := ⟨FUEL - k, by unfold FUEL; omega⟩

theorem forO_map {σ : Type} (f : Int → σ → Option σ) (P : Nat → σ → Prop) : ∀ (k i : Nat) (s : σ), P i s → (∀ j s, i ≤ j → j < i + k → P j s → ∃ s', f (j : Int) s = some s' ∧ P (j + 1) s') →
    ∃ s', forO f (irange (i : Int) ((i + k : Nat) : Int)) s = some s' ∧ P (i + k) s'
  | 0, i, s, h, _ => ⟨s, by rw [show i + 0 = i from rfl, irangeN_nil]; rfl, h⟩
  | k + 1, i, s, h, hs => by
    obtain ⟨s1, e1, h1⟩ := hs i s (Nat.le_refl _) (by omega) h
    obtain ⟨s2, e2, h2⟩ := forO_map f P k (i + 1) s1 h1 fun j s hj hk => hs j s (by omega) (by omega)
    refine ⟨s2, ?_, by rwa [show i + (k + 1) = i + 1 + k by omega]⟩
    rw [irangeN_cons]
    simp only [forO]
    rw [e1]
    simp only [Option.bind_some]
    rw [show i + (k + 1) = i + 1 + k by omega]
    exact e2

/-- A loop over a list, told as a fold. -/
theorem forO_list {α σ : Type} (f : Int → σ → Option σ) (l : List α) (P : List α → σ → Prop) (s : σ) (h0 : P [] s) (hs : ∀ i x s, l[i]? = some x → P (l.take i) s → ∃ s', f (i : Int) s = some s' ∧ P (l.take i ++ [x]) s') :
    ∃ s', forO f (irange 0 (l.length : Int)) s = some s' ∧ P l s' := by
  have := forO_map f (fun i s => P (l.take i) s) l.length 0 s (by simpa using h0) (fun j s _ hj h => by
    have hj' : j < l.length := by omega
    obtain ⟨s', e, h'⟩ := hs j l[j] s (List.getElem?_eq_getElem hj') h
    exact ⟨s', e, by rwa [List.take_add_one, List.getElem?_eq_getElem hj']⟩)
  obtain ⟨s', e, h'⟩ := this
  refine ⟨s', by simpa using e, by simpa using h'⟩

theorem forR_map {σ ρ : Type} (f : Int → σ → Option (Br σ ρ)) (P : Nat → σ → Prop) (B : σ → Prop) (R : ρ → Prop) : ∀ (k i : Nat) (s : σ), P i s → (∀ j s, i ≤ j → j < i + k → P j s → (∃ s', f (j : Int) s = some (.next s') ∧ P (j + 1) s') ∨ (∃ s', f (j : Int) s = some (.brk s') ∧ B s') ∨ ∃ r, f (j : Int) s = some (.ret r) ∧ R r) →
    (∃ s', forR f (irange (i : Int) ((i + k : Nat) : Int)) s = some (.done s') ∧ (P (i + k) s' ∨ B s')) ∨ ∃ r, forR f (irange (i : Int) ((i + k : Nat) : Int)) s = some (.ret r) ∧ R r
  | 0, i, s, h, _ => .inl ⟨s, by rw [show i + 0 = i from rfl, irangeN_nil]; rfl, .inl h⟩
  | k + 1, i, s, h, hs => by
    rw [irangeN_cons]
    simp only [forR]
    rcases hs i s (Nat.le_refl _) (by omega) h with ⟨s1, e1, h1⟩ | ⟨s1, e1, h1⟩ | ⟨r, e1, h1⟩
    · rw [e1]
      simp only [Option.bind_some]
      rw [show i + (k + 1) = i + 1 + k by omega]
      exact forR_map f P B R k (i + 1) s1 h1 fun j s hj hk => hs j s (by omega) (by omega)
    · rw [e1]; exact .inl ⟨s1, rfl, .inr h1⟩
    · rw [e1]; exact .inr ⟨r, rfl, h1⟩

end Go.AM
