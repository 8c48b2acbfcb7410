import Derived.Test.YtnnkfanmokeiaaaAmN6
set_option linter.unusedVariables false
set_option linter.unusedSectionVars false
set_option linter.unusedSimpArgs false
namespace Go.AM
open Go
theorem w_u8 (n : Int) : IntKind.u8.wrap n = n % 256 := ry n
theorem gS {n : Int} (h0 : -9223372036854775808 ≤ n) (h1 : n < 9223372036854775808) : IntKind.i64.wrap n = n := rz h0 h1
theorem ob (i k : Nat) : bF (i : Int) ((i + k : Nat) : Int) = (List.range k).map fun (j : Nat) => ((i + j : Nat) : Int) := by
  simp only [bF]
  rw [show (((i + k : Nat) : Int) - (i : Int)).toNat = k by omega]
  refine List.map_congr_left fun j _ => ?_
  push_cast; rfl
theorem oc (i k : Nat) : bF (i : Int) ((i + (k + 1) : Nat) : Int) = (i : Int) :: bF ((i + 1 : Nat) : Int) ((i + (k + 1) : Nat) : Int) := by
  rw [ob, show i + (k + 1) = (i + 1) + k by omega, ob, List.range_succ_eq_map]
  simp only [List.map_cons, List.map_map, Nat.add_zero]
  congr 1
  refine List.map_congr_left fun j _ => ?_
  simp only [Function.comp_apply, Nat.succ_eq_add_one]
  push_cast; omega
theorem od (i : Nat) : bF (i : Int) (i : Int) = [] := by simp [bF]
theorem jH {α : Type} {xs ys : List α} (h : xs.length + ys.length ≤ 4294967296) : cS xs ys = some (xs ++ ys) := by unfold cS; rw [if_pos h]
theorem gT {α : Type} (l : List α) (i : Nat) : bt l (i : Int) = l[i]? := by
  unfold bt; rw [if_pos (by omega), Int.toNat_natCast]
theorem jI (k : Nat) (h : k ≤ 1000000) : ∃ m, cm = m + k := ⟨cm - k, by unfold cm; omega⟩
theorem oe {σ : Type} (f : Int → σ → Option σ) (P : Nat → σ → Prop) : ∀ (k i : Nat) (s : σ), P i s → (∀ j s, i ≤ j → j < i + k → P j s → ∃ s', f (j : Int) s = some s' ∧ P (j + 1) s') →
    ∃ s', cT f (bF (i : Int) ((i + k : Nat) : Int)) s = some s' ∧ P (i + k) s'
  | 0, i, s, h, _ => ⟨s, by rw [show i + 0 = i from rfl, od]; rfl, h⟩
  | k + 1, i, s, h, hs => by
    obtain ⟨s1, e1, h1⟩ := hs i s (Nat.le_refl _) (by omega) h
    obtain ⟨s2, e2, h2⟩ := oe f P k (i + 1) s1 h1 fun j s hj hk => hs j s (by omega) (by omega)
    refine ⟨s2, ?_, by rwa [show i + (k + 1) = i + 1 + k by omega]⟩
    rw [oc]
    simp only [cT]
    rw [e1]
    simp only [Option.bind_some]
    rw [show i + (k + 1) = i + 1 + k by omega]
    exact e2
theorem iN {α σ : Type} (f : Int → σ → Option σ) (l : List α) (P : List α → σ → Prop) (s : σ) (h0 : P [] s) (hs : ∀ i x s, l[i]? = some x → P (l.take i) s → ∃ s', f (i : Int) s = some s' ∧ P (l.take i ++ [x]) s') :
    ∃ s', cT f (bF 0 (l.length : Int)) s = some s' ∧ P l s' := by
  have := oe f (fun i s => P (l.take i) s) l.length 0 s (by simpa using h0) (fun j s _ hj h => by
    have hj' : j < l.length := by omega
    obtain ⟨s', e, h'⟩ := hs j l[j] s (cA hj') h
    exact ⟨s', e, by rwa [List.take_add_one, cA hj']⟩)
  obtain ⟨s', e, h'⟩ := this
  refine ⟨s', by simpa using e, by simpa using h'⟩
end Go.AM
