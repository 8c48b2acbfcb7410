import Derived.Test.YtnnkfanmokeiaaaAmN6
set_option linter.unusedVariables false
set_option linter.unusedSectionVars false
set_option linter.unusedSimpArgs false
namespace Go.AM
open Go
theorem mI (i k : Nat) : bS (i : Int) ((i + k : Nat) : Int) = (List.range k).map fun (j : Nat) => ((i + j : Nat) : Int) := by
  simp only [bS]
  rw [show (((i + k : Nat) : Int) - (i : Int)).toNat = k by omega]
  refine List.map_congr_left fun j _ => ?_
  push_cast; rfl
theorem j1 (i k : Nat) : bS (i : Int) ((i + (k + 1) : Nat) : Int) = (i : Int) :: bS ((i + 1 : Nat) : Int) ((i + (k + 1) : Nat) : Int) := by
  rw [mI, show i + (k + 1) = (i + 1) + k by omega, mI, List.range_succ_eq_map]
  simp only [List.map_cons, List.map_map, Nat.add_zero]
  congr 1
  refine List.map_congr_left fun j _ => ?_
  simp only [Function.comp_apply, Nat.succ_eq_add_one]
  push_cast; omega
theorem j3 (i : Nat) : bS (i : Int) (i : Int) = [] := by simp [bS]
theorem gl {α : Type} (l : List α) (i : Nat) : bC l (i : Int) = l[i]? := by
  unfold bC; rw [if_pos (by omega), Int.toNat_natCast]
theorem mJ {σ : Type} (f : Int → σ → Option σ) (P : Nat → σ → Prop) : ∀ (k i : Nat) (s : σ), P i s → (∀ j s, i ≤ j → j < i + k → P j s → ∃ s', f (j : Int) s = some s' ∧ P (j + 1) s') →
    ∃ s', dw f (bS (i : Int) ((i + k : Nat) : Int)) s = some s' ∧ P (i + k) s'
  | 0, i, s, h, _ => ⟨s, by rw [show i + 0 = i from rfl, j3]; rfl, h⟩
  | k + 1, i, s, h, hs => by
    obtain ⟨s1, e1, h1⟩ := hs i s (Nat.le_refl _) (by omega) h
    obtain ⟨s2, e2, h2⟩ := mJ f P k (i + 1) s1 h1 fun j s hj hk => hs j s (by omega) (by omega)
    refine ⟨s2, ?_, by rwa [show i + (k + 1) = i + 1 + k by omega]⟩
    rw [j1]
    simp only [dw]
    rw [e1]
    simp only [Option.bind_some]
    rw [show i + (k + 1) = i + 1 + k by omega]
    exact e2
theorem qF {α σ : Type} (f : Int → σ → Option σ) (l : List α) (P : List α → σ → Prop) (s : σ) (h0 : P [] s) (hs : ∀ i x s, l[i]? = some x → P (l.take i) s → ∃ s', f (i : Int) s = some s' ∧ P (l.take i ++ [x]) s') :
    ∃ s', dw f (bS 0 (l.length : Int)) s = some s' ∧ P l s' := by
  have := mJ f (fun i s => P (l.take i) s) l.length 0 s (by simpa using h0) (fun j s _ hj h => by
    have hj' : j < l.length := by omega
    obtain ⟨s', e, h'⟩ := hs j l[j] s (cG hj') h
    exact ⟨s', e, by rwa [List.take_add_one, cG hj']⟩)
  obtain ⟨s', e, h'⟩ := this
  refine ⟨s', by simpa using e, by simpa using h'⟩
end Go.AM
