import Derived.Test.YtkgegocfjalcbaaSP0
import Derived.Test.YtkgegocfjalcbaaSP1
/-
  Layer 11 of the program: the rules.
-/
set_option linter.unusedVariables false
set_option linter.unusedSimpArgs false
namespace Go.AM
open Go

theorem contains_pair (l : List api_Pair) (p : api_Pair → Bool) (hl : l.length ≤ 1000) (f : api_Pair → Option Bool) (hf : ∀ x, f x = some (p x)) : slices_ContainsFunc_api_Pair l f = some (l.any p) := by
  unfold slices_ContainsFunc_api_Pair slices_IndexFunc_api_Pair
  rw [find_run p l _ fun j x hj => by
    simp only [slices_IndexFunc_api_Pair_b1, gat_nat, hj, Option.bind_some, hf]
    split <;> rfl]
  cases h : l.findIdx? p with
  | none =>
    have : l.any p = false := by rw [List.findIdx?_eq_none_iff] at h; simpa using h
    rw [this]; rfl
  | some i =>
    obtain ⟨hi, hp, _⟩ := List.findIdx?_eq_some_iff_getElem.1 h
    have : l.any p = true := List.any_eq_true.2 ⟨l[i], List.getElem_mem hi, hp⟩
    rw [this]
    simp [exOf]

theorem goes_ok (r : api_Rule) (s : List Int) (hl : r.Guard.length ≤ 1000) : space_Goes r s = some (goB r s) := by
  unfold space_Goes goB
  rw [contains_pair r.Guard (fun g => decide (g.F < 0) || decide (g.F ≥ s.length) || (s[g.F.toNat]?).getD 0 != g.N) hl _ fun g => by
    simp only [space_Goes_1]
    by_cases c1 : g.F < 0
    · simp [c1]
    by_cases c2 : g.F ≥ s.length
    · simp [c1, c2]
    · have hlt : g.F.toNat < s.length := by omega
      simp [c1, c2, gat, show (0 : Int) ≤ g.F by omega, List.getElem?_eq_getElem hlt]]
  rfl

theorem after_ok (r : api_Rule) (s : List Int) (hl : s.length ≤ 1000) : space_After r s = some (aftL r s) := by
  have := after11 r s hl
  unfold ref11_After at this
  unfold space_After slices_Clone_uint16
  rw [gapp_some (by simp; omega)] at this ⊢
  exact this

end Go.AM
