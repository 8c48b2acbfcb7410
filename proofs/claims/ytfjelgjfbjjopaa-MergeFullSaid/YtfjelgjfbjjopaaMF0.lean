import Derived.Test.YtfjelgjfbjjopaaAmLp
import Derived.Test.YtfjelgjfbjjopaaMfT
/-
  Layer 10: as many rows as there may be.
-/
set_option linter.unusedVariables false
namespace Go.AM
open Go

theorem awake10 : law10_awake = some true := by decide +kernel

theorem full_all : ((List.range 16).all fun n => (List.range 3).all fun t => decide (law10_MergeFull (n : Int) ((t + 1 : Nat) : Int) = some true)) = true := by decide +kernel

theorem law_full (a0 a1 : Int) (h0 : IntKind.u8.wrap a0 = a0) (h1 : IntKind.u8.wrap a1 = a1) : law10_MergeFull a0 a1 = some true := by
  have e : ∀ x : Int, IntKind.u8.wrap x = x % 256 := fun x => rfl
  rw [e] at h0 h1
  by_cases c : a0 > 15 ∨ a1 < 1 ∨ a1 > 3
  · unfold law10_MergeFull
    rw [awake10]
    simp only [Option.bind_some, Bool.not_true, Bool.false_eq_true, if_false]
    rw [if_pos (by simpa using c)]
  · have hn : a0 = (a0.toNat : Int) := by omega
    have ht : a1 = ((a1.toNat - 1 + 1 : Nat) : Int) := by omega
    rw [hn, ht]
    have := List.all_eq_true.1 (List.all_eq_true.1 full_all a0.toNat (List.mem_range.2 (by omega))) (a1.toNat - 1) (List.mem_range.2 (by omega))
    simpa using this
end Go.AM
