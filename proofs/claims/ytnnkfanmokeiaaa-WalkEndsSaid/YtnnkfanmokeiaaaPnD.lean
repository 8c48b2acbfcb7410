import Derived.Test.YtnnkfanmokeiaaaAmDf
import Derived.Recover
import Derived.Tactics
import Derived.Tactics2
import Derived.Defers
import Derived.Test.YtnnkfanmokeiaaaProg
set_option linter.unusedVariables false
set_option linter.unusedSimpArgs false
namespace Go.AM
open Go Go.RowKit Go.Proofs
instance tabs : Glob := ⟨[], [49]⟩
theorem rG : mj Try.prog 49 := by
  intro cap w
  refine ⟨by simp [invoke, go_sem], ?_⟩
  refine callsD_of_wpS Try.func49 rfl fun c₀ cs hu => ?_
  have h5 : 5 < cap.size + (16 - cap.size) := by omega
  have h2 : 2 < cap.size + (16 - cap.size) := by omega
  have h6 : 6 < cap.size + (16 - cap.size) := by omega
  have h7 : 7 < cap.size + (16 - cap.size) := by omega
  apply wpS_seq
  apply wpS_region
  simp [wpOpsS, go_sem, recoverD, hu, Exit.thenS, Try.ntmps49, h5]
  apply wpS_seq
  apply wpS_region
  simp [wpOpsS, go_sem, Exit.thenS, h2, h6]
  refine wpS_cond (t := false) (by simp [Act.eval, go_sem, h7]) ?_
  simp only [Bool.false_eq_true, if_false]
  refine wpS_of_wp (wp_skip ?_)
  cases c₀
  simp_all [bodyPostS, results, Try.results49]
instance : DfrOk Try.prog := ⟨fun G h => by
  rcases List.mem_singleton.1 h with rfl
  exact rG⟩
end Go.AM
