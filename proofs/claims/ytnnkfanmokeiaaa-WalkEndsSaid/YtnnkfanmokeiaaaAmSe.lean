import Derived.Test.YtnnkfanmokeiaaaAmN7
set_option linter.unusedVariables false
namespace Go.AM
open Go
variable [Glob]
theorem eT.sees {P : Program} {f : Nat} {vals vals' : List V} {pre : List (Nat × aQ)} {v : V} {post : List (Nat × Option aQ)} {n m : Nat} {W : List Nat} (h : eT P f vals' pre v post n m W) (ex : List (Nat × aQ)) (hv : ∀ σ : az, (∀ p ∈ ex, σ p.1 = some p.2) → gk σ vals vals') : eT P f vals (pre ++ ex) v post n m W :=
  ⟨h.le, h.dom, fun id hid => by rw [List.map_append]; exact List.mem_append_left _ (h.sub id hid), h.cov, fun σ hp =>
    bO.sees (h.run σ fun p hq => hp p (List.mem_append_left _ hq)) (hv σ fun p hq => hp p (List.mem_append_right _ hq))⟩
end Go.AM
