/-
  No cell of these rows narrows 'for every input' (looked for: loops, veiled, ifaces, maps, wideKeys, modest, calm, conditions, laid).
  DERIVED. THE GIVEN ROWS OF THIS SEAT. 8 by the template 'for every input the law returns true; each argument reads behind the call as it read before'; 0 by the template 'total and deterministic' (their statements: YtfjelgjfbjjopaaTotals.lean).
  GIVEN WITH THE SEED: the statements are not yours to turn. If you find one false, say at which input.
  Laid BY PROGRAM, IN A SANDBOX (cutbox-rows.mjs): the forced cells as the released guide's own fill.sh prints them over the translation ae38bc22adbb4eb5… (all of the seat's roots in one cut). By AI agents, Wed Nov 11 2026. No macro, syntax, notation, axiom, sorry.
-/
import Derived.Test.YtfjelgjfbjjopaaChecked
import GoSem.Claim
import GoSem.ClaimJoined
import GoSem.ClaimMapViews
import Derived.JoinedTies
import Derived.KernelRfl
namespace Go.Proofs.Ytfjelgjfbjjopaa
/- THE CELL 'sum', in the pinned program and in every row, IS THE sha256 OF THE DUMP (.gsa) THAT YtfjelgjfbjjopaaProg.lean LOADS. Nothing in Lean hashes anything: it is a label: what it is worth is what the hold of that sum in a sandbox is worth. -/
noncomputable def Try.pinned : Pinned := { name := "ytfjelgjfbjjopaa", sum := "ae38bc22adbb4eb5b1102d9cd794de81aabb769c75965e82832a36d92fc0a3b2", checked := Try.checked }
namespace Rows
def none {H : Type} : Left H := { results := [], args := [] }

/-- 'pointsmanlaw34.UpdateEdits': WHATEVER THE INPUT: true; the input reads as it did. -/
def updateEditsSpec : ChangeSpec := { name := "updateEdits", fn := fun _ => fun
  | [d1, d2] => { results := [.lit (.bool true)], args := [d1, d2] }
  | _ => none }
def updateEditsRow : OpenClaim := { program := "ytfjelgjfbjjopaa", sum := "ae38bc22adbb4eb5b1102d9cd794de81aabb769c75965e82832a36d92fc0a3b2", func := "pointsman/pointsmanlaw34.UpdateEdits", spec := "updateEdits", inPlace := ["slices.overlaps[pointsman/api.Row]"], unfollowed := true, recurses := true, apart := false }
def UpdateEditsSaid : Prop := updateEditsRow.holds Try.pinned (OpenSpec.ofChange updateEditsSpec)

/-- ITS FALSE NEIGHBOUR: 'it returns false'. Refute it at one input. -/
def updateEditsWrong : ChangeSpec := { name := "updateEdits", fn := fun _ => fun
  | [d1, d2] => { results := [.lit (.bool false)], args := [d1, d2] }
  | _ => none }
def UpdateEditsWrongFalsely : Prop := updateEditsRow.holds Try.pinned (OpenSpec.ofChange updateEditsWrong)

/-- 'pointsmanlaw34.UpdateDo': WHATEVER THE INPUT: true; the input reads as it did. -/
def updateDoSpec : ChangeSpec := { name := "updateDo", fn := fun _ => fun
  | [d1, d2] => { results := [.lit (.bool true)], args := [d1, d2] }
  | _ => none }
def updateDoRow : OpenClaim := { program := "ytfjelgjfbjjopaa", sum := "ae38bc22adbb4eb5b1102d9cd794de81aabb769c75965e82832a36d92fc0a3b2", func := "pointsman/pointsmanlaw34.UpdateDo", spec := "updateDo", inPlace := ["slices.overlaps[pointsman/api.Row]"], unfollowed := true, recurses := true, apart := false }
def UpdateDoSaid : Prop := updateDoRow.holds Try.pinned (OpenSpec.ofChange updateDoSpec)

/-- ITS FALSE NEIGHBOUR: 'it returns false'. Refute it at one input. -/
def updateDoWrong : ChangeSpec := { name := "updateDo", fn := fun _ => fun
  | [d1, d2] => { results := [.lit (.bool false)], args := [d1, d2] }
  | _ => none }
def UpdateDoWrongFalsely : Prop := updateDoRow.holds Try.pinned (OpenSpec.ofChange updateDoWrong)

/-- 'pointsmanlaw34.UpdateLeads': WHATEVER THE INPUT: true; the input reads as it did. -/
def updateLeadsSpec : ChangeSpec := { name := "updateLeads", fn := fun _ => fun
  | [d1, d2] => { results := [.lit (.bool true)], args := [d1, d2] }
  | _ => none }
def updateLeadsRow : OpenClaim := { program := "ytfjelgjfbjjopaa", sum := "ae38bc22adbb4eb5b1102d9cd794de81aabb769c75965e82832a36d92fc0a3b2", func := "pointsman/pointsmanlaw34.UpdateLeads", spec := "updateLeads", inPlace := ["slices.overlaps[pointsman/api.Row]"], unfollowed := true, recurses := true, apart := false }
def UpdateLeadsSaid : Prop := updateLeadsRow.holds Try.pinned (OpenSpec.ofChange updateLeadsSpec)

/-- ITS FALSE NEIGHBOUR: 'it returns false'. Refute it at one input. -/
def updateLeadsWrong : ChangeSpec := { name := "updateLeads", fn := fun _ => fun
  | [d1, d2] => { results := [.lit (.bool false)], args := [d1, d2] }
  | _ => none }
def UpdateLeadsWrongFalsely : Prop := updateLeadsRow.holds Try.pinned (OpenSpec.ofChange updateLeadsWrong)

/-- 'pointsmanlaw34.UpdateLong': WHATEVER THE INPUT: true; the input reads as it did. -/
def updateLongSpec : ChangeSpec := { name := "updateLong", fn := fun _ => fun
  | [d] => { results := [.lit (.bool true)], args := [d] }
  | _ => none }
def updateLongRow : OpenClaim := { program := "ytfjelgjfbjjopaa", sum := "ae38bc22adbb4eb5b1102d9cd794de81aabb769c75965e82832a36d92fc0a3b2", func := "pointsman/pointsmanlaw34.UpdateLong", spec := "updateLong", inPlace := ["slices.overlaps[pointsman/api.Row]"], unfollowed := true, recurses := true, apart := false }
def UpdateLongSaid : Prop := updateLongRow.holds Try.pinned (OpenSpec.ofChange updateLongSpec)

/-- ITS FALSE NEIGHBOUR: 'it returns false'. Refute it at one input. -/
def updateLongWrong : ChangeSpec := { name := "updateLong", fn := fun _ => fun
  | [d] => { results := [.lit (.bool false)], args := [d] }
  | _ => none }
def UpdateLongWrongFalsely : Prop := updateLongRow.holds Try.pinned (OpenSpec.ofChange updateLongWrong)

/-- 'pointsmanlaw29.GraphWays': WHATEVER THE INPUT: true; the input reads as it did. -/
def graphWaysSpec : ChangeSpec := { name := "graphWays", fn := fun _ => fun
  | [d1, d2, d3] => { results := [.lit (.bool true)], args := [d1, d2, d3] }
  | _ => none }
def graphWaysRow : OpenClaim := { program := "ytfjelgjfbjjopaa", sum := "ae38bc22adbb4eb5b1102d9cd794de81aabb769c75965e82832a36d92fc0a3b2", func := "pointsman/pointsmanlaw29.GraphWays", spec := "graphWays", unfollowed := true, recurses := true, apart := false }
def GraphWaysSaid : Prop := graphWaysRow.holds Try.pinned (OpenSpec.ofChange graphWaysSpec)

/-- ITS FALSE NEIGHBOUR: 'it returns false'. Refute it at one input. -/
def graphWaysWrong : ChangeSpec := { name := "graphWays", fn := fun _ => fun
  | [d1, d2, d3] => { results := [.lit (.bool false)], args := [d1, d2, d3] }
  | _ => none }
def GraphWaysWrongFalsely : Prop := graphWaysRow.holds Try.pinned (OpenSpec.ofChange graphWaysWrong)

/-- 'pointsmanlaw29.GraphFar': WHATEVER THE INPUT: true; the input reads as it did. -/
def graphFarSpec : ChangeSpec := { name := "graphFar", fn := fun _ => fun
  | [d1, d2] => { results := [.lit (.bool true)], args := [d1, d2] }
  | _ => none }
def graphFarRow : OpenClaim := { program := "ytfjelgjfbjjopaa", sum := "ae38bc22adbb4eb5b1102d9cd794de81aabb769c75965e82832a36d92fc0a3b2", func := "pointsman/pointsmanlaw29.GraphFar", spec := "graphFar", unfollowed := true, recurses := true, apart := false }
def GraphFarSaid : Prop := graphFarRow.holds Try.pinned (OpenSpec.ofChange graphFarSpec)

/-- ITS FALSE NEIGHBOUR: 'it returns false'. Refute it at one input. -/
def graphFarWrong : ChangeSpec := { name := "graphFar", fn := fun _ => fun
  | [d1, d2] => { results := [.lit (.bool false)], args := [d1, d2] }
  | _ => none }
def GraphFarWrongFalsely : Prop := graphFarRow.holds Try.pinned (OpenSpec.ofChange graphFarWrong)

/-- 'pointsmanlaw29.GraphParts': WHATEVER THE INPUT: true; the input reads as it did. -/
def graphPartsSpec : ChangeSpec := { name := "graphParts", fn := fun _ => fun
  | [d1, d2] => { results := [.lit (.bool true)], args := [d1, d2] }
  | _ => none }
def graphPartsRow : OpenClaim := { program := "ytfjelgjfbjjopaa", sum := "ae38bc22adbb4eb5b1102d9cd794de81aabb769c75965e82832a36d92fc0a3b2", func := "pointsman/pointsmanlaw29.GraphParts", spec := "graphParts", unfollowed := true, recurses := true, apart := false }
def GraphPartsSaid : Prop := graphPartsRow.holds Try.pinned (OpenSpec.ofChange graphPartsSpec)

/-- ITS FALSE NEIGHBOUR: 'it returns false'. Refute it at one input. -/
def graphPartsWrong : ChangeSpec := { name := "graphParts", fn := fun _ => fun
  | [d1, d2] => { results := [.lit (.bool false)], args := [d1, d2] }
  | _ => none }
def GraphPartsWrongFalsely : Prop := graphPartsRow.holds Try.pinned (OpenSpec.ofChange graphPartsWrong)

/-- 'pointsmanlaw10.MergeFull': WHATEVER THE INPUT: true; the input reads as it did. -/
def mergeFullSpec : ChangeSpec := { name := "mergeFull", fn := fun _ => fun
  | [d1, d2] => { results := [.lit (.bool true)], args := [d1, d2] }
  | _ => none }
def mergeFullRow : OpenClaim := { program := "ytfjelgjfbjjopaa", sum := "ae38bc22adbb4eb5b1102d9cd794de81aabb769c75965e82832a36d92fc0a3b2", func := "pointsman/pointsmanlaw10.MergeFull", spec := "mergeFull", unfollowed := true, recurses := true, apart := false }
def MergeFullSaid : Prop := mergeFullRow.holds Try.pinned (OpenSpec.ofChange mergeFullSpec)

/-- ITS FALSE NEIGHBOUR: 'it returns false'. Refute it at one input. -/
def mergeFullWrong : ChangeSpec := { name := "mergeFull", fn := fun _ => fun
  | [d1, d2] => { results := [.lit (.bool false)], args := [d1, d2] }
  | _ => none }
def MergeFullWrongFalsely : Prop := mergeFullRow.holds Try.pinned (OpenSpec.ofChange mergeFullWrong)

/- THE SECOND FORM. 'bulk': how many values and letters a reading holds, each counted each time it is reached (what is shared counts as often as it is met; a slice's spare places count too). A statement '..UptoSaid' is the law's where the arguments, and the package variables that the reading takes, are together of bulk at most 1048576: NARROWER than '..Said'. Prove '..Said' where nothing that the law and all that it calls make is longer than what came in: it says more and counts as full. Else prove '..UptoSaid'. A law counts once. -/
mutual
def uptoBulk {H : Type} : DataW H → Nat
  | .lit (.string bytes) => bytes.length + 1
  | .lit _ => 1
  | .nil => 1
  | .ptr d => uptoBulk d + 1
  | .slice elems spare => uptoBulkAll elems + uptoBulkAll spare + 1
  | .agg parts => uptoBulkAll parts + 1
  | .iface _ d => uptoBulk d + 1
  | .map entries => uptoBulkEntries entries + 1
  | .held _ => 1
def uptoBulkAll {H : Type} : List (DataW H) → Nat
  | [] => 0
  | d :: r => uptoBulk d + uptoBulkAll r
def uptoBulkEntries {H : Type} : List (Lit × DataW H) → Nat
  | [] => 0
  | x :: r => uptoBulkEntry x + uptoBulkEntries r
def uptoBulkEntry {H : Type} : Lit × DataW H → Nat
  | (.string bytes, d) => bytes.length + uptoBulk d + 1
  | (_, d) => uptoBulk d + 1
 end
def uptoSmall : (H : Type) → List (DataW H) → Bool := fun _ ds => decide (uptoBulkAll ds ≤ 1048576)
def OpenSpec.upto (s : _root_.Go.ChangeSpec) : _root_.Go.OpenSpec := { _root_.Go.OpenSpec.ofChange s with cond := some uptoSmall }

/-- 'pointsmanlaw34.UpdateEdits', WHERE WHAT IT READS IS OF BULK AT MOST 1048576: true; the input reads as it did. -/
def updateEditsUptoRow : OpenClaim := { program := "ytfjelgjfbjjopaa", sum := "ae38bc22adbb4eb5b1102d9cd794de81aabb769c75965e82832a36d92fc0a3b2", func := "pointsman/pointsmanlaw34.UpdateEdits", spec := "updateEdits", inPlace := ["slices.overlaps[pointsman/api.Row]"], unfollowed := true, recurses := true, apart := false, narrowed := true }
def UpdateEditsUptoSaid : Prop := updateEditsUptoRow.holds Try.pinned (OpenSpec.upto updateEditsSpec)

/-- 'pointsmanlaw34.UpdateDo', WHERE WHAT IT READS IS OF BULK AT MOST 1048576: true; the input reads as it did. -/
def updateDoUptoRow : OpenClaim := { program := "ytfjelgjfbjjopaa", sum := "ae38bc22adbb4eb5b1102d9cd794de81aabb769c75965e82832a36d92fc0a3b2", func := "pointsman/pointsmanlaw34.UpdateDo", spec := "updateDo", inPlace := ["slices.overlaps[pointsman/api.Row]"], unfollowed := true, recurses := true, apart := false, narrowed := true }
def UpdateDoUptoSaid : Prop := updateDoUptoRow.holds Try.pinned (OpenSpec.upto updateDoSpec)

/-- 'pointsmanlaw34.UpdateLeads', WHERE WHAT IT READS IS OF BULK AT MOST 1048576: true; the input reads as it did. -/
def updateLeadsUptoRow : OpenClaim := { program := "ytfjelgjfbjjopaa", sum := "ae38bc22adbb4eb5b1102d9cd794de81aabb769c75965e82832a36d92fc0a3b2", func := "pointsman/pointsmanlaw34.UpdateLeads", spec := "updateLeads", inPlace := ["slices.overlaps[pointsman/api.Row]"], unfollowed := true, recurses := true, apart := false, narrowed := true }
def UpdateLeadsUptoSaid : Prop := updateLeadsUptoRow.holds Try.pinned (OpenSpec.upto updateLeadsSpec)

/-- 'pointsmanlaw34.UpdateLong', WHERE WHAT IT READS IS OF BULK AT MOST 1048576: true; the input reads as it did. -/
def updateLongUptoRow : OpenClaim := { program := "ytfjelgjfbjjopaa", sum := "ae38bc22adbb4eb5b1102d9cd794de81aabb769c75965e82832a36d92fc0a3b2", func := "pointsman/pointsmanlaw34.UpdateLong", spec := "updateLong", inPlace := ["slices.overlaps[pointsman/api.Row]"], unfollowed := true, recurses := true, apart := false, narrowed := true }
def UpdateLongUptoSaid : Prop := updateLongUptoRow.holds Try.pinned (OpenSpec.upto updateLongSpec)

/-- 'pointsmanlaw29.GraphWays', WHERE WHAT IT READS IS OF BULK AT MOST 1048576: true; the input reads as it did. -/
def graphWaysUptoRow : OpenClaim := { program := "ytfjelgjfbjjopaa", sum := "ae38bc22adbb4eb5b1102d9cd794de81aabb769c75965e82832a36d92fc0a3b2", func := "pointsman/pointsmanlaw29.GraphWays", spec := "graphWays", unfollowed := true, recurses := true, apart := false, narrowed := true }
def GraphWaysUptoSaid : Prop := graphWaysUptoRow.holds Try.pinned (OpenSpec.upto graphWaysSpec)

/-- 'pointsmanlaw29.GraphFar', WHERE WHAT IT READS IS OF BULK AT MOST 1048576: true; the input reads as it did. -/
def graphFarUptoRow : OpenClaim := { program := "ytfjelgjfbjjopaa", sum := "ae38bc22adbb4eb5b1102d9cd794de81aabb769c75965e82832a36d92fc0a3b2", func := "pointsman/pointsmanlaw29.GraphFar", spec := "graphFar", unfollowed := true, recurses := true, apart := false, narrowed := true }
def GraphFarUptoSaid : Prop := graphFarUptoRow.holds Try.pinned (OpenSpec.upto graphFarSpec)

/-- 'pointsmanlaw29.GraphParts', WHERE WHAT IT READS IS OF BULK AT MOST 1048576: true; the input reads as it did. -/
def graphPartsUptoRow : OpenClaim := { program := "ytfjelgjfbjjopaa", sum := "ae38bc22adbb4eb5b1102d9cd794de81aabb769c75965e82832a36d92fc0a3b2", func := "pointsman/pointsmanlaw29.GraphParts", spec := "graphParts", unfollowed := true, recurses := true, apart := false, narrowed := true }
def GraphPartsUptoSaid : Prop := graphPartsUptoRow.holds Try.pinned (OpenSpec.upto graphPartsSpec)

/-- 'pointsmanlaw10.MergeFull', WHERE WHAT IT READS IS OF BULK AT MOST 1048576: true; the input reads as it did. -/
def mergeFullUptoRow : OpenClaim := { program := "ytfjelgjfbjjopaa", sum := "ae38bc22adbb4eb5b1102d9cd794de81aabb769c75965e82832a36d92fc0a3b2", func := "pointsman/pointsmanlaw10.MergeFull", spec := "mergeFull", unfollowed := true, recurses := true, apart := false, narrowed := true }
def MergeFullUptoSaid : Prop := mergeFullUptoRow.holds Try.pinned (OpenSpec.upto mergeFullSpec)

end Rows
end Go.Proofs.Ytfjelgjfbjjopaa
