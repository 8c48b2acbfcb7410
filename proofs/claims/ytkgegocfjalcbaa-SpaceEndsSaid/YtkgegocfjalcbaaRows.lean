/-
  NARROWER THAN 'FOR EVERY INPUT', by the rows' own cells (each row's printed sentence says how): SpaceExplores: loops · SpaceEnds: loops · TrimTells: loops.
  DERIVED. THE GIVEN ROWS OF THIS SEAT. 10 by the template 'for every input the law returns true; each argument reads behind the call as it read before'; 0 by the template 'total and deterministic' (their statements: YtkgegocfjalcbaaTotals.lean).
  GIVEN WITH THE SEED: the statements are not yours to turn. If you find one false, say at which input.
  Laid BY PROGRAM, IN A SANDBOX (cutbox-rows.mjs): the forced cells as the released guide's own fill.sh prints them over the translation 3ae631fe68976958… (all of the seat's roots in one cut). By AI agents, Wed Nov 11 2026. No macro, syntax, notation, axiom, sorry.
-/
import Derived.Test.YtkgegocfjalcbaaChecked
import GoSem.Claim
import GoSem.ClaimJoined
import GoSem.ClaimMapViews
import Derived.JoinedTies
import Derived.KernelRfl
namespace Go.Proofs.Ytkgegocfjalcbaa
/- THE CELL 'sum', in the pinned program and in every row, IS THE sha256 OF THE DUMP (.gsa) THAT YtkgegocfjalcbaaProg.lean LOADS. Nothing in Lean hashes anything: it is a label: what it is worth is what the hold of that sum in a sandbox is worth. -/
noncomputable def Try.pinned : Pinned := { name := "ytkgegocfjalcbaa", sum := "3ae631fe68976958106fff40d5fc1ecdc9a5c59e0391b63fc015d5cf97081733", checked := Try.checked }
namespace Rows
def none {H : Type} : Left H := { results := [], args := [] }

/-- 'pointsmanlaw32.SaveAny': WHATEVER THE INPUT: true; the input reads as it did. -/
def saveAnySpec : ChangeSpec := { name := "saveAny", fn := fun _ => fun
  | [d] => { results := [.lit (.bool true)], args := [d] }
  | _ => none }
def saveAnyRow : OpenClaim := { program := "ytkgegocfjalcbaa", sum := "3ae631fe68976958106fff40d5fc1ecdc9a5c59e0391b63fc015d5cf97081733", func := "pointsman/pointsmanlaw32.SaveAny", spec := "saveAny", recurses := true, apart := false }
def SaveAnySaid : Prop := saveAnyRow.holds Try.pinned (OpenSpec.ofChange saveAnySpec)

/-- ITS FALSE NEIGHBOUR: 'it returns false'. Refute it at one input. -/
def saveAnyWrong : ChangeSpec := { name := "saveAny", fn := fun _ => fun
  | [d] => { results := [.lit (.bool false)], args := [d] }
  | _ => none }
def SaveAnyWrongFalsely : Prop := saveAnyRow.holds Try.pinned (OpenSpec.ofChange saveAnyWrong)

/-- 'pointsmanlaw32.SaveMade': WHATEVER THE INPUT: true; the input reads as it did. -/
def saveMadeSpec : ChangeSpec := { name := "saveMade", fn := fun _ => fun
  | [d] => { results := [.lit (.bool true)], args := [d] }
  | _ => none }
def saveMadeRow : OpenClaim := { program := "ytkgegocfjalcbaa", sum := "3ae631fe68976958106fff40d5fc1ecdc9a5c59e0391b63fc015d5cf97081733", func := "pointsman/pointsmanlaw32.SaveMade", spec := "saveMade", recurses := true, apart := false }
def SaveMadeSaid : Prop := saveMadeRow.holds Try.pinned (OpenSpec.ofChange saveMadeSpec)

/-- ITS FALSE NEIGHBOUR: 'it returns false'. Refute it at one input. -/
def saveMadeWrong : ChangeSpec := { name := "saveMade", fn := fun _ => fun
  | [d] => { results := [.lit (.bool false)], args := [d] }
  | _ => none }
def SaveMadeWrongFalsely : Prop := saveMadeRow.holds Try.pinned (OpenSpec.ofChange saveMadeWrong)

/-- 'pointsmanlaw32.SaveBack': WHATEVER THE INPUT: true; the input reads as it did. -/
def saveBackSpec : ChangeSpec := { name := "saveBack", fn := fun _ => fun
  | [d] => { results := [.lit (.bool true)], args := [d] }
  | _ => none }
def saveBackRow : OpenClaim := { program := "ytkgegocfjalcbaa", sum := "3ae631fe68976958106fff40d5fc1ecdc9a5c59e0391b63fc015d5cf97081733", func := "pointsman/pointsmanlaw32.SaveBack", spec := "saveBack", recurses := true, apart := false }
def SaveBackSaid : Prop := saveBackRow.holds Try.pinned (OpenSpec.ofChange saveBackSpec)

/-- ITS FALSE NEIGHBOUR: 'it returns false'. Refute it at one input. -/
def saveBackWrong : ChangeSpec := { name := "saveBack", fn := fun _ => fun
  | [d] => { results := [.lit (.bool false)], args := [d] }
  | _ => none }
def SaveBackWrongFalsely : Prop := saveBackRow.holds Try.pinned (OpenSpec.ofChange saveBackWrong)

/-- 'pointsmanlaw11.SpaceExplores': WHATEVER THE INPUT: true; the input reads as it did. -/
def spaceExploresSpec : ChangeSpec := { name := "spaceExplores", fn := fun _ => fun
  | [d] => { results := [.lit (.bool true)], args := [d] }
  | _ => none }
def spaceExploresRow : OpenClaim := { program := "ytkgegocfjalcbaa", sum := "3ae631fe68976958106fff40d5fc1ecdc9a5c59e0391b63fc015d5cf97081733", func := "pointsman/pointsmanlaw11.SpaceExplores", spec := "spaceExplores", unfollowed := true, recurses := true, loops := true, apart := false }
def SpaceExploresSaid : Prop := spaceExploresRow.holds Try.pinned (OpenSpec.ofChange spaceExploresSpec)

/-- ITS FALSE NEIGHBOUR: 'it returns false'. Refute it at one input. -/
def spaceExploresWrong : ChangeSpec := { name := "spaceExplores", fn := fun _ => fun
  | [d] => { results := [.lit (.bool false)], args := [d] }
  | _ => none }
def SpaceExploresWrongFalsely : Prop := spaceExploresRow.holds Try.pinned (OpenSpec.ofChange spaceExploresWrong)

/-- 'pointsmanlaw11.SpaceRules': WHATEVER THE INPUT: true; the input reads as it did. -/
def spaceRulesSpec : ChangeSpec := { name := "spaceRules", fn := fun _ => fun
  | [d1, d2] => { results := [.lit (.bool true)], args := [d1, d2] }
  | _ => none }
def spaceRulesRow : OpenClaim := { program := "ytkgegocfjalcbaa", sum := "3ae631fe68976958106fff40d5fc1ecdc9a5c59e0391b63fc015d5cf97081733", func := "pointsman/pointsmanlaw11.SpaceRules", spec := "spaceRules", unfollowed := true, recurses := true, apart := false }
def SpaceRulesSaid : Prop := spaceRulesRow.holds Try.pinned (OpenSpec.ofChange spaceRulesSpec)

/-- ITS FALSE NEIGHBOUR: 'it returns false'. Refute it at one input. -/
def spaceRulesWrong : ChangeSpec := { name := "spaceRules", fn := fun _ => fun
  | [d1, d2] => { results := [.lit (.bool false)], args := [d1, d2] }
  | _ => none }
def SpaceRulesWrongFalsely : Prop := spaceRulesRow.holds Try.pinned (OpenSpec.ofChange spaceRulesWrong)

/-- 'pointsmanlaw11.SpaceEnds': WHATEVER THE INPUT: true; the input reads as it did. -/
def spaceEndsSpec : ChangeSpec := { name := "spaceEnds", fn := fun _ => fun
  | [d] => { results := [.lit (.bool true)], args := [d] }
  | _ => none }
def spaceEndsRow : OpenClaim := { program := "ytkgegocfjalcbaa", sum := "3ae631fe68976958106fff40d5fc1ecdc9a5c59e0391b63fc015d5cf97081733", func := "pointsman/pointsmanlaw11.SpaceEnds", spec := "spaceEnds", unfollowed := true, recurses := true, loops := true, apart := false }
def SpaceEndsSaid : Prop := spaceEndsRow.holds Try.pinned (OpenSpec.ofChange spaceEndsSpec)

/-- ITS FALSE NEIGHBOUR: 'it returns false'. Refute it at one input. -/
def spaceEndsWrong : ChangeSpec := { name := "spaceEnds", fn := fun _ => fun
  | [d] => { results := [.lit (.bool false)], args := [d] }
  | _ => none }
def SpaceEndsWrongFalsely : Prop := spaceEndsRow.holds Try.pinned (OpenSpec.ofChange spaceEndsWrong)

/-- 'pointsmanlaw28.TrimKeeps': WHATEVER THE INPUT: true; the input reads as it did. -/
def trimKeepsSpec : ChangeSpec := { name := "trimKeeps", fn := fun _ => fun
  | [d1, d2, d3] => { results := [.lit (.bool true)], args := [d1, d2, d3] }
  | _ => none }
def trimKeepsRow : OpenClaim := { program := "ytkgegocfjalcbaa", sum := "3ae631fe68976958106fff40d5fc1ecdc9a5c59e0391b63fc015d5cf97081733", func := "pointsman/pointsmanlaw28.TrimKeeps", spec := "trimKeeps", unfollowed := true, recurses := true, apart := false }
def TrimKeepsSaid : Prop := trimKeepsRow.holds Try.pinned (OpenSpec.ofChange trimKeepsSpec)

/-- ITS FALSE NEIGHBOUR: 'it returns false'. Refute it at one input. -/
def trimKeepsWrong : ChangeSpec := { name := "trimKeeps", fn := fun _ => fun
  | [d1, d2, d3] => { results := [.lit (.bool false)], args := [d1, d2, d3] }
  | _ => none }
def TrimKeepsWrongFalsely : Prop := trimKeepsRow.holds Try.pinned (OpenSpec.ofChange trimKeepsWrong)

/-- 'pointsmanlaw28.TrimLess': WHATEVER THE INPUT: true; the input reads as it did. -/
def trimLessSpec : ChangeSpec := { name := "trimLess", fn := fun _ => fun
  | [d] => { results := [.lit (.bool true)], args := [d] }
  | _ => none }
def trimLessRow : OpenClaim := { program := "ytkgegocfjalcbaa", sum := "3ae631fe68976958106fff40d5fc1ecdc9a5c59e0391b63fc015d5cf97081733", func := "pointsman/pointsmanlaw28.TrimLess", spec := "trimLess", unfollowed := true, recurses := true, apart := false }
def TrimLessSaid : Prop := trimLessRow.holds Try.pinned (OpenSpec.ofChange trimLessSpec)

/-- ITS FALSE NEIGHBOUR: 'it returns false'. Refute it at one input. -/
def trimLessWrong : ChangeSpec := { name := "trimLess", fn := fun _ => fun
  | [d] => { results := [.lit (.bool false)], args := [d] }
  | _ => none }
def TrimLessWrongFalsely : Prop := trimLessRow.holds Try.pinned (OpenSpec.ofChange trimLessWrong)

/-- 'pointsmanlaw28.TrimLaws': WHATEVER THE INPUT: true; the input reads as it did. -/
def trimLawsSpec : ChangeSpec := { name := "trimLaws", fn := fun _ => fun
  | [d] => { results := [.lit (.bool true)], args := [d] }
  | _ => none }
def trimLawsRow : OpenClaim := { program := "ytkgegocfjalcbaa", sum := "3ae631fe68976958106fff40d5fc1ecdc9a5c59e0391b63fc015d5cf97081733", func := "pointsman/pointsmanlaw28.TrimLaws", spec := "trimLaws", unfollowed := true, recurses := true, apart := false }
def TrimLawsSaid : Prop := trimLawsRow.holds Try.pinned (OpenSpec.ofChange trimLawsSpec)

/-- ITS FALSE NEIGHBOUR: 'it returns false'. Refute it at one input. -/
def trimLawsWrong : ChangeSpec := { name := "trimLaws", fn := fun _ => fun
  | [d] => { results := [.lit (.bool false)], args := [d] }
  | _ => none }
def TrimLawsWrongFalsely : Prop := trimLawsRow.holds Try.pinned (OpenSpec.ofChange trimLawsWrong)

/-- 'pointsmanlaw28.TrimTells': WHATEVER THE INPUT: true; the input reads as it did. -/
def trimTellsSpec : ChangeSpec := { name := "trimTells", fn := fun _ => fun
  | [d1, d2] => { results := [.lit (.bool true)], args := [d1, d2] }
  | _ => none }
def trimTellsRow : OpenClaim := { program := "ytkgegocfjalcbaa", sum := "3ae631fe68976958106fff40d5fc1ecdc9a5c59e0391b63fc015d5cf97081733", func := "pointsman/pointsmanlaw28.TrimTells", spec := "trimTells", unfollowed := true, recurses := true, loops := true, apart := false }
def TrimTellsSaid : Prop := trimTellsRow.holds Try.pinned (OpenSpec.ofChange trimTellsSpec)

/-- ITS FALSE NEIGHBOUR: 'it returns false'. Refute it at one input. -/
def trimTellsWrong : ChangeSpec := { name := "trimTells", fn := fun _ => fun
  | [d1, d2] => { results := [.lit (.bool false)], args := [d1, d2] }
  | _ => none }
def TrimTellsWrongFalsely : Prop := trimTellsRow.holds Try.pinned (OpenSpec.ofChange trimTellsWrong)

/- THE SECOND FORM. 'bulk': how many values and letters a reading holds, each counted each time it is reached (what is shared counts as often as it is met; a slice's spare places count too). A statement '..UptoSaid' is the law's where the arguments, and the package variables that the reading takes, are together of bulk at most 1048576: NARROWER than '..Said'. Prove '..Said' where nothing that the law and all that it calls make is longer than what came in: it says more and counts as full. Else prove '..UptoSaid'. A law counts once. -/
mutual
def uptoBulk {H : Type} : DataW H → Nat
  | .lit (.string bytes) => bytes.length + 1
  | .lit _ => 1
  | .nil => 1
  | .ptr d => uptoBulk d + 1
  | .slice elems spare => uptoBulkAll elems + uptoBulkAll spare + 1
  | .agg parts => uptoBulkAll parts + 1
  | .iface _ d => uptoBulk d + 1
  | .map entries => uptoBulkEntries entries + 1
  | .held _ => 1
def uptoBulkAll {H : Type} : List (DataW H) → Nat
  | [] => 0
  | d :: r => uptoBulk d + uptoBulkAll r
def uptoBulkEntries {H : Type} : List (Lit × DataW H) → Nat
  | [] => 0
  | x :: r => uptoBulkEntry x + uptoBulkEntries r
def uptoBulkEntry {H : Type} : Lit × DataW H → Nat
  | (.string bytes, d) => bytes.length + uptoBulk d + 1
  | (_, d) => uptoBulk d + 1
 end
def uptoSmall : (H : Type) → List (DataW H) → Bool := fun _ ds => decide (uptoBulkAll ds ≤ 1048576)
def OpenSpec.upto (s : _root_.Go.ChangeSpec) : _root_.Go.OpenSpec := { _root_.Go.OpenSpec.ofChange s with cond := some uptoSmall }

/-- 'pointsmanlaw32.SaveAny', WHERE WHAT IT READS IS OF BULK AT MOST 1048576: true; the input reads as it did. -/
def saveAnyUptoRow : OpenClaim := { program := "ytkgegocfjalcbaa", sum := "3ae631fe68976958106fff40d5fc1ecdc9a5c59e0391b63fc015d5cf97081733", func := "pointsman/pointsmanlaw32.SaveAny", spec := "saveAny", recurses := true, apart := false, narrowed := true }
def SaveAnyUptoSaid : Prop := saveAnyUptoRow.holds Try.pinned (OpenSpec.upto saveAnySpec)

/-- 'pointsmanlaw32.SaveMade', WHERE WHAT IT READS IS OF BULK AT MOST 1048576: true; the input reads as it did. -/
def saveMadeUptoRow : OpenClaim := { program := "ytkgegocfjalcbaa", sum := "3ae631fe68976958106fff40d5fc1ecdc9a5c59e0391b63fc015d5cf97081733", func := "pointsman/pointsmanlaw32.SaveMade", spec := "saveMade", recurses := true, apart := false, narrowed := true }
def SaveMadeUptoSaid : Prop := saveMadeUptoRow.holds Try.pinned (OpenSpec.upto saveMadeSpec)

/-- 'pointsmanlaw32.SaveBack', WHERE WHAT IT READS IS OF BULK AT MOST 1048576: true; the input reads as it did. -/
def saveBackUptoRow : OpenClaim := { program := "ytkgegocfjalcbaa", sum := "3ae631fe68976958106fff40d5fc1ecdc9a5c59e0391b63fc015d5cf97081733", func := "pointsman/pointsmanlaw32.SaveBack", spec := "saveBack", recurses := true, apart := false, narrowed := true }
def SaveBackUptoSaid : Prop := saveBackUptoRow.holds Try.pinned (OpenSpec.upto saveBackSpec)

/-- 'pointsmanlaw11.SpaceExplores', WHERE WHAT IT READS IS OF BULK AT MOST 1048576: true; the input reads as it did. -/
def spaceExploresUptoRow : OpenClaim := { program := "ytkgegocfjalcbaa", sum := "3ae631fe68976958106fff40d5fc1ecdc9a5c59e0391b63fc015d5cf97081733", func := "pointsman/pointsmanlaw11.SpaceExplores", spec := "spaceExplores", unfollowed := true, recurses := true, loops := true, apart := false, narrowed := true }
def SpaceExploresUptoSaid : Prop := spaceExploresUptoRow.holds Try.pinned (OpenSpec.upto spaceExploresSpec)

/-- 'pointsmanlaw11.SpaceRules', WHERE WHAT IT READS IS OF BULK AT MOST 1048576: true; the input reads as it did. -/
def spaceRulesUptoRow : OpenClaim := { program := "ytkgegocfjalcbaa", sum := "3ae631fe68976958106fff40d5fc1ecdc9a5c59e0391b63fc015d5cf97081733", func := "pointsman/pointsmanlaw11.SpaceRules", spec := "spaceRules", unfollowed := true, recurses := true, apart := false, narrowed := true }
def SpaceRulesUptoSaid : Prop := spaceRulesUptoRow.holds Try.pinned (OpenSpec.upto spaceRulesSpec)

/-- 'pointsmanlaw11.SpaceEnds', WHERE WHAT IT READS IS OF BULK AT MOST 1048576: true; the input reads as it did. -/
def spaceEndsUptoRow : OpenClaim := { program := "ytkgegocfjalcbaa", sum := "3ae631fe68976958106fff40d5fc1ecdc9a5c59e0391b63fc015d5cf97081733", func := "pointsman/pointsmanlaw11.SpaceEnds", spec := "spaceEnds", unfollowed := true, recurses := true, loops := true, apart := false, narrowed := true }
def SpaceEndsUptoSaid : Prop := spaceEndsUptoRow.holds Try.pinned (OpenSpec.upto spaceEndsSpec)

/-- 'pointsmanlaw28.TrimKeeps', WHERE WHAT IT READS IS OF BULK AT MOST 1048576: true; the input reads as it did. -/
def trimKeepsUptoRow : OpenClaim := { program := "ytkgegocfjalcbaa", sum := "3ae631fe68976958106fff40d5fc1ecdc9a5c59e0391b63fc015d5cf97081733", func := "pointsman/pointsmanlaw28.TrimKeeps", spec := "trimKeeps", unfollowed := true, recurses := true, apart := false, narrowed := true }
def TrimKeepsUptoSaid : Prop := trimKeepsUptoRow.holds Try.pinned (OpenSpec.upto trimKeepsSpec)

/-- 'pointsmanlaw28.TrimLess', WHERE WHAT IT READS IS OF BULK AT MOST 1048576: true; the input reads as it did. -/
def trimLessUptoRow : OpenClaim := { program := "ytkgegocfjalcbaa", sum := "3ae631fe68976958106fff40d5fc1ecdc9a5c59e0391b63fc015d5cf97081733", func := "pointsman/pointsmanlaw28.TrimLess", spec := "trimLess", unfollowed := true, recurses := true, apart := false, narrowed := true }
def TrimLessUptoSaid : Prop := trimLessUptoRow.holds Try.pinned (OpenSpec.upto trimLessSpec)

/-- 'pointsmanlaw28.TrimLaws', WHERE WHAT IT READS IS OF BULK AT MOST 1048576: true; the input reads as it did. -/
def trimLawsUptoRow : OpenClaim := { program := "ytkgegocfjalcbaa", sum := "3ae631fe68976958106fff40d5fc1ecdc9a5c59e0391b63fc015d5cf97081733", func := "pointsman/pointsmanlaw28.TrimLaws", spec := "trimLaws", unfollowed := true, recurses := true, apart := false, narrowed := true }
def TrimLawsUptoSaid : Prop := trimLawsUptoRow.holds Try.pinned (OpenSpec.upto trimLawsSpec)

/-- 'pointsmanlaw28.TrimTells', WHERE WHAT IT READS IS OF BULK AT MOST 1048576: true; the input reads as it did. -/
def trimTellsUptoRow : OpenClaim := { program := "ytkgegocfjalcbaa", sum := "3ae631fe68976958106fff40d5fc1ecdc9a5c59e0391b63fc015d5cf97081733", func := "pointsman/pointsmanlaw28.TrimTells", spec := "trimTells", unfollowed := true, recurses := true, loops := true, apart := false, narrowed := true }
def TrimTellsUptoSaid : Prop := trimTellsUptoRow.holds Try.pinned (OpenSpec.upto trimTellsSpec)

end Rows
end Go.Proofs.Ytkgegocfjalcbaa
