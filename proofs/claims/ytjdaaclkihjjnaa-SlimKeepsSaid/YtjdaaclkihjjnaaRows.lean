/-
  No cell of these rows narrows 'for every input' (looked for: loops, veiled, ifaces, maps, wideKeys, modest, calm, conditions, laid).
  DERIVED. THE GIVEN ROWS OF THIS SEAT. 8 by the template 'for every input the law returns true; each argument reads behind the call as it read before'; 0 by the template 'total and deterministic' (their statements: YtjdaaclkihjjnaaTotals.lean).
  GIVEN WITH THE SEED: the statements are not yours to turn. If you find one false, say at which input.
  Laid BY PROGRAM, IN A SANDBOX (cutbox-rows.mjs): the forced cells as the released guide's own fill.sh prints them over the translation 08e6c6f8975a6c4e… (all of the seat's roots in one cut). By AI agents, Wed Nov 11 2026. No macro, syntax, notation, axiom, sorry.
-/
import Derived.Test.YtjdaaclkihjjnaaChecked
import GoSem.Claim
import GoSem.ClaimJoined
import GoSem.ClaimMapViews
import Derived.JoinedTies
import Derived.KernelRfl
namespace Go.Proofs.Ytjdaaclkihjjnaa
/- THE CELL 'sum', in the pinned program and in every row, IS THE sha256 OF THE DUMP (.gsa) THAT YtjdaaclkihjjnaaProg.lean LOADS. Nothing in Lean hashes anything: it is a label: what it is worth is what the hold of that sum in a sandbox is worth. -/
noncomputable def Try.pinned : Pinned := { name := "ytjdaaclkihjjnaa", sum := "08e6c6f8975a6c4e878e9b6b5600e6a637c2a9aad803ff7494d69a81d295a306", checked := Try.checked }
namespace Rows
def none {H : Type} : Left H := { results := [], args := [] }

/-- 'pointsmanlaw16.QueueRuns': WHATEVER THE INPUT: true; the input reads as it did. -/
def queueRunsSpec : ChangeSpec := { name := "queueRuns", fn := fun _ => fun
  | [d1, d2] => { results := [.lit (.bool true)], args := [d1, d2] }
  | _ => none }
def queueRunsRow : OpenClaim := { program := "ytjdaaclkihjjnaa", sum := "08e6c6f8975a6c4e878e9b6b5600e6a637c2a9aad803ff7494d69a81d295a306", func := "pointsman/pointsmanlaw16.QueueRuns", spec := "queueRuns", apart := false }
def QueueRunsSaid : Prop := queueRunsRow.holds Try.pinned (OpenSpec.ofChange queueRunsSpec)

/-- ITS FALSE NEIGHBOUR: 'it returns false'. Refute it at one input. -/
def queueRunsWrong : ChangeSpec := { name := "queueRuns", fn := fun _ => fun
  | [d1, d2] => { results := [.lit (.bool false)], args := [d1, d2] }
  | _ => none }
def QueueRunsWrongFalsely : Prop := queueRunsRow.holds Try.pinned (OpenSpec.ofChange queueRunsWrong)

/-- 'pointsmanlaw16.QueueOrder': WHATEVER THE INPUT: true; the input reads as it did. -/
def queueOrderSpec : ChangeSpec := { name := "queueOrder", fn := fun _ => fun
  | [d1, d2] => { results := [.lit (.bool true)], args := [d1, d2] }
  | _ => none }
def queueOrderRow : OpenClaim := { program := "ytjdaaclkihjjnaa", sum := "08e6c6f8975a6c4e878e9b6b5600e6a637c2a9aad803ff7494d69a81d295a306", func := "pointsman/pointsmanlaw16.QueueOrder", spec := "queueOrder", apart := false }
def QueueOrderSaid : Prop := queueOrderRow.holds Try.pinned (OpenSpec.ofChange queueOrderSpec)

/-- ITS FALSE NEIGHBOUR: 'it returns false'. Refute it at one input. -/
def queueOrderWrong : ChangeSpec := { name := "queueOrder", fn := fun _ => fun
  | [d1, d2] => { results := [.lit (.bool false)], args := [d1, d2] }
  | _ => none }
def QueueOrderWrongFalsely : Prop := queueOrderRow.holds Try.pinned (OpenSpec.ofChange queueOrderWrong)

/-- 'pointsmanlaw16.QueueSame': WHATEVER THE INPUT: true; the input reads as it did. -/
def queueSameSpec : ChangeSpec := { name := "queueSame", fn := fun _ => fun
  | [d1, d2, d3] => { results := [.lit (.bool true)], args := [d1, d2, d3] }
  | _ => none }
def queueSameRow : OpenClaim := { program := "ytjdaaclkihjjnaa", sum := "08e6c6f8975a6c4e878e9b6b5600e6a637c2a9aad803ff7494d69a81d295a306", func := "pointsman/pointsmanlaw16.QueueSame", spec := "queueSame", apart := false }
def QueueSameSaid : Prop := queueSameRow.holds Try.pinned (OpenSpec.ofChange queueSameSpec)

/-- ITS FALSE NEIGHBOUR: 'it returns false'. Refute it at one input. -/
def queueSameWrong : ChangeSpec := { name := "queueSame", fn := fun _ => fun
  | [d1, d2, d3] => { results := [.lit (.bool false)], args := [d1, d2, d3] }
  | _ => none }
def QueueSameWrongFalsely : Prop := queueSameRow.holds Try.pinned (OpenSpec.ofChange queueSameWrong)

/-- 'pointsmanlaw03.FrameAny': WHATEVER THE INPUT: true; the input reads as it did. -/
def frameAnySpec : ChangeSpec := { name := "frameAny", fn := fun _ => fun
  | [d] => { results := [.lit (.bool true)], args := [d] }
  | _ => none }
def frameAnyRow : OpenClaim := { program := "ytjdaaclkihjjnaa", sum := "08e6c6f8975a6c4e878e9b6b5600e6a637c2a9aad803ff7494d69a81d295a306", func := "pointsman/pointsmanlaw03.FrameAny", spec := "frameAny", apart := false }
def FrameAnySaid : Prop := frameAnyRow.holds Try.pinned (OpenSpec.ofChange frameAnySpec)

/-- ITS FALSE NEIGHBOUR: 'it returns false'. Refute it at one input. -/
def frameAnyWrong : ChangeSpec := { name := "frameAny", fn := fun _ => fun
  | [d] => { results := [.lit (.bool false)], args := [d] }
  | _ => none }
def FrameAnyWrongFalsely : Prop := frameAnyRow.holds Try.pinned (OpenSpec.ofChange frameAnyWrong)

/-- 'pointsmanlaw03.FrameTurned': WHATEVER THE INPUT: true; the input reads as it did. -/
def frameTurnedSpec : ChangeSpec := { name := "frameTurned", fn := fun _ => fun
  | [d1, d2, d3] => { results := [.lit (.bool true)], args := [d1, d2, d3] }
  | _ => none }
def frameTurnedRow : OpenClaim := { program := "ytjdaaclkihjjnaa", sum := "08e6c6f8975a6c4e878e9b6b5600e6a637c2a9aad803ff7494d69a81d295a306", func := "pointsman/pointsmanlaw03.FrameTurned", spec := "frameTurned", apart := false }
def FrameTurnedSaid : Prop := frameTurnedRow.holds Try.pinned (OpenSpec.ofChange frameTurnedSpec)

/-- ITS FALSE NEIGHBOUR: 'it returns false'. Refute it at one input. -/
def frameTurnedWrong : ChangeSpec := { name := "frameTurned", fn := fun _ => fun
  | [d1, d2, d3] => { results := [.lit (.bool false)], args := [d1, d2, d3] }
  | _ => none }
def FrameTurnedWrongFalsely : Prop := frameTurnedRow.holds Try.pinned (OpenSpec.ofChange frameTurnedWrong)

/-- 'pointsmanlaw03.FrameBack': WHATEVER THE INPUT: true; the input reads as it did. -/
def frameBackSpec : ChangeSpec := { name := "frameBack", fn := fun _ => fun
  | [d] => { results := [.lit (.bool true)], args := [d] }
  | _ => none }
def frameBackRow : OpenClaim := { program := "ytjdaaclkihjjnaa", sum := "08e6c6f8975a6c4e878e9b6b5600e6a637c2a9aad803ff7494d69a81d295a306", func := "pointsman/pointsmanlaw03.FrameBack", spec := "frameBack", apart := false }
def FrameBackSaid : Prop := frameBackRow.holds Try.pinned (OpenSpec.ofChange frameBackSpec)

/-- ITS FALSE NEIGHBOUR: 'it returns false'. Refute it at one input. -/
def frameBackWrong : ChangeSpec := { name := "frameBack", fn := fun _ => fun
  | [d] => { results := [.lit (.bool false)], args := [d] }
  | _ => none }
def FrameBackWrongFalsely : Prop := frameBackRow.holds Try.pinned (OpenSpec.ofChange frameBackWrong)

/-- 'pointsmanlaw26.SlimTells': WHATEVER THE INPUT: true; the input reads as it did. -/
def slimTellsSpec : ChangeSpec := { name := "slimTells", fn := fun _ => fun
  | [d] => { results := [.lit (.bool true)], args := [d] }
  | _ => none }
def slimTellsRow : OpenClaim := { program := "ytjdaaclkihjjnaa", sum := "08e6c6f8975a6c4e878e9b6b5600e6a637c2a9aad803ff7494d69a81d295a306", func := "pointsman/pointsmanlaw26.SlimTells", spec := "slimTells", unfollowed := true, recurses := true, apart := false }
def SlimTellsSaid : Prop := slimTellsRow.holds Try.pinned (OpenSpec.ofChange slimTellsSpec)

/-- ITS FALSE NEIGHBOUR: 'it returns false'. Refute it at one input. -/
def slimTellsWrong : ChangeSpec := { name := "slimTells", fn := fun _ => fun
  | [d] => { results := [.lit (.bool false)], args := [d] }
  | _ => none }
def SlimTellsWrongFalsely : Prop := slimTellsRow.holds Try.pinned (OpenSpec.ofChange slimTellsWrong)

/-- 'pointsmanlaw26.SlimKeeps': WHATEVER THE INPUT: true; the input reads as it did. -/
def slimKeepsSpec : ChangeSpec := { name := "slimKeeps", fn := fun _ => fun
  | [d1, d2] => { results := [.lit (.bool true)], args := [d1, d2] }
  | _ => none }
def slimKeepsRow : OpenClaim := { program := "ytjdaaclkihjjnaa", sum := "08e6c6f8975a6c4e878e9b6b5600e6a637c2a9aad803ff7494d69a81d295a306", func := "pointsman/pointsmanlaw26.SlimKeeps", spec := "slimKeeps", unfollowed := true, recurses := true, apart := false }
def SlimKeepsSaid : Prop := slimKeepsRow.holds Try.pinned (OpenSpec.ofChange slimKeepsSpec)

/-- ITS FALSE NEIGHBOUR: 'it returns false'. Refute it at one input. -/
def slimKeepsWrong : ChangeSpec := { name := "slimKeeps", fn := fun _ => fun
  | [d1, d2] => { results := [.lit (.bool false)], args := [d1, d2] }
  | _ => none }
def SlimKeepsWrongFalsely : Prop := slimKeepsRow.holds Try.pinned (OpenSpec.ofChange slimKeepsWrong)

/- THE SECOND FORM. 'bulk': how many values and letters a reading holds, each counted each time it is reached (what is shared counts as often as it is met; a slice's spare places count too). A statement '..UptoSaid' is the law's where the arguments, and the package variables that the reading takes, are together of bulk at most 1048576: NARROWER than '..Said'. Prove '..Said' where nothing that the law and all that it calls make is longer than what came in: it says more and counts as full. Else prove '..UptoSaid'. A law counts once. -/
mutual
def uptoBulk {H : Type} : DataW H → Nat
  | .lit (.string bytes) => bytes.length + 1
  | .lit _ => 1
  | .nil => 1
  | .ptr d => uptoBulk d + 1
  | .slice elems spare => uptoBulkAll elems + uptoBulkAll spare + 1
  | .agg parts => uptoBulkAll parts + 1
  | .iface _ d => uptoBulk d + 1
  | .map entries => uptoBulkEntries entries + 1
  | .held _ => 1
def uptoBulkAll {H : Type} : List (DataW H) → Nat
  | [] => 0
  | d :: r => uptoBulk d + uptoBulkAll r
def uptoBulkEntries {H : Type} : List (Lit × DataW H) → Nat
  | [] => 0
  | x :: r => uptoBulkEntry x + uptoBulkEntries r
def uptoBulkEntry {H : Type} : Lit × DataW H → Nat
  | (.string bytes, d) => bytes.length + uptoBulk d + 1
  | (_, d) => uptoBulk d + 1
 end
def uptoSmall : (H : Type) → List (DataW H) → Bool := fun _ ds => decide (uptoBulkAll ds ≤ 1048576)
def OpenSpec.upto (s : _root_.Go.ChangeSpec) : _root_.Go.OpenSpec := { _root_.Go.OpenSpec.ofChange s with cond := some uptoSmall }

/-- 'pointsmanlaw16.QueueRuns', WHERE WHAT IT READS IS OF BULK AT MOST 1048576: true; the input reads as it did. -/
def queueRunsUptoRow : OpenClaim := { program := "ytjdaaclkihjjnaa", sum := "08e6c6f8975a6c4e878e9b6b5600e6a637c2a9aad803ff7494d69a81d295a306", func := "pointsman/pointsmanlaw16.QueueRuns", spec := "queueRuns", apart := false, narrowed := true }
def QueueRunsUptoSaid : Prop := queueRunsUptoRow.holds Try.pinned (OpenSpec.upto queueRunsSpec)

/-- 'pointsmanlaw16.QueueOrder', WHERE WHAT IT READS IS OF BULK AT MOST 1048576: true; the input reads as it did. -/
def queueOrderUptoRow : OpenClaim := { program := "ytjdaaclkihjjnaa", sum := "08e6c6f8975a6c4e878e9b6b5600e6a637c2a9aad803ff7494d69a81d295a306", func := "pointsman/pointsmanlaw16.QueueOrder", spec := "queueOrder", apart := false, narrowed := true }
def QueueOrderUptoSaid : Prop := queueOrderUptoRow.holds Try.pinned (OpenSpec.upto queueOrderSpec)

/-- 'pointsmanlaw16.QueueSame', WHERE WHAT IT READS IS OF BULK AT MOST 1048576: true; the input reads as it did. -/
def queueSameUptoRow : OpenClaim := { program := "ytjdaaclkihjjnaa", sum := "08e6c6f8975a6c4e878e9b6b5600e6a637c2a9aad803ff7494d69a81d295a306", func := "pointsman/pointsmanlaw16.QueueSame", spec := "queueSame", apart := false, narrowed := true }
def QueueSameUptoSaid : Prop := queueSameUptoRow.holds Try.pinned (OpenSpec.upto queueSameSpec)

/-- 'pointsmanlaw03.FrameAny', WHERE WHAT IT READS IS OF BULK AT MOST 1048576: true; the input reads as it did. -/
def frameAnyUptoRow : OpenClaim := { program := "ytjdaaclkihjjnaa", sum := "08e6c6f8975a6c4e878e9b6b5600e6a637c2a9aad803ff7494d69a81d295a306", func := "pointsman/pointsmanlaw03.FrameAny", spec := "frameAny", apart := false, narrowed := true }
def FrameAnyUptoSaid : Prop := frameAnyUptoRow.holds Try.pinned (OpenSpec.upto frameAnySpec)

/-- 'pointsmanlaw03.FrameTurned', WHERE WHAT IT READS IS OF BULK AT MOST 1048576: true; the input reads as it did. -/
def frameTurnedUptoRow : OpenClaim := { program := "ytjdaaclkihjjnaa", sum := "08e6c6f8975a6c4e878e9b6b5600e6a637c2a9aad803ff7494d69a81d295a306", func := "pointsman/pointsmanlaw03.FrameTurned", spec := "frameTurned", apart := false, narrowed := true }
def FrameTurnedUptoSaid : Prop := frameTurnedUptoRow.holds Try.pinned (OpenSpec.upto frameTurnedSpec)

/-- 'pointsmanlaw03.FrameBack', WHERE WHAT IT READS IS OF BULK AT MOST 1048576: true; the input reads as it did. -/
def frameBackUptoRow : OpenClaim := { program := "ytjdaaclkihjjnaa", sum := "08e6c6f8975a6c4e878e9b6b5600e6a637c2a9aad803ff7494d69a81d295a306", func := "pointsman/pointsmanlaw03.FrameBack", spec := "frameBack", apart := false, narrowed := true }
def FrameBackUptoSaid : Prop := frameBackUptoRow.holds Try.pinned (OpenSpec.upto frameBackSpec)

/-- 'pointsmanlaw26.SlimTells', WHERE WHAT IT READS IS OF BULK AT MOST 1048576: true; the input reads as it did. -/
def slimTellsUptoRow : OpenClaim := { program := "ytjdaaclkihjjnaa", sum := "08e6c6f8975a6c4e878e9b6b5600e6a637c2a9aad803ff7494d69a81d295a306", func := "pointsman/pointsmanlaw26.SlimTells", spec := "slimTells", unfollowed := true, recurses := true, apart := false, narrowed := true }
def SlimTellsUptoSaid : Prop := slimTellsUptoRow.holds Try.pinned (OpenSpec.upto slimTellsSpec)

/-- 'pointsmanlaw26.SlimKeeps', WHERE WHAT IT READS IS OF BULK AT MOST 1048576: true; the input reads as it did. -/
def slimKeepsUptoRow : OpenClaim := { program := "ytjdaaclkihjjnaa", sum := "08e6c6f8975a6c4e878e9b6b5600e6a637c2a9aad803ff7494d69a81d295a306", func := "pointsman/pointsmanlaw26.SlimKeeps", spec := "slimKeeps", unfollowed := true, recurses := true, apart := false, narrowed := true }
def SlimKeepsUptoSaid : Prop := slimKeepsUptoRow.holds Try.pinned (OpenSpec.upto slimKeepsSpec)

end Rows
end Go.Proofs.Ytjdaaclkihjjnaa
