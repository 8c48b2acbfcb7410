/-
  No cell of these rows narrows 'for every input' (looked for: loops, veiled, ifaces, maps, wideKeys, modest, calm, conditions, laid).
  DERIVED. THE GIVEN ROWS OF THIS SEAT. 9 by the template 'for every input the law returns true; each argument reads behind the call as it read before'; 0 by the template 'total and deterministic' (their statements: YtnnkfanmokeiaaaTotals.lean).
  GIVEN WITH THE SEED: the statements are not yours to turn. If you find one false, say at which input.
  Laid BY PROGRAM, IN A SANDBOX (cutbox-rows.mjs): the forced cells as the released guide's own fill.sh prints them over the translation 88327070d938a582… (all of the seat's roots in one cut). By AI agents, Wed Nov 11 2026. No macro, syntax, notation, axiom, sorry.
-/
import Derived.Test.YtnnkfanmokeiaaaChecked
import GoSem.Claim
import GoSem.ClaimJoined
import GoSem.ClaimMapViews
import Derived.JoinedTies
import Derived.KernelRfl
namespace Go.Proofs.Ytnnkfanmokeiaaa
/- THE CELL 'sum', in the pinned program and in every row, IS THE sha256 OF THE DUMP (.gsa) THAT YtnnkfanmokeiaaaProg.lean LOADS. Nothing in Lean hashes anything: it is a label: what it is worth is what the hold of that sum in a sandbox is worth. -/
noncomputable def Try.pinned : Pinned := { name := "ytnnkfanmokeiaaa", sum := "88327070d938a5827396506fea501eb47dc1db1af731a99040c5b7e1d9661ca8", checked := Try.checked }
namespace Rows
def none {H : Type} : Left H := { results := [], args := [] }

/-- 'pointsmanlaw07.PolicyMakes': WHATEVER THE INPUT: true; the input reads as it did. -/
def policyMakesSpec : ChangeSpec := { name := "policyMakes", fn := fun _ => fun
  | [d1, d2, d3] => { results := [.lit (.bool true)], args := [d1, d2, d3] }
  | _ => none }
def policyMakesRow : OpenClaim := { program := "ytnnkfanmokeiaaa", sum := "88327070d938a5827396506fea501eb47dc1db1af731a99040c5b7e1d9661ca8", func := "pointsman/pointsmanlaw07.PolicyMakes", spec := "policyMakes", unfollowed := true, recurses := true, plainKeys := false, apart := false }
def PolicyMakesSaid : Prop := policyMakesRow.holds Try.pinned (OpenSpec.ofChange policyMakesSpec)

/-- ITS FALSE NEIGHBOUR: 'it returns false'. Refute it at one input. -/
def policyMakesWrong : ChangeSpec := { name := "policyMakes", fn := fun _ => fun
  | [d1, d2, d3] => { results := [.lit (.bool false)], args := [d1, d2, d3] }
  | _ => none }
def PolicyMakesWrongFalsely : Prop := policyMakesRow.holds Try.pinned (OpenSpec.ofChange policyMakesWrong)

/-- 'pointsmanlaw07.PolicyLaws': WHATEVER THE INPUT: true; the input reads as it did. -/
def policyLawsSpec : ChangeSpec := { name := "policyLaws", fn := fun _ => fun
  | [d1, d2, d3] => { results := [.lit (.bool true)], args := [d1, d2, d3] }
  | _ => none }
def policyLawsRow : OpenClaim := { program := "ytnnkfanmokeiaaa", sum := "88327070d938a5827396506fea501eb47dc1db1af731a99040c5b7e1d9661ca8", func := "pointsman/pointsmanlaw07.PolicyLaws", spec := "policyLaws", unfollowed := true, recurses := true, plainKeys := false, apart := false }
def PolicyLawsSaid : Prop := policyLawsRow.holds Try.pinned (OpenSpec.ofChange policyLawsSpec)

/-- ITS FALSE NEIGHBOUR: 'it returns false'. Refute it at one input. -/
def policyLawsWrong : ChangeSpec := { name := "policyLaws", fn := fun _ => fun
  | [d1, d2, d3] => { results := [.lit (.bool false)], args := [d1, d2, d3] }
  | _ => none }
def PolicyLawsWrongFalsely : Prop := policyLawsRow.holds Try.pinned (OpenSpec.ofChange policyLawsWrong)

/-- 'pointsmanlaw07.PolicyNots': WHATEVER THE INPUT: true; the input reads as it did. -/
def policyNotsSpec : ChangeSpec := { name := "policyNots", fn := fun _ => fun
  | [d1, d2, d3] => { results := [.lit (.bool true)], args := [d1, d2, d3] }
  | _ => none }
def policyNotsRow : OpenClaim := { program := "ytnnkfanmokeiaaa", sum := "88327070d938a5827396506fea501eb47dc1db1af731a99040c5b7e1d9661ca8", func := "pointsman/pointsmanlaw07.PolicyNots", spec := "policyNots", unfollowed := true, recurses := true, plainKeys := false, apart := false }
def PolicyNotsSaid : Prop := policyNotsRow.holds Try.pinned (OpenSpec.ofChange policyNotsSpec)

/-- ITS FALSE NEIGHBOUR: 'it returns false'. Refute it at one input. -/
def policyNotsWrong : ChangeSpec := { name := "policyNots", fn := fun _ => fun
  | [d1, d2, d3] => { results := [.lit (.bool false)], args := [d1, d2, d3] }
  | _ => none }
def PolicyNotsWrongFalsely : Prop := policyNotsRow.holds Try.pinned (OpenSpec.ofChange policyNotsWrong)

/-- 'pointsmanlaw07.PolicyAt': WHATEVER THE INPUT: true; the input reads as it did. -/
def policyAtSpec : ChangeSpec := { name := "policyAt", fn := fun _ => fun
  | [d1, d2, d3] => { results := [.lit (.bool true)], args := [d1, d2, d3] }
  | _ => none }
def policyAtRow : OpenClaim := { program := "ytnnkfanmokeiaaa", sum := "88327070d938a5827396506fea501eb47dc1db1af731a99040c5b7e1d9661ca8", func := "pointsman/pointsmanlaw07.PolicyAt", spec := "policyAt", unfollowed := true, recurses := true, plainKeys := false, apart := false }
def PolicyAtSaid : Prop := policyAtRow.holds Try.pinned (OpenSpec.ofChange policyAtSpec)

/-- ITS FALSE NEIGHBOUR: 'it returns false'. Refute it at one input. -/
def policyAtWrong : ChangeSpec := { name := "policyAt", fn := fun _ => fun
  | [d1, d2, d3] => { results := [.lit (.bool false)], args := [d1, d2, d3] }
  | _ => none }
def PolicyAtWrongFalsely : Prop := policyAtRow.holds Try.pinned (OpenSpec.ofChange policyAtWrong)

/-- 'pointsmanlaw30.RouteComes': WHATEVER THE INPUT: true; the input reads as it did. -/
def routeComesSpec : ChangeSpec := { name := "routeComes", fn := fun _ => fun
  | [d1, d2, d3] => { results := [.lit (.bool true)], args := [d1, d2, d3] }
  | _ => none }
def routeComesRow : OpenClaim := { program := "ytnnkfanmokeiaaa", sum := "88327070d938a5827396506fea501eb47dc1db1af731a99040c5b7e1d9661ca8", func := "pointsman/pointsmanlaw30.RouteComes", spec := "routeComes", unfollowed := true, recurses := true, plainKeys := false, apart := false }
def RouteComesSaid : Prop := routeComesRow.holds Try.pinned (OpenSpec.ofChange routeComesSpec)

/-- ITS FALSE NEIGHBOUR: 'it returns false'. Refute it at one input. -/
def routeComesWrong : ChangeSpec := { name := "routeComes", fn := fun _ => fun
  | [d1, d2, d3] => { results := [.lit (.bool false)], args := [d1, d2, d3] }
  | _ => none }
def RouteComesWrongFalsely : Prop := routeComesRow.holds Try.pinned (OpenSpec.ofChange routeComesWrong)

/-- 'pointsmanlaw30.RouteBans': WHATEVER THE INPUT: true; the input reads as it did. -/
def routeBansSpec : ChangeSpec := { name := "routeBans", fn := fun _ => fun
  | [d1, d2, d3] => { results := [.lit (.bool true)], args := [d1, d2, d3] }
  | _ => none }
def routeBansRow : OpenClaim := { program := "ytnnkfanmokeiaaa", sum := "88327070d938a5827396506fea501eb47dc1db1af731a99040c5b7e1d9661ca8", func := "pointsman/pointsmanlaw30.RouteBans", spec := "routeBans", unfollowed := true, recurses := true, plainKeys := false, apart := false }
def RouteBansSaid : Prop := routeBansRow.holds Try.pinned (OpenSpec.ofChange routeBansSpec)

/-- ITS FALSE NEIGHBOUR: 'it returns false'. Refute it at one input. -/
def routeBansWrong : ChangeSpec := { name := "routeBans", fn := fun _ => fun
  | [d1, d2, d3] => { results := [.lit (.bool false)], args := [d1, d2, d3] }
  | _ => none }
def RouteBansWrongFalsely : Prop := routeBansRow.holds Try.pinned (OpenSpec.ofChange routeBansWrong)

/-- 'pointsmanlaw30.RouteAll': WHATEVER THE INPUT: true; the input reads as it did. -/
def routeAllSpec : ChangeSpec := { name := "routeAll", fn := fun _ => fun
  | [d1, d2] => { results := [.lit (.bool true)], args := [d1, d2] }
  | _ => none }
def routeAllRow : OpenClaim := { program := "ytnnkfanmokeiaaa", sum := "88327070d938a5827396506fea501eb47dc1db1af731a99040c5b7e1d9661ca8", func := "pointsman/pointsmanlaw30.RouteAll", spec := "routeAll", unfollowed := true, recurses := true, plainKeys := false, apart := false }
def RouteAllSaid : Prop := routeAllRow.holds Try.pinned (OpenSpec.ofChange routeAllSpec)

/-- ITS FALSE NEIGHBOUR: 'it returns false'. Refute it at one input. -/
def routeAllWrong : ChangeSpec := { name := "routeAll", fn := fun _ => fun
  | [d1, d2] => { results := [.lit (.bool false)], args := [d1, d2] }
  | _ => none }
def RouteAllWrongFalsely : Prop := routeAllRow.holds Try.pinned (OpenSpec.ofChange routeAllWrong)

/-- 'pointsmanlaw14.WalkTold': WHATEVER THE INPUT: true; the input reads as it did. -/
def walkToldSpec : ChangeSpec := { name := "walkTold", fn := fun _ => fun
  | [d1, d2] => { results := [.lit (.bool true)], args := [d1, d2] }
  | _ => none }
def walkToldRow : OpenClaim := { program := "ytnnkfanmokeiaaa", sum := "88327070d938a5827396506fea501eb47dc1db1af731a99040c5b7e1d9661ca8", func := "pointsman/pointsmanlaw14.WalkTold", spec := "walkTold", unfollowed := true, recurses := true, plainKeys := false, apart := false }
def WalkToldSaid : Prop := walkToldRow.holds Try.pinned (OpenSpec.ofChange walkToldSpec)

/-- ITS FALSE NEIGHBOUR: 'it returns false'. Refute it at one input. -/
def walkToldWrong : ChangeSpec := { name := "walkTold", fn := fun _ => fun
  | [d1, d2] => { results := [.lit (.bool false)], args := [d1, d2] }
  | _ => none }
def WalkToldWrongFalsely : Prop := walkToldRow.holds Try.pinned (OpenSpec.ofChange walkToldWrong)

/-- 'pointsmanlaw14.WalkEnds': WHATEVER THE INPUT: true; the input reads as it did. -/
def walkEndsSpec : ChangeSpec := { name := "walkEnds", fn := fun _ => fun
  | [d1, d2] => { results := [.lit (.bool true)], args := [d1, d2] }
  | _ => none }
def walkEndsRow : OpenClaim := { program := "ytnnkfanmokeiaaa", sum := "88327070d938a5827396506fea501eb47dc1db1af731a99040c5b7e1d9661ca8", func := "pointsman/pointsmanlaw14.WalkEnds", spec := "walkEnds", unfollowed := true, recurses := true, plainKeys := false, apart := false }
def WalkEndsSaid : Prop := walkEndsRow.holds Try.pinned (OpenSpec.ofChange walkEndsSpec)

/-- ITS FALSE NEIGHBOUR: 'it returns false'. Refute it at one input. -/
def walkEndsWrong : ChangeSpec := { name := "walkEnds", fn := fun _ => fun
  | [d1, d2] => { results := [.lit (.bool false)], args := [d1, d2] }
  | _ => none }
def WalkEndsWrongFalsely : Prop := walkEndsRow.holds Try.pinned (OpenSpec.ofChange walkEndsWrong)

/- THE SECOND FORM. 'bulk': how many values and letters a reading holds, each counted each time it is reached (what is shared counts as often as it is met; a slice's spare places count too). A statement '..UptoSaid' is the law's where the arguments, and the package variables that the reading takes, are together of bulk at most 1048576: NARROWER than '..Said'. Prove '..Said' where nothing that the law and all that it calls make is longer than what came in: it says more and counts as full. Else prove '..UptoSaid'. A law counts once. -/
mutual
def uptoBulk {H : Type} : DataW H → Nat
  | .lit (.string bytes) => bytes.length + 1
  | .lit _ => 1
  | .nil => 1
  | .ptr d => uptoBulk d + 1
  | .slice elems spare => uptoBulkAll elems + uptoBulkAll spare + 1
  | .agg parts => uptoBulkAll parts + 1
  | .iface _ d => uptoBulk d + 1
  | .map entries => uptoBulkEntries entries + 1
  | .held _ => 1
def uptoBulkAll {H : Type} : List (DataW H) → Nat
  | [] => 0
  | d :: r => uptoBulk d + uptoBulkAll r
def uptoBulkEntries {H : Type} : List (Lit × DataW H) → Nat
  | [] => 0
  | x :: r => uptoBulkEntry x + uptoBulkEntries r
def uptoBulkEntry {H : Type} : Lit × DataW H → Nat
  | (.string bytes, d) => bytes.length + uptoBulk d + 1
  | (_, d) => uptoBulk d + 1
 end
def uptoSmall : (H : Type) → List (DataW H) → Bool := fun _ ds => decide (uptoBulkAll ds ≤ 1048576)
def OpenSpec.upto (s : _root_.Go.ChangeSpec) : _root_.Go.OpenSpec := { _root_.Go.OpenSpec.ofChange s with cond := some uptoSmall }

/-- 'pointsmanlaw07.PolicyMakes', WHERE WHAT IT READS IS OF BULK AT MOST 1048576: true; the input reads as it did. -/
def policyMakesUptoRow : OpenClaim := { program := "ytnnkfanmokeiaaa", sum := "88327070d938a5827396506fea501eb47dc1db1af731a99040c5b7e1d9661ca8", func := "pointsman/pointsmanlaw07.PolicyMakes", spec := "policyMakes", unfollowed := true, recurses := true, plainKeys := false, apart := false, narrowed := true }
def PolicyMakesUptoSaid : Prop := policyMakesUptoRow.holds Try.pinned (OpenSpec.upto policyMakesSpec)

/-- 'pointsmanlaw07.PolicyLaws', WHERE WHAT IT READS IS OF BULK AT MOST 1048576: true; the input reads as it did. -/
def policyLawsUptoRow : OpenClaim := { program := "ytnnkfanmokeiaaa", sum := "88327070d938a5827396506fea501eb47dc1db1af731a99040c5b7e1d9661ca8", func := "pointsman/pointsmanlaw07.PolicyLaws", spec := "policyLaws", unfollowed := true, recurses := true, plainKeys := false, apart := false, narrowed := true }
def PolicyLawsUptoSaid : Prop := policyLawsUptoRow.holds Try.pinned (OpenSpec.upto policyLawsSpec)

/-- 'pointsmanlaw07.PolicyNots', WHERE WHAT IT READS IS OF BULK AT MOST 1048576: true; the input reads as it did. -/
def policyNotsUptoRow : OpenClaim := { program := "ytnnkfanmokeiaaa", sum := "88327070d938a5827396506fea501eb47dc1db1af731a99040c5b7e1d9661ca8", func := "pointsman/pointsmanlaw07.PolicyNots", spec := "policyNots", unfollowed := true, recurses := true, plainKeys := false, apart := false, narrowed := true }
def PolicyNotsUptoSaid : Prop := policyNotsUptoRow.holds Try.pinned (OpenSpec.upto policyNotsSpec)

/-- 'pointsmanlaw07.PolicyAt', WHERE WHAT IT READS IS OF BULK AT MOST 1048576: true; the input reads as it did. -/
def policyAtUptoRow : OpenClaim := { program := "ytnnkfanmokeiaaa", sum := "88327070d938a5827396506fea501eb47dc1db1af731a99040c5b7e1d9661ca8", func := "pointsman/pointsmanlaw07.PolicyAt", spec := "policyAt", unfollowed := true, recurses := true, plainKeys := false, apart := false, narrowed := true }
def PolicyAtUptoSaid : Prop := policyAtUptoRow.holds Try.pinned (OpenSpec.upto policyAtSpec)

/-- 'pointsmanlaw30.RouteComes', WHERE WHAT IT READS IS OF BULK AT MOST 1048576: true; the input reads as it did. -/
def routeComesUptoRow : OpenClaim := { program := "ytnnkfanmokeiaaa", sum := "88327070d938a5827396506fea501eb47dc1db1af731a99040c5b7e1d9661ca8", func := "pointsman/pointsmanlaw30.RouteComes", spec := "routeComes", unfollowed := true, recurses := true, plainKeys := false, apart := false, narrowed := true }
def RouteComesUptoSaid : Prop := routeComesUptoRow.holds Try.pinned (OpenSpec.upto routeComesSpec)

/-- 'pointsmanlaw30.RouteBans', WHERE WHAT IT READS IS OF BULK AT MOST 1048576: true; the input reads as it did. -/
def routeBansUptoRow : OpenClaim := { program := "ytnnkfanmokeiaaa", sum := "88327070d938a5827396506fea501eb47dc1db1af731a99040c5b7e1d9661ca8", func := "pointsman/pointsmanlaw30.RouteBans", spec := "routeBans", unfollowed := true, recurses := true, plainKeys := false, apart := false, narrowed := true }
def RouteBansUptoSaid : Prop := routeBansUptoRow.holds Try.pinned (OpenSpec.upto routeBansSpec)

/-- 'pointsmanlaw30.RouteAll', WHERE WHAT IT READS IS OF BULK AT MOST 1048576: true; the input reads as it did. -/
def routeAllUptoRow : OpenClaim := { program := "ytnnkfanmokeiaaa", sum := "88327070d938a5827396506fea501eb47dc1db1af731a99040c5b7e1d9661ca8", func := "pointsman/pointsmanlaw30.RouteAll", spec := "routeAll", unfollowed := true, recurses := true, plainKeys := false, apart := false, narrowed := true }
def RouteAllUptoSaid : Prop := routeAllUptoRow.holds Try.pinned (OpenSpec.upto routeAllSpec)

/-- 'pointsmanlaw14.WalkTold', WHERE WHAT IT READS IS OF BULK AT MOST 1048576: true; the input reads as it did. -/
def walkToldUptoRow : OpenClaim := { program := "ytnnkfanmokeiaaa", sum := "88327070d938a5827396506fea501eb47dc1db1af731a99040c5b7e1d9661ca8", func := "pointsman/pointsmanlaw14.WalkTold", spec := "walkTold", unfollowed := true, recurses := true, plainKeys := false, apart := false, narrowed := true }
def WalkToldUptoSaid : Prop := walkToldUptoRow.holds Try.pinned (OpenSpec.upto walkToldSpec)

/-- 'pointsmanlaw14.WalkEnds', WHERE WHAT IT READS IS OF BULK AT MOST 1048576: true; the input reads as it did. -/
def walkEndsUptoRow : OpenClaim := { program := "ytnnkfanmokeiaaa", sum := "88327070d938a5827396506fea501eb47dc1db1af731a99040c5b7e1d9661ca8", func := "pointsman/pointsmanlaw14.WalkEnds", spec := "walkEnds", unfollowed := true, recurses := true, plainKeys := false, apart := false, narrowed := true }
def WalkEndsUptoSaid : Prop := walkEndsUptoRow.holds Try.pinned (OpenSpec.upto walkEndsSpec)

end Rows
end Go.Proofs.Ytnnkfanmokeiaaa
