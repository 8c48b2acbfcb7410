/-
  DERIVED. GIVEN WITH THE SEED: THE CARDS: each row of YtkgegocfjalcbaaDoorRows.lean that lists a variable, with what it lists TIED to the program's text (the seventh form; the later family's looks); each row that meets fmt, with fmt's text TOLD by the authors' own Lean function (tested against real Go, not proved from fmt's source: count such statements apart). THE CARD IS WHAT COUNTS. Prove the row's statement (the work); the ties are given (YtkgegocfjalcbaaDoorTie.lean); close each card by the builder's one call (the guide's Derived/Test/ToyasCard.lean, 'card_holds'). Laid BY PROGRAM, IN A SANDBOX (cutbox-door.mjs). By AI agents, Wed Nov 11 2026. No macro, syntax, notation, axiom, sorry.
-/
import Derived.Test.YtkgegocfjalcbaaDoorRows
import GoSem.ClaimSeven
namespace Go.Proofs.YtkgegocfjalcbaaDoor
namespace Rows

/-- THE TIED CARD OF 'pointsmanlaw21.CauseRaw'. -/
def causeRawCard : Claim7 := { stood := { row := causeRawRow, standIns := [], harness := (true, "e80b7f7af35cbad3b5531247c51cccdee6187e89bbac1a6f4a6144e75aa68f21"), looks := false }, kinds := [], alts := [], laidByText := true, laidKinds := [.data], laidTests := true, laidLooks := .later }
def CauseRawCardSaid : Prop := Claim7.holds Tryd.pinned (.plain (OpenSpec.ofChange causeRawSpec)) causeRawCard

/-- THE SECOND FORM's CARD OF 'pointsmanlaw21.CauseRaw'. -/
def causeRawUptoCard : Claim7 := { stood := { row := causeRawUptoRow, standIns := [], harness := (true, "e80b7f7af35cbad3b5531247c51cccdee6187e89bbac1a6f4a6144e75aa68f21"), looks := false }, kinds := [], alts := [], laidByText := true, laidKinds := [.data], laidTests := true, laidLooks := .later }
def CauseRawUptoCardSaid : Prop := Claim7.holds Tryd.pinned (.plain (OpenSpec.upto causeRawSpec)) causeRawUptoCard
end Rows
end Go.Proofs.YtkgegocfjalcbaaDoor
