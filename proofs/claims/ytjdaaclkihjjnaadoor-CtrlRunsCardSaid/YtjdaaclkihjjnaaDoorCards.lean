/-
  DERIVED. GIVEN WITH THE SEED: THE CARDS: each row of YtjdaaclkihjjnaaDoorRows.lean that lists a variable, with what it lists TIED to the program's text (the seventh form; the later family's looks); each row that meets fmt, with fmt's text TOLD by the authors' own Lean function (tested against real Go, not proved from fmt's source: count such statements apart). THE CARD IS WHAT COUNTS. Prove the row's statement (the work); the ties are given (YtjdaaclkihjjnaaDoorTie.lean); close each card by the builder's one call (the guide's Derived/Test/ToyasCard.lean, 'card_holds'). Laid BY PROGRAM, IN A SANDBOX (cutbox-door.mjs). By AI agents, Wed Nov 11 2026. No macro, syntax, notation, axiom, sorry.
-/
import Derived.Test.YtjdaaclkihjjnaaDoorRows
import GoSem.ClaimSeven
namespace Go.Proofs.YtjdaaclkihjjnaaDoor
namespace Rows

/-- THE TIED CARD OF 'pointsmanlaw18.CtrlRuns'. -/
def ctrlRunsCard : Claim7 := { stood := { row := ctrlRunsRow, standIns := [], harness := (true, "efbdc3cce39423e3bee3f9f9f4b629457c5b921cf004453ee7740c01e0300510"), looks := false }, kinds := [], alts := [], laidByText := true, laidKinds := [.data], laidTests := true, laidLooks := .later }
def CtrlRunsCardSaid : Prop := Claim7.holds Tryd.pinned (.plain (OpenSpec.ofChange ctrlRunsSpec)) ctrlRunsCard

/-- THE TIED CARD OF 'pointsmanlaw18.CtrlGrows'. -/
def ctrlGrowsCard : Claim7 := { stood := { row := ctrlGrowsRow, standIns := [], harness := (true, "efbdc3cce39423e3bee3f9f9f4b629457c5b921cf004453ee7740c01e0300510"), looks := false }, kinds := [], alts := [], laidByText := true, laidKinds := [.data], laidTests := true, laidLooks := .later }
def CtrlGrowsCardSaid : Prop := Claim7.holds Tryd.pinned (.plain (OpenSpec.ofChange ctrlGrowsSpec)) ctrlGrowsCard

/-- THE SECOND FORM's CARD OF 'pointsmanlaw18.CtrlRuns'. -/
def ctrlRunsUptoCard : Claim7 := { stood := { row := ctrlRunsUptoRow, standIns := [], harness := (true, "efbdc3cce39423e3bee3f9f9f4b629457c5b921cf004453ee7740c01e0300510"), looks := false }, kinds := [], alts := [], laidByText := true, laidKinds := [.data], laidTests := true, laidLooks := .later }
def CtrlRunsUptoCardSaid : Prop := Claim7.holds Tryd.pinned (.plain (OpenSpec.upto ctrlRunsSpec)) ctrlRunsUptoCard

/-- THE SECOND FORM's CARD OF 'pointsmanlaw18.CtrlGrows'. -/
def ctrlGrowsUptoCard : Claim7 := { stood := { row := ctrlGrowsUptoRow, standIns := [], harness := (true, "efbdc3cce39423e3bee3f9f9f4b629457c5b921cf004453ee7740c01e0300510"), looks := false }, kinds := [], alts := [], laidByText := true, laidKinds := [.data], laidTests := true, laidLooks := .later }
def CtrlGrowsUptoCardSaid : Prop := Claim7.holds Tryd.pinned (.plain (OpenSpec.upto ctrlGrowsSpec)) ctrlGrowsUptoCard
end Rows
end Go.Proofs.YtjdaaclkihjjnaaDoor
