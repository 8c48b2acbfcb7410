/-
  DERIVED. GIVEN WITH THE SEED: THE CARDS: each row of YtfjelgjfbjjopaaDoorRows.lean that lists a variable, with what it lists TIED to the program's text (the seventh form; the later family's looks); each row that meets fmt, with fmt's text TOLD by the authors' own Lean function (tested against real Go, not proved from fmt's source: count such statements apart). THE CARD IS WHAT COUNTS. Prove the row's statement (the work); the ties are given (YtfjelgjfbjjopaaDoorTie.lean); close each card by the builder's one call (the guide's Derived/Test/ToyasCard.lean, 'card_holds'). Laid BY PROGRAM, IN A SANDBOX (cutbox-door.mjs). By AI agents, Wed Nov 11 2026. No macro, syntax, notation, axiom, sorry.
-/
import Derived.Test.YtfjelgjfbjjopaaDoorRows
import GoSem.ClaimSeven
namespace Go.Proofs.YtfjelgjfbjjopaaDoor
namespace Rows

/-- THE TIED CARD OF 'pointsmanlaw12.NesOf'. -/
def nesOfCard : Claim7 := { stood := { row := nesOfRow, standIns := [], harness := (true, "bb659c2b450dc5cb06341b8e3502d0dcd5a14580962b9edf4bbd753a0dbe9fc2"), looks := false }, kinds := [], alts := [], laidByText := true, laidKinds := [.data], laidTests := true, laidLooks := .later }
def NesOfCardSaid : Prop := Claim7.holds Tryd.pinned (.plain (OpenSpec.ofChange nesOfSpec)) nesOfCard

/-- THE TIED CARD OF 'pointsmanlaw12.NesFamily'. -/
def nesFamilyCard : Claim7 := { stood := { row := nesFamilyRow, standIns := [], harness := (true, "bb659c2b450dc5cb06341b8e3502d0dcd5a14580962b9edf4bbd753a0dbe9fc2"), looks := false }, kinds := [], alts := [], laidByText := true, laidKinds := [.data], laidTests := true, laidLooks := .later }
def NesFamilyCardSaid : Prop := Claim7.holds Tryd.pinned (.plain (OpenSpec.ofChange nesFamilySpec)) nesFamilyCard

/-- THE TIED CARD OF 'pointsmanlaw12.NesSeen'. -/
def nesSeenCard : Claim7 := { stood := { row := nesSeenRow, standIns := [], harness := (true, "bb659c2b450dc5cb06341b8e3502d0dcd5a14580962b9edf4bbd753a0dbe9fc2"), looks := false }, kinds := [], alts := [], laidByText := true, laidKinds := [.data], laidTests := true, laidLooks := .later }
def NesSeenCardSaid : Prop := Claim7.holds Tryd.pinned (.plain (OpenSpec.ofChange nesSeenSpec)) nesSeenCard

/-- THE SECOND FORM's CARD OF 'pointsmanlaw12.NesOf'. -/
def nesOfUptoCard : Claim7 := { stood := { row := nesOfUptoRow, standIns := [], harness := (true, "bb659c2b450dc5cb06341b8e3502d0dcd5a14580962b9edf4bbd753a0dbe9fc2"), looks := false }, kinds := [], alts := [], laidByText := true, laidKinds := [.data], laidTests := true, laidLooks := .later }
def NesOfUptoCardSaid : Prop := Claim7.holds Tryd.pinned (.plain (OpenSpec.upto nesOfSpec)) nesOfUptoCard

/-- THE SECOND FORM's CARD OF 'pointsmanlaw12.NesFamily'. -/
def nesFamilyUptoCard : Claim7 := { stood := { row := nesFamilyUptoRow, standIns := [], harness := (true, "bb659c2b450dc5cb06341b8e3502d0dcd5a14580962b9edf4bbd753a0dbe9fc2"), looks := false }, kinds := [], alts := [], laidByText := true, laidKinds := [.data], laidTests := true, laidLooks := .later }
def NesFamilyUptoCardSaid : Prop := Claim7.holds Tryd.pinned (.plain (OpenSpec.upto nesFamilySpec)) nesFamilyUptoCard

/-- THE SECOND FORM's CARD OF 'pointsmanlaw12.NesSeen'. -/
def nesSeenUptoCard : Claim7 := { stood := { row := nesSeenUptoRow, standIns := [], harness := (true, "bb659c2b450dc5cb06341b8e3502d0dcd5a14580962b9edf4bbd753a0dbe9fc2"), looks := false }, kinds := [], alts := [], laidByText := true, laidKinds := [.data], laidTests := true, laidLooks := .later }
def NesSeenUptoCardSaid : Prop := Claim7.holds Tryd.pinned (.plain (OpenSpec.upto nesSeenSpec)) nesSeenUptoCard
end Rows
end Go.Proofs.YtfjelgjfbjjopaaDoor
