/-
  DERIVED. GIVEN WITH THE SEED: THE CARDS: each row of YtpdcjdangnfeiaaGreatDoorRows.lean that lists a variable, with what it lists TIED to the program's text (the seventh form; the later family's looks); each row that meets fmt, with fmt's text TOLD by the authors' own Lean function (tested against real Go, not proved from fmt's source: count such statements apart). THE CARD IS WHAT COUNTS. Prove the row's statement (the work); the ties are given (YtpdcjdangnfeiaaGreatDoorTie.lean); close each card by the builder's one call (the guide's Derived/Test/ToyasCard.lean, 'card_holds'). Laid BY PROGRAM, IN A SANDBOX (cutbox-door.mjs). By AI agents, Wed Nov 11 2026. No macro, syntax, notation, axiom, sorry.
-/
import Derived.Test.YtpdcjdangnfeiaaGreatDoorRows
import GoSem.ClaimSeven
namespace Go.Proofs.YtpdcjdangnfeiaaGreatDoor
namespace Rows

/-- THE TIED CARD OF 'mailbaglaw11.TreeTwins'. -/
def treeTwinsCard : Claim7 := { stood := { row := treeTwinsRow, standIns := [], harness := (true, "197e563bec1862878768bd3c5ce753b0c41a42415708f2e87a63ab28802bf0e5"), looks := true }, kinds := [], alts := [], laidByText := true, laidKinds := [.data, .pinned], laidTests := true, laidLooks := .later }
def TreeTwinsCardSaid : Prop := Claim7.holds Tryz.pinned (.plain (OpenSpec.ofChange treeTwinsSpec)) treeTwinsCard

/-- THE SECOND FORM's CARD OF 'mailbaglaw11.TreeTwins'. -/
def treeTwinsUptoCard : Claim7 := { stood := { row := treeTwinsUptoRow, standIns := [], harness := (true, "197e563bec1862878768bd3c5ce753b0c41a42415708f2e87a63ab28802bf0e5"), looks := true }, kinds := [], alts := [], laidByText := true, laidKinds := [.data, .pinned], laidTests := true, laidLooks := .later }
def TreeTwinsUptoCardSaid : Prop := Claim7.holds Tryz.pinned (.plain (OpenSpec.upto treeTwinsSpec)) treeTwinsUptoCard
end Rows
end Go.Proofs.YtpdcjdangnfeiaaGreatDoor
