/-
  DERIVED. GIVEN WITH THE SEED: THE CARDS: each row of YtpdcjdangnfeiaaDoorRows.lean that lists a variable, with what it lists TIED to the program's text (the seventh form; the later family's looks); each row that meets fmt, with fmt's text TOLD by the authors' own Lean function (tested against real Go, not proved from fmt's source: count such statements apart). THE CARD IS WHAT COUNTS. Prove the row's statement (the work); the ties are given (YtpdcjdangnfeiaaDoorTie.lean); close each card by the builder's one call (the guide's Derived/Test/ToyasCard.lean, 'card_holds'). Laid BY PROGRAM, IN A SANDBOX (cutbox-door.mjs). By AI agents, Wed Nov 11 2026. No macro, syntax, notation, axiom, sorry.
-/
import Derived.Test.YtpdcjdangnfeiaaDoorRows
import GoSem.ClaimSeven
namespace Go.Proofs.YtpdcjdangnfeiaaDoor
namespace Rows

/-- THE TIED CARD OF 'mailbaglaw11.TreeFulls'. -/
def treeFullsCard : Claim7 := { stood := { row := treeFullsRow, standIns := [], harness := (true, "010777b48cc0734a1866245d59d08a3e9046c57e79efc42baca97d8acc9e22f1"), looks := true }, kinds := [], alts := [], laidByText := true, laidKinds := [.data, .pinned], laidTests := true, laidLooks := .later }
def TreeFullsCardSaid : Prop := Claim7.holds Tryd.pinned (.plain (OpenSpec.ofChange treeFullsSpec)) treeFullsCard

/-- THE TIED CARD OF 'mailbaglaw11.TreeDeep'. -/
def treeDeepCard : Claim7 := { stood := { row := treeDeepRow, standIns := [], harness := (true, "010777b48cc0734a1866245d59d08a3e9046c57e79efc42baca97d8acc9e22f1"), looks := true }, kinds := [], alts := [], laidByText := true, laidKinds := [.data, .pinned], laidTests := true, laidLooks := .later }
def TreeDeepCardSaid : Prop := Claim7.holds Tryd.pinned (.plain (OpenSpec.ofChange treeDeepSpec)) treeDeepCard

/-- THE TIED CARD OF 'mailbaglaw11.TreeRoom'. -/
def treeRoomCard : Claim7 := { stood := { row := treeRoomRow, standIns := [], harness := (true, "010777b48cc0734a1866245d59d08a3e9046c57e79efc42baca97d8acc9e22f1"), looks := true }, kinds := [], alts := [], laidByText := true, laidKinds := [.data, .pinned], laidTests := true, laidLooks := .later }
def TreeRoomCardSaid : Prop := Claim7.holds Tryd.pinned (.plain (OpenSpec.ofChange treeRoomSpec)) treeRoomCard

/-- THE TIED CARD OF 'mailbaglaw11.TreeReplaces'. -/
def treeReplacesCard : Claim7 := { stood := { row := treeReplacesRow, standIns := [], harness := (true, "010777b48cc0734a1866245d59d08a3e9046c57e79efc42baca97d8acc9e22f1"), looks := true }, kinds := [], alts := [], laidByText := true, laidKinds := [.data, .pinned], laidTests := true, laidLooks := .later }
def TreeReplacesCardSaid : Prop := Claim7.holds Tryd.pinned (.plain (OpenSpec.ofChange treeReplacesSpec)) treeReplacesCard

/-- THE TIED CARD OF 'mailbaglaw11.TreeErrors'. -/
def treeErrorsCard : Claim7 := { stood := { row := treeErrorsRow, standIns := [], harness := (true, "010777b48cc0734a1866245d59d08a3e9046c57e79efc42baca97d8acc9e22f1"), looks := true }, kinds := [], alts := [], laidByText := true, laidKinds := [.data, .pinned], laidTests := true, laidLooks := .later }
def TreeErrorsCardSaid : Prop := Claim7.holds Tryd.pinned (.plain (OpenSpec.ofChange treeErrorsSpec)) treeErrorsCard

/-- THE TIED CARD OF 'mailbaglaw11.TreeLists'. -/
def treeListsCard : Claim7 := { stood := { row := treeListsRow, standIns := [], harness := (true, "010777b48cc0734a1866245d59d08a3e9046c57e79efc42baca97d8acc9e22f1"), looks := true }, kinds := [], alts := [], laidByText := true, laidKinds := [.data, .pinned], laidTests := true, laidLooks := .later }
def TreeListsCardSaid : Prop := Claim7.holds Tryd.pinned (.plain (OpenSpec.ofChange treeListsSpec)) treeListsCard

/-- THE TIED CARD OF 'mailbaglaw11.TreeMoves'. -/
def treeMovesCard : Claim7 := { stood := { row := treeMovesRow, standIns := [], harness := (true, "010777b48cc0734a1866245d59d08a3e9046c57e79efc42baca97d8acc9e22f1"), looks := true }, kinds := [], alts := [], laidByText := true, laidKinds := [.data, .pinned], laidTests := true, laidLooks := .later }
def TreeMovesCardSaid : Prop := Claim7.holds Tryd.pinned (.plain (OpenSpec.ofChange treeMovesSpec)) treeMovesCard

/-- THE SECOND FORM's CARD OF 'mailbaglaw11.TreeFulls'. -/
def treeFullsUptoCard : Claim7 := { stood := { row := treeFullsUptoRow, standIns := [], harness := (true, "010777b48cc0734a1866245d59d08a3e9046c57e79efc42baca97d8acc9e22f1"), looks := true }, kinds := [], alts := [], laidByText := true, laidKinds := [.data, .pinned], laidTests := true, laidLooks := .later }
def TreeFullsUptoCardSaid : Prop := Claim7.holds Tryd.pinned (.plain (OpenSpec.upto treeFullsSpec)) treeFullsUptoCard

/-- THE SECOND FORM's CARD OF 'mailbaglaw11.TreeDeep'. -/
def treeDeepUptoCard : Claim7 := { stood := { row := treeDeepUptoRow, standIns := [], harness := (true, "010777b48cc0734a1866245d59d08a3e9046c57e79efc42baca97d8acc9e22f1"), looks := true }, kinds := [], alts := [], laidByText := true, laidKinds := [.data, .pinned], laidTests := true, laidLooks := .later }
def TreeDeepUptoCardSaid : Prop := Claim7.holds Tryd.pinned (.plain (OpenSpec.upto treeDeepSpec)) treeDeepUptoCard

/-- THE SECOND FORM's CARD OF 'mailbaglaw11.TreeRoom'. -/
def treeRoomUptoCard : Claim7 := { stood := { row := treeRoomUptoRow, standIns := [], harness := (true, "010777b48cc0734a1866245d59d08a3e9046c57e79efc42baca97d8acc9e22f1"), looks := true }, kinds := [], alts := [], laidByText := true, laidKinds := [.data, .pinned], laidTests := true, laidLooks := .later }
def TreeRoomUptoCardSaid : Prop := Claim7.holds Tryd.pinned (.plain (OpenSpec.upto treeRoomSpec)) treeRoomUptoCard

/-- THE SECOND FORM's CARD OF 'mailbaglaw11.TreeReplaces'. -/
def treeReplacesUptoCard : Claim7 := { stood := { row := treeReplacesUptoRow, standIns := [], harness := (true, "010777b48cc0734a1866245d59d08a3e9046c57e79efc42baca97d8acc9e22f1"), looks := true }, kinds := [], alts := [], laidByText := true, laidKinds := [.data, .pinned], laidTests := true, laidLooks := .later }
def TreeReplacesUptoCardSaid : Prop := Claim7.holds Tryd.pinned (.plain (OpenSpec.upto treeReplacesSpec)) treeReplacesUptoCard

/-- THE SECOND FORM's CARD OF 'mailbaglaw11.TreeErrors'. -/
def treeErrorsUptoCard : Claim7 := { stood := { row := treeErrorsUptoRow, standIns := [], harness := (true, "010777b48cc0734a1866245d59d08a3e9046c57e79efc42baca97d8acc9e22f1"), looks := true }, kinds := [], alts := [], laidByText := true, laidKinds := [.data, .pinned], laidTests := true, laidLooks := .later }
def TreeErrorsUptoCardSaid : Prop := Claim7.holds Tryd.pinned (.plain (OpenSpec.upto treeErrorsSpec)) treeErrorsUptoCard

/-- THE SECOND FORM's CARD OF 'mailbaglaw11.TreeLists'. -/
def treeListsUptoCard : Claim7 := { stood := { row := treeListsUptoRow, standIns := [], harness := (true, "010777b48cc0734a1866245d59d08a3e9046c57e79efc42baca97d8acc9e22f1"), looks := true }, kinds := [], alts := [], laidByText := true, laidKinds := [.data, .pinned], laidTests := true, laidLooks := .later }
def TreeListsUptoCardSaid : Prop := Claim7.holds Tryd.pinned (.plain (OpenSpec.upto treeListsSpec)) treeListsUptoCard

/-- THE SECOND FORM's CARD OF 'mailbaglaw11.TreeMoves'. -/
def treeMovesUptoCard : Claim7 := { stood := { row := treeMovesUptoRow, standIns := [], harness := (true, "010777b48cc0734a1866245d59d08a3e9046c57e79efc42baca97d8acc9e22f1"), looks := true }, kinds := [], alts := [], laidByText := true, laidKinds := [.data, .pinned], laidTests := true, laidLooks := .later }
def TreeMovesUptoCardSaid : Prop := Claim7.holds Tryd.pinned (.plain (OpenSpec.upto treeMovesSpec)) treeMovesUptoCard
end Rows
end Go.Proofs.YtpdcjdangnfeiaaDoor
