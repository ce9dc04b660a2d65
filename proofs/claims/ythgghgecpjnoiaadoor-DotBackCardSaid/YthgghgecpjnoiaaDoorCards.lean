/-
  DERIVED. GIVEN WITH THE SEED: THE CARDS: each row of YthgghgecpjnoiaaDoorRows.lean that lists a variable, with what it lists TIED to the program's text (the seventh form; the later family's looks); each row that meets fmt, with fmt's text TOLD by the authors' own Lean function (tested against real Go, not proved from fmt's source: count such statements apart). THE CARD IS WHAT COUNTS. Prove the row's statement (the work); the ties are given (YthgghgecpjnoiaaDoorTie.lean); close each card by the builder's one call (the guide's Derived/Test/ToyasCard.lean, 'card_holds'). Laid BY PROGRAM, IN A SANDBOX (cutbox-door.mjs). By AI agents, Wed Nov 11 2026. No macro, syntax, notation, axiom, sorry.
-/
import Derived.Test.YthgghgecpjnoiaaDoorRows
import GoSem.ClaimSeven
namespace Go.Proofs.YthgghgecpjnoiaaDoor
namespace Rows

/-- THE TIED CARD OF 'mailbaglaw17.DotBack'. -/
def dotBackCard : Claim7 := { stood := { row := dotBackRow, standIns := [], harness := (true, "4122cf04d79b57b2a1711e0091b0cb45c77f87ef3f2f64b72831c417bf8663f1"), looks := false }, kinds := [], alts := [], laidByText := true, laidKinds := [.data, .pinned], laidTests := true, laidLooks := .later }
def DotBackCardSaid : Prop := Claim7.holds Tryd.pinned (.plain (OpenSpec.ofChange dotBackSpec)) dotBackCard

/-- THE TIED CARD OF 'mailbaglaw17.DotNever'. -/
def dotNeverCard : Claim7 := { stood := { row := dotNeverRow, standIns := [], harness := (true, "4122cf04d79b57b2a1711e0091b0cb45c77f87ef3f2f64b72831c417bf8663f1"), looks := false }, kinds := [], alts := [], laidByText := true, laidKinds := [.data, .pinned], laidTests := true, laidLooks := .later }
def DotNeverCardSaid : Prop := Claim7.holds Tryd.pinned (.plain (OpenSpec.ofChange dotNeverSpec)) dotNeverCard

/-- THE TIED CARD OF 'mailbaglaw17.DotSizes'. -/
def dotSizesCard : Claim7 := { stood := { row := dotSizesRow, standIns := [], harness := (true, "4122cf04d79b57b2a1711e0091b0cb45c77f87ef3f2f64b72831c417bf8663f1"), looks := false }, kinds := [], alts := [], laidByText := true, laidKinds := [.data, .pinned], laidTests := true, laidLooks := .later }
def DotSizesCardSaid : Prop := Claim7.holds Tryd.pinned (.plain (OpenSpec.ofChange dotSizesSpec)) dotSizesCard

/-- THE TIED CARD OF 'mailbaglaw17.DotStreams'. -/
def dotStreamsCard : Claim7 := { stood := { row := dotStreamsRow, standIns := [], harness := (true, "4122cf04d79b57b2a1711e0091b0cb45c77f87ef3f2f64b72831c417bf8663f1"), looks := false }, kinds := [], alts := [], laidByText := true, laidKinds := [.data, .pinned], laidTests := true, laidLooks := .later }
def DotStreamsCardSaid : Prop := Claim7.holds Tryd.pinned (.plain (OpenSpec.ofChange dotStreamsSpec)) dotStreamsCard

/-- THE TIED CARD OF 'mailbaglaw10.PathTexts'. -/
def pathTextsCard : Claim7 := { stood := { row := pathTextsRow, standIns := [], harness := (true, "4122cf04d79b57b2a1711e0091b0cb45c77f87ef3f2f64b72831c417bf8663f1"), looks := false }, kinds := [], alts := [], laidByText := true, laidKinds := [.data, .pinned], laidTests := true, laidLooks := .later }
def PathTextsCardSaid : Prop := Claim7.holds Tryd.pinned (.plain (OpenSpec.ofChange pathTextsSpec)) pathTextsCard

/-- THE TIED CARD OF 'mailbaglaw10.PathJoins'. -/
def pathJoinsCard : Claim7 := { stood := { row := pathJoinsRow, standIns := [], harness := (true, "4122cf04d79b57b2a1711e0091b0cb45c77f87ef3f2f64b72831c417bf8663f1"), looks := false }, kinds := [], alts := [], laidByText := true, laidKinds := [.data, .pinned], laidTests := true, laidLooks := .later }
def PathJoinsCardSaid : Prop := Claim7.holds Tryd.pinned (.plain (OpenSpec.ofChange pathJoinsSpec)) pathJoinsCard

/-- THE TIED CARD OF 'mailbaglaw10.PathUnders'. -/
def pathUndersCard : Claim7 := { stood := { row := pathUndersRow, standIns := [], harness := (true, "4122cf04d79b57b2a1711e0091b0cb45c77f87ef3f2f64b72831c417bf8663f1"), looks := false }, kinds := [], alts := [], laidByText := true, laidKinds := [.data, .pinned], laidTests := true, laidLooks := .later }
def PathUndersCardSaid : Prop := Claim7.holds Tryd.pinned (.plain (OpenSpec.ofChange pathUndersSpec)) pathUndersCard

/-- THE SECOND FORM's CARD OF 'mailbaglaw17.DotBack'. -/
def dotBackUptoCard : Claim7 := { stood := { row := dotBackUptoRow, standIns := [], harness := (true, "4122cf04d79b57b2a1711e0091b0cb45c77f87ef3f2f64b72831c417bf8663f1"), looks := false }, kinds := [], alts := [], laidByText := true, laidKinds := [.data, .pinned], laidTests := true, laidLooks := .later }
def DotBackUptoCardSaid : Prop := Claim7.holds Tryd.pinned (.plain (OpenSpec.upto dotBackSpec)) dotBackUptoCard

/-- THE SECOND FORM's CARD OF 'mailbaglaw17.DotNever'. -/
def dotNeverUptoCard : Claim7 := { stood := { row := dotNeverUptoRow, standIns := [], harness := (true, "4122cf04d79b57b2a1711e0091b0cb45c77f87ef3f2f64b72831c417bf8663f1"), looks := false }, kinds := [], alts := [], laidByText := true, laidKinds := [.data, .pinned], laidTests := true, laidLooks := .later }
def DotNeverUptoCardSaid : Prop := Claim7.holds Tryd.pinned (.plain (OpenSpec.upto dotNeverSpec)) dotNeverUptoCard

/-- THE SECOND FORM's CARD OF 'mailbaglaw17.DotSizes'. -/
def dotSizesUptoCard : Claim7 := { stood := { row := dotSizesUptoRow, standIns := [], harness := (true, "4122cf04d79b57b2a1711e0091b0cb45c77f87ef3f2f64b72831c417bf8663f1"), looks := false }, kinds := [], alts := [], laidByText := true, laidKinds := [.data, .pinned], laidTests := true, laidLooks := .later }
def DotSizesUptoCardSaid : Prop := Claim7.holds Tryd.pinned (.plain (OpenSpec.upto dotSizesSpec)) dotSizesUptoCard

/-- THE SECOND FORM's CARD OF 'mailbaglaw17.DotStreams'. -/
def dotStreamsUptoCard : Claim7 := { stood := { row := dotStreamsUptoRow, standIns := [], harness := (true, "4122cf04d79b57b2a1711e0091b0cb45c77f87ef3f2f64b72831c417bf8663f1"), looks := false }, kinds := [], alts := [], laidByText := true, laidKinds := [.data, .pinned], laidTests := true, laidLooks := .later }
def DotStreamsUptoCardSaid : Prop := Claim7.holds Tryd.pinned (.plain (OpenSpec.upto dotStreamsSpec)) dotStreamsUptoCard

/-- THE SECOND FORM's CARD OF 'mailbaglaw10.PathTexts'. -/
def pathTextsUptoCard : Claim7 := { stood := { row := pathTextsUptoRow, standIns := [], harness := (true, "4122cf04d79b57b2a1711e0091b0cb45c77f87ef3f2f64b72831c417bf8663f1"), looks := false }, kinds := [], alts := [], laidByText := true, laidKinds := [.data, .pinned], laidTests := true, laidLooks := .later }
def PathTextsUptoCardSaid : Prop := Claim7.holds Tryd.pinned (.plain (OpenSpec.upto pathTextsSpec)) pathTextsUptoCard

/-- THE SECOND FORM's CARD OF 'mailbaglaw10.PathJoins'. -/
def pathJoinsUptoCard : Claim7 := { stood := { row := pathJoinsUptoRow, standIns := [], harness := (true, "4122cf04d79b57b2a1711e0091b0cb45c77f87ef3f2f64b72831c417bf8663f1"), looks := false }, kinds := [], alts := [], laidByText := true, laidKinds := [.data, .pinned], laidTests := true, laidLooks := .later }
def PathJoinsUptoCardSaid : Prop := Claim7.holds Tryd.pinned (.plain (OpenSpec.upto pathJoinsSpec)) pathJoinsUptoCard

/-- THE SECOND FORM's CARD OF 'mailbaglaw10.PathUnders'. -/
def pathUndersUptoCard : Claim7 := { stood := { row := pathUndersUptoRow, standIns := [], harness := (true, "4122cf04d79b57b2a1711e0091b0cb45c77f87ef3f2f64b72831c417bf8663f1"), looks := false }, kinds := [], alts := [], laidByText := true, laidKinds := [.data, .pinned], laidTests := true, laidLooks := .later }
def PathUndersUptoCardSaid : Prop := Claim7.holds Tryd.pinned (.plain (OpenSpec.upto pathUndersSpec)) pathUndersUptoCard
end Rows
end Go.Proofs.YthgghgecpjnoiaaDoor
