/-
  NARROWER THAN 'FOR EVERY INPUT', by the rows' own cells (each row's printed sentence says how): TreeFulls: laid · TreeDeep: laid · TreeRoom: laid · TreeReplaces: laid · TreeErrors: laid · TreeLists: laid · TreeMoves: laid.
  DERIVED. THE GIVEN ROWS OF THIS SEAT. 7 by the template 'for every input the law returns true; each argument reads behind the call as it read before'; 0 by the template 'total and deterministic' (their statements: YtpdcjdangnfeiaaDoorTotals.lean).
  GIVEN WITH THE SEED: the statements are not yours to turn. If you find one false, say at which input.
  Laid BY PROGRAM, IN A SANDBOX (cutbox-rows.mjs): the forced cells as the released guide's own fill.sh prints them over the translation 6a03095e2eedce94… (all of the seat's roots in one cut). By AI agents, Wed Nov 11 2026. No macro, syntax, notation, axiom, sorry.
-/
import Derived.Test.YtpdcjdangnfeiaaDoorChecked
import GoSem.PinnedTables
import GoSem.Claim
import GoSem.ClaimJoined
import GoSem.ClaimMapViews
import Derived.JoinedTies
import Derived.KernelRfl
namespace Go.Proofs.YtpdcjdangnfeiaaDoor
/- THE CELL 'sum', in the pinned program and in every row, IS THE sha256 OF THE DUMP (.gsa) THAT YtpdcjdangnfeiaaDoorProg.lean LOADS. Nothing in Lean hashes anything: it is a label: what it is worth is what the hold of that sum in a sandbox is worth. -/
noncomputable def Tryd.pinned : Pinned := { name := "ytpdcjdangnfeiaadoor", sum := "6a03095e2eedce94c5008f7d909886f8c33c19ba30775123b8bd35644648bdd7", checked := Tryd.checked }
namespace Rows
def none {H : Type} : Left H := { results := [], args := [] }

/- WHAT THE LISTED PACKAGE-LEVEL VARIABLES READ AS WHEN THE CALL BEGINS. Each datum BY PROGRAM (the guide's laid-datum.mjs) off the statement by which the dump's own 'gosem.cut.vars' lays the variable. In a bare row this is a premise. The card (YtpdcjdangnfeiaaDoorCards.lean) ties it to the program's text. -/
def laid_unicode_utf8_acceptRanges {H : Type} : DataW H := .agg [.agg [.lit (.int .u8 128), .lit (.int .u8 191)], .agg [.lit (.int .u8 160), .lit (.int .u8 191)], .agg [.lit (.int .u8 128), .lit (.int .u8 159)], .agg [.lit (.int .u8 144), .lit (.int .u8 191)], .agg [.lit (.int .u8 128), .lit (.int .u8 143)], .agg [.lit (.int .u8 0), .lit (.int .u8 0)], .agg [.lit (.int .u8 0), .lit (.int .u8 0)], .agg [.lit (.int .u8 0), .lit (.int .u8 0)], .agg [.lit (.int .u8 0), .lit (.int .u8 0)], .agg [.lit (.int .u8 0), .lit (.int .u8 0)], .agg [.lit (.int .u8 0), .lit (.int .u8 0)], .agg [.lit (.int .u8 0), .lit (.int .u8 0)], .agg [.lit (.int .u8 0), .lit (.int .u8 0)], .agg [.lit (.int .u8 0), .lit (.int .u8 0)], .agg [.lit (.int .u8 0), .lit (.int .u8 0)], .agg [.lit (.int .u8 0), .lit (.int .u8 0)]]
/-- One of Go's own tables, pinned by name: the form's constant. -/
def laid_unicode_utf8_first : DataW Unit := Go.Pinned.utf8First

/-- 'mailbaglaw11.TreeFulls': WHATEVER THE INPUT: true; the input reads as it did. -/
def treeFullsSpec : ChangeSpec := { name := "treeFulls", fn := fun _ => fun
  | [d1, d2] => { results := [.lit (.bool true)], args := [d1, d2] }
  | _ => none }
def treeFullsRow : OpenClaim := { program := "ytpdcjdangnfeiaadoor", sum := "6a03095e2eedce94c5008f7d909886f8c33c19ba30775123b8bd35644648bdd7", func := "mailbag/mailbaglaw11.TreeFulls", spec := "treeFulls", inPlace := ["internal/bytealg.CountString", "internal/bytealg.IndexByteString", "internal/bytealg.IndexString"], unfollowed := true, recurses := true, named := ["unicode/utf8.first", "unicode/utf8.acceptRanges", "internal/bytealg.MaxLen"], apart := false, laid := [("unicode/utf8.acceptRanges", laid_unicode_utf8_acceptRanges), ("unicode/utf8.first", laid_unicode_utf8_first)] }
def TreeFullsSaid : Prop := treeFullsRow.holds Tryd.pinned (OpenSpec.ofChange treeFullsSpec)

/-- ITS FALSE NEIGHBOUR: 'it returns false'. Refute it at one input. -/
def treeFullsWrong : ChangeSpec := { name := "treeFulls", fn := fun _ => fun
  | [d1, d2] => { results := [.lit (.bool false)], args := [d1, d2] }
  | _ => none }
def TreeFullsWrongFalsely : Prop := treeFullsRow.holds Tryd.pinned (OpenSpec.ofChange treeFullsWrong)

/-- 'mailbaglaw11.TreeDeep': WHATEVER THE INPUT: true; the input reads as it did. -/
def treeDeepSpec : ChangeSpec := { name := "treeDeep", fn := fun _ => fun
  | [d] => { results := [.lit (.bool true)], args := [d] }
  | _ => none }
def treeDeepRow : OpenClaim := { program := "ytpdcjdangnfeiaadoor", sum := "6a03095e2eedce94c5008f7d909886f8c33c19ba30775123b8bd35644648bdd7", func := "mailbag/mailbaglaw11.TreeDeep", spec := "treeDeep", inPlace := ["internal/bytealg.CountString", "internal/bytealg.IndexByteString", "internal/bytealg.IndexString"], unfollowed := true, recurses := true, named := ["unicode/utf8.first", "unicode/utf8.acceptRanges", "internal/bytealg.MaxLen"], apart := false, laid := [("unicode/utf8.acceptRanges", laid_unicode_utf8_acceptRanges), ("unicode/utf8.first", laid_unicode_utf8_first)] }
def TreeDeepSaid : Prop := treeDeepRow.holds Tryd.pinned (OpenSpec.ofChange treeDeepSpec)

/-- ITS FALSE NEIGHBOUR: 'it returns false'. Refute it at one input. -/
def treeDeepWrong : ChangeSpec := { name := "treeDeep", fn := fun _ => fun
  | [d] => { results := [.lit (.bool false)], args := [d] }
  | _ => none }
def TreeDeepWrongFalsely : Prop := treeDeepRow.holds Tryd.pinned (OpenSpec.ofChange treeDeepWrong)

/-- 'mailbaglaw11.TreeRoom': WHATEVER THE INPUT: true; the input reads as it did. -/
def treeRoomSpec : ChangeSpec := { name := "treeRoom", fn := fun _ => fun
  | [d] => { results := [.lit (.bool true)], args := [d] }
  | _ => none }
def treeRoomRow : OpenClaim := { program := "ytpdcjdangnfeiaadoor", sum := "6a03095e2eedce94c5008f7d909886f8c33c19ba30775123b8bd35644648bdd7", func := "mailbag/mailbaglaw11.TreeRoom", spec := "treeRoom", inPlace := ["internal/bytealg.CountString", "internal/bytealg.IndexByteString", "internal/bytealg.IndexString"], unfollowed := true, recurses := true, named := ["unicode/utf8.first", "unicode/utf8.acceptRanges", "internal/bytealg.MaxLen"], apart := false, laid := [("unicode/utf8.acceptRanges", laid_unicode_utf8_acceptRanges), ("unicode/utf8.first", laid_unicode_utf8_first)] }
def TreeRoomSaid : Prop := treeRoomRow.holds Tryd.pinned (OpenSpec.ofChange treeRoomSpec)

/-- ITS FALSE NEIGHBOUR: 'it returns false'. Refute it at one input. -/
def treeRoomWrong : ChangeSpec := { name := "treeRoom", fn := fun _ => fun
  | [d] => { results := [.lit (.bool false)], args := [d] }
  | _ => none }
def TreeRoomWrongFalsely : Prop := treeRoomRow.holds Tryd.pinned (OpenSpec.ofChange treeRoomWrong)

/-- 'mailbaglaw11.TreeReplaces': WHATEVER THE INPUT: true; the input reads as it did. -/
def treeReplacesSpec : ChangeSpec := { name := "treeReplaces", fn := fun _ => fun
  | [d1, d2, d3] => { results := [.lit (.bool true)], args := [d1, d2, d3] }
  | _ => none }
def treeReplacesRow : OpenClaim := { program := "ytpdcjdangnfeiaadoor", sum := "6a03095e2eedce94c5008f7d909886f8c33c19ba30775123b8bd35644648bdd7", func := "mailbag/mailbaglaw11.TreeReplaces", spec := "treeReplaces", inPlace := ["internal/bytealg.CountString", "internal/bytealg.IndexByteString", "internal/bytealg.IndexString"], unfollowed := true, recurses := true, named := ["unicode/utf8.first", "unicode/utf8.acceptRanges", "internal/bytealg.MaxLen"], apart := false, laid := [("unicode/utf8.acceptRanges", laid_unicode_utf8_acceptRanges), ("unicode/utf8.first", laid_unicode_utf8_first)] }
def TreeReplacesSaid : Prop := treeReplacesRow.holds Tryd.pinned (OpenSpec.ofChange treeReplacesSpec)

/-- ITS FALSE NEIGHBOUR: 'it returns false'. Refute it at one input. -/
def treeReplacesWrong : ChangeSpec := { name := "treeReplaces", fn := fun _ => fun
  | [d1, d2, d3] => { results := [.lit (.bool false)], args := [d1, d2, d3] }
  | _ => none }
def TreeReplacesWrongFalsely : Prop := treeReplacesRow.holds Tryd.pinned (OpenSpec.ofChange treeReplacesWrong)

/-- 'mailbaglaw11.TreeErrors': WHATEVER THE INPUT: true; the input reads as it did. -/
def treeErrorsSpec : ChangeSpec := { name := "treeErrors", fn := fun _ => fun
  | [d1, d2] => { results := [.lit (.bool true)], args := [d1, d2] }
  | _ => none }
def treeErrorsRow : OpenClaim := { program := "ytpdcjdangnfeiaadoor", sum := "6a03095e2eedce94c5008f7d909886f8c33c19ba30775123b8bd35644648bdd7", func := "mailbag/mailbaglaw11.TreeErrors", spec := "treeErrors", inPlace := ["internal/bytealg.CountString", "internal/bytealg.IndexByteString", "internal/bytealg.IndexString", "maps.clone"], unfollowed := true, recurses := true, named := ["unicode/utf8.first", "unicode/utf8.acceptRanges", "internal/bytealg.MaxLen"], apart := false, laid := [("unicode/utf8.acceptRanges", laid_unicode_utf8_acceptRanges), ("unicode/utf8.first", laid_unicode_utf8_first)] }
def TreeErrorsSaid : Prop := treeErrorsRow.holds Tryd.pinned (OpenSpec.ofChange treeErrorsSpec)

/-- ITS FALSE NEIGHBOUR: 'it returns false'. Refute it at one input. -/
def treeErrorsWrong : ChangeSpec := { name := "treeErrors", fn := fun _ => fun
  | [d1, d2] => { results := [.lit (.bool false)], args := [d1, d2] }
  | _ => none }
def TreeErrorsWrongFalsely : Prop := treeErrorsRow.holds Tryd.pinned (OpenSpec.ofChange treeErrorsWrong)

/-- 'mailbaglaw11.TreeLists': WHATEVER THE INPUT: true; the input reads as it did. -/
def treeListsSpec : ChangeSpec := { name := "treeLists", fn := fun _ => fun
  | [d] => { results := [.lit (.bool true)], args := [d] }
  | _ => none }
def treeListsRow : OpenClaim := { program := "ytpdcjdangnfeiaadoor", sum := "6a03095e2eedce94c5008f7d909886f8c33c19ba30775123b8bd35644648bdd7", func := "mailbag/mailbaglaw11.TreeLists", spec := "treeLists", inPlace := ["internal/bytealg.CountString", "internal/bytealg.IndexByteString", "internal/bytealg.IndexString", "maps.clone"], unfollowed := true, recurses := true, named := ["unicode/utf8.first", "unicode/utf8.acceptRanges", "internal/bytealg.MaxLen"], apart := false, laid := [("unicode/utf8.acceptRanges", laid_unicode_utf8_acceptRanges), ("unicode/utf8.first", laid_unicode_utf8_first)] }
def TreeListsSaid : Prop := treeListsRow.holds Tryd.pinned (OpenSpec.ofChange treeListsSpec)

/-- ITS FALSE NEIGHBOUR: 'it returns false'. Refute it at one input. -/
def treeListsWrong : ChangeSpec := { name := "treeLists", fn := fun _ => fun
  | [d] => { results := [.lit (.bool false)], args := [d] }
  | _ => none }
def TreeListsWrongFalsely : Prop := treeListsRow.holds Tryd.pinned (OpenSpec.ofChange treeListsWrong)

/-- 'mailbaglaw11.TreeMoves': WHATEVER THE INPUT: true; the input reads as it did. -/
def treeMovesSpec : ChangeSpec := { name := "treeMoves", fn := fun _ => fun
  | [d1, d2, d3] => { results := [.lit (.bool true)], args := [d1, d2, d3] }
  | _ => none }
def treeMovesRow : OpenClaim := { program := "ytpdcjdangnfeiaadoor", sum := "6a03095e2eedce94c5008f7d909886f8c33c19ba30775123b8bd35644648bdd7", func := "mailbag/mailbaglaw11.TreeMoves", spec := "treeMoves", inPlace := ["internal/bytealg.CountString", "internal/bytealg.IndexByteString", "internal/bytealg.IndexString", "maps.clone"], unfollowed := true, recurses := true, named := ["unicode/utf8.first", "unicode/utf8.acceptRanges", "internal/bytealg.MaxLen"], apart := false, laid := [("unicode/utf8.acceptRanges", laid_unicode_utf8_acceptRanges), ("unicode/utf8.first", laid_unicode_utf8_first)] }
def TreeMovesSaid : Prop := treeMovesRow.holds Tryd.pinned (OpenSpec.ofChange treeMovesSpec)

/-- ITS FALSE NEIGHBOUR: 'it returns false'. Refute it at one input. -/
def treeMovesWrong : ChangeSpec := { name := "treeMoves", fn := fun _ => fun
  | [d1, d2, d3] => { results := [.lit (.bool false)], args := [d1, d2, d3] }
  | _ => none }
def TreeMovesWrongFalsely : Prop := treeMovesRow.holds Tryd.pinned (OpenSpec.ofChange treeMovesWrong)

/- THE SECOND FORM. 'bulk': how many values and letters a reading holds, each counted each time it is reached (what is shared counts as often as it is met; a slice's spare places count too). A statement '..UptoSaid' is the law's where the arguments, and the package variables that the reading takes, are together of bulk at most 1048576: NARROWER than '..Said'. Prove '..Said' where nothing that the law and all that it calls make is longer than what came in: it says more and counts as full. Else prove '..UptoSaid'. A law counts once. -/
mutual
def uptoBulk {H : Type} : DataW H → Nat
  | .lit (.string bytes) => bytes.length + 1
  | .lit _ => 1
  | .nil => 1
  | .ptr d => uptoBulk d + 1
  | .slice elems spare => uptoBulkAll elems + uptoBulkAll spare + 1
  | .agg parts => uptoBulkAll parts + 1
  | .iface _ d => uptoBulk d + 1
  | .map entries => uptoBulkEntries entries + 1
  | .held _ => 1
def uptoBulkAll {H : Type} : List (DataW H) → Nat
  | [] => 0
  | d :: r => uptoBulk d + uptoBulkAll r
def uptoBulkEntries {H : Type} : List (Lit × DataW H) → Nat
  | [] => 0
  | x :: r => uptoBulkEntry x + uptoBulkEntries r
def uptoBulkEntry {H : Type} : Lit × DataW H → Nat
  | (.string bytes, d) => bytes.length + uptoBulk d + 1
  | (_, d) => uptoBulk d + 1
 end
def uptoSmall : (H : Type) → List (DataW H) → Bool := fun _ ds => decide (uptoBulkAll ds ≤ 1048576)
def OpenSpec.upto (s : _root_.Go.ChangeSpec) : _root_.Go.OpenSpec := { _root_.Go.OpenSpec.ofChange s with cond := some uptoSmall }

/-- 'mailbaglaw11.TreeFulls', WHERE WHAT IT READS IS OF BULK AT MOST 1048576: true; the input reads as it did. -/
def treeFullsUptoRow : OpenClaim := { program := "ytpdcjdangnfeiaadoor", sum := "6a03095e2eedce94c5008f7d909886f8c33c19ba30775123b8bd35644648bdd7", func := "mailbag/mailbaglaw11.TreeFulls", spec := "treeFulls", inPlace := ["internal/bytealg.CountString", "internal/bytealg.IndexByteString", "internal/bytealg.IndexString"], unfollowed := true, recurses := true, named := ["unicode/utf8.first", "unicode/utf8.acceptRanges", "internal/bytealg.MaxLen"], apart := false, laid := [("unicode/utf8.acceptRanges", laid_unicode_utf8_acceptRanges), ("unicode/utf8.first", laid_unicode_utf8_first)], narrowed := true }
def TreeFullsUptoSaid : Prop := treeFullsUptoRow.holds Tryd.pinned (OpenSpec.upto treeFullsSpec)

/-- 'mailbaglaw11.TreeDeep', WHERE WHAT IT READS IS OF BULK AT MOST 1048576: true; the input reads as it did. -/
def treeDeepUptoRow : OpenClaim := { program := "ytpdcjdangnfeiaadoor", sum := "6a03095e2eedce94c5008f7d909886f8c33c19ba30775123b8bd35644648bdd7", func := "mailbag/mailbaglaw11.TreeDeep", spec := "treeDeep", inPlace := ["internal/bytealg.CountString", "internal/bytealg.IndexByteString", "internal/bytealg.IndexString"], unfollowed := true, recurses := true, named := ["unicode/utf8.first", "unicode/utf8.acceptRanges", "internal/bytealg.MaxLen"], apart := false, laid := [("unicode/utf8.acceptRanges", laid_unicode_utf8_acceptRanges), ("unicode/utf8.first", laid_unicode_utf8_first)], narrowed := true }
def TreeDeepUptoSaid : Prop := treeDeepUptoRow.holds Tryd.pinned (OpenSpec.upto treeDeepSpec)

/-- 'mailbaglaw11.TreeRoom', WHERE WHAT IT READS IS OF BULK AT MOST 1048576: true; the input reads as it did. -/
def treeRoomUptoRow : OpenClaim := { program := "ytpdcjdangnfeiaadoor", sum := "6a03095e2eedce94c5008f7d909886f8c33c19ba30775123b8bd35644648bdd7", func := "mailbag/mailbaglaw11.TreeRoom", spec := "treeRoom", inPlace := ["internal/bytealg.CountString", "internal/bytealg.IndexByteString", "internal/bytealg.IndexString"], unfollowed := true, recurses := true, named := ["unicode/utf8.first", "unicode/utf8.acceptRanges", "internal/bytealg.MaxLen"], apart := false, laid := [("unicode/utf8.acceptRanges", laid_unicode_utf8_acceptRanges), ("unicode/utf8.first", laid_unicode_utf8_first)], narrowed := true }
def TreeRoomUptoSaid : Prop := treeRoomUptoRow.holds Tryd.pinned (OpenSpec.upto treeRoomSpec)

/-- 'mailbaglaw11.TreeReplaces', WHERE WHAT IT READS IS OF BULK AT MOST 1048576: true; the input reads as it did. -/
def treeReplacesUptoRow : OpenClaim := { program := "ytpdcjdangnfeiaadoor", sum := "6a03095e2eedce94c5008f7d909886f8c33c19ba30775123b8bd35644648bdd7", func := "mailbag/mailbaglaw11.TreeReplaces", spec := "treeReplaces", inPlace := ["internal/bytealg.CountString", "internal/bytealg.IndexByteString", "internal/bytealg.IndexString"], unfollowed := true, recurses := true, named := ["unicode/utf8.first", "unicode/utf8.acceptRanges", "internal/bytealg.MaxLen"], apart := false, laid := [("unicode/utf8.acceptRanges", laid_unicode_utf8_acceptRanges), ("unicode/utf8.first", laid_unicode_utf8_first)], narrowed := true }
def TreeReplacesUptoSaid : Prop := treeReplacesUptoRow.holds Tryd.pinned (OpenSpec.upto treeReplacesSpec)

/-- 'mailbaglaw11.TreeErrors', WHERE WHAT IT READS IS OF BULK AT MOST 1048576: true; the input reads as it did. -/
def treeErrorsUptoRow : OpenClaim := { program := "ytpdcjdangnfeiaadoor", sum := "6a03095e2eedce94c5008f7d909886f8c33c19ba30775123b8bd35644648bdd7", func := "mailbag/mailbaglaw11.TreeErrors", spec := "treeErrors", inPlace := ["internal/bytealg.CountString", "internal/bytealg.IndexByteString", "internal/bytealg.IndexString", "maps.clone"], unfollowed := true, recurses := true, named := ["unicode/utf8.first", "unicode/utf8.acceptRanges", "internal/bytealg.MaxLen"], apart := false, laid := [("unicode/utf8.acceptRanges", laid_unicode_utf8_acceptRanges), ("unicode/utf8.first", laid_unicode_utf8_first)], narrowed := true }
def TreeErrorsUptoSaid : Prop := treeErrorsUptoRow.holds Tryd.pinned (OpenSpec.upto treeErrorsSpec)

/-- 'mailbaglaw11.TreeLists', WHERE WHAT IT READS IS OF BULK AT MOST 1048576: true; the input reads as it did. -/
def treeListsUptoRow : OpenClaim := { program := "ytpdcjdangnfeiaadoor", sum := "6a03095e2eedce94c5008f7d909886f8c33c19ba30775123b8bd35644648bdd7", func := "mailbag/mailbaglaw11.TreeLists", spec := "treeLists", inPlace := ["internal/bytealg.CountString", "internal/bytealg.IndexByteString", "internal/bytealg.IndexString", "maps.clone"], unfollowed := true, recurses := true, named := ["unicode/utf8.first", "unicode/utf8.acceptRanges", "internal/bytealg.MaxLen"], apart := false, laid := [("unicode/utf8.acceptRanges", laid_unicode_utf8_acceptRanges), ("unicode/utf8.first", laid_unicode_utf8_first)], narrowed := true }
def TreeListsUptoSaid : Prop := treeListsUptoRow.holds Tryd.pinned (OpenSpec.upto treeListsSpec)

/-- 'mailbaglaw11.TreeMoves', WHERE WHAT IT READS IS OF BULK AT MOST 1048576: true; the input reads as it did. -/
def treeMovesUptoRow : OpenClaim := { program := "ytpdcjdangnfeiaadoor", sum := "6a03095e2eedce94c5008f7d909886f8c33c19ba30775123b8bd35644648bdd7", func := "mailbag/mailbaglaw11.TreeMoves", spec := "treeMoves", inPlace := ["internal/bytealg.CountString", "internal/bytealg.IndexByteString", "internal/bytealg.IndexString", "maps.clone"], unfollowed := true, recurses := true, named := ["unicode/utf8.first", "unicode/utf8.acceptRanges", "internal/bytealg.MaxLen"], apart := false, laid := [("unicode/utf8.acceptRanges", laid_unicode_utf8_acceptRanges), ("unicode/utf8.first", laid_unicode_utf8_first)], narrowed := true }
def TreeMovesUptoSaid : Prop := treeMovesUptoRow.holds Tryd.pinned (OpenSpec.upto treeMovesSpec)

end Rows
end Go.Proofs.YtpdcjdangnfeiaaDoor
