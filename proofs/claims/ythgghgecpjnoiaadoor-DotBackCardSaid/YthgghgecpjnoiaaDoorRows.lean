/-
  NARROWER THAN 'FOR EVERY INPUT', by the rows' own cells (each row's printed sentence says how): DotBack: laid · DotNever: laid · DotSizes: laid · DotStreams: laid · PathTexts: laid · PathJoins: laid · PathUnders: laid.
  DERIVED. THE GIVEN ROWS OF THIS SEAT. 7 by the template 'for every input the law returns true; each argument reads behind the call as it read before'; 0 by the template 'total and deterministic' (their statements: YthgghgecpjnoiaaDoorTotals.lean).
  GIVEN WITH THE SEED: the statements are not yours to turn. If you find one false, say at which input.
  Laid BY PROGRAM, IN A SANDBOX (cutbox-rows.mjs): the forced cells as the released guide's own fill.sh prints them over the translation c31c517b5ea11adb… (all of the seat's roots in one cut). By AI agents, Wed Nov 11 2026. No macro, syntax, notation, axiom, sorry.
-/
import Derived.Test.YthgghgecpjnoiaaDoorChecked
import GoSem.PinnedTables
import GoSem.Claim
import GoSem.ClaimJoined
import GoSem.ClaimMapViews
import Derived.JoinedTies
import Derived.KernelRfl
namespace Go.Proofs.YthgghgecpjnoiaaDoor
/- THE CELL 'sum', in the pinned program and in every row, IS THE sha256 OF THE DUMP (.gsa) THAT YthgghgecpjnoiaaDoorProg.lean LOADS. Nothing in Lean hashes anything: it is a label: what it is worth is what the hold of that sum in a sandbox is worth. -/
noncomputable def Tryd.pinned : Pinned := { name := "ythgghgecpjnoiaadoor", sum := "c31c517b5ea11adbeb009e68248127e42feec2896fb70f953e99080f281f7e36", checked := Tryd.checked }
namespace Rows
def none {H : Type} : Left H := { results := [], args := [] }

/- WHAT THE LISTED PACKAGE-LEVEL VARIABLES READ AS WHEN THE CALL BEGINS. Each datum BY PROGRAM (the guide's laid-datum.mjs) off the statement by which the dump's own 'gosem.cut.vars' lays the variable. In a bare row this is a premise. The card (YthgghgecpjnoiaaDoorCards.lean) ties it to the program's text. -/
def laid_unicode_utf8_acceptRanges {H : Type} : DataW H := .agg [.agg [.lit (.int .u8 128), .lit (.int .u8 191)], .agg [.lit (.int .u8 160), .lit (.int .u8 191)], .agg [.lit (.int .u8 128), .lit (.int .u8 159)], .agg [.lit (.int .u8 144), .lit (.int .u8 191)], .agg [.lit (.int .u8 128), .lit (.int .u8 143)], .agg [.lit (.int .u8 0), .lit (.int .u8 0)], .agg [.lit (.int .u8 0), .lit (.int .u8 0)], .agg [.lit (.int .u8 0), .lit (.int .u8 0)], .agg [.lit (.int .u8 0), .lit (.int .u8 0)], .agg [.lit (.int .u8 0), .lit (.int .u8 0)], .agg [.lit (.int .u8 0), .lit (.int .u8 0)], .agg [.lit (.int .u8 0), .lit (.int .u8 0)], .agg [.lit (.int .u8 0), .lit (.int .u8 0)], .agg [.lit (.int .u8 0), .lit (.int .u8 0)], .agg [.lit (.int .u8 0), .lit (.int .u8 0)], .agg [.lit (.int .u8 0), .lit (.int .u8 0)]]
/-- One of Go's own tables, pinned by name: the form's constant. -/
def laid_unicode_utf8_first : DataW Unit := Go.Pinned.utf8First

/-- 'mailbaglaw17.DotBack': WHATEVER THE INPUT: true; the input reads as it did. -/
def dotBackSpec : ChangeSpec := { name := "dotBack", fn := fun _ => fun
  | [d1, d2, d3, d4] => { results := [.lit (.bool true)], args := [d1, d2, d3, d4] }
  | _ => none }
def dotBackRow : OpenClaim := { program := "ythgghgecpjnoiaadoor", sum := "c31c517b5ea11adbeb009e68248127e42feec2896fb70f953e99080f281f7e36", func := "mailbag/mailbaglaw17.DotBack", spec := "dotBack", inPlace := ["internal/bytealg.CountString", "internal/bytealg.IndexByteString", "internal/bytealg.IndexString"], named := ["unicode/utf8.first", "unicode/utf8.acceptRanges", "internal/bytealg.MaxLen"], apart := false, laid := [("unicode/utf8.acceptRanges", laid_unicode_utf8_acceptRanges), ("unicode/utf8.first", laid_unicode_utf8_first)] }
def DotBackSaid : Prop := dotBackRow.holds Tryd.pinned (OpenSpec.ofChange dotBackSpec)

/-- ITS FALSE NEIGHBOUR: 'it returns false'. Refute it at one input. -/
def dotBackWrong : ChangeSpec := { name := "dotBack", fn := fun _ => fun
  | [d1, d2, d3, d4] => { results := [.lit (.bool false)], args := [d1, d2, d3, d4] }
  | _ => none }
def DotBackWrongFalsely : Prop := dotBackRow.holds Tryd.pinned (OpenSpec.ofChange dotBackWrong)

/-- 'mailbaglaw17.DotNever': WHATEVER THE INPUT: true; the input reads as it did. -/
def dotNeverSpec : ChangeSpec := { name := "dotNever", fn := fun _ => fun
  | [d1, d2] => { results := [.lit (.bool true)], args := [d1, d2] }
  | _ => none }
def dotNeverRow : OpenClaim := { program := "ythgghgecpjnoiaadoor", sum := "c31c517b5ea11adbeb009e68248127e42feec2896fb70f953e99080f281f7e36", func := "mailbag/mailbaglaw17.DotNever", spec := "dotNever", inPlace := ["internal/bytealg.CountString", "internal/bytealg.IndexByteString", "internal/bytealg.IndexString"], named := ["unicode/utf8.first", "unicode/utf8.acceptRanges", "internal/bytealg.MaxLen"], apart := false, laid := [("unicode/utf8.acceptRanges", laid_unicode_utf8_acceptRanges), ("unicode/utf8.first", laid_unicode_utf8_first)] }
def DotNeverSaid : Prop := dotNeverRow.holds Tryd.pinned (OpenSpec.ofChange dotNeverSpec)

/-- ITS FALSE NEIGHBOUR: 'it returns false'. Refute it at one input. -/
def dotNeverWrong : ChangeSpec := { name := "dotNever", fn := fun _ => fun
  | [d1, d2] => { results := [.lit (.bool false)], args := [d1, d2] }
  | _ => none }
def DotNeverWrongFalsely : Prop := dotNeverRow.holds Tryd.pinned (OpenSpec.ofChange dotNeverWrong)

/-- 'mailbaglaw17.DotSizes': WHATEVER THE INPUT: true; the input reads as it did. -/
def dotSizesSpec : ChangeSpec := { name := "dotSizes", fn := fun _ => fun
  | [d1, d2] => { results := [.lit (.bool true)], args := [d1, d2] }
  | _ => none }
def dotSizesRow : OpenClaim := { program := "ythgghgecpjnoiaadoor", sum := "c31c517b5ea11adbeb009e68248127e42feec2896fb70f953e99080f281f7e36", func := "mailbag/mailbaglaw17.DotSizes", spec := "dotSizes", inPlace := ["internal/bytealg.CountString", "internal/bytealg.IndexByteString", "internal/bytealg.IndexString"], named := ["unicode/utf8.first", "unicode/utf8.acceptRanges", "internal/bytealg.MaxLen"], apart := false, laid := [("unicode/utf8.acceptRanges", laid_unicode_utf8_acceptRanges), ("unicode/utf8.first", laid_unicode_utf8_first)] }
def DotSizesSaid : Prop := dotSizesRow.holds Tryd.pinned (OpenSpec.ofChange dotSizesSpec)

/-- ITS FALSE NEIGHBOUR: 'it returns false'. Refute it at one input. -/
def dotSizesWrong : ChangeSpec := { name := "dotSizes", fn := fun _ => fun
  | [d1, d2] => { results := [.lit (.bool false)], args := [d1, d2] }
  | _ => none }
def DotSizesWrongFalsely : Prop := dotSizesRow.holds Tryd.pinned (OpenSpec.ofChange dotSizesWrong)

/-- 'mailbaglaw17.DotStreams': WHATEVER THE INPUT: true; the input reads as it did. -/
def dotStreamsSpec : ChangeSpec := { name := "dotStreams", fn := fun _ => fun
  | [d1, d2, d3] => { results := [.lit (.bool true)], args := [d1, d2, d3] }
  | _ => none }
def dotStreamsRow : OpenClaim := { program := "ythgghgecpjnoiaadoor", sum := "c31c517b5ea11adbeb009e68248127e42feec2896fb70f953e99080f281f7e36", func := "mailbag/mailbaglaw17.DotStreams", spec := "dotStreams", inPlace := ["internal/bytealg.CountString", "internal/bytealg.IndexByteString", "internal/bytealg.IndexString"], named := ["unicode/utf8.first", "unicode/utf8.acceptRanges", "internal/bytealg.MaxLen"], apart := false, laid := [("unicode/utf8.acceptRanges", laid_unicode_utf8_acceptRanges), ("unicode/utf8.first", laid_unicode_utf8_first)] }
def DotStreamsSaid : Prop := dotStreamsRow.holds Tryd.pinned (OpenSpec.ofChange dotStreamsSpec)

/-- ITS FALSE NEIGHBOUR: 'it returns false'. Refute it at one input. -/
def dotStreamsWrong : ChangeSpec := { name := "dotStreams", fn := fun _ => fun
  | [d1, d2, d3] => { results := [.lit (.bool false)], args := [d1, d2, d3] }
  | _ => none }
def DotStreamsWrongFalsely : Prop := dotStreamsRow.holds Tryd.pinned (OpenSpec.ofChange dotStreamsWrong)

/-- 'mailbaglaw10.PathTexts': WHATEVER THE INPUT: true; the input reads as it did. -/
def pathTextsSpec : ChangeSpec := { name := "pathTexts", fn := fun _ => fun
  | [d1, d2] => { results := [.lit (.bool true)], args := [d1, d2] }
  | _ => none }
def pathTextsRow : OpenClaim := { program := "ythgghgecpjnoiaadoor", sum := "c31c517b5ea11adbeb009e68248127e42feec2896fb70f953e99080f281f7e36", func := "mailbag/mailbaglaw10.PathTexts", spec := "pathTexts", inPlace := ["internal/bytealg.CountString", "internal/bytealg.IndexByteString", "internal/bytealg.IndexString", "internal/abi.NoEscape", "internal/bytealg.MakeNoZero"], named := ["unicode/utf8.first", "unicode/utf8.acceptRanges", "internal/bytealg.MaxLen"], apart := false, laid := [("unicode/utf8.acceptRanges", laid_unicode_utf8_acceptRanges), ("unicode/utf8.first", laid_unicode_utf8_first)] }
def PathTextsSaid : Prop := pathTextsRow.holds Tryd.pinned (OpenSpec.ofChange pathTextsSpec)

/-- ITS FALSE NEIGHBOUR: 'it returns false'. Refute it at one input. -/
def pathTextsWrong : ChangeSpec := { name := "pathTexts", fn := fun _ => fun
  | [d1, d2] => { results := [.lit (.bool false)], args := [d1, d2] }
  | _ => none }
def PathTextsWrongFalsely : Prop := pathTextsRow.holds Tryd.pinned (OpenSpec.ofChange pathTextsWrong)

/-- 'mailbaglaw10.PathJoins': WHATEVER THE INPUT: true; the input reads as it did. -/
def pathJoinsSpec : ChangeSpec := { name := "pathJoins", fn := fun _ => fun
  | [d] => { results := [.lit (.bool true)], args := [d] }
  | _ => none }
def pathJoinsRow : OpenClaim := { program := "ythgghgecpjnoiaadoor", sum := "c31c517b5ea11adbeb009e68248127e42feec2896fb70f953e99080f281f7e36", func := "mailbag/mailbaglaw10.PathJoins", spec := "pathJoins", inPlace := ["internal/bytealg.CountString", "internal/bytealg.IndexByteString", "internal/bytealg.IndexString", "internal/abi.NoEscape", "internal/bytealg.MakeNoZero"], named := ["unicode/utf8.first", "unicode/utf8.acceptRanges", "internal/bytealg.MaxLen"], apart := false, laid := [("unicode/utf8.acceptRanges", laid_unicode_utf8_acceptRanges), ("unicode/utf8.first", laid_unicode_utf8_first)] }
def PathJoinsSaid : Prop := pathJoinsRow.holds Tryd.pinned (OpenSpec.ofChange pathJoinsSpec)

/-- ITS FALSE NEIGHBOUR: 'it returns false'. Refute it at one input. -/
def pathJoinsWrong : ChangeSpec := { name := "pathJoins", fn := fun _ => fun
  | [d] => { results := [.lit (.bool false)], args := [d] }
  | _ => none }
def PathJoinsWrongFalsely : Prop := pathJoinsRow.holds Tryd.pinned (OpenSpec.ofChange pathJoinsWrong)

/-- 'mailbaglaw10.PathUnders': WHATEVER THE INPUT: true; the input reads as it did. -/
def pathUndersSpec : ChangeSpec := { name := "pathUnders", fn := fun _ => fun
  | [d1, d2, d3] => { results := [.lit (.bool true)], args := [d1, d2, d3] }
  | _ => none }
def pathUndersRow : OpenClaim := { program := "ythgghgecpjnoiaadoor", sum := "c31c517b5ea11adbeb009e68248127e42feec2896fb70f953e99080f281f7e36", func := "mailbag/mailbaglaw10.PathUnders", spec := "pathUnders", inPlace := ["internal/bytealg.CountString", "internal/bytealg.IndexByteString", "internal/bytealg.IndexString", "internal/abi.NoEscape", "internal/bytealg.MakeNoZero"], named := ["unicode/utf8.first", "unicode/utf8.acceptRanges", "internal/bytealg.MaxLen"], apart := false, laid := [("unicode/utf8.acceptRanges", laid_unicode_utf8_acceptRanges), ("unicode/utf8.first", laid_unicode_utf8_first)] }
def PathUndersSaid : Prop := pathUndersRow.holds Tryd.pinned (OpenSpec.ofChange pathUndersSpec)

/-- ITS FALSE NEIGHBOUR: 'it returns false'. Refute it at one input. -/
def pathUndersWrong : ChangeSpec := { name := "pathUnders", fn := fun _ => fun
  | [d1, d2, d3] => { results := [.lit (.bool false)], args := [d1, d2, d3] }
  | _ => none }
def PathUndersWrongFalsely : Prop := pathUndersRow.holds Tryd.pinned (OpenSpec.ofChange pathUndersWrong)

/- THE SECOND FORM. 'bulk': how many values and letters a reading holds, each counted each time it is reached (what is shared counts as often as it is met; a slice's spare places count too). A statement '..UptoSaid' is the law's where the arguments, and the package variables that the reading takes, are together of bulk at most 1048576: NARROWER than '..Said'. Prove '..Said' where nothing that the law and all that it calls make is longer than what came in: it says more and counts as full. Else prove '..UptoSaid'. A law counts once. -/
mutual
def uptoBulk {H : Type} : DataW H → Nat
  | .lit (.string bytes) => bytes.length + 1
  | .lit _ => 1
  | .nil => 1
  | .ptr d => uptoBulk d + 1
  | .slice elems spare => uptoBulkAll elems + uptoBulkAll spare + 1
  | .agg parts => uptoBulkAll parts + 1
  | .iface _ d => uptoBulk d + 1
  | .map entries => uptoBulkEntries entries + 1
  | .held _ => 1
def uptoBulkAll {H : Type} : List (DataW H) → Nat
  | [] => 0
  | d :: r => uptoBulk d + uptoBulkAll r
def uptoBulkEntries {H : Type} : List (Lit × DataW H) → Nat
  | [] => 0
  | x :: r => uptoBulkEntry x + uptoBulkEntries r
def uptoBulkEntry {H : Type} : Lit × DataW H → Nat
  | (.string bytes, d) => bytes.length + uptoBulk d + 1
  | (_, d) => uptoBulk d + 1
 end
def uptoSmall : (H : Type) → List (DataW H) → Bool := fun _ ds => decide (uptoBulkAll ds ≤ 1048576)
def OpenSpec.upto (s : _root_.Go.ChangeSpec) : _root_.Go.OpenSpec := { _root_.Go.OpenSpec.ofChange s with cond := some uptoSmall }

/-- 'mailbaglaw17.DotBack', WHERE WHAT IT READS IS OF BULK AT MOST 1048576: true; the input reads as it did. -/
def dotBackUptoRow : OpenClaim := { program := "ythgghgecpjnoiaadoor", sum := "c31c517b5ea11adbeb009e68248127e42feec2896fb70f953e99080f281f7e36", func := "mailbag/mailbaglaw17.DotBack", spec := "dotBack", inPlace := ["internal/bytealg.CountString", "internal/bytealg.IndexByteString", "internal/bytealg.IndexString"], named := ["unicode/utf8.first", "unicode/utf8.acceptRanges", "internal/bytealg.MaxLen"], apart := false, laid := [("unicode/utf8.acceptRanges", laid_unicode_utf8_acceptRanges), ("unicode/utf8.first", laid_unicode_utf8_first)], narrowed := true }
def DotBackUptoSaid : Prop := dotBackUptoRow.holds Tryd.pinned (OpenSpec.upto dotBackSpec)

/-- 'mailbaglaw17.DotNever', WHERE WHAT IT READS IS OF BULK AT MOST 1048576: true; the input reads as it did. -/
def dotNeverUptoRow : OpenClaim := { program := "ythgghgecpjnoiaadoor", sum := "c31c517b5ea11adbeb009e68248127e42feec2896fb70f953e99080f281f7e36", func := "mailbag/mailbaglaw17.DotNever", spec := "dotNever", inPlace := ["internal/bytealg.CountString", "internal/bytealg.IndexByteString", "internal/bytealg.IndexString"], named := ["unicode/utf8.first", "unicode/utf8.acceptRanges", "internal/bytealg.MaxLen"], apart := false, laid := [("unicode/utf8.acceptRanges", laid_unicode_utf8_acceptRanges), ("unicode/utf8.first", laid_unicode_utf8_first)], narrowed := true }
def DotNeverUptoSaid : Prop := dotNeverUptoRow.holds Tryd.pinned (OpenSpec.upto dotNeverSpec)

/-- 'mailbaglaw17.DotSizes', WHERE WHAT IT READS IS OF BULK AT MOST 1048576: true; the input reads as it did. -/
def dotSizesUptoRow : OpenClaim := { program := "ythgghgecpjnoiaadoor", sum := "c31c517b5ea11adbeb009e68248127e42feec2896fb70f953e99080f281f7e36", func := "mailbag/mailbaglaw17.DotSizes", spec := "dotSizes", inPlace := ["internal/bytealg.CountString", "internal/bytealg.IndexByteString", "internal/bytealg.IndexString"], named := ["unicode/utf8.first", "unicode/utf8.acceptRanges", "internal/bytealg.MaxLen"], apart := false, laid := [("unicode/utf8.acceptRanges", laid_unicode_utf8_acceptRanges), ("unicode/utf8.first", laid_unicode_utf8_first)], narrowed := true }
def DotSizesUptoSaid : Prop := dotSizesUptoRow.holds Tryd.pinned (OpenSpec.upto dotSizesSpec)

/-- 'mailbaglaw17.DotStreams', WHERE WHAT IT READS IS OF BULK AT MOST 1048576: true; the input reads as it did. -/
def dotStreamsUptoRow : OpenClaim := { program := "ythgghgecpjnoiaadoor", sum := "c31c517b5ea11adbeb009e68248127e42feec2896fb70f953e99080f281f7e36", func := "mailbag/mailbaglaw17.DotStreams", spec := "dotStreams", inPlace := ["internal/bytealg.CountString", "internal/bytealg.IndexByteString", "internal/bytealg.IndexString"], named := ["unicode/utf8.first", "unicode/utf8.acceptRanges", "internal/bytealg.MaxLen"], apart := false, laid := [("unicode/utf8.acceptRanges", laid_unicode_utf8_acceptRanges), ("unicode/utf8.first", laid_unicode_utf8_first)], narrowed := true }
def DotStreamsUptoSaid : Prop := dotStreamsUptoRow.holds Tryd.pinned (OpenSpec.upto dotStreamsSpec)

/-- 'mailbaglaw10.PathTexts', WHERE WHAT IT READS IS OF BULK AT MOST 1048576: true; the input reads as it did. -/
def pathTextsUptoRow : OpenClaim := { program := "ythgghgecpjnoiaadoor", sum := "c31c517b5ea11adbeb009e68248127e42feec2896fb70f953e99080f281f7e36", func := "mailbag/mailbaglaw10.PathTexts", spec := "pathTexts", inPlace := ["internal/bytealg.CountString", "internal/bytealg.IndexByteString", "internal/bytealg.IndexString", "internal/abi.NoEscape", "internal/bytealg.MakeNoZero"], named := ["unicode/utf8.first", "unicode/utf8.acceptRanges", "internal/bytealg.MaxLen"], apart := false, laid := [("unicode/utf8.acceptRanges", laid_unicode_utf8_acceptRanges), ("unicode/utf8.first", laid_unicode_utf8_first)], narrowed := true }
def PathTextsUptoSaid : Prop := pathTextsUptoRow.holds Tryd.pinned (OpenSpec.upto pathTextsSpec)

/-- 'mailbaglaw10.PathJoins', WHERE WHAT IT READS IS OF BULK AT MOST 1048576: true; the input reads as it did. -/
def pathJoinsUptoRow : OpenClaim := { program := "ythgghgecpjnoiaadoor", sum := "c31c517b5ea11adbeb009e68248127e42feec2896fb70f953e99080f281f7e36", func := "mailbag/mailbaglaw10.PathJoins", spec := "pathJoins", inPlace := ["internal/bytealg.CountString", "internal/bytealg.IndexByteString", "internal/bytealg.IndexString", "internal/abi.NoEscape", "internal/bytealg.MakeNoZero"], named := ["unicode/utf8.first", "unicode/utf8.acceptRanges", "internal/bytealg.MaxLen"], apart := false, laid := [("unicode/utf8.acceptRanges", laid_unicode_utf8_acceptRanges), ("unicode/utf8.first", laid_unicode_utf8_first)], narrowed := true }
def PathJoinsUptoSaid : Prop := pathJoinsUptoRow.holds Tryd.pinned (OpenSpec.upto pathJoinsSpec)

/-- 'mailbaglaw10.PathUnders', WHERE WHAT IT READS IS OF BULK AT MOST 1048576: true; the input reads as it did. -/
def pathUndersUptoRow : OpenClaim := { program := "ythgghgecpjnoiaadoor", sum := "c31c517b5ea11adbeb009e68248127e42feec2896fb70f953e99080f281f7e36", func := "mailbag/mailbaglaw10.PathUnders", spec := "pathUnders", inPlace := ["internal/bytealg.CountString", "internal/bytealg.IndexByteString", "internal/bytealg.IndexString", "internal/abi.NoEscape", "internal/bytealg.MakeNoZero"], named := ["unicode/utf8.first", "unicode/utf8.acceptRanges", "internal/bytealg.MaxLen"], apart := false, laid := [("unicode/utf8.acceptRanges", laid_unicode_utf8_acceptRanges), ("unicode/utf8.first", laid_unicode_utf8_first)], narrowed := true }
def PathUndersUptoSaid : Prop := pathUndersUptoRow.holds Tryd.pinned (OpenSpec.upto pathUndersSpec)

end Rows
end Go.Proofs.YthgghgecpjnoiaaDoor
