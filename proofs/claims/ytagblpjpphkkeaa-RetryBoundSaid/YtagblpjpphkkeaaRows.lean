/-
  No cell of these rows narrows 'for every input' (looked for: loops, veiled, ifaces, maps, wideKeys, modest, calm, conditions, laid).
  DERIVED. THE GIVEN ROWS OF THIS SEAT. 4 by the template 'for every input the law returns true; each argument reads behind the call as it read before'; 0 by the template 'total and deterministic' (their statements: YtagblpjpphkkeaaTotals.lean).
  GIVEN WITH THE SEED: the statements are not yours to turn. If you find one false, say at which input.
  Laid BY PROGRAM, IN A SANDBOX (cutbox-rows.mjs): the forced cells as the released guide's own fill.sh prints them over the translation fe0a601120f4f76a… (all of the seat's roots in one cut). By AI agents, Wed Nov 11 2026. No macro, syntax, notation, axiom, sorry.
-/
import Derived.Test.YtagblpjpphkkeaaChecked
import GoSem.Claim
import GoSem.ClaimJoined
import GoSem.ClaimMapViews
import Derived.JoinedTies
import Derived.KernelRfl
namespace Go.Proofs.Ytagblpjpphkkeaa
/- THE CELL 'sum', in the pinned program and in every row, IS THE sha256 OF THE DUMP (.gsa) THAT YtagblpjpphkkeaaProg.lean LOADS. Nothing in Lean hashes anything: it is a label: what it is worth is what the hold of that sum in a sandbox is worth. -/
noncomputable def Try.pinned : Pinned := { name := "ytagblpjpphkkeaa", sum := "fe0a601120f4f76ab2dee0f448b58c1bc0d03f244214555af3e25a5c558ae883", checked := Try.checked }
namespace Rows
def none {H : Type} : Left H := { results := [], args := [] }

/-- 'mailbaglaw20.RetryTables': WHATEVER THE INPUT: true; the input reads as it did. -/
def retryTablesSpec : ChangeSpec := { name := "retryTables", fn := fun _ => fun
  | [d1, d2, d3, d4] => { results := [.lit (.bool true)], args := [d1, d2, d3, d4] }
  | _ => none }
def retryTablesRow : OpenClaim := { program := "ytagblpjpphkkeaa", sum := "fe0a601120f4f76ab2dee0f448b58c1bc0d03f244214555af3e25a5c558ae883", func := "mailbag/mailbaglaw20.RetryTables", spec := "retryTables", apart := false }
def RetryTablesSaid : Prop := retryTablesRow.holds Try.pinned (OpenSpec.ofChange retryTablesSpec)

/-- ITS FALSE NEIGHBOUR: 'it returns false'. Refute it at one input. -/
def retryTablesWrong : ChangeSpec := { name := "retryTables", fn := fun _ => fun
  | [d1, d2, d3, d4] => { results := [.lit (.bool false)], args := [d1, d2, d3, d4] }
  | _ => none }
def RetryTablesWrongFalsely : Prop := retryTablesRow.holds Try.pinned (OpenSpec.ofChange retryTablesWrong)

/-- 'mailbaglaw20.RetryDone': WHATEVER THE INPUT: true; the input reads as it did. -/
def retryDoneSpec : ChangeSpec := { name := "retryDone", fn := fun _ => fun
  | [d1, d2, d3, d4, d5, d6] => { results := [.lit (.bool true)], args := [d1, d2, d3, d4, d5, d6] }
  | _ => none }
def retryDoneRow : OpenClaim := { program := "ytagblpjpphkkeaa", sum := "fe0a601120f4f76ab2dee0f448b58c1bc0d03f244214555af3e25a5c558ae883", func := "mailbag/mailbaglaw20.RetryDone", spec := "retryDone", apart := false }
def RetryDoneSaid : Prop := retryDoneRow.holds Try.pinned (OpenSpec.ofChange retryDoneSpec)

/-- ITS FALSE NEIGHBOUR: 'it returns false'. Refute it at one input. -/
def retryDoneWrong : ChangeSpec := { name := "retryDone", fn := fun _ => fun
  | [d1, d2, d3, d4, d5, d6] => { results := [.lit (.bool false)], args := [d1, d2, d3, d4, d5, d6] }
  | _ => none }
def RetryDoneWrongFalsely : Prop := retryDoneRow.holds Try.pinned (OpenSpec.ofChange retryDoneWrong)

/-- 'mailbaglaw20.RetryBound': WHATEVER THE INPUT: true; the input reads as it did. -/
def retryBoundSpec : ChangeSpec := { name := "retryBound", fn := fun _ => fun
  | [d1, d2, d3] => { results := [.lit (.bool true)], args := [d1, d2, d3] }
  | _ => none }
def retryBoundRow : OpenClaim := { program := "ytagblpjpphkkeaa", sum := "fe0a601120f4f76ab2dee0f448b58c1bc0d03f244214555af3e25a5c558ae883", func := "mailbag/mailbaglaw20.RetryBound", spec := "retryBound", apart := false }
def RetryBoundSaid : Prop := retryBoundRow.holds Try.pinned (OpenSpec.ofChange retryBoundSpec)

/-- ITS FALSE NEIGHBOUR: 'it returns false'. Refute it at one input. -/
def retryBoundWrong : ChangeSpec := { name := "retryBound", fn := fun _ => fun
  | [d1, d2, d3] => { results := [.lit (.bool false)], args := [d1, d2, d3] }
  | _ => none }
def RetryBoundWrongFalsely : Prop := retryBoundRow.holds Try.pinned (OpenSpec.ofChange retryBoundWrong)

/-- 'mailbaglaw20.RetryCodes': WHATEVER THE INPUT: true; the input reads as it did. -/
def retryCodesSpec : ChangeSpec := { name := "retryCodes", fn := fun _ => fun
  | [d1, d2, d3, d4, d5] => { results := [.lit (.bool true)], args := [d1, d2, d3, d4, d5] }
  | _ => none }
def retryCodesRow : OpenClaim := { program := "ytagblpjpphkkeaa", sum := "fe0a601120f4f76ab2dee0f448b58c1bc0d03f244214555af3e25a5c558ae883", func := "mailbag/mailbaglaw20.RetryCodes", spec := "retryCodes", apart := false }
def RetryCodesSaid : Prop := retryCodesRow.holds Try.pinned (OpenSpec.ofChange retryCodesSpec)

/-- ITS FALSE NEIGHBOUR: 'it returns false'. Refute it at one input. -/
def retryCodesWrong : ChangeSpec := { name := "retryCodes", fn := fun _ => fun
  | [d1, d2, d3, d4, d5] => { results := [.lit (.bool false)], args := [d1, d2, d3, d4, d5] }
  | _ => none }
def RetryCodesWrongFalsely : Prop := retryCodesRow.holds Try.pinned (OpenSpec.ofChange retryCodesWrong)

/- THE SECOND FORM. 'bulk': how many values and letters a reading holds, each counted each time it is reached (what is shared counts as often as it is met; a slice's spare places count too). A statement '..UptoSaid' is the law's where the arguments, and the package variables that the reading takes, are together of bulk at most 1048576: NARROWER than '..Said'. Prove '..Said' where nothing that the law and all that it calls make is longer than what came in: it says more and counts as full. Else prove '..UptoSaid'. A law counts once. -/
mutual
def uptoBulk {H : Type} : DataW H → Nat
  | .lit (.string bytes) => bytes.length + 1
  | .lit _ => 1
  | .nil => 1
  | .ptr d => uptoBulk d + 1
  | .slice elems spare => uptoBulkAll elems + uptoBulkAll spare + 1
  | .agg parts => uptoBulkAll parts + 1
  | .iface _ d => uptoBulk d + 1
  | .map entries => uptoBulkEntries entries + 1
  | .held _ => 1
def uptoBulkAll {H : Type} : List (DataW H) → Nat
  | [] => 0
  | d :: r => uptoBulk d + uptoBulkAll r
def uptoBulkEntries {H : Type} : List (Lit × DataW H) → Nat
  | [] => 0
  | x :: r => uptoBulkEntry x + uptoBulkEntries r
def uptoBulkEntry {H : Type} : Lit × DataW H → Nat
  | (.string bytes, d) => bytes.length + uptoBulk d + 1
  | (_, d) => uptoBulk d + 1
 end
def uptoSmall : (H : Type) → List (DataW H) → Bool := fun _ ds => decide (uptoBulkAll ds ≤ 1048576)
def OpenSpec.upto (s : _root_.Go.ChangeSpec) : _root_.Go.OpenSpec := { _root_.Go.OpenSpec.ofChange s with cond := some uptoSmall }

/-- 'mailbaglaw20.RetryTables', WHERE WHAT IT READS IS OF BULK AT MOST 1048576: true; the input reads as it did. -/
def retryTablesUptoRow : OpenClaim := { program := "ytagblpjpphkkeaa", sum := "fe0a601120f4f76ab2dee0f448b58c1bc0d03f244214555af3e25a5c558ae883", func := "mailbag/mailbaglaw20.RetryTables", spec := "retryTables", apart := false, narrowed := true }
def RetryTablesUptoSaid : Prop := retryTablesUptoRow.holds Try.pinned (OpenSpec.upto retryTablesSpec)

/-- 'mailbaglaw20.RetryDone', WHERE WHAT IT READS IS OF BULK AT MOST 1048576: true; the input reads as it did. -/
def retryDoneUptoRow : OpenClaim := { program := "ytagblpjpphkkeaa", sum := "fe0a601120f4f76ab2dee0f448b58c1bc0d03f244214555af3e25a5c558ae883", func := "mailbag/mailbaglaw20.RetryDone", spec := "retryDone", apart := false, narrowed := true }
def RetryDoneUptoSaid : Prop := retryDoneUptoRow.holds Try.pinned (OpenSpec.upto retryDoneSpec)

/-- 'mailbaglaw20.RetryBound', WHERE WHAT IT READS IS OF BULK AT MOST 1048576: true; the input reads as it did. -/
def retryBoundUptoRow : OpenClaim := { program := "ytagblpjpphkkeaa", sum := "fe0a601120f4f76ab2dee0f448b58c1bc0d03f244214555af3e25a5c558ae883", func := "mailbag/mailbaglaw20.RetryBound", spec := "retryBound", apart := false, narrowed := true }
def RetryBoundUptoSaid : Prop := retryBoundUptoRow.holds Try.pinned (OpenSpec.upto retryBoundSpec)

/-- 'mailbaglaw20.RetryCodes', WHERE WHAT IT READS IS OF BULK AT MOST 1048576: true; the input reads as it did. -/
def retryCodesUptoRow : OpenClaim := { program := "ytagblpjpphkkeaa", sum := "fe0a601120f4f76ab2dee0f448b58c1bc0d03f244214555af3e25a5c558ae883", func := "mailbag/mailbaglaw20.RetryCodes", spec := "retryCodes", apart := false, narrowed := true }
def RetryCodesUptoSaid : Prop := retryCodesUptoRow.holds Try.pinned (OpenSpec.upto retryCodesSpec)

end Rows
end Go.Proofs.Ytagblpjpphkkeaa
