-- PRINTED BY print.sh 35421559b90ae4d0a3588c463048766b98c2df88dd9212a6774a882060cdf62d: not written by this session
import Derived.Test.YthgghgecpjnoiaaDoorProg
import Derived.Below
import Derived.Deep.Draws
import Derived.Deep.AppendLies
import Derived.Maps.AppendAt
import Derived.OwnWalk
import Derived.Laws.BytesArg
import Derived.Laws.MakeOwn
import Derived.Laws.OwnMore
import Derived.Deep.OwnRows
import Derived.Tactics
import Derived.Lib.ConvBytes
import Derived.Laws.Slices
import Derived.WalkKit
import Derived.KernelRfl
import Derived.RowKit3
import Derived.Deep.LoopGhost
import Derived.Deep.QuietTactic
import Derived.BigQuiet
import Derived.WideLaws
import Derived.Deep.DeepCutAuto
import Derived.Deep.CutBlock
import Derived.Deep.RegionHeld3
import Derived.Laws.Rows
import Derived.Lib.AppendStr
import Derived.ArgAppend
import Derived.Laws.IdiomCopy
import Derived.OrdersHeld
import Derived.Laws.BitsLemmas
import Derived.RowKit
import Derived.Test.YthgghgecpjnoiaaDoorWWords
import Derived.Test.YthgghgecpjnoiaaDoorWLast
import Derived.Test.YthgghgecpjnoiaaDoorWTab
import Derived.Test.YthgghgecpjnoiaaDoorWFour
import Derived.Test.YthgghgecpjnoiaaDoorWQPut
import Derived.Test.YthgghgecpjnoiaaDoorWApart
import Derived.Test.YthgghgecpjnoiaaDoorWArr
import Derived.Test.YthgghgecpjnoiaaDoorWZeros
import Derived.Test.YthgghgecpjnoiaaDoorWFoot
import Derived.Test.YthgghgecpjnoiaaDoorWKept
import Derived.Test.YthgghgecpjnoiaaDoorWShare
import Derived.Test.YthgghgecpjnoiaaDoorWN
import Derived.Test.YthgghgecpjnoiaaDoorWFootNe
import Derived.Test.YthgghgecpjnoiaaDoorWAt
import Derived.Test.YthgghgecpjnoiaaDoorWEqStruct
import Derived.Test.YthgghgecpjnoiaaDoorWRepsOne
import Derived.Test.YthgghgecpjnoiaaDoorWInv
import Derived.Test.YthgghgecpjnoiaaDoorWInvWords
import Derived.Test.YthgghgecpjnoiaaDoorWGuard
import Derived.Test.YthgghgecpjnoiaaDoorWNEv
import Derived.Test.YthgghgecpjnoiaaDoorWMore
namespace Go.Proofs.YthgghgecpjnoiaaDoor.PPath
open Go.RowKit Go.Proofs.YthgghgecpjnoiaaDoorW.PrintWords Go.Proofs.YthgghgecpjnoiaaDoorW.PrintLast Go.Proofs.YthgghgecpjnoiaaDoorW.PrintMore
attribute [local go_sem] max2_int min2_int max_two min_two max_three min_three max_four min_four   -- for this text's walks alone
set_option linter.unusedVariables false
set_option linter.unusedSimpArgs false



def errW : Option Int → Value
  | none => .nilIface
  | some c => .iface 0 (.int .i64 c)
theorem errW_none : errW none = .nilIface := rfl
theorem errW_some (c : Int) : errW (some c) = .iface 0 (.int .i64 c) := rfl

theorem info9 : (Tryd.prog.info? 9).map (fun i => (i.zero, i.size, i.bytes)) = some (some (.string ⟨#[]⟩), 1, 16) := by kernel_rfl
-- the values' own types

end Go.Proofs.YthgghgecpjnoiaaDoor.PPath
