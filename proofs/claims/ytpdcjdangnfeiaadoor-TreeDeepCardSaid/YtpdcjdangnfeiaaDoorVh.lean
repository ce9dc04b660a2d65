/- TreeDeep: the plain part. -/
import Derived.Test.YtpdcjdangnfeiaaDoorM9
namespace Go.Proofs.YtpdcjdangnfeiaaDoor.Vh
open Go Go.Maps Go.RowKit Go.Proofs.YtpdcjdangnfeiaaDoor.Pb Go.Proofs.YtpdcjdangnfeiaaDoor.PPth Go.Proofs.YtpdcjdangnfeiaaDoorW.PrintWords Go.Proofs.YtpdcjdangnfeiaaDoorW.PrintLast Go.Proofs.YtpdcjdangnfeiaaDoorW.PrintMore Go.Proofs.YtpdcjdangnfeiaaDoor.Ta Go.Proofs.YtpdcjdangnfeiaaDoor.Tb Go.Proofs.YtpdcjdangnfeiaaDoor.Tc Go.Proofs.YtpdcjdangnfeiaaDoor.Te Go.Proofs.YtpdcjdangnfeiaaDoor.Tf Go.Proofs.YtpdcjdangnfeiaaDoor.Qa Go.Proofs.YtpdcjdangnfeiaaDoor.Qb Go.Proofs.YtpdcjdangnfeiaaDoor.Qc Go.Proofs.YtpdcjdangnfeiaaDoor.Qd Go.Proofs.YtpdcjdangnfeiaaDoor.Qe Go.Proofs.YtpdcjdangnfeiaaDoor.Qf Go.Proofs.YtpdcjdangnfeiaaDoor.Ua Go.Proofs.YtpdcjdangnfeiaaDoor.Ub Go.Proofs.YtpdcjdangnfeiaaDoor.Uc Go.Proofs.YtpdcjdangnfeiaaDoor.Ud Go.Proofs.YtpdcjdangnfeiaaDoor.Ue Go.Proofs.YtpdcjdangnfeiaaDoor.Uf Go.Proofs.YtpdcjdangnfeiaaDoor.Ba Go.Proofs.YtpdcjdangnfeiaaDoor.Ug Go.Proofs.YtpdcjdangnfeiaaDoor.Uh Go.Proofs.YtpdcjdangnfeiaaDoor.Ui Go.Proofs.YtpdcjdangnfeiaaDoor.Uj Go.Proofs.YtpdcjdangnfeiaaDoor.Uk Go.Proofs.YtpdcjdangnfeiaaDoor.Ul Go.Proofs.YtpdcjdangnfeiaaDoor.Um Go.Proofs.YtpdcjdangnfeiaaDoor.Un Go.Proofs.YtpdcjdangnfeiaaDoor.Uo Go.Proofs.YtpdcjdangnfeiaaDoor.Up Go.Proofs.YtpdcjdangnfeiaaDoor.Uq Go.Proofs.YtpdcjdangnfeiaaDoor.Ur Go.Proofs.YtpdcjdangnfeiaaDoor.Us Go.Proofs.YtpdcjdangnfeiaaDoor.Ut Go.Proofs.YtpdcjdangnfeiaaDoor.Uu Go.Proofs.YtpdcjdangnfeiaaDoor.Uv Go.Proofs.YtpdcjdangnfeiaaDoor.Uw Go.Proofs.YtpdcjdangnfeiaaDoor.Ux Go.Proofs.YtpdcjdangnfeiaaDoor.Uy Go.Proofs.YtpdcjdangnfeiaaDoor.Uz Go.Proofs.YtpdcjdangnfeiaaDoor.Va Go.Proofs.YtpdcjdangnfeiaaDoor.Vb Go.Proofs.YtpdcjdangnfeiaaDoor.Vc Go.Proofs.YtpdcjdangnfeiaaDoor.Vd
def dB (i : Nat) : ByteArray := ⟨(deepP i).toArray⟩
def oM (i : Nat) : O := ⟨2, dB i, ⟨#[]⟩, [], 0⟩
def oR (i : Nat) : O := ⟨6, dB i, ⟨#[]⟩, [], 0⟩
/-- The tree behind so many directories. -/
def upS : Nat → S
  | 0 => ⟨rootA, 100, 49⟩
  | k + 1 => doS (upS k) (oM (k + 1))
/-- Behind so many that went again, out of m. -/
def dnS (m : Nat) : Nat → S
  | 0 => upS m
  | k + 1 => doS (dnS m k) (oR (m - k))
theorem up_ok : ∀ k : Fin 8, doE (upS k.val) (oM (k.val + 1)) = 0 := by decide +kernel
theorem up_over : ∀ k : Fin 12, doE (upS 8) (oM (k.val + 9)) = 5 := by decide +kernel
theorem up_free : ∀ k : Fin 9, (upS k.val).inodes = 49 - k.val := by decide +kernel
theorem dn_busy : ∀ m : Fin 9, ∀ k : Fin 8, k.val + 1 < m.val → doE (dnS m.val k.val) (oR (m.val - k.val - 1)) = 13 := by decide +kernel
theorem dn_ok : ∀ m : Fin 9, ∀ k : Fin 8, k.val < m.val → doE (dnS m.val k.val) (oR (m.val - k.val)) = 0 := by decide +kernel
theorem dn_end : ∀ m : Fin 9, (lsA (lkA (dnS m.val m.val).a ⟨#[47]⟩)).1 = 0 ∧ (lsA (lkA (dnS m.val m.val).a ⟨#[47]⟩)).2 = 0 := by decide +kernel
end Go.Proofs.YtpdcjdangnfeiaaDoor.Vh
