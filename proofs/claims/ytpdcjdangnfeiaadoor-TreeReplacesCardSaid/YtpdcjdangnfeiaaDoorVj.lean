/- TreeReplaces: the plain part. -/
import Derived.Test.YtpdcjdangnfeiaaDoorM9
namespace Go.Proofs.YtpdcjdangnfeiaaDoor.Vj
open Go Go.Maps Go.RowKit Go.Proofs.YtpdcjdangnfeiaaDoor.Pb Go.Proofs.YtpdcjdangnfeiaaDoor.PPth Go.Proofs.YtpdcjdangnfeiaaDoorW.PrintWords Go.Proofs.YtpdcjdangnfeiaaDoorW.PrintLast Go.Proofs.YtpdcjdangnfeiaaDoorW.PrintMore Go.Proofs.YtpdcjdangnfeiaaDoor.Ta Go.Proofs.YtpdcjdangnfeiaaDoor.Tb Go.Proofs.YtpdcjdangnfeiaaDoor.Tc Go.Proofs.YtpdcjdangnfeiaaDoor.Te Go.Proofs.YtpdcjdangnfeiaaDoor.Tf Go.Proofs.YtpdcjdangnfeiaaDoor.Qa Go.Proofs.YtpdcjdangnfeiaaDoor.Qb Go.Proofs.YtpdcjdangnfeiaaDoor.Qc Go.Proofs.YtpdcjdangnfeiaaDoor.Qd Go.Proofs.YtpdcjdangnfeiaaDoor.Qe Go.Proofs.YtpdcjdangnfeiaaDoor.Qf Go.Proofs.YtpdcjdangnfeiaaDoor.Ua Go.Proofs.YtpdcjdangnfeiaaDoor.Ub Go.Proofs.YtpdcjdangnfeiaaDoor.Uc Go.Proofs.YtpdcjdangnfeiaaDoor.Ud Go.Proofs.YtpdcjdangnfeiaaDoor.Ue Go.Proofs.YtpdcjdangnfeiaaDoor.Uf Go.Proofs.YtpdcjdangnfeiaaDoor.Ba Go.Proofs.YtpdcjdangnfeiaaDoor.Ug Go.Proofs.YtpdcjdangnfeiaaDoor.Uh Go.Proofs.YtpdcjdangnfeiaaDoor.Ui Go.Proofs.YtpdcjdangnfeiaaDoor.Uj Go.Proofs.YtpdcjdangnfeiaaDoor.Uk Go.Proofs.YtpdcjdangnfeiaaDoor.Ul Go.Proofs.YtpdcjdangnfeiaaDoor.Um Go.Proofs.YtpdcjdangnfeiaaDoor.Un Go.Proofs.YtpdcjdangnfeiaaDoor.Uo Go.Proofs.YtpdcjdangnfeiaaDoor.Up Go.Proofs.YtpdcjdangnfeiaaDoor.Uq Go.Proofs.YtpdcjdangnfeiaaDoor.Ur Go.Proofs.YtpdcjdangnfeiaaDoor.Us Go.Proofs.YtpdcjdangnfeiaaDoor.Ut Go.Proofs.YtpdcjdangnfeiaaDoor.Uu Go.Proofs.YtpdcjdangnfeiaaDoor.Uv Go.Proofs.YtpdcjdangnfeiaaDoor.Uw Go.Proofs.YtpdcjdangnfeiaaDoor.Ux Go.Proofs.YtpdcjdangnfeiaaDoor.Uy Go.Proofs.YtpdcjdangnfeiaaDoor.Uz Go.Proofs.YtpdcjdangnfeiaaDoor.Va Go.Proofs.YtpdcjdangnfeiaaDoor.Vb Go.Proofs.YtpdcjdangnfeiaaDoor.Vc Go.Proofs.YtpdcjdangnfeiaaDoor.Vd
def em : ByteArray := ⟨#[]⟩
def sX : ByteArray := ⟨#[47, 120]⟩
def sY : ByteArray := ⟨#[47, 121]⟩
def sD : ByteArray := ⟨#[47, 100]⟩
def sDY : ByteArray := ⟨#[47, 100, 47, 121]⟩
def pX : Path := [⟨#[120]⟩]
def pY : Path := [⟨#[121]⟩]
def pD : Path := [⟨#[100]⟩]
def pDY : Path := [⟨#[100]⟩, ⟨#[121]⟩]
def fl (l : List UInt8) : N := ⟨false, l, 0, 0⟩
theorem doS_ok {s : S} {o : O} (h : doE s o = 0) : doS s o = planS s o (splitP o.path).1 (splitP o.to).1 := by unfold doS; rw [if_neg (by simp [h])]
/-! In one directory. -/
def a2 : S := doS ⟨rootA, 100, 19⟩ ⟨1, sX, em, [], 0⟩
theorem a2_e : doE ⟨rootA, 100, 19⟩ ⟨1, sX, em, [], 0⟩ = 0 := by decide +kernel
def a3 (a : List UInt8) (n : Nat) : S := ⟨setA a2.a pX (fl a), n, 18⟩
def a4 (a : List UInt8) (n : Nat) : S := ⟨onA (setA (setA a2.a pX (fl a)) pY (freshA false)) [] putA, n - 0, 17⟩
def a5 (a b : List UInt8) (n : Nat) : S := ⟨setA (onA (setA (setA a2.a pX (fl a)) pY (freshA false)) [] putA) pY (fl b), n, 17⟩
def a6 (a b : List UInt8) (n : Nat) : S := ⟨onA (mvA (a5 a b n).a pX pY) [] takeA, n + blocksA (fl b), 18⟩
theorem a3_e (a : List UInt8) : doE a2 ⟨3, sX, em, a, 0⟩ = if 8458240 - 0 < a.length then 5 else if 99 < allB (0 + a.length) - allB 0 then 7 else 0 := by kernel_rfl
theorem a3_s (a : List UInt8) : planS a2 ⟨3, sX, em, a, 0⟩ (splitP sX).1 (splitP em).1 = a3 ([] ++ a) (99 - (allB (0 + a.length) - allB 0)) := by kernel_rfl
theorem a4_e (a : List UInt8) (n : Nat) : doE (a3 a n) ⟨1, sY, em, [], 0⟩ = if 18 = 0 ∨ n < 0 then 7 else 0 := by kernel_rfl
theorem a4_s (a : List UInt8) (n : Nat) : planS (a3 a n) ⟨1, sY, em, [], 0⟩ (splitP sY).1 (splitP em).1 = a4 a n := by kernel_rfl
theorem a5_e (a b : List UInt8) (n : Nat) : doE (a4 a n) ⟨3, sY, em, b, 0⟩ = if 8458240 - 0 < b.length then 5 else if n - 0 < allB (0 + b.length) - allB 0 then 7 else 0 := by kernel_rfl
theorem a5_s (a b : List UInt8) (n : Nat) : planS (a4 a n) ⟨3, sY, em, b, 0⟩ (splitP sY).1 (splitP em).1 = a5 a ([] ++ b) (n - 0 - (allB (0 + b.length) - allB 0)) := by kernel_rfl
theorem a6_e (a b : List UInt8) (n : Nat) : doE (a5 a b n) ⟨7, sX, sY, [], 0⟩ = 0 := by kernel_rfl
theorem a6_s (a b : List UInt8) (n : Nat) : planS (a5 a b n) ⟨7, sX, sY, [], 0⟩ (splitP sX).1 (splitP sY).1 = a6 a b n := by kernel_rfl
theorem a6_r (a b : List UInt8) (n : Nat) : rdA (lkA (a6 a b n).a sY) = (a, 0) := by kernel_rfl
theorem a6_g (a b : List UInt8) (n : Nat) : lkA (a6 a b n).a sX = (none, 8) := by kernel_rfl
/-! In two. -/
def b1 : S := doS ⟨rootA, 100, 19⟩ ⟨2, sD, em, [], 0⟩
theorem b1_e : doE ⟨rootA, 100, 19⟩ ⟨2, sD, em, [], 0⟩ = 0 := by decide +kernel
def b2 : S := doS b1 ⟨1, sX, em, [], 0⟩
theorem b2_e : doE b1 ⟨1, sX, em, [], 0⟩ = 0 := by decide +kernel
def b3 (a : List UInt8) (n : Nat) : S := ⟨setA b2.a pX (fl a), n, 17⟩
def b4 (a : List UInt8) (n : Nat) : S := ⟨onA (setA (setA b2.a pX (fl a)) pDY (freshA false)) pD putA, n - 1, 16⟩
def b5 (a b : List UInt8) (n : Nat) : S := ⟨setA (onA (setA (setA b2.a pX (fl a)) pDY (freshA false)) pD putA) pDY (fl b), n, 16⟩
def b6 (a b : List UInt8) (n : Nat) : S := ⟨onA (mvA (b5 a b n).a pX pDY) [] takeA, n + blocksA (fl b), 17⟩
theorem b3_e (a : List UInt8) : doE b2 ⟨3, sX, em, a, 0⟩ = if 8458240 - 0 < a.length then 5 else if 99 < allB (0 + a.length) - allB 0 then 7 else 0 := by kernel_rfl
theorem b3_s (a : List UInt8) : planS b2 ⟨3, sX, em, a, 0⟩ (splitP sX).1 (splitP em).1 = b3 ([] ++ a) (99 - (allB (0 + a.length) - allB 0)) := by kernel_rfl
theorem b4_e (a : List UInt8) (n : Nat) : doE (b3 a n) ⟨1, sDY, em, [], 0⟩ = if 17 = 0 ∨ n < 1 then 7 else 0 := by kernel_rfl
theorem b4_s (a : List UInt8) (n : Nat) : planS (b3 a n) ⟨1, sDY, em, [], 0⟩ (splitP sDY).1 (splitP em).1 = b4 a n := by kernel_rfl
theorem b5_e (a b : List UInt8) (n : Nat) : doE (b4 a n) ⟨3, sDY, em, b, 0⟩ = if 8458240 - 0 < b.length then 5 else if n - 1 < allB (0 + b.length) - allB 0 then 7 else 0 := by kernel_rfl
theorem b5_s (a b : List UInt8) (n : Nat) : planS (b4 a n) ⟨3, sDY, em, b, 0⟩ (splitP sDY).1 (splitP em).1 = b5 a ([] ++ b) (n - 1 - (allB (0 + b.length) - allB 0)) := by kernel_rfl
theorem b6_e (a b : List UInt8) (n : Nat) : doE (b5 a b n) ⟨7, sX, sDY, [], 0⟩ = 0 := by kernel_rfl
theorem b6_s (a b : List UInt8) (n : Nat) : planS (b5 a b n) ⟨7, sX, sDY, [], 0⟩ (splitP sX).1 (splitP sDY).1 = b6 a b n := by kernel_rfl
theorem b6_r (a b : List UInt8) (n : Nat) : rdA (lkA (b6 a b n).a sDY) = (a, 0) := by kernel_rfl
theorem b6_g (a b : List UInt8) (n : Nat) : lkA (b6 a b n).a sX = (none, 8) := by kernel_rfl
end Go.Proofs.YtpdcjdangnfeiaaDoor.Vj
