/- TreeFulls: the plain part. -/
import Derived.Test.YtpdcjdangnfeiaaDoorM9
namespace Go.Proofs.YtpdcjdangnfeiaaDoor.Vf
open Go Go.Maps Go.RowKit Go.Proofs.YtpdcjdangnfeiaaDoor.Pb Go.Proofs.YtpdcjdangnfeiaaDoor.PPth Go.Proofs.YtpdcjdangnfeiaaDoorW.PrintWords Go.Proofs.YtpdcjdangnfeiaaDoorW.PrintLast Go.Proofs.YtpdcjdangnfeiaaDoorW.PrintMore Go.Proofs.YtpdcjdangnfeiaaDoor.Ta Go.Proofs.YtpdcjdangnfeiaaDoor.Tb Go.Proofs.YtpdcjdangnfeiaaDoor.Tc Go.Proofs.YtpdcjdangnfeiaaDoor.Te Go.Proofs.YtpdcjdangnfeiaaDoor.Tf Go.Proofs.YtpdcjdangnfeiaaDoor.Qa Go.Proofs.YtpdcjdangnfeiaaDoor.Qb Go.Proofs.YtpdcjdangnfeiaaDoor.Qc Go.Proofs.YtpdcjdangnfeiaaDoor.Qd Go.Proofs.YtpdcjdangnfeiaaDoor.Qe Go.Proofs.YtpdcjdangnfeiaaDoor.Qf Go.Proofs.YtpdcjdangnfeiaaDoor.Ua Go.Proofs.YtpdcjdangnfeiaaDoor.Ub Go.Proofs.YtpdcjdangnfeiaaDoor.Uc Go.Proofs.YtpdcjdangnfeiaaDoor.Ud Go.Proofs.YtpdcjdangnfeiaaDoor.Ue Go.Proofs.YtpdcjdangnfeiaaDoor.Uf Go.Proofs.YtpdcjdangnfeiaaDoor.Ba Go.Proofs.YtpdcjdangnfeiaaDoor.Ug Go.Proofs.YtpdcjdangnfeiaaDoor.Uh Go.Proofs.YtpdcjdangnfeiaaDoor.Ui Go.Proofs.YtpdcjdangnfeiaaDoor.Uj Go.Proofs.YtpdcjdangnfeiaaDoor.Uk Go.Proofs.YtpdcjdangnfeiaaDoor.Ul Go.Proofs.YtpdcjdangnfeiaaDoor.Um Go.Proofs.YtpdcjdangnfeiaaDoor.Un Go.Proofs.YtpdcjdangnfeiaaDoor.Uo Go.Proofs.YtpdcjdangnfeiaaDoor.Up Go.Proofs.YtpdcjdangnfeiaaDoor.Uq Go.Proofs.YtpdcjdangnfeiaaDoor.Ur Go.Proofs.YtpdcjdangnfeiaaDoor.Us Go.Proofs.YtpdcjdangnfeiaaDoor.Ut Go.Proofs.YtpdcjdangnfeiaaDoor.Uu Go.Proofs.YtpdcjdangnfeiaaDoor.Uv Go.Proofs.YtpdcjdangnfeiaaDoor.Uw Go.Proofs.YtpdcjdangnfeiaaDoor.Ux Go.Proofs.YtpdcjdangnfeiaaDoor.Uy Go.Proofs.YtpdcjdangnfeiaaDoor.Uz Go.Proofs.YtpdcjdangnfeiaaDoor.Va Go.Proofs.YtpdcjdangnfeiaaDoor.Vb Go.Proofs.YtpdcjdangnfeiaaDoor.Vc Go.Proofs.YtpdcjdangnfeiaaDoor.Vd
def oF (i : Nat) : O := ⟨1, ⟨#[47, 102, UInt8.ofNat (97 + i % 26), UInt8.ofNat (97 + i / 26)]⟩, ⟨#[]⟩, [], 0⟩
def oX : O := ⟨3, ⟨#[47, 102, 97, 97]⟩, ⟨#[]⟩, [120], 0⟩
/-- The loop of the law over the plain tree: the tree, how many are made, whether all was as it should. -/
def condF (I k : Nat) (s : S) (m : Nat) : Bool := (decide (doE s (oF k) = 0) == (decide (m < I) && decide (m < 8))) && (decide (doE s (oF k) = 0) || decide (doE s (oF k) = 7))
def finF (I : Nat) (s : S) (m : Nat) : Bool := decide (s.inodes = I - m) && (decide (s.blocks = 0) == decide (0 < m)) && (decide (m = 0) || decide (doE s oX = 7)) && decide (m ≤ I)
def runF (I : Nat) : Nat → S × Nat
  | 0 => (⟨rootA, 1, I⟩, 0)
  | k + 1 => (doS (runF I k).1 (oF k), if doE (runF I k).1 (oF k) = 0 then (runF I k).2 + 1 else (runF I k).2)
def allF (I : Nat) : Nat → S → Nat → Nat → Bool
  | 0, s, m, _ => finF I s m
  | f + 1, s, m, k => finF I s m && condF I k s m && (if doE s (oF k) = 0 then allF I f (doS s (oF k)) (m + 1) (k + 1) else allF I f s m (k + 1))
theorem allF_ok : ∀ I : Fin 40, allF I.val 60 ⟨rootA, 1, I.val⟩ 0 0 = true := by decide +kernel
end Go.Proofs.YtpdcjdangnfeiaaDoor.Vf
