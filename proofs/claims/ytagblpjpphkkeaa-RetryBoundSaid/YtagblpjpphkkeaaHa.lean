/- Hands an argument back: 'of' of the laws of layer 20, for every slice and number. -/
import Derived.Test.YtagblpjpphkkeaaProg
import Derived.WalkKit
import Derived.Below
import Derived.Outline
import Derived.KernelRfl
namespace Go.Proofs.Ytagblpjpphkkeaa.Ha
open Go.RowKit

theorem of_any (A : Option Addr) (n c : Nat) (x : Int) (w : World) :
    Calls Try.prog 10 #[.agg #[.slice A n c, .int .i64 x]] w fun e w' => e = .returned (.agg #[.slice A n c, .int .i64 x]) ∧ Below w.heap.size w w' := by
  have hu24 := Try.underlying24
  have hu29 := Try.underlying29
  go_enter Try.func10, Try.ntmps10
  go_wp2
  exact bodyPost_ret (v := .agg #[.slice A n c, .int .i64 x]) (by simp [results, Try.results10, go_sem]) rfl ⟨rfl, ((Below.refl _ _).alloc (Nat.le_refl _) _).alloc (by simp) _⟩
end Go.Proofs.Ytagblpjpphkkeaa.Ha
