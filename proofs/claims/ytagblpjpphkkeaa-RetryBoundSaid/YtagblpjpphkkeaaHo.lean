/- A table that came in, opened: its waits are read, its expiry is a number. -/
import Derived.Test.YtagblpjpphkkeaaHb
import Derived.Lib.SmallJoins
namespace Go.Proofs.Ytagblpjpphkkeaa.Ho
open Go.ChangeShapes Go.WideShapes Go.ChangeAt Go.RowKit Go.Joins Go.Proofs.YtagblpjpphkkeaaW.PrintWords

theorem cells24 : Try.prog.cellsOf 24 = 2 := by kernel_rfl
theorem open_table {H : Type} {enc : TypeId × Value → H} {W : World} {r : Reach} {b0 : Nat} {v : Value} {d : DataW H} {p : List MemPlace} (hv : Value.okWide Try.prog W r b0 24 v)
    (h : DataW.Trod enc Try.prog W 0 (fun _ => true) true 24 v d p) :
    ∃ (A : Option Addr) (c : Nat) (l : List Int) (x : Int), v = .agg #[.slice A l.length c, .int .i64 x] ∧ ReadsInt W .i64 A l.length l ∧ l.length ≤ c := by
  obtain ⟨c0, c1, y0, y1, m, rfl, rfl, rfl, hy0, hy1⟩ := open_agg2 Try.underlying24 (by kernel_rfl) cells24 hv h
  obtain ⟨x, e1, rfl, wx⟩ := DataW.trod_int Try.underlying3 hy1
  simp at e1
  subst e1
  rcases open_ints Try.underlying22 Try.underlying3 (by kernel_rfl) hy0 with ⟨hcs, _⟩ | ⟨a, len, cap, zs, hcs, _, hl, hm, hz, _, hcell, hwz⟩
  · simp at hcs
    subst hcs
    exact ⟨none, 0, [], x, rfl, ⟨rfl, by simp, fun h => absurd h (by simp)⟩, by simp⟩
  · simp at hcs hz
    subst hcs
    have hlen : (zs.take len).length = len := by simp; omega
    refine ⟨some a, cap, zs.take len, x, by rw [hlen], ?_, by omega⟩
    unfold maxLen at hm
    refine ⟨rfl, by omega, fun _ => ⟨a, rfl, fun j hj => ?_⟩⟩
    rw [hcell j (by omega)]
    rw [List.getD_eq_getElem?_getD, List.getD_eq_getElem?_getD, List.getElem?_take_of_lt (by omega)]
end Go.Proofs.Ytagblpjpphkkeaa.Ho
