/- A recipient that came in, opened: two texts, four numbers, a text. A string; a row of numbers. -/
import Derived.Test.YtagblpjpphkkeaaHo
namespace Go.Proofs.Ytagblpjpphkkeaa.Hq
open Go.ChangeShapes Go.WideShapes Go.ChangeAt Go.RowKit Go.Joins Go.Proofs.YtagblpjpphkkeaaW.PrintWords

theorem list7 {α : Type} : ∀ {l : List α}, l.length = 7 → ∃ a b c d e f g, l = [a, b, c, d, e, f, g]
  | [a, b, c, d, e, f, g], _ => ⟨a, b, c, d, e, f, g, rfl⟩
theorem cells40 : Try.prog.cellsOf 40 = 7 := by kernel_rfl
theorem cells38 : Try.prog.cellsOf 38 = 2 := by kernel_rfl
theorem cells3 : Try.prog.cellsOf 3 = 1 := by kernel_rfl
theorem cells9 : Try.prog.cellsOf 9 = 1 := by kernel_rfl
theorem open_rcpt {H : Type} {enc : TypeId × Value → H} {W : World} {r : Reach} {b0 : Nat} {v : Value} {d : DataW H} {p : List MemPlace} (hv : Value.okWide Try.prog W r b0 40 v)
    (h : DataW.Trod enc Try.prog W 0 (fun _ => true) true 40 v d p) :
    ∃ (lo dm : ByteArray) (st tr nx cd : Int) (wy : ByteArray), v = .agg #[.string lo, .string dm, .int .i64 st, .int .i64 tr, .int .i64 nx, .int .i64 cd, .string wy] := by
  obtain ⟨cs, rfl, hsz⟩ := okWide_struct Try.underlying40 hv
  obtain ⟨fuel, hf⟩ := h
  obtain ⟨xs, n, _, _, hl, hlen, hfld⟩ := DataW.trod_struct Try.underlying40 hf
  rw [cells40] at hl
  obtain ⟨l⟩ := cs
  simp only [Value.cells] at hl hfld
  obtain ⟨c0, c1, c2, c3, c4, c5, c6, rfl⟩ := list7 hl
  have hx : ∀ i, i < 6 → ∃ y, xs[i]? = some y := fun i hi => ⟨xs[i]'(by rw [hlen]; exact hi), List.getElem?_eq_getElem _⟩
  have h0 := hfld 0 _ rfl
  have h1 := hfld 1 _ rfl
  have h2 := hfld 2 _ rfl
  have h3 := hfld 3 _ rfl
  have h4 := hfld 4 _ rfl
  have h5 := hfld 5 _ rfl
  obtain ⟨y0, g0⟩ := hx 0 (by omega)
  obtain ⟨y1, g1⟩ := hx 1 (by omega)
  obtain ⟨y2, g2⟩ := hx 2 (by omega)
  obtain ⟨y3, g3⟩ := hx 3 (by omega)
  obtain ⟨y4, g4⟩ := hx 4 (by omega)
  obtain ⟨y5, g5⟩ := hx 5 (by omega)
  rw [g0] at h0
  rw [g1] at h1
  rw [g2] at h2
  rw [g3] at h3
  rw [g4] at h4
  rw [g5] at h5
  obtain ⟨st, e1, _, _⟩ := DataW.trod_int Try.underlying3 h1
  obtain ⟨tr, e2, _, _⟩ := DataW.trod_int Try.underlying3 h2
  obtain ⟨nx, e3, _, _⟩ := DataW.trod_int Try.underlying3 h3
  obtain ⟨cd, e4, _, _⟩ := DataW.trod_int Try.underlying3 h4
  obtain ⟨wy, e5, _, _⟩ := DataW.trod_string Try.underlying9 h5
  obtain ⟨ys, m, _, _, _, hlen2, hfld2⟩ := DataW.trod_struct Try.underlying38 h0
  have hx2 : ∀ i, i < 2 → ∃ y, ys[i]? = some y := fun i hi => ⟨ys[i]'(by rw [hlen2]; exact hi), List.getElem?_eq_getElem _⟩
  have k0 := hfld2 0 _ rfl
  have k1 := hfld2 1 _ rfl
  obtain ⟨z0, q0⟩ := hx2 0 (by omega)
  obtain ⟨z1, q1⟩ := hx2 1 (by omega)
  rw [q0] at k0
  rw [q1] at k1
  obtain ⟨lo, e6, _, _⟩ := DataW.trod_string Try.underlying9 k0
  obtain ⟨dm, e7, _, _⟩ := DataW.trod_string Try.underlying9 k1
  simp [cells3, cells9, cells38] at e1 e2 e3 e4 e5 e6 e7
  subst e1 e2 e3 e4 e5 e6 e7
  exact ⟨lo, dm, st, tr, nx, cd, wy, rfl⟩
/-- A row of numbers that came in. -/
theorem open_row {H : Type} {enc : TypeId × Value → H} {W : World} {r : Reach} {b0 : Nat} {v : Value} {d : DataW H} {p : List MemPlace} (hv : Value.okWide Try.prog W r b0 22 v)
    (h : DataW.Trod enc Try.prog W 0 (fun _ => true) true 22 v d p) :
    ∃ (A : Option Addr) (c : Nat) (l : List Int), v = .slice A l.length c ∧ ReadsInt W .i64 A l.length l ∧ l.length ≤ c := by
  obtain ⟨a, len, cap, rfl⟩ := okWide_slice Try.underlying22 hv
  obtain ⟨fuel, hf⟩ := h
  rcases open_ints Try.underlying22 Try.underlying3 (by kernel_rfl) hf with ⟨hcs, _⟩ | ⟨a, len, cap, zs, hcs, _, hl, hm, hz, _, hcell, hwz⟩
  · simp [Value.cells] at hcs
    obtain ⟨rfl, rfl, rfl⟩ := hcs
    exact ⟨none, 0, [], rfl, ⟨rfl, by simp, fun h => absurd h (by simp)⟩, by simp⟩
  · simp [Value.cells] at hcs
    obtain ⟨rfl, rfl, rfl⟩ := hcs
    simp at hz
    have hlen : (zs.take len).length = len := by simp; omega
    refine ⟨some a, cap, zs.take len, by rw [hlen], ?_, by omega⟩
    unfold maxLen at hm
    refine ⟨rfl, by omega, fun _ => ⟨a, rfl, fun j hj => ?_⟩⟩
    rw [hcell j (by omega)]
    rw [List.getD_eq_getElem?_getD, List.getD_eq_getElem?_getD, List.getElem?_take_of_lt (by omega)]
end Go.Proofs.Ytagblpjpphkkeaa.Hq
