/- A row of bytes and a row of numbers that came in, opened. -/
import Derived.Test.YtpdcjdangnfeiaaDoorM4
import Derived.ChangeSlices
import Derived.ProofKit
namespace Go.Proofs.YtpdcjdangnfeiaaDoor.Dw
open Go.ChangeShapes Go.WideShapes Go.ChangeAt Go.RowKit Go.Proofs.YtpdcjdangnfeiaaDoor.Qa Go.Proofs.YtpdcjdangnfeiaaDoor.Ba Go.Proofs.YtpdcjdangnfeiaaDoorW.PrintWords Go.Proofs.YtpdcjdangnfeiaaDoorW.PrintLast Go.Proofs.YtpdcjdangnfeiaaDoorW.PrintMore
theorem byte_val (n : Nat) (h : n < 256) : bv (UInt8.ofNat n) = .int .u8 (n : Int) := by
  have e : (UInt8.ofNat n).toNat = n := by rw [UInt8.toNat_ofNat']; exact Nat.mod_eq_of_lt h
  show Value.int .u8 (((UInt8.ofNat n).toNat : Nat) : Int) = _
  rw [e]
set_option maxRecDepth 100000 in
theorem open_bytes {H : Type} {enc : TypeId × Value → H} {W : World} {r : Reach} {b0 : Nat} {v : Value} {d : DataW H} {p : List MemPlace} (hv : Value.okWide Tryd.prog W r b0 28 v)
    (h : DataW.Trod enc Tryd.prog W 0 (fun _ => true) true 28 v d p) :
    ∃ (A : Option Addr) (c : Nat) (l : List UInt8), v = .slice A l.length c ∧ RdB W A l ∧ l.length ≤ c := by
  obtain ⟨a, len, cap, rfl⟩ := okWide_slice Tryd.underlying28 hv
  obtain ⟨fuel, hf⟩ := h
  rcases open_ints Tryd.underlying28 Tryd.underlying5 (by kernel_rfl) hf with ⟨hcs, _⟩ | ⟨a, len, cap, zs, hcs, _, hl, hm, hz, _, hcell, hwz⟩
  · simp [Value.cells] at hcs
    obtain ⟨rfl, rfl, rfl⟩ := hcs
    exact ⟨none, 0, [], rfl, RdB.nil _ _, by simp⟩
  · simp [Value.cells] at hcs
    obtain ⟨rfl, rfl, rfl⟩ := hcs
    simp at hz
    have hlen : ((zs.take len).map (fun z => UInt8.ofNat z.toNat)).length = len := by simp; omega
    refine ⟨some a, cap, (zs.take len).map (fun z => UInt8.ofNat z.toNat), by rw [hlen], ?_, by omega⟩
    unfold maxLen at hm
    refine ⟨rfl, by omega, fun _ => ⟨a, rfl, fun j hj => ?_⟩⟩
    rw [hlen] at hj
    rw [hcell j (by omega)]
    have hj2 : j < zs.length := by omega
    rw [List.getD_eq_getElem?_getD, List.getD_eq_getElem?_getD, List.getElem?_map, List.getElem?_take_of_lt hj, List.getElem?_eq_getElem hj2]
    have hw := hwz zs[j] (List.getElem_mem hj2)
    have hw2 : 0 ≤ zs[j] ∧ zs[j] ≤ 255 := by
      simp [Lit.wf, IntKind.min, IntKind.max, IntKind.signed, IntKind.bits] at hw
      omega
    simp only [Option.map_some, Option.getD_some]
    obtain ⟨n, hn⟩ : ∃ n : Nat, zs[j] = (n : Int) := ⟨zs[j].toNat, by omega⟩
    rw [hn] at hw2 ⊢
    rw [Int.toNat_natCast]
    exact congrArg some (byte_val n (by omega)).symm
/-- A row of numbers that is read. -/
def RdI (w : World) (A : Option Addr) (l : List Int) : Prop := ReadsInt w .i64 A l.length l
theorem RdI.cell {w : World} {A : Option Addr} {l : List Int} (h : RdI w A l) (j : Nat) (hj : j < l.length) : ∃ b o, A = some ⟨b, o, none⟩ ∧ w.cell? ⟨b, o + j, none⟩ = some (.int .i64 l[j]) ∧ b < w.heap.size := by
  obtain ⟨⟨b, o, sp⟩, rfl, hc⟩ := h.2.2 (by omega)
  have h0 := hc 0 (by omega)
  have hs := World.cell?_spot h0
  have hsp : sp = none := by simpa [Addr.add] using hs
  subst hsp
  refine ⟨b, o, rfl, ?_, ?_⟩
  · have := hc j hj
    rw [List.getD_eq_getElem?_getD, List.getElem?_eq_getElem hj] at this
    by_cases hj0 : j = 0
    · subst hj0; simpa [Addr.add] using this
    · simpa [Addr.add, hj0] using this
  · have := World.block_lt_of_cell? w _ h0
    simpa [Addr.add] using this
set_option maxRecDepth 100000 in
theorem open_cuts {H : Type} {enc : TypeId × Value → H} {W : World} {r : Reach} {b0 : Nat} {v : Value} {d : DataW H} {p : List MemPlace} (hv : Value.okWide Tryd.prog W r b0 38 v)
    (h : DataW.Trod enc Tryd.prog W 0 (fun _ => true) true 38 v d p) :
    ∃ (A : Option Addr) (c : Nat) (l : List Int), v = .slice A l.length c ∧ RdI W A l ∧ l.length ≤ c := by
  obtain ⟨a, len, cap, rfl⟩ := okWide_slice Tryd.underlying38 hv
  obtain ⟨fuel, hf⟩ := h
  rcases open_ints Tryd.underlying38 Tryd.underlying3 (by kernel_rfl) hf with ⟨hcs, _⟩ | ⟨a, len, cap, zs, hcs, _, hl, hm, hz, _, hcell, hwz⟩
  · simp [Value.cells] at hcs
    obtain ⟨rfl, rfl, rfl⟩ := hcs
    exact ⟨none, 0, [], rfl, ⟨rfl, by simp, fun h => absurd h (by simp)⟩, by simp⟩
  · simp [Value.cells] at hcs
    obtain ⟨rfl, rfl, rfl⟩ := hcs
    simp at hz
    have hlen : (zs.take len).length = len := by simp; omega
    refine ⟨some a, cap, zs.take len, by rw [hlen], ?_, by omega⟩
    unfold maxLen at hm
    refine ⟨rfl, by omega, fun _ => ⟨a, rfl, fun j hj => ?_⟩⟩
    rw [hcell j (by omega)]
    rw [List.getD_eq_getElem?_getD, List.getD_eq_getElem?_getD, List.getElem?_take_of_lt (by omega)]
end Go.Proofs.YtpdcjdangnfeiaaDoor.Dw
