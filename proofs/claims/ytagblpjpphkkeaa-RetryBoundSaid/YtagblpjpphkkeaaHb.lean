/- The reference's table functions of layer 20 (wait, Next, Bound, Check), for every table that may be. -/
import Derived.Test.YtagblpjpphkkeaaHa
import Derived.Test.YtagblpjpphkkeaaWMore
import Derived.Deep.RegionHeld3
import Derived.Lib.Hide
namespace Go.Proofs.Ytagblpjpphkkeaa.Hb
open Go.RowKit Go.Proofs.YtagblpjpphkkeaaW.PrintWords Go.Proofs.YtagblpjpphkkeaaW.PrintLast Go.Proofs.YtagblpjpphkkeaaW.PrintMore

theorem wf64 {t : Int} (h : (Lit.int .i64 t).wf = true) : -9223372036854775808 ≤ t ∧ t ≤ 9223372036854775807 := by
  simp [Lit.wf, IntKind.min, IntKind.max, IntKind.bits, IntKind.signed] at h
  exact h
theorem ret_int {k : IntKind} {a b : Int} (h : a = b) : Ending.returned (.int k a) = .returned (.int k b) := by rw [h]
/-- The place that a number of tries means. -/
def clampN (n : Nat) (t : Int) : Nat := if t < 1 then 0 else if t > n then n - 1 else (t - 1).toNat
def waitF (l : List Int) (t : Int) : Int := l.getD (clampN l.length t) 0

/-- A place of a row that is read: its cell. -/
theorem cell_of {w : World} {ad : Addr} {l : List Int} (h : ∀ j, j < l.length → w.cell? (ad.add j) = some (.int .i64 (l.getD j 0))) (j : Nat) (hj : j < l.length) {y : Int} (hy : y = l.getD j 0) :
    ∃ v, Hid (v = y) ∧ w.cell? (ad.add j) = some (.int .i64 v) ∧ (ad.add j).block < w.heap.size :=
  ⟨l.getD j 0, Lib.hid hy.symm, h j hj, World.block_lt_of_cell? w _ (h j hj)⟩

set_option maxHeartbeats 1000000 in
theorem wait_any (A : Option Addr) (c : Nat) (l : List Int) (x t : Int) (w : World) (hc : ReadsInt w .i64 A l.length l) (h0 : 0 < l.length) (ht : (Lit.int .i64 t).wf = true) :
    Calls Try.prog 20 #[.agg #[.slice A l.length c, .int .i64 x], .int .i64 t] w fun e w' => e = .returned (.int .i64 (waitF l t)) ∧ Below w.heap.size w w' := by
  obtain ⟨hl, hm, hcc⟩ := hc
  obtain ⟨ad, rfl, hcell⟩ := hcc h0
  obtain ⟨hw1, hw2⟩ := wf64 ht
  clear ht hcc hl
  have hu24 := Try.underlying29
  have hl1 : (1 : Int) ≤ (l.length : Int) := by omega
  by_cases c1 : t < 1
  · obtain ⟨v, HV, g0, hlt0⟩ := cell_of hcell 0 h0 (y := waitF l t) (by unfold waitF clampN; rw [if_pos c1])
    have g : w.cell? ad = some (.int .i64 v) := by simpa [Addr.add] using g0
    have hlt : ad.block < w.heap.size := by simpa [Addr.add] using hlt0
    clear hcell g0 hlt0
    go_enter Try.func20, Try.ntmps20
    go_wp2
    go_ret
    exact ⟨ret_int HV.out, (Below.refl _ _).alloc (Nat.le_refl _) _⟩
  · by_cases c2 : t > (l.length : Int)
    · obtain ⟨v, HV, g, hlt⟩ := cell_of hcell (l.length - 1) (by omega) (y := waitF l t) (by unfold waitF clampN; rw [if_neg c1, if_pos c2])
      clear hcell
      go_enter Try.func20, Try.ntmps20
      go_wp2
      go_ret
      exact ⟨ret_int HV.out, (Below.refl _ _).alloc (Nat.le_refl _) _⟩
    · obtain ⟨m, rfl⟩ : ∃ m : Nat, t = m + 1 := ⟨(t - 1).toNat, by omega⟩
      obtain ⟨v, HV, g, hlt⟩ := cell_of hcell m (by omega) (y := waitF l (m + 1)) (by unfold waitF clampN; rw [if_neg c1, if_neg c2]; congr 1; omega)
      clear hcell
      have c3 : (m : Int) + 1 ≤ (l.length : Int) := by omega
      go_enter Try.func20, Try.ntmps20
      go_wp2
      go_ret
      exact ⟨ret_int HV.out, (Below.refl _ _).alloc (Nat.le_refl _) _⟩

def nextF (l : List Int) (x born tries now : Int) : Int × Bool :=
  if wrap64 (now + waitF l tries) ≥ wrap64 (born + x) then (0, false) else (wrap64 (now + waitF l tries), true)

theorem bx1 {w w' : World} {o : Obj} (h : Below (w.alloc o).heap.size (w.alloc o) w') : Below w.heap.size w w' :=
  ((Below.refl _ _).alloc (Nat.le_refl _) o).trans (h.mono (by simp))
theorem rd1 {w : World} {A : Option Addr} {l : List Int} (h : ReadsInt w .i64 A l.length l) (o : Obj) : ReadsInt (w.alloc o) .i64 A l.length l :=
  h.below ((Below.refl _ _).alloc (Nat.le_refl _) o)

theorem next_any (A : Option Addr) (c : Nat) (l : List Int) (x born tries now : Int) (w : World) (hc : ReadsInt w .i64 A l.length l) (h0 : 0 < l.length) (ht : (Lit.int .i64 tries).wf = true) :
    Calls Try.prog 13 #[.agg #[.slice A l.length c, .int .i64 x], .int .i64 born, .int .i64 tries, .int .i64 now] w fun e w' => e = .returned (.tuple #[.int .i64 (nextF l x born tries now).1, .bool (nextF l x born tries now).2]) ∧ Below w.heap.size w w' := by
  have hu29 := Try.underlying29
  have HC := Lib.hid hc
  clear hc
  by_cases hlt : wrap64 (now + waitF l tries) ≥ wrap64 (born + x)
  · have HF := Lib.hid (show nextF l x born tries now = (0, false) by unfold nextF; rw [if_pos hlt])
    go_enter Try.func13, Try.ntmps13
    go_wp2_with fail
    refine (wait_any A c l x tries _ (rd1 HC.out _) h0 ht).mono ?_
    rintro e w' ⟨rfl, hb⟩
    have q0 := hb.cell (p := ⟨w.heap.size, 0, none⟩) (by simp)
    have q1 := hb.cell (p := ⟨w.heap.size, 1, none⟩) (by simp)
    go_wp2
    go_ret2
    exact ⟨by rw [HF.out]; rfl, bx1 hb⟩
  · have HF := Lib.hid (show nextF l x born tries now = (wrap64 (now + waitF l tries), true) by unfold nextF; rw [if_neg hlt])
    go_enter Try.func13, Try.ntmps13
    go_wp2_with fail
    refine (wait_any A c l x tries _ (rd1 HC.out _) h0 ht).mono ?_
    rintro e w' ⟨rfl, hb⟩
    have q0 := hb.cell (p := ⟨w.heap.size, 0, none⟩) (by simp)
    have q1 := hb.cell (p := ⟨w.heap.size, 1, none⟩) (by simp)
    go_wp2
    go_ret2
    exact ⟨by rw [HF.out]; rfl, bx1 hb⟩

def okW (v : Int) : Bool := decide (1 ≤ v ∧ v ≤ 1048576)
def checkF (l : List Int) (x : Int) : Int :=
  if l.length < 1 ∨ l.length > 32 ∨ x < 1 ∨ x > 16777216 then 1 else if l.all okW then 0 else 1

set_option maxHeartbeats 1000000 in
theorem check_any (A : Option Addr) (c : Nat) (l : List Int) (x : Int) (w : World) (hc : ReadsInt w .i64 A l.length l) :
    Calls Try.prog 9 #[.agg #[.slice A l.length c, .int .i64 x]] w fun e w' => e = .returned (.int .i64 (checkF l x)) ∧ Below w.heap.size w w' := by
  have hu29 := Try.underlying29
  by_cases c1 : l.length < 1
  · have HF := Lib.hid (show checkF l x = 1 by unfold checkF; rw [if_pos (.inl c1)])
    have c1' : ((l.length : Nat) : Int) < 1 := by omega
    clear hc c1
    go_enter Try.func9, Try.ntmps9
    go_wp2
    go_ret
    exact ⟨ret_int HF.out.symm, (Below.refl _ _).alloc (Nat.le_refl _) _⟩
  have c1' : 1 ≤ ((l.length : Nat) : Int) := by omega
  by_cases c2 : l.length > 32
  · have HF := Lib.hid (show checkF l x = 1 by unfold checkF; rw [if_pos (.inr (.inl c2))])
    have c2' : 32 < ((l.length : Nat) : Int) := by omega
    clear hc c1 c2
    go_enter Try.func9, Try.ntmps9
    go_wp2
    go_ret
    exact ⟨ret_int HF.out.symm, (Below.refl _ _).alloc (Nat.le_refl _) _⟩
  have c2' : ((l.length : Nat) : Int) ≤ 32 := by omega
  by_cases c3 : x < 1
  · have HF := Lib.hid (show checkF l x = 1 by unfold checkF; rw [if_pos (.inr (.inr (.inl c3)))])
    clear hc c1 c2
    go_enter Try.func9, Try.ntmps9
    go_wp2
    go_ret
    exact ⟨ret_int HF.out.symm, (Below.refl _ _).alloc (Nat.le_refl _) _⟩
  by_cases c4 : x > 16777216
  · have HF := Lib.hid (show checkF l x = 1 by unfold checkF; rw [if_pos (.inr (.inr (.inr c4)))])
    clear hc c1 c2
    go_enter Try.func9, Try.ntmps9
    go_wp2
    go_ret
    exact ⟨ret_int HF.out.symm, (Below.refl _ _).alloc (Nat.le_refl _) _⟩
  have HF := Lib.hid (show checkF l x = if l.all okW then 0 else 1 by unfold checkF; rw [if_neg (by omega)])
  obtain ⟨hl, hm, hcc⟩ := hc
  obtain ⟨ad, rfl, hcell⟩ := hcc (by omega)
  have HC := Lib.hid hcell
  clear hcc hcell hl hm
  go_enter Try.func9, Try.ntmps9
  go_wp2
  go_loop [3] (fun i => ∃ k : Nat, k ≤ l.length ∧ i = .int .i64 k ∧ Hid ((l.take k).all okW = true)) (fun i => l.length - (intOf i).toNat)
  case atStart => exact ⟨0, Nat.zero_le _, rfl, Lib.hid (by simp)⟩
  case round =>
    obtain ⟨k, hk, rfl, HA⟩ := hrel
    by_cases hlt : k < l.length
    · obtain ⟨v, HV, g, hlt2⟩ := cell_of HC.out k hlt (y := l.getD k 0) rfl
      have hts : Hid ((l.take (k + 1)).all okW = okW v) := Lib.hid (by
        rw [List.take_succ_eq_append_getElem hlt, List.all_append, HA.out, HV.out]; simp [hlt])
      by_cases b1 : v < 1
      · have hres : Hid (l.all okW = false) := Lib.hid (by
          rw [← List.take_append_drop (k + 1) l, List.all_append, hts.out]; simp [okW]; omega)
        go_wp2
        go_ret
        exact ⟨ret_int (by rw [HF.out, hres.out]; rfl), (Below.refl _ _).alloc (Nat.le_refl _) _⟩
      by_cases b2 : v > 1048576
      · have hres : Hid (l.all okW = false) := Lib.hid (by
          rw [← List.take_append_drop (k + 1) l, List.all_append, hts.out]; simp [okW]; omega)
        go_wp2
        go_ret
        exact ⟨ret_int (by rw [HF.out, hres.out]; rfl), (Below.refl _ _).alloc (Nat.le_refl _) _⟩
      have hok : Hid (okW v = true) := Lib.hid (by simp [okW]; omega)
      go_wp2
      go_round
      case rel => exact ⟨k + 1, by omega, by go_num, Lib.hid (by rw [hts.out, hok.out])⟩
      case measure => simp [intOf]; omega
    · have hres : Hid (l.all okW = true) := Lib.hid (by
        have h := HA.out
        rwa [List.take_of_length_le (by omega)] at h)
      go_wp2
      go_ret
      exact ⟨ret_int (by rw [HF.out, hres.out]; rfl), (Below.refl _ _).alloc (Nat.le_refl _) _⟩
end Go.Proofs.Ytagblpjpphkkeaa.Hb
