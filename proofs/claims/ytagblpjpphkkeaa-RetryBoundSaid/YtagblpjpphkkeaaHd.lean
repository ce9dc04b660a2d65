/- The reference's Bound of layer 20; the laws' 'right' and 'Few', for every input. -/
import Derived.Test.YtagblpjpphkkeaaHc
namespace Go.Proofs.Ytagblpjpphkkeaa.Hd
open Go.RowKit Go.Proofs.Ytagblpjpphkkeaa.Hb Go.Proofs.Ytagblpjpphkkeaa.Hc Go.Proofs.Ytagblpjpphkkeaa.Ha Go.Proofs.YtagblpjpphkkeaaW.PrintWords Go.Proofs.YtagblpjpphkkeaaW.PrintLast Go.Proofs.YtagblpjpphkkeaaW.PrintMore

/-- How many tries there can be: n so far, sum so long. -/
def boundL (l : List Int) (E : Int) : Nat → Int → Int → Int
  | 0, n, _ => n
  | k + 1, n, sum => if sum < E then (if n + 1 > l.length then n + 1 + (E - 1 - sum) / l.getD (l.length - 1) 0 else boundL l E k (n + 1) (sum + waitF l (n + 1))) else n
def boundF (l : List Int) (E : Int) : Int := boundL l E 40 1 (waitF l 1)

theorem waitF_bd {l : List Int} (h0 : 0 < l.length) (hl : l.all okW = true) (t : Int) : 1 ≤ waitF l t ∧ waitF l t ≤ 1048576 := by
  have hi : clampN l.length t < l.length := by unfold clampN; split <;> (try split) <;> omega
  have hm : waitF l t ∈ l := by
    unfold waitF
    rw [List.getD_eq_getElem?_getD, List.getElem?_eq_getElem hi]
    exact List.getElem_mem hi
  have := List.all_eq_true.1 hl _ hm
  simpa [okW] using this

set_option maxHeartbeats 2000000 in
theorem bound_any (A : Option Addr) (c : Nat) (l : List Int) (x : Int) (w : World) (hc : ReadsInt w .i64 A l.length l) (hk : checkF l x = 0) :
    Calls Try.prog 15 #[.agg #[.slice A l.length c, .int .i64 x]] w fun e w' => e = .returned (.int .i64 (boundF l x)) ∧ Below w.heap.size w w' := by
  have hu29 := Try.underlying29
  obtain ⟨h0, h32, hx1, hx2, hall⟩ : 0 < l.length ∧ l.length ≤ 32 ∧ 1 ≤ x ∧ x ≤ 16777216 ∧ l.all okW = true := by
    unfold checkF at hk
    by_cases h : l.length < 1 ∨ l.length > 32 ∨ x < 1 ∨ x > 16777216
    · rw [if_pos h] at hk; exact absurd hk (by decide)
    · rw [if_neg h] at hk
      refine ⟨by omega, by omega, by omega, by omega, ?_⟩
      by_cases ha : l.all okW = true
      · exact ha
      · rw [if_neg ha] at hk; exact absurd hk (by decide)
  have HW := Lib.hid (fun t => waitF_bd h0 hall t)
  have HC := Lib.hid hc
  have HK := Lib.hid hk
  have hL : ((l.length : Nat) : Int) ≤ 32 := by omega
  clear hc hk hall
  have HB0 := Lib.hid (show boundF l x = boundL l x 40 1 (waitF l 1) from rfl)
  go_enter Try.func15, Try.ntmps15
  go_wp2_with fail
  refine (wait_any A c l x 1 _ (rd1 HC.out _) h0 (by decide)).mono ?_
  rintro e w1 ⟨rfl, hb⟩
  have hB := Lib.hid (bx1 hb)
  have q0 := hb.cell (p := ⟨w.heap.size, 0, none⟩) (by simp)
  have q1 := hb.cell (p := ⟨w.heap.size, 1, none⟩) (by simp)
  have hz : w.heap.size < w1.heap.size := by have := hb.size; simp at this; omega
  clear hb
  have hw1 := (HW.out 1).1
  have hw2 := (HW.out 1).2
  have q0' : w1.cell? ⟨w.heap.size, 0, none⟩ = some (.slice A l.length c) := by rw [q0]; simp
  have q1' : w1.cell? ⟨w.heap.size, 1, none⟩ = some (.int .i64 x) := by rw [q1]; simp
  clear q0 q1
  go_wp2_with fail
  go_loopw [3, 4] (fun nv sv wr => ∃ n : Nat, ∃ sum : Int, nv = .int .i64 n ∧ sv = .int .i64 sum ∧ 1 ≤ n ∧ n ≤ l.length ∧ 0 ≤ sum ∧ sum ≤ n * 1048576 ∧ Hid (boundL l x (41 - n) n sum = boundF l x) ∧
      Hid (Below w.heap.size w wr) ∧ w.heap.size < wr.heap.size ∧ wr.cell? ⟨w.heap.size, 0, none⟩ = some (.slice A l.length c) ∧ wr.cell? ⟨w.heap.size, 1, none⟩ = some (.int .i64 x)) (fun nv _ _ => 40 - (intOf nv).toNat)
  case atStart => exact ⟨1, _, rfl, rfl, by omega, by omega, by omega, by omega, Lib.hid rfl, hB, hz, q0', q1'⟩
  case round =>
    obtain ⟨n, sum, rfl, rfl, hn1, hn2, hs1, hs2, HR, HBr, hzr, r0, r1⟩ := hrel
    have HS := Lib.hid (show boundL l x (41 - n) n sum = if sum < x then (if (n : Int) + 1 > l.length then n + 1 + (x - 1 - sum) / l.getD (l.length - 1) 0 else boundL l x (40 - n) (n + 1) (sum + waitF l (n + 1))) else n by
      rw [show 41 - n = (40 - n) + 1 by omega]; rfl)
    by_cases c1 : sum < x
    · by_cases c2 : (n : Int) + 1 > l.length
      · obtain ⟨hl, hm, hcc⟩ := HC.out.below HBr.out
        obtain ⟨ad, rfl, hcell⟩ := hcc h0
        obtain ⟨v, HV, g, hlt⟩ := cell_of hcell (l.length - 1) (by omega) (y := l.getD (l.length - 1) 0) rfl
        have hv1 : 1 ≤ v := by
          have h := (HW.out l.length).1
          rw [HV.out]
          have e : waitF l l.length = l.getD (l.length - 1) 0 := by unfold waitF clampN; rw [if_neg (by omega), if_neg (by omega)]; congr 1; omega
          rwa [← e]
        have hv2 : 0 ≤ x - 1 - sum := by omega
        have hv3 : (x - 1 - sum) / v ≤ 16777216 := by
          have := Int.ediv_le_self v hv2
          omega
        have hv4 : 0 ≤ (x - 1 - sum) / v := Int.ediv_nonneg hv2 (by omega)
        clear hcc hcell hl
        go_wp2
        go_ret
        exact ⟨ret_int (by rw [← HR.out, HS.out, if_pos c1, if_pos c2, HV.out]), HBr.out⟩
      · have hw3 := (HW.out ((n : Int) + 1)).1
        have hw4 := (HW.out ((n : Int) + 1)).2
        go_wp2_with fail
        refine (wait_any A c l x _ _ (HC.out.below HBr.out) h0 (by simp [Lit.wf, IntKind.min, IntKind.max, IntKind.bits, IntKind.signed]; omega)).mono ?_
        rintro e w2 ⟨rfl, hb⟩
        have hB2 := Lib.hid (HBr.out.trans (hb.mono (by omega)))
        have t0 := hb.cell (p := ⟨w.heap.size, 0, none⟩) hzr
        have t1 := hb.cell (p := ⟨w.heap.size, 1, none⟩) hzr
        rw [r0] at t0
        rw [r1] at t1
        have hz2 : w.heap.size < w2.heap.size := by have := hb.size; omega
        clear hb
        go_wp2
        go_roundw
        case rel => exact ⟨n + 1, sum + waitF l (n + 1), by go_num, rfl, by omega, by omega, by omega, by omega, Lib.hid (by
          rw [← HR.out, HS.out, if_pos c1, if_neg (Int.not_lt.2 c2), show 41 - (n + 1) = 40 - n by omega]; rfl), hB2, hz2, t0, t1⟩
        case measure => simp [intOf]; omega
    · go_wp2
      go_ret
      exact ⟨ret_int (by rw [← HR.out, HS.out, if_neg (Int.not_lt.2 c1)]), HBr.out⟩

def rightB (r a1 a2 : Int) : Bool := decide (r = 0 ∧ 0 ≤ a1 ∧ a1 ≤ 2147483647 ∧ 0 ≤ a2 ∧ a2 ≤ 2147483647)
theorem ret_bool {a b : Bool} (h : a = b) : Ending.returned (.bool a) = .returned (.bool b) := by rw [h]

set_option maxHeartbeats 2000000 in
theorem right_any (A : Option Addr) (c : Nat) (l : List Int) (x a1 a2 : Int) (w : World) (hc : ReadsInt w .i64 A l.length l) :
    Calls Try.prog 11 #[.agg #[.slice A l.length c, .int .i64 x], .int .i64 a1, .int .i64 a2] w fun e w' => e = .returned (.bool (rightB (checkF l x) a1 a2)) ∧ Below w.heap.size w w' := by
  have hu24 := Try.underlying24
  have hu29 := Try.underlying29
  have HC := Lib.hid hc
  clear hc
  by_cases b0 : checkF l x = 0
  · have e0 : (checkF l x == 0) = true := by simp [b0]
    have HE := Lib.hid (show rightB (checkF l x) a1 a2 = decide (0 ≤ a1 ∧ a1 ≤ 2147483647 ∧ 0 ≤ a2 ∧ a2 ≤ 2147483647) by simp [rightB, b0])
    clear b0
    by_cases b1 : 0 ≤ a1 <;> by_cases b2 : a1 ≤ 2147483647 <;> by_cases b3 : 0 ≤ a2 <;> by_cases b4 : a2 ≤ 2147483647
    all_goals first
      | (exfalso; omega)
      | (go_enter Try.func11, Try.ntmps11
         go_wp2_with fail
         refine (of_any _ _ _ _ _).mono ?_
         rintro e w1 ⟨rfl, hb⟩
         have hB := Lib.hid (bx1 hb)
         clear hb
         go_wp2_with fail
         refine (check_any A c l x _ (HC.out.below hB.out)).mono ?_
         rintro e w2 ⟨rfl, hb2⟩
         have hB2 := Lib.hid (hB.out.trans (hb2.mono hB.out.size))
         clear hb2
         go_wp2
         go_ret
         exact ⟨ret_bool (by rw [HE.out]; symm; first | (apply decide_eq_true; omega) | (apply decide_eq_false; omega) | (rw [decide_eq_decide]; omega)), hB2.out⟩)
  · have e0 : (checkF l x == 0) = false := by simp [b0]
    have HE := Lib.hid (show rightB (checkF l x) a1 a2 = false by simp [rightB, b0])
    clear b0
    go_enter Try.func11, Try.ntmps11
    go_wp2_with fail
    refine (of_any _ _ _ _ _).mono ?_
    rintro e w1 ⟨rfl, hb⟩
    have hB := Lib.hid (bx1 hb)
    clear hb
    go_wp2_with fail
    refine (check_any A c l x _ (HC.out.below hB.out)).mono ?_
    rintro e w2 ⟨rfl, hb2⟩
    have hB2 := Lib.hid (hB.out.trans (hb2.mono hB.out.size))
    clear hb2
    go_wp2
    go_ret
    exact ⟨ret_bool HE.out.symm, hB2.out⟩

def few14B (lo dm : ByteArray) : Bool := decide ((lo.size : Int) ≤ 400 ∧ (dm.size : Int) ≤ 600)
theorem few14_any (lo dm : ByteArray) (w : World) : Calls Try.prog 21 #[.agg #[.string lo, .string dm]] w fun e w' => e = .returned (.bool (few14B lo dm)) ∧ Below w.heap.size w w' := by
  have hu38 := Try.underlying38
  by_cases b1 : (lo.size : Int) ≤ 400 <;> by_cases b2 : (dm.size : Int) ≤ 600
  all_goals
    have HE : Hid (few14B lo dm = decide ((lo.size : Int) ≤ 400 ∧ (dm.size : Int) ≤ 600)) := Lib.hid rfl
    go_enter Try.func21, Try.ntmps21
    go_wp2
    go_ret
    exact ⟨ret_bool (by rw [HE.out]; symm; first | (apply decide_eq_true; omega) | (apply decide_eq_false; omega) | (rw [decide_eq_decide]; omega)), (Below.refl _ _).alloc (Nat.le_refl _) _⟩

/-- One recipient, and an envelope that has just it. -/
def few1B (lo dm wy : ByteArray) : Bool := few14B lo dm && decide ((wy.size : Int) ≤ 300)
set_option maxHeartbeats 2000000 in
theorem few1_any (b : Nat) (lo dm wy : ByteArray) (st tr nx cd : Int) (w : World) (h0 : w.heap[b]? = some (.cells #[.string lo, .string dm, .int .i64 st, .int .i64 tr, .int .i64 nx, .int .i64 cd, .string wy] 40 (0, 0))) :
    Calls Try.prog 16 #[.agg #[.string ByteArray.empty, .string ByteArray.empty, .int .i64 0, .int .i64 0, .int .u32 0, .slice (some ⟨b, 0, none⟩) 1 1]] w fun e w' => e = .returned (.bool (few1B lo dm wy)) ∧ Below w.heap.size w w' := by
  have hu38 := Try.underlying38
  have hu40 := Try.underlying40
  have hu45 := Try.underlying45
  have c0 : w.cell? ⟨b, 0, none⟩ = some (.string lo) := by simp [World.cell?, h0]
  have c1 : w.cell? ⟨b, 1, none⟩ = some (.string dm) := by simp [World.cell?, h0]
  have c6 : w.cell? ⟨b, 6, none⟩ = some (.string wy) := by simp [World.cell?, h0]
  have hlt := World.block_lt_of_cell? w _ c0
  have HF : Hid (few14B ByteArray.empty ByteArray.empty = true) := Lib.hid rfl
  have HE : Hid (few1B lo dm wy = (few14B lo dm && decide ((wy.size : Int) ≤ 300))) := Lib.hid rfl
  clear h0
  go_enter Try.func16, Try.ntmps16
  go_wp2_with fail
  refine (few14_any _ _ _).mono ?_
  rintro e w1 ⟨rfl, hb⟩
  rw [HF.out]
  have hB := Lib.hid (bx1 hb)
  obtain ⟨hc, hf⟩ := bcell hb
  have hz : w.heap.size < w1.heap.size := by have := hb.size; simp at this; omega
  have hlt' : b < w.heap.size := hlt
  have d0 : w1.cell? ⟨b, 0, none⟩ = some (.string lo) := by rw [(bcell hB.out).1 b 0 hlt']; exact c0
  have d1 : w1.cell? ⟨b, 1, none⟩ = some (.string dm) := by rw [(bcell hB.out).1 b 1 hlt']; exact c1
  have d6 : w1.cell? ⟨b, 6, none⟩ = some (.string wy) := by rw [(bcell hB.out).1 b 6 hlt']; exact c6
  have r5 : w1.cell? ⟨w.heap.size, 5, none⟩ = some (.slice (some ⟨b, 0, none⟩) 1 1) := by rw [hc _ _ (by simp)]; simp
  clear c0 c1 c6 hf hb hc
  go_wp2_with fail
  go_loopw [3] (fun i wr => (i = .int .i64 0 ∧ wr = w1) ∨ (i = .int .i64 1 ∧ Hid (few1B lo dm wy = true) ∧ Hid (Below w.heap.size w wr) ∧ wr.cell? ⟨w.heap.size, 5, none⟩ = some (.slice (some ⟨b, 0, none⟩) 1 1))) (fun i _ => 1 - (intOf i).toNat)
  case atStart => exact .inl ⟨rfl, rfl⟩
  case round =>
    rcases hrel with ⟨rfl, rfl⟩ | ⟨rfl, HT, HBr, r5'⟩
    · by_cases b1 : few14B lo dm = true
      · by_cases b2 : (wy.size : Int) ≤ 300
        · have HG : Hid (few1B lo dm wy = true) := Lib.hid (by rw [HE.out, b1]; simp [b2])
          go_wp2_with fail
          refine (few14_any _ _ _).mono ?_
          rintro e w2 ⟨rfl, hb⟩
          rw [b1]
          have hB2 := Lib.hid (hB.out.trans (hb.mono hB.out.size))
          obtain ⟨hc, hf⟩ := bcell hb
          have e5 := (hc w.heap.size 5 hz).trans r5
          have e6 := (hc b 6 (by omega)).trans d6
          clear hb hc hf
          go_wp2
          go_roundw
          case rel => exact .inr ⟨rfl, HG, hB2, e5⟩
          case measure => simp [intOf]
        · have HG : Hid (few1B lo dm wy = false) := Lib.hid (by rw [HE.out, b1]; simp; omega)
          have b2' : (300 : Int) < wy.size := by omega
          go_wp2_with fail
          refine (few14_any _ _ _).mono ?_
          rintro e w2 ⟨rfl, hb⟩
          rw [b1]
          have hB2 := Lib.hid (hB.out.trans (hb.mono hB.out.size))
          obtain ⟨hc, hf⟩ := bcell hb
          have e5 := (hc w.heap.size 5 hz).trans r5
          have e6 := (hc b 6 (by omega)).trans d6
          clear hb hc hf
          go_wp2
          go_ret
          exact ⟨ret_bool HG.out.symm, hB2.out⟩
      · have b1' : few14B lo dm = false := by simpa using b1
        have HG : Hid (few1B lo dm wy = false) := Lib.hid (by rw [HE.out, b1']; simp)
        go_wp2_with fail
        refine (few14_any _ _ _).mono ?_
        rintro e w2 ⟨rfl, hb⟩
        rw [b1']
        have hB2 := Lib.hid (hB.out.trans (hb.mono hB.out.size))
        clear hb
        go_wp2
        go_ret
        exact ⟨ret_bool HG.out.symm, hB2.out⟩
    · go_wp2
      go_ret
      exact ⟨ret_bool HT.out.symm, HBr.out⟩
end Go.Proofs.Ytagblpjpphkkeaa.Hd
