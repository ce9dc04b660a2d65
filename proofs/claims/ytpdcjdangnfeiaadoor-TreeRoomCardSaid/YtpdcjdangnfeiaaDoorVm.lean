/- TreeRoom walked. -/
import Derived.Test.YtpdcjdangnfeiaaDoorM9
import Derived.Test.YtpdcjdangnfeiaaDoorVl
import Derived.Test.YtpdcjdangnfeiaaDoorDw
import Derived.Laws.BitsAllLaws
namespace Go.Proofs.YtpdcjdangnfeiaaDoor.Vm
open Go Go.Maps Go.RowKit Go.Proofs.YtpdcjdangnfeiaaDoor.Pb Go.Proofs.YtpdcjdangnfeiaaDoor.PPth Go.Proofs.YtpdcjdangnfeiaaDoorW.PrintWords Go.Proofs.YtpdcjdangnfeiaaDoorW.PrintLast Go.Proofs.YtpdcjdangnfeiaaDoorW.PrintMore Go.Proofs.YtpdcjdangnfeiaaDoor.Ta Go.Proofs.YtpdcjdangnfeiaaDoor.Tb Go.Proofs.YtpdcjdangnfeiaaDoor.Tc Go.Proofs.YtpdcjdangnfeiaaDoor.Te Go.Proofs.YtpdcjdangnfeiaaDoor.Tf Go.Proofs.YtpdcjdangnfeiaaDoor.Qa Go.Proofs.YtpdcjdangnfeiaaDoor.Qb Go.Proofs.YtpdcjdangnfeiaaDoor.Qc Go.Proofs.YtpdcjdangnfeiaaDoor.Qd Go.Proofs.YtpdcjdangnfeiaaDoor.Qe Go.Proofs.YtpdcjdangnfeiaaDoor.Qf Go.Proofs.YtpdcjdangnfeiaaDoor.Ua Go.Proofs.YtpdcjdangnfeiaaDoor.Ub Go.Proofs.YtpdcjdangnfeiaaDoor.Uc Go.Proofs.YtpdcjdangnfeiaaDoor.Ud Go.Proofs.YtpdcjdangnfeiaaDoor.Ue Go.Proofs.YtpdcjdangnfeiaaDoor.Uf Go.Proofs.YtpdcjdangnfeiaaDoor.Ba Go.Proofs.YtpdcjdangnfeiaaDoor.Ug Go.Proofs.YtpdcjdangnfeiaaDoor.Uh Go.Proofs.YtpdcjdangnfeiaaDoor.Ui Go.Proofs.YtpdcjdangnfeiaaDoor.Uj Go.Proofs.YtpdcjdangnfeiaaDoor.Uk Go.Proofs.YtpdcjdangnfeiaaDoor.Ul Go.Proofs.YtpdcjdangnfeiaaDoor.Um Go.Proofs.YtpdcjdangnfeiaaDoor.Un Go.Proofs.YtpdcjdangnfeiaaDoor.Uo Go.Proofs.YtpdcjdangnfeiaaDoor.Up Go.Proofs.YtpdcjdangnfeiaaDoor.Uq Go.Proofs.YtpdcjdangnfeiaaDoor.Ur Go.Proofs.YtpdcjdangnfeiaaDoor.Us Go.Proofs.YtpdcjdangnfeiaaDoor.Ut Go.Proofs.YtpdcjdangnfeiaaDoor.Uu Go.Proofs.YtpdcjdangnfeiaaDoor.Uv Go.Proofs.YtpdcjdangnfeiaaDoor.Uw Go.Proofs.YtpdcjdangnfeiaaDoor.Ux Go.Proofs.YtpdcjdangnfeiaaDoor.Uy Go.Proofs.YtpdcjdangnfeiaaDoor.Uz Go.Proofs.YtpdcjdangnfeiaaDoor.Va Go.Proofs.YtpdcjdangnfeiaaDoor.Vb Go.Proofs.YtpdcjdangnfeiaaDoor.Vc Go.Proofs.YtpdcjdangnfeiaaDoor.Vd Go.Proofs.YtpdcjdangnfeiaaDoor.Ve Go.Proofs.YtpdcjdangnfeiaaDoor.Vl Go.Proofs.YtpdcjdangnfeiaaDoor.Dw
def sumB (z : Nat → Nat) : Nat → Nat
  | 0 => 0
  | j + 1 => sumB z j + allB (z j)
theorem sumB_le {z : Nat → Nat} (h : ∀ i, z i ≤ 4095) : ∀ j, sumB z j ≤ 8 * j
  | 0 => Nat.le_refl _
  | j + 1 => by
    have ih := sumB_le h j
    have : allB (z j) ≤ 8 := by have := h j; rw [allB_small (by omega)]; omega
    unfold sumB; omega
theorem sumB_congr {z z' : Nat → Nat} : ∀ j, (∀ i, i < j → z i = z' i) → sumB z j = sumB z' j
  | 0, _ => rfl
  | j + 1, h => by
    unfold sumB
    rw [sumB_congr j (fun i hi => h i (by omega)), h j (by omega)]
theorem sumB_mono {z : Nat → Nat} {i j : Nat} (h : i ≤ j) : sumB z i ≤ sumB z j := by
  induction j with
  | zero => have : i = 0 := by omega
            subst this; exact Nat.le_refl _
  | succ j ih =>
    by_cases e : i = j + 1
    · subst e; exact Nat.le_refl _
    · have := ih (by omega)
      show sumB z i ≤ sumB z j + allB (z j)
      omega
theorem text1 (W : World) (x : UInt8) (a : Int) (ha : a = (x.toNat : Int)) :
    (convert 28 9 (.slice (some ⟨W.heap.size, 0, none⟩) 1 1)).run Tryd.prog (W.alloc (.cells #[.int .u8 a] 5)) = .ok (.string ⟨#[x]⟩) (W.alloc (.cells #[.int .u8 a] 5)) := by
  subst ha
  exact RdB.text (RdB.lit W [x] (by simp)) 1
theorem u8_of (n : Nat) (h : n < 256) : (UInt8.ofNat n).toNat = n := by
  simp [UInt8.toNat_ofNat']
  omega
structure Rel1 (q : Int) (W1 : World) (tb' : Nat) (z : Nat → Nat) (s : S) (bl j : Nat) (wr : World) : Prop where
  rm : Rm z ((j + 7) / 8) 0 j s bl (99 - j)
  sum : bl + (j + 7) / 8 + sumB z j = 1000
  zero : ∀ i, j ≤ i → z i = 0
  small : ∀ i, z i ≤ 4095
  att : At wr W1.heap.size tb' q s (2 * j)
  low : Below W1.heap.size W1 wr
theorem and_i64 (x : Int) : ∃ n : Nat, n ≤ 4095 ∧ bits .and .i64 x 4095 = (n : Int) := by
  refine ⟨(BitVec.ofInt 64 x).toNat % 4096, by omega, ?_⟩
  have h : (BitVec.ofInt 64 x &&& BitVec.ofInt 64 4095).toNat = (BitVec.ofInt 64 x).toNat % 4096 := by
    rw [BitVec.toNat_and]
    show _ &&& 4095 = _
    exact Nat.and_two_pow_sub_one_eq_mod _ 12
  show IntKind.i64.wrap ((BitVec.ofInt 64 x &&& BitVec.ofInt 64 4095).toNat : Int) = _
  rw [h]
  simp [IntKind.wrap, IntKind.bits, IntKind.signed]
  omega
theorem rB_cat : ∀ i : Fin 30, (⟨#[47, 102]⟩ : ByteArray) ++ ⟨#[UInt8.ofNat (97 + i.val)]⟩ = rB i.val := by decide +kernel
theorem rd_zs (W : World) (n : Nat) (h : n ≤ 4095) : RdB (W.alloc (.cells (madeCells #[.int .u8 0] n) 5)) (some ⟨W.heap.size, 0, none⟩) (zs n) := by
  refine RdB.mk (by simp [zs]; omega) fun j hj => ?_
  have hjn : j < n := by simpa [zs] using hj
  rw [Nat.zero_add, (World.rowIs_made W (.int .u8 0) n 5).cell hjn]
  simp [zs]
theorem rm_stat {z : Nat → Nat} {sl lo hi bl ino j : Nat} {s : S} (h : Rm z sl lo hi s bl ino) (hj : lo ≤ j ∧ j < hi) (hh : hi ≤ 30) : stA (lkA s.a (rB j)) = (.agg #[.bool false, .int .i64 (z j), .int .i64 0], 0) := by
  have hj30 : j < 30 := by omega
  have hf := h.file j hj30
  rw [if_pos hj] at hf
  have hs := rB_split ⟨j, hj30⟩
  have e : lkA s.a (rB j) = (some ⟨false, zs (z j), 0, 0⟩, 0) := by
    unfold lkA
    simp only [hs]
    rw [if_neg (by simp), way1 h.root rfl, if_neg (by simp), hf]
  rw [e]
  simp [stA, zs]
structure Rel2 (q : Int) (W1 : World) (tb' : Nat) (z : Nat → Nat) (L : Nat) (s : S) (sl bl j : Nat) (wr : World) : Prop where
  rm : Rm z sl j L s bl (99 - L + j)
  sum : bl + (L + 7) / 8 + sumB z L = 1000 + sumB z j
  att : At wr W1.heap.size tb' q s (2 * L + j)
  low : Below W1.heap.size W1 wr
set_option maxHeartbeats 2000000 in
set_option maxRecDepth 1000000 in
theorem room_long (A : Option Addr) (c na : Nat) (q : Int) (W0 : World) (hq : W0.cell? ⟨0, 0, none⟩ = some (.int .i64 q)) (h1 : (30 : Int) < na) : Calls Tryd.prog 5 #[.slice A na c] W0 fun e w' => e = .returned (.bool true) ∧ Below W0.heap.size W0 w' := by
  have HKN := Lib.hid (known_any W0 q hq)
  clear hq
  go_enter Tryd.func5, Tryd.ntmps5
  go_wp2_with fail
  refine HKN.out.mono ?_
  rintro e w1 ⟨rfl, hb⟩
  go_wp2
  go_ret
  exact ⟨rfl, hb⟩
set_option maxHeartbeats 4000000 in
set_option maxRecDepth 1000000 in
theorem room_few (A : Option Addr) (c : Nat) (l : List Int) (q : Int) (W0 : World) (hq : W0.cell? ⟨0, 0, none⟩ = some (.int .i64 q)) (hl : RdI W0 A l) (h1 : l.length ≤ 30) : Calls Tryd.prog 5 #[.slice A l.length c] W0 fun e w' => e = .returned (.bool true) ∧ Below W0.heap.size W0 w' := by
  have HKN := Lib.hid (known_any W0 q hq)
  have HN := Lib.hid (fun W (hb : Below W0.heap.size W0 W) => (show Calls Tryd.prog 11 #[.int .i64 1000, .int .i64 100] W fun e w' => ∃ tb', e = .returned (.tuple #[.pointer (some ⟨tb', 0, none⟩), .int .i64 0]) ∧ At w' W.heap.size tb' q ⟨rootA, 1000, 99⟩ 0 ∧ Below W.heap.size W w' from new_at (w := W) (q := q) (n := 1000) (i := 99) (keepC hb hq) (by omega) (by omega)))
  have i1 : ¬ (30 : Int) < (l.length : Int) := by omega
  have HL := Lib.hid hl
  clear hq hl
  go_enter Tryd.func5, Tryd.ntmps5
  go_wp2_with fail
  refine HKN.out.mono ?_
  rintro e w1 ⟨rfl, hb⟩
  have HB0 := Lib.hid hb
  clear hb
  go_wp2_with fail
  refine (HN.out _ HB0.out).mono ?_
  rintro e w2 ⟨tb', rfl, ha, hb⟩
  have HA := Lib.hid ha
  have HB := Lib.hid hb
  clear ha hb
  go_wp2_with fail
  go_loopw [5] (fun k wr => ∃ (j : Nat) (z : Nat → Nat) (s : S) (bl : Nat), k = .int .i64 j ∧ j ≤ l.length ∧ Hid (Rel1 q w1 tb' z s bl j wr)) (fun k _ => l.length - (intOf k).toNat)
  case atStart =>
    refine ⟨0, fun _ => 0, ⟨rootA, 1000, 99⟩, 1000, rfl, by omega, Lib.hid ⟨⟨rfl, fun i _ => ?_, rfl, rfl⟩, rfl, fun _ _ => rfl, fun _ => by omega, HA.out, HB.out⟩⟩
    rw [if_neg (by omega)]; rfl
  case round =>
    obtain ⟨j, z, s, bl, rfl, hj, HREL⟩ := hrel
    by_cases hlt : j < l.length
    · have i2 : (j : Int) < (l.length : Int) := by omega
      obtain ⟨b, o, rfl, g1, -⟩ := HL.out.cell j hlt
      have hcv := text1 wr (UInt8.ofNat (97 + j)) (97 + (j : Int)) (by rw [u8_of _ (by omega)]; omega)
      obtain ⟨T, hT⟩ : ∃ T, (⟨#[UInt8.ofNat (97 + j)]⟩ : ByteArray) = T := ⟨_, rfl⟩
      have hTs : T.size = 1 := by rw [← hT]; rfl
      have hP2 : (⟨#[47, 102]⟩ : ByteArray).size = 2 := rfl
      rw [hT] at hcv
      have hbase : Below W0.heap.size W0 (wr.alloc (.cells #[.int .u8 (97 + (j : Int))] 5)) := bt HB0.out (HREL.out.low.alloc HREL.out.low.size _)
      have g2 := keepC hbase g1
      obtain ⟨x, hx⟩ : ∃ x, l[j] = x := ⟨_, rfl⟩
      rw [hx] at g1 g2
      clear hbase
      go_wp2_with fail
      obtain ⟨n, hn, hx2⟩ := and_i64 x
      have hmk := run_make_row' (P := Tryd.prog) 28 5 (.int .u8 0) 1 Tryd.underlying28 (by kernel_rfl) rfl .i64 .i64 n (by omega) (by omega)
      have hcat : (⟨#[47, 102]⟩ : ByteArray) ++ T = rB j := by rw [← hT]; exact rB_cat ⟨j, by omega⟩
      rw [hx2, hcat]
      have hrm := HREL.out.rm
      have hbnd : sumB z j ≤ 8 * j := sumB_le HREL.out.small j
      have hsum := HREL.out.sum
      rw [show 99 - j = 98 - j + 1 by omega] at hrm
      obtain ⟨c1, c2⟩ := room_make hrm (by omega) rfl (HREL.out.zero j (by omega)) (by omega)
      obtain ⟨s1, hs1⟩ : ∃ s1, doS s ⟨1, rB j, em, [], 0⟩ = s1 := ⟨_, rfl⟩
      rw [hs1] at c2
      have hd1 := do_at ⟨1, rB j, em, [], 0⟩ none 0 (HREL.out.att.below ((Below.refl _ wr).alloc (Nat.le_refl _) (.cells #[.int .u8 (97 + (j : Int))] 5))) (by omega) (RdB.nil _ _) (by simp)
      rw [c1, hs1] at hd1
      have HD1 := Lib.hid hd1
      clear hd1
      refine HD1.out.mono ?_
      rintro e w3 ⟨rfl, ha, hb⟩
      have HA1 := Lib.hid ha
      have HB1 := Lib.hid (HREL.out.low.trans ((Below.alloc (Below.refl _ wr) HREL.out.low.size _).trans hb))
      clear ha hb
      go_wp2_with fail
      obtain ⟨c3, c4⟩ := room_fill c2 (Nat.lt_succ_self j) (by omega) (HREL.out.zero j (Nat.le_refl _)) hn (by omega)
      obtain ⟨s2, hs2⟩ : ∃ s2, doS s1 ⟨3, rB j, em, zs n, 0⟩ = s2 := ⟨_, rfl⟩
      rw [hs2] at c4
      have hzl : (zs n).length = n := by simp [zs]
      have hd2 := do_at ⟨3, rB j, em, zs n, 0⟩ (some ⟨w3.heap.size, 0, none⟩) n (HA1.out.below ((Below.refl _ w3).alloc (Nat.le_refl _) (.cells (madeCells #[.int .u8 0] n) 5))) (by omega) (rd_zs w3 n hn) (by show (zs n).length ≤ _; omega)
      rw [c3, hs2] at hd2
      simp only [opV, hzl] at hd2
      have HD2 := Lib.hid hd2
      clear hd2
      refine HD2.out.mono ?_
      rintro e w4 ⟨rfl, ha, hb⟩
      have HA2 := Lib.hid ha
      have HB2 := Lib.hid (HB1.out.trans ((Below.alloc (Below.refl _ w3) HB1.out.size _).trans hb))
      clear ha hb
      have hst := stat_at (rB j) HA2.out
      rw [rm_stat c4 (by omega) (by omega)] at hst
      simp only [if_true] at hst
      have HST := Lib.hid hst
      clear hst
      go_wp2_with fail
      refine HST.out.mono ?_
      rintro e w5 ⟨rfl, ha, hb⟩
      have HA3 := Lib.hid ha
      have HB3 := Lib.hid (HB2.out.trans (hb.mono HB2.out.size))
      clear ha hb
      go_wp2
      refine ⟨⟨j + 1, fun i => if i = j then n else z i, s2, bl + (j + 7) / 8 - (j + 1 + 7) / 8 - allB n, by go_num, by omega, Lib.hid ⟨?_, ?_, ?_, ?_, ?_, ?_⟩⟩, ?_⟩
      · rw [show 99 - (j + 1) = 98 - j by omega]; exact c4
      · have e1 : sumB (fun i => if i = j then n else z i) j = sumB z j := sumB_congr j fun i hi => if_neg (by omega)
        have e2 : sumB (fun i => if i = j then n else z i) (j + 1) = sumB (fun i => if i = j then n else z i) j + allB (if j = j then n else z j) := rfl
        have e3 : allB n ≤ 8 := by rw [allB_small (by omega)]; omega
        rw [e2, e1, if_pos rfl]
        omega
      · intro i hi
        show (if i = j then n else z i) = 0
        rw [if_neg (by omega)]
        exact HREL.out.zero i (by omega)
      · intro i
        show (if i = j then n else z i) ≤ 4095
        split
        · exact hn
        · exact HREL.out.small i
      · exact (HA3.out.below ((Below.refl _ w5).alloc (Nat.le_refl _) _)).mono (by omega)
      · exact HB3.out.alloc HB3.out.size _
      · simp [intOf]; omega
    · have i2 : ¬ (j : Int) < (l.length : Int) := by omega
      have hjl : j = l.length := by omega
      subst hjl
      go_wp2_with fail
      go_loopw [12] (fun k wr => ∃ (j : Nat) (s : S) (sl bl : Nat), k = .int .i64 j ∧ j ≤ l.length ∧ Hid (Rel2 q w1 tb' z l.length s sl bl j wr)) (fun k _ => l.length - (intOf k).toNat)
      case atStart =>
        refine ⟨0, s, _, bl, rfl, by omega, Lib.hid ⟨HREL.out.rm, ?_, HREL.out.att, HREL.out.low⟩⟩
        have := HREL.out.sum
        show bl + (l.length + 7) / 8 + sumB z l.length = 1000 + 0
        omega
      case round =>
        clear HREL
        obtain ⟨j, s, sl, bl, rfl, hj, HREL⟩ := hrel
        by_cases hlt : j < l.length
        · have i3 : (j : Int) < (l.length : Int) := by omega
          have hcv := text1 wr (UInt8.ofNat (97 + j)) (97 + (j : Int)) (by rw [u8_of _ (by omega)]; omega)
          obtain ⟨T, hT⟩ : ∃ T, (⟨#[UInt8.ofNat (97 + j)]⟩ : ByteArray) = T := ⟨_, rfl⟩
          have hTs : T.size = 1 := by rw [← hT]; rfl
          have hP2 : (⟨#[47, 102]⟩ : ByteArray).size = 2 := rfl
          rw [hT] at hcv
          have hcat : (⟨#[47, 102]⟩ : ByteArray) ++ T = rB j := by rw [← hT]; exact rB_cat ⟨j, by omega⟩
          obtain ⟨c1, c2⟩ := room_take HREL.out.rm hlt h1
          obtain ⟨s1, hs1⟩ : ∃ s1, doS s ⟨5, rB j, em, [], 0⟩ = s1 := ⟨_, rfl⟩
          rw [hs1] at c2
          have hd1 := do_at ⟨5, rB j, em, [], 0⟩ none 0 (HREL.out.att.below ((Below.refl _ wr).alloc (Nat.le_refl _) (.cells #[.int .u8 (97 + (j : Int))] 5))) (by omega) (RdB.nil _ _) (by simp)
          rw [c1, hs1] at hd1
          have HD1 := Lib.hid hd1
          clear hd1
          go_wp2_with fail
          refine HD1.out.mono ?_
          rintro e w3 ⟨rfl, ha, hb⟩
          have HA1 := Lib.hid ha
          have HB1 := Lib.hid (HREL.out.low.trans ((Below.alloc (Below.refl _ wr) HREL.out.low.size _).trans hb))
          clear ha hb
          go_wp2
          refine ⟨⟨j + 1, s1, sl, bl + allB (z j), by go_num, by omega, Lib.hid ⟨?_, ?_, HA1.out, HB1.out⟩⟩, ?_⟩
          · exact c2
          · have e2 : sumB z (j + 1) = sumB z j + allB (z j) := rfl
            have := HREL.out.sum
            rw [e2]
            omega
          · simp [intOf]; omega
        · have i3 : ¬ (j : Int) < (l.length : Int) := by omega
          have hjl : j = l.length := by omega
          subst hjl
          have hfr := free_at HREL.out.att
          rw [HREL.out.rm.blocks, HREL.out.rm.inodes] at hfr
          have hbl : ((bl : Nat) : Int) = 1000 - ((l.length : Int) + 7) / 8 := by have := HREL.out.sum; omega
          have hin : ((99 - l.length + l.length : Nat) : Int) = 99 := by omega
          rw [hbl, hin] at hfr
          have HFR := Lib.hid hfr
          clear hbl hin
          clear hfr
          go_wp2_with fail
          refine HFR.out.mono ?_
          rintro e w3 ⟨rfl, ha, hb⟩
          have HA1 := Lib.hid ha
          have HB1 := Lib.hid (HREL.out.low.trans (hb.mono HREL.out.low.size))
          clear ha hb
          go_wp2
          go_ret
          exact ⟨rfl, bt HB0.out HB1.out⟩
theorem room_walk (A : Option Addr) (c : Nat) (l : List Int) (q : Int) (W0 : World) (hq : W0.cell? ⟨0, 0, none⟩ = some (.int .i64 q)) (hl : RdI W0 A l) : Calls Tryd.prog 5 #[.slice A l.length c] W0 fun e w' => e = .returned (.bool true) ∧ Below W0.heap.size W0 w' := by
  by_cases h : l.length ≤ 30
  · exact room_few A c l q W0 hq hl h
  · exact room_long A c l.length q W0 hq (by omega)
end Go.Proofs.YtpdcjdangnfeiaaDoor.Vm
