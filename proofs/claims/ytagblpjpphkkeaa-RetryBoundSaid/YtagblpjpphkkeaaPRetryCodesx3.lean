-- PRINTED BY print.sh 35421559b90ae4d0a3588c463048766b98c2df88dd9212a6774a882060cdf62d: not written by this session
import Derived.Test.YtagblpjpphkkeaaPRetryCodesx0
import Derived.Test.YtagblpjpphkkeaaPRetryCodesx2
namespace Go.Proofs.Ytagblpjpphkkeaa.PRetryCodes
open Go.RowKit Go.Proofs.YtagblpjpphkkeaaW.PrintWords Go.Proofs.YtagblpjpphkkeaaW.PrintLast Go.Proofs.YtagblpjpphkkeaaW.PrintMore
attribute [local go_sem] max2_int min2_int max_two min_two max_three min_three max_four min_four   -- for this text's walks alone
set_option linter.unusedVariables false
set_option linter.unusedSimpArgs false

/-! ### retry_Done: function 17 -/
def retry_Done.f (l0_0 : List Int) (a0_1 : Int) (a1_0 : ByteArray) (a1_1 : ByteArray) (a1_2 : Int) (a1_3 : Int) (a1_4 : Int) (a1_5 : Int) (a1_6 : ByteArray) (a2 : Int) (a3 : Int) (a4 : Int) (a5 : ByteArray) : Option (ByteArray × ByteArray × Int × Int × Int × Int × ByteArray) := (reply_Class.f a4).bind fun t113 => (if 0 ≤ (mn (a5.size : Int) 100) then (if (mn (a5.size : Int) 100) ≤ (a5.size : Int) then (if t113 = 0 then ((retry_Next.f l0_0 a0_1 a2 (mn (wrap64 (a1_3 + 1)) 255) a3).bind fun bt114 => (if bt114.2 = true then (some (a1_0, a1_1, a1_2, mn (wrap64 (a1_3 + 1)) 255, mn bt114.1 2147483647, 0, a5.extract 0 ((mn (a5.size : Int) 100) : Int).toNat)) else (some (a1_0, a1_1, 4, mn (wrap64 (a1_3 + 1)) 255, a1_4, 0, a5.extract 0 ((mn (a5.size : Int) 100) : Int).toNat)))) else (if t113 = 2 then (some (a1_0, a1_1, 3, mn (wrap64 (a1_3 + 1)) 255, a1_4, a4, a5.extract 0 ((mn (a5.size : Int) 100) : Int).toNat)) else (if t113 = 5 then (some (a1_0, a1_1, 4, mn (wrap64 (a1_3 + 1)) 255, a1_4, a4, a5.extract 0 ((mn (a5.size : Int) 100) : Int).toNat)) else ((retry_Next.f l0_0 a0_1 a2 (mn (wrap64 (a1_3 + 1)) 255) a3).bind fun bt116 => (if bt116.2 = true then (some (a1_0, a1_1, a1_2, mn (wrap64 (a1_3 + 1)) 255, mn bt116.1 2147483647, a4, a5.extract 0 ((mn (a5.size : Int) 100) : Int).toNat)) else (some (a1_0, a1_1, 4, mn (wrap64 (a1_3 + 1)) 255, a1_4, a4, a5.extract 0 ((mn (a5.size : Int) 100) : Int).toNat))))))) else (none)) else (none))
def retry_Done.T3 : Bool × List (List Nat × List Nat) := (true, [([], []), ([], []), ([], []), ([2], [2]), ([3], [3]), ([1, 4], [1, 4]), ([0], []), ([6, 0, 0], [0, 6]), ([0, 1, 2, 3, 4, 5, 6, 7], []), ([8, 5, 7, 0, 1, 2, 3, 4, 5, 6, 7], [5, 8])])
def retry_Done.B3 : List Nat := [0, 0, 0, 4, 12, 30, 1, 65, 255, 511]
theorem retry_Done.tab3 : rtab .any (opsOf Try.f17 3) = retry_Done.T3 := by kernel_rfl
theorem retry_Done.bits3 : waitsOk retry_Done.T3.2 retry_Done.B3 = true := by kernel_rfl
set_option maxHeartbeats 8000000 in
set_option maxRecDepth 100000 in
theorem retry_Done.calls (A0_0 : Option Addr) (c0_0 : Nat) (l0_0 : List Int) (a0_1 : Int) (a1_0 : ByteArray) (a1_1 : ByteArray) (a1_2 : Int) (a1_3 : Int) (a1_4 : Int) (a1_5 : Int) (a1_6 : ByteArray) (a2 : Int) (a3 : Int) (a4 : Int) (a5 : ByteArray) (r1 : ByteArray) (r2 : ByteArray) (r3 : Int) (r4 : Int) (r5 : Int) (r6 : Int) (r7 : ByteArray) (w : World) (hr0_0 : Kd.C (Kd.int .i64) w A0_0 l0_0.length l0_0) (hc0_0 : l0_0.length ≤ c0_0) (h : retry_Done.f l0_0 a0_1 a1_0 a1_1 a1_2 a1_3 a1_4 a1_5 a1_6 a2 a3 a4 a5 = some (r1, r2, r3, r4, r5, r6, r7)) :
    Calls Try.prog 17 #[.agg #[.slice A0_0 l0_0.length c0_0, .int .i64 a0_1], .agg #[.string a1_0, .string a1_1, .int .i64 a1_2, .int .i64 a1_3, .int .i64 a1_4, .int .i64 a1_5, .string a1_6], .int .i64 a2, .int .i64 a3, .int .i64 a4, .string a5] w fun e w' => e = .returned (.agg #[.string r1, .string r2, .int .i64 r3, .int .i64 r4, .int .i64 r5, .int .i64 r6, .string r7]) ∧ Below w.heap.size w w' := by
  have hu24 := Try.underlying24
  have hu40 := Try.underlying40
  have HR0_0 := Aside0.mk hr0_0
  have HC0_0 := Aside0.mk hc0_0
  clear hr0_0 hc0_0
  have HB := Aside0.mk (Below.refl w.heap.size w)
  have H : ((reply_Class.f a4).bind fun t113 => (if 0 ≤ (mn (a5.size : Int) 100) then (if (mn (a5.size : Int) 100) ≤ (a5.size : Int) then (if t113 = 0 then ((retry_Next.f l0_0 a0_1 a2 (mn (wrap64 (a1_3 + 1)) 255) a3).bind fun bt114 => (if bt114.2 = true then (some (a1_0, a1_1, a1_2, mn (wrap64 (a1_3 + 1)) 255, mn bt114.1 2147483647, 0, a5.extract 0 ((mn (a5.size : Int) 100) : Int).toNat)) else (some (a1_0, a1_1, 4, mn (wrap64 (a1_3 + 1)) 255, a1_4, 0, a5.extract 0 ((mn (a5.size : Int) 100) : Int).toNat)))) else (if t113 = 2 then (some (a1_0, a1_1, 3, mn (wrap64 (a1_3 + 1)) 255, a1_4, a4, a5.extract 0 ((mn (a5.size : Int) 100) : Int).toNat)) else (if t113 = 5 then (some (a1_0, a1_1, 4, mn (wrap64 (a1_3 + 1)) 255, a1_4, a4, a5.extract 0 ((mn (a5.size : Int) 100) : Int).toNat)) else ((retry_Next.f l0_0 a0_1 a2 (mn (wrap64 (a1_3 + 1)) 255) a3).bind fun bt116 => (if bt116.2 = true then (some (a1_0, a1_1, a1_2, mn (wrap64 (a1_3 + 1)) 255, mn bt116.1 2147483647, a4, a5.extract 0 ((mn (a5.size : Int) 100) : Int).toNat)) else (some (a1_0, a1_1, 4, mn (wrap64 (a1_3 + 1)) 255, a1_4, a4, a5.extract 0 ((mn (a5.size : Int) 100) : Int).toNat))))))) else (none)) else (none))) = some (r1, r2, r3, r4, r5, r6, r7) := h
  clear h
  replace H := Option.bind_eq_some_iff.mp H
  obtain ⟨t113, A70, H⟩ := H
  replace H : (if 0 ≤ (mn (a5.size : Int) 100) then (if (mn (a5.size : Int) 100) ≤ (a5.size : Int) then (if t113 = 0 then ((retry_Next.f l0_0 a0_1 a2 (mn (wrap64 (a1_3 + 1)) 255) a3).bind fun bt114 => (if bt114.2 = true then (some (a1_0, a1_1, a1_2, mn (wrap64 (a1_3 + 1)) 255, mn bt114.1 2147483647, 0, a5.extract 0 ((mn (a5.size : Int) 100) : Int).toNat)) else (some (a1_0, a1_1, 4, mn (wrap64 (a1_3 + 1)) 255, a1_4, 0, a5.extract 0 ((mn (a5.size : Int) 100) : Int).toNat)))) else (if t113 = 2 then (some (a1_0, a1_1, 3, mn (wrap64 (a1_3 + 1)) 255, a1_4, a4, a5.extract 0 ((mn (a5.size : Int) 100) : Int).toNat)) else (if t113 = 5 then (some (a1_0, a1_1, 4, mn (wrap64 (a1_3 + 1)) 255, a1_4, a4, a5.extract 0 ((mn (a5.size : Int) 100) : Int).toNat)) else ((retry_Next.f l0_0 a0_1 a2 (mn (wrap64 (a1_3 + 1)) 255) a3).bind fun bt116 => (if bt116.2 = true then (some (a1_0, a1_1, a1_2, mn (wrap64 (a1_3 + 1)) 255, mn bt116.1 2147483647, a4, a5.extract 0 ((mn (a5.size : Int) 100) : Int).toNat)) else (some (a1_0, a1_1, 4, mn (wrap64 (a1_3 + 1)) 255, a1_4, a4, a5.extract 0 ((mn (a5.size : Int) 100) : Int).toNat))))))) else (none)) else (none)) = some (r1, r2, r3, r4, r5, r6, r7) := H
  have A7 := Aside0.mk A70
  clear A70
  obtain ⟨ji8, hji8⟩ : ∃ j_ : Int, (mn (wrap64 (a1_3 + 1)) 255) = j_ := ⟨_, rfl⟩
  replace H : (if 0 ≤ (mn (a5.size : Int) 100) then (if (mn (a5.size : Int) 100) ≤ (a5.size : Int) then (if t113 = 0 then ((retry_Next.f l0_0 a0_1 a2 (ji8) a3).bind fun bt114 => (if bt114.2 = true then (some (a1_0, a1_1, a1_2, ji8, mn bt114.1 2147483647, 0, a5.extract 0 ((mn (a5.size : Int) 100) : Int).toNat)) else (some (a1_0, a1_1, 4, ji8, a1_4, 0, a5.extract 0 ((mn (a5.size : Int) 100) : Int).toNat)))) else (if t113 = 2 then (some (a1_0, a1_1, 3, ji8, a1_4, a4, a5.extract 0 ((mn (a5.size : Int) 100) : Int).toNat)) else (if t113 = 5 then (some (a1_0, a1_1, 4, ji8, a1_4, a4, a5.extract 0 ((mn (a5.size : Int) 100) : Int).toNat)) else ((retry_Next.f l0_0 a0_1 a2 (ji8) a3).bind fun bt116 => (if bt116.2 = true then (some (a1_0, a1_1, a1_2, ji8, mn bt116.1 2147483647, a4, a5.extract 0 ((mn (a5.size : Int) 100) : Int).toNat)) else (some (a1_0, a1_1, 4, ji8, a1_4, a4, a5.extract 0 ((mn (a5.size : Int) 100) : Int).toNat))))))) else (none)) else (none)) = some (r1, r2, r3, r4, r5, r6, r7) := by first | (rw [hji8] at H; exact H) | (simp only [hji8] at H ⊢; exact H)
  (try rw [hji8] at A7)
  (try (have hji8h : ji8 ≤ 255 := by (rw [← hji8]; unfold mn; (repeat' split) <;> omega)))
  (try (have hji8g : ji8 ≤ 64 := by omega))
  have hji8_ : (if 255 < (wrap64 (a1_3 + 1)) then 255 else (wrap64 (a1_3 + 1))) = ji8 := hji8
  obtain ⟨ji9, hji9⟩ : ∃ j_ : Int, (mn (a5.size : Int) 100) = j_ := ⟨_, rfl⟩
  replace H : (if 0 ≤ (ji9) then (if (ji9) ≤ (a5.size : Int) then (if t113 = 0 then ((retry_Next.f l0_0 a0_1 a2 (ji8) a3).bind fun bt114 => (if bt114.2 = true then (some (a1_0, a1_1, a1_2, ji8, mn bt114.1 2147483647, 0, a5.extract 0 ((ji9) : Int).toNat)) else (some (a1_0, a1_1, 4, ji8, a1_4, 0, a5.extract 0 ((ji9) : Int).toNat)))) else (if t113 = 2 then (some (a1_0, a1_1, 3, ji8, a1_4, a4, a5.extract 0 ((ji9) : Int).toNat)) else (if t113 = 5 then (some (a1_0, a1_1, 4, ji8, a1_4, a4, a5.extract 0 ((ji9) : Int).toNat)) else ((retry_Next.f l0_0 a0_1 a2 (ji8) a3).bind fun bt116 => (if bt116.2 = true then (some (a1_0, a1_1, a1_2, ji8, mn bt116.1 2147483647, a4, a5.extract 0 ((ji9) : Int).toNat)) else (some (a1_0, a1_1, 4, ji8, a1_4, a4, a5.extract 0 ((ji9) : Int).toNat))))))) else (none)) else (none)) = some (r1, r2, r3, r4, r5, r6, r7) := by first | (rw [hji9] at H; exact H) | (simp only [hji9] at H ⊢; exact H)
  (try rw [hji9] at A7)
  (try (have hji9h : ji9 ≤ 100 := by (rw [← hji9]; unfold mn; (repeat' split) <;> omega)))
  (try (have hji9g : ji9 ≤ 64 := by omega))
  (try (have hji9l : 0 ≤ ji9 := by (rw [← hji9]; unfold mn; (repeat' split) <;> omega)))
  (try (have hji9m : 0 ≤ ji9 := by omega))
  have hji9_ : (if 100 < (a5.size : Int) then 100 else (a5.size : Int)) = ji9 := hji9
  by_cases c10 : 0 ≤ (ji9)
  · rw [if_pos c10] at H
    have c10b0 := eq_true c10
    have c10b1 : decide (0 ≤ (ji9)) = true := decide_eq_true c10
    clear c10
    by_cases c11 : (ji9) ≤ (a5.size : Int)
    · rw [if_pos c11] at H
      have c11b0 := eq_true c11
      have c11b1 : decide ((ji9) ≤ (a5.size : Int)) = true := decide_eq_true c11
      clear c11
      by_cases c12 : t113 = 0
      · rw [if_pos c12] at H
        have c12b0 : (t113 == 0) = true := beq_iff_eq.mpr c12
        have c12b1 : (t113 != 0) = false := bne_eq_false_iff_eq.mpr c12
        clear c12
        replace H := Option.bind_eq_some_iff.mp H
        obtain ⟨⟨t114, t115⟩, A130, H⟩ := H
        replace H : (if t115 = true then (some (a1_0, a1_1, a1_2, ji8, mn t114 2147483647, 0, a5.extract 0 ((ji9) : Int).toNat)) else (some (a1_0, a1_1, 4, ji8, a1_4, 0, a5.extract 0 ((ji9) : Int).toNat))) = some (r1, r2, r3, r4, r5, r6, r7) := H
        have A13 := Aside0.mk A130
        clear A130
        by_cases c14 : t115 = true
        · subst c14
          have H1 : (some (a1_0, a1_1, a1_2, ji8, mn t114 2147483647, 0, a5.extract 0 ((ji9) : Int).toNat)) = some (r1, r2, r3, r4, r5, r6, r7) := by rw [if_pos rfl] at H; exact H
          clear H
          have H := H1
          clear H1
          obtain ⟨ji15, hji15⟩ : ∃ j_ : Int, (mn t114 2147483647) = j_ := ⟨_, rfl⟩
          replace H : (some (a1_0, a1_1, a1_2, ji8, ji15, 0, a5.extract 0 ((ji9) : Int).toNat)) = some (r1, r2, r3, r4, r5, r6, r7) := by first | (rw [hji15] at H; exact H) | (simp only [hji15] at H ⊢; exact H)
          (try rw [hji15] at A7)
          (try rw [hji15] at A13)
          (try (have hji15h : ji15 ≤ 2147483647 := by (rw [← hji15]; unfold mn; (repeat' split) <;> omega)))
          (try (have hji15g : ji15 ≤ 64 := by omega))
          have hji15_ : (if 2147483647 < t114 then 2147483647 else t114) = ji15 := hji15
          simp only [Option.some.injEq, Prod.mk.injEq] at H
          obtain ⟨rfl, rfl, rfl, rfl, rfl, rfl, rfl⟩ := H
          go_enter Try.func17, Try.ntmps17
          try go_wp2_with (first | ((with_reducible refine gate_dst (N := 6) rfl ?_); refine box_event ?hg (N := 6) ?hd (cs := #[.slice A0_0 l0_0.length c0_0, .int .i64 a0_1]) (t := 24) ?hr ?_; (case hd => rfl); (case hg => rfl); (case hr => first | (go_simp; done) | (go_simp; rfl)); intro gb110 hg w16 hbox hb; have n0_ := Aside0.mk (below_step (by repeat (first | (with_reducible first | exact HB.out | apply below_alloc | apply pw_below_drewN | apply below_drew1) | exact HB.out)) hb); have n1_ := Aside0.mk (hbox); have n2_ := Aside0.mk ((by rw [hg]; exact (below_size (by repeat (first | (with_reducible first | exact HB.out | apply below_alloc | apply pw_below_drewN | apply below_drew1) | exact HB.out))) : w.heap.size ≤ gb110)); have n3_ := Aside0.mk ((by rw [hg]; exact (below_size (by repeat (first | (with_reducible first | exact HB.out | apply below_alloc | apply pw_below_drewN | apply below_drew1) | exact HB.out))) : w.heap.size ≤ gb110)); clear HB; have HB := n0_; have BK110 := n1_; have GW110 := n2_; have GE110 := n3_; clear n0_ n1_ n2_ n3_; clear hb hbox hg) | ((with_reducible refine gate_dst (N := 7) rfl ?_); refine box_event ?hg (N := 7) ?hd (cs := #[.string a1_0, .string a1_1, .int .i64 a1_2, .int .i64 a1_3, .int .i64 a1_4, .int .i64 a1_5, .string a1_6]) (t := 40) ?hr ?_; (case hd => rfl); (case hg => rfl); (case hr => first | (go_simp; done) | (go_simp; rfl)); intro gb111 hg w17 hbox hb; have n0_ := Aside0.mk (blk_below (g := gb110) (o := .cells #[.slice A0_0 l0_0.length c0_0, .int .i64 a0_1] 24 (0, 0)) (by (with_reducible repeat (first | refine blk_drewN ?_ _ | refine blk_drew ?_ | refine blk_alloc ?_ _)); exact BK110.out) hb); have n1_ := Aside0.mk (below_step (by repeat (first | (with_reducible first | exact HB.out | apply below_alloc | apply pw_below_drewN | apply below_drew1 | refine below_set ?_ GE110.out) | exact HB.out)) hb); have n2_ := Aside0.mk (hbox); have n3_ := Aside0.mk ((by rw [hg]; exact (below_size (by repeat (first | (with_reducible first | exact HB.out | apply below_alloc | apply pw_below_drewN | apply below_drew1 | refine below_set ?_ GE110.out) | exact HB.out))) : w.heap.size ≤ gb111)); have n4_ := Aside0.mk ((by rw [hg]; exact (below_size (by repeat (first | (with_reducible first | exact HB.out | apply below_alloc | apply pw_below_drewN | apply below_drew1 | refine below_set ?_ GE110.out) | exact HB.out))) : w.heap.size ≤ gb111)); have n5_ := Aside0.mk ((by rw [hg]; exact Nat.ne_of_lt (blk_lt (g := gb110) (o := .cells #[.slice A0_0 l0_0.length c0_0, .int .i64 a0_1] 24 (0, 0)) (by (with_reducible repeat (first | refine blk_drewN ?_ _ | refine blk_drew ?_ | refine blk_alloc ?_ _)); exact BK110.out)) : gb110 ≠ gb111)); have n6_ := Aside0.mk ((by rw [hg]; exact Nat.ne_of_gt (blk_lt (g := gb110) (o := .cells #[.slice A0_0 l0_0.length c0_0, .int .i64 a0_1] 24 (0, 0)) (by (with_reducible repeat (first | refine blk_drewN ?_ _ | refine blk_drew ?_ | refine blk_alloc ?_ _)); exact BK110.out)) : gb111 ≠ gb110)); clear BK110; clear HB; have BK110 := n0_; have HB := n1_; have BK111 := n2_; have GW111 := n3_; have GE111 := n4_; have NB110_111 := n5_; have NB111_110 := n6_; clear n0_ n1_ n2_ n3_ n4_ n5_ n6_; clear hb hbox hg) | ((with_reducible refine gate_dst (N := 12) rfl ?_); refine box_event ?hg (N := 12) ?hd (cs := #[.string (⟨#[]⟩ : ByteArray), .string (⟨#[]⟩ : ByteArray), .int .i64 0, .int .i64 0, .int .i64 0, .int .i64 0, .string (⟨#[]⟩ : ByteArray)]) (t := 40) ?hr ?_; (case hd => rfl); (case hg => rfl); (case hr => first | (go_simp; done) | (go_simp; rfl)); intro gb112 hg w18 hbox hb; have n0_ := Aside0.mk (blk_below (g := gb110) (o := .cells #[.slice A0_0 l0_0.length c0_0, .int .i64 a0_1] 24 (0, 0)) (by (with_reducible repeat (first | refine blk_drewN ?_ _ | refine blk_drew ?_ | refine blk_alloc ?_ _)); exact BK110.out) hb); have n1_ := Aside0.mk (blk_below (g := gb111) (o := .cells #[.string a1_0, .string a1_1, .int .i64 a1_2, .int .i64 a1_3, .int .i64 a1_4, .int .i64 a1_5, .string a1_6] 40 (0, 0)) (by (with_reducible repeat (first | refine blk_drewN ?_ _ | refine blk_drew ?_ | refine blk_alloc ?_ _)); exact BK111.out) hb); have n2_ := Aside0.mk (below_step (by repeat (first | (with_reducible first | exact HB.out | apply below_alloc | apply pw_below_drewN | apply below_drew1 | refine below_set ?_ GE110.out | refine below_set ?_ GE111.out) | exact HB.out)) hb); have n3_ := Aside0.mk (hbox); have n4_ := Aside0.mk ((by rw [hg]; exact (below_size (by repeat (first | (with_reducible first | exact HB.out | apply below_alloc | apply pw_below_drewN | apply below_drew1 | refine below_set ?_ GE110.out | refine below_set ?_ GE111.out) | exact HB.out))) : w.heap.size ≤ gb112)); have n5_ := Aside0.mk ((by rw [hg]; exact (below_size (by repeat (first | (with_reducible first | exact HB.out | apply below_alloc | apply pw_below_drewN | apply below_drew1 | refine below_set ?_ GE110.out | refine below_set ?_ GE111.out) | exact HB.out))) : w.heap.size ≤ gb112)); have n6_ := Aside0.mk ((by rw [hg]; exact Nat.ne_of_lt (blk_lt (g := gb110) (o := .cells #[.slice A0_0 l0_0.length c0_0, .int .i64 a0_1] 24 (0, 0)) (by (with_reducible repeat (first | refine blk_drewN ?_ _ | refine blk_drew ?_ | refine blk_alloc ?_ _)); exact BK110.out)) : gb110 ≠ gb112)); have n7_ := Aside0.mk ((by rw [hg]; exact Nat.ne_of_gt (blk_lt (g := gb110) (o := .cells #[.slice A0_0 l0_0.length c0_0, .int .i64 a0_1] 24 (0, 0)) (by (with_reducible repeat (first | refine blk_drewN ?_ _ | refine blk_drew ?_ | refine blk_alloc ?_ _)); exact BK110.out)) : gb112 ≠ gb110)); have n8_ := Aside0.mk ((by rw [hg]; exact Nat.ne_of_lt (blk_lt (g := gb111) (o := .cells #[.string a1_0, .string a1_1, .int .i64 a1_2, .int .i64 a1_3, .int .i64 a1_4, .int .i64 a1_5, .string a1_6] 40 (0, 0)) (by (with_reducible repeat (first | refine blk_drewN ?_ _ | refine blk_drew ?_ | refine blk_alloc ?_ _)); exact BK111.out)) : gb111 ≠ gb112)); have n9_ := Aside0.mk ((by rw [hg]; exact Nat.ne_of_gt (blk_lt (g := gb111) (o := .cells #[.string a1_0, .string a1_1, .int .i64 a1_2, .int .i64 a1_3, .int .i64 a1_4, .int .i64 a1_5, .string a1_6] 40 (0, 0)) (by (with_reducible repeat (first | refine blk_drewN ?_ _ | refine blk_drew ?_ | refine blk_alloc ?_ _)); exact BK111.out)) : gb112 ≠ gb111)); clear BK110; clear BK111; clear HB; have BK110 := n0_; have BK111 := n1_; have HB := n2_; have BK112 := n3_; have GW112 := n4_; have GE112 := n5_; have NB110_112 := n6_; have NB112_110 := n7_; have NB111_112 := n8_; have NB112_111 := n9_; clear n0_ n1_ n2_ n3_ n4_ n5_ n6_ n7_ n8_ n9_; clear hb hbox hg) | ((with_reducible refine gate_callee (f := 22) rfl ?_); refine goesL_ (some 17) rfl rfl Try.func22 (by kernel_rfl) rfl #[.int .i64 a4] rfl (by (try simp only [List.map_toArray, List.map_cons, List.map_nil]); first | done | rfl | (simp only [List.length_drop, List.length_take]; rfl)) ?_; (with_reducible refine (reply_Class.calls a4 t113 _ A7.out).mono ?_); rintro e w' ⟨rfl, ⟨nd, rfl⟩⟩; refine ⟨_, rfl, ?_⟩; (try (rw [drewN_self w18]; generalize hq_ : World.drewN w18 _ = w18; have n0_ : Aside0 (w18.heap[gb110]? = some (.cells #[.slice A0_0 l0_0.length c0_0, .int .i64 a0_1] 24 (0, 0))) := ⟨by rw [← hq_]; exact (by (with_reducible repeat (first | refine blk_drewN ?_ _ | refine blk_drew ?_ | refine blk_alloc ?_ _)); exact BK110.out)⟩; have n1_ : Aside0 (w18.heap[gb111]? = some (.cells #[.string a1_0, .string a1_1, .int .i64 a1_2, .int .i64 a1_3, .int .i64 a1_4, .int .i64 a1_5, .string a1_6] 40 (0, 0))) := ⟨by rw [← hq_]; exact (by (with_reducible repeat (first | refine blk_drewN ?_ _ | refine blk_drew ?_ | refine blk_alloc ?_ _)); exact BK111.out)⟩; have n2_ : Aside0 (w18.heap[gb112]? = some (.cells #[.string (⟨#[]⟩ : ByteArray), .string (⟨#[]⟩ : ByteArray), .int .i64 0, .int .i64 0, .int .i64 0, .int .i64 0, .string (⟨#[]⟩ : ByteArray)] 40 (0, 0))) := ⟨by rw [← hq_]; exact (by (with_reducible repeat (first | refine blk_drewN ?_ _ | refine blk_drew ?_ | refine blk_alloc ?_ _)); exact BK112.out)⟩; have n3_ : Aside0 (Below w.heap.size w w18) := ⟨by rw [← hq_]; exact (by repeat (first | (with_reducible first | exact HB.out | apply below_alloc | apply pw_below_drewN | apply below_drew1 | refine below_set ?_ GE110.out | refine below_set ?_ GE111.out | refine below_set ?_ GE112.out) | exact HB.out))⟩; clear BK110 BK111 BK112 HB hq_; have BK110 := n0_; have BK111 := n1_; have BK112 := n2_; have HB := n3_; clear n0_ n1_ n2_ n3_)); have hnb19 := NB111_110.out; have hnc19 := NB110_111.out; have hnb20 := NB111_112.out; have hnc20 := NB112_111.out; have hcz21_0 : w18.cell? ⟨gb111, 0, none⟩ = some (.string a1_0) := (blk_cell BK111.out 0).trans rfl; have hcz21_1 : w18.cell? ⟨gb111, 1, none⟩ = some (.string a1_1) := (blk_cell BK111.out 1).trans rfl; have hcz21_2 : w18.cell? ⟨gb111, 2, none⟩ = some (.int .i64 a1_2) := (blk_cell BK111.out 2).trans rfl; have hcz21_3 : w18.cell? ⟨gb111, 3, none⟩ = some (.int .i64 a1_3) := (blk_cell BK111.out 3).trans rfl; have hcz21_4 : w18.cell? ⟨gb111, 4, none⟩ = some (.int .i64 a1_4) := (blk_cell BK111.out 4).trans rfl; have hcz21_5 : w18.cell? ⟨gb111, 5, none⟩ = some (.int .i64 a1_5) := (blk_cell BK111.out 5).trans rfl; have hcz21_6 : w18.cell? ⟨gb111, 6, none⟩ = some (.string a1_6) := (blk_cell BK111.out 6).trans rfl; have hfz21_0 := blk_frozen BK111.out 0; have hfz21_1 := blk_frozen BK111.out 1; have hfz21_2 := blk_frozen BK111.out 2; have hfz21_3 := blk_frozen BK111.out 3; have hfz21_4 := blk_frozen BK111.out 4; have hfz21_5 := blk_frozen BK111.out 5; have hfz21_6 := blk_frozen BK111.out 6))
          have n0_ : Aside0 ((w18.setCell ⟨gb111, 3, none⟩ (.int .i64 ji8)).heap[gb110]? = some (.cells #[.slice A0_0 l0_0.length c0_0, .int .i64 a0_1] 24 (0, 0))) := ⟨by (with_reducible repeat (first | refine blk_drewN ?_ _ | refine blk_drew ?_ | refine blk_alloc ?_ _)); refine blk_far ?_ NB110_111.out _; (with_reducible repeat (first | refine blk_drewN ?_ _ | refine blk_drew ?_ | refine blk_alloc ?_ _)); exact BK110.out⟩
          have n1_ : Aside0 ((w18.setCell ⟨gb111, 3, none⟩ (.int .i64 ji8)).heap[gb111]? = some (.cells #[.string a1_0, .string a1_1, .int .i64 a1_2, .int .i64 ji8, .int .i64 a1_4, .int .i64 a1_5, .string a1_6] 40 (0, 0))) := ⟨by (with_reducible repeat (first | refine blk_drewN ?_ _ | refine blk_drew ?_ | refine blk_alloc ?_ _)); refine blk_put (cs := #[.string a1_0, .string a1_1, .int .i64 a1_2, .int .i64 a1_3, .int .i64 a1_4, .int .i64 a1_5, .string a1_6]) ?_ 3 _ rfl; (with_reducible repeat (first | refine blk_drewN ?_ _ | refine blk_drew ?_ | refine blk_alloc ?_ _)); exact BK111.out⟩
          have n2_ : Aside0 ((w18.setCell ⟨gb111, 3, none⟩ (.int .i64 ji8)).heap[gb112]? = some (.cells #[.string (⟨#[]⟩ : ByteArray), .string (⟨#[]⟩ : ByteArray), .int .i64 0, .int .i64 0, .int .i64 0, .int .i64 0, .string (⟨#[]⟩ : ByteArray)] 40 (0, 0))) := ⟨by (with_reducible repeat (first | refine blk_drewN ?_ _ | refine blk_drew ?_ | refine blk_alloc ?_ _)); refine blk_far ?_ NB112_111.out _; (with_reducible repeat (first | refine blk_drewN ?_ _ | refine blk_drew ?_ | refine blk_alloc ?_ _)); exact BK112.out⟩
          have n3_ : Aside0 (Below w.heap.size w (w18.setCell ⟨gb111, 3, none⟩ (.int .i64 ji8))) := ⟨by repeat (first | (with_reducible first | exact HB.out | apply below_alloc | apply pw_below_drewN | apply below_drew1 | refine below_set ?_ GE110.out | refine below_set ?_ GE111.out | refine below_set ?_ GE112.out) | exact HB.out)⟩
          (try clear BK110)
          (try clear BK111)
          (try clear BK112)
          (try clear HB)
          generalize (w18.setCell ⟨gb111, 3, none⟩ (.int .i64 ji8)) = w22 at n0_ n1_ n2_ n3_ ⊢
          have BK110 := n0_
          have BK111 := n1_
          have BK112 := n2_
          have HB := n3_
          clear n0_ n1_ n2_ n3_
          have n0_ := Aside0.mk (blk_drew BK110.out)
          have n1_ := Aside0.mk (blk_drew BK111.out)
          have n2_ := Aside0.mk (blk_drew BK112.out)
          have n3_ := Aside0.mk (below_drew1 HB.out)
          clear BK110
          clear BK111
          clear BK112
          clear HB
          have BK110 := n0_
          have BK111 := n1_
          have BK112 := n2_
          have HB := n3_
          clear n0_ n1_ n2_ n3_
          refine start_ (n := 10) (S := fun w' => True) (ds := []) #[false, false, false, false, false, false, false, false, false, false] (by kernel_rfl) rfl rfl trivial (fun hHeld => ?_); refine with_tabW retry_Done.tab3 retry_Done.bits3 (fun HT_ HW_ => ?_)
          generalize w22.drew = w23 at BK110 BK111 BK112 HB hHeld ⊢
          refine pure_ (i := 0) (N := some 23) (v := ?_) (a' := ?_) #[true, false, false, false, false, false, false, false, false, false] rfl rfl (any_of HT_.out (by kernel_rfl)) (fun _ _ _ h => h) (Or.inl ⟨by rfl, ?_⟩) ?_ ?_
          rotate_left
          · intro w'
            go_simp
            with_reducible rfl
          rotate_left
          · simp only [Act.put, List.setIfInBounds_toArray, List.set_cons_zero, List.set_cons_succ, i64_w, i32_w]
            rfl
          refine pure_ (i := 1) (N := some 24) (v := ?_) (a' := ?_) #[true, true, false, false, false, false, false, false, false, false] rfl rfl (any_of HT_.out (by kernel_rfl)) (fun _ _ _ h => h) (Or.inl ⟨by rfl, ?_⟩) ?_ ?_
          rotate_left
          · intro w'
            go_simp
            with_reducible rfl
          rotate_left
          · simp only [Act.put, List.setIfInBounds_toArray, List.set_cons_zero, List.set_cons_succ, i64_w, i32_w]
            rfl
          refine pure_ (i := 2) (N := some 25) (v := ?_) (a' := ?_) #[true, true, true, false, false, false, false, false, false, false] rfl rfl (any_of HT_.out (by kernel_rfl)) (fun _ _ _ h => h) (Or.inl ⟨by rfl, ?_⟩) ?_ ?_
          rotate_left
          · intro w'
            go_simp
            with_reducible rfl
          rotate_left
          · simp only [Act.put, List.setIfInBounds_toArray, List.set_cons_zero, List.set_cons_succ, i64_w, i32_w]
            rfl
          refine pure_ (i := 3) (N := some 26) (v := ?_) (a' := ?_) #[true, true, true, true, false, false, false, false, false, false] rfl rfl (any_of HT_.out (by kernel_rfl)) (fun _ _ _ h => h) (Or.inl ⟨by rfl, ?_⟩) ?_ ?_
          rotate_left
          · intro w'
            go_simp
            with_reducible rfl
          rotate_left
          · simp only [Act.put, List.setIfInBounds_toArray, List.set_cons_zero, List.set_cons_succ, i64_w, i32_w]
            rfl
          refine pure_ (i := 4) (N := some 27) (v := ?_) (a' := ?_) #[true, true, true, true, true, false, false, false, false, false] rfl rfl (any_of HT_.out (by kernel_rfl)) (fun _ _ _ h => h) (Or.inl ⟨by rfl, ?_⟩) ?_ ?_
          rotate_left
          · intro w'
            go_simp
            with_reducible rfl
          rotate_left
          · simp only [Act.put, List.setIfInBounds_toArray, List.set_cons_zero, List.set_cons_succ, i64_w, i32_w]
            rfl
          refine pure_ (i := 5) (N := some 28) (v := ?_) (a' := ?_) #[true, true, true, true, true, true, false, false, false, false] rfl rfl (any_of HT_.out (by kernel_rfl)) (fun _ _ _ h => h) (Or.inl ⟨by rfl, ?_⟩) ?_ ?_
          rotate_left
          · intro w'
            go_simp
            with_reducible rfl
          rotate_left
          · simp only [Act.put, List.setIfInBounds_toArray, List.set_cons_zero, List.set_cons_succ, i64_w, i32_w]
            rfl
          refine pure_ (i := 6) (N := some 29) (v := ?_) (a' := ?_) #[true, true, true, true, true, true, true, false, false, false] rfl rfl (any_of HT_.out (by kernel_rfl)) (fun _ _ _ h => h) (Or.inl ⟨by rfl, ?_⟩) ?_ ?_
          rotate_left
          · intro w'
            go_simp
            with_reducible rfl
          rotate_left
          · simp only [Act.put, List.setIfInBounds_toArray, List.set_cons_zero, List.set_cons_succ, i64_w, i32_w]
            rfl
          refine one_ (i := 7) (N := none) #[true, true, true, true, true, true, true, true, false, false] rfl rfl (one_of HT_.out (by kernel_rfl)) (by decide) (fun K hK => ?_)
          have hs24 : w23.cell? ⟨gb111, 5, none⟩ = some (.int .i64 a1_5) := (blk_cell BK111.out 5).trans rfl
          have hfs24 := blk_frozen BK111.out 5
          have hns24_0 := NB110_111.out
          have hns24_2 := NB112_111.out
          have hms24_0 := NB111_110.out
          have hms24_2 := NB111_112.out
          refine skip_ (w1 := ?_) (by rfl) rfl ?_ ?_
          rotate_left
          · go_simp
            rfl
          refine hK.out _ _ trivial (fun hHeld => ?_)
          clear hK K
          refine pure_ (i := 8) (N := some 30) (v := ?_) (a' := ?_) #[true, true, true, true, true, true, true, true, true, false] rfl rfl (any_of HT_.out (by kernel_rfl)) (fun _ _ _ h => h) (Or.inl ⟨by rfl, ?_⟩) ?_ ?_
          rotate_left
          · intro w'
            go_simp
            with_reducible rfl
          rotate_left
          · simp only [Act.put, List.setIfInBounds_toArray, List.set_cons_zero, List.set_cons_succ, i64_w, i32_w]
            rfl
          refine one_ (i := 9) (N := none) #[true, true, true, true, true, true, true, true, true, true] rfl rfl (one_of HT_.out (by kernel_rfl)) (by decide) (fun K hK => ?_)
          have hs25 : w23.cell? ⟨gb111, 6, none⟩ = some (.string a1_6) := (blk_cell BK111.out 6).trans rfl
          have hfs25 := blk_frozen BK111.out 6
          have hns25_0 := NB110_111.out
          have hns25_2 := NB112_111.out
          have hms25_0 := NB111_110.out
          have hms25_2 := NB111_112.out
          refine skip_ (w1 := ?_) (by rfl) rfl ?_ ?_
          rotate_left
          · go_simp
            rfl
          refine hK.out _ _ trivial (fun hHeld => ?_)
          clear hK K
          refine done_ (done_of HT_.out (by kernel_rfl)) ?_
          have hcz26_0 : w23.cell? ⟨gb111, 0, none⟩ = some (.string a1_0) := (blk_cell BK111.out 0).trans rfl
          have hcz26_1 : w23.cell? ⟨gb111, 1, none⟩ = some (.string a1_1) := (blk_cell BK111.out 1).trans rfl
          have hcz26_2 : w23.cell? ⟨gb111, 2, none⟩ = some (.int .i64 a1_2) := (blk_cell BK111.out 2).trans rfl
          have hcz26_3 : w23.cell? ⟨gb111, 3, none⟩ = some (.int .i64 ji8) := (blk_cell BK111.out 3).trans rfl
          have hcz26_4 : w23.cell? ⟨gb111, 4, none⟩ = some (.int .i64 a1_4) := (blk_cell BK111.out 4).trans rfl
          have hcz26_5 : w23.cell? ⟨gb111, 5, none⟩ = some (.int .i64 a1_5) := (blk_cell BK111.out 5).trans rfl
          have hcz26_6 : w23.cell? ⟨gb111, 6, none⟩ = some (.string a1_6) := (blk_cell BK111.out 6).trans rfl
          have hfz26_0 := blk_frozen BK111.out 0
          have hfz26_1 := blk_frozen BK111.out 1
          have hfz26_2 := blk_frozen BK111.out 2
          have hfz26_3 := blk_frozen BK111.out 3
          have hfz26_4 := blk_frozen BK111.out 4
          have hfz26_5 := blk_frozen BK111.out 5
          have hfz26_6 := blk_frozen BK111.out 6
          have hnb27 := NB110_112.out
          have hnc27 := NB112_110.out
          have hcz28_0 : w23.cell? ⟨gb110, 0, none⟩ = some (.slice A0_0 l0_0.length c0_0) := (blk_cell BK110.out 0).trans rfl
          have hcz28_1 : w23.cell? ⟨gb110, 1, none⟩ = some (.int .i64 a0_1) := (blk_cell BK110.out 1).trans rfl
          have hfz28_0 := blk_frozen BK110.out 0
          have hfz28_1 := blk_frozen BK110.out 1
          try go_wp2_with (first | ((with_reducible refine gate_callee (f := 12) rfl ?_); refine goesL_ (some 49) rfl rfl Try.func12 (by kernel_rfl) rfl #[.agg #[.slice A0_0 l0_0.length c0_0, .int .i64 a0_1], .int .i64 a2, .int .i64 ji8, .int .i64 a3] rfl (by (try simp only [List.map_toArray, List.map_cons, List.map_nil]); first | done | (simp only [hji8]; rfl) | rfl | (simp only [List.length_drop, List.length_take]; rfl)) ?_; (with_reducible refine (retry_Next.calls _ _ l0_0 a0_1 a2 ji8 a3 t114 true _ ?side1 ?side2 A13.out).mono ?_); (case side1 => exact Kd.C_below HR0_0.out (by repeat (first | (with_reducible first | exact HB.out | apply below_alloc | apply pw_below_drewN | apply below_drew1 | refine below_set ?_ GE110.out | refine below_set ?_ GE111.out | refine below_set ?_ GE112.out) | exact HB.out))); (case side2 => exact HC0_0.out); rintro e w29 ⟨rfl, hb⟩; refine ⟨_, rfl, ?_⟩; have n0_ := Aside0.mk (blk_below (g := gb110) (o := .cells #[.slice A0_0 l0_0.length c0_0, .int .i64 a0_1] 24 (0, 0)) (by (with_reducible repeat (first | refine blk_drewN ?_ _ | refine blk_drew ?_ | refine blk_alloc ?_ _)); refine blk_far ?_ NB110_111.out _; (with_reducible repeat (first | refine blk_drewN ?_ _ | refine blk_drew ?_ | refine blk_alloc ?_ _)); refine blk_far ?_ NB110_111.out _; (with_reducible repeat (first | refine blk_drewN ?_ _ | refine blk_drew ?_ | refine blk_alloc ?_ _)); refine blk_far ?_ NB110_111.out _; (with_reducible repeat (first | refine blk_drewN ?_ _ | refine blk_drew ?_ | refine blk_alloc ?_ _)); exact BK110.out) hb); have n1_ := Aside0.mk (blk_below (g := gb111) (o := .cells #[.string a1_0, .string a1_1, .int .i64 a1_2, .int .i64 ji8, .int .i64 a1_4, .int .i64 0, .string (a5.extract 0 ((ji9) : Int).toNat)] 40 (0, 0)) (by (with_reducible repeat (first | refine blk_drewN ?_ _ | refine blk_drew ?_ | refine blk_alloc ?_ _)); refine blk_put (cs := #[.string a1_0, .string a1_1, .int .i64 a1_2, .int .i64 ji8, .int .i64 a1_4, .int .i64 a4, .string (a5.extract 0 ((ji9) : Int).toNat)]) ?_ 5 _ rfl; (with_reducible repeat (first | refine blk_drewN ?_ _ | refine blk_drew ?_ | refine blk_alloc ?_ _)); refine blk_put (cs := #[.string a1_0, .string a1_1, .int .i64 a1_2, .int .i64 ji8, .int .i64 a1_4, .int .i64 a4, .string a1_6]) ?_ 6 _ rfl; (with_reducible repeat (first | refine blk_drewN ?_ _ | refine blk_drew ?_ | refine blk_alloc ?_ _)); refine blk_put (cs := #[.string a1_0, .string a1_1, .int .i64 a1_2, .int .i64 ji8, .int .i64 a1_4, .int .i64 a1_5, .string a1_6]) ?_ 5 _ rfl; (with_reducible repeat (first | refine blk_drewN ?_ _ | refine blk_drew ?_ | refine blk_alloc ?_ _)); exact BK111.out) hb); have n2_ := Aside0.mk (blk_below (g := gb112) (o := .cells #[.string (⟨#[]⟩ : ByteArray), .string (⟨#[]⟩ : ByteArray), .int .i64 0, .int .i64 0, .int .i64 0, .int .i64 0, .string (⟨#[]⟩ : ByteArray)] 40 (0, 0)) (by (with_reducible repeat (first | refine blk_drewN ?_ _ | refine blk_drew ?_ | refine blk_alloc ?_ _)); refine blk_far ?_ NB112_111.out _; (with_reducible repeat (first | refine blk_drewN ?_ _ | refine blk_drew ?_ | refine blk_alloc ?_ _)); refine blk_far ?_ NB112_111.out _; (with_reducible repeat (first | refine blk_drewN ?_ _ | refine blk_drew ?_ | refine blk_alloc ?_ _)); refine blk_far ?_ NB112_111.out _; (with_reducible repeat (first | refine blk_drewN ?_ _ | refine blk_drew ?_ | refine blk_alloc ?_ _)); exact BK112.out) hb); have n3_ := Aside0.mk (below_step (by repeat (first | (with_reducible first | exact HB.out | apply below_alloc | apply pw_below_drewN | apply below_drew1 | refine below_set ?_ GE110.out | refine below_set ?_ GE111.out | refine below_set ?_ GE112.out) | exact HB.out)) hb); clear BK110; clear BK111; clear BK112; clear HB; have BK110 := n0_; have BK111 := n1_; have BK112 := n2_; have HB := n3_; clear n0_ n1_ n2_ n3_; (try clear hb); (try clear hb2); (try clear hk); (try clear hi); have hcz30_0 : w29.cell? ⟨gb111, 0, none⟩ = some (.string a1_0) := (blk_cell BK111.out 0).trans rfl; have hcz30_1 : w29.cell? ⟨gb111, 1, none⟩ = some (.string a1_1) := (blk_cell BK111.out 1).trans rfl; have hcz30_2 : w29.cell? ⟨gb111, 2, none⟩ = some (.int .i64 a1_2) := (blk_cell BK111.out 2).trans rfl; have hcz30_3 : w29.cell? ⟨gb111, 3, none⟩ = some (.int .i64 ji8) := (blk_cell BK111.out 3).trans rfl; have hcz30_4 : w29.cell? ⟨gb111, 4, none⟩ = some (.int .i64 a1_4) := (blk_cell BK111.out 4).trans rfl; have hcz30_5 : w29.cell? ⟨gb111, 5, none⟩ = some (.int .i64 0) := (blk_cell BK111.out 5).trans rfl; have hcz30_6 : w29.cell? ⟨gb111, 6, none⟩ = some (.string (a5.extract 0 ((ji9) : Int).toNat)) := (blk_cell BK111.out 6).trans rfl; have hfz30_0 := blk_frozen BK111.out 0; have hfz30_1 := blk_frozen BK111.out 1; have hfz30_2 := blk_frozen BK111.out 2; have hfz30_3 := blk_frozen BK111.out 3; have hfz30_4 := blk_frozen BK111.out 4; have hfz30_5 := blk_frozen BK111.out 5; have hfz30_6 := blk_frozen BK111.out 6; have hcz31_0 : w29.cell? ⟨gb112, 0, none⟩ = some (.string (⟨#[]⟩ : ByteArray)) := (blk_cell BK112.out 0).trans rfl; have hcz31_1 : w29.cell? ⟨gb112, 1, none⟩ = some (.string (⟨#[]⟩ : ByteArray)) := (blk_cell BK112.out 1).trans rfl; have hcz31_2 : w29.cell? ⟨gb112, 2, none⟩ = some (.int .i64 0) := (blk_cell BK112.out 2).trans rfl; have hcz31_3 : w29.cell? ⟨gb112, 3, none⟩ = some (.int .i64 0) := (blk_cell BK112.out 3).trans rfl; have hcz31_4 : w29.cell? ⟨gb112, 4, none⟩ = some (.int .i64 0) := (blk_cell BK112.out 4).trans rfl; have hcz31_5 : w29.cell? ⟨gb112, 5, none⟩ = some (.int .i64 0) := (blk_cell BK112.out 5).trans rfl; have hcz31_6 : w29.cell? ⟨gb112, 6, none⟩ = some (.string (⟨#[]⟩ : ByteArray)) := (blk_cell BK112.out 6).trans rfl; have hfz31_0 := blk_frozen BK112.out 0; have hfz31_1 := blk_frozen BK112.out 1; have hfz31_2 := blk_frozen BK112.out 2; have hfz31_3 := blk_frozen BK112.out 3; have hfz31_4 := blk_frozen BK112.out 4; have hfz31_5 := blk_frozen BK112.out 5; have hfz31_6 := blk_frozen BK112.out 6))
          refine bodyPost_ret (results_cell_row rfl _ _ gb112 40 #[.string a1_0, .string a1_1, .int .i64 a1_2, .int .i64 ji8, .int .i64 ji15, .int .i64 0, .string (a5.extract 0 ((ji9) : Int).toNat)] (0, 0) _ rfl (by (with_reducible repeat (first | refine blk_drewN ?_ _ | refine blk_drew ?_ | refine blk_alloc ?_ _)); refine blk_put (cs := #[.string a1_0, .string a1_1, .int .i64 a1_2, .int .i64 ji8, .int .i64 ji15, .int .i64 0, .string (⟨#[]⟩ : ByteArray)]) ?_ 6 _ rfl; (with_reducible repeat (first | refine blk_drewN ?_ _ | refine blk_drew ?_ | refine blk_alloc ?_ _)); refine blk_put (cs := #[.string a1_0, .string a1_1, .int .i64 a1_2, .int .i64 ji8, .int .i64 ji15, .int .i64 0, .string (⟨#[]⟩ : ByteArray)]) ?_ 5 _ rfl; (with_reducible repeat (first | refine blk_drewN ?_ _ | refine blk_drew ?_ | refine blk_alloc ?_ _)); refine blk_put (cs := #[.string a1_0, .string a1_1, .int .i64 a1_2, .int .i64 ji8, .int .i64 0, .int .i64 0, .string (⟨#[]⟩ : ByteArray)]) ?_ 4 _ rfl; (with_reducible repeat (first | refine blk_drewN ?_ _ | refine blk_drew ?_ | refine blk_alloc ?_ _)); refine blk_put (cs := #[.string a1_0, .string a1_1, .int .i64 a1_2, .int .i64 0, .int .i64 0, .int .i64 0, .string (⟨#[]⟩ : ByteArray)]) ?_ 3 _ rfl; (with_reducible repeat (first | refine blk_drewN ?_ _ | refine blk_drew ?_ | refine blk_alloc ?_ _)); refine blk_put (cs := #[.string a1_0, .string a1_1, .int .i64 0, .int .i64 0, .int .i64 0, .int .i64 0, .string (⟨#[]⟩ : ByteArray)]) ?_ 2 _ rfl; (with_reducible repeat (first | refine blk_drewN ?_ _ | refine blk_drew ?_ | refine blk_alloc ?_ _)); refine blk_put (cs := #[.string a1_0, .string (⟨#[]⟩ : ByteArray), .int .i64 0, .int .i64 0, .int .i64 0, .int .i64 0, .string (⟨#[]⟩ : ByteArray)]) ?_ 1 _ rfl; (with_reducible repeat (first | refine blk_drewN ?_ _ | refine blk_drew ?_ | refine blk_alloc ?_ _)); refine blk_put (cs := #[.string (⟨#[]⟩ : ByteArray), .string (⟨#[]⟩ : ByteArray), .int .i64 0, .int .i64 0, .int .i64 0, .int .i64 0, .string (⟨#[]⟩ : ByteArray)]) ?_ 0 _ rfl; (with_reducible repeat (first | refine blk_drewN ?_ _ | refine blk_drew ?_ | refine blk_alloc ?_ _)); refine blk_far ?_ NB112_111.out _; (with_reducible repeat (first | refine blk_drewN ?_ _ | refine blk_drew ?_ | refine blk_alloc ?_ _)); exact BK112.out) Try.underlying40 rfl (by kernel_rfl)) rfl ?_
          exact ⟨by first | rfl | (simp [errW_none, errW_some] <;> rfl) | (simp only [← hji8, ← hji9, ← hji15]; first | rfl | (simp [errW_none, errW_some] <;> rfl)) | (simp [*, errW_none, errW_some] <;> rfl), by repeat (first | (with_reducible first | exact HB.out | apply below_alloc | apply pw_below_drewN | apply below_drew1 | refine below_set ?_ GE110.out | refine below_set ?_ GE111.out | refine below_set ?_ GE112.out) | exact HB.out)⟩
        · replace c14 := Bool.eq_false_iff.mpr c14
          subst c14
          have H1 : (some (a1_0, a1_1, 4, ji8, a1_4, 0, a5.extract 0 ((ji9) : Int).toNat)) = some (r1, r2, r3, r4, r5, r6, r7) := by rw [if_neg (show ¬ (false = true) by decide)] at H; exact H
          clear H
          have H := H1
          clear H1
          simp only [Option.some.injEq, Prod.mk.injEq] at H
          obtain ⟨rfl, rfl, rfl, rfl, rfl, rfl, rfl⟩ := H
          go_enter Try.func17, Try.ntmps17
          try go_wp2_with (first | ((with_reducible refine gate_dst (N := 6) rfl ?_); refine box_event ?hg (N := 6) ?hd (cs := #[.slice A0_0 l0_0.length c0_0, .int .i64 a0_1]) (t := 24) ?hr ?_; (case hd => rfl); (case hg => rfl); (case hr => first | (go_simp; done) | (go_simp; rfl)); intro gb110 hg w32 hbox hb; have n0_ := Aside0.mk (below_step (by repeat (first | (with_reducible first | exact HB.out | apply below_alloc | apply pw_below_drewN | apply below_drew1) | exact HB.out)) hb); have n1_ := Aside0.mk (hbox); have n2_ := Aside0.mk ((by rw [hg]; exact (below_size (by repeat (first | (with_reducible first | exact HB.out | apply below_alloc | apply pw_below_drewN | apply below_drew1) | exact HB.out))) : w.heap.size ≤ gb110)); have n3_ := Aside0.mk ((by rw [hg]; exact (below_size (by repeat (first | (with_reducible first | exact HB.out | apply below_alloc | apply pw_below_drewN | apply below_drew1) | exact HB.out))) : w.heap.size ≤ gb110)); clear HB; have HB := n0_; have BK110 := n1_; have GW110 := n2_; have GE110 := n3_; clear n0_ n1_ n2_ n3_; clear hb hbox hg) | ((with_reducible refine gate_dst (N := 7) rfl ?_); refine box_event ?hg (N := 7) ?hd (cs := #[.string a1_0, .string a1_1, .int .i64 a1_2, .int .i64 a1_3, .int .i64 a1_4, .int .i64 a1_5, .string a1_6]) (t := 40) ?hr ?_; (case hd => rfl); (case hg => rfl); (case hr => first | (go_simp; done) | (go_simp; rfl)); intro gb111 hg w33 hbox hb; have n0_ := Aside0.mk (blk_below (g := gb110) (o := .cells #[.slice A0_0 l0_0.length c0_0, .int .i64 a0_1] 24 (0, 0)) (by (with_reducible repeat (first | refine blk_drewN ?_ _ | refine blk_drew ?_ | refine blk_alloc ?_ _)); exact BK110.out) hb); have n1_ := Aside0.mk (below_step (by repeat (first | (with_reducible first | exact HB.out | apply below_alloc | apply pw_below_drewN | apply below_drew1 | refine below_set ?_ GE110.out) | exact HB.out)) hb); have n2_ := Aside0.mk (hbox); have n3_ := Aside0.mk ((by rw [hg]; exact (below_size (by repeat (first | (with_reducible first | exact HB.out | apply below_alloc | apply pw_below_drewN | apply below_drew1 | refine below_set ?_ GE110.out) | exact HB.out))) : w.heap.size ≤ gb111)); have n4_ := Aside0.mk ((by rw [hg]; exact (below_size (by repeat (first | (with_reducible first | exact HB.out | apply below_alloc | apply pw_below_drewN | apply below_drew1 | refine below_set ?_ GE110.out) | exact HB.out))) : w.heap.size ≤ gb111)); have n5_ := Aside0.mk ((by rw [hg]; exact Nat.ne_of_lt (blk_lt (g := gb110) (o := .cells #[.slice A0_0 l0_0.length c0_0, .int .i64 a0_1] 24 (0, 0)) (by (with_reducible repeat (first | refine blk_drewN ?_ _ | refine blk_drew ?_ | refine blk_alloc ?_ _)); exact BK110.out)) : gb110 ≠ gb111)); have n6_ := Aside0.mk ((by rw [hg]; exact Nat.ne_of_gt (blk_lt (g := gb110) (o := .cells #[.slice A0_0 l0_0.length c0_0, .int .i64 a0_1] 24 (0, 0)) (by (with_reducible repeat (first | refine blk_drewN ?_ _ | refine blk_drew ?_ | refine blk_alloc ?_ _)); exact BK110.out)) : gb111 ≠ gb110)); clear BK110; clear HB; have BK110 := n0_; have HB := n1_; have BK111 := n2_; have GW111 := n3_; have GE111 := n4_; have NB110_111 := n5_; have NB111_110 := n6_; clear n0_ n1_ n2_ n3_ n4_ n5_ n6_; clear hb hbox hg) | ((with_reducible refine gate_dst (N := 12) rfl ?_); refine box_event ?hg (N := 12) ?hd (cs := #[.string (⟨#[]⟩ : ByteArray), .string (⟨#[]⟩ : ByteArray), .int .i64 0, .int .i64 0, .int .i64 0, .int .i64 0, .string (⟨#[]⟩ : ByteArray)]) (t := 40) ?hr ?_; (case hd => rfl); (case hg => rfl); (case hr => first | (go_simp; done) | (go_simp; rfl)); intro gb112 hg w34 hbox hb; have n0_ := Aside0.mk (blk_below (g := gb110) (o := .cells #[.slice A0_0 l0_0.length c0_0, .int .i64 a0_1] 24 (0, 0)) (by (with_reducible repeat (first | refine blk_drewN ?_ _ | refine blk_drew ?_ | refine blk_alloc ?_ _)); exact BK110.out) hb); have n1_ := Aside0.mk (blk_below (g := gb111) (o := .cells #[.string a1_0, .string a1_1, .int .i64 a1_2, .int .i64 a1_3, .int .i64 a1_4, .int .i64 a1_5, .string a1_6] 40 (0, 0)) (by (with_reducible repeat (first | refine blk_drewN ?_ _ | refine blk_drew ?_ | refine blk_alloc ?_ _)); exact BK111.out) hb); have n2_ := Aside0.mk (below_step (by repeat (first | (with_reducible first | exact HB.out | apply below_alloc | apply pw_below_drewN | apply below_drew1 | refine below_set ?_ GE110.out | refine below_set ?_ GE111.out) | exact HB.out)) hb); have n3_ := Aside0.mk (hbox); have n4_ := Aside0.mk ((by rw [hg]; exact (below_size (by repeat (first | (with_reducible first | exact HB.out | apply below_alloc | apply pw_below_drewN | apply below_drew1 | refine below_set ?_ GE110.out | refine below_set ?_ GE111.out) | exact HB.out))) : w.heap.size ≤ gb112)); have n5_ := Aside0.mk ((by rw [hg]; exact (below_size (by repeat (first | (with_reducible first | exact HB.out | apply below_alloc | apply pw_below_drewN | apply below_drew1 | refine below_set ?_ GE110.out | refine below_set ?_ GE111.out) | exact HB.out))) : w.heap.size ≤ gb112)); have n6_ := Aside0.mk ((by rw [hg]; exact Nat.ne_of_lt (blk_lt (g := gb110) (o := .cells #[.slice A0_0 l0_0.length c0_0, .int .i64 a0_1] 24 (0, 0)) (by (with_reducible repeat (first | refine blk_drewN ?_ _ | refine blk_drew ?_ | refine blk_alloc ?_ _)); exact BK110.out)) : gb110 ≠ gb112)); have n7_ := Aside0.mk ((by rw [hg]; exact Nat.ne_of_gt (blk_lt (g := gb110) (o := .cells #[.slice A0_0 l0_0.length c0_0, .int .i64 a0_1] 24 (0, 0)) (by (with_reducible repeat (first | refine blk_drewN ?_ _ | refine blk_drew ?_ | refine blk_alloc ?_ _)); exact BK110.out)) : gb112 ≠ gb110)); have n8_ := Aside0.mk ((by rw [hg]; exact Nat.ne_of_lt (blk_lt (g := gb111) (o := .cells #[.string a1_0, .string a1_1, .int .i64 a1_2, .int .i64 a1_3, .int .i64 a1_4, .int .i64 a1_5, .string a1_6] 40 (0, 0)) (by (with_reducible repeat (first | refine blk_drewN ?_ _ | refine blk_drew ?_ | refine blk_alloc ?_ _)); exact BK111.out)) : gb111 ≠ gb112)); have n9_ := Aside0.mk ((by rw [hg]; exact Nat.ne_of_gt (blk_lt (g := gb111) (o := .cells #[.string a1_0, .string a1_1, .int .i64 a1_2, .int .i64 a1_3, .int .i64 a1_4, .int .i64 a1_5, .string a1_6] 40 (0, 0)) (by (with_reducible repeat (first | refine blk_drewN ?_ _ | refine blk_drew ?_ | refine blk_alloc ?_ _)); exact BK111.out)) : gb112 ≠ gb111)); clear BK110; clear BK111; clear HB; have BK110 := n0_; have BK111 := n1_; have HB := n2_; have BK112 := n3_; have GW112 := n4_; have GE112 := n5_; have NB110_112 := n6_; have NB112_110 := n7_; have NB111_112 := n8_; have NB112_111 := n9_; clear n0_ n1_ n2_ n3_ n4_ n5_ n6_ n7_ n8_ n9_; clear hb hbox hg) | ((with_reducible refine gate_callee (f := 22) rfl ?_); refine goesL_ (some 17) rfl rfl Try.func22 (by kernel_rfl) rfl #[.int .i64 a4] rfl (by (try simp only [List.map_toArray, List.map_cons, List.map_nil]); first | done | rfl | (simp only [List.length_drop, List.length_take]; rfl)) ?_; (with_reducible refine (reply_Class.calls a4 t113 _ A7.out).mono ?_); rintro e w' ⟨rfl, ⟨nd, rfl⟩⟩; refine ⟨_, rfl, ?_⟩; (try (rw [drewN_self w34]; generalize hq_ : World.drewN w34 _ = w34; have n0_ : Aside0 (w34.heap[gb110]? = some (.cells #[.slice A0_0 l0_0.length c0_0, .int .i64 a0_1] 24 (0, 0))) := ⟨by rw [← hq_]; exact (by (with_reducible repeat (first | refine blk_drewN ?_ _ | refine blk_drew ?_ | refine blk_alloc ?_ _)); exact BK110.out)⟩; have n1_ : Aside0 (w34.heap[gb111]? = some (.cells #[.string a1_0, .string a1_1, .int .i64 a1_2, .int .i64 a1_3, .int .i64 a1_4, .int .i64 a1_5, .string a1_6] 40 (0, 0))) := ⟨by rw [← hq_]; exact (by (with_reducible repeat (first | refine blk_drewN ?_ _ | refine blk_drew ?_ | refine blk_alloc ?_ _)); exact BK111.out)⟩; have n2_ : Aside0 (w34.heap[gb112]? = some (.cells #[.string (⟨#[]⟩ : ByteArray), .string (⟨#[]⟩ : ByteArray), .int .i64 0, .int .i64 0, .int .i64 0, .int .i64 0, .string (⟨#[]⟩ : ByteArray)] 40 (0, 0))) := ⟨by rw [← hq_]; exact (by (with_reducible repeat (first | refine blk_drewN ?_ _ | refine blk_drew ?_ | refine blk_alloc ?_ _)); exact BK112.out)⟩; have n3_ : Aside0 (Below w.heap.size w w34) := ⟨by rw [← hq_]; exact (by repeat (first | (with_reducible first | exact HB.out | apply below_alloc | apply pw_below_drewN | apply below_drew1 | refine below_set ?_ GE110.out | refine below_set ?_ GE111.out | refine below_set ?_ GE112.out) | exact HB.out))⟩; clear BK110 BK111 BK112 HB hq_; have BK110 := n0_; have BK111 := n1_; have BK112 := n2_; have HB := n3_; clear n0_ n1_ n2_ n3_)); have hnb35 := NB111_110.out; have hnc35 := NB110_111.out; have hnb36 := NB111_112.out; have hnc36 := NB112_111.out; have hcz37_0 : w34.cell? ⟨gb111, 0, none⟩ = some (.string a1_0) := (blk_cell BK111.out 0).trans rfl; have hcz37_1 : w34.cell? ⟨gb111, 1, none⟩ = some (.string a1_1) := (blk_cell BK111.out 1).trans rfl; have hcz37_2 : w34.cell? ⟨gb111, 2, none⟩ = some (.int .i64 a1_2) := (blk_cell BK111.out 2).trans rfl; have hcz37_3 : w34.cell? ⟨gb111, 3, none⟩ = some (.int .i64 a1_3) := (blk_cell BK111.out 3).trans rfl; have hcz37_4 : w34.cell? ⟨gb111, 4, none⟩ = some (.int .i64 a1_4) := (blk_cell BK111.out 4).trans rfl; have hcz37_5 : w34.cell? ⟨gb111, 5, none⟩ = some (.int .i64 a1_5) := (blk_cell BK111.out 5).trans rfl; have hcz37_6 : w34.cell? ⟨gb111, 6, none⟩ = some (.string a1_6) := (blk_cell BK111.out 6).trans rfl; have hfz37_0 := blk_frozen BK111.out 0; have hfz37_1 := blk_frozen BK111.out 1; have hfz37_2 := blk_frozen BK111.out 2; have hfz37_3 := blk_frozen BK111.out 3; have hfz37_4 := blk_frozen BK111.out 4; have hfz37_5 := blk_frozen BK111.out 5; have hfz37_6 := blk_frozen BK111.out 6))
          have n0_ : Aside0 ((w34.setCell ⟨gb111, 3, none⟩ (.int .i64 ji8)).heap[gb110]? = some (.cells #[.slice A0_0 l0_0.length c0_0, .int .i64 a0_1] 24 (0, 0))) := ⟨by (with_reducible repeat (first | refine blk_drewN ?_ _ | refine blk_drew ?_ | refine blk_alloc ?_ _)); refine blk_far ?_ NB110_111.out _; (with_reducible repeat (first | refine blk_drewN ?_ _ | refine blk_drew ?_ | refine blk_alloc ?_ _)); exact BK110.out⟩
          have n1_ : Aside0 ((w34.setCell ⟨gb111, 3, none⟩ (.int .i64 ji8)).heap[gb111]? = some (.cells #[.string a1_0, .string a1_1, .int .i64 a1_2, .int .i64 ji8, .int .i64 a1_4, .int .i64 a1_5, .string a1_6] 40 (0, 0))) := ⟨by (with_reducible repeat (first | refine blk_drewN ?_ _ | refine blk_drew ?_ | refine blk_alloc ?_ _)); refine blk_put (cs := #[.string a1_0, .string a1_1, .int .i64 a1_2, .int .i64 a1_3, .int .i64 a1_4, .int .i64 a1_5, .string a1_6]) ?_ 3 _ rfl; (with_reducible repeat (first | refine blk_drewN ?_ _ | refine blk_drew ?_ | refine blk_alloc ?_ _)); exact BK111.out⟩
          have n2_ : Aside0 ((w34.setCell ⟨gb111, 3, none⟩ (.int .i64 ji8)).heap[gb112]? = some (.cells #[.string (⟨#[]⟩ : ByteArray), .string (⟨#[]⟩ : ByteArray), .int .i64 0, .int .i64 0, .int .i64 0, .int .i64 0, .string (⟨#[]⟩ : ByteArray)] 40 (0, 0))) := ⟨by (with_reducible repeat (first | refine blk_drewN ?_ _ | refine blk_drew ?_ | refine blk_alloc ?_ _)); refine blk_far ?_ NB112_111.out _; (with_reducible repeat (first | refine blk_drewN ?_ _ | refine blk_drew ?_ | refine blk_alloc ?_ _)); exact BK112.out⟩
          have n3_ : Aside0 (Below w.heap.size w (w34.setCell ⟨gb111, 3, none⟩ (.int .i64 ji8))) := ⟨by repeat (first | (with_reducible first | exact HB.out | apply below_alloc | apply pw_below_drewN | apply below_drew1 | refine below_set ?_ GE110.out | refine below_set ?_ GE111.out | refine below_set ?_ GE112.out) | exact HB.out)⟩
          (try clear BK110)
          (try clear BK111)
          (try clear BK112)
          (try clear HB)
          generalize (w34.setCell ⟨gb111, 3, none⟩ (.int .i64 ji8)) = w38 at n0_ n1_ n2_ n3_ ⊢
          have BK110 := n0_
          have BK111 := n1_
          have BK112 := n2_
          have HB := n3_
          clear n0_ n1_ n2_ n3_
          have n0_ := Aside0.mk (blk_drew BK110.out)
          have n1_ := Aside0.mk (blk_drew BK111.out)
          have n2_ := Aside0.mk (blk_drew BK112.out)
          have n3_ := Aside0.mk (below_drew1 HB.out)
          clear BK110
          clear BK111
          clear BK112
          clear HB
          have BK110 := n0_
          have BK111 := n1_
          have BK112 := n2_
          have HB := n3_
          clear n0_ n1_ n2_ n3_
          refine start_ (n := 10) (S := fun w' => True) (ds := []) #[false, false, false, false, false, false, false, false, false, false] (by kernel_rfl) rfl rfl trivial (fun hHeld => ?_); refine with_tabW retry_Done.tab3 retry_Done.bits3 (fun HT_ HW_ => ?_)
          generalize w38.drew = w39 at BK110 BK111 BK112 HB hHeld ⊢
          refine pure_ (i := 0) (N := some 23) (v := ?_) (a' := ?_) #[true, false, false, false, false, false, false, false, false, false] rfl rfl (any_of HT_.out (by kernel_rfl)) (fun _ _ _ h => h) (Or.inl ⟨by rfl, ?_⟩) ?_ ?_
          rotate_left
          · intro w'
            go_simp
            with_reducible rfl
          rotate_left
          · simp only [Act.put, List.setIfInBounds_toArray, List.set_cons_zero, List.set_cons_succ, i64_w, i32_w]
            rfl
          refine pure_ (i := 1) (N := some 24) (v := ?_) (a' := ?_) #[true, true, false, false, false, false, false, false, false, false] rfl rfl (any_of HT_.out (by kernel_rfl)) (fun _ _ _ h => h) (Or.inl ⟨by rfl, ?_⟩) ?_ ?_
          rotate_left
          · intro w'
            go_simp
            with_reducible rfl
          rotate_left
          · simp only [Act.put, List.setIfInBounds_toArray, List.set_cons_zero, List.set_cons_succ, i64_w, i32_w]
            rfl
          refine pure_ (i := 2) (N := some 25) (v := ?_) (a' := ?_) #[true, true, true, false, false, false, false, false, false, false] rfl rfl (any_of HT_.out (by kernel_rfl)) (fun _ _ _ h => h) (Or.inl ⟨by rfl, ?_⟩) ?_ ?_
          rotate_left
          · intro w'
            go_simp
            with_reducible rfl
          rotate_left
          · simp only [Act.put, List.setIfInBounds_toArray, List.set_cons_zero, List.set_cons_succ, i64_w, i32_w]
            rfl
          refine pure_ (i := 3) (N := some 26) (v := ?_) (a' := ?_) #[true, true, true, true, false, false, false, false, false, false] rfl rfl (any_of HT_.out (by kernel_rfl)) (fun _ _ _ h => h) (Or.inl ⟨by rfl, ?_⟩) ?_ ?_
          rotate_left
          · intro w'
            go_simp
            with_reducible rfl
          rotate_left
          · simp only [Act.put, List.setIfInBounds_toArray, List.set_cons_zero, List.set_cons_succ, i64_w, i32_w]
            rfl
          refine pure_ (i := 4) (N := some 27) (v := ?_) (a' := ?_) #[true, true, true, true, true, false, false, false, false, false] rfl rfl (any_of HT_.out (by kernel_rfl)) (fun _ _ _ h => h) (Or.inl ⟨by rfl, ?_⟩) ?_ ?_
          rotate_left
          · intro w'
            go_simp
            with_reducible rfl
          rotate_left
          · simp only [Act.put, List.setIfInBounds_toArray, List.set_cons_zero, List.set_cons_succ, i64_w, i32_w]
            rfl
          refine pure_ (i := 5) (N := some 28) (v := ?_) (a' := ?_) #[true, true, true, true, true, true, false, false, false, false] rfl rfl (any_of HT_.out (by kernel_rfl)) (fun _ _ _ h => h) (Or.inl ⟨by rfl, ?_⟩) ?_ ?_
          rotate_left
          · intro w'
            go_simp
            with_reducible rfl
          rotate_left
          · simp only [Act.put, List.setIfInBounds_toArray, List.set_cons_zero, List.set_cons_succ, i64_w, i32_w]
            rfl
          refine pure_ (i := 6) (N := some 29) (v := ?_) (a' := ?_) #[true, true, true, true, true, true, true, false, false, false] rfl rfl (any_of HT_.out (by kernel_rfl)) (fun _ _ _ h => h) (Or.inl ⟨by rfl, ?_⟩) ?_ ?_
          rotate_left
          · intro w'
            go_simp
            with_reducible rfl
          rotate_left
          · simp only [Act.put, List.setIfInBounds_toArray, List.set_cons_zero, List.set_cons_succ, i64_w, i32_w]
            rfl
          refine one_ (i := 7) (N := none) #[true, true, true, true, true, true, true, true, false, false] rfl rfl (one_of HT_.out (by kernel_rfl)) (by decide) (fun K hK => ?_)
          have hs40 : w39.cell? ⟨gb111, 5, none⟩ = some (.int .i64 a1_5) := (blk_cell BK111.out 5).trans rfl
          have hfs40 := blk_frozen BK111.out 5
          have hns40_0 := NB110_111.out
          have hns40_2 := NB112_111.out
          have hms40_0 := NB111_110.out
          have hms40_2 := NB111_112.out
          refine skip_ (w1 := ?_) (by rfl) rfl ?_ ?_
          rotate_left
          · go_simp
            rfl
          refine hK.out _ _ trivial (fun hHeld => ?_)
          clear hK K
          refine pure_ (i := 8) (N := some 30) (v := ?_) (a' := ?_) #[true, true, true, true, true, true, true, true, true, false] rfl rfl (any_of HT_.out (by kernel_rfl)) (fun _ _ _ h => h) (Or.inl ⟨by rfl, ?_⟩) ?_ ?_
          rotate_left
          · intro w'
            go_simp
            with_reducible rfl
          rotate_left
          · simp only [Act.put, List.setIfInBounds_toArray, List.set_cons_zero, List.set_cons_succ, i64_w, i32_w]
            rfl
          refine one_ (i := 9) (N := none) #[true, true, true, true, true, true, true, true, true, true] rfl rfl (one_of HT_.out (by kernel_rfl)) (by decide) (fun K hK => ?_)
          have hs41 : w39.cell? ⟨gb111, 6, none⟩ = some (.string a1_6) := (blk_cell BK111.out 6).trans rfl
          have hfs41 := blk_frozen BK111.out 6
          have hns41_0 := NB110_111.out
          have hns41_2 := NB112_111.out
          have hms41_0 := NB111_110.out
          have hms41_2 := NB111_112.out
          refine skip_ (w1 := ?_) (by rfl) rfl ?_ ?_
          rotate_left
          · go_simp
            rfl
          refine hK.out _ _ trivial (fun hHeld => ?_)
          clear hK K
          refine done_ (done_of HT_.out (by kernel_rfl)) ?_
          have hcz42_0 : w39.cell? ⟨gb111, 0, none⟩ = some (.string a1_0) := (blk_cell BK111.out 0).trans rfl
          have hcz42_1 : w39.cell? ⟨gb111, 1, none⟩ = some (.string a1_1) := (blk_cell BK111.out 1).trans rfl
          have hcz42_2 : w39.cell? ⟨gb111, 2, none⟩ = some (.int .i64 a1_2) := (blk_cell BK111.out 2).trans rfl
          have hcz42_3 : w39.cell? ⟨gb111, 3, none⟩ = some (.int .i64 ji8) := (blk_cell BK111.out 3).trans rfl
          have hcz42_4 : w39.cell? ⟨gb111, 4, none⟩ = some (.int .i64 a1_4) := (blk_cell BK111.out 4).trans rfl
          have hcz42_5 : w39.cell? ⟨gb111, 5, none⟩ = some (.int .i64 a1_5) := (blk_cell BK111.out 5).trans rfl
          have hcz42_6 : w39.cell? ⟨gb111, 6, none⟩ = some (.string a1_6) := (blk_cell BK111.out 6).trans rfl
          have hfz42_0 := blk_frozen BK111.out 0
          have hfz42_1 := blk_frozen BK111.out 1
          have hfz42_2 := blk_frozen BK111.out 2
          have hfz42_3 := blk_frozen BK111.out 3
          have hfz42_4 := blk_frozen BK111.out 4
          have hfz42_5 := blk_frozen BK111.out 5
          have hfz42_6 := blk_frozen BK111.out 6
          have hnb43 := NB110_112.out
          have hnc43 := NB112_110.out
          have hcz44_0 : w39.cell? ⟨gb110, 0, none⟩ = some (.slice A0_0 l0_0.length c0_0) := (blk_cell BK110.out 0).trans rfl
          have hcz44_1 : w39.cell? ⟨gb110, 1, none⟩ = some (.int .i64 a0_1) := (blk_cell BK110.out 1).trans rfl
          have hfz44_0 := blk_frozen BK110.out 0
          have hfz44_1 := blk_frozen BK110.out 1
          try go_wp2_with (first | ((with_reducible refine gate_callee (f := 12) rfl ?_); refine goesL_ (some 49) rfl rfl Try.func12 (by kernel_rfl) rfl #[.agg #[.slice A0_0 l0_0.length c0_0, .int .i64 a0_1], .int .i64 a2, .int .i64 ji8, .int .i64 a3] rfl (by (try simp only [List.map_toArray, List.map_cons, List.map_nil]); first | done | (simp only [hji8]; rfl) | rfl | (simp only [List.length_drop, List.length_take]; rfl)) ?_; (with_reducible refine (retry_Next.calls _ _ l0_0 a0_1 a2 ji8 a3 t114 false _ ?side1 ?side2 A13.out).mono ?_); (case side1 => exact Kd.C_below HR0_0.out (by repeat (first | (with_reducible first | exact HB.out | apply below_alloc | apply pw_below_drewN | apply below_drew1 | refine below_set ?_ GE110.out | refine below_set ?_ GE111.out | refine below_set ?_ GE112.out) | exact HB.out))); (case side2 => exact HC0_0.out); rintro e w45 ⟨rfl, hb⟩; refine ⟨_, rfl, ?_⟩; have n0_ := Aside0.mk (blk_below (g := gb110) (o := .cells #[.slice A0_0 l0_0.length c0_0, .int .i64 a0_1] 24 (0, 0)) (by (with_reducible repeat (first | refine blk_drewN ?_ _ | refine blk_drew ?_ | refine blk_alloc ?_ _)); refine blk_far ?_ NB110_111.out _; (with_reducible repeat (first | refine blk_drewN ?_ _ | refine blk_drew ?_ | refine blk_alloc ?_ _)); refine blk_far ?_ NB110_111.out _; (with_reducible repeat (first | refine blk_drewN ?_ _ | refine blk_drew ?_ | refine blk_alloc ?_ _)); refine blk_far ?_ NB110_111.out _; (with_reducible repeat (first | refine blk_drewN ?_ _ | refine blk_drew ?_ | refine blk_alloc ?_ _)); exact BK110.out) hb); have n1_ := Aside0.mk (blk_below (g := gb111) (o := .cells #[.string a1_0, .string a1_1, .int .i64 a1_2, .int .i64 ji8, .int .i64 a1_4, .int .i64 0, .string (a5.extract 0 ((ji9) : Int).toNat)] 40 (0, 0)) (by (with_reducible repeat (first | refine blk_drewN ?_ _ | refine blk_drew ?_ | refine blk_alloc ?_ _)); refine blk_put (cs := #[.string a1_0, .string a1_1, .int .i64 a1_2, .int .i64 ji8, .int .i64 a1_4, .int .i64 a4, .string (a5.extract 0 ((ji9) : Int).toNat)]) ?_ 5 _ rfl; (with_reducible repeat (first | refine blk_drewN ?_ _ | refine blk_drew ?_ | refine blk_alloc ?_ _)); refine blk_put (cs := #[.string a1_0, .string a1_1, .int .i64 a1_2, .int .i64 ji8, .int .i64 a1_4, .int .i64 a4, .string a1_6]) ?_ 6 _ rfl; (with_reducible repeat (first | refine blk_drewN ?_ _ | refine blk_drew ?_ | refine blk_alloc ?_ _)); refine blk_put (cs := #[.string a1_0, .string a1_1, .int .i64 a1_2, .int .i64 ji8, .int .i64 a1_4, .int .i64 a1_5, .string a1_6]) ?_ 5 _ rfl; (with_reducible repeat (first | refine blk_drewN ?_ _ | refine blk_drew ?_ | refine blk_alloc ?_ _)); exact BK111.out) hb); have n2_ := Aside0.mk (blk_below (g := gb112) (o := .cells #[.string (⟨#[]⟩ : ByteArray), .string (⟨#[]⟩ : ByteArray), .int .i64 0, .int .i64 0, .int .i64 0, .int .i64 0, .string (⟨#[]⟩ : ByteArray)] 40 (0, 0)) (by (with_reducible repeat (first | refine blk_drewN ?_ _ | refine blk_drew ?_ | refine blk_alloc ?_ _)); refine blk_far ?_ NB112_111.out _; (with_reducible repeat (first | refine blk_drewN ?_ _ | refine blk_drew ?_ | refine blk_alloc ?_ _)); refine blk_far ?_ NB112_111.out _; (with_reducible repeat (first | refine blk_drewN ?_ _ | refine blk_drew ?_ | refine blk_alloc ?_ _)); refine blk_far ?_ NB112_111.out _; (with_reducible repeat (first | refine blk_drewN ?_ _ | refine blk_drew ?_ | refine blk_alloc ?_ _)); exact BK112.out) hb); have n3_ := Aside0.mk (below_step (by repeat (first | (with_reducible first | exact HB.out | apply below_alloc | apply pw_below_drewN | apply below_drew1 | refine below_set ?_ GE110.out | refine below_set ?_ GE111.out | refine below_set ?_ GE112.out) | exact HB.out)) hb); clear BK110; clear BK111; clear BK112; clear HB; have BK110 := n0_; have BK111 := n1_; have BK112 := n2_; have HB := n3_; clear n0_ n1_ n2_ n3_; (try clear hb); (try clear hb2); (try clear hk); (try clear hi); have hcz46_0 : w45.cell? ⟨gb111, 0, none⟩ = some (.string a1_0) := (blk_cell BK111.out 0).trans rfl; have hcz46_1 : w45.cell? ⟨gb111, 1, none⟩ = some (.string a1_1) := (blk_cell BK111.out 1).trans rfl; have hcz46_2 : w45.cell? ⟨gb111, 2, none⟩ = some (.int .i64 a1_2) := (blk_cell BK111.out 2).trans rfl; have hcz46_3 : w45.cell? ⟨gb111, 3, none⟩ = some (.int .i64 ji8) := (blk_cell BK111.out 3).trans rfl; have hcz46_4 : w45.cell? ⟨gb111, 4, none⟩ = some (.int .i64 a1_4) := (blk_cell BK111.out 4).trans rfl; have hcz46_5 : w45.cell? ⟨gb111, 5, none⟩ = some (.int .i64 0) := (blk_cell BK111.out 5).trans rfl; have hcz46_6 : w45.cell? ⟨gb111, 6, none⟩ = some (.string (a5.extract 0 ((ji9) : Int).toNat)) := (blk_cell BK111.out 6).trans rfl; have hfz46_0 := blk_frozen BK111.out 0; have hfz46_1 := blk_frozen BK111.out 1; have hfz46_2 := blk_frozen BK111.out 2; have hfz46_3 := blk_frozen BK111.out 3; have hfz46_4 := blk_frozen BK111.out 4; have hfz46_5 := blk_frozen BK111.out 5; have hfz46_6 := blk_frozen BK111.out 6; have hcz47_0 : w45.cell? ⟨gb112, 0, none⟩ = some (.string (⟨#[]⟩ : ByteArray)) := (blk_cell BK112.out 0).trans rfl; have hcz47_1 : w45.cell? ⟨gb112, 1, none⟩ = some (.string (⟨#[]⟩ : ByteArray)) := (blk_cell BK112.out 1).trans rfl; have hcz47_2 : w45.cell? ⟨gb112, 2, none⟩ = some (.int .i64 0) := (blk_cell BK112.out 2).trans rfl; have hcz47_3 : w45.cell? ⟨gb112, 3, none⟩ = some (.int .i64 0) := (blk_cell BK112.out 3).trans rfl; have hcz47_4 : w45.cell? ⟨gb112, 4, none⟩ = some (.int .i64 0) := (blk_cell BK112.out 4).trans rfl; have hcz47_5 : w45.cell? ⟨gb112, 5, none⟩ = some (.int .i64 0) := (blk_cell BK112.out 5).trans rfl; have hcz47_6 : w45.cell? ⟨gb112, 6, none⟩ = some (.string (⟨#[]⟩ : ByteArray)) := (blk_cell BK112.out 6).trans rfl; have hfz47_0 := blk_frozen BK112.out 0; have hfz47_1 := blk_frozen BK112.out 1; have hfz47_2 := blk_frozen BK112.out 2; have hfz47_3 := blk_frozen BK112.out 3; have hfz47_4 := blk_frozen BK112.out 4; have hfz47_5 := blk_frozen BK112.out 5; have hfz47_6 := blk_frozen BK112.out 6))
          refine bodyPost_ret (results_cell_row rfl _ _ gb112 40 #[.string a1_0, .string a1_1, .int .i64 4, .int .i64 ji8, .int .i64 a1_4, .int .i64 0, .string (a5.extract 0 ((ji9) : Int).toNat)] (0, 0) _ rfl (by (with_reducible repeat (first | refine blk_drewN ?_ _ | refine blk_drew ?_ | refine blk_alloc ?_ _)); refine blk_put (cs := #[.string a1_0, .string a1_1, .int .i64 4, .int .i64 ji8, .int .i64 a1_4, .int .i64 0, .string (⟨#[]⟩ : ByteArray)]) ?_ 6 _ rfl; (with_reducible repeat (first | refine blk_drewN ?_ _ | refine blk_drew ?_ | refine blk_alloc ?_ _)); refine blk_put (cs := #[.string a1_0, .string a1_1, .int .i64 4, .int .i64 ji8, .int .i64 a1_4, .int .i64 0, .string (⟨#[]⟩ : ByteArray)]) ?_ 5 _ rfl; (with_reducible repeat (first | refine blk_drewN ?_ _ | refine blk_drew ?_ | refine blk_alloc ?_ _)); refine blk_put (cs := #[.string a1_0, .string a1_1, .int .i64 4, .int .i64 ji8, .int .i64 0, .int .i64 0, .string (⟨#[]⟩ : ByteArray)]) ?_ 4 _ rfl; (with_reducible repeat (first | refine blk_drewN ?_ _ | refine blk_drew ?_ | refine blk_alloc ?_ _)); refine blk_put (cs := #[.string a1_0, .string a1_1, .int .i64 4, .int .i64 0, .int .i64 0, .int .i64 0, .string (⟨#[]⟩ : ByteArray)]) ?_ 3 _ rfl; (with_reducible repeat (first | refine blk_drewN ?_ _ | refine blk_drew ?_ | refine blk_alloc ?_ _)); refine blk_put (cs := #[.string a1_0, .string a1_1, .int .i64 0, .int .i64 0, .int .i64 0, .int .i64 0, .string (⟨#[]⟩ : ByteArray)]) ?_ 2 _ rfl; (with_reducible repeat (first | refine blk_drewN ?_ _ | refine blk_drew ?_ | refine blk_alloc ?_ _)); refine blk_put (cs := #[.string a1_0, .string (⟨#[]⟩ : ByteArray), .int .i64 0, .int .i64 0, .int .i64 0, .int .i64 0, .string (⟨#[]⟩ : ByteArray)]) ?_ 1 _ rfl; (with_reducible repeat (first | refine blk_drewN ?_ _ | refine blk_drew ?_ | refine blk_alloc ?_ _)); refine blk_put (cs := #[.string (⟨#[]⟩ : ByteArray), .string (⟨#[]⟩ : ByteArray), .int .i64 0, .int .i64 0, .int .i64 0, .int .i64 0, .string (⟨#[]⟩ : ByteArray)]) ?_ 0 _ rfl; (with_reducible repeat (first | refine blk_drewN ?_ _ | refine blk_drew ?_ | refine blk_alloc ?_ _)); refine blk_far ?_ NB112_111.out _; (with_reducible repeat (first | refine blk_drewN ?_ _ | refine blk_drew ?_ | refine blk_alloc ?_ _)); exact BK112.out) Try.underlying40 rfl (by kernel_rfl)) rfl ?_
          exact ⟨by first | rfl | (simp [errW_none, errW_some] <;> rfl) | (simp only [← hji8, ← hji9]; first | rfl | (simp [errW_none, errW_some] <;> rfl)) | (simp [*, errW_none, errW_some] <;> rfl), by repeat (first | (with_reducible first | exact HB.out | apply below_alloc | apply pw_below_drewN | apply below_drew1 | refine below_set ?_ GE110.out | refine below_set ?_ GE111.out | refine below_set ?_ GE112.out) | exact HB.out)⟩
      · rw [if_neg c12] at H
        have c12b0 : (t113 == 0) = false := beq_eq_false_iff_ne.mpr c12
        have c12b1 : (t113 != 0) = true := bne_iff_ne.mpr c12
        by_cases c48 : t113 = 2
        · rw [if_pos c48] at H
          have c48b0 : (t113 == 2) = true := beq_iff_eq.mpr c48
          have c48b1 : (t113 != 2) = false := bne_eq_false_iff_eq.mpr c48
          clear c48
          simp only [Option.some.injEq, Prod.mk.injEq] at H
          obtain ⟨rfl, rfl, rfl, rfl, rfl, rfl, rfl⟩ := H
          go_enter Try.func17, Try.ntmps17
          try go_wp2_with (first | ((with_reducible refine gate_dst (N := 6) rfl ?_); refine box_event ?hg (N := 6) ?hd (cs := #[.slice A0_0 l0_0.length c0_0, .int .i64 a0_1]) (t := 24) ?hr ?_; (case hd => rfl); (case hg => rfl); (case hr => first | (go_simp; done) | (go_simp; rfl)); intro gb110 hg w49 hbox hb; have n0_ := Aside0.mk (below_step (by repeat (first | (with_reducible first | exact HB.out | apply below_alloc | apply pw_below_drewN | apply below_drew1) | exact HB.out)) hb); have n1_ := Aside0.mk (hbox); have n2_ := Aside0.mk ((by rw [hg]; exact (below_size (by repeat (first | (with_reducible first | exact HB.out | apply below_alloc | apply pw_below_drewN | apply below_drew1) | exact HB.out))) : w.heap.size ≤ gb110)); have n3_ := Aside0.mk ((by rw [hg]; exact (below_size (by repeat (first | (with_reducible first | exact HB.out | apply below_alloc | apply pw_below_drewN | apply below_drew1) | exact HB.out))) : w.heap.size ≤ gb110)); clear HB; have HB := n0_; have BK110 := n1_; have GW110 := n2_; have GE110 := n3_; clear n0_ n1_ n2_ n3_; clear hb hbox hg) | ((with_reducible refine gate_dst (N := 7) rfl ?_); refine box_event ?hg (N := 7) ?hd (cs := #[.string a1_0, .string a1_1, .int .i64 a1_2, .int .i64 a1_3, .int .i64 a1_4, .int .i64 a1_5, .string a1_6]) (t := 40) ?hr ?_; (case hd => rfl); (case hg => rfl); (case hr => first | (go_simp; done) | (go_simp; rfl)); intro gb111 hg w50 hbox hb; have n0_ := Aside0.mk (blk_below (g := gb110) (o := .cells #[.slice A0_0 l0_0.length c0_0, .int .i64 a0_1] 24 (0, 0)) (by (with_reducible repeat (first | refine blk_drewN ?_ _ | refine blk_drew ?_ | refine blk_alloc ?_ _)); exact BK110.out) hb); have n1_ := Aside0.mk (below_step (by repeat (first | (with_reducible first | exact HB.out | apply below_alloc | apply pw_below_drewN | apply below_drew1 | refine below_set ?_ GE110.out) | exact HB.out)) hb); have n2_ := Aside0.mk (hbox); have n3_ := Aside0.mk ((by rw [hg]; exact (below_size (by repeat (first | (with_reducible first | exact HB.out | apply below_alloc | apply pw_below_drewN | apply below_drew1 | refine below_set ?_ GE110.out) | exact HB.out))) : w.heap.size ≤ gb111)); have n4_ := Aside0.mk ((by rw [hg]; exact (below_size (by repeat (first | (with_reducible first | exact HB.out | apply below_alloc | apply pw_below_drewN | apply below_drew1 | refine below_set ?_ GE110.out) | exact HB.out))) : w.heap.size ≤ gb111)); have n5_ := Aside0.mk ((by rw [hg]; exact Nat.ne_of_lt (blk_lt (g := gb110) (o := .cells #[.slice A0_0 l0_0.length c0_0, .int .i64 a0_1] 24 (0, 0)) (by (with_reducible repeat (first | refine blk_drewN ?_ _ | refine blk_drew ?_ | refine blk_alloc ?_ _)); exact BK110.out)) : gb110 ≠ gb111)); have n6_ := Aside0.mk ((by rw [hg]; exact Nat.ne_of_gt (blk_lt (g := gb110) (o := .cells #[.slice A0_0 l0_0.length c0_0, .int .i64 a0_1] 24 (0, 0)) (by (with_reducible repeat (first | refine blk_drewN ?_ _ | refine blk_drew ?_ | refine blk_alloc ?_ _)); exact BK110.out)) : gb111 ≠ gb110)); clear BK110; clear HB; have BK110 := n0_; have HB := n1_; have BK111 := n2_; have GW111 := n3_; have GE111 := n4_; have NB110_111 := n5_; have NB111_110 := n6_; clear n0_ n1_ n2_ n3_ n4_ n5_ n6_; clear hb hbox hg) | ((with_reducible refine gate_dst (N := 12) rfl ?_); refine box_event ?hg (N := 12) ?hd (cs := #[.string (⟨#[]⟩ : ByteArray), .string (⟨#[]⟩ : ByteArray), .int .i64 0, .int .i64 0, .int .i64 0, .int .i64 0, .string (⟨#[]⟩ : ByteArray)]) (t := 40) ?hr ?_; (case hd => rfl); (case hg => rfl); (case hr => first | (go_simp; done) | (go_simp; rfl)); intro gb112 hg w51 hbox hb; have n0_ := Aside0.mk (blk_below (g := gb110) (o := .cells #[.slice A0_0 l0_0.length c0_0, .int .i64 a0_1] 24 (0, 0)) (by (with_reducible repeat (first | refine blk_drewN ?_ _ | refine blk_drew ?_ | refine blk_alloc ?_ _)); exact BK110.out) hb); have n1_ := Aside0.mk (blk_below (g := gb111) (o := .cells #[.string a1_0, .string a1_1, .int .i64 a1_2, .int .i64 a1_3, .int .i64 a1_4, .int .i64 a1_5, .string a1_6] 40 (0, 0)) (by (with_reducible repeat (first | refine blk_drewN ?_ _ | refine blk_drew ?_ | refine blk_alloc ?_ _)); exact BK111.out) hb); have n2_ := Aside0.mk (below_step (by repeat (first | (with_reducible first | exact HB.out | apply below_alloc | apply pw_below_drewN | apply below_drew1 | refine below_set ?_ GE110.out | refine below_set ?_ GE111.out) | exact HB.out)) hb); have n3_ := Aside0.mk (hbox); have n4_ := Aside0.mk ((by rw [hg]; exact (below_size (by repeat (first | (with_reducible first | exact HB.out | apply below_alloc | apply pw_below_drewN | apply below_drew1 | refine below_set ?_ GE110.out | refine below_set ?_ GE111.out) | exact HB.out))) : w.heap.size ≤ gb112)); have n5_ := Aside0.mk ((by rw [hg]; exact (below_size (by repeat (first | (with_reducible first | exact HB.out | apply below_alloc | apply pw_below_drewN | apply below_drew1 | refine below_set ?_ GE110.out | refine below_set ?_ GE111.out) | exact HB.out))) : w.heap.size ≤ gb112)); have n6_ := Aside0.mk ((by rw [hg]; exact Nat.ne_of_lt (blk_lt (g := gb110) (o := .cells #[.slice A0_0 l0_0.length c0_0, .int .i64 a0_1] 24 (0, 0)) (by (with_reducible repeat (first | refine blk_drewN ?_ _ | refine blk_drew ?_ | refine blk_alloc ?_ _)); exact BK110.out)) : gb110 ≠ gb112)); have n7_ := Aside0.mk ((by rw [hg]; exact Nat.ne_of_gt (blk_lt (g := gb110) (o := .cells #[.slice A0_0 l0_0.length c0_0, .int .i64 a0_1] 24 (0, 0)) (by (with_reducible repeat (first | refine blk_drewN ?_ _ | refine blk_drew ?_ | refine blk_alloc ?_ _)); exact BK110.out)) : gb112 ≠ gb110)); have n8_ := Aside0.mk ((by rw [hg]; exact Nat.ne_of_lt (blk_lt (g := gb111) (o := .cells #[.string a1_0, .string a1_1, .int .i64 a1_2, .int .i64 a1_3, .int .i64 a1_4, .int .i64 a1_5, .string a1_6] 40 (0, 0)) (by (with_reducible repeat (first | refine blk_drewN ?_ _ | refine blk_drew ?_ | refine blk_alloc ?_ _)); exact BK111.out)) : gb111 ≠ gb112)); have n9_ := Aside0.mk ((by rw [hg]; exact Nat.ne_of_gt (blk_lt (g := gb111) (o := .cells #[.string a1_0, .string a1_1, .int .i64 a1_2, .int .i64 a1_3, .int .i64 a1_4, .int .i64 a1_5, .string a1_6] 40 (0, 0)) (by (with_reducible repeat (first | refine blk_drewN ?_ _ | refine blk_drew ?_ | refine blk_alloc ?_ _)); exact BK111.out)) : gb112 ≠ gb111)); clear BK110; clear BK111; clear HB; have BK110 := n0_; have BK111 := n1_; have HB := n2_; have BK112 := n3_; have GW112 := n4_; have GE112 := n5_; have NB110_112 := n6_; have NB112_110 := n7_; have NB111_112 := n8_; have NB112_111 := n9_; clear n0_ n1_ n2_ n3_ n4_ n5_ n6_ n7_ n8_ n9_; clear hb hbox hg) | ((with_reducible refine gate_callee (f := 22) rfl ?_); refine goesL_ (some 17) rfl rfl Try.func22 (by kernel_rfl) rfl #[.int .i64 a4] rfl (by (try simp only [List.map_toArray, List.map_cons, List.map_nil]); first | done | rfl | (simp only [List.length_drop, List.length_take]; rfl)) ?_; (with_reducible refine (reply_Class.calls a4 t113 _ A7.out).mono ?_); rintro e w' ⟨rfl, ⟨nd, rfl⟩⟩; refine ⟨_, rfl, ?_⟩; (try (rw [drewN_self w51]; generalize hq_ : World.drewN w51 _ = w51; have n0_ : Aside0 (w51.heap[gb110]? = some (.cells #[.slice A0_0 l0_0.length c0_0, .int .i64 a0_1] 24 (0, 0))) := ⟨by rw [← hq_]; exact (by (with_reducible repeat (first | refine blk_drewN ?_ _ | refine blk_drew ?_ | refine blk_alloc ?_ _)); exact BK110.out)⟩; have n1_ : Aside0 (w51.heap[gb111]? = some (.cells #[.string a1_0, .string a1_1, .int .i64 a1_2, .int .i64 a1_3, .int .i64 a1_4, .int .i64 a1_5, .string a1_6] 40 (0, 0))) := ⟨by rw [← hq_]; exact (by (with_reducible repeat (first | refine blk_drewN ?_ _ | refine blk_drew ?_ | refine blk_alloc ?_ _)); exact BK111.out)⟩; have n2_ : Aside0 (w51.heap[gb112]? = some (.cells #[.string (⟨#[]⟩ : ByteArray), .string (⟨#[]⟩ : ByteArray), .int .i64 0, .int .i64 0, .int .i64 0, .int .i64 0, .string (⟨#[]⟩ : ByteArray)] 40 (0, 0))) := ⟨by rw [← hq_]; exact (by (with_reducible repeat (first | refine blk_drewN ?_ _ | refine blk_drew ?_ | refine blk_alloc ?_ _)); exact BK112.out)⟩; have n3_ : Aside0 (Below w.heap.size w w51) := ⟨by rw [← hq_]; exact (by repeat (first | (with_reducible first | exact HB.out | apply below_alloc | apply pw_below_drewN | apply below_drew1 | refine below_set ?_ GE110.out | refine below_set ?_ GE111.out | refine below_set ?_ GE112.out) | exact HB.out))⟩; clear BK110 BK111 BK112 HB hq_; have BK110 := n0_; have BK111 := n1_; have BK112 := n2_; have HB := n3_; clear n0_ n1_ n2_ n3_)); have hnb52 := NB111_110.out; have hnc52 := NB110_111.out; have hnb53 := NB111_112.out; have hnc53 := NB112_111.out; have hcz54_0 : w51.cell? ⟨gb111, 0, none⟩ = some (.string a1_0) := (blk_cell BK111.out 0).trans rfl; have hcz54_1 : w51.cell? ⟨gb111, 1, none⟩ = some (.string a1_1) := (blk_cell BK111.out 1).trans rfl; have hcz54_2 : w51.cell? ⟨gb111, 2, none⟩ = some (.int .i64 a1_2) := (blk_cell BK111.out 2).trans rfl; have hcz54_3 : w51.cell? ⟨gb111, 3, none⟩ = some (.int .i64 a1_3) := (blk_cell BK111.out 3).trans rfl; have hcz54_4 : w51.cell? ⟨gb111, 4, none⟩ = some (.int .i64 a1_4) := (blk_cell BK111.out 4).trans rfl; have hcz54_5 : w51.cell? ⟨gb111, 5, none⟩ = some (.int .i64 a1_5) := (blk_cell BK111.out 5).trans rfl; have hcz54_6 : w51.cell? ⟨gb111, 6, none⟩ = some (.string a1_6) := (blk_cell BK111.out 6).trans rfl; have hfz54_0 := blk_frozen BK111.out 0; have hfz54_1 := blk_frozen BK111.out 1; have hfz54_2 := blk_frozen BK111.out 2; have hfz54_3 := blk_frozen BK111.out 3; have hfz54_4 := blk_frozen BK111.out 4; have hfz54_5 := blk_frozen BK111.out 5; have hfz54_6 := blk_frozen BK111.out 6))
          have n0_ : Aside0 ((w51.setCell ⟨gb111, 3, none⟩ (.int .i64 ji8)).heap[gb110]? = some (.cells #[.slice A0_0 l0_0.length c0_0, .int .i64 a0_1] 24 (0, 0))) := ⟨by (with_reducible repeat (first | refine blk_drewN ?_ _ | refine blk_drew ?_ | refine blk_alloc ?_ _)); refine blk_far ?_ NB110_111.out _; (with_reducible repeat (first | refine blk_drewN ?_ _ | refine blk_drew ?_ | refine blk_alloc ?_ _)); exact BK110.out⟩
          have n1_ : Aside0 ((w51.setCell ⟨gb111, 3, none⟩ (.int .i64 ji8)).heap[gb111]? = some (.cells #[.string a1_0, .string a1_1, .int .i64 a1_2, .int .i64 ji8, .int .i64 a1_4, .int .i64 a1_5, .string a1_6] 40 (0, 0))) := ⟨by (with_reducible repeat (first | refine blk_drewN ?_ _ | refine blk_drew ?_ | refine blk_alloc ?_ _)); refine blk_put (cs := #[.string a1_0, .string a1_1, .int .i64 a1_2, .int .i64 a1_3, .int .i64 a1_4, .int .i64 a1_5, .string a1_6]) ?_ 3 _ rfl; (with_reducible repeat (first | refine blk_drewN ?_ _ | refine blk_drew ?_ | refine blk_alloc ?_ _)); exact BK111.out⟩
          have n2_ : Aside0 ((w51.setCell ⟨gb111, 3, none⟩ (.int .i64 ji8)).heap[gb112]? = some (.cells #[.string (⟨#[]⟩ : ByteArray), .string (⟨#[]⟩ : ByteArray), .int .i64 0, .int .i64 0, .int .i64 0, .int .i64 0, .string (⟨#[]⟩ : ByteArray)] 40 (0, 0))) := ⟨by (with_reducible repeat (first | refine blk_drewN ?_ _ | refine blk_drew ?_ | refine blk_alloc ?_ _)); refine blk_far ?_ NB112_111.out _; (with_reducible repeat (first | refine blk_drewN ?_ _ | refine blk_drew ?_ | refine blk_alloc ?_ _)); exact BK112.out⟩
          have n3_ : Aside0 (Below w.heap.size w (w51.setCell ⟨gb111, 3, none⟩ (.int .i64 ji8))) := ⟨by repeat (first | (with_reducible first | exact HB.out | apply below_alloc | apply pw_below_drewN | apply below_drew1 | refine below_set ?_ GE110.out | refine below_set ?_ GE111.out | refine below_set ?_ GE112.out) | exact HB.out)⟩
          (try clear BK110)
          (try clear BK111)
          (try clear BK112)
          (try clear HB)
          generalize (w51.setCell ⟨gb111, 3, none⟩ (.int .i64 ji8)) = w55 at n0_ n1_ n2_ n3_ ⊢
          have BK110 := n0_
          have BK111 := n1_
          have BK112 := n2_
          have HB := n3_
          clear n0_ n1_ n2_ n3_
          have n0_ := Aside0.mk (blk_drew BK110.out)
          have n1_ := Aside0.mk (blk_drew BK111.out)
          have n2_ := Aside0.mk (blk_drew BK112.out)
          have n3_ := Aside0.mk (below_drew1 HB.out)
          clear BK110
          clear BK111
          clear BK112
          clear HB
          have BK110 := n0_
          have BK111 := n1_
          have BK112 := n2_
          have HB := n3_
          clear n0_ n1_ n2_ n3_
          refine start_ (n := 10) (S := fun w' => True) (ds := []) #[false, false, false, false, false, false, false, false, false, false] (by kernel_rfl) rfl rfl trivial (fun hHeld => ?_); refine with_tabW retry_Done.tab3 retry_Done.bits3 (fun HT_ HW_ => ?_)
          generalize w55.drew = w56 at BK110 BK111 BK112 HB hHeld ⊢
          refine pure_ (i := 0) (N := some 23) (v := ?_) (a' := ?_) #[true, false, false, false, false, false, false, false, false, false] rfl rfl (any_of HT_.out (by kernel_rfl)) (fun _ _ _ h => h) (Or.inl ⟨by rfl, ?_⟩) ?_ ?_
          rotate_left
          · intro w'
            go_simp
            with_reducible rfl
          rotate_left
          · simp only [Act.put, List.setIfInBounds_toArray, List.set_cons_zero, List.set_cons_succ, i64_w, i32_w]
            rfl
          refine pure_ (i := 1) (N := some 24) (v := ?_) (a' := ?_) #[true, true, false, false, false, false, false, false, false, false] rfl rfl (any_of HT_.out (by kernel_rfl)) (fun _ _ _ h => h) (Or.inl ⟨by rfl, ?_⟩) ?_ ?_
          rotate_left
          · intro w'
            go_simp
            with_reducible rfl
          rotate_left
          · simp only [Act.put, List.setIfInBounds_toArray, List.set_cons_zero, List.set_cons_succ, i64_w, i32_w]
            rfl
          refine pure_ (i := 2) (N := some 25) (v := ?_) (a' := ?_) #[true, true, true, false, false, false, false, false, false, false] rfl rfl (any_of HT_.out (by kernel_rfl)) (fun _ _ _ h => h) (Or.inl ⟨by rfl, ?_⟩) ?_ ?_
          rotate_left
          · intro w'
            go_simp
            with_reducible rfl
          rotate_left
          · simp only [Act.put, List.setIfInBounds_toArray, List.set_cons_zero, List.set_cons_succ, i64_w, i32_w]
            rfl
          refine pure_ (i := 3) (N := some 26) (v := ?_) (a' := ?_) #[true, true, true, true, false, false, false, false, false, false] rfl rfl (any_of HT_.out (by kernel_rfl)) (fun _ _ _ h => h) (Or.inl ⟨by rfl, ?_⟩) ?_ ?_
          rotate_left
          · intro w'
            go_simp
            with_reducible rfl
          rotate_left
          · simp only [Act.put, List.setIfInBounds_toArray, List.set_cons_zero, List.set_cons_succ, i64_w, i32_w]
            rfl
          refine pure_ (i := 4) (N := some 27) (v := ?_) (a' := ?_) #[true, true, true, true, true, false, false, false, false, false] rfl rfl (any_of HT_.out (by kernel_rfl)) (fun _ _ _ h => h) (Or.inl ⟨by rfl, ?_⟩) ?_ ?_
          rotate_left
          · intro w'
            go_simp
            with_reducible rfl
          rotate_left
          · simp only [Act.put, List.setIfInBounds_toArray, List.set_cons_zero, List.set_cons_succ, i64_w, i32_w]
            rfl
          refine pure_ (i := 5) (N := some 28) (v := ?_) (a' := ?_) #[true, true, true, true, true, true, false, false, false, false] rfl rfl (any_of HT_.out (by kernel_rfl)) (fun _ _ _ h => h) (Or.inl ⟨by rfl, ?_⟩) ?_ ?_
          rotate_left
          · intro w'
            go_simp
            with_reducible rfl
          rotate_left
          · simp only [Act.put, List.setIfInBounds_toArray, List.set_cons_zero, List.set_cons_succ, i64_w, i32_w]
            rfl
          refine pure_ (i := 6) (N := some 29) (v := ?_) (a' := ?_) #[true, true, true, true, true, true, true, false, false, false] rfl rfl (any_of HT_.out (by kernel_rfl)) (fun _ _ _ h => h) (Or.inl ⟨by rfl, ?_⟩) ?_ ?_
          rotate_left
          · intro w'
            go_simp
            with_reducible rfl
          rotate_left
          · simp only [Act.put, List.setIfInBounds_toArray, List.set_cons_zero, List.set_cons_succ, i64_w, i32_w]
            rfl
          refine one_ (i := 7) (N := none) #[true, true, true, true, true, true, true, true, false, false] rfl rfl (one_of HT_.out (by kernel_rfl)) (by decide) (fun K hK => ?_)
          have hs57 : w56.cell? ⟨gb111, 5, none⟩ = some (.int .i64 a1_5) := (blk_cell BK111.out 5).trans rfl
          have hfs57 := blk_frozen BK111.out 5
          have hns57_0 := NB110_111.out
          have hns57_2 := NB112_111.out
          have hms57_0 := NB111_110.out
          have hms57_2 := NB111_112.out
          refine skip_ (w1 := ?_) (by rfl) rfl ?_ ?_
          rotate_left
          · go_simp
            rfl
          refine hK.out _ _ trivial (fun hHeld => ?_)
          clear hK K
          refine pure_ (i := 8) (N := some 30) (v := ?_) (a' := ?_) #[true, true, true, true, true, true, true, true, true, false] rfl rfl (any_of HT_.out (by kernel_rfl)) (fun _ _ _ h => h) (Or.inl ⟨by rfl, ?_⟩) ?_ ?_
          rotate_left
          · intro w'
            go_simp
            with_reducible rfl
          rotate_left
          · simp only [Act.put, List.setIfInBounds_toArray, List.set_cons_zero, List.set_cons_succ, i64_w, i32_w]
            rfl
          refine one_ (i := 9) (N := none) #[true, true, true, true, true, true, true, true, true, true] rfl rfl (one_of HT_.out (by kernel_rfl)) (by decide) (fun K hK => ?_)
          have hs58 : w56.cell? ⟨gb111, 6, none⟩ = some (.string a1_6) := (blk_cell BK111.out 6).trans rfl
          have hfs58 := blk_frozen BK111.out 6
          have hns58_0 := NB110_111.out
          have hns58_2 := NB112_111.out
          have hms58_0 := NB111_110.out
          have hms58_2 := NB111_112.out
          refine skip_ (w1 := ?_) (by rfl) rfl ?_ ?_
          rotate_left
          · go_simp
            rfl
          refine hK.out _ _ trivial (fun hHeld => ?_)
          clear hK K
          refine done_ (done_of HT_.out (by kernel_rfl)) ?_
          have hcz59_0 : w56.cell? ⟨gb111, 0, none⟩ = some (.string a1_0) := (blk_cell BK111.out 0).trans rfl
          have hcz59_1 : w56.cell? ⟨gb111, 1, none⟩ = some (.string a1_1) := (blk_cell BK111.out 1).trans rfl
          have hcz59_2 : w56.cell? ⟨gb111, 2, none⟩ = some (.int .i64 a1_2) := (blk_cell BK111.out 2).trans rfl
          have hcz59_3 : w56.cell? ⟨gb111, 3, none⟩ = some (.int .i64 ji8) := (blk_cell BK111.out 3).trans rfl
          have hcz59_4 : w56.cell? ⟨gb111, 4, none⟩ = some (.int .i64 a1_4) := (blk_cell BK111.out 4).trans rfl
          have hcz59_5 : w56.cell? ⟨gb111, 5, none⟩ = some (.int .i64 a1_5) := (blk_cell BK111.out 5).trans rfl
          have hcz59_6 : w56.cell? ⟨gb111, 6, none⟩ = some (.string a1_6) := (blk_cell BK111.out 6).trans rfl
          have hfz59_0 := blk_frozen BK111.out 0
          have hfz59_1 := blk_frozen BK111.out 1
          have hfz59_2 := blk_frozen BK111.out 2
          have hfz59_3 := blk_frozen BK111.out 3
          have hfz59_4 := blk_frozen BK111.out 4
          have hfz59_5 := blk_frozen BK111.out 5
          have hfz59_6 := blk_frozen BK111.out 6
          have hnb60 := NB112_110.out
          have hnc60 := NB110_112.out
          have hcz61_0 : w56.cell? ⟨gb112, 0, none⟩ = some (.string (⟨#[]⟩ : ByteArray)) := (blk_cell BK112.out 0).trans rfl
          have hcz61_1 : w56.cell? ⟨gb112, 1, none⟩ = some (.string (⟨#[]⟩ : ByteArray)) := (blk_cell BK112.out 1).trans rfl
          have hcz61_2 : w56.cell? ⟨gb112, 2, none⟩ = some (.int .i64 0) := (blk_cell BK112.out 2).trans rfl
          have hcz61_3 : w56.cell? ⟨gb112, 3, none⟩ = some (.int .i64 0) := (blk_cell BK112.out 3).trans rfl
          have hcz61_4 : w56.cell? ⟨gb112, 4, none⟩ = some (.int .i64 0) := (blk_cell BK112.out 4).trans rfl
          have hcz61_5 : w56.cell? ⟨gb112, 5, none⟩ = some (.int .i64 0) := (blk_cell BK112.out 5).trans rfl
          have hcz61_6 : w56.cell? ⟨gb112, 6, none⟩ = some (.string (⟨#[]⟩ : ByteArray)) := (blk_cell BK112.out 6).trans rfl
          have hfz61_0 := blk_frozen BK112.out 0
          have hfz61_1 := blk_frozen BK112.out 1
          have hfz61_2 := blk_frozen BK112.out 2
          have hfz61_3 := blk_frozen BK112.out 3
          have hfz61_4 := blk_frozen BK112.out 4
          have hfz61_5 := blk_frozen BK112.out 5
          have hfz61_6 := blk_frozen BK112.out 6
          try go_wp2
          refine bodyPost_ret (results_cell_row rfl _ _ gb112 40 #[.string a1_0, .string a1_1, .int .i64 3, .int .i64 ji8, .int .i64 a1_4, .int .i64 a4, .string (a5.extract 0 ((ji9) : Int).toNat)] (0, 0) _ rfl (by (with_reducible repeat (first | refine blk_drewN ?_ _ | refine blk_drew ?_ | refine blk_alloc ?_ _)); refine blk_put (cs := #[.string a1_0, .string a1_1, .int .i64 3, .int .i64 ji8, .int .i64 a1_4, .int .i64 a4, .string (⟨#[]⟩ : ByteArray)]) ?_ 6 _ rfl; (with_reducible repeat (first | refine blk_drewN ?_ _ | refine blk_drew ?_ | refine blk_alloc ?_ _)); refine blk_put (cs := #[.string a1_0, .string a1_1, .int .i64 3, .int .i64 ji8, .int .i64 a1_4, .int .i64 0, .string (⟨#[]⟩ : ByteArray)]) ?_ 5 _ rfl; (with_reducible repeat (first | refine blk_drewN ?_ _ | refine blk_drew ?_ | refine blk_alloc ?_ _)); refine blk_put (cs := #[.string a1_0, .string a1_1, .int .i64 3, .int .i64 ji8, .int .i64 0, .int .i64 0, .string (⟨#[]⟩ : ByteArray)]) ?_ 4 _ rfl; (with_reducible repeat (first | refine blk_drewN ?_ _ | refine blk_drew ?_ | refine blk_alloc ?_ _)); refine blk_put (cs := #[.string a1_0, .string a1_1, .int .i64 3, .int .i64 0, .int .i64 0, .int .i64 0, .string (⟨#[]⟩ : ByteArray)]) ?_ 3 _ rfl; (with_reducible repeat (first | refine blk_drewN ?_ _ | refine blk_drew ?_ | refine blk_alloc ?_ _)); refine blk_put (cs := #[.string a1_0, .string a1_1, .int .i64 0, .int .i64 0, .int .i64 0, .int .i64 0, .string (⟨#[]⟩ : ByteArray)]) ?_ 2 _ rfl; (with_reducible repeat (first | refine blk_drewN ?_ _ | refine blk_drew ?_ | refine blk_alloc ?_ _)); refine blk_put (cs := #[.string a1_0, .string (⟨#[]⟩ : ByteArray), .int .i64 0, .int .i64 0, .int .i64 0, .int .i64 0, .string (⟨#[]⟩ : ByteArray)]) ?_ 1 _ rfl; (with_reducible repeat (first | refine blk_drewN ?_ _ | refine blk_drew ?_ | refine blk_alloc ?_ _)); refine blk_put (cs := #[.string (⟨#[]⟩ : ByteArray), .string (⟨#[]⟩ : ByteArray), .int .i64 0, .int .i64 0, .int .i64 0, .int .i64 0, .string (⟨#[]⟩ : ByteArray)]) ?_ 0 _ rfl; (with_reducible repeat (first | refine blk_drewN ?_ _ | refine blk_drew ?_ | refine blk_alloc ?_ _)); refine blk_far ?_ NB112_111.out _; (with_reducible repeat (first | refine blk_drewN ?_ _ | refine blk_drew ?_ | refine blk_alloc ?_ _)); refine blk_far ?_ NB112_111.out _; (with_reducible repeat (first | refine blk_drewN ?_ _ | refine blk_drew ?_ | refine blk_alloc ?_ _)); refine blk_far ?_ NB112_111.out _; (with_reducible repeat (first | refine blk_drewN ?_ _ | refine blk_drew ?_ | refine blk_alloc ?_ _)); exact BK112.out) Try.underlying40 rfl (by kernel_rfl)) rfl ?_
          exact ⟨by first | rfl | (simp [errW_none, errW_some] <;> rfl) | (simp only [← hji8, ← hji9]; first | rfl | (simp [errW_none, errW_some] <;> rfl)) | (simp [*, errW_none, errW_some] <;> rfl), by repeat (first | (with_reducible first | exact HB.out | apply below_alloc | apply pw_below_drewN | apply below_drew1 | refine below_set ?_ GE110.out | refine below_set ?_ GE111.out | refine below_set ?_ GE112.out) | exact HB.out)⟩
        · rw [if_neg c48] at H
          have c48b0 : (t113 == 2) = false := beq_eq_false_iff_ne.mpr c48
          have c48b1 : (t113 != 2) = true := bne_iff_ne.mpr c48
          by_cases c62 : t113 = 5
          · rw [if_pos c62] at H
            have c62b0 : (t113 == 5) = true := beq_iff_eq.mpr c62
            have c62b1 : (t113 != 5) = false := bne_eq_false_iff_eq.mpr c62
            clear c62
            simp only [Option.some.injEq, Prod.mk.injEq] at H
            obtain ⟨rfl, rfl, rfl, rfl, rfl, rfl, rfl⟩ := H
            go_enter Try.func17, Try.ntmps17
            try go_wp2_with (first | ((with_reducible refine gate_dst (N := 6) rfl ?_); refine box_event ?hg (N := 6) ?hd (cs := #[.slice A0_0 l0_0.length c0_0, .int .i64 a0_1]) (t := 24) ?hr ?_; (case hd => rfl); (case hg => rfl); (case hr => first | (go_simp; done) | (go_simp; rfl)); intro gb110 hg w63 hbox hb; have n0_ := Aside0.mk (below_step (by repeat (first | (with_reducible first | exact HB.out | apply below_alloc | apply pw_below_drewN | apply below_drew1) | exact HB.out)) hb); have n1_ := Aside0.mk (hbox); have n2_ := Aside0.mk ((by rw [hg]; exact (below_size (by repeat (first | (with_reducible first | exact HB.out | apply below_alloc | apply pw_below_drewN | apply below_drew1) | exact HB.out))) : w.heap.size ≤ gb110)); have n3_ := Aside0.mk ((by rw [hg]; exact (below_size (by repeat (first | (with_reducible first | exact HB.out | apply below_alloc | apply pw_below_drewN | apply below_drew1) | exact HB.out))) : w.heap.size ≤ gb110)); clear HB; have HB := n0_; have BK110 := n1_; have GW110 := n2_; have GE110 := n3_; clear n0_ n1_ n2_ n3_; clear hb hbox hg) | ((with_reducible refine gate_dst (N := 7) rfl ?_); refine box_event ?hg (N := 7) ?hd (cs := #[.string a1_0, .string a1_1, .int .i64 a1_2, .int .i64 a1_3, .int .i64 a1_4, .int .i64 a1_5, .string a1_6]) (t := 40) ?hr ?_; (case hd => rfl); (case hg => rfl); (case hr => first | (go_simp; done) | (go_simp; rfl)); intro gb111 hg w64 hbox hb; have n0_ := Aside0.mk (blk_below (g := gb110) (o := .cells #[.slice A0_0 l0_0.length c0_0, .int .i64 a0_1] 24 (0, 0)) (by (with_reducible repeat (first | refine blk_drewN ?_ _ | refine blk_drew ?_ | refine blk_alloc ?_ _)); exact BK110.out) hb); have n1_ := Aside0.mk (below_step (by repeat (first | (with_reducible first | exact HB.out | apply below_alloc | apply pw_below_drewN | apply below_drew1 | refine below_set ?_ GE110.out) | exact HB.out)) hb); have n2_ := Aside0.mk (hbox); have n3_ := Aside0.mk ((by rw [hg]; exact (below_size (by repeat (first | (with_reducible first | exact HB.out | apply below_alloc | apply pw_below_drewN | apply below_drew1 | refine below_set ?_ GE110.out) | exact HB.out))) : w.heap.size ≤ gb111)); have n4_ := Aside0.mk ((by rw [hg]; exact (below_size (by repeat (first | (with_reducible first | exact HB.out | apply below_alloc | apply pw_below_drewN | apply below_drew1 | refine below_set ?_ GE110.out) | exact HB.out))) : w.heap.size ≤ gb111)); have n5_ := Aside0.mk ((by rw [hg]; exact Nat.ne_of_lt (blk_lt (g := gb110) (o := .cells #[.slice A0_0 l0_0.length c0_0, .int .i64 a0_1] 24 (0, 0)) (by (with_reducible repeat (first | refine blk_drewN ?_ _ | refine blk_drew ?_ | refine blk_alloc ?_ _)); exact BK110.out)) : gb110 ≠ gb111)); have n6_ := Aside0.mk ((by rw [hg]; exact Nat.ne_of_gt (blk_lt (g := gb110) (o := .cells #[.slice A0_0 l0_0.length c0_0, .int .i64 a0_1] 24 (0, 0)) (by (with_reducible repeat (first | refine blk_drewN ?_ _ | refine blk_drew ?_ | refine blk_alloc ?_ _)); exact BK110.out)) : gb111 ≠ gb110)); clear BK110; clear HB; have BK110 := n0_; have HB := n1_; have BK111 := n2_; have GW111 := n3_; have GE111 := n4_; have NB110_111 := n5_; have NB111_110 := n6_; clear n0_ n1_ n2_ n3_ n4_ n5_ n6_; clear hb hbox hg) | ((with_reducible refine gate_dst (N := 12) rfl ?_); refine box_event ?hg (N := 12) ?hd (cs := #[.string (⟨#[]⟩ : ByteArray), .string (⟨#[]⟩ : ByteArray), .int .i64 0, .int .i64 0, .int .i64 0, .int .i64 0, .string (⟨#[]⟩ : ByteArray)]) (t := 40) ?hr ?_; (case hd => rfl); (case hg => rfl); (case hr => first | (go_simp; done) | (go_simp; rfl)); intro gb112 hg w65 hbox hb; have n0_ := Aside0.mk (blk_below (g := gb110) (o := .cells #[.slice A0_0 l0_0.length c0_0, .int .i64 a0_1] 24 (0, 0)) (by (with_reducible repeat (first | refine blk_drewN ?_ _ | refine blk_drew ?_ | refine blk_alloc ?_ _)); exact BK110.out) hb); have n1_ := Aside0.mk (blk_below (g := gb111) (o := .cells #[.string a1_0, .string a1_1, .int .i64 a1_2, .int .i64 a1_3, .int .i64 a1_4, .int .i64 a1_5, .string a1_6] 40 (0, 0)) (by (with_reducible repeat (first | refine blk_drewN ?_ _ | refine blk_drew ?_ | refine blk_alloc ?_ _)); exact BK111.out) hb); have n2_ := Aside0.mk (below_step (by repeat (first | (with_reducible first | exact HB.out | apply below_alloc | apply pw_below_drewN | apply below_drew1 | refine below_set ?_ GE110.out | refine below_set ?_ GE111.out) | exact HB.out)) hb); have n3_ := Aside0.mk (hbox); have n4_ := Aside0.mk ((by rw [hg]; exact (below_size (by repeat (first | (with_reducible first | exact HB.out | apply below_alloc | apply pw_below_drewN | apply below_drew1 | refine below_set ?_ GE110.out | refine below_set ?_ GE111.out) | exact HB.out))) : w.heap.size ≤ gb112)); have n5_ := Aside0.mk ((by rw [hg]; exact (below_size (by repeat (first | (with_reducible first | exact HB.out | apply below_alloc | apply pw_below_drewN | apply below_drew1 | refine below_set ?_ GE110.out | refine below_set ?_ GE111.out) | exact HB.out))) : w.heap.size ≤ gb112)); have n6_ := Aside0.mk ((by rw [hg]; exact Nat.ne_of_lt (blk_lt (g := gb110) (o := .cells #[.slice A0_0 l0_0.length c0_0, .int .i64 a0_1] 24 (0, 0)) (by (with_reducible repeat (first | refine blk_drewN ?_ _ | refine blk_drew ?_ | refine blk_alloc ?_ _)); exact BK110.out)) : gb110 ≠ gb112)); have n7_ := Aside0.mk ((by rw [hg]; exact Nat.ne_of_gt (blk_lt (g := gb110) (o := .cells #[.slice A0_0 l0_0.length c0_0, .int .i64 a0_1] 24 (0, 0)) (by (with_reducible repeat (first | refine blk_drewN ?_ _ | refine blk_drew ?_ | refine blk_alloc ?_ _)); exact BK110.out)) : gb112 ≠ gb110)); have n8_ := Aside0.mk ((by rw [hg]; exact Nat.ne_of_lt (blk_lt (g := gb111) (o := .cells #[.string a1_0, .string a1_1, .int .i64 a1_2, .int .i64 a1_3, .int .i64 a1_4, .int .i64 a1_5, .string a1_6] 40 (0, 0)) (by (with_reducible repeat (first | refine blk_drewN ?_ _ | refine blk_drew ?_ | refine blk_alloc ?_ _)); exact BK111.out)) : gb111 ≠ gb112)); have n9_ := Aside0.mk ((by rw [hg]; exact Nat.ne_of_gt (blk_lt (g := gb111) (o := .cells #[.string a1_0, .string a1_1, .int .i64 a1_2, .int .i64 a1_3, .int .i64 a1_4, .int .i64 a1_5, .string a1_6] 40 (0, 0)) (by (with_reducible repeat (first | refine blk_drewN ?_ _ | refine blk_drew ?_ | refine blk_alloc ?_ _)); exact BK111.out)) : gb112 ≠ gb111)); clear BK110; clear BK111; clear HB; have BK110 := n0_; have BK111 := n1_; have HB := n2_; have BK112 := n3_; have GW112 := n4_; have GE112 := n5_; have NB110_112 := n6_; have NB112_110 := n7_; have NB111_112 := n8_; have NB112_111 := n9_; clear n0_ n1_ n2_ n3_ n4_ n5_ n6_ n7_ n8_ n9_; clear hb hbox hg) | ((with_reducible refine gate_callee (f := 22) rfl ?_); refine goesL_ (some 17) rfl rfl Try.func22 (by kernel_rfl) rfl #[.int .i64 a4] rfl (by (try simp only [List.map_toArray, List.map_cons, List.map_nil]); first | done | rfl | (simp only [List.length_drop, List.length_take]; rfl)) ?_; (with_reducible refine (reply_Class.calls a4 t113 _ A7.out).mono ?_); rintro e w' ⟨rfl, ⟨nd, rfl⟩⟩; refine ⟨_, rfl, ?_⟩; (try (rw [drewN_self w65]; generalize hq_ : World.drewN w65 _ = w65; have n0_ : Aside0 (w65.heap[gb110]? = some (.cells #[.slice A0_0 l0_0.length c0_0, .int .i64 a0_1] 24 (0, 0))) := ⟨by rw [← hq_]; exact (by (with_reducible repeat (first | refine blk_drewN ?_ _ | refine blk_drew ?_ | refine blk_alloc ?_ _)); exact BK110.out)⟩; have n1_ : Aside0 (w65.heap[gb111]? = some (.cells #[.string a1_0, .string a1_1, .int .i64 a1_2, .int .i64 a1_3, .int .i64 a1_4, .int .i64 a1_5, .string a1_6] 40 (0, 0))) := ⟨by rw [← hq_]; exact (by (with_reducible repeat (first | refine blk_drewN ?_ _ | refine blk_drew ?_ | refine blk_alloc ?_ _)); exact BK111.out)⟩; have n2_ : Aside0 (w65.heap[gb112]? = some (.cells #[.string (⟨#[]⟩ : ByteArray), .string (⟨#[]⟩ : ByteArray), .int .i64 0, .int .i64 0, .int .i64 0, .int .i64 0, .string (⟨#[]⟩ : ByteArray)] 40 (0, 0))) := ⟨by rw [← hq_]; exact (by (with_reducible repeat (first | refine blk_drewN ?_ _ | refine blk_drew ?_ | refine blk_alloc ?_ _)); exact BK112.out)⟩; have n3_ : Aside0 (Below w.heap.size w w65) := ⟨by rw [← hq_]; exact (by repeat (first | (with_reducible first | exact HB.out | apply below_alloc | apply pw_below_drewN | apply below_drew1 | refine below_set ?_ GE110.out | refine below_set ?_ GE111.out | refine below_set ?_ GE112.out) | exact HB.out))⟩; clear BK110 BK111 BK112 HB hq_; have BK110 := n0_; have BK111 := n1_; have BK112 := n2_; have HB := n3_; clear n0_ n1_ n2_ n3_)); have hnb66 := NB111_110.out; have hnc66 := NB110_111.out; have hnb67 := NB111_112.out; have hnc67 := NB112_111.out; have hcz68_0 : w65.cell? ⟨gb111, 0, none⟩ = some (.string a1_0) := (blk_cell BK111.out 0).trans rfl; have hcz68_1 : w65.cell? ⟨gb111, 1, none⟩ = some (.string a1_1) := (blk_cell BK111.out 1).trans rfl; have hcz68_2 : w65.cell? ⟨gb111, 2, none⟩ = some (.int .i64 a1_2) := (blk_cell BK111.out 2).trans rfl; have hcz68_3 : w65.cell? ⟨gb111, 3, none⟩ = some (.int .i64 a1_3) := (blk_cell BK111.out 3).trans rfl; have hcz68_4 : w65.cell? ⟨gb111, 4, none⟩ = some (.int .i64 a1_4) := (blk_cell BK111.out 4).trans rfl; have hcz68_5 : w65.cell? ⟨gb111, 5, none⟩ = some (.int .i64 a1_5) := (blk_cell BK111.out 5).trans rfl; have hcz68_6 : w65.cell? ⟨gb111, 6, none⟩ = some (.string a1_6) := (blk_cell BK111.out 6).trans rfl; have hfz68_0 := blk_frozen BK111.out 0; have hfz68_1 := blk_frozen BK111.out 1; have hfz68_2 := blk_frozen BK111.out 2; have hfz68_3 := blk_frozen BK111.out 3; have hfz68_4 := blk_frozen BK111.out 4; have hfz68_5 := blk_frozen BK111.out 5; have hfz68_6 := blk_frozen BK111.out 6))
            have n0_ : Aside0 ((w65.setCell ⟨gb111, 3, none⟩ (.int .i64 ji8)).heap[gb110]? = some (.cells #[.slice A0_0 l0_0.length c0_0, .int .i64 a0_1] 24 (0, 0))) := ⟨by (with_reducible repeat (first | refine blk_drewN ?_ _ | refine blk_drew ?_ | refine blk_alloc ?_ _)); refine blk_far ?_ NB110_111.out _; (with_reducible repeat (first | refine blk_drewN ?_ _ | refine blk_drew ?_ | refine blk_alloc ?_ _)); exact BK110.out⟩
            have n1_ : Aside0 ((w65.setCell ⟨gb111, 3, none⟩ (.int .i64 ji8)).heap[gb111]? = some (.cells #[.string a1_0, .string a1_1, .int .i64 a1_2, .int .i64 ji8, .int .i64 a1_4, .int .i64 a1_5, .string a1_6] 40 (0, 0))) := ⟨by (with_reducible repeat (first | refine blk_drewN ?_ _ | refine blk_drew ?_ | refine blk_alloc ?_ _)); refine blk_put (cs := #[.string a1_0, .string a1_1, .int .i64 a1_2, .int .i64 a1_3, .int .i64 a1_4, .int .i64 a1_5, .string a1_6]) ?_ 3 _ rfl; (with_reducible repeat (first | refine blk_drewN ?_ _ | refine blk_drew ?_ | refine blk_alloc ?_ _)); exact BK111.out⟩
            have n2_ : Aside0 ((w65.setCell ⟨gb111, 3, none⟩ (.int .i64 ji8)).heap[gb112]? = some (.cells #[.string (⟨#[]⟩ : ByteArray), .string (⟨#[]⟩ : ByteArray), .int .i64 0, .int .i64 0, .int .i64 0, .int .i64 0, .string (⟨#[]⟩ : ByteArray)] 40 (0, 0))) := ⟨by (with_reducible repeat (first | refine blk_drewN ?_ _ | refine blk_drew ?_ | refine blk_alloc ?_ _)); refine blk_far ?_ NB112_111.out _; (with_reducible repeat (first | refine blk_drewN ?_ _ | refine blk_drew ?_ | refine blk_alloc ?_ _)); exact BK112.out⟩
            have n3_ : Aside0 (Below w.heap.size w (w65.setCell ⟨gb111, 3, none⟩ (.int .i64 ji8))) := ⟨by repeat (first | (with_reducible first | exact HB.out | apply below_alloc | apply pw_below_drewN | apply below_drew1 | refine below_set ?_ GE110.out | refine below_set ?_ GE111.out | refine below_set ?_ GE112.out) | exact HB.out)⟩
            (try clear BK110)
            (try clear BK111)
            (try clear BK112)
            (try clear HB)
            generalize (w65.setCell ⟨gb111, 3, none⟩ (.int .i64 ji8)) = w69 at n0_ n1_ n2_ n3_ ⊢
            have BK110 := n0_
            have BK111 := n1_
            have BK112 := n2_
            have HB := n3_
            clear n0_ n1_ n2_ n3_
            have n0_ := Aside0.mk (blk_drew BK110.out)
            have n1_ := Aside0.mk (blk_drew BK111.out)
            have n2_ := Aside0.mk (blk_drew BK112.out)
            have n3_ := Aside0.mk (below_drew1 HB.out)
            clear BK110
            clear BK111
            clear BK112
            clear HB
            have BK110 := n0_
            have BK111 := n1_
            have BK112 := n2_
            have HB := n3_
            clear n0_ n1_ n2_ n3_
            refine start_ (n := 10) (S := fun w' => True) (ds := []) #[false, false, false, false, false, false, false, false, false, false] (by kernel_rfl) rfl rfl trivial (fun hHeld => ?_); refine with_tabW retry_Done.tab3 retry_Done.bits3 (fun HT_ HW_ => ?_)
            generalize w69.drew = w70 at BK110 BK111 BK112 HB hHeld ⊢
            refine pure_ (i := 0) (N := some 23) (v := ?_) (a' := ?_) #[true, false, false, false, false, false, false, false, false, false] rfl rfl (any_of HT_.out (by kernel_rfl)) (fun _ _ _ h => h) (Or.inl ⟨by rfl, ?_⟩) ?_ ?_
            rotate_left
            · intro w'
              go_simp
              with_reducible rfl
            rotate_left
            · simp only [Act.put, List.setIfInBounds_toArray, List.set_cons_zero, List.set_cons_succ, i64_w, i32_w]
              rfl
            refine pure_ (i := 1) (N := some 24) (v := ?_) (a' := ?_) #[true, true, false, false, false, false, false, false, false, false] rfl rfl (any_of HT_.out (by kernel_rfl)) (fun _ _ _ h => h) (Or.inl ⟨by rfl, ?_⟩) ?_ ?_
            rotate_left
            · intro w'
              go_simp
              with_reducible rfl
            rotate_left
            · simp only [Act.put, List.setIfInBounds_toArray, List.set_cons_zero, List.set_cons_succ, i64_w, i32_w]
              rfl
            refine pure_ (i := 2) (N := some 25) (v := ?_) (a' := ?_) #[true, true, true, false, false, false, false, false, false, false] rfl rfl (any_of HT_.out (by kernel_rfl)) (fun _ _ _ h => h) (Or.inl ⟨by rfl, ?_⟩) ?_ ?_
            rotate_left
            · intro w'
              go_simp
              with_reducible rfl
            rotate_left
            · simp only [Act.put, List.setIfInBounds_toArray, List.set_cons_zero, List.set_cons_succ, i64_w, i32_w]
              rfl
            refine pure_ (i := 3) (N := some 26) (v := ?_) (a' := ?_) #[true, true, true, true, false, false, false, false, false, false] rfl rfl (any_of HT_.out (by kernel_rfl)) (fun _ _ _ h => h) (Or.inl ⟨by rfl, ?_⟩) ?_ ?_
            rotate_left
            · intro w'
              go_simp
              with_reducible rfl
            rotate_left
            · simp only [Act.put, List.setIfInBounds_toArray, List.set_cons_zero, List.set_cons_succ, i64_w, i32_w]
              rfl
            refine pure_ (i := 4) (N := some 27) (v := ?_) (a' := ?_) #[true, true, true, true, true, false, false, false, false, false] rfl rfl (any_of HT_.out (by kernel_rfl)) (fun _ _ _ h => h) (Or.inl ⟨by rfl, ?_⟩) ?_ ?_
            rotate_left
            · intro w'
              go_simp
              with_reducible rfl
            rotate_left
            · simp only [Act.put, List.setIfInBounds_toArray, List.set_cons_zero, List.set_cons_succ, i64_w, i32_w]
              rfl
            refine pure_ (i := 5) (N := some 28) (v := ?_) (a' := ?_) #[true, true, true, true, true, true, false, false, false, false] rfl rfl (any_of HT_.out (by kernel_rfl)) (fun _ _ _ h => h) (Or.inl ⟨by rfl, ?_⟩) ?_ ?_
            rotate_left
            · intro w'
              go_simp
              with_reducible rfl
            rotate_left
            · simp only [Act.put, List.setIfInBounds_toArray, List.set_cons_zero, List.set_cons_succ, i64_w, i32_w]
              rfl
            refine pure_ (i := 6) (N := some 29) (v := ?_) (a' := ?_) #[true, true, true, true, true, true, true, false, false, false] rfl rfl (any_of HT_.out (by kernel_rfl)) (fun _ _ _ h => h) (Or.inl ⟨by rfl, ?_⟩) ?_ ?_
            rotate_left
            · intro w'
              go_simp
              with_reducible rfl
            rotate_left
            · simp only [Act.put, List.setIfInBounds_toArray, List.set_cons_zero, List.set_cons_succ, i64_w, i32_w]
              rfl
            refine one_ (i := 7) (N := none) #[true, true, true, true, true, true, true, true, false, false] rfl rfl (one_of HT_.out (by kernel_rfl)) (by decide) (fun K hK => ?_)
            have hs71 : w70.cell? ⟨gb111, 5, none⟩ = some (.int .i64 a1_5) := (blk_cell BK111.out 5).trans rfl
            have hfs71 := blk_frozen BK111.out 5
            have hns71_0 := NB110_111.out
            have hns71_2 := NB112_111.out
            have hms71_0 := NB111_110.out
            have hms71_2 := NB111_112.out
            refine skip_ (w1 := ?_) (by rfl) rfl ?_ ?_
            rotate_left
            · go_simp
              rfl
            refine hK.out _ _ trivial (fun hHeld => ?_)
            clear hK K
            refine pure_ (i := 8) (N := some 30) (v := ?_) (a' := ?_) #[true, true, true, true, true, true, true, true, true, false] rfl rfl (any_of HT_.out (by kernel_rfl)) (fun _ _ _ h => h) (Or.inl ⟨by rfl, ?_⟩) ?_ ?_
            rotate_left
            · intro w'
              go_simp
              with_reducible rfl
            rotate_left
            · simp only [Act.put, List.setIfInBounds_toArray, List.set_cons_zero, List.set_cons_succ, i64_w, i32_w]
              rfl
            refine one_ (i := 9) (N := none) #[true, true, true, true, true, true, true, true, true, true] rfl rfl (one_of HT_.out (by kernel_rfl)) (by decide) (fun K hK => ?_)
            have hs72 : w70.cell? ⟨gb111, 6, none⟩ = some (.string a1_6) := (blk_cell BK111.out 6).trans rfl
            have hfs72 := blk_frozen BK111.out 6
            have hns72_0 := NB110_111.out
            have hns72_2 := NB112_111.out
            have hms72_0 := NB111_110.out
            have hms72_2 := NB111_112.out
            refine skip_ (w1 := ?_) (by rfl) rfl ?_ ?_
            rotate_left
            · go_simp
              rfl
            refine hK.out _ _ trivial (fun hHeld => ?_)
            clear hK K
            refine done_ (done_of HT_.out (by kernel_rfl)) ?_
            have hcz73_0 : w70.cell? ⟨gb111, 0, none⟩ = some (.string a1_0) := (blk_cell BK111.out 0).trans rfl
            have hcz73_1 : w70.cell? ⟨gb111, 1, none⟩ = some (.string a1_1) := (blk_cell BK111.out 1).trans rfl
            have hcz73_2 : w70.cell? ⟨gb111, 2, none⟩ = some (.int .i64 a1_2) := (blk_cell BK111.out 2).trans rfl
            have hcz73_3 : w70.cell? ⟨gb111, 3, none⟩ = some (.int .i64 ji8) := (blk_cell BK111.out 3).trans rfl
            have hcz73_4 : w70.cell? ⟨gb111, 4, none⟩ = some (.int .i64 a1_4) := (blk_cell BK111.out 4).trans rfl
            have hcz73_5 : w70.cell? ⟨gb111, 5, none⟩ = some (.int .i64 a1_5) := (blk_cell BK111.out 5).trans rfl
            have hcz73_6 : w70.cell? ⟨gb111, 6, none⟩ = some (.string a1_6) := (blk_cell BK111.out 6).trans rfl
            have hfz73_0 := blk_frozen BK111.out 0
            have hfz73_1 := blk_frozen BK111.out 1
            have hfz73_2 := blk_frozen BK111.out 2
            have hfz73_3 := blk_frozen BK111.out 3
            have hfz73_4 := blk_frozen BK111.out 4
            have hfz73_5 := blk_frozen BK111.out 5
            have hfz73_6 := blk_frozen BK111.out 6
            have hnb74 := NB112_110.out
            have hnc74 := NB110_112.out
            have hcz75_0 : w70.cell? ⟨gb112, 0, none⟩ = some (.string (⟨#[]⟩ : ByteArray)) := (blk_cell BK112.out 0).trans rfl
            have hcz75_1 : w70.cell? ⟨gb112, 1, none⟩ = some (.string (⟨#[]⟩ : ByteArray)) := (blk_cell BK112.out 1).trans rfl
            have hcz75_2 : w70.cell? ⟨gb112, 2, none⟩ = some (.int .i64 0) := (blk_cell BK112.out 2).trans rfl
            have hcz75_3 : w70.cell? ⟨gb112, 3, none⟩ = some (.int .i64 0) := (blk_cell BK112.out 3).trans rfl
            have hcz75_4 : w70.cell? ⟨gb112, 4, none⟩ = some (.int .i64 0) := (blk_cell BK112.out 4).trans rfl
            have hcz75_5 : w70.cell? ⟨gb112, 5, none⟩ = some (.int .i64 0) := (blk_cell BK112.out 5).trans rfl
            have hcz75_6 : w70.cell? ⟨gb112, 6, none⟩ = some (.string (⟨#[]⟩ : ByteArray)) := (blk_cell BK112.out 6).trans rfl
            have hfz75_0 := blk_frozen BK112.out 0
            have hfz75_1 := blk_frozen BK112.out 1
            have hfz75_2 := blk_frozen BK112.out 2
            have hfz75_3 := blk_frozen BK112.out 3
            have hfz75_4 := blk_frozen BK112.out 4
            have hfz75_5 := blk_frozen BK112.out 5
            have hfz75_6 := blk_frozen BK112.out 6
            try go_wp2
            refine bodyPost_ret (results_cell_row rfl _ _ gb112 40 #[.string a1_0, .string a1_1, .int .i64 4, .int .i64 ji8, .int .i64 a1_4, .int .i64 a4, .string (a5.extract 0 ((ji9) : Int).toNat)] (0, 0) _ rfl (by (with_reducible repeat (first | refine blk_drewN ?_ _ | refine blk_drew ?_ | refine blk_alloc ?_ _)); refine blk_put (cs := #[.string a1_0, .string a1_1, .int .i64 4, .int .i64 ji8, .int .i64 a1_4, .int .i64 a4, .string (⟨#[]⟩ : ByteArray)]) ?_ 6 _ rfl; (with_reducible repeat (first | refine blk_drewN ?_ _ | refine blk_drew ?_ | refine blk_alloc ?_ _)); refine blk_put (cs := #[.string a1_0, .string a1_1, .int .i64 4, .int .i64 ji8, .int .i64 a1_4, .int .i64 0, .string (⟨#[]⟩ : ByteArray)]) ?_ 5 _ rfl; (with_reducible repeat (first | refine blk_drewN ?_ _ | refine blk_drew ?_ | refine blk_alloc ?_ _)); refine blk_put (cs := #[.string a1_0, .string a1_1, .int .i64 4, .int .i64 ji8, .int .i64 0, .int .i64 0, .string (⟨#[]⟩ : ByteArray)]) ?_ 4 _ rfl; (with_reducible repeat (first | refine blk_drewN ?_ _ | refine blk_drew ?_ | refine blk_alloc ?_ _)); refine blk_put (cs := #[.string a1_0, .string a1_1, .int .i64 4, .int .i64 0, .int .i64 0, .int .i64 0, .string (⟨#[]⟩ : ByteArray)]) ?_ 3 _ rfl; (with_reducible repeat (first | refine blk_drewN ?_ _ | refine blk_drew ?_ | refine blk_alloc ?_ _)); refine blk_put (cs := #[.string a1_0, .string a1_1, .int .i64 0, .int .i64 0, .int .i64 0, .int .i64 0, .string (⟨#[]⟩ : ByteArray)]) ?_ 2 _ rfl; (with_reducible repeat (first | refine blk_drewN ?_ _ | refine blk_drew ?_ | refine blk_alloc ?_ _)); refine blk_put (cs := #[.string a1_0, .string (⟨#[]⟩ : ByteArray), .int .i64 0, .int .i64 0, .int .i64 0, .int .i64 0, .string (⟨#[]⟩ : ByteArray)]) ?_ 1 _ rfl; (with_reducible repeat (first | refine blk_drewN ?_ _ | refine blk_drew ?_ | refine blk_alloc ?_ _)); refine blk_put (cs := #[.string (⟨#[]⟩ : ByteArray), .string (⟨#[]⟩ : ByteArray), .int .i64 0, .int .i64 0, .int .i64 0, .int .i64 0, .string (⟨#[]⟩ : ByteArray)]) ?_ 0 _ rfl; (with_reducible repeat (first | refine blk_drewN ?_ _ | refine blk_drew ?_ | refine blk_alloc ?_ _)); refine blk_far ?_ NB112_111.out _; (with_reducible repeat (first | refine blk_drewN ?_ _ | refine blk_drew ?_ | refine blk_alloc ?_ _)); refine blk_far ?_ NB112_111.out _; (with_reducible repeat (first | refine blk_drewN ?_ _ | refine blk_drew ?_ | refine blk_alloc ?_ _)); refine blk_far ?_ NB112_111.out _; (with_reducible repeat (first | refine blk_drewN ?_ _ | refine blk_drew ?_ | refine blk_alloc ?_ _)); exact BK112.out) Try.underlying40 rfl (by kernel_rfl)) rfl ?_
            exact ⟨by first | rfl | (simp [errW_none, errW_some] <;> rfl) | (simp only [← hji8, ← hji9]; first | rfl | (simp [errW_none, errW_some] <;> rfl)) | (simp [*, errW_none, errW_some] <;> rfl), by repeat (first | (with_reducible first | exact HB.out | apply below_alloc | apply pw_below_drewN | apply below_drew1 | refine below_set ?_ GE110.out | refine below_set ?_ GE111.out | refine below_set ?_ GE112.out) | exact HB.out)⟩
          · rw [if_neg c62] at H
            have c62b0 : (t113 == 5) = false := beq_eq_false_iff_ne.mpr c62
            have c62b1 : (t113 != 5) = true := bne_iff_ne.mpr c62
            replace H := Option.bind_eq_some_iff.mp H
            obtain ⟨⟨t116, t117⟩, A760, H⟩ := H
            replace H : (if t117 = true then (some (a1_0, a1_1, a1_2, ji8, mn t116 2147483647, a4, a5.extract 0 ((ji9) : Int).toNat)) else (some (a1_0, a1_1, 4, ji8, a1_4, a4, a5.extract 0 ((ji9) : Int).toNat))) = some (r1, r2, r3, r4, r5, r6, r7) := H
            have A76 := Aside0.mk A760
            clear A760
            by_cases c77 : t117 = true
            · subst c77
              have H1 : (some (a1_0, a1_1, a1_2, ji8, mn t116 2147483647, a4, a5.extract 0 ((ji9) : Int).toNat)) = some (r1, r2, r3, r4, r5, r6, r7) := by rw [if_pos rfl] at H; exact H
              clear H
              have H := H1
              clear H1
              obtain ⟨ji78, hji78⟩ : ∃ j_ : Int, (mn t116 2147483647) = j_ := ⟨_, rfl⟩
              replace H : (some (a1_0, a1_1, a1_2, ji8, ji78, a4, a5.extract 0 ((ji9) : Int).toNat)) = some (r1, r2, r3, r4, r5, r6, r7) := by first | (rw [hji78] at H; exact H) | (simp only [hji78] at H ⊢; exact H)
              (try rw [hji78] at A7)
              (try rw [hji78] at A76)
              (try (have hji78h : ji78 ≤ 2147483647 := by (rw [← hji78]; unfold mn; (repeat' split) <;> omega)))
              (try (have hji78g : ji78 ≤ 64 := by omega))
              have hji78_ : (if 2147483647 < t116 then 2147483647 else t116) = ji78 := hji78
              simp only [Option.some.injEq, Prod.mk.injEq] at H
              obtain ⟨rfl, rfl, rfl, rfl, rfl, rfl, rfl⟩ := H
              go_enter Try.func17, Try.ntmps17
              try go_wp2_with (first | ((with_reducible refine gate_dst (N := 6) rfl ?_); refine box_event ?hg (N := 6) ?hd (cs := #[.slice A0_0 l0_0.length c0_0, .int .i64 a0_1]) (t := 24) ?hr ?_; (case hd => rfl); (case hg => rfl); (case hr => first | (go_simp; done) | (go_simp; rfl)); intro gb110 hg w79 hbox hb; have n0_ := Aside0.mk (below_step (by repeat (first | (with_reducible first | exact HB.out | apply below_alloc | apply pw_below_drewN | apply below_drew1) | exact HB.out)) hb); have n1_ := Aside0.mk (hbox); have n2_ := Aside0.mk ((by rw [hg]; exact (below_size (by repeat (first | (with_reducible first | exact HB.out | apply below_alloc | apply pw_below_drewN | apply below_drew1) | exact HB.out))) : w.heap.size ≤ gb110)); have n3_ := Aside0.mk ((by rw [hg]; exact (below_size (by repeat (first | (with_reducible first | exact HB.out | apply below_alloc | apply pw_below_drewN | apply below_drew1) | exact HB.out))) : w.heap.size ≤ gb110)); clear HB; have HB := n0_; have BK110 := n1_; have GW110 := n2_; have GE110 := n3_; clear n0_ n1_ n2_ n3_; clear hb hbox hg) | ((with_reducible refine gate_dst (N := 7) rfl ?_); refine box_event ?hg (N := 7) ?hd (cs := #[.string a1_0, .string a1_1, .int .i64 a1_2, .int .i64 a1_3, .int .i64 a1_4, .int .i64 a1_5, .string a1_6]) (t := 40) ?hr ?_; (case hd => rfl); (case hg => rfl); (case hr => first | (go_simp; done) | (go_simp; rfl)); intro gb111 hg w80 hbox hb; have n0_ := Aside0.mk (blk_below (g := gb110) (o := .cells #[.slice A0_0 l0_0.length c0_0, .int .i64 a0_1] 24 (0, 0)) (by (with_reducible repeat (first | refine blk_drewN ?_ _ | refine blk_drew ?_ | refine blk_alloc ?_ _)); exact BK110.out) hb); have n1_ := Aside0.mk (below_step (by repeat (first | (with_reducible first | exact HB.out | apply below_alloc | apply pw_below_drewN | apply below_drew1 | refine below_set ?_ GE110.out) | exact HB.out)) hb); have n2_ := Aside0.mk (hbox); have n3_ := Aside0.mk ((by rw [hg]; exact (below_size (by repeat (first | (with_reducible first | exact HB.out | apply below_alloc | apply pw_below_drewN | apply below_drew1 | refine below_set ?_ GE110.out) | exact HB.out))) : w.heap.size ≤ gb111)); have n4_ := Aside0.mk ((by rw [hg]; exact (below_size (by repeat (first | (with_reducible first | exact HB.out | apply below_alloc | apply pw_below_drewN | apply below_drew1 | refine below_set ?_ GE110.out) | exact HB.out))) : w.heap.size ≤ gb111)); have n5_ := Aside0.mk ((by rw [hg]; exact Nat.ne_of_lt (blk_lt (g := gb110) (o := .cells #[.slice A0_0 l0_0.length c0_0, .int .i64 a0_1] 24 (0, 0)) (by (with_reducible repeat (first | refine blk_drewN ?_ _ | refine blk_drew ?_ | refine blk_alloc ?_ _)); exact BK110.out)) : gb110 ≠ gb111)); have n6_ := Aside0.mk ((by rw [hg]; exact Nat.ne_of_gt (blk_lt (g := gb110) (o := .cells #[.slice A0_0 l0_0.length c0_0, .int .i64 a0_1] 24 (0, 0)) (by (with_reducible repeat (first | refine blk_drewN ?_ _ | refine blk_drew ?_ | refine blk_alloc ?_ _)); exact BK110.out)) : gb111 ≠ gb110)); clear BK110; clear HB; have BK110 := n0_; have HB := n1_; have BK111 := n2_; have GW111 := n3_; have GE111 := n4_; have NB110_111 := n5_; have NB111_110 := n6_; clear n0_ n1_ n2_ n3_ n4_ n5_ n6_; clear hb hbox hg) | ((with_reducible refine gate_dst (N := 12) rfl ?_); refine box_event ?hg (N := 12) ?hd (cs := #[.string (⟨#[]⟩ : ByteArray), .string (⟨#[]⟩ : ByteArray), .int .i64 0, .int .i64 0, .int .i64 0, .int .i64 0, .string (⟨#[]⟩ : ByteArray)]) (t := 40) ?hr ?_; (case hd => rfl); (case hg => rfl); (case hr => first | (go_simp; done) | (go_simp; rfl)); intro gb112 hg w81 hbox hb; have n0_ := Aside0.mk (blk_below (g := gb110) (o := .cells #[.slice A0_0 l0_0.length c0_0, .int .i64 a0_1] 24 (0, 0)) (by (with_reducible repeat (first | refine blk_drewN ?_ _ | refine blk_drew ?_ | refine blk_alloc ?_ _)); exact BK110.out) hb); have n1_ := Aside0.mk (blk_below (g := gb111) (o := .cells #[.string a1_0, .string a1_1, .int .i64 a1_2, .int .i64 a1_3, .int .i64 a1_4, .int .i64 a1_5, .string a1_6] 40 (0, 0)) (by (with_reducible repeat (first | refine blk_drewN ?_ _ | refine blk_drew ?_ | refine blk_alloc ?_ _)); exact BK111.out) hb); have n2_ := Aside0.mk (below_step (by repeat (first | (with_reducible first | exact HB.out | apply below_alloc | apply pw_below_drewN | apply below_drew1 | refine below_set ?_ GE110.out | refine below_set ?_ GE111.out) | exact HB.out)) hb); have n3_ := Aside0.mk (hbox); have n4_ := Aside0.mk ((by rw [hg]; exact (below_size (by repeat (first | (with_reducible first | exact HB.out | apply below_alloc | apply pw_below_drewN | apply below_drew1 | refine below_set ?_ GE110.out | refine below_set ?_ GE111.out) | exact HB.out))) : w.heap.size ≤ gb112)); have n5_ := Aside0.mk ((by rw [hg]; exact (below_size (by repeat (first | (with_reducible first | exact HB.out | apply below_alloc | apply pw_below_drewN | apply below_drew1 | refine below_set ?_ GE110.out | refine below_set ?_ GE111.out) | exact HB.out))) : w.heap.size ≤ gb112)); have n6_ := Aside0.mk ((by rw [hg]; exact Nat.ne_of_lt (blk_lt (g := gb110) (o := .cells #[.slice A0_0 l0_0.length c0_0, .int .i64 a0_1] 24 (0, 0)) (by (with_reducible repeat (first | refine blk_drewN ?_ _ | refine blk_drew ?_ | refine blk_alloc ?_ _)); exact BK110.out)) : gb110 ≠ gb112)); have n7_ := Aside0.mk ((by rw [hg]; exact Nat.ne_of_gt (blk_lt (g := gb110) (o := .cells #[.slice A0_0 l0_0.length c0_0, .int .i64 a0_1] 24 (0, 0)) (by (with_reducible repeat (first | refine blk_drewN ?_ _ | refine blk_drew ?_ | refine blk_alloc ?_ _)); exact BK110.out)) : gb112 ≠ gb110)); have n8_ := Aside0.mk ((by rw [hg]; exact Nat.ne_of_lt (blk_lt (g := gb111) (o := .cells #[.string a1_0, .string a1_1, .int .i64 a1_2, .int .i64 a1_3, .int .i64 a1_4, .int .i64 a1_5, .string a1_6] 40 (0, 0)) (by (with_reducible repeat (first | refine blk_drewN ?_ _ | refine blk_drew ?_ | refine blk_alloc ?_ _)); exact BK111.out)) : gb111 ≠ gb112)); have n9_ := Aside0.mk ((by rw [hg]; exact Nat.ne_of_gt (blk_lt (g := gb111) (o := .cells #[.string a1_0, .string a1_1, .int .i64 a1_2, .int .i64 a1_3, .int .i64 a1_4, .int .i64 a1_5, .string a1_6] 40 (0, 0)) (by (with_reducible repeat (first | refine blk_drewN ?_ _ | refine blk_drew ?_ | refine blk_alloc ?_ _)); exact BK111.out)) : gb112 ≠ gb111)); clear BK110; clear BK111; clear HB; have BK110 := n0_; have BK111 := n1_; have HB := n2_; have BK112 := n3_; have GW112 := n4_; have GE112 := n5_; have NB110_112 := n6_; have NB112_110 := n7_; have NB111_112 := n8_; have NB112_111 := n9_; clear n0_ n1_ n2_ n3_ n4_ n5_ n6_ n7_ n8_ n9_; clear hb hbox hg) | ((with_reducible refine gate_callee (f := 22) rfl ?_); refine goesL_ (some 17) rfl rfl Try.func22 (by kernel_rfl) rfl #[.int .i64 a4] rfl (by (try simp only [List.map_toArray, List.map_cons, List.map_nil]); first | done | rfl | (simp only [List.length_drop, List.length_take]; rfl)) ?_; (with_reducible refine (reply_Class.calls a4 t113 _ A7.out).mono ?_); rintro e w' ⟨rfl, ⟨nd, rfl⟩⟩; refine ⟨_, rfl, ?_⟩; (try (rw [drewN_self w81]; generalize hq_ : World.drewN w81 _ = w81; have n0_ : Aside0 (w81.heap[gb110]? = some (.cells #[.slice A0_0 l0_0.length c0_0, .int .i64 a0_1] 24 (0, 0))) := ⟨by rw [← hq_]; exact (by (with_reducible repeat (first | refine blk_drewN ?_ _ | refine blk_drew ?_ | refine blk_alloc ?_ _)); exact BK110.out)⟩; have n1_ : Aside0 (w81.heap[gb111]? = some (.cells #[.string a1_0, .string a1_1, .int .i64 a1_2, .int .i64 a1_3, .int .i64 a1_4, .int .i64 a1_5, .string a1_6] 40 (0, 0))) := ⟨by rw [← hq_]; exact (by (with_reducible repeat (first | refine blk_drewN ?_ _ | refine blk_drew ?_ | refine blk_alloc ?_ _)); exact BK111.out)⟩; have n2_ : Aside0 (w81.heap[gb112]? = some (.cells #[.string (⟨#[]⟩ : ByteArray), .string (⟨#[]⟩ : ByteArray), .int .i64 0, .int .i64 0, .int .i64 0, .int .i64 0, .string (⟨#[]⟩ : ByteArray)] 40 (0, 0))) := ⟨by rw [← hq_]; exact (by (with_reducible repeat (first | refine blk_drewN ?_ _ | refine blk_drew ?_ | refine blk_alloc ?_ _)); exact BK112.out)⟩; have n3_ : Aside0 (Below w.heap.size w w81) := ⟨by rw [← hq_]; exact (by repeat (first | (with_reducible first | exact HB.out | apply below_alloc | apply pw_below_drewN | apply below_drew1 | refine below_set ?_ GE110.out | refine below_set ?_ GE111.out | refine below_set ?_ GE112.out) | exact HB.out))⟩; clear BK110 BK111 BK112 HB hq_; have BK110 := n0_; have BK111 := n1_; have BK112 := n2_; have HB := n3_; clear n0_ n1_ n2_ n3_)); have hnb82 := NB111_110.out; have hnc82 := NB110_111.out; have hnb83 := NB111_112.out; have hnc83 := NB112_111.out; have hcz84_0 : w81.cell? ⟨gb111, 0, none⟩ = some (.string a1_0) := (blk_cell BK111.out 0).trans rfl; have hcz84_1 : w81.cell? ⟨gb111, 1, none⟩ = some (.string a1_1) := (blk_cell BK111.out 1).trans rfl; have hcz84_2 : w81.cell? ⟨gb111, 2, none⟩ = some (.int .i64 a1_2) := (blk_cell BK111.out 2).trans rfl; have hcz84_3 : w81.cell? ⟨gb111, 3, none⟩ = some (.int .i64 a1_3) := (blk_cell BK111.out 3).trans rfl; have hcz84_4 : w81.cell? ⟨gb111, 4, none⟩ = some (.int .i64 a1_4) := (blk_cell BK111.out 4).trans rfl; have hcz84_5 : w81.cell? ⟨gb111, 5, none⟩ = some (.int .i64 a1_5) := (blk_cell BK111.out 5).trans rfl; have hcz84_6 : w81.cell? ⟨gb111, 6, none⟩ = some (.string a1_6) := (blk_cell BK111.out 6).trans rfl; have hfz84_0 := blk_frozen BK111.out 0; have hfz84_1 := blk_frozen BK111.out 1; have hfz84_2 := blk_frozen BK111.out 2; have hfz84_3 := blk_frozen BK111.out 3; have hfz84_4 := blk_frozen BK111.out 4; have hfz84_5 := blk_frozen BK111.out 5; have hfz84_6 := blk_frozen BK111.out 6))
              have n0_ : Aside0 ((w81.setCell ⟨gb111, 3, none⟩ (.int .i64 ji8)).heap[gb110]? = some (.cells #[.slice A0_0 l0_0.length c0_0, .int .i64 a0_1] 24 (0, 0))) := ⟨by (with_reducible repeat (first | refine blk_drewN ?_ _ | refine blk_drew ?_ | refine blk_alloc ?_ _)); refine blk_far ?_ NB110_111.out _; (with_reducible repeat (first | refine blk_drewN ?_ _ | refine blk_drew ?_ | refine blk_alloc ?_ _)); exact BK110.out⟩
              have n1_ : Aside0 ((w81.setCell ⟨gb111, 3, none⟩ (.int .i64 ji8)).heap[gb111]? = some (.cells #[.string a1_0, .string a1_1, .int .i64 a1_2, .int .i64 ji8, .int .i64 a1_4, .int .i64 a1_5, .string a1_6] 40 (0, 0))) := ⟨by (with_reducible repeat (first | refine blk_drewN ?_ _ | refine blk_drew ?_ | refine blk_alloc ?_ _)); refine blk_put (cs := #[.string a1_0, .string a1_1, .int .i64 a1_2, .int .i64 a1_3, .int .i64 a1_4, .int .i64 a1_5, .string a1_6]) ?_ 3 _ rfl; (with_reducible repeat (first | refine blk_drewN ?_ _ | refine blk_drew ?_ | refine blk_alloc ?_ _)); exact BK111.out⟩
              have n2_ : Aside0 ((w81.setCell ⟨gb111, 3, none⟩ (.int .i64 ji8)).heap[gb112]? = some (.cells #[.string (⟨#[]⟩ : ByteArray), .string (⟨#[]⟩ : ByteArray), .int .i64 0, .int .i64 0, .int .i64 0, .int .i64 0, .string (⟨#[]⟩ : ByteArray)] 40 (0, 0))) := ⟨by (with_reducible repeat (first | refine blk_drewN ?_ _ | refine blk_drew ?_ | refine blk_alloc ?_ _)); refine blk_far ?_ NB112_111.out _; (with_reducible repeat (first | refine blk_drewN ?_ _ | refine blk_drew ?_ | refine blk_alloc ?_ _)); exact BK112.out⟩
              have n3_ : Aside0 (Below w.heap.size w (w81.setCell ⟨gb111, 3, none⟩ (.int .i64 ji8))) := ⟨by repeat (first | (with_reducible first | exact HB.out | apply below_alloc | apply pw_below_drewN | apply below_drew1 | refine below_set ?_ GE110.out | refine below_set ?_ GE111.out | refine below_set ?_ GE112.out) | exact HB.out)⟩
              (try clear BK110)
              (try clear BK111)
              (try clear BK112)
              (try clear HB)
              generalize (w81.setCell ⟨gb111, 3, none⟩ (.int .i64 ji8)) = w85 at n0_ n1_ n2_ n3_ ⊢
              have BK110 := n0_
              have BK111 := n1_
              have BK112 := n2_
              have HB := n3_
              clear n0_ n1_ n2_ n3_
              have n0_ := Aside0.mk (blk_drew BK110.out)
              have n1_ := Aside0.mk (blk_drew BK111.out)
              have n2_ := Aside0.mk (blk_drew BK112.out)
              have n3_ := Aside0.mk (below_drew1 HB.out)
              clear BK110
              clear BK111
              clear BK112
              clear HB
              have BK110 := n0_
              have BK111 := n1_
              have BK112 := n2_
              have HB := n3_
              clear n0_ n1_ n2_ n3_
              refine start_ (n := 10) (S := fun w' => True) (ds := []) #[false, false, false, false, false, false, false, false, false, false] (by kernel_rfl) rfl rfl trivial (fun hHeld => ?_); refine with_tabW retry_Done.tab3 retry_Done.bits3 (fun HT_ HW_ => ?_)
              generalize w85.drew = w86 at BK110 BK111 BK112 HB hHeld ⊢
              refine pure_ (i := 0) (N := some 23) (v := ?_) (a' := ?_) #[true, false, false, false, false, false, false, false, false, false] rfl rfl (any_of HT_.out (by kernel_rfl)) (fun _ _ _ h => h) (Or.inl ⟨by rfl, ?_⟩) ?_ ?_
              rotate_left
              · intro w'
                go_simp
                with_reducible rfl
              rotate_left
              · simp only [Act.put, List.setIfInBounds_toArray, List.set_cons_zero, List.set_cons_succ, i64_w, i32_w]
                rfl
              refine pure_ (i := 1) (N := some 24) (v := ?_) (a' := ?_) #[true, true, false, false, false, false, false, false, false, false] rfl rfl (any_of HT_.out (by kernel_rfl)) (fun _ _ _ h => h) (Or.inl ⟨by rfl, ?_⟩) ?_ ?_
              rotate_left
              · intro w'
                go_simp
                with_reducible rfl
              rotate_left
              · simp only [Act.put, List.setIfInBounds_toArray, List.set_cons_zero, List.set_cons_succ, i64_w, i32_w]
                rfl
              refine pure_ (i := 2) (N := some 25) (v := ?_) (a' := ?_) #[true, true, true, false, false, false, false, false, false, false] rfl rfl (any_of HT_.out (by kernel_rfl)) (fun _ _ _ h => h) (Or.inl ⟨by rfl, ?_⟩) ?_ ?_
              rotate_left
              · intro w'
                go_simp
                with_reducible rfl
              rotate_left
              · simp only [Act.put, List.setIfInBounds_toArray, List.set_cons_zero, List.set_cons_succ, i64_w, i32_w]
                rfl
              refine pure_ (i := 3) (N := some 26) (v := ?_) (a' := ?_) #[true, true, true, true, false, false, false, false, false, false] rfl rfl (any_of HT_.out (by kernel_rfl)) (fun _ _ _ h => h) (Or.inl ⟨by rfl, ?_⟩) ?_ ?_
              rotate_left
              · intro w'
                go_simp
                with_reducible rfl
              rotate_left
              · simp only [Act.put, List.setIfInBounds_toArray, List.set_cons_zero, List.set_cons_succ, i64_w, i32_w]
                rfl
              refine pure_ (i := 4) (N := some 27) (v := ?_) (a' := ?_) #[true, true, true, true, true, false, false, false, false, false] rfl rfl (any_of HT_.out (by kernel_rfl)) (fun _ _ _ h => h) (Or.inl ⟨by rfl, ?_⟩) ?_ ?_
              rotate_left
              · intro w'
                go_simp
                with_reducible rfl
              rotate_left
              · simp only [Act.put, List.setIfInBounds_toArray, List.set_cons_zero, List.set_cons_succ, i64_w, i32_w]
                rfl
              refine pure_ (i := 5) (N := some 28) (v := ?_) (a' := ?_) #[true, true, true, true, true, true, false, false, false, false] rfl rfl (any_of HT_.out (by kernel_rfl)) (fun _ _ _ h => h) (Or.inl ⟨by rfl, ?_⟩) ?_ ?_
              rotate_left
              · intro w'
                go_simp
                with_reducible rfl
              rotate_left
              · simp only [Act.put, List.setIfInBounds_toArray, List.set_cons_zero, List.set_cons_succ, i64_w, i32_w]
                rfl
              refine pure_ (i := 6) (N := some 29) (v := ?_) (a' := ?_) #[true, true, true, true, true, true, true, false, false, false] rfl rfl (any_of HT_.out (by kernel_rfl)) (fun _ _ _ h => h) (Or.inl ⟨by rfl, ?_⟩) ?_ ?_
              rotate_left
              · intro w'
                go_simp
                with_reducible rfl
              rotate_left
              · simp only [Act.put, List.setIfInBounds_toArray, List.set_cons_zero, List.set_cons_succ, i64_w, i32_w]
                rfl
              refine one_ (i := 7) (N := none) #[true, true, true, true, true, true, true, true, false, false] rfl rfl (one_of HT_.out (by kernel_rfl)) (by decide) (fun K hK => ?_)
              have hs87 : w86.cell? ⟨gb111, 5, none⟩ = some (.int .i64 a1_5) := (blk_cell BK111.out 5).trans rfl
              have hfs87 := blk_frozen BK111.out 5
              have hns87_0 := NB110_111.out
              have hns87_2 := NB112_111.out
              have hms87_0 := NB111_110.out
              have hms87_2 := NB111_112.out
              refine skip_ (w1 := ?_) (by rfl) rfl ?_ ?_
              rotate_left
              · go_simp
                rfl
              refine hK.out _ _ trivial (fun hHeld => ?_)
              clear hK K
              refine pure_ (i := 8) (N := some 30) (v := ?_) (a' := ?_) #[true, true, true, true, true, true, true, true, true, false] rfl rfl (any_of HT_.out (by kernel_rfl)) (fun _ _ _ h => h) (Or.inl ⟨by rfl, ?_⟩) ?_ ?_
              rotate_left
              · intro w'
                go_simp
                with_reducible rfl
              rotate_left
              · simp only [Act.put, List.setIfInBounds_toArray, List.set_cons_zero, List.set_cons_succ, i64_w, i32_w]
                rfl
              refine one_ (i := 9) (N := none) #[true, true, true, true, true, true, true, true, true, true] rfl rfl (one_of HT_.out (by kernel_rfl)) (by decide) (fun K hK => ?_)
              have hs88 : w86.cell? ⟨gb111, 6, none⟩ = some (.string a1_6) := (blk_cell BK111.out 6).trans rfl
              have hfs88 := blk_frozen BK111.out 6
              have hns88_0 := NB110_111.out
              have hns88_2 := NB112_111.out
              have hms88_0 := NB111_110.out
              have hms88_2 := NB111_112.out
              refine skip_ (w1 := ?_) (by rfl) rfl ?_ ?_
              rotate_left
              · go_simp
                rfl
              refine hK.out _ _ trivial (fun hHeld => ?_)
              clear hK K
              refine done_ (done_of HT_.out (by kernel_rfl)) ?_
              have hnb89 := NB110_112.out
              have hnc89 := NB112_110.out
              have hcz90_0 : w86.cell? ⟨gb110, 0, none⟩ = some (.slice A0_0 l0_0.length c0_0) := (blk_cell BK110.out 0).trans rfl
              have hcz90_1 : w86.cell? ⟨gb110, 1, none⟩ = some (.int .i64 a0_1) := (blk_cell BK110.out 1).trans rfl
              have hfz90_0 := blk_frozen BK110.out 0
              have hfz90_1 := blk_frozen BK110.out 1
              have hcz91_0 : w86.cell? ⟨gb111, 0, none⟩ = some (.string a1_0) := (blk_cell BK111.out 0).trans rfl
              have hcz91_1 : w86.cell? ⟨gb111, 1, none⟩ = some (.string a1_1) := (blk_cell BK111.out 1).trans rfl
              have hcz91_2 : w86.cell? ⟨gb111, 2, none⟩ = some (.int .i64 a1_2) := (blk_cell BK111.out 2).trans rfl
              have hcz91_3 : w86.cell? ⟨gb111, 3, none⟩ = some (.int .i64 ji8) := (blk_cell BK111.out 3).trans rfl
              have hcz91_4 : w86.cell? ⟨gb111, 4, none⟩ = some (.int .i64 a1_4) := (blk_cell BK111.out 4).trans rfl
              have hcz91_5 : w86.cell? ⟨gb111, 5, none⟩ = some (.int .i64 a1_5) := (blk_cell BK111.out 5).trans rfl
              have hcz91_6 : w86.cell? ⟨gb111, 6, none⟩ = some (.string a1_6) := (blk_cell BK111.out 6).trans rfl
              have hfz91_0 := blk_frozen BK111.out 0
              have hfz91_1 := blk_frozen BK111.out 1
              have hfz91_2 := blk_frozen BK111.out 2
              have hfz91_3 := blk_frozen BK111.out 3
              have hfz91_4 := blk_frozen BK111.out 4
              have hfz91_5 := blk_frozen BK111.out 5
              have hfz91_6 := blk_frozen BK111.out 6
              try go_wp2_with (first | ((with_reducible refine gate_callee (f := 12) rfl ?_); refine goesL_ (some 49) rfl rfl Try.func12 (by kernel_rfl) rfl #[.agg #[.slice A0_0 l0_0.length c0_0, .int .i64 a0_1], .int .i64 a2, .int .i64 ji8, .int .i64 a3] rfl (by (try simp only [List.map_toArray, List.map_cons, List.map_nil]); first | done | (simp only [hji8]; rfl) | rfl | (simp only [List.length_drop, List.length_take]; rfl)) ?_; (with_reducible refine (retry_Next.calls _ _ l0_0 a0_1 a2 ji8 a3 t116 true _ ?side1 ?side2 A76.out).mono ?_); (case side1 => exact Kd.C_below HR0_0.out (by repeat (first | (with_reducible first | exact HB.out | apply below_alloc | apply pw_below_drewN | apply below_drew1 | refine below_set ?_ GE110.out | refine below_set ?_ GE111.out | refine below_set ?_ GE112.out) | exact HB.out))); (case side2 => exact HC0_0.out); rintro e w92 ⟨rfl, hb⟩; refine ⟨_, rfl, ?_⟩; have n0_ := Aside0.mk (blk_below (g := gb110) (o := .cells #[.slice A0_0 l0_0.length c0_0, .int .i64 a0_1] 24 (0, 0)) (by (with_reducible repeat (first | refine blk_drewN ?_ _ | refine blk_drew ?_ | refine blk_alloc ?_ _)); refine blk_far ?_ NB110_111.out _; (with_reducible repeat (first | refine blk_drewN ?_ _ | refine blk_drew ?_ | refine blk_alloc ?_ _)); refine blk_far ?_ NB110_111.out _; (with_reducible repeat (first | refine blk_drewN ?_ _ | refine blk_drew ?_ | refine blk_alloc ?_ _)); exact BK110.out) hb); have n1_ := Aside0.mk (blk_below (g := gb111) (o := .cells #[.string a1_0, .string a1_1, .int .i64 a1_2, .int .i64 ji8, .int .i64 a1_4, .int .i64 a4, .string (a5.extract 0 ((ji9) : Int).toNat)] 40 (0, 0)) (by (with_reducible repeat (first | refine blk_drewN ?_ _ | refine blk_drew ?_ | refine blk_alloc ?_ _)); refine blk_put (cs := #[.string a1_0, .string a1_1, .int .i64 a1_2, .int .i64 ji8, .int .i64 a1_4, .int .i64 a4, .string a1_6]) ?_ 6 _ rfl; (with_reducible repeat (first | refine blk_drewN ?_ _ | refine blk_drew ?_ | refine blk_alloc ?_ _)); refine blk_put (cs := #[.string a1_0, .string a1_1, .int .i64 a1_2, .int .i64 ji8, .int .i64 a1_4, .int .i64 a1_5, .string a1_6]) ?_ 5 _ rfl; (with_reducible repeat (first | refine blk_drewN ?_ _ | refine blk_drew ?_ | refine blk_alloc ?_ _)); exact BK111.out) hb); have n2_ := Aside0.mk (blk_below (g := gb112) (o := .cells #[.string (⟨#[]⟩ : ByteArray), .string (⟨#[]⟩ : ByteArray), .int .i64 0, .int .i64 0, .int .i64 0, .int .i64 0, .string (⟨#[]⟩ : ByteArray)] 40 (0, 0)) (by (with_reducible repeat (first | refine blk_drewN ?_ _ | refine blk_drew ?_ | refine blk_alloc ?_ _)); refine blk_far ?_ NB112_111.out _; (with_reducible repeat (first | refine blk_drewN ?_ _ | refine blk_drew ?_ | refine blk_alloc ?_ _)); refine blk_far ?_ NB112_111.out _; (with_reducible repeat (first | refine blk_drewN ?_ _ | refine blk_drew ?_ | refine blk_alloc ?_ _)); exact BK112.out) hb); have n3_ := Aside0.mk (below_step (by repeat (first | (with_reducible first | exact HB.out | apply below_alloc | apply pw_below_drewN | apply below_drew1 | refine below_set ?_ GE110.out | refine below_set ?_ GE111.out | refine below_set ?_ GE112.out) | exact HB.out)) hb); clear BK110; clear BK111; clear BK112; clear HB; have BK110 := n0_; have BK111 := n1_; have BK112 := n2_; have HB := n3_; clear n0_ n1_ n2_ n3_; (try clear hb); (try clear hb2); (try clear hk); (try clear hi); have hcz93_0 : w92.cell? ⟨gb111, 0, none⟩ = some (.string a1_0) := (blk_cell BK111.out 0).trans rfl; have hcz93_1 : w92.cell? ⟨gb111, 1, none⟩ = some (.string a1_1) := (blk_cell BK111.out 1).trans rfl; have hcz93_2 : w92.cell? ⟨gb111, 2, none⟩ = some (.int .i64 a1_2) := (blk_cell BK111.out 2).trans rfl; have hcz93_3 : w92.cell? ⟨gb111, 3, none⟩ = some (.int .i64 ji8) := (blk_cell BK111.out 3).trans rfl; have hcz93_4 : w92.cell? ⟨gb111, 4, none⟩ = some (.int .i64 a1_4) := (blk_cell BK111.out 4).trans rfl; have hcz93_5 : w92.cell? ⟨gb111, 5, none⟩ = some (.int .i64 a4) := (blk_cell BK111.out 5).trans rfl; have hcz93_6 : w92.cell? ⟨gb111, 6, none⟩ = some (.string (a5.extract 0 ((ji9) : Int).toNat)) := (blk_cell BK111.out 6).trans rfl; have hfz93_0 := blk_frozen BK111.out 0; have hfz93_1 := blk_frozen BK111.out 1; have hfz93_2 := blk_frozen BK111.out 2; have hfz93_3 := blk_frozen BK111.out 3; have hfz93_4 := blk_frozen BK111.out 4; have hfz93_5 := blk_frozen BK111.out 5; have hfz93_6 := blk_frozen BK111.out 6; have hcz94_0 : w92.cell? ⟨gb112, 0, none⟩ = some (.string (⟨#[]⟩ : ByteArray)) := (blk_cell BK112.out 0).trans rfl; have hcz94_1 : w92.cell? ⟨gb112, 1, none⟩ = some (.string (⟨#[]⟩ : ByteArray)) := (blk_cell BK112.out 1).trans rfl; have hcz94_2 : w92.cell? ⟨gb112, 2, none⟩ = some (.int .i64 0) := (blk_cell BK112.out 2).trans rfl; have hcz94_3 : w92.cell? ⟨gb112, 3, none⟩ = some (.int .i64 0) := (blk_cell BK112.out 3).trans rfl; have hcz94_4 : w92.cell? ⟨gb112, 4, none⟩ = some (.int .i64 0) := (blk_cell BK112.out 4).trans rfl; have hcz94_5 : w92.cell? ⟨gb112, 5, none⟩ = some (.int .i64 0) := (blk_cell BK112.out 5).trans rfl; have hcz94_6 : w92.cell? ⟨gb112, 6, none⟩ = some (.string (⟨#[]⟩ : ByteArray)) := (blk_cell BK112.out 6).trans rfl; have hfz94_0 := blk_frozen BK112.out 0; have hfz94_1 := blk_frozen BK112.out 1; have hfz94_2 := blk_frozen BK112.out 2; have hfz94_3 := blk_frozen BK112.out 3; have hfz94_4 := blk_frozen BK112.out 4; have hfz94_5 := blk_frozen BK112.out 5; have hfz94_6 := blk_frozen BK112.out 6))
              refine bodyPost_ret (results_cell_row rfl _ _ gb112 40 #[.string a1_0, .string a1_1, .int .i64 a1_2, .int .i64 ji8, .int .i64 ji78, .int .i64 a4, .string (a5.extract 0 ((ji9) : Int).toNat)] (0, 0) _ rfl (by (with_reducible repeat (first | refine blk_drewN ?_ _ | refine blk_drew ?_ | refine blk_alloc ?_ _)); refine blk_put (cs := #[.string a1_0, .string a1_1, .int .i64 a1_2, .int .i64 ji8, .int .i64 ji78, .int .i64 a4, .string (⟨#[]⟩ : ByteArray)]) ?_ 6 _ rfl; (with_reducible repeat (first | refine blk_drewN ?_ _ | refine blk_drew ?_ | refine blk_alloc ?_ _)); refine blk_put (cs := #[.string a1_0, .string a1_1, .int .i64 a1_2, .int .i64 ji8, .int .i64 ji78, .int .i64 0, .string (⟨#[]⟩ : ByteArray)]) ?_ 5 _ rfl; (with_reducible repeat (first | refine blk_drewN ?_ _ | refine blk_drew ?_ | refine blk_alloc ?_ _)); refine blk_put (cs := #[.string a1_0, .string a1_1, .int .i64 a1_2, .int .i64 ji8, .int .i64 0, .int .i64 0, .string (⟨#[]⟩ : ByteArray)]) ?_ 4 _ rfl; (with_reducible repeat (first | refine blk_drewN ?_ _ | refine blk_drew ?_ | refine blk_alloc ?_ _)); refine blk_put (cs := #[.string a1_0, .string a1_1, .int .i64 a1_2, .int .i64 0, .int .i64 0, .int .i64 0, .string (⟨#[]⟩ : ByteArray)]) ?_ 3 _ rfl; (with_reducible repeat (first | refine blk_drewN ?_ _ | refine blk_drew ?_ | refine blk_alloc ?_ _)); refine blk_put (cs := #[.string a1_0, .string a1_1, .int .i64 0, .int .i64 0, .int .i64 0, .int .i64 0, .string (⟨#[]⟩ : ByteArray)]) ?_ 2 _ rfl; (with_reducible repeat (first | refine blk_drewN ?_ _ | refine blk_drew ?_ | refine blk_alloc ?_ _)); refine blk_put (cs := #[.string a1_0, .string (⟨#[]⟩ : ByteArray), .int .i64 0, .int .i64 0, .int .i64 0, .int .i64 0, .string (⟨#[]⟩ : ByteArray)]) ?_ 1 _ rfl; (with_reducible repeat (first | refine blk_drewN ?_ _ | refine blk_drew ?_ | refine blk_alloc ?_ _)); refine blk_put (cs := #[.string (⟨#[]⟩ : ByteArray), .string (⟨#[]⟩ : ByteArray), .int .i64 0, .int .i64 0, .int .i64 0, .int .i64 0, .string (⟨#[]⟩ : ByteArray)]) ?_ 0 _ rfl; (with_reducible repeat (first | refine blk_drewN ?_ _ | refine blk_drew ?_ | refine blk_alloc ?_ _)); refine blk_far ?_ NB112_111.out _; (with_reducible repeat (first | refine blk_drewN ?_ _ | refine blk_drew ?_ | refine blk_alloc ?_ _)); exact BK112.out) Try.underlying40 rfl (by kernel_rfl)) rfl ?_
              exact ⟨by first | rfl | (simp [errW_none, errW_some] <;> rfl) | (simp only [← hji8, ← hji9, ← hji78]; first | rfl | (simp [errW_none, errW_some] <;> rfl)) | (simp [*, errW_none, errW_some] <;> rfl), by repeat (first | (with_reducible first | exact HB.out | apply below_alloc | apply pw_below_drewN | apply below_drew1 | refine below_set ?_ GE110.out | refine below_set ?_ GE111.out | refine below_set ?_ GE112.out) | exact HB.out)⟩
            · replace c77 := Bool.eq_false_iff.mpr c77
              subst c77
              have H1 : (some (a1_0, a1_1, 4, ji8, a1_4, a4, a5.extract 0 ((ji9) : Int).toNat)) = some (r1, r2, r3, r4, r5, r6, r7) := by rw [if_neg (show ¬ (false = true) by decide)] at H; exact H
              clear H
              have H := H1
              clear H1
              simp only [Option.some.injEq, Prod.mk.injEq] at H
              obtain ⟨rfl, rfl, rfl, rfl, rfl, rfl, rfl⟩ := H
              go_enter Try.func17, Try.ntmps17
              try go_wp2_with (first | ((with_reducible refine gate_dst (N := 6) rfl ?_); refine box_event ?hg (N := 6) ?hd (cs := #[.slice A0_0 l0_0.length c0_0, .int .i64 a0_1]) (t := 24) ?hr ?_; (case hd => rfl); (case hg => rfl); (case hr => first | (go_simp; done) | (go_simp; rfl)); intro gb110 hg w95 hbox hb; have n0_ := Aside0.mk (below_step (by repeat (first | (with_reducible first | exact HB.out | apply below_alloc | apply pw_below_drewN | apply below_drew1) | exact HB.out)) hb); have n1_ := Aside0.mk (hbox); have n2_ := Aside0.mk ((by rw [hg]; exact (below_size (by repeat (first | (with_reducible first | exact HB.out | apply below_alloc | apply pw_below_drewN | apply below_drew1) | exact HB.out))) : w.heap.size ≤ gb110)); have n3_ := Aside0.mk ((by rw [hg]; exact (below_size (by repeat (first | (with_reducible first | exact HB.out | apply below_alloc | apply pw_below_drewN | apply below_drew1) | exact HB.out))) : w.heap.size ≤ gb110)); clear HB; have HB := n0_; have BK110 := n1_; have GW110 := n2_; have GE110 := n3_; clear n0_ n1_ n2_ n3_; clear hb hbox hg) | ((with_reducible refine gate_dst (N := 7) rfl ?_); refine box_event ?hg (N := 7) ?hd (cs := #[.string a1_0, .string a1_1, .int .i64 a1_2, .int .i64 a1_3, .int .i64 a1_4, .int .i64 a1_5, .string a1_6]) (t := 40) ?hr ?_; (case hd => rfl); (case hg => rfl); (case hr => first | (go_simp; done) | (go_simp; rfl)); intro gb111 hg w96 hbox hb; have n0_ := Aside0.mk (blk_below (g := gb110) (o := .cells #[.slice A0_0 l0_0.length c0_0, .int .i64 a0_1] 24 (0, 0)) (by (with_reducible repeat (first | refine blk_drewN ?_ _ | refine blk_drew ?_ | refine blk_alloc ?_ _)); exact BK110.out) hb); have n1_ := Aside0.mk (below_step (by repeat (first | (with_reducible first | exact HB.out | apply below_alloc | apply pw_below_drewN | apply below_drew1 | refine below_set ?_ GE110.out) | exact HB.out)) hb); have n2_ := Aside0.mk (hbox); have n3_ := Aside0.mk ((by rw [hg]; exact (below_size (by repeat (first | (with_reducible first | exact HB.out | apply below_alloc | apply pw_below_drewN | apply below_drew1 | refine below_set ?_ GE110.out) | exact HB.out))) : w.heap.size ≤ gb111)); have n4_ := Aside0.mk ((by rw [hg]; exact (below_size (by repeat (first | (with_reducible first | exact HB.out | apply below_alloc | apply pw_below_drewN | apply below_drew1 | refine below_set ?_ GE110.out) | exact HB.out))) : w.heap.size ≤ gb111)); have n5_ := Aside0.mk ((by rw [hg]; exact Nat.ne_of_lt (blk_lt (g := gb110) (o := .cells #[.slice A0_0 l0_0.length c0_0, .int .i64 a0_1] 24 (0, 0)) (by (with_reducible repeat (first | refine blk_drewN ?_ _ | refine blk_drew ?_ | refine blk_alloc ?_ _)); exact BK110.out)) : gb110 ≠ gb111)); have n6_ := Aside0.mk ((by rw [hg]; exact Nat.ne_of_gt (blk_lt (g := gb110) (o := .cells #[.slice A0_0 l0_0.length c0_0, .int .i64 a0_1] 24 (0, 0)) (by (with_reducible repeat (first | refine blk_drewN ?_ _ | refine blk_drew ?_ | refine blk_alloc ?_ _)); exact BK110.out)) : gb111 ≠ gb110)); clear BK110; clear HB; have BK110 := n0_; have HB := n1_; have BK111 := n2_; have GW111 := n3_; have GE111 := n4_; have NB110_111 := n5_; have NB111_110 := n6_; clear n0_ n1_ n2_ n3_ n4_ n5_ n6_; clear hb hbox hg) | ((with_reducible refine gate_dst (N := 12) rfl ?_); refine box_event ?hg (N := 12) ?hd (cs := #[.string (⟨#[]⟩ : ByteArray), .string (⟨#[]⟩ : ByteArray), .int .i64 0, .int .i64 0, .int .i64 0, .int .i64 0, .string (⟨#[]⟩ : ByteArray)]) (t := 40) ?hr ?_; (case hd => rfl); (case hg => rfl); (case hr => first | (go_simp; done) | (go_simp; rfl)); intro gb112 hg w97 hbox hb; have n0_ := Aside0.mk (blk_below (g := gb110) (o := .cells #[.slice A0_0 l0_0.length c0_0, .int .i64 a0_1] 24 (0, 0)) (by (with_reducible repeat (first | refine blk_drewN ?_ _ | refine blk_drew ?_ | refine blk_alloc ?_ _)); exact BK110.out) hb); have n1_ := Aside0.mk (blk_below (g := gb111) (o := .cells #[.string a1_0, .string a1_1, .int .i64 a1_2, .int .i64 a1_3, .int .i64 a1_4, .int .i64 a1_5, .string a1_6] 40 (0, 0)) (by (with_reducible repeat (first | refine blk_drewN ?_ _ | refine blk_drew ?_ | refine blk_alloc ?_ _)); exact BK111.out) hb); have n2_ := Aside0.mk (below_step (by repeat (first | (with_reducible first | exact HB.out | apply below_alloc | apply pw_below_drewN | apply below_drew1 | refine below_set ?_ GE110.out | refine below_set ?_ GE111.out) | exact HB.out)) hb); have n3_ := Aside0.mk (hbox); have n4_ := Aside0.mk ((by rw [hg]; exact (below_size (by repeat (first | (with_reducible first | exact HB.out | apply below_alloc | apply pw_below_drewN | apply below_drew1 | refine below_set ?_ GE110.out | refine below_set ?_ GE111.out) | exact HB.out))) : w.heap.size ≤ gb112)); have n5_ := Aside0.mk ((by rw [hg]; exact (below_size (by repeat (first | (with_reducible first | exact HB.out | apply below_alloc | apply pw_below_drewN | apply below_drew1 | refine below_set ?_ GE110.out | refine below_set ?_ GE111.out) | exact HB.out))) : w.heap.size ≤ gb112)); have n6_ := Aside0.mk ((by rw [hg]; exact Nat.ne_of_lt (blk_lt (g := gb110) (o := .cells #[.slice A0_0 l0_0.length c0_0, .int .i64 a0_1] 24 (0, 0)) (by (with_reducible repeat (first | refine blk_drewN ?_ _ | refine blk_drew ?_ | refine blk_alloc ?_ _)); exact BK110.out)) : gb110 ≠ gb112)); have n7_ := Aside0.mk ((by rw [hg]; exact Nat.ne_of_gt (blk_lt (g := gb110) (o := .cells #[.slice A0_0 l0_0.length c0_0, .int .i64 a0_1] 24 (0, 0)) (by (with_reducible repeat (first | refine blk_drewN ?_ _ | refine blk_drew ?_ | refine blk_alloc ?_ _)); exact BK110.out)) : gb112 ≠ gb110)); have n8_ := Aside0.mk ((by rw [hg]; exact Nat.ne_of_lt (blk_lt (g := gb111) (o := .cells #[.string a1_0, .string a1_1, .int .i64 a1_2, .int .i64 a1_3, .int .i64 a1_4, .int .i64 a1_5, .string a1_6] 40 (0, 0)) (by (with_reducible repeat (first | refine blk_drewN ?_ _ | refine blk_drew ?_ | refine blk_alloc ?_ _)); exact BK111.out)) : gb111 ≠ gb112)); have n9_ := Aside0.mk ((by rw [hg]; exact Nat.ne_of_gt (blk_lt (g := gb111) (o := .cells #[.string a1_0, .string a1_1, .int .i64 a1_2, .int .i64 a1_3, .int .i64 a1_4, .int .i64 a1_5, .string a1_6] 40 (0, 0)) (by (with_reducible repeat (first | refine blk_drewN ?_ _ | refine blk_drew ?_ | refine blk_alloc ?_ _)); exact BK111.out)) : gb112 ≠ gb111)); clear BK110; clear BK111; clear HB; have BK110 := n0_; have BK111 := n1_; have HB := n2_; have BK112 := n3_; have GW112 := n4_; have GE112 := n5_; have NB110_112 := n6_; have NB112_110 := n7_; have NB111_112 := n8_; have NB112_111 := n9_; clear n0_ n1_ n2_ n3_ n4_ n5_ n6_ n7_ n8_ n9_; clear hb hbox hg) | ((with_reducible refine gate_callee (f := 22) rfl ?_); refine goesL_ (some 17) rfl rfl Try.func22 (by kernel_rfl) rfl #[.int .i64 a4] rfl (by (try simp only [List.map_toArray, List.map_cons, List.map_nil]); first | done | rfl | (simp only [List.length_drop, List.length_take]; rfl)) ?_; (with_reducible refine (reply_Class.calls a4 t113 _ A7.out).mono ?_); rintro e w' ⟨rfl, ⟨nd, rfl⟩⟩; refine ⟨_, rfl, ?_⟩; (try (rw [drewN_self w97]; generalize hq_ : World.drewN w97 _ = w97; have n0_ : Aside0 (w97.heap[gb110]? = some (.cells #[.slice A0_0 l0_0.length c0_0, .int .i64 a0_1] 24 (0, 0))) := ⟨by rw [← hq_]; exact (by (with_reducible repeat (first | refine blk_drewN ?_ _ | refine blk_drew ?_ | refine blk_alloc ?_ _)); exact BK110.out)⟩; have n1_ : Aside0 (w97.heap[gb111]? = some (.cells #[.string a1_0, .string a1_1, .int .i64 a1_2, .int .i64 a1_3, .int .i64 a1_4, .int .i64 a1_5, .string a1_6] 40 (0, 0))) := ⟨by rw [← hq_]; exact (by (with_reducible repeat (first | refine blk_drewN ?_ _ | refine blk_drew ?_ | refine blk_alloc ?_ _)); exact BK111.out)⟩; have n2_ : Aside0 (w97.heap[gb112]? = some (.cells #[.string (⟨#[]⟩ : ByteArray), .string (⟨#[]⟩ : ByteArray), .int .i64 0, .int .i64 0, .int .i64 0, .int .i64 0, .string (⟨#[]⟩ : ByteArray)] 40 (0, 0))) := ⟨by rw [← hq_]; exact (by (with_reducible repeat (first | refine blk_drewN ?_ _ | refine blk_drew ?_ | refine blk_alloc ?_ _)); exact BK112.out)⟩; have n3_ : Aside0 (Below w.heap.size w w97) := ⟨by rw [← hq_]; exact (by repeat (first | (with_reducible first | exact HB.out | apply below_alloc | apply pw_below_drewN | apply below_drew1 | refine below_set ?_ GE110.out | refine below_set ?_ GE111.out | refine below_set ?_ GE112.out) | exact HB.out))⟩; clear BK110 BK111 BK112 HB hq_; have BK110 := n0_; have BK111 := n1_; have BK112 := n2_; have HB := n3_; clear n0_ n1_ n2_ n3_)); have hnb98 := NB111_110.out; have hnc98 := NB110_111.out; have hnb99 := NB111_112.out; have hnc99 := NB112_111.out; have hcz100_0 : w97.cell? ⟨gb111, 0, none⟩ = some (.string a1_0) := (blk_cell BK111.out 0).trans rfl; have hcz100_1 : w97.cell? ⟨gb111, 1, none⟩ = some (.string a1_1) := (blk_cell BK111.out 1).trans rfl; have hcz100_2 : w97.cell? ⟨gb111, 2, none⟩ = some (.int .i64 a1_2) := (blk_cell BK111.out 2).trans rfl; have hcz100_3 : w97.cell? ⟨gb111, 3, none⟩ = some (.int .i64 a1_3) := (blk_cell BK111.out 3).trans rfl; have hcz100_4 : w97.cell? ⟨gb111, 4, none⟩ = some (.int .i64 a1_4) := (blk_cell BK111.out 4).trans rfl; have hcz100_5 : w97.cell? ⟨gb111, 5, none⟩ = some (.int .i64 a1_5) := (blk_cell BK111.out 5).trans rfl; have hcz100_6 : w97.cell? ⟨gb111, 6, none⟩ = some (.string a1_6) := (blk_cell BK111.out 6).trans rfl; have hfz100_0 := blk_frozen BK111.out 0; have hfz100_1 := blk_frozen BK111.out 1; have hfz100_2 := blk_frozen BK111.out 2; have hfz100_3 := blk_frozen BK111.out 3; have hfz100_4 := blk_frozen BK111.out 4; have hfz100_5 := blk_frozen BK111.out 5; have hfz100_6 := blk_frozen BK111.out 6))
              have n0_ : Aside0 ((w97.setCell ⟨gb111, 3, none⟩ (.int .i64 ji8)).heap[gb110]? = some (.cells #[.slice A0_0 l0_0.length c0_0, .int .i64 a0_1] 24 (0, 0))) := ⟨by (with_reducible repeat (first | refine blk_drewN ?_ _ | refine blk_drew ?_ | refine blk_alloc ?_ _)); refine blk_far ?_ NB110_111.out _; (with_reducible repeat (first | refine blk_drewN ?_ _ | refine blk_drew ?_ | refine blk_alloc ?_ _)); exact BK110.out⟩
              have n1_ : Aside0 ((w97.setCell ⟨gb111, 3, none⟩ (.int .i64 ji8)).heap[gb111]? = some (.cells #[.string a1_0, .string a1_1, .int .i64 a1_2, .int .i64 ji8, .int .i64 a1_4, .int .i64 a1_5, .string a1_6] 40 (0, 0))) := ⟨by (with_reducible repeat (first | refine blk_drewN ?_ _ | refine blk_drew ?_ | refine blk_alloc ?_ _)); refine blk_put (cs := #[.string a1_0, .string a1_1, .int .i64 a1_2, .int .i64 a1_3, .int .i64 a1_4, .int .i64 a1_5, .string a1_6]) ?_ 3 _ rfl; (with_reducible repeat (first | refine blk_drewN ?_ _ | refine blk_drew ?_ | refine blk_alloc ?_ _)); exact BK111.out⟩
              have n2_ : Aside0 ((w97.setCell ⟨gb111, 3, none⟩ (.int .i64 ji8)).heap[gb112]? = some (.cells #[.string (⟨#[]⟩ : ByteArray), .string (⟨#[]⟩ : ByteArray), .int .i64 0, .int .i64 0, .int .i64 0, .int .i64 0, .string (⟨#[]⟩ : ByteArray)] 40 (0, 0))) := ⟨by (with_reducible repeat (first | refine blk_drewN ?_ _ | refine blk_drew ?_ | refine blk_alloc ?_ _)); refine blk_far ?_ NB112_111.out _; (with_reducible repeat (first | refine blk_drewN ?_ _ | refine blk_drew ?_ | refine blk_alloc ?_ _)); exact BK112.out⟩
              have n3_ : Aside0 (Below w.heap.size w (w97.setCell ⟨gb111, 3, none⟩ (.int .i64 ji8))) := ⟨by repeat (first | (with_reducible first | exact HB.out | apply below_alloc | apply pw_below_drewN | apply below_drew1 | refine below_set ?_ GE110.out | refine below_set ?_ GE111.out | refine below_set ?_ GE112.out) | exact HB.out)⟩
              (try clear BK110)
              (try clear BK111)
              (try clear BK112)
              (try clear HB)
              generalize (w97.setCell ⟨gb111, 3, none⟩ (.int .i64 ji8)) = w101 at n0_ n1_ n2_ n3_ ⊢
              have BK110 := n0_
              have BK111 := n1_
              have BK112 := n2_
              have HB := n3_
              clear n0_ n1_ n2_ n3_
              have n0_ := Aside0.mk (blk_drew BK110.out)
              have n1_ := Aside0.mk (blk_drew BK111.out)
              have n2_ := Aside0.mk (blk_drew BK112.out)
              have n3_ := Aside0.mk (below_drew1 HB.out)
              clear BK110
              clear BK111
              clear BK112
              clear HB
              have BK110 := n0_
              have BK111 := n1_
              have BK112 := n2_
              have HB := n3_
              clear n0_ n1_ n2_ n3_
              refine start_ (n := 10) (S := fun w' => True) (ds := []) #[false, false, false, false, false, false, false, false, false, false] (by kernel_rfl) rfl rfl trivial (fun hHeld => ?_); refine with_tabW retry_Done.tab3 retry_Done.bits3 (fun HT_ HW_ => ?_)
              generalize w101.drew = w102 at BK110 BK111 BK112 HB hHeld ⊢
              refine pure_ (i := 0) (N := some 23) (v := ?_) (a' := ?_) #[true, false, false, false, false, false, false, false, false, false] rfl rfl (any_of HT_.out (by kernel_rfl)) (fun _ _ _ h => h) (Or.inl ⟨by rfl, ?_⟩) ?_ ?_
              rotate_left
              · intro w'
                go_simp
                with_reducible rfl
              rotate_left
              · simp only [Act.put, List.setIfInBounds_toArray, List.set_cons_zero, List.set_cons_succ, i64_w, i32_w]
                rfl
              refine pure_ (i := 1) (N := some 24) (v := ?_) (a' := ?_) #[true, true, false, false, false, false, false, false, false, false] rfl rfl (any_of HT_.out (by kernel_rfl)) (fun _ _ _ h => h) (Or.inl ⟨by rfl, ?_⟩) ?_ ?_
              rotate_left
              · intro w'
                go_simp
                with_reducible rfl
              rotate_left
              · simp only [Act.put, List.setIfInBounds_toArray, List.set_cons_zero, List.set_cons_succ, i64_w, i32_w]
                rfl
              refine pure_ (i := 2) (N := some 25) (v := ?_) (a' := ?_) #[true, true, true, false, false, false, false, false, false, false] rfl rfl (any_of HT_.out (by kernel_rfl)) (fun _ _ _ h => h) (Or.inl ⟨by rfl, ?_⟩) ?_ ?_
              rotate_left
              · intro w'
                go_simp
                with_reducible rfl
              rotate_left
              · simp only [Act.put, List.setIfInBounds_toArray, List.set_cons_zero, List.set_cons_succ, i64_w, i32_w]
                rfl
              refine pure_ (i := 3) (N := some 26) (v := ?_) (a' := ?_) #[true, true, true, true, false, false, false, false, false, false] rfl rfl (any_of HT_.out (by kernel_rfl)) (fun _ _ _ h => h) (Or.inl ⟨by rfl, ?_⟩) ?_ ?_
              rotate_left
              · intro w'
                go_simp
                with_reducible rfl
              rotate_left
              · simp only [Act.put, List.setIfInBounds_toArray, List.set_cons_zero, List.set_cons_succ, i64_w, i32_w]
                rfl
              refine pure_ (i := 4) (N := some 27) (v := ?_) (a' := ?_) #[true, true, true, true, true, false, false, false, false, false] rfl rfl (any_of HT_.out (by kernel_rfl)) (fun _ _ _ h => h) (Or.inl ⟨by rfl, ?_⟩) ?_ ?_
              rotate_left
              · intro w'
                go_simp
                with_reducible rfl
              rotate_left
              · simp only [Act.put, List.setIfInBounds_toArray, List.set_cons_zero, List.set_cons_succ, i64_w, i32_w]
                rfl
              refine pure_ (i := 5) (N := some 28) (v := ?_) (a' := ?_) #[true, true, true, true, true, true, false, false, false, false] rfl rfl (any_of HT_.out (by kernel_rfl)) (fun _ _ _ h => h) (Or.inl ⟨by rfl, ?_⟩) ?_ ?_
              rotate_left
              · intro w'
                go_simp
                with_reducible rfl
              rotate_left
              · simp only [Act.put, List.setIfInBounds_toArray, List.set_cons_zero, List.set_cons_succ, i64_w, i32_w]
                rfl
              refine pure_ (i := 6) (N := some 29) (v := ?_) (a' := ?_) #[true, true, true, true, true, true, true, false, false, false] rfl rfl (any_of HT_.out (by kernel_rfl)) (fun _ _ _ h => h) (Or.inl ⟨by rfl, ?_⟩) ?_ ?_
              rotate_left
              · intro w'
                go_simp
                with_reducible rfl
              rotate_left
              · simp only [Act.put, List.setIfInBounds_toArray, List.set_cons_zero, List.set_cons_succ, i64_w, i32_w]
                rfl
              refine one_ (i := 7) (N := none) #[true, true, true, true, true, true, true, true, false, false] rfl rfl (one_of HT_.out (by kernel_rfl)) (by decide) (fun K hK => ?_)
              have hs103 : w102.cell? ⟨gb111, 5, none⟩ = some (.int .i64 a1_5) := (blk_cell BK111.out 5).trans rfl
              have hfs103 := blk_frozen BK111.out 5
              have hns103_0 := NB110_111.out
              have hns103_2 := NB112_111.out
              have hms103_0 := NB111_110.out
              have hms103_2 := NB111_112.out
              refine skip_ (w1 := ?_) (by rfl) rfl ?_ ?_
              rotate_left
              · go_simp
                rfl
              refine hK.out _ _ trivial (fun hHeld => ?_)
              clear hK K
              refine pure_ (i := 8) (N := some 30) (v := ?_) (a' := ?_) #[true, true, true, true, true, true, true, true, true, false] rfl rfl (any_of HT_.out (by kernel_rfl)) (fun _ _ _ h => h) (Or.inl ⟨by rfl, ?_⟩) ?_ ?_
              rotate_left
              · intro w'
                go_simp
                with_reducible rfl
              rotate_left
              · simp only [Act.put, List.setIfInBounds_toArray, List.set_cons_zero, List.set_cons_succ, i64_w, i32_w]
                rfl
              refine one_ (i := 9) (N := none) #[true, true, true, true, true, true, true, true, true, true] rfl rfl (one_of HT_.out (by kernel_rfl)) (by decide) (fun K hK => ?_)
              have hs104 : w102.cell? ⟨gb111, 6, none⟩ = some (.string a1_6) := (blk_cell BK111.out 6).trans rfl
              have hfs104 := blk_frozen BK111.out 6
              have hns104_0 := NB110_111.out
              have hns104_2 := NB112_111.out
              have hms104_0 := NB111_110.out
              have hms104_2 := NB111_112.out
              refine skip_ (w1 := ?_) (by rfl) rfl ?_ ?_
              rotate_left
              · go_simp
                rfl
              refine hK.out _ _ trivial (fun hHeld => ?_)
              clear hK K
              refine done_ (done_of HT_.out (by kernel_rfl)) ?_
              have hnb105 := NB110_112.out
              have hnc105 := NB112_110.out
              have hcz106_0 : w102.cell? ⟨gb110, 0, none⟩ = some (.slice A0_0 l0_0.length c0_0) := (blk_cell BK110.out 0).trans rfl
              have hcz106_1 : w102.cell? ⟨gb110, 1, none⟩ = some (.int .i64 a0_1) := (blk_cell BK110.out 1).trans rfl
              have hfz106_0 := blk_frozen BK110.out 0
              have hfz106_1 := blk_frozen BK110.out 1
              have hcz107_0 : w102.cell? ⟨gb111, 0, none⟩ = some (.string a1_0) := (blk_cell BK111.out 0).trans rfl
              have hcz107_1 : w102.cell? ⟨gb111, 1, none⟩ = some (.string a1_1) := (blk_cell BK111.out 1).trans rfl
              have hcz107_2 : w102.cell? ⟨gb111, 2, none⟩ = some (.int .i64 a1_2) := (blk_cell BK111.out 2).trans rfl
              have hcz107_3 : w102.cell? ⟨gb111, 3, none⟩ = some (.int .i64 ji8) := (blk_cell BK111.out 3).trans rfl
              have hcz107_4 : w102.cell? ⟨gb111, 4, none⟩ = some (.int .i64 a1_4) := (blk_cell BK111.out 4).trans rfl
              have hcz107_5 : w102.cell? ⟨gb111, 5, none⟩ = some (.int .i64 a1_5) := (blk_cell BK111.out 5).trans rfl
              have hcz107_6 : w102.cell? ⟨gb111, 6, none⟩ = some (.string a1_6) := (blk_cell BK111.out 6).trans rfl
              have hfz107_0 := blk_frozen BK111.out 0
              have hfz107_1 := blk_frozen BK111.out 1
              have hfz107_2 := blk_frozen BK111.out 2
              have hfz107_3 := blk_frozen BK111.out 3
              have hfz107_4 := blk_frozen BK111.out 4
              have hfz107_5 := blk_frozen BK111.out 5
              have hfz107_6 := blk_frozen BK111.out 6
              try go_wp2_with (first | ((with_reducible refine gate_callee (f := 12) rfl ?_); refine goesL_ (some 49) rfl rfl Try.func12 (by kernel_rfl) rfl #[.agg #[.slice A0_0 l0_0.length c0_0, .int .i64 a0_1], .int .i64 a2, .int .i64 ji8, .int .i64 a3] rfl (by (try simp only [List.map_toArray, List.map_cons, List.map_nil]); first | done | (simp only [hji8]; rfl) | rfl | (simp only [List.length_drop, List.length_take]; rfl)) ?_; (with_reducible refine (retry_Next.calls _ _ l0_0 a0_1 a2 ji8 a3 t116 false _ ?side1 ?side2 A76.out).mono ?_); (case side1 => exact Kd.C_below HR0_0.out (by repeat (first | (with_reducible first | exact HB.out | apply below_alloc | apply pw_below_drewN | apply below_drew1 | refine below_set ?_ GE110.out | refine below_set ?_ GE111.out | refine below_set ?_ GE112.out) | exact HB.out))); (case side2 => exact HC0_0.out); rintro e w108 ⟨rfl, hb⟩; refine ⟨_, rfl, ?_⟩; have n0_ := Aside0.mk (blk_below (g := gb110) (o := .cells #[.slice A0_0 l0_0.length c0_0, .int .i64 a0_1] 24 (0, 0)) (by (with_reducible repeat (first | refine blk_drewN ?_ _ | refine blk_drew ?_ | refine blk_alloc ?_ _)); refine blk_far ?_ NB110_111.out _; (with_reducible repeat (first | refine blk_drewN ?_ _ | refine blk_drew ?_ | refine blk_alloc ?_ _)); refine blk_far ?_ NB110_111.out _; (with_reducible repeat (first | refine blk_drewN ?_ _ | refine blk_drew ?_ | refine blk_alloc ?_ _)); exact BK110.out) hb); have n1_ := Aside0.mk (blk_below (g := gb111) (o := .cells #[.string a1_0, .string a1_1, .int .i64 a1_2, .int .i64 ji8, .int .i64 a1_4, .int .i64 a4, .string (a5.extract 0 ((ji9) : Int).toNat)] 40 (0, 0)) (by (with_reducible repeat (first | refine blk_drewN ?_ _ | refine blk_drew ?_ | refine blk_alloc ?_ _)); refine blk_put (cs := #[.string a1_0, .string a1_1, .int .i64 a1_2, .int .i64 ji8, .int .i64 a1_4, .int .i64 a4, .string a1_6]) ?_ 6 _ rfl; (with_reducible repeat (first | refine blk_drewN ?_ _ | refine blk_drew ?_ | refine blk_alloc ?_ _)); refine blk_put (cs := #[.string a1_0, .string a1_1, .int .i64 a1_2, .int .i64 ji8, .int .i64 a1_4, .int .i64 a1_5, .string a1_6]) ?_ 5 _ rfl; (with_reducible repeat (first | refine blk_drewN ?_ _ | refine blk_drew ?_ | refine blk_alloc ?_ _)); exact BK111.out) hb); have n2_ := Aside0.mk (blk_below (g := gb112) (o := .cells #[.string (⟨#[]⟩ : ByteArray), .string (⟨#[]⟩ : ByteArray), .int .i64 0, .int .i64 0, .int .i64 0, .int .i64 0, .string (⟨#[]⟩ : ByteArray)] 40 (0, 0)) (by (with_reducible repeat (first | refine blk_drewN ?_ _ | refine blk_drew ?_ | refine blk_alloc ?_ _)); refine blk_far ?_ NB112_111.out _; (with_reducible repeat (first | refine blk_drewN ?_ _ | refine blk_drew ?_ | refine blk_alloc ?_ _)); refine blk_far ?_ NB112_111.out _; (with_reducible repeat (first | refine blk_drewN ?_ _ | refine blk_drew ?_ | refine blk_alloc ?_ _)); exact BK112.out) hb); have n3_ := Aside0.mk (below_step (by repeat (first | (with_reducible first | exact HB.out | apply below_alloc | apply pw_below_drewN | apply below_drew1 | refine below_set ?_ GE110.out | refine below_set ?_ GE111.out | refine below_set ?_ GE112.out) | exact HB.out)) hb); clear BK110; clear BK111; clear BK112; clear HB; have BK110 := n0_; have BK111 := n1_; have BK112 := n2_; have HB := n3_; clear n0_ n1_ n2_ n3_; (try clear hb); (try clear hb2); (try clear hk); (try clear hi); have hcz109_0 : w108.cell? ⟨gb111, 0, none⟩ = some (.string a1_0) := (blk_cell BK111.out 0).trans rfl; have hcz109_1 : w108.cell? ⟨gb111, 1, none⟩ = some (.string a1_1) := (blk_cell BK111.out 1).trans rfl; have hcz109_2 : w108.cell? ⟨gb111, 2, none⟩ = some (.int .i64 a1_2) := (blk_cell BK111.out 2).trans rfl; have hcz109_3 : w108.cell? ⟨gb111, 3, none⟩ = some (.int .i64 ji8) := (blk_cell BK111.out 3).trans rfl; have hcz109_4 : w108.cell? ⟨gb111, 4, none⟩ = some (.int .i64 a1_4) := (blk_cell BK111.out 4).trans rfl; have hcz109_5 : w108.cell? ⟨gb111, 5, none⟩ = some (.int .i64 a4) := (blk_cell BK111.out 5).trans rfl; have hcz109_6 : w108.cell? ⟨gb111, 6, none⟩ = some (.string (a5.extract 0 ((ji9) : Int).toNat)) := (blk_cell BK111.out 6).trans rfl; have hfz109_0 := blk_frozen BK111.out 0; have hfz109_1 := blk_frozen BK111.out 1; have hfz109_2 := blk_frozen BK111.out 2; have hfz109_3 := blk_frozen BK111.out 3; have hfz109_4 := blk_frozen BK111.out 4; have hfz109_5 := blk_frozen BK111.out 5; have hfz109_6 := blk_frozen BK111.out 6; have hcz110_0 : w108.cell? ⟨gb112, 0, none⟩ = some (.string (⟨#[]⟩ : ByteArray)) := (blk_cell BK112.out 0).trans rfl; have hcz110_1 : w108.cell? ⟨gb112, 1, none⟩ = some (.string (⟨#[]⟩ : ByteArray)) := (blk_cell BK112.out 1).trans rfl; have hcz110_2 : w108.cell? ⟨gb112, 2, none⟩ = some (.int .i64 0) := (blk_cell BK112.out 2).trans rfl; have hcz110_3 : w108.cell? ⟨gb112, 3, none⟩ = some (.int .i64 0) := (blk_cell BK112.out 3).trans rfl; have hcz110_4 : w108.cell? ⟨gb112, 4, none⟩ = some (.int .i64 0) := (blk_cell BK112.out 4).trans rfl; have hcz110_5 : w108.cell? ⟨gb112, 5, none⟩ = some (.int .i64 0) := (blk_cell BK112.out 5).trans rfl; have hcz110_6 : w108.cell? ⟨gb112, 6, none⟩ = some (.string (⟨#[]⟩ : ByteArray)) := (blk_cell BK112.out 6).trans rfl; have hfz110_0 := blk_frozen BK112.out 0; have hfz110_1 := blk_frozen BK112.out 1; have hfz110_2 := blk_frozen BK112.out 2; have hfz110_3 := blk_frozen BK112.out 3; have hfz110_4 := blk_frozen BK112.out 4; have hfz110_5 := blk_frozen BK112.out 5; have hfz110_6 := blk_frozen BK112.out 6))
              refine bodyPost_ret (results_cell_row rfl _ _ gb112 40 #[.string a1_0, .string a1_1, .int .i64 4, .int .i64 ji8, .int .i64 a1_4, .int .i64 a4, .string (a5.extract 0 ((ji9) : Int).toNat)] (0, 0) _ rfl (by (with_reducible repeat (first | refine blk_drewN ?_ _ | refine blk_drew ?_ | refine blk_alloc ?_ _)); refine blk_put (cs := #[.string a1_0, .string a1_1, .int .i64 4, .int .i64 ji8, .int .i64 a1_4, .int .i64 a4, .string (⟨#[]⟩ : ByteArray)]) ?_ 6 _ rfl; (with_reducible repeat (first | refine blk_drewN ?_ _ | refine blk_drew ?_ | refine blk_alloc ?_ _)); refine blk_put (cs := #[.string a1_0, .string a1_1, .int .i64 4, .int .i64 ji8, .int .i64 a1_4, .int .i64 0, .string (⟨#[]⟩ : ByteArray)]) ?_ 5 _ rfl; (with_reducible repeat (first | refine blk_drewN ?_ _ | refine blk_drew ?_ | refine blk_alloc ?_ _)); refine blk_put (cs := #[.string a1_0, .string a1_1, .int .i64 4, .int .i64 ji8, .int .i64 0, .int .i64 0, .string (⟨#[]⟩ : ByteArray)]) ?_ 4 _ rfl; (with_reducible repeat (first | refine blk_drewN ?_ _ | refine blk_drew ?_ | refine blk_alloc ?_ _)); refine blk_put (cs := #[.string a1_0, .string a1_1, .int .i64 4, .int .i64 0, .int .i64 0, .int .i64 0, .string (⟨#[]⟩ : ByteArray)]) ?_ 3 _ rfl; (with_reducible repeat (first | refine blk_drewN ?_ _ | refine blk_drew ?_ | refine blk_alloc ?_ _)); refine blk_put (cs := #[.string a1_0, .string a1_1, .int .i64 0, .int .i64 0, .int .i64 0, .int .i64 0, .string (⟨#[]⟩ : ByteArray)]) ?_ 2 _ rfl; (with_reducible repeat (first | refine blk_drewN ?_ _ | refine blk_drew ?_ | refine blk_alloc ?_ _)); refine blk_put (cs := #[.string a1_0, .string (⟨#[]⟩ : ByteArray), .int .i64 0, .int .i64 0, .int .i64 0, .int .i64 0, .string (⟨#[]⟩ : ByteArray)]) ?_ 1 _ rfl; (with_reducible repeat (first | refine blk_drewN ?_ _ | refine blk_drew ?_ | refine blk_alloc ?_ _)); refine blk_put (cs := #[.string (⟨#[]⟩ : ByteArray), .string (⟨#[]⟩ : ByteArray), .int .i64 0, .int .i64 0, .int .i64 0, .int .i64 0, .string (⟨#[]⟩ : ByteArray)]) ?_ 0 _ rfl; (with_reducible repeat (first | refine blk_drewN ?_ _ | refine blk_drew ?_ | refine blk_alloc ?_ _)); refine blk_far ?_ NB112_111.out _; (with_reducible repeat (first | refine blk_drewN ?_ _ | refine blk_drew ?_ | refine blk_alloc ?_ _)); exact BK112.out) Try.underlying40 rfl (by kernel_rfl)) rfl ?_
              exact ⟨by first | rfl | (simp [errW_none, errW_some] <;> rfl) | (simp only [← hji8, ← hji9]; first | rfl | (simp [errW_none, errW_some] <;> rfl)) | (simp [*, errW_none, errW_some] <;> rfl), by repeat (first | (with_reducible first | exact HB.out | apply below_alloc | apply pw_below_drewN | apply below_drew1 | refine below_set ?_ GE110.out | refine below_set ?_ GE111.out | refine below_set ?_ GE112.out) | exact HB.out)⟩
    · rw [if_neg c11] at H
      exact absurd H (by simp)
  · rw [if_neg c10] at H
    exact absurd H (by simp)

end Go.Proofs.Ytagblpjpphkkeaa.PRetryCodes
