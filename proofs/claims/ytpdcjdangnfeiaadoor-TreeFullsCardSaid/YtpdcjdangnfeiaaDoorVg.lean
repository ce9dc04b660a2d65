/- TreeFulls walked. -/
import Derived.Test.YtpdcjdangnfeiaaDoorM9
import Derived.Test.YtpdcjdangnfeiaaDoorVf
namespace Go.Proofs.YtpdcjdangnfeiaaDoor.Vg
open Go Go.Maps Go.RowKit Go.Proofs.YtpdcjdangnfeiaaDoor.Pb Go.Proofs.YtpdcjdangnfeiaaDoor.PPth Go.Proofs.YtpdcjdangnfeiaaDoorW.PrintWords Go.Proofs.YtpdcjdangnfeiaaDoorW.PrintLast Go.Proofs.YtpdcjdangnfeiaaDoorW.PrintMore Go.Proofs.YtpdcjdangnfeiaaDoor.Ta Go.Proofs.YtpdcjdangnfeiaaDoor.Tb Go.Proofs.YtpdcjdangnfeiaaDoor.Tc Go.Proofs.YtpdcjdangnfeiaaDoor.Te Go.Proofs.YtpdcjdangnfeiaaDoor.Tf Go.Proofs.YtpdcjdangnfeiaaDoor.Qa Go.Proofs.YtpdcjdangnfeiaaDoor.Qb Go.Proofs.YtpdcjdangnfeiaaDoor.Qc Go.Proofs.YtpdcjdangnfeiaaDoor.Qd Go.Proofs.YtpdcjdangnfeiaaDoor.Qe Go.Proofs.YtpdcjdangnfeiaaDoor.Qf Go.Proofs.YtpdcjdangnfeiaaDoor.Ua Go.Proofs.YtpdcjdangnfeiaaDoor.Ub Go.Proofs.YtpdcjdangnfeiaaDoor.Uc Go.Proofs.YtpdcjdangnfeiaaDoor.Ud Go.Proofs.YtpdcjdangnfeiaaDoor.Ue Go.Proofs.YtpdcjdangnfeiaaDoor.Uf Go.Proofs.YtpdcjdangnfeiaaDoor.Ba Go.Proofs.YtpdcjdangnfeiaaDoor.Ug Go.Proofs.YtpdcjdangnfeiaaDoor.Uh Go.Proofs.YtpdcjdangnfeiaaDoor.Ui Go.Proofs.YtpdcjdangnfeiaaDoor.Uj Go.Proofs.YtpdcjdangnfeiaaDoor.Uk Go.Proofs.YtpdcjdangnfeiaaDoor.Ul Go.Proofs.YtpdcjdangnfeiaaDoor.Um Go.Proofs.YtpdcjdangnfeiaaDoor.Un Go.Proofs.YtpdcjdangnfeiaaDoor.Uo Go.Proofs.YtpdcjdangnfeiaaDoor.Up Go.Proofs.YtpdcjdangnfeiaaDoor.Uq Go.Proofs.YtpdcjdangnfeiaaDoor.Ur Go.Proofs.YtpdcjdangnfeiaaDoor.Us Go.Proofs.YtpdcjdangnfeiaaDoor.Ut Go.Proofs.YtpdcjdangnfeiaaDoor.Uu Go.Proofs.YtpdcjdangnfeiaaDoor.Uv Go.Proofs.YtpdcjdangnfeiaaDoor.Uw Go.Proofs.YtpdcjdangnfeiaaDoor.Ux Go.Proofs.YtpdcjdangnfeiaaDoor.Uy Go.Proofs.YtpdcjdangnfeiaaDoor.Uz Go.Proofs.YtpdcjdangnfeiaaDoor.Va Go.Proofs.YtpdcjdangnfeiaaDoor.Vb Go.Proofs.YtpdcjdangnfeiaaDoor.Vc Go.Proofs.YtpdcjdangnfeiaaDoor.Vd Go.Proofs.YtpdcjdangnfeiaaDoor.Ve Go.Proofs.YtpdcjdangnfeiaaDoor.Vf
theorem allF_run (I : Nat) (h : allF I 60 ⟨rootA, 1, I⟩ 0 0 = true) : ∀ k, k ≤ 60 → allF I (60 - k) (runF I k).1 (runF I k).2 k = true
  | 0, _ => h
  | k + 1, hk => by
    have ih := allF_run I h k (by omega)
    obtain ⟨f, hf⟩ : ∃ f, 60 - k = f + 1 := ⟨60 - k - 1, by omega⟩
    rw [hf] at ih
    have hf2 : 60 - (k + 1) = f := by omega
    rw [hf2]
    unfold allF at ih
    simp only [Bool.and_eq_true] at ih
    have ih3 := ih.2
    show allF I f (doS (runF I k).1 (oF k)) (if doE (runF I k).1 (oF k) = 0 then (runF I k).2 + 1 else (runF I k).2) (k + 1) = true
    by_cases c : doE (runF I k).1 (oF k) = 0
    · rw [if_pos c] at ih3 ⊢; exact ih3
    · rw [if_neg c] at ih3 ⊢
      have : doS (runF I k).1 (oF k) = (runF I k).1 := by unfold doS; rw [if_pos c]
      rw [this]; exact ih3
theorem run_cond (I : Nat) (hI : I < 40) (k : Nat) (hk : k < 60) : condF I k (runF I k).1 (runF I k).2 = true := by
  have h := allF_run I (allF_ok ⟨I, hI⟩) k (by omega)
  obtain ⟨f, hf⟩ : ∃ f, 60 - k = f + 1 := ⟨60 - k - 1, by omega⟩
  rw [hf] at h
  unfold allF at h
  simp only [Bool.and_eq_true] at h
  exact h.1.2
theorem run_fin (I : Nat) (hI : I < 40) (k : Nat) (hk : k ≤ 60) : finF I (runF I k).1 (runF I k).2 = true := by
  have h := allF_run I (allF_ok ⟨I, hI⟩) k hk
  unfold allF at h
  split at h
  · exact h
  · simp only [Bool.and_eq_true] at h
    exact h.1.1
theorem text2 (W : World) (x y : UInt8) (a b : Int) (ha : a = (x.toNat : Int)) (hb : b = (y.toNat : Int)) :
    (convert 28 9 (.slice (some ⟨W.heap.size, 0, none⟩) 2 2)).run Tryd.prog (W.alloc (.cells #[.int .u8 a, .int .u8 b] 5)) = .ok (.string ⟨#[x, y]⟩) (W.alloc (.cells #[.int .u8 a, .int .u8 b] 5)) := by
  subst ha hb
  exact RdB.text (RdB.lit W [x, y] (by simp)) 2
theorem u8_of (n : Nat) (h : n < 256) : (UInt8.ofNat n).toNat = n := by
  simp [UInt8.toNat_ofNat']
  omega
set_option maxHeartbeats 8000000 in
set_option maxRecDepth 100000 in
theorem fulls_walk (I N q : Int) (W0 : World) (hq : W0.cell? ⟨0, 0, none⟩ = some (.int .i64 q)) : Calls Tryd.prog 3 #[.int .i64 I, .int .i64 N] W0 fun e w' => e = .returned (.bool true) ∧ Below W0.heap.size W0 w' := by
  have HKN := Lib.hid (known_any W0 q hq)
  by_cases g1 : I < 1
  · clear hq
    go_enter Tryd.func3, Tryd.ntmps3
    go_wp2_with fail
    refine HKN.out.mono ?_
    rintro e w1 ⟨rfl, hb⟩
    go_wp2
    go_ret
    exact ⟨rfl, hb⟩
  by_cases g2 : 40 < I
  · clear hq
    go_enter Tryd.func3, Tryd.ntmps3
    go_wp2_with fail
    refine HKN.out.mono ?_
    rintro e w1 ⟨rfl, hb⟩
    go_wp2
    go_ret
    exact ⟨rfl, hb⟩
  by_cases g3 : N < 0
  · clear hq
    go_enter Tryd.func3, Tryd.ntmps3
    go_wp2_with fail
    refine HKN.out.mono ?_
    rintro e w1 ⟨rfl, hb⟩
    go_wp2
    go_ret
    exact ⟨rfl, hb⟩
  by_cases g4 : 60 < N
  · clear hq
    go_enter Tryd.func3, Tryd.ntmps3
    go_wp2_with fail
    refine HKN.out.mono ?_
    rintro e w1 ⟨rfl, hb⟩
    go_wp2
    go_ret
    exact ⟨rfl, hb⟩
  obtain ⟨i, hi⟩ : ∃ i : Nat, I = ((i + 1 : Nat) : Int) := ⟨(I - 1).toNat, by omega⟩
  obtain ⟨nn, hnn⟩ : ∃ n : Nat, N = (n : Int) := ⟨N.toNat, by omega⟩
  have hi40 : i < 40 := by omega
  have hn60 : nn ≤ 60 := by omega
  have HQ := Lib.hid (fun W (hb : Below W0.heap.size W0 W) => new_at (w := W) (q := q) (n := 1) (i := i) (keepC hb hq) (by omega) (by omega))
  have HI := Lib.hid hi
  have HNN := Lib.hid hnn
  have HN : Hid (∀ W, Below W0.heap.size W0 W → Calls Tryd.prog 11 #[.int .i64 1, .int .i64 I] W fun e w' => ∃ tb', e = .returned (.tuple #[.pointer (some ⟨tb', 0, none⟩), .int .i64 0]) ∧ At w' W.heap.size tb' q ⟨rootA, 1, i⟩ 0 ∧ Below W.heap.size W w') := Lib.hid (by rw [hi]; exact HQ.out)
  clear hq hi hnn HQ
  go_enter Tryd.func3, Tryd.ntmps3
  go_wp2_with fail
  refine HKN.out.mono ?_
  rintro e w1 ⟨rfl, hb⟩
  have HB1 := Lib.hid hb
  clear hb
  go_wp2_with fail
  refine (HN.out _ HB1.out).mono ?_
  rintro e w2 ⟨tb', rfl, ha, hb⟩
  have HA := Lib.hid ha
  have HB2 := Lib.hid (bt HB1.out hb)
  have HBB := Lib.hid hb
  clear ha hb
  go_wp2_with fail
  go_loopw [7, 8] (fun m k wr => ∃ (j : Nat), k = .int .i64 j ∧ j ≤ nn ∧ m = .int .i64 ((runF i j).2 : Nat) ∧ Hid (At wr w1.heap.size tb' q (runF i j).1 j) ∧ Hid (Below w1.heap.size w1 wr)) (fun _ k _ => nn - (intOf k).toNat)
  case atStart => exact ⟨0, rfl, by omega, rfl, HA, HBB⟩
  case round =>
    obtain ⟨j, rfl, hj, rfl, HAt, HBt⟩ := hrel
    by_cases hlt : j < nn
    · have i1 : (j : Int) < N := by rw [HNN.out]; omega
      have hc := run_cond i hi40 j (by omega)
      have hcv := text2 wr (UInt8.ofNat (97 + j % 26)) (UInt8.ofNat (97 + j / 26)) (97 + (j : Int) % 26) (97 + (j : Int) / 26) (by rw [u8_of _ (by omega)]; omega) (by rw [u8_of _ (by omega)]; omega)
      have hd := do_at (oF j) none 0 (HAt.out.below ((Below.refl _ _).alloc (Nat.le_refl _) (.cells #[.int .u8 (97 + (j : Int) % 26), .int .u8 (97 + (j : Int) / 26)] 5))) (by omega) (RdB.nil _ _) (by simp [oF])
      have hpath : (⟨#[47, 102]⟩ : ByteArray) ++ ⟨#[UInt8.ofNat (97 + j % 26), UInt8.ofNat (97 + j / 26)]⟩ = (oF j).path := by
        rw [← tl_inj, tl_append]; rfl
      have hrun : runF i (j + 1) = (doS (runF i j).1 (oF j), if doE (runF i j).1 (oF j) = 0 then (runF i j).2 + 1 else (runF i j).2) := rfl
      unfold opV at hd
      rw [← hpath] at hd
      have HRUN := Lib.hid hrun
      obtain ⟨T, hT⟩ : ∃ T, (⟨#[UInt8.ofNat (97 + j % 26), UInt8.ofNat (97 + j / 26)]⟩ : ByteArray) = T := ⟨_, rfl⟩
      rw [hT] at hcv hd
      have hTs : T.size = 2 := by rw [← hT]; rfl
      have hP2 : (⟨#[47, 102]⟩ : ByteArray).size = 2 := rfl
      obtain ⟨E, hE⟩ : ∃ E, doE (runF i j).1 (oF j) = E := ⟨_, rfl⟩
      obtain ⟨M, hM⟩ : ∃ M, (runF i j).2 = M := ⟨_, rfl⟩
      rw [hE] at hd
      unfold condF at hc
      rw [hE, hM] at hc
      have HM := Lib.hid hM
      have HEE := Lib.hid hE
      have HD := Lib.hid (show Calls Tryd.prog 12 #[.pointer (some ⟨tb', 0, none⟩), .agg #[.int .i64 1, .string (⟨#[47, 102]⟩ ++ T), .string ⟨#[]⟩, .slice none 0 0, .int .i64 0]] _ _ from hd)
      rw [hM]
      simp only [Bool.and_eq_true, beq_iff_eq] at hc
      obtain ⟨hc1, hc2⟩ := hc
      by_cases c0 : E = 0
      · subst c0
        have hm1 : M < i ∧ M < 8 := by
          have : (decide (M < i) && decide (M < 8)) = true := hc1.symm.trans (decide_eq_true rfl)
          simpa using this
        have j1 : (M : Int) < I - 1 := by rw [HI.out]; omega
        have j2 : (M : Int) < 8 := by omega
        have j3 : M < 8 := hm1.2
        clear hpath hrun hT hE hM hd hc1 hc2
        go_wp2_with fail
        refine HD.out.mono ?_
        rintro e w4 ⟨rfl, ha, hb⟩
        have HA4 := Lib.hid ha
        have HB4 := Lib.hid (HBt.out.trans (((Below.refl wr.heap.size wr).alloc (Nat.le_refl _) (.cells #[.int .u8 (97 + (j : Int) % 26), .int .u8 (97 + (j : Int) / 26)] 5) |>.mono HBt.out.size).trans hb))
        clear ha hb hcv
        go_wp2_with fail
        go_roundw
        · refine ⟨j + 1, by go_num, by omega, ?_, ?_, HB4⟩
          · rw [HRUN.out, HEE.out, if_pos rfl, HM.out]; go_num
          · rw [HRUN.out]; exact HA4
        · simp [intOf]; omega
      · have hE7 : E = 7 := by
          have : (decide (E = 0) || decide (E = 7)) = true := hc2
          simp [c0] at this
          exact this
        subst hE7
        have hm1 : ¬ (M < i ∧ M < 8) := by
          have : (decide (M < i) && decide (M < 8)) = false := hc1.symm.trans (decide_eq_false (by decide))
          intro h
          simp [h.1, h.2] at this
        clear hpath hrun hT hE hM hd hc1 hc2 c0
        by_cases j2 : (M : Int) < 8
        · have j1 : ¬ (M : Int) < I - 1 := by rw [HI.out]; omega
          have j3 : M < 8 := by omega
          clear hm1
          go_wp2_with fail
          refine HD.out.mono ?_
          rintro e w4 ⟨rfl, ha, hb⟩
          have HA4 := Lib.hid ha
          have HB4 := Lib.hid (HBt.out.trans (((Below.refl wr.heap.size wr).alloc (Nat.le_refl _) (.cells #[.int .u8 (97 + (j : Int) % 26), .int .u8 (97 + (j : Int) / 26)] 5) |>.mono HBt.out.size).trans hb))
          clear ha hb hcv
          go_wp2_with fail
          go_roundw
          · refine ⟨j + 1, by go_num, by omega, ?_, ?_, HB4⟩
            · rw [HRUN.out, HEE.out, if_neg (by decide), HM.out]
            · rw [HRUN.out]; exact HA4
          · simp [intOf]; omega
        · have j3 : ¬ M < 8 := by omega
          clear hm1
          go_wp2_with fail
          refine HD.out.mono ?_
          rintro e w4 ⟨rfl, ha, hb⟩
          have HA4 := Lib.hid ha
          have HB4 := Lib.hid (HBt.out.trans (((Below.refl wr.heap.size wr).alloc (Nat.le_refl _) (.cells #[.int .u8 (97 + (j : Int) % 26), .int .u8 (97 + (j : Int) / 26)] 5) |>.mono HBt.out.size).trans hb))
          clear ha hb hcv
          go_wp2_with fail
          all_goals
            go_roundw
            · refine ⟨j + 1, by go_num, by omega, ?_, ?_, HB4⟩
              · rw [HRUN.out, HEE.out, if_neg (by decide), HM.out]
              · rw [HRUN.out]; exact HA4
            · simp [intOf]; omega
    · have i1 : ¬ (j : Int) < N := by rw [HNN.out]; omega
      have hf := run_fin i hi40 j (by omega)
      have hfr := free_at HAt.out
      obtain ⟨S1, hS1⟩ : ∃ S1, (runF i j).1 = S1 := ⟨_, rfl⟩
      obtain ⟨M, hM⟩ : ∃ M, (runF i j).2 = M := ⟨_, rfl⟩
      rw [hS1] at hf hfr HAt
      rw [hM] at hf ⊢
      unfold finF at hf
      simp only [Bool.and_eq_true, Bool.or_eq_true, decide_eq_true_eq, beq_iff_eq] at hf
      obtain ⟨⟨⟨f1, f2⟩, f3⟩, f4⟩ := hf
      obtain ⟨b, hb⟩ : ∃ b, S1.blocks = b := ⟨_, rfl⟩
      rw [f1, hb] at hfr
      rw [hb] at f2
      have HFR := Lib.hid hfr
      have k1 : ((i - M : Nat) : Int) = I - 1 - (M : Int) := by rw [HI.out]; omega
      have K1 := Lib.hid k1
      rw [k1] at hfr
      have HFR2 := Lib.hid hfr
      by_cases m0 : M = 0
      · have hb0 : b ≠ 0 := by
          intro e
          subst m0
          simp [e] at f2
        have e1 : ((b : Int) == 0) = false := by simp; exact hb0
        have e2 : ¬ b = 0 := hb0
        subst m0
        clear hfr f1 f2 f3 f4 hM hS1 hb k1 K1
        go_wp2_with fail
        refine HFR2.out.mono ?_
        rintro e w4 ⟨rfl, ha, hb4⟩
        have HB4 := Lib.hid (bt HB1.out (HBt.out.trans (hb4.mono HBt.out.size)))
        clear ha hb4
        go_wp2_with fail
        go_ret
        exact ⟨rfl, HB4.out⟩
      · have hb0 : b = 0 := by
          have h2 : decide (0 < M) = true := decide_eq_true (by omega)
          rw [h2] at f2
          simpa using f2
        have f5 : doE S1 oX = 7 := by
          rcases f3 with h | h
          · exact absurd h m0
          · exact h
        have m1 : ((M : Int) == 0) = false := by simp; exact m0
        have m2 : (0 : Int) < (M : Int) := by omega
        have m3 : ¬ M = 0 := m0
        have m4 : (M : Int) ≤ 40 := by omega
        have m5 : IntKind.i64.wrap (I - 1 - (M : Int)) = I - 1 - (M : Int) := by rw [IntKind.wrap_i64]; omega
        subst hb0
        have F5 := Lib.hid f5
        clear hfr f1 f2 f3 f4 hM hS1 hb k1 K1 f5
        go_wp2_with fail
        refine HFR2.out.mono ?_
        rintro e w4 ⟨rfl, ha, hb4⟩
        have HB4 := Lib.hid (bt HB1.out (HBt.out.trans (hb4.mono HBt.out.size)))
        have hcv := Lib.run_convert_bytes_const (P := Tryd.prog) w4 28 5 #[.int .u8 120] 1 1 Tryd.underlying28 Tryd.underlying5
        have hal := al (w := w4) (.cells (([120] : List UInt8).map bv).toArray 5 (1, 2))
        have h2 : Calls Tryd.prog 12 #[.pointer (some ⟨tb', 0, none⟩), .agg #[.int .i64 3, .string ⟨#[47, 102, 97, 97]⟩, .string ⟨#[]⟩, .slice (some ⟨w4.heap.size, 0, none⟩) 1 1, .int .i64 0]] (w4.alloc (.cells (([120] : List UInt8).map bv).toArray 5 (1, 2))) (AtPost (w4.alloc (.cells (([120] : List UInt8).map bv).toArray 5 (1, 2))) w1.heap.size tb' q (.int .i64 7) (doS S1 oX) (j + 1)) := by
          have := do_at oX (some ⟨w4.heap.size, 0, none⟩) 1 (ha.below hal) (by omega) (lit_rd w4 [120] (1, 2) (by decide)) (by decide)
          rw [F5.out] at this
          exact this
        have HH2 := Lib.hid h2
        have HB5 := Lib.hid (HB4.out.trans (hal.mono HB4.out.size))
        clear ha hb4 h2 hal
        go_wp2_with fail
        refine HH2.out.mono ?_
        rintro e w5 ⟨rfl, ha, hb5⟩
        have HB6 := Lib.hid (HB5.out.trans (hb5.mono HB1.out.size))
        clear ha hb5 hcv
        go_wp2_with fail
        go_ret
        exact ⟨rfl, HB6.out⟩
end Go.Proofs.YtpdcjdangnfeiaaDoor.Vg
