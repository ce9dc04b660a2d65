/- TreeDeep walked. -/
import Derived.Test.YtpdcjdangnfeiaaDoorM9
import Derived.Test.YtpdcjdangnfeiaaDoorVh
import Derived.Lib.Strings
namespace Go.Proofs.YtpdcjdangnfeiaaDoor.Vi
open Go Go.Maps Go.RowKit Go.Proofs.YtpdcjdangnfeiaaDoor.Pb Go.Proofs.YtpdcjdangnfeiaaDoor.PPth Go.Proofs.YtpdcjdangnfeiaaDoorW.PrintWords Go.Proofs.YtpdcjdangnfeiaaDoorW.PrintLast Go.Proofs.YtpdcjdangnfeiaaDoorW.PrintMore Go.Proofs.YtpdcjdangnfeiaaDoor.Ta Go.Proofs.YtpdcjdangnfeiaaDoor.Tb Go.Proofs.YtpdcjdangnfeiaaDoor.Tc Go.Proofs.YtpdcjdangnfeiaaDoor.Te Go.Proofs.YtpdcjdangnfeiaaDoor.Tf Go.Proofs.YtpdcjdangnfeiaaDoor.Qa Go.Proofs.YtpdcjdangnfeiaaDoor.Qb Go.Proofs.YtpdcjdangnfeiaaDoor.Qc Go.Proofs.YtpdcjdangnfeiaaDoor.Qd Go.Proofs.YtpdcjdangnfeiaaDoor.Qe Go.Proofs.YtpdcjdangnfeiaaDoor.Qf Go.Proofs.YtpdcjdangnfeiaaDoor.Ua Go.Proofs.YtpdcjdangnfeiaaDoor.Ub Go.Proofs.YtpdcjdangnfeiaaDoor.Uc Go.Proofs.YtpdcjdangnfeiaaDoor.Ud Go.Proofs.YtpdcjdangnfeiaaDoor.Ue Go.Proofs.YtpdcjdangnfeiaaDoor.Uf Go.Proofs.YtpdcjdangnfeiaaDoor.Ba Go.Proofs.YtpdcjdangnfeiaaDoor.Ug Go.Proofs.YtpdcjdangnfeiaaDoor.Uh Go.Proofs.YtpdcjdangnfeiaaDoor.Ui Go.Proofs.YtpdcjdangnfeiaaDoor.Uj Go.Proofs.YtpdcjdangnfeiaaDoor.Uk Go.Proofs.YtpdcjdangnfeiaaDoor.Ul Go.Proofs.YtpdcjdangnfeiaaDoor.Um Go.Proofs.YtpdcjdangnfeiaaDoor.Un Go.Proofs.YtpdcjdangnfeiaaDoor.Uo Go.Proofs.YtpdcjdangnfeiaaDoor.Up Go.Proofs.YtpdcjdangnfeiaaDoor.Uq Go.Proofs.YtpdcjdangnfeiaaDoor.Ur Go.Proofs.YtpdcjdangnfeiaaDoor.Us Go.Proofs.YtpdcjdangnfeiaaDoor.Ut Go.Proofs.YtpdcjdangnfeiaaDoor.Uu Go.Proofs.YtpdcjdangnfeiaaDoor.Uv Go.Proofs.YtpdcjdangnfeiaaDoor.Uw Go.Proofs.YtpdcjdangnfeiaaDoor.Ux Go.Proofs.YtpdcjdangnfeiaaDoor.Uy Go.Proofs.YtpdcjdangnfeiaaDoor.Uz Go.Proofs.YtpdcjdangnfeiaaDoor.Va Go.Proofs.YtpdcjdangnfeiaaDoor.Vb Go.Proofs.YtpdcjdangnfeiaaDoor.Vc Go.Proofs.YtpdcjdangnfeiaaDoor.Vd Go.Proofs.YtpdcjdangnfeiaaDoor.Ve Go.Proofs.YtpdcjdangnfeiaaDoor.Vh
theorem deep_len (i : Nat) : (deepP i).length = 2 * i := by
  induction i with
  | zero => rfl
  | succ n ih => unfold deepP; rw [List.length_append, ih]; simp; omega
theorem deep_take (n i : Nat) (h : i ≤ n) : (deepP n).take (2 * i) = deepP i := by
  induction n with
  | zero => have : i = 0 := by omega
            subst this; rfl
  | succ n ih =>
    by_cases e : i = n + 1
    · subst e
      rw [List.take_of_length_le (by rw [deep_len]; omega)]
    · show (deepP n ++ [47, 100]).take (2 * i) = _
      rw [List.take_append_of_le_length (by rw [deep_len]; omega)]
      exact ih (by omega)
theorem dB_size (i : Nat) : (dB i).size = 2 * i := by
  show (deepP i).toArray.size = _
  rw [List.size_toArray, deep_len]
theorem dB_cat (i : Nat) : dB i ++ ⟨#[47, 100]⟩ = dB (i + 1) := by
  rw [← tl_inj, tl_append]; simp [tl, dB, deepP]
theorem dB_cut (n i : Nat) (h : i ≤ n) : (dB n).extract 0 (2 * i) = dB i := by
  rw [← tl_inj]
  show ((dB n).extract 0 (2 * i)).data.toList = _
  rw [Lib.extract_data]
  show ((deepP n).toArray.toList.drop 0).take (2 * i - 0) = (deepP i).toArray.toList
  simpa using deep_take n i h
theorem doS_err {s : S} {o : O} (h : doE s o ≠ 0) : doS s o = s := by unfold doS; rw [if_pos h]
set_option maxHeartbeats 8000000 in
set_option maxRecDepth 100000 in
theorem deep_walk (N q : Int) (W0 : World) (hq : W0.cell? ⟨0, 0, none⟩ = some (.int .i64 q)) : Calls Tryd.prog 4 #[.int .i64 N] W0 fun e w' => e = .returned (.bool true) ∧ Below W0.heap.size W0 w' := by
  have HKN := Lib.hid (known_any W0 q hq)
  by_cases g1 : N < 1
  · clear hq
    go_enter Tryd.func4, Tryd.ntmps4
    go_wp2_with fail
    refine HKN.out.mono ?_
    rintro e w1 ⟨rfl, hb⟩
    go_wp2
    go_ret
    exact ⟨rfl, hb⟩
  by_cases g2 : 20 < N
  · clear hq
    go_enter Tryd.func4, Tryd.ntmps4
    go_wp2_with fail
    refine HKN.out.mono ?_
    rintro e w1 ⟨rfl, hb⟩
    go_wp2
    go_ret
    exact ⟨rfl, hb⟩
  obtain ⟨nn, hnn⟩ : ∃ n : Nat, N = (n : Int) := ⟨N.toNat, by omega⟩
  have hn20 : nn ≤ 20 := by omega
  have HN := Lib.hid (fun W (hb : Below W0.heap.size W0 W) => (show Calls Tryd.prog 11 #[.int .i64 100, .int .i64 50] W fun e w' => ∃ tb', e = .returned (.tuple #[.pointer (some ⟨tb', 0, none⟩), .int .i64 0]) ∧ At w' W.heap.size tb' q ⟨rootA, 100, 49⟩ 0 ∧ Below W.heap.size W w' from new_at (w := W) (q := q) (n := 100) (i := 49) (keepC hb hq) (by omega) (by omega)))
  have HNN := Lib.hid hnn
  clear hq hnn
  go_enter Tryd.func4, Tryd.ntmps4
  go_wp2_with fail
  refine HKN.out.mono ?_
  rintro e w1 ⟨rfl, hb⟩
  have HB1 := Lib.hid hb
  clear hb
  go_wp2_with fail
  refine (HN.out _ HB1.out).mono ?_
  rintro e w2 ⟨tb', rfl, ha, hb⟩
  have HA := Lib.hid ha
  have HBB := Lib.hid hb
  clear ha hb
  go_wp2_with fail
  go_loopw [5, 6, 7] (fun p m k wr => ∃ (j : Nat), k = .int .i64 j ∧ j ≤ nn ∧ m = .int .i64 (min j 8 : Nat) ∧ p = .string (dB j) ∧ Hid (At wr w1.heap.size tb' q (upS (min j 8)) j) ∧ Hid (Below w1.heap.size w1 wr)) (fun _ _ k _ => nn - (intOf k).toNat)
  case atStart => exact ⟨0, rfl, by omega, rfl, rfl, HA, HBB⟩
  case round =>
    obtain ⟨j, rfl, hj, rfl, rfl, HAt, HBt⟩ := hrel
    by_cases hlt : j < nn
    · have i1 : (j : Int) < N := by rw [HNN.out]; omega
      have hd := do_at (oM (j + 1)) none 0 HAt.out (by omega) (RdB.nil _ _) (by simp [oM])
      have hTs := dB_size j
      have hcat := dB_cat j
      have hsz : (dB j).size ≤ 100 := by omega
      obtain ⟨T, hT⟩ : ∃ T, dB j = T := ⟨_, rfl⟩
      unfold opV oM at hd
      dsimp only at hd
      rw [← hcat, hT] at hd
      rw [hT] at hTs hsz
      have hP2 : (⟨#[47, 100]⟩ : ByteArray).size = 2 := rfl
      have HT := Lib.hid hT
      have HCAT := Lib.hid hcat
      by_cases j8 : j < 8
      · have e1 : min j 8 = j := by omega
        have e2 : min (j + 1) 8 = j + 1 := by omega
        have hE := up_ok ⟨j, j8⟩
        rw [e1] at hd HAt ⊢
        have hE2 : doE (upS j) ⟨2, T ++ ⟨#[47, 100]⟩, ⟨#[]⟩, [], 0⟩ = 0 := by rw [← hT, hcat]; exact hE
        rw [hE2] at hd
        have hS : doS (upS j) ⟨2, T ++ ⟨#[47, 100]⟩, ⟨#[]⟩, [], 0⟩ = upS (j + 1) := by rw [← hT, hcat]; rfl
        rw [hS] at hd
        have HD := Lib.hid hd
        have i2 : (j : Int) < 8 := by omega
        have E2 := Lib.hid e2
        rw [hT]
        clear hd hE hE2 hS hT hcat e1 e2
        go_wp2_with fail
        refine HD.out.mono ?_
        rintro e w4 ⟨rfl, ha, hb⟩
        have HA4 := Lib.hid ha
        have HB4 := Lib.hid (HBt.out.trans hb)
        clear ha hb
        go_wp2_with fail
        go_roundw
        · refine ⟨j + 1, by go_num, by omega, ?_, ?_, ?_, HB4⟩
          · rw [E2.out]; go_num
          · rw [← HCAT.out, HT.out]
          · rw [E2.out]; exact HA4
        · simp [intOf]; omega
      · have e1 : min j 8 = 8 := by omega
        have e2 : min (j + 1) 8 = 8 := by omega
        have hE := up_over ⟨j - 8, by omega⟩
        have e3 : j - 8 + 9 = j + 1 := by omega
        simp only [e3] at hE
        rw [e1] at hd HAt ⊢
        have hE2 : doE (upS 8) ⟨2, T ++ ⟨#[47, 100]⟩, ⟨#[]⟩, [], 0⟩ = 5 := by rw [← hT, hcat]; exact hE
        rw [doS_err (by rw [hE2]; decide), hE2] at hd
        have HD := Lib.hid hd
        have i2 : ¬ (j : Int) < 8 := by omega
        have i3 : (8 : Int) ≤ j := by omega
        have E2 := Lib.hid e2
        rw [hT]
        clear hd hE hE2 hT hcat e1 e2 e3
        go_wp2_with fail
        refine HD.out.mono ?_
        rintro e w4 ⟨rfl, ha, hb⟩
        have HA4 := Lib.hid ha
        have HB4 := Lib.hid (HBt.out.trans hb)
        clear ha hb
        go_wp2_with fail
        go_roundw
        · refine ⟨j + 1, by go_num, by omega, ?_, ?_, ?_, HB4⟩
          · rw [E2.out]; try rfl
          · rw [← HCAT.out, HT.out]
          · rw [E2.out]; exact HA4
        · simp [intOf]; omega
    · have i1 : ¬ (j : Int) < N := by rw [HNN.out]; omega
      obtain rfl : j = nn := by omega
      obtain ⟨mm, hmm⟩ : ∃ mm, min j 8 = mm := ⟨_, rfl⟩
      have hmm8 : mm ≤ 8 := by omega
      have hmj : mm ≤ j := by omega
      rw [hmm] at HAt ⊢
      have hfr := free_at HAt.out
      rw [up_free ⟨mm, by omega⟩] at hfr
      have e1 : ((49 - mm : Nat) : Int) = 49 - (mm : Int) := by omega
      rw [e1] at hfr
      have HFR := Lib.hid hfr
      have hPs := dB_size j
      obtain ⟨P, hP⟩ : ∃ P, dB j = P := ⟨_, rfl⟩
      rw [hP] at hPs ⊢
      have HP := Lib.hid hP
      clear hfr hmm e1 hP
      go_wp2_with fail
      refine HFR.out.mono ?_
      rintro e w3 ⟨rfl, ha, hb⟩
      have HA3 := Lib.hid ha
      have HB3 := Lib.hid (HBt.out.trans (hb.mono HBt.out.size))
      clear ha hb
      go_wp2_with fail
      go_loopw [11] (fun i ws => ∃ (r : Nat), i = .int .i64 r ∧ r ≤ mm ∧ Hid (At ws w1.heap.size tb' q (dnS mm (mm - r)) (j + 2 * (mm - r))) ∧ Hid (Below w1.heap.size w1 ws)) (fun i _ => (intOf i).toNat)
      case atStart => exact ⟨mm, rfl, Nat.le_refl _, by rw [Nat.sub_self]; exact HA3, HB3⟩
      case round =>
        obtain ⟨r, rfl, hr, HAs, HBs⟩ := hrel
        by_cases r0 : r = 0
        · subst r0
          have hl := list_at ⟨#[47]⟩ HAs.out (by omega)
          have he := dn_end ⟨mm, by omega⟩
          rw [Nat.sub_zero] at hl
          rw [he.1, he.2] at hl
          have HL := Lib.hid hl
          clear hl he
          go_wp2_with fail
          refine HL.out.mono ?_
          rintro e w5 ⟨A, c, rfl, ha, hb⟩
          have HB5 := Lib.hid (bt HB1.out (HBs.out.trans (hb.mono HBs.out.size)))
          clear ha hb
          go_wp2_with fail
          go_ret
          exact ⟨rfl, HB5.out⟩
        · have e1 : mm - (mm - r) = r := by omega
          have hok := dn_ok ⟨mm, by omega⟩ ⟨mm - r, by omega⟩ (by show mm - r < mm; omega)
          simp only [e1] at hok
          have hst : dnS mm (mm - (r - 1)) = doS (dnS mm (mm - r)) (oR r) := by
            have e2 : mm - (r - 1) = (mm - r) + 1 := by omega
            rw [e2]
            show doS (dnS mm (mm - r)) (oR (mm - (mm - r))) = _
            rw [e1]
          have HST := Lib.hid hst
          have hx1 : P.extract 0 (2 * r) = dB r := by rw [← HP.out]; exact dB_cut j r (by omega)
          have hx2 : (dB r).extract 0 (2 * r - 2) = dB (r - 1) := by
            have := dB_cut r (r - 1) (by omega)
            have e3 : 2 * (r - 1) = 2 * r - 2 := by omega
            rw [e3] at this
            exact this
          have hQs := dB_size r
          obtain ⟨Q, hQ⟩ : ∃ Q, dB r = Q := ⟨_, rfl⟩
          obtain ⟨Q1, hQ1⟩ : ∃ Q1, dB (r - 1) = Q1 := ⟨_, rfl⟩
          rw [hQ] at hx1 hx2 hQs
          rw [hQ1] at hx2
          have i0 : (0 : Int) < (r : Int) := by omega
          have hs1 : ∀ W, (Instr.slice 9 (.string P) none (some (.int .i64 (2 * (r : Int)))) none).run Tryd.prog W = .ok (.string Q) W := fun W => by
            have := run_slice_string_h (P := Tryd.prog) (w := W) (t := 9) (ht := Tryd.underlying9) (s := P) .i64 (2 * (r : Int)) (by omega) (by rw [hPs]; omega)
            rw [this]
            have e4 : (2 * (r : Int)).toNat = 2 * r := by omega
            rw [e4, hx1]
          have hs2 : ∀ W, (Instr.slice 9 (.string Q) none (some (.int .i64 (2 * (r : Int) - 2))) none).run Tryd.prog W = .ok (.string Q1) W := fun W => by
            have := run_slice_string_h (P := Tryd.prog) (w := W) (t := 9) (ht := Tryd.underlying9) (s := Q) .i64 (2 * (r : Int) - 2) (by omega) (by rw [hQs]; omega)
            rw [this]
            have e4 : (2 * (r : Int) - 2).toNat = 2 * r - 2 := by omega
            rw [e4, hx2]
          have hdr : ∀ W k, At W w1.heap.size tb' q (dnS mm (mm - r)) k → k ≤ 2000 → Calls Tryd.prog 12 #[.pointer (some ⟨tb', 0, none⟩), .agg #[.int .i64 6, .string Q, .string ⟨#[]⟩, .slice none 0 0, .int .i64 0]] W (AtPost W w1.heap.size tb' q (.int .i64 0) (dnS mm (mm - (r - 1))) (k + 1)) := by
            intro W k hA hk
            have := do_at (oR r) none 0 hA hk (RdB.nil _ _) (by simp [oR])
            rw [hok, ← hst] at this
            unfold opV oR at this
            dsimp only at this
            rw [hQ] at this
            exact this
          have HDR := Lib.hid hdr
          by_cases r1 : r = 1
          · have i3 : ¬ (1 : Int) < (r : Int) := by omega
            have i4 : ¬ 1 < r := by omega
            have R1 := Lib.hid r1
            clear hst hx1 hx2 hok e1 hdr hQ hQ1 hs2 hQs hPs r1
            go_wp2_with fail
            ((with_reducible refine (HDR.out _ _ HAs.out (by omega)).mono ?_); rintro e w5 ⟨rfl, ha, hb⟩)
            have HA5 := Lib.hid (ha.mono (m' := j + 2 * (mm - (r - 1))) (by omega))
            have HB5 := Lib.hid (HBs.out.trans hb)
            clear ha hb
            go_wp2_with fail
            go_roundw
            · exact ⟨r - 1, by go_num, by omega, HA5, HB5⟩
            · simp [intOf]; omega
          · have hbz := dn_busy ⟨mm, by omega⟩ ⟨mm - r, by omega⟩ (by show mm - r + 1 < mm; omega)
            simp only [e1] at hbz
            have hdb : ∀ W k, At W w1.heap.size tb' q (dnS mm (mm - r)) k → k ≤ 2000 → Calls Tryd.prog 12 #[.pointer (some ⟨tb', 0, none⟩), .agg #[.int .i64 6, .string Q1, .string ⟨#[]⟩, .slice none 0 0, .int .i64 0]] W (AtPost W w1.heap.size tb' q (.int .i64 13) (dnS mm (mm - r)) (k + 1)) := by
              intro W k hA hk
              have := do_at (oR (r - 1)) none 0 hA hk (RdB.nil _ _) (by simp [oR])
              rw [doS_err (by rw [hbz]; decide), hbz] at this
              unfold opV oR at this
              dsimp only at this
              rw [hQ1] at this
              exact this
            have HDB := Lib.hid hdb
            have i3 : (1 : Int) < (r : Int) := by omega
            have i4 : 1 < r := by omega
            clear hst hx1 hx2 hok e1 hdr hQ hQ1 hbz hdb hQs hPs
            go_wp2_with fail
            ((with_reducible refine (HDB.out _ _ HAs.out (by omega)).mono ?_); rintro e w5 ⟨rfl, ha, hb⟩)
            have HA5 := Lib.hid ha
            have HB5 := Lib.hid (HBs.out.trans hb)
            clear ha hb
            go_wp2_with fail
            ((with_reducible refine (HDR.out _ _ HA5.out (by omega)).mono ?_); rintro e w6 ⟨rfl, ha, hb⟩)
            have HA6 := Lib.hid (ha.mono (m' := j + 2 * (mm - (r - 1))) (by omega))
            have HB6 := Lib.hid (HB5.out.trans hb)
            clear ha hb
            go_wp2_with fail
            go_roundw
            · exact ⟨r - 1, by go_num, by omega, HA6, HB6⟩
            · simp [intOf]; omega
end Go.Proofs.YtpdcjdangnfeiaaDoor.Vi
