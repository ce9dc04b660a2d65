/- DotSizes walked: for all bytes and every number the law returns true. -/
import Derived.Test.YthgghgecpjnoiaaDoorDv
namespace Go.Proofs.YthgghgecpjnoiaaDoor.Dx
open Go.RowKit Go.Proofs.YthgghgecpjnoiaaDoorW.PrintWords Go.Proofs.YthgghgecpjnoiaaDoorW.PrintLast Go.Proofs.YthgghgecpjnoiaaDoorW.PrintMore Go.Proofs.YthgghgecpjnoiaaDoor.Pc Go.Proofs.YthgghgecpjnoiaaDoor.Pd Go.Proofs.YthgghgecpjnoiaaDoor.Pk Go.Proofs.YthgghgecpjnoiaaDoor.Da Go.Proofs.YthgghgecpjnoiaaDoor.Db Go.Proofs.YthgghgecpjnoiaaDoor.Dc Go.Proofs.YthgghgecpjnoiaaDoor.Dd Go.Proofs.YthgghgecpjnoiaaDoor.De Go.Proofs.YthgghgecpjnoiaaDoor.Df Go.Proofs.YthgghgecpjnoiaaDoor.Di Go.Proofs.YthgghgecpjnoiaaDoor.Dj Go.Proofs.YthgghgecpjnoiaaDoor.Dk Go.Proofs.YthgghgecpjnoiaaDoor.Dn Go.Proofs.YthgghgecpjnoiaaDoor.Do Go.Proofs.YthgghgecpjnoiaaDoor.Dq Go.Proofs.YthgghgecpjnoiaaDoor.Dr Go.Proofs.YthgghgecpjnoiaaDoor.Ds Go.Proofs.YthgghgecpjnoiaaDoor.Dt Go.Proofs.YthgghgecpjnoiaaDoor.Du Go.Proofs.YthgghgecpjnoiaaDoor.Dv
theorem step_out (c : UInt8) (s : Dm.S) : s.out.length ≤ (Dm.step c s).out.length := by
  simp only [Dm.step, Dm.bare, Dm.plain, Dm.put]
  repeat' split
  all_goals simp
theorem lines_short {l : List UInt8} (h : l.length ≤ 900) : (linesL l).any (fun p => decide (998 < p.length)) = false := by
  rw [List.any_eq_false]
  intro p hp
  have h1 := sum_mem _ p hp
  have h2 := lines_sum l
  have h3 : ¬ 998 < p.length := by omega
  simp [h3]
set_option maxHeartbeats 4000000 in
set_option maxRecDepth 100000 in
theorem sizes_walk (A : Option Addr) (c : Nat) (l : List UInt8) (less m : Int) (w : World) (hr : RdB w A l) (hc : l.length ≤ c) (hm : w.cell? ⟨0, 0, none⟩ = some (.int .i64 m)) :
    Calls Tryd.prog 5 #[.slice A l.length c, .int .i64 less] w fun e w' => e = .returned (.bool true) ∧ Below w.heap.size w w' := by
  have HR := Lib.hid hr
  have HM := Lib.hid hm
  clear hr hm
  go_enter Tryd.func5, Tryd.ntmps5
  go_wp2_with fail
  refine (known_any w m HM.out).mono ?_
  rintro e w1 ⟨rfl, hb⟩
  have HB1 := Lib.hid hb
  clear hb
  by_cases k1 : (900 : Int) < l.length
  · go_wp2
    go_ret
    exact ⟨rfl, HB1.out⟩
  by_cases k2 : less < 0
  · go_wp2
    go_ret
    exact ⟨rfl, HB1.out⟩
  by_cases k3 : 5 < less
  · go_wp2
    go_ret
    exact ⟨rfl, HB1.out⟩
  go_wp2_with fail
  refine (whole_any A c l w1 (HR.out.below HB1.out) hc (by omega)).mono ?_
  rintro e w2 ⟨v2, rfl, ho, hb⟩
  obtain ⟨A2, c2, rfl, hr2, hc2⟩ := ho.reads
  have HB2 := Lib.hid (bt HB1.out hb)
  have HR2 := Lib.hid hr2
  have hwl := whole_len l
  obtain ⟨sF, hF, h5, hwo, hgF⟩ := Dm.back l []
  rw [List.append_nil] at hF
  have hwd : sF.wd = false := by rw [Dm.wide_iff hgF h5, hwo, Dm.lines_whole]; exact lines_short (by omega)
  have hel := enc_len l
  have hep := Dm.enc_pos l
  have hfr := Dm.front l
  obtain ⟨W, hW⟩ : ∃ W, wholeL l = W := ⟨_, rfl⟩
  rw [hW] at hwo hwl HR2 hc2 ⊢
  clear ho hb hr2 hW
  by_cases k4 : (W.length : Int) - less < 0
  · have wM : IntKind.i64.wrap ((W.length : Int) - less) = (W.length : Int) - less := by rw [IntKind.wrap_i64]; omega
    go_wp2
    go_ret
    exact ⟨rfl, HB2.out⟩
  obtain ⟨M, hM⟩ : ∃ M : Nat, (W.length : Int) - less = M := ⟨((W.length : Int) - less).toNat, by omega⟩
  have hM0 : ¬ (M : Int) < 0 := by omega
  have HMM := Lib.hid hM
  have hMl : M ≤ 902 := by omega
  have wM : IntKind.i64.wrap ((W.length : Int) - less) = (M : Int) := by rw [IntKind.wrap_i64, ← hM]; omega
  clear k4
  go_wp2_with fail
  refine (new_any (w := w2) (M := M) (by omega)).mono ?_
  rintro e w3 ⟨rfl, hd, hb, hs⟩
  have HD := Lib.hid hd
  have HB3 := Lib.hid hb
  have HS := Lib.hid hs
  clear hd hb hs wM hM
  go_wp2_with fail
  refine (encode_any A c l m w3 (keepC (bt HB2.out HB3.out) HM.out) (HR.out.below (bt HB2.out HB3.out)) hc (by omega)).mono ?_
  rintro e w4 ⟨v4, rfl, ho, hb⟩
  obtain ⟨A4, c4, rfl, hr4, hc4⟩ := ho.reads
  generalize encL l = E at hr4 hc4 hel hep hfr hF ⊢
  have HR4 := Lib.hid hr4
  have HFR := Lib.hid hfr
  have HF := Lib.hid hF
  have H5 := Lib.hid h5
  have HGF := Lib.hid hgF
  have HWO := Lib.hid hwo
  have HWD := Lib.hid hwd
  have D4 := Lib.hid (HD.out.below hb)
  have HB4 := Lib.hid (bt HB3.out hb)
  have HLT := Lib.hid (RdB.lt hr4 hep)
  clear ho hb hr4 hfr hF h5 hgF hwo hwd
  go_wp2_with fail
  go_loopw [10, 11] (fun last i wr => ∃ (k : Nat) (sk : Dm.S), i = .int .i64 k ∧ last = .int .i64 ((min sk.out.length (M + 1) : Nat) : Int) ∧ k ≤ E.length ∧ Hid (Dec w4 wr w2.heap.size w2.heap.size M sk none) ∧ Hid ((Dm.go Dm.S0 (E.take k)).1 = sk) ∧ Hid (Dm.Good sk) ∧ Hid (sk.rr.length = k)) (fun _ i _ => E.length - (intOf i).toNat)
  case atStart => exact ⟨0, Dm.S0, rfl, by simp [Dm.S0], by omega, Lib.hid (Dec.refl D4.out), Lib.hid (by simp [Dm.go]), Lib.hid .init, Lib.hid rfl⟩
  case round =>
    obtain ⟨k, sk, rfl, rfl, hk, HD, HK, HGk, HL⟩ := hrel
    obtain ⟨vk, a1, b1, b2, b3⟩ := HD.out
    have A1 := Lib.hid a1
    have K1 := Lib.hid b1
    have L1 := Lib.hid b2
    have N1 := Lib.hid b3
    clear a1 b1 b2 b3
    obtain ⟨z, hz⟩ : ∃ z : Int, ((min sk.out.length (M + 1) : Nat) : Int) = z := ⟨_, rfl⟩
    rw [hz]
    have HZ := Lib.hid hz
    clear hz
    by_cases hlt : k < E.length
    · have i1 : (k : Int) < E.length := by omega
      have hkE : E = E.take k ++ E.drop k := (List.take_append_drop k E).symm
      obtain ⟨f1, f2⟩ := HFR.out (E.take k) (E.drop k) hkE (by intro e; have := congrArg List.length e; rw [List.length_drop, List.length_nil] at this; omega)
      rw [HK.out] at f1
      obtain ⟨A5, hs1, hs2, hs3⟩ := mid_of A4 c4 E k ((k : Int) + 1) (by omega) (by omega) (by omega) hc4
      have e1 : ((k : Int) + 1).toNat = k + 1 := by omega
      rw [e1, Int.toNat_natCast] at hs1 hs2 hs3
      obtain ⟨x, hx⟩ : ∃ x, E[k] = x := ⟨_, rfl⟩
      have hmid : (E.take (k + 1)).drop k = [x] := by
        rw [List.take_succ_eq_append_getElem hlt, List.drop_append_of_le_length (by rw [List.length_take]; omega), List.drop_of_length_le (by rw [List.length_take]; omega), hx]
        rfl
      rw [hmid] at hs1 hs2 hs3
      have hgo : Dm.go sk [x] = (Dm.step x sk, []) := by rw [Dm.go, if_neg f1]; rfl
      have hnew : (Dm.go Dm.S0 (E.take (k + 1))).1 = Dm.step x sk := by
        rw [List.take_succ_eq_append_getElem hlt, hx, Dm.go_app, HK.out, if_neg f1, hgo]
      have hst : decide ((Dm.step x sk).st = 5) = decide (k + 1 = E.length) := by
        by_cases q : k + 1 = E.length
        · rw [decide_eq_true q, decide_eq_true]
          rw [← hnew, q, List.take_length, HF.out]
          exact H5.out
        · rw [decide_eq_false q, decide_eq_false]
          have := (HFR.out (E.take (k + 1)) (E.drop (k + 1)) (List.take_append_drop _ E).symm (by intro e; have := congrArg List.length e; rw [List.length_drop, List.length_nil] at this; omega)).1
          rw [hnew] at this
          exact this
      have HR5 : RdB wr A4 E := RdB.kept HR4.out K1.out (fun ad e h0 => ⟨dec_ne D4.out HR4.out h0 ad e, by simp⟩)
      have hN1 := next_any (c := c4 - k) (l := [x]) A1.out HGk.out (by omega) (by have := HL.out; simp; omega) (hs2 wr HR5) hs3 (fun ad e h0 => ⟨dec_ne A1.out (hs2 wr HR5) h0 ad e, far (RdB.lt (hs2 w4 HR4.out) h0 ad e) N1.out (Nat.le_refl _)⟩)
      have hso := step_out x sk
      have hGs := Lib.hid (Dm.Good.step x HGk.out f1)
      have hol := Dm.out_len hGs.out
      have hrl : (Dm.step x sk).rr.length = k + 1 := by
        show (x :: sk.rr).length = _
        rw [List.length_cons, HL.out]
      rw [hgo] at hN1
      simp only [hst] at hN1
      obtain ⟨s2, hs2'⟩ : ∃ s2, Dm.step x sk = s2 := ⟨_, rfl⟩
      rw [hs2'] at hN1 hso hGs hol hrl hnew
      have HNEW := Lib.hid hnew
      have HRL := Lib.hid hrl
      clear hs2 hs2' hst hgo hmid hkE f1 f2 hnew hx
      have wk : IntKind.i64.wrap ((k : Int) + 1) = (k : Int) + 1 := by rw [IntKind.wrap_i64]; omega
      go_wp2_with fail
      refine hN1.mono ?_
      rintro e w5 ⟨r5, rfl, ho, hd⟩
      obtain ⟨A6, c6, rfl, hr6, hc6⟩ := ho.reads
      have HD5 := Lib.hid (Dec.trans K1.out L1.out N1.out hd A1.out)
      obtain ⟨v5, d5, q2, q3, q4⟩ := hd
      have hsz := size_any d5
      obtain ⟨z2, hz2⟩ : ∃ z2 : Int, ((min s2.out.length (M + 1) : Nat) : Int) = z2 := ⟨_, rfl⟩
      rw [hz2] at hsz
      have hzz := HZ.out
      have hrl2 := HRL.out
      have j1 : ¬ z2 < z := by omega
      have j2 : ¬ (M : Int) + 1 < z2 := by omega
      have j3 : ¬ (k : Int) + 1 < z2 := by omega
      have wM : IntKind.i64.wrap ((M : Int) + 1) = (M : Int) + 1 := by rw [IntKind.wrap_i64]; omega
      have wE : IntKind.i64.wrap ((E.length : Int) - 1) = (E.length : Int) - 1 := by rw [IntKind.wrap_i64]; omega
      have HZ2 := Lib.hid hz2
      clear hN1 ho hr6 d5 q2 q3 q4 hz2 hzz hrl2 hs1
      by_cases kl : k + 1 = E.length
      · have j4 : (k : Int) = (E.length : Int) - 1 := by omega
        rw [decide_eq_true kl]
        have KL := Lib.hid kl
        clear kl
        go_wp2_with fail
        refine hsz.mono ?_
        rintro e w6 ⟨rfl, rfl⟩
        go_wp2_with fail
        go_roundw
        · exact ⟨k + 1, s2, by go_num, by rw [HZ2.out], hlt, HD5, HNEW, hGs, HRL⟩
        · simp [intOf]; omega
      · have j4 : ¬ (k : Int) = (E.length : Int) - 1 := by omega
        have j5 : ((k : Int) == (E.length : Int) - 1) = false := by simpa using j4
        rw [decide_eq_false kl]
        have KL := Lib.hid kl
        clear kl
        go_wp2_with fail
        refine hsz.mono ?_
        rintro e w6 ⟨rfl, rfl⟩
        go_wp2_with fail
        go_roundw
        · exact ⟨k + 1, s2, by go_num, by rw [HZ2.out], hlt, HD5, HNEW, hGs, HRL⟩
        · simp [intOf]; omega
    · have i1 : ¬ (k : Int) < E.length := by omega
      have hsk : sk = sF := by rw [← HK.out, List.take_of_length_le (by omega), HF.out]
      subst hsk
      have hst5 : ¬ (sk.st ≠ 5) := by have := H5.out; omega
      have hwo := HWO.out
      have hlen : sk.out.length = W.length := by rw [hwo]
      have hT := text_any A1.out HGk.out (by omega)
      rw [if_neg hst5, if_neg hst5] at hT
      have HB5 : Hid (Below w2.heap.size w2 wr) := Lib.hid (HB4.out.trans L1.out)
      by_cases d0 : 0 < less
      · have hMW : M < sk.out.length := by have := HMM.out; omega
        rw [if_pos hMW, if_pos hMW] at hT
        go_wp2_with fail
        refine hT.mono ?_
        rintro e w6 ⟨r6, rfl, ho, hb⟩
        obtain ⟨A6, c6, rfl, hr6, hc6⟩ := ho.reads
        have hL := long_any (A1.out.below hb)
        rw [decide_eq_true hMW] at hL
        have HB6 := Lib.hid (bt HB2.out (bt HB5.out hb))
        clear hT ho hr6 hb
        go_wp2_with fail
        refine hL.mono ?_
        rintro e w7 ⟨rfl, hb⟩
        have HB7 := Lib.hid (bt HB6.out hb)
        clear hL hb
        go_wp2
        go_ret
        exact ⟨rfl, HB7.out⟩
      · have hMW : ¬ M < sk.out.length := by have := HMM.out; omega
        have hl0 : M = W.length := by have := HMM.out; omega
        have hzW : z = (W.length : Int) := by have := HZ.out; omega
        have hwd : ¬ (sk.wd = true) := by rw [HWD.out]; decide
        rw [if_neg hMW, if_neg hMW, if_neg hwd, if_neg hwd, hwo] at hT
        have HR5 := Lib.hid (HR2.out.below HB5.out)
        go_wp2_with fail
        refine hT.mono ?_
        rintro e w6 ⟨r6, rfl, ho, hb⟩
        obtain ⟨A6, c6, rfl, hr6, hc6⟩ := ho.reads
        have hL := long_any (A1.out.below hb)
        rw [decide_eq_false hMW] at hL
        have HB6 := Lib.hid (bt HB2.out (bt HB5.out hb))
        have t1 := hr6.text c6
        have t2 := (HR5.out.below hb).text c2
        obtain ⟨y, hy⟩ : ∃ y, tb W = y := ⟨_, rfl⟩
        rw [hy] at t1 t2
        clear hT ho hr6 hb hy
        go_wp2_with fail
        refine hL.mono ?_
        rintro e w7 ⟨rfl, hb⟩
        have HB7 := Lib.hid (bt HB6.out hb)
        clear hL hb
        go_wp2
        go_ret
        exact ⟨rfl, HB7.out⟩
end Go.Proofs.YthgghgecpjnoiaaDoor.Dx
