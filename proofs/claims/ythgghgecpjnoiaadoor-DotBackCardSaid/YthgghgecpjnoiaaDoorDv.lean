/- DotNever walked: for all bytes and every cut the law returns true. -/
import Derived.Test.YthgghgecpjnoiaaDoorDu
namespace Go.Proofs.YthgghgecpjnoiaaDoor.Dv
open Go.RowKit Go.Proofs.YthgghgecpjnoiaaDoorW.PrintWords Go.Proofs.YthgghgecpjnoiaaDoorW.PrintLast Go.Proofs.YthgghgecpjnoiaaDoorW.PrintMore Go.Proofs.YthgghgecpjnoiaaDoor.Pc Go.Proofs.YthgghgecpjnoiaaDoor.Pd Go.Proofs.YthgghgecpjnoiaaDoor.Pk Go.Proofs.YthgghgecpjnoiaaDoor.Da Go.Proofs.YthgghgecpjnoiaaDoor.Db Go.Proofs.YthgghgecpjnoiaaDoor.Dc Go.Proofs.YthgghgecpjnoiaaDoor.Dd Go.Proofs.YthgghgecpjnoiaaDoor.De Go.Proofs.YthgghgecpjnoiaaDoor.Df Go.Proofs.YthgghgecpjnoiaaDoor.Dj Go.Proofs.YthgghgecpjnoiaaDoor.Dk Go.Proofs.YthgghgecpjnoiaaDoor.Dn Go.Proofs.YthgghgecpjnoiaaDoor.Do Go.Proofs.YthgghgecpjnoiaaDoor.Dq Go.Proofs.YthgghgecpjnoiaaDoor.Dr Go.Proofs.YthgghgecpjnoiaaDoor.Ds Go.Proofs.YthgghgecpjnoiaaDoor.Dt Go.Proofs.YthgghgecpjnoiaaDoor.Du
theorem RdB.spot {w : World} {A : Option Addr} {l : List UInt8} (h : RdB w A l) (h0 : 0 < l.length) : ∀ ad, A = some ad → ∃ o y, ad = ⟨ad.block, o, none⟩ ∧ w.cell? ⟨ad.block, o, none⟩ = some (.int .u8 y) := by
  intro ad e
  obtain ⟨b, o, e2, hc⟩ := h.cell 0 h0
  rw [e] at e2
  cases e2
  exact ⟨o, _, rfl, hc⟩
theorem dec_ne {w : World} {A : Option Addr} {l : List UInt8} {B g M : Nat} {s : Dm.S} {v : Value} (hd : DecAt w B g M s v) (h : RdB w A l) (h0 : 0 < l.length) : ∀ ad, A = some ad → ad.block ≠ g := by
  intro ad e hg
  obtain ⟨o, y, -, hc⟩ := RdB.spot h h0 ad e
  rw [hg, blk_cell hd.blk] at hc
  obtain ⟨A', c', hv, -, -⟩ := hd.own.reads
  unfold cellsD at hc
  rw [hv] at hc
  match o, hc with
  | 0, hc => simp at hc
  | 1, hc => simp at hc
  | 2, hc => simp at hc
  | 3, hc => simp at hc
  | 4, hc => simp at hc
  | 5, hc => simp at hc
  | n + 6, hc => simp at hc
theorem ref_ne {w : World} {A : Option Addr} {l : List UInt8} {B g M : Nat} {s : Dm.S} {v : Value} (hd : RefAt w B g M s v) (h : RdB w A l) (h0 : 0 < l.length) : ∀ ad, A = some ad → ad.block ≠ g := by
  intro ad e hg
  obtain ⟨o, y, -, hc⟩ := RdB.spot h h0 ad e
  rw [hg, blk_cell hd.blk] at hc
  obtain ⟨A', c', hv, -, -⟩ := hd.own.reads
  unfold cellsR at hc
  rw [hv] at hc
  match o, hc with
  | 0, hc => simp at hc
  | 1, hc => simp at hc
  | 2, hc => simp at hc
  | n + 3, hc => simp at hc
theorem cut_of (x : Int) (n : Nat) (hn : 0 < n) : ∃ k : Nat, k < n ∧ (x.tmod (n : Int) = (k : Int) ∨ (x.tmod (n : Int) = -(k : Int) ∧ x.tmod (n : Int) < 0)) := by
  have h1 : (x.tmod n).natAbs < n := by
    have := Int.natAbs_tmod x n
    rw [this, Int.natAbs_natCast]
    exact Nat.mod_lt _ hn
  refine ⟨(x.tmod n).natAbs, h1, ?_⟩
  omega
theorem go_rr : ∀ (l : List UInt8) (s : Dm.S), (Dm.go s l).1.rr.length ≤ s.rr.length + l.length
  | [], s => by simp [Dm.go]
  | c :: r, s => by
    unfold Dm.go
    split
    · simp
    · have := go_rr r (Dm.step c s)
      have e : (Dm.step c s).rr.length = s.rr.length + 1 := rfl
      rw [List.length_cons]; omega
theorem enc_len (l : List UInt8) : (encL l).length ≤ 2 * l.length + 7 := by
  have h1 := body_take_len (linesL l) (linesL l).length
  rw [List.take_length] at h1
  have h2 := lines_sum l
  unfold encL
  rw [List.length_append]
  simp
  omega
set_option maxHeartbeats 4000000 in
set_option maxRecDepth 100000 in
theorem never_walk (A : Option Addr) (c : Nat) (l : List UInt8) (cut m : Int) (w : World) (hr : RdB w A l) (hc : l.length ≤ c) (hm : w.cell? ⟨0, 0, none⟩ = some (.int .i64 m)) :
    Calls Tryd.prog 4 #[.slice A l.length c, .int .i64 cut] w fun e w' => e = .returned (.bool true) ∧ Below w.heap.size w w' := by
  have HR := Lib.hid hr
  have HM := Lib.hid hm
  clear hr hm
  go_enter Tryd.func4, Tryd.ntmps4
  go_wp2_with fail
  refine (known_any w m HM.out).mono ?_
  rintro e w1 ⟨rfl, hb⟩
  have HB1 := Lib.hid hb
  clear hb
  by_cases k1 : (4096 : Int) < l.length
  · go_wp2
    go_ret
    exact ⟨rfl, HB1.out⟩
  go_wp2_with fail
  refine (encode_any A c l m w1 (keepC HB1.out HM.out) (HR.out.below HB1.out) hc (by omega)).mono ?_
  rintro e w2 ⟨v2, rfl, ho, hb⟩
  obtain ⟨A2, c2, rfl, hr2, hc2⟩ := ho.reads
  have HB2 := Lib.hid (bt HB1.out hb)
  have HR2 := Lib.hid hr2
  have hel := enc_len l
  have hep := Dm.enc_pos l
  have hfr := Dm.front l
  obtain ⟨sF, hF, h5, hwo, hgF⟩ := Dm.back l []
  rw [List.append_nil] at hF
  generalize encL l = E at HR2 hc2 hel hep hfr hF ⊢
  have HFR := Lib.hid hfr
  have HF := Lib.hid hF
  have H5 := Lib.hid h5
  have HGF := Lib.hid hgF
  clear ho hb hr2 hfr hF h5 hwo hgF
  obtain ⟨n, hn, hcut⟩ := cut_of cut E.length hep
  have hcases : (cut.tmod (E.length : Int) = (n : Int) ∧ True) ∨ (cut.tmod (E.length : Int) = -(n : Int) ∧ 0 < n) := by
    rcases hcut with h | ⟨h, h0⟩
    · exact .inl ⟨h, trivial⟩
    · exact .inr ⟨h, by omega⟩
  clear hcut
  rcases hcases with ⟨htm, -⟩ | ⟨htm, hn0⟩
  · have hz : ¬ (n : Int) < 0 := by omega
    go_wp2_with fail
    clear htm hz
    have hz0 : (0 : Int) ≤ n := by omega
    have hz2 : E = E.take n ++ E.drop n := (List.take_append_drop n E).symm
    obtain ⟨f1, f2⟩ := HFR.out (E.take n) (E.drop n) hz2 (by intro e; have := congrArg List.length e; rw [List.length_drop, List.length_nil] at this; omega)
    have hgo := Dm.go_app (E.take n) (E.drop n) Dm.S0
    rw [List.take_append_drop, HF.out, if_neg f1] at hgo
    have hgd := Dm.go_good (E.take n) Dm.S0 .init
    obtain ⟨s1, hs1⟩ : ∃ s1, (Dm.go Dm.S0 (E.take n)).1 = s1 := ⟨_, rfl⟩
    have F1 := Lib.hid f1
    have F2 := Lib.hid f2
    have HGO := Lib.hid hgo
    have HGD := Lib.hid hgd
    have hrl : s1.rr.length ≤ 10000 := by rw [← hs1]; exact Nat.le_trans (go_rr _ _) (by simp [Dm.S0]; omega)
    rw [hs1] at F1 HGO HGD
    have HS1 := Lib.hid hs1
    clear f1 f2 hgo hgd hs1 hz2
    refine (new_any (w := w2) (M := 65536) (by omega)).mono ?_
    rintro e w3 ⟨rfl, hd, hb, hs⟩
    have HD := Lib.hid hd
    have HB3 := Lib.hid hb
    have HS := Lib.hid hs
    clear hd hb hs
    obtain ⟨ht1, ht2, ht3⟩ := take_of A2 c2 E n (by omega) (by omega) hc2
    rw [Int.toNat_natCast] at ht1 ht2 ht3
    obtain ⟨A4, hd1, hd2, hd3⟩ := drop_of A2 c2 E n (by omega) (by omega) hc2
    rw [Int.toNat_natCast] at hd1 hd2 hd3
    have HT2 := Lib.hid (ht2 w3 (HR2.out.below HB3.out))
    have HD2 := Lib.hid (hd2 w2 HR2.out)
    have HLT := Lib.hid (RdB.lt HR2.out hep)
    have htl : (E.take n).length = n := by rw [List.length_take]; omega
    have hdl : 0 < (E.drop n).length := by rw [List.length_drop]; omega
    have HLD := Lib.hid (RdB.lt HD2.out hdl)
    clear ht2 hd2
    go_wp2_with fail
    have hN1 := next_any (c := c2) HD.out .init (by omega) (by simp [Dm.S0, htl]; omega) HT2.out ht3 (fun ad e _ => ⟨by have := HLT.out ad e; omega, by simp [Value.ownBlock]⟩)
    rw [htl] at hN1
    refine hN1.mono ?_
    rw [HS1.out, F2.out, decide_eq_false F1.out]
    rintro e w4 ⟨r4, rfl, ho, hd⟩
    obtain ⟨A5, c5, rfl, hr5, hc5⟩ := ho.reads
    obtain ⟨v4, d1, d2, d3, d4⟩ := hd
    have D4 := Lib.hid d1
    have K4 := Lib.hid d2
    have HB4 := Lib.hid (HB3.out.trans d3)
    have N4 := Lib.hid d4
    clear hN1 ho d1 d2 d3 d4 hr5 ht1
    go_wp2_with fail
    have hT1 := text_any D4.out HGD.out (by omega)
    rw [if_pos F1.out, if_pos F1.out] at hT1
    refine hT1.mono ?_
    rintro e w5 ⟨r5, rfl, ho, hb⟩
    obtain ⟨A6, c6, rfl, hr6, hc6⟩ := ho.reads
    have D5 := Lib.hid (D4.out.below hb)
    have HB5 := Lib.hid (bt HB4.out hb)
    have HB35 := Lib.hid hb
    clear hT1 ho hb hr6
    have hN2 := next_any (c := c2 - n) D5.out HGD.out (by omega) (by rw [List.length_drop]; omega) (HD2.out.below HB5.out) hd3 (fun ad e _ => by
      have := HLD.out ad e
      refine ⟨by omega, far this N4.out HB3.out.size⟩)
    rw [← HGO.out, List.length_drop] at hN2
    rw [List.length_drop] at hd1 hd3
    go_wp2_with fail
    refine hN2.mono ?_
    rw [decide_eq_true H5.out]
    rintro e w6 ⟨r7, rfl, ho, hd⟩
    obtain ⟨A7, c7, rfl, hr7, hc7⟩ := ho.reads
    obtain ⟨v7, q1, q2, q3, q4⟩ := hd
    have D7 := Lib.hid q1
    have HB7 := Lib.hid (HB5.out.trans q3)
    clear hN2 ho q1 q2 q3 q4 hr7 hd1
    go_wp2_with fail
    have hT2 := text_any D7.out HGF.out (by omega)
    have hk : ∃ code : Int, (if sF.st ≠ 5 then (15 : Int) else if 65536 < sF.out.length then 5 else if sF.wd then 3 else 0) = code ∧ ¬ code = 15 := by
      have h6 : ¬ (sF.st ≠ 5) := by have := H5.out; omega
      rw [if_neg h6]
      refine ⟨_, rfl, ?_⟩
      split
      · decide
      · split <;> decide
    obtain ⟨code, hco, hcn⟩ := hk
    rw [hco] at hT2
    have hcn2 : (code != 15) = true := by simpa using hcn
    clear hco
    refine hT2.mono ?_
    rintro e w8 ⟨r8, rfl, ho, hb⟩
    have HB8 := Lib.hid (bt HB2.out (bt HB7.out hb))
    clear hT2 ho hb
    go_wp2
    go_ret
    exact ⟨rfl, HB8.out⟩
  · have hn1 : (-(n : Int)) < 0 := by omega
    have wn : IntKind.i64.wrap (n : Int) = (n : Int) := by rw [IntKind.wrap_i64]; omega
    go_wp2_with fail
    clear htm hn1 wn
    have hz0 : (0 : Int) ≤ n := by omega
    have hz2 : E = E.take n ++ E.drop n := (List.take_append_drop n E).symm
    obtain ⟨f1, f2⟩ := HFR.out (E.take n) (E.drop n) hz2 (by intro e; have := congrArg List.length e; rw [List.length_drop, List.length_nil] at this; omega)
    have hgo := Dm.go_app (E.take n) (E.drop n) Dm.S0
    rw [List.take_append_drop, HF.out, if_neg f1] at hgo
    have hgd := Dm.go_good (E.take n) Dm.S0 .init
    obtain ⟨s1, hs1⟩ : ∃ s1, (Dm.go Dm.S0 (E.take n)).1 = s1 := ⟨_, rfl⟩
    have F1 := Lib.hid f1
    have F2 := Lib.hid f2
    have HGO := Lib.hid hgo
    have HGD := Lib.hid hgd
    have hrl : s1.rr.length ≤ 10000 := by rw [← hs1]; exact Nat.le_trans (go_rr _ _) (by simp [Dm.S0]; omega)
    rw [hs1] at F1 HGO HGD
    have HS1 := Lib.hid hs1
    clear f1 f2 hgo hgd hs1 hz2
    refine (new_any (w := w2) (M := 65536) (by omega)).mono ?_
    rintro e w3 ⟨rfl, hd, hb, hs⟩
    have HD := Lib.hid hd
    have HB3 := Lib.hid hb
    have HS := Lib.hid hs
    clear hd hb hs
    obtain ⟨ht1, ht2, ht3⟩ := take_of A2 c2 E n (by omega) (by omega) hc2
    rw [Int.toNat_natCast] at ht1 ht2 ht3
    obtain ⟨A4, hd1, hd2, hd3⟩ := drop_of A2 c2 E n (by omega) (by omega) hc2
    rw [Int.toNat_natCast] at hd1 hd2 hd3
    have HT2 := Lib.hid (ht2 w3 (HR2.out.below HB3.out))
    have HD2 := Lib.hid (hd2 w2 HR2.out)
    have HLT := Lib.hid (RdB.lt HR2.out hep)
    have htl : (E.take n).length = n := by rw [List.length_take]; omega
    have hdl : 0 < (E.drop n).length := by rw [List.length_drop]; omega
    have HLD := Lib.hid (RdB.lt HD2.out hdl)
    clear ht2 hd2
    go_wp2_with fail
    have hN1 := next_any (c := c2) HD.out .init (by omega) (by simp [Dm.S0, htl]; omega) HT2.out ht3 (fun ad e _ => ⟨by have := HLT.out ad e; omega, by simp [Value.ownBlock]⟩)
    rw [htl] at hN1
    refine hN1.mono ?_
    rw [HS1.out, F2.out, decide_eq_false F1.out]
    rintro e w4 ⟨r4, rfl, ho, hd⟩
    obtain ⟨A5, c5, rfl, hr5, hc5⟩ := ho.reads
    obtain ⟨v4, d1, d2, d3, d4⟩ := hd
    have D4 := Lib.hid d1
    have K4 := Lib.hid d2
    have HB4 := Lib.hid (HB3.out.trans d3)
    have N4 := Lib.hid d4
    clear hN1 ho d1 d2 d3 d4 hr5 ht1
    go_wp2_with fail
    have hT1 := text_any D4.out HGD.out (by omega)
    rw [if_pos F1.out, if_pos F1.out] at hT1
    refine hT1.mono ?_
    rintro e w5 ⟨r5, rfl, ho, hb⟩
    obtain ⟨A6, c6, rfl, hr6, hc6⟩ := ho.reads
    have D5 := Lib.hid (D4.out.below hb)
    have HB5 := Lib.hid (bt HB4.out hb)
    have HB35 := Lib.hid hb
    clear hT1 ho hb hr6
    have hN2 := next_any (c := c2 - n) D5.out HGD.out (by omega) (by rw [List.length_drop]; omega) (HD2.out.below HB5.out) hd3 (fun ad e _ => by
      have := HLD.out ad e
      refine ⟨by omega, far this N4.out HB3.out.size⟩)
    rw [← HGO.out, List.length_drop] at hN2
    rw [List.length_drop] at hd1 hd3
    go_wp2_with fail
    refine hN2.mono ?_
    rw [decide_eq_true H5.out]
    rintro e w6 ⟨r7, rfl, ho, hd⟩
    obtain ⟨A7, c7, rfl, hr7, hc7⟩ := ho.reads
    obtain ⟨v7, q1, q2, q3, q4⟩ := hd
    have D7 := Lib.hid q1
    have HB7 := Lib.hid (HB5.out.trans q3)
    clear hN2 ho q1 q2 q3 q4 hr7 hd1
    go_wp2_with fail
    have hT2 := text_any D7.out HGF.out (by omega)
    have hk : ∃ code : Int, (if sF.st ≠ 5 then (15 : Int) else if 65536 < sF.out.length then 5 else if sF.wd then 3 else 0) = code ∧ ¬ code = 15 := by
      have h6 : ¬ (sF.st ≠ 5) := by have := H5.out; omega
      rw [if_neg h6]
      refine ⟨_, rfl, ?_⟩
      split
      · decide
      · split <;> decide
    obtain ⟨code, hco, hcn⟩ := hk
    rw [hco] at hT2
    have hcn2 : (code != 15) = true := by simpa using hcn
    clear hco
    refine hT2.mono ?_
    rintro e w8 ⟨r8, rfl, ho, hb⟩
    have HB8 := Lib.hid (bt HB2.out (bt HB7.out hb))
    clear hT2 ho hb
    go_wp2
    go_ret
    exact ⟨rfl, HB8.out⟩
end Go.Proofs.YthgghgecpjnoiaaDoor.Dv
