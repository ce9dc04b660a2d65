/- DotBack walked: for all bytes, with bytes behind, every bound, all cuts the law returns true. -/
import Derived.Test.YthgghgecpjnoiaaDoorDy
import Derived.Test.YthgghgecpjnoiaaDoorDl
import Derived.Test.YthgghgecpjnoiaaDoorDx
import Derived.Deep.RegionWith
namespace Go.Proofs.YthgghgecpjnoiaaDoor.Ea
open Go.RowKit Go.Proofs.YthgghgecpjnoiaaDoorW.PrintWords Go.Proofs.YthgghgecpjnoiaaDoorW.PrintLast Go.Proofs.YthgghgecpjnoiaaDoorW.PrintMore Go.Proofs.YthgghgecpjnoiaaDoor.Pc Go.Proofs.YthgghgecpjnoiaaDoor.Pd Go.Proofs.YthgghgecpjnoiaaDoor.Pk Go.Proofs.YthgghgecpjnoiaaDoor.Da Go.Proofs.YthgghgecpjnoiaaDoor.Db Go.Proofs.YthgghgecpjnoiaaDoor.Dc Go.Proofs.YthgghgecpjnoiaaDoor.Dd Go.Proofs.YthgghgecpjnoiaaDoor.De Go.Proofs.YthgghgecpjnoiaaDoor.Df Go.Proofs.YthgghgecpjnoiaaDoor.Di Go.Proofs.YthgghgecpjnoiaaDoor.Dj Go.Proofs.YthgghgecpjnoiaaDoor.Dk Go.Proofs.YthgghgecpjnoiaaDoor.Dl Go.Proofs.YthgghgecpjnoiaaDoor.Dn Go.Proofs.YthgghgecpjnoiaaDoor.Do Go.Proofs.YthgghgecpjnoiaaDoor.Dq Go.Proofs.YthgghgecpjnoiaaDoor.Dr Go.Proofs.YthgghgecpjnoiaaDoor.Ds Go.Proofs.YthgghgecpjnoiaaDoor.Dt Go.Proofs.YthgghgecpjnoiaaDoor.Du Go.Proofs.YthgghgecpjnoiaaDoor.Dv Go.Proofs.YthgghgecpjnoiaaDoor.Dw Go.Proofs.YthgghgecpjnoiaaDoor.Dy Go.Proofs.YthgghgecpjnoiaaDoor.Dx
def endOf : Value → Bool
  | .bool b => b
  | _ => false
theorem OwnS.rd {w : World} {base : Nat} {v : Value} {xs : List ByteArray} (h : OwnS w base v xs) : ∃ A c, v = .slice A xs.length c ∧ RdS w A xs := by
  obtain ⟨A, c, e, h, -⟩ := OwnS.reads h
  exact ⟨A, c, e, h⟩
set_option maxHeartbeats 16000000 in
set_option maxRecDepth 100000 in
theorem back_walk (A0 : Option Addr) (c0 : Nat) (b : List UInt8) (A1 : Option Addr) (c1 : Nat) (more : List UInt8) (most : Int) (A3 : Option Addr) (c3 : Nat) (cuts : List Int) (m : Int) (w : World) (hr : RdB w A0 b) (hc : b.length ≤ c0) (hr1 : RdB w A1 more) (hc1 : more.length ≤ c1) (hr3 : RdI w A3 cuts) (hc3 : cuts.length ≤ c3) (hm : w.cell? ⟨0, 0, none⟩ = some (.int .i64 m)) :
    Calls Tryd.prog 3 #[.slice A0 b.length c0, .slice A1 more.length c1, .int .i64 most, .slice A3 cuts.length c3] w fun e w' => e = .returned (.bool true) ∧ Below w.heap.size w w' := by
  have HR := Lib.hid hr
  have HR1 := Lib.hid hr1
  have HI := Lib.hid hr3
  have HM := Lib.hid hm
  clear hr hm hr1 hr3
  go_enter Tryd.func3, Tryd.ntmps3
  go_wp2_with fail
  refine (known_any w m HM.out).mono ?_
  rintro e w1 ⟨rfl, hb⟩
  have HB1 := Lib.hid hb
  clear hb
  by_cases k1 : (4096 : Int) < b.length
  · go_wp2
    go_ret
    exact ⟨rfl, HB1.out⟩
  by_cases k2 : (4096 : Int) < more.length
  · go_wp2
    go_ret
    exact ⟨rfl, HB1.out⟩
  by_cases k3 : (200 : Int) < cuts.length
  · go_wp2
    go_ret
    exact ⟨rfl, HB1.out⟩
  by_cases k4 : most < 0
  · go_wp2
    go_ret
    exact ⟨rfl, HB1.out⟩
  by_cases k5 : 65536 < most
  · go_wp2
    go_ret
    exact ⟨rfl, HB1.out⟩
  obtain ⟨M, rfl⟩ : ∃ M : Nat, most = M := ⟨most.toNat, by omega⟩
  have hM : M ≤ 65536 := by omega
  go_wp2_with fail
  refine (encode_any A0 c0 b m w1 (keepC HB1.out HM.out) (HR.out.below HB1.out) hc (by omega)).mono ?_
  rintro e w5 ⟨v5, rfl, ho, hb⟩
  obtain ⟨Ae, ce, rfl, hre, hce⟩ := ho.reads
  have HB5 := Lib.hid (bt HB1.out hb)
  have HRE := Lib.hid hre
  have HRb := Lib.hid (HR.out.below HB5.out)
  have HMm := Lib.hid (keepC HB5.out HM.out)
  obtain ⟨E, hE⟩ : ∃ E, encL b = E := ⟨_, rfl⟩
  obtain ⟨W, hW⟩ : ∃ W, wholeL b = W := ⟨_, rfl⟩
  obtain ⟨T, hT⟩ : ∃ T, (linesL b).map tb = T := ⟨_, rfl⟩
  obtain ⟨y, hy⟩ : ∃ y, tb E = y := ⟨_, rfl⟩
  obtain ⟨yw, hyw⟩ : ∃ yw, tb W = yw := ⟨_, rfl⟩
  have hTl : T.length ≤ 5000 := by
    rw [← hT, List.length_map]
    have h1 := lines_sum b
    have h2 := sum_len (linesL b)
    omega
  rw [hE] at HRE hce ⊢
  have HE := Lib.hid hE
  have HW := Lib.hid hW
  have HT := Lib.hid hT
  have HY := Lib.hid hy
  have HYW := Lib.hid hyw
  have t5 := (HRE.out.below (w1 := w5.drew) (Below.refl _ _).drew).text ce
  rw [hy] at t5
  have hC12 := fun (W' : World) (h : Below w5.heap.size w5 W') => rencode_any A0 c0 b W' (HRb.out.below h) hc (by omega)
  have hC13 := fun (W' : World) (h : Below w5.heap.size w5 W') => whole_any A0 c0 b W' (HRb.out.below h) hc (by omega)
  have hC14 := fun (W' : World) (h : Below w5.heap.size w5 W') => rwhole_any A0 c0 b W' (HRb.out.below h) hc (by omega)
  have hC16 := fun (W' : World) (h : Below w5.heap.size w5 W') => lines_any A0 c0 b m W' (keepC h HMm.out) (HRb.out.below h) hc (by omega)
  have hC17 := fun (W' : World) (h : Below w5.heap.size w5 W') => rlines_any A0 c0 b W' (HRb.out.below h) hc (by omega)
  rw [hE] at hC12
  rw [hW] at hC13 hC14
  rw [hT] at hC16 hC17
  have HC12 := Lib.hid hC12
  have HC13 := Lib.hid hC13
  have HC14 := Lib.hid hC14
  have HC16 := Lib.hid hC16
  have HC17 := Lib.hid hC17
  clear ho hb hre hE hW hT hy hyw hC12 hC13 hC14 hC16 hC17
  go_wp2_with fail
  go_cut [72] from 50 to 72 (fun t wx => t = .bool false ∧ Hid (Below w5.heap.size w5 wx))
  case first =>
   go_region_with (first
      | (go_at_call 12; refine (HC12.out _ ?_).mono ?_; (first | exact (Below.refl _ _).drew | assumption); rintro e w12 ⟨v12, rfl, ho12, hb12⟩; obtain ⟨A12, c12, rfl, hr12, hc12⟩ := ho12.reads; have t12 := hr12.text c12; rw [HY.out] at t12; have S12 : Below w5.heap.size w5 w12 := bt (by (first | exact (Below.refl _ _).drew | assumption)) hb12; have t5b := (HRE.out.below S12).text ce; rw [HY.out] at t5b; clear ho12)
      | (go_at_call 13; refine (HC13.out _ ?_).mono ?_; (first | exact (Below.refl _ _).drew | assumption); rintro e w13 ⟨v13, rfl, ho13, hb13⟩; obtain ⟨A13, cc13, rfl, hr13, hc13⟩ := ho13.reads; have S13 : Below w5.heap.size w5 w13 := bt (by (first | exact (Below.refl _ _).drew | assumption)) hb13; have t13 := hr13.text cc13; rw [HYW.out] at t13; (try (have t14b := (hr14.below hb13).text cc14; rw [HYW.out] at t14b)); clear ho13)
      | (go_at_call 14; refine (HC14.out _ ?_).mono ?_; (first | exact (Below.refl _ _).drew | assumption); rintro e w14 ⟨v14, rfl, ho14, hb14⟩; obtain ⟨A14, cc14, rfl, hr14, hc14⟩ := ho14.reads; have S14 : Below w5.heap.size w5 w14 := bt (by (first | exact (Below.refl _ _).drew | assumption)) hb14; have t14 := hr14.text cc14; rw [HYW.out] at t14; (try (have t13b := (hr13.below hb14).text cc13; rw [HYW.out] at t13b)); clear ho14)
      | (go_at_call 16; refine (HC16.out _ ?_).mono ?_; (first | exact (Below.refl _ _).drew | assumption); rintro e w16 ⟨A16, c16, rfl, hr16, hc16, hb16⟩; have S16 : Below w5.heap.size w5 w16 := bt (by (first | exact (Below.refl _ _).drew | assumption)) hb16)
      | (go_at_call 17; refine (HC17.out _ ?_).mono ?_; (first | exact (Below.refl _ _).drew | assumption); rintro e w17 ⟨v17, rfl, ho17, hb17⟩; obtain ⟨A17, c17, rfl, hr17⟩ := OwnS.rd ho17; have S17 : Below w5.heap.size w5 w17 := bt (by (first | exact (Below.refl _ _).drew | assumption)) hb17; clear ho17)
      | (go_at_call 15; refine (texts_any _ _ _ _ T _ ?_ ?_ (by omega)).mono ?_; (first | exact hr16 | exact hr16.below hb17); (first | exact hr17 | exact hr17.below hb16); rintro e w15 ⟨rfl, hb15⟩; have S15 : Below w5.heap.size w5 w15 := bt (by (first | exact (Below.refl _ _).drew | assumption)) hb15))
   all_goals (go_wp2_with fail; go_meet; exact ⟨rfl, Lib.hid (by assumption)⟩)
  case rest =>
   obtain ⟨rfl, HB56⟩ := hcut
   rename_i w6
   have HB6 := Lib.hid (bt HB5.out HB56.out)
   have HRE6 := Lib.hid (HRE.out.below HB56.out)
   have HR16 := Lib.hid (HR1.out.below HB6.out)
   have hel := enc_len b
   rw [HE.out] at hel
   go_wp2_with fail
   refine (new_any (w := wc) (M := M) hM).mono ?_
   rintro e w7 ⟨rfl, hd, hb, hs⟩
   have HD := Lib.hid hd
   have HB7 := Lib.hid hb
   have HS := Lib.hid hs
   have HRE7 := Lib.hid (HRE6.out.below hb)
   have HR17 := Lib.hid (HR16.out.below hb)
   clear hd hb hs
   have O0 := Lib.hid (show OwnB (w7.alloc (Obj.cells #[] 5)) w7.heap.size (.slice (some ⟨w7.heap.size, 0, none⟩) 0 0) [] from OwnB.empty w7)
   go_wp2_with (first
     | (at_builtin; refine wpList_row rfl (.tmp 80) (.tmp 81) rfl w7.heap.size _ [] rfl O0.out Ae ce E rfl (HRE7.out.below (al _)) (by simp only [List.length_nil]; omega) (by simp) ?_; intro v8 w8 ho hb _; have Ow8 := Lib.hid ho; have Bw8 := Lib.hid ((al (w := w7) (Obj.cells #[] 5)).trans hb); clear ho hb)
     | (at_builtin; refine wpList_row rfl (.tmp 82) (.tmp 83) rfl w7.heap.size _ ([] ++ E) rfl Ow8.out A1 c1 more rfl (HR17.out.below Bw8.out) (by rw [List.nil_append]; omega) Bw8.out.size ?_; intro v9 w9 ho hb _; obtain ⟨Aa, ca, rfl, hra, hca⟩ := ho.reads; have HRA := Lib.hid hra; have Bw9 := Lib.hid (Bw8.out.trans hb); clear ho hb hra))
   rw [List.nil_append] at HRA hca
   obtain ⟨sF, hF, h5, hwo, hgF⟩ := Dm.back b more
   rw [HE.out] at hF
   rw [HW.out] at hwo
   obtain ⟨X, hX⟩ : ∃ X, E ++ more = X := ⟨_, rfl⟩
   have hxl : X.length = E.length + more.length := by rw [← hX, List.length_append]
   rw [hX] at HRA hca hF
   rw [← hxl]
   have HXL := Lib.hid hxl
   have hXb : X.length ≤ 13000 := by omega
   clear hxl
   have HF := Lib.hid hF
   have H5 := Lib.hid h5
   have HWO := Lib.hid hwo
   have HGF := Lib.hid hgF
   have D9 := Lib.hid (HD.out.below Bw9.out)
   have HB9 := Lib.hid (bt HB6.out (bt HB7.out Bw9.out))
   have HPos := Lib.hid (Dm.enc_pos b)
   clear hF h5 hwo hgF hX O0 Ow8 Bw8 HRE7 HR17 t5 HC12 HC13 HC16
   go_loopw [13, 14, 15] (fun at' dn i wr => ∃ (k p : Nat) (s : Dm.S), i = .int .i64 k ∧ at' = .int .i64 p ∧ p ≤ X.length ∧ k ≤ 10000 ∧ Hid (Dec w9 wr wc.heap.size wc.heap.size M s none) ∧ Hid (Dm.Good s) ∧ ((dn = .bool false ∧ k ≤ cuts.length ∧ Hid (Dm.go s (X.drop p) = (sF, more)) ∧ Hid (s.st ≠ 5) ∧ Hid (s.rr.length ≤ p)) ∨ (dn = .bool true ∧ Hid (s = sF) ∧ Hid (p = E.length)))) (fun at' dn i _ => if endOf dn then 0 else 1 + (X.length - (intOf at').toNat) + (cuts.length - (intOf i).toNat))
   case atStart => exact ⟨0, 0, Dm.S0, rfl, rfl, by omega, by omega, Lib.hid (Dec.refl D9.out), Lib.hid .init, .inl ⟨rfl, by omega, HF, Lib.hid (by simp [Dm.S0]), Lib.hid (by simp [Dm.S0])⟩⟩
   case round =>
    obtain ⟨k, p, s, rfl, rfl, hp, hk, HDs, HGs, ⟨rfl, hkc, HGO, HST, HLs⟩ | ⟨rfl, HSF, HPE⟩⟩ := hrel
    · obtain ⟨vs, a1, a2, a3, a4⟩ := HDs.out
      have A1h := Lib.hid a1
      have K1 := Lib.hid a2
      have L1 := Lib.hid a3
      have N1 := Lib.hid a4
      clear a1 a2 a3 a4
      have HBr := Lib.hid (show Below w.heap.size w wr from HB9.out.trans (L1.out.mono HB6.out.size))
      obtain ⟨q, hq0⟩ : ∃ q : Nat, X.length - p = q := ⟨_, rfl⟩
      have hq : (X.length : Int) - p = q := by omega
      have wq : IntKind.i64.wrap ((X.length : Int) - p) = (q : Int) := by have := HXL.out; rw [IntKind.wrap_i64]; omega
      have HQ0 := Lib.hid hq0
      clear hq0
      by_cases hic : k < cuts.length
      · have i1 : (k : Int) < cuts.length := by omega
        obtain ⟨b2, o2, rfl, hcell, hb2⟩ := RdI.cell HI.out k hic
        obtain ⟨x, hx⟩ : ∃ x, cuts[k] = x := ⟨_, rfl⟩
        rw [hx] at hcell
        have g1 : wr.cell? ⟨b2, o2 + k, none⟩ = some (.int .i64 x) := keepC HBr.out hcell
        obtain ⟨n, hn, hcut⟩ := cut_of x (q + 1) (by omega)
        have hcases : (x.tmod ((q : Int) + 1) = (n : Int) ∧ True) ∨ (x.tmod ((q : Int) + 1) = -(n : Int) ∧ 0 < n) := by
          have e : ((q + 1 : Nat) : Int) = (q : Int) + 1 := by omega
          rw [e] at hcut
          rcases hcut with h | ⟨h, h0⟩
          · exact .inl ⟨h, trivial⟩
          · exact .inr ⟨h, by omega⟩
        have hnR : n ≤ q := by omega
        have wk : IntKind.i64.wrap ((q : Int) + 1) = (q : Int) + 1 := by rw [IntKind.wrap_i64]; omega
        clear hcut hx hcell
        rcases hcases with ⟨htm, -⟩ | ⟨htm, hn0⟩
        · have hz : ¬ (n : Int) < 0 := by omega
          have hxl := HXL.out
          have hq0 := HQ0.out
          have wpn : IntKind.i64.wrap ((p : Int) + n) = (p : Int) + n := by rw [IntKind.wrap_i64]; omega
          obtain ⟨A5, hs1, hs2, hs3⟩ := mid_of Aa ca X (p : Int) ((p : Int) + n) (by omega) (by omega) (by omega) hca
          have e1 : ((p : Int) + n).toNat = p + n := by omega
          rw [e1, Int.toNat_natCast] at hs1 hs2 hs3
          obtain ⟨T2, hT2⟩ : ∃ T2, (X.take (p + n)).drop p = T2 := ⟨_, rfl⟩
          have hT3 : T2 = (X.drop p).take n := by rw [← hT2, List.drop_take, Nat.add_sub_cancel_left]
          have hT4 : T2.length = n := by rw [hT3, List.length_take, List.length_drop]; omega
          have hsp : X.drop p = T2 ++ X.drop (p + n) := by rw [hT3, ← List.drop_drop, List.take_append_drop]
          rw [hT2] at hs1 hs2 hs3
          have HRAr : RdB wr Aa X := RdB.kept HRA.out K1.out (fun ad e h0 => ⟨dec_ne D9.out HRA.out h0 ad e, by simp⟩)
          have hN1 := next_any (l := T2) (c := ca - p) A1h.out HGs.out (by omega) (by have := HLs.out; omega) (hs2 wr HRAr) hs3 (fun ad e h0 => ⟨dec_ne A1h.out (hs2 wr HRAr) h0 ad e, far (RdB.lt (hs2 w9 HRA.out) h0 ad e) N1.out (Nat.le_refl _)⟩)
          obtain ⟨F, hF⟩ : ∃ F, Dm.go s T2 = F := ⟨_, rfl⟩
          have hrr := go_rr T2 s
          have hG2 := Dm.go_good T2 s HGs.out
          have hap := Dm.go_app T2 (X.drop (p + n)) s
          have hrs := Dm.go_rest T2 s
          have hgl := Dm.go_len T2 s
          rw [← hsp, HGO.out] at hap
          rw [hF] at hN1 hrr hG2 hap hrs hgl
          rw [hT4] at hs1 hN1 hrr hgl
          have HAP := Lib.hid hap
          have HRS := Lib.hid hrs
          have HRRL := Lib.hid hrr
          have HG2 := Lib.hid hG2
          clear hap hrs hrr hG2 hs2 hs3 hT2 hT3 hT4 hsp hF HRAr
          by_cases q5 : F.1.st = 5
          · have hap := HAP.out
            rw [if_pos q5] at hap
            have h1 : sF = F.1 := congrArg Prod.fst hap
            have h2 : more = F.2 ++ X.drop (p + n) := congrArg Prod.snd hap
            have h3 := congrArg List.length h2
            rw [List.length_append, List.length_drop] at h3
            rw [decide_eq_true q5] at hN1
            obtain ⟨rl, hrl⟩ : ∃ rl, F.2.length = rl := ⟨_, rfl⟩
            rw [hrl] at h3 hgl
            have HRL := Lib.hid hrl
            have HS5 := Lib.hid h1
            have Q5 := Lib.hid q5
            have hat : (p : Int) + n - rl = (E.length : Int) := by omega
            have wat : IntKind.i64.wrap ((p : Int) + n - rl) = (E.length : Int) := by rw [IntKind.wrap_i64]; omega
            clear hap h1 h2 h3 hrl q5 HAP HRS hxl hq0
            go_wp2_with fail
            refine hN1.mono ?_
            rintro e w10 ⟨r10, rfl, ho, hd⟩
            obtain ⟨A10, c10, rfl, hr10, hc10⟩ := ho.reads
            rw [HRL.out]
            have HDN := Lib.hid (Dec.trans K1.out L1.out N1.out hd A1h.out)
            clear hN1 ho hd hr10 hc10 hs1
            go_wp2_with fail
            exact ⟨⟨k + 1, E.length, F.1, by go_num, rfl, by have := HXL.out; omega, by omega, HDN, HG2, .inr ⟨rfl, Lib.hid HS5.out.symm, Lib.hid rfl⟩⟩, by show (0 : Nat) < 1 + (X.length - p) + (cuts.length - _); omega⟩
          · have hap := HAP.out
            rw [if_neg q5] at hap
            have hr0 := HRS.out q5
            have hlt : ¬ (X.length : Int) ≤ (p : Int) + n := by
              intro h
              rw [List.drop_of_length_le (by omega)] at hap
              have h1 : sF = F.1 := congrArg Prod.fst hap
              exact q5 (by rw [← h1]; exact H5.out)
            rw [decide_eq_false q5, hr0] at hN1
            have HAP2 := Lib.hid hap.symm
            have Q5 := Lib.hid q5
            have wat : IntKind.i64.wrap ((p : Int) + n - 0) = (p : Int) + n := by rw [IntKind.wrap_i64]; omega
            clear hap q5 HAP HRS hr0 hxl hq0
            go_wp2_with fail
            refine hN1.mono ?_
            rintro e w10 ⟨r10, rfl, ho, hd⟩
            obtain ⟨A10, c10, rfl, hr10, hc10⟩ := ho.reads
            have HDN := Lib.hid (Dec.trans K1.out L1.out N1.out hd A1h.out)
            clear hN1 ho hd hr10 hc10 hs1
            go_wp2_with fail
            exact ⟨⟨k + 1, p + n, F.1, by go_num, by go_num, by have := HXL.out; omega, by omega, HDN, HG2, .inl ⟨rfl, by omega, HAP2, Q5, Lib.hid (by have := HRRL.out; have := HLs.out; omega)⟩⟩, by show 1 + (X.length - (p + n)) + (cuts.length - (k + 1)) < 1 + (X.length - p) + (cuts.length - k); omega⟩
        · have hn1 : (-(n : Int)) < 0 := by omega
          have wn : IntKind.i64.wrap (n : Int) = (n : Int) := by rw [IntKind.wrap_i64]; omega
          have hxl := HXL.out
          have hq0 := HQ0.out
          have wpn : IntKind.i64.wrap ((p : Int) + n) = (p : Int) + n := by rw [IntKind.wrap_i64]; omega
          obtain ⟨A5, hs1, hs2, hs3⟩ := mid_of Aa ca X (p : Int) ((p : Int) + n) (by omega) (by omega) (by omega) hca
          have e1 : ((p : Int) + n).toNat = p + n := by omega
          rw [e1, Int.toNat_natCast] at hs1 hs2 hs3
          obtain ⟨T2, hT2⟩ : ∃ T2, (X.take (p + n)).drop p = T2 := ⟨_, rfl⟩
          have hT3 : T2 = (X.drop p).take n := by rw [← hT2, List.drop_take, Nat.add_sub_cancel_left]
          have hT4 : T2.length = n := by rw [hT3, List.length_take, List.length_drop]; omega
          have hsp : X.drop p = T2 ++ X.drop (p + n) := by rw [hT3, ← List.drop_drop, List.take_append_drop]
          rw [hT2] at hs1 hs2 hs3
          have HRAr : RdB wr Aa X := RdB.kept HRA.out K1.out (fun ad e h0 => ⟨dec_ne D9.out HRA.out h0 ad e, by simp⟩)
          have hN1 := next_any (l := T2) (c := ca - p) A1h.out HGs.out (by omega) (by have := HLs.out; omega) (hs2 wr HRAr) hs3 (fun ad e h0 => ⟨dec_ne A1h.out (hs2 wr HRAr) h0 ad e, far (RdB.lt (hs2 w9 HRA.out) h0 ad e) N1.out (Nat.le_refl _)⟩)
          obtain ⟨F, hF⟩ : ∃ F, Dm.go s T2 = F := ⟨_, rfl⟩
          have hrr := go_rr T2 s
          have hG2 := Dm.go_good T2 s HGs.out
          have hap := Dm.go_app T2 (X.drop (p + n)) s
          have hrs := Dm.go_rest T2 s
          have hgl := Dm.go_len T2 s
          rw [← hsp, HGO.out] at hap
          rw [hF] at hN1 hrr hG2 hap hrs hgl
          rw [hT4] at hs1 hN1 hrr hgl
          have HAP := Lib.hid hap
          have HRS := Lib.hid hrs
          have HRRL := Lib.hid hrr
          have HG2 := Lib.hid hG2
          clear hap hrs hrr hG2 hs2 hs3 hT2 hT3 hT4 hsp hF HRAr
          by_cases q5 : F.1.st = 5
          · have hap := HAP.out
            rw [if_pos q5] at hap
            have h1 : sF = F.1 := congrArg Prod.fst hap
            have h2 : more = F.2 ++ X.drop (p + n) := congrArg Prod.snd hap
            have h3 := congrArg List.length h2
            rw [List.length_append, List.length_drop] at h3
            rw [decide_eq_true q5] at hN1
            obtain ⟨rl, hrl⟩ : ∃ rl, F.2.length = rl := ⟨_, rfl⟩
            rw [hrl] at h3 hgl
            have HRL := Lib.hid hrl
            have HS5 := Lib.hid h1
            have Q5 := Lib.hid q5
            have hat : (p : Int) + n - rl = (E.length : Int) := by omega
            have wat : IntKind.i64.wrap ((p : Int) + n - rl) = (E.length : Int) := by rw [IntKind.wrap_i64]; omega
            clear hap h1 h2 h3 hrl q5 HAP HRS hxl hq0
            go_wp2_with fail
            refine hN1.mono ?_
            rintro e w10 ⟨r10, rfl, ho, hd⟩
            obtain ⟨A10, c10, rfl, hr10, hc10⟩ := ho.reads
            rw [HRL.out]
            have HDN := Lib.hid (Dec.trans K1.out L1.out N1.out hd A1h.out)
            clear hN1 ho hd hr10 hc10 hs1
            go_wp2_with fail
            exact ⟨⟨k + 1, E.length, F.1, by go_num, rfl, by have := HXL.out; omega, by omega, HDN, HG2, .inr ⟨rfl, Lib.hid HS5.out.symm, Lib.hid rfl⟩⟩, by show (0 : Nat) < 1 + (X.length - p) + (cuts.length - _); omega⟩
          · have hap := HAP.out
            rw [if_neg q5] at hap
            have hr0 := HRS.out q5
            have hlt : ¬ (X.length : Int) ≤ (p : Int) + n := by
              intro h
              rw [List.drop_of_length_le (by omega)] at hap
              have h1 : sF = F.1 := congrArg Prod.fst hap
              exact q5 (by rw [← h1]; exact H5.out)
            rw [decide_eq_false q5, hr0] at hN1
            have HAP2 := Lib.hid hap.symm
            have Q5 := Lib.hid q5
            have wat : IntKind.i64.wrap ((p : Int) + n - 0) = (p : Int) + n := by rw [IntKind.wrap_i64]; omega
            clear hap q5 HAP HRS hr0 hxl hq0
            go_wp2_with fail
            refine hN1.mono ?_
            rintro e w10 ⟨r10, rfl, ho, hd⟩
            obtain ⟨A10, c10, rfl, hr10, hc10⟩ := ho.reads
            have HDN := Lib.hid (Dec.trans K1.out L1.out N1.out hd A1h.out)
            clear hN1 ho hd hr10 hc10 hs1
            go_wp2_with fail
            exact ⟨⟨k + 1, p + n, F.1, by go_num, by go_num, by have := HXL.out; omega, by omega, HDN, HG2, .inl ⟨rfl, by omega, HAP2, Q5, Lib.hid (by have := HRRL.out; have := HLs.out; omega)⟩⟩, by show 1 + (X.length - (p + n)) + (cuts.length - (k + 1)) < 1 + (X.length - p) + (cuts.length - k); omega⟩
      · have i1 : ¬ (k : Int) < cuts.length := by omega
        obtain rfl : k = cuts.length := by omega
        have hnR : q ≤ q := by omega
        have hxl := HXL.out
        have hq0 := HQ0.out
        have wpn : IntKind.i64.wrap ((p : Int) + q) = (p : Int) + q := by rw [IntKind.wrap_i64]; omega
        obtain ⟨A5, hs1, hs2, hs3⟩ := mid_of Aa ca X (p : Int) ((p : Int) + q) (by omega) (by omega) (by omega) hca
        have e1 : ((p : Int) + q).toNat = p + q := by omega
        rw [e1, Int.toNat_natCast] at hs1 hs2 hs3
        obtain ⟨T2, hT2⟩ : ∃ T2, (X.take (p + q)).drop p = T2 := ⟨_, rfl⟩
        have hT3 : T2 = (X.drop p).take q := by rw [← hT2, List.drop_take, Nat.add_sub_cancel_left]
        have hT4 : T2.length = q := by rw [hT3, List.length_take, List.length_drop]; omega
        have hsp : X.drop p = T2 ++ X.drop (p + q) := by rw [hT3, ← List.drop_drop, List.take_append_drop]
        rw [hT2] at hs1 hs2 hs3
        have HRAr : RdB wr Aa X := RdB.kept HRA.out K1.out (fun ad e h0 => ⟨dec_ne D9.out HRA.out h0 ad e, by simp⟩)
        have hN1 := next_any (l := T2) (c := ca - p) A1h.out HGs.out (by omega) (by have := HLs.out; omega) (hs2 wr HRAr) hs3 (fun ad e h0 => ⟨dec_ne A1h.out (hs2 wr HRAr) h0 ad e, far (RdB.lt (hs2 w9 HRA.out) h0 ad e) N1.out (Nat.le_refl _)⟩)
        obtain ⟨F, hF⟩ : ∃ F, Dm.go s T2 = F := ⟨_, rfl⟩
        have hrr := go_rr T2 s
        have hG2 := Dm.go_good T2 s HGs.out
        have hap := Dm.go_app T2 (X.drop (p + q)) s
        have hrs := Dm.go_rest T2 s
        have hgl := Dm.go_len T2 s
        rw [← hsp, HGO.out] at hap
        rw [hF] at hN1 hrr hG2 hap hrs hgl
        rw [hT4] at hs1 hN1 hrr hgl
        have HAP := Lib.hid hap
        have HRS := Lib.hid hrs
        have HRRL := Lib.hid hrr
        have HG2 := Lib.hid hG2
        clear hap hrs hrr hG2 hs2 hs3 hT2 hT3 hT4 hsp hF HRAr
        by_cases q5 : F.1.st = 5
        · have hap := HAP.out
          rw [if_pos q5] at hap
          have h1 : sF = F.1 := congrArg Prod.fst hap
          have h2 : more = F.2 ++ X.drop (p + q) := congrArg Prod.snd hap
          have h3 := congrArg List.length h2
          rw [List.length_append, List.length_drop] at h3
          rw [decide_eq_true q5] at hN1
          obtain ⟨rl, hrl⟩ : ∃ rl, F.2.length = rl := ⟨_, rfl⟩
          rw [hrl] at h3 hgl
          have HRL := Lib.hid hrl
          have HS5 := Lib.hid h1
          have Q5 := Lib.hid q5
          have hat : (p : Int) + q - rl = (E.length : Int) := by omega
          have wat : IntKind.i64.wrap ((p : Int) + q - rl) = (E.length : Int) := by rw [IntKind.wrap_i64]; omega
          clear hap h1 h2 h3 hrl q5 HAP HRS hxl hq0
          go_wp2_with fail
          refine hN1.mono ?_
          rintro e w10 ⟨r10, rfl, ho, hd⟩
          obtain ⟨A10, c10, rfl, hr10, hc10⟩ := ho.reads
          rw [HRL.out]
          have HDN := Lib.hid (Dec.trans K1.out L1.out N1.out hd A1h.out)
          clear hN1 ho hd hr10 hc10 hs1
          go_wp2_with fail
          exact ⟨⟨cuts.length + 1, E.length, F.1, by go_num, rfl, by have := HXL.out; omega, by omega, HDN, HG2, .inr ⟨rfl, Lib.hid HS5.out.symm, Lib.hid rfl⟩⟩, by show (0 : Nat) < 1 + (X.length - p) + (cuts.length - _); omega⟩
        · have hap := HAP.out
          rw [if_neg q5] at hap
          have hr0 := HRS.out q5
          have hlt : ¬ (X.length : Int) ≤ (p : Int) + q := by
            intro h
            rw [List.drop_of_length_le (by omega)] at hap
            have h1 : sF = F.1 := congrArg Prod.fst hap
            exact q5 (by rw [← h1]; exact H5.out)
          rw [decide_eq_false q5, hr0] at hN1
          have HAP2 := Lib.hid hap.symm
          have Q5 := Lib.hid q5
          have wat : IntKind.i64.wrap ((p : Int) + q - 0) = (p : Int) + q := by rw [IntKind.wrap_i64]; omega
          clear hap q5 HAP HRS hr0 hxl hq0
          exact absurd hlt (by omega)
    · obtain rfl : s = sF := HSF.out
      obtain rfl : p = E.length := HPE.out
      obtain ⟨vs, a1, a2, a3, a4⟩ := HDs.out
      have A1h := Lib.hid a1
      have HBr := Lib.hid (show Below w.heap.size w wr from HB9.out.trans (a3.mono HB6.out.size))
      have HB5r := Lib.hid (show Below w5.heap.size w5 wr from (bt (bt HB56.out HB7.out) Bw9.out).trans (a3.mono HB56.out.size))
      have hT := text_any a1 HGs.out (by omega)
      have hk5 : ¬ (s.st ≠ 5) := by have := H5.out; omega
      have hwo := HWO.out
      have hlen : s.out.length = W.length := by rw [hwo]
      have hwd : s.wd = (linesL b).any (fun l => decide (998 < l.length)) := by rw [Dm.wide_iff HGs.out H5.out, hwo, ← HW.out, Dm.lines_whole]
      have hwa : T.any (fun x => decide (998 < x.size)) = s.wd := by
        rw [hwd, ← HT.out, List.any_map]
        refine congrArg (fun f => List.any (linesL b) f) (funext fun l => ?_)
        show decide (998 < (tb l).size) = decide (998 < l.length)
        have e : (tb l).size = l.length := by rw [← tl_len, tl_tb]
        rw [e]
      rw [if_neg hk5, if_neg hk5] at hT
      rw [hlen] at hT
      clear a1 a2 a3 a4 hk5 hwd
      by_cases hMW : M < W.length
      · rw [if_pos hMW, if_pos hMW] at hT
        have i1 : (M : Int) < W.length := by omega
        clear hwa hwo
        go_wp2_with fail
        refine hT.mono ?_
        rintro e w10 ⟨r10, rfl, ho, hb⟩
        obtain ⟨A10, c10, rfl, hr10, hc10⟩ := ho.reads
        have HBa := Lib.hid (bt HBr.out hb)
        have HBb := Lib.hid (bt HB5r.out hb)
        have A2h := Lib.hid (A1h.out.below hb)
        clear hT ho hr10 hb
        go_wp2_with fail
        refine (HC14.out w10 HBb.out).mono ?_
        rintro e w11 ⟨v11, rfl, ho, hb⟩
        obtain ⟨A11, c11, rfl, hr11, hc11⟩ := ho.reads
        have HBa2 := Lib.hid (bt HBa.out hb)
        have hL := long_any (A2h.out.below hb)
        rw [hlen, decide_eq_true hMW] at hL
        clear ho hr11 hb HBa HBb hlen
        go_wp2_with fail
        refine hL.mono ?_
        rintro e w12 ⟨rfl, hb⟩
        have HB12 := Lib.hid (bt HBa2.out hb)
        clear hL hb
        go_wp2
        go_ret
        exact ⟨rfl, HB12.out⟩
      · rw [if_neg hMW, if_neg hMW] at hT
        have i1 : ¬ (M : Int) < W.length := by omega
        obtain ⟨wd, hwdv⟩ : ∃ wd, s.wd = wd := ⟨_, rfl⟩
        rw [hwdv] at hT hwa
        have HWA := Lib.hid hwa
        clear hwdv hwa hlen
        cases wd
        · rw [if_neg (by decide), if_neg (by decide), hwo] at hT
          clear hwo
          go_wp2_with fail
          refine hT.mono ?_
          rintro e w10 ⟨r10, rfl, ho, hb⟩
          obtain ⟨A10, c10, rfl, hr10, hc10⟩ := ho.reads
          have HR10 := Lib.hid hr10
          have HBa := Lib.hid (bt HBr.out hb)
          have HBb := Lib.hid (bt HB5r.out hb)
          clear hT ho hr10 hb
          go_wp2_with fail
          refine (HC14.out w10 HBb.out).mono ?_
          rintro e w11 ⟨v11, rfl, ho, hb⟩
          obtain ⟨A11, c11, rfl, hr11, hc11⟩ := ho.reads
          have HR11 := Lib.hid hr11
          have HR10b := Lib.hid (HR10.out.below hb)
          have HBa2 := Lib.hid (bt HBa.out hb)
          have HBb2 := Lib.hid (bt HBb.out hb)
          clear ho hr11 hb HR10 HBa HBb
          go_wp2_with fail
          refine (HC17.out w11 HBb2.out).mono ?_
          rintro e w12 ⟨v12, rfl, ho, hb⟩
          obtain ⟨A12, c12, rfl, hr12, hc12⟩ := OwnS.reads ho
          have HR12 := Lib.hid hr12
          have t1 := (HR10b.out.below hb).text c10
          have t2 := (HR11.out.below hb).text c11
          rw [HYW.out] at t1
          rw [HYW.out] at t2
          have HB12 := Lib.hid (bt HBa2.out hb)
          clear ho hr12 hb HR10b HBa2 HBb2
          go_wp2_with fail
          go_loop [22, 24] (fun lg i => ∃ (k : Nat) (B : Bool), k ≤ T.length ∧ i = .int .i64 k ∧ lg = .bool B ∧ Hid ((T.take k).any (fun x => decide (998 < x.size)) = B)) (fun _ i => T.length - (intOf i).toNat)
          case atStart => exact ⟨0, false, by omega, rfl, rfl, Lib.hid (by simp)⟩
          case round =>
            obtain ⟨k2, B, hk2, rfl, rfl, HBk⟩ := hrel
            by_cases hlt : k2 < T.length
            · have i2 : (k2 : Int) < T.length := by omega
              obtain ⟨b2, o2, rfl, g1⟩ := HR12.out.cell k2 hlt
              have hany : (T.take (k2 + 1)).any (fun x => decide (998 < x.size)) = (B || decide (998 < T[k2].size)) := by
                rw [List.take_succ_eq_append_getElem hlt, List.any_append, HBk.out]
                simp
              obtain ⟨x, hx⟩ : ∃ x, T[k2] = x := ⟨_, rfl⟩
              rw [hx] at g1 hany
              have HANY := Lib.hid hany
              clear hany hx
              cases B
              · by_cases hx2 : (998 : Int) < x.size
                · have HN : Hid ((T.take (k2 + 1)).any (fun x => decide (998 < x.size)) = true) := Lib.hid (by rw [HANY.out, decide_eq_true (by omega)]; rfl)
                  go_wp2
                  go_light
                  exact ⟨⟨k2 + 1, true, by omega, by go_num, rfl, HN⟩, by simp [intOf]; omega⟩
                · have HN : Hid ((T.take (k2 + 1)).any (fun x => decide (998 < x.size)) = false) := Lib.hid (by rw [HANY.out, decide_eq_false (by omega)]; rfl)
                  go_wp2
                  go_light
                  exact ⟨⟨k2 + 1, false, by omega, by go_num, rfl, HN⟩, by simp [intOf]; omega⟩
              · have HN : Hid ((T.take (k2 + 1)).any (fun x => decide (998 < x.size)) = true) := Lib.hid (by rw [HANY.out]; rfl)
                go_wp2
                go_light
                exact ⟨⟨k2 + 1, true, by omega, by go_num, rfl, HN⟩, by simp [intOf]; omega⟩
            · have i2 : ¬ (k2 : Int) < T.length := by omega
              have hB : B = false := by
                rw [← HBk.out, List.take_of_length_le (by omega)]
                exact HWA.out
              subst hB
              go_wp2
              go_ret
              exact ⟨rfl, HB12.out⟩
        · rw [if_pos rfl, if_pos rfl] at hT
          clear hwo
          go_wp2_with fail
          refine hT.mono ?_
          rintro e w10 ⟨r10, rfl, ho, hb⟩
          obtain ⟨A10, c10, rfl, hr10, hc10⟩ := ho.reads
          have HR10 := Lib.hid hr10
          have HBa := Lib.hid (bt HBr.out hb)
          have HBb := Lib.hid (bt HB5r.out hb)
          clear hT ho hr10 hb
          go_wp2_with fail
          refine (HC14.out w10 HBb.out).mono ?_
          rintro e w11 ⟨v11, rfl, ho, hb⟩
          obtain ⟨A11, c11, rfl, hr11, hc11⟩ := ho.reads
          have HR11 := Lib.hid hr11
          have HR10b := Lib.hid (HR10.out.below hb)
          have HBa2 := Lib.hid (bt HBa.out hb)
          have HBb2 := Lib.hid (bt HBb.out hb)
          clear ho hr11 hb HR10 HBa HBb
          go_wp2_with fail
          refine (HC17.out w11 HBb2.out).mono ?_
          rintro e w12 ⟨v12, rfl, ho, hb⟩
          obtain ⟨A12, c12, rfl, hr12, hc12⟩ := OwnS.reads ho
          have HR12 := Lib.hid hr12
          have t1 := (HR10b.out.below hb).text c10
          have t2 := (HR11.out.below hb).text c11
          rw [HYW.out] at t2
          have HB12 := Lib.hid (bt HBa2.out hb)
          clear ho hr12 hb HR10b HBa2 HBb2
          go_wp2_with fail
          go_loop [22, 24] (fun lg i => ∃ (k : Nat) (B : Bool), k ≤ T.length ∧ i = .int .i64 k ∧ lg = .bool B ∧ Hid ((T.take k).any (fun x => decide (998 < x.size)) = B)) (fun _ i => T.length - (intOf i).toNat)
          case atStart => exact ⟨0, false, by omega, rfl, rfl, Lib.hid (by simp)⟩
          case round =>
            obtain ⟨k2, B, hk2, rfl, rfl, HBk⟩ := hrel
            by_cases hlt : k2 < T.length
            · have i2 : (k2 : Int) < T.length := by omega
              obtain ⟨b2, o2, rfl, g1⟩ := HR12.out.cell k2 hlt
              have hany : (T.take (k2 + 1)).any (fun x => decide (998 < x.size)) = (B || decide (998 < T[k2].size)) := by
                rw [List.take_succ_eq_append_getElem hlt, List.any_append, HBk.out]
                simp
              obtain ⟨x, hx⟩ : ∃ x, T[k2] = x := ⟨_, rfl⟩
              rw [hx] at g1 hany
              have HANY := Lib.hid hany
              clear hany hx
              cases B
              · by_cases hx2 : (998 : Int) < x.size
                · have HN : Hid ((T.take (k2 + 1)).any (fun x => decide (998 < x.size)) = true) := Lib.hid (by rw [HANY.out, decide_eq_true (by omega)]; rfl)
                  go_wp2
                  go_light
                  exact ⟨⟨k2 + 1, true, by omega, by go_num, rfl, HN⟩, by simp [intOf]; omega⟩
                · have HN : Hid ((T.take (k2 + 1)).any (fun x => decide (998 < x.size)) = false) := Lib.hid (by rw [HANY.out, decide_eq_false (by omega)]; rfl)
                  go_wp2
                  go_light
                  exact ⟨⟨k2 + 1, false, by omega, by go_num, rfl, HN⟩, by simp [intOf]; omega⟩
              · have HN : Hid ((T.take (k2 + 1)).any (fun x => decide (998 < x.size)) = true) := Lib.hid (by rw [HANY.out]; rfl)
                go_wp2
                go_light
                exact ⟨⟨k2 + 1, true, by omega, by go_num, rfl, HN⟩, by simp [intOf]; omega⟩
            · have i2 : ¬ (k2 : Int) < T.length := by omega
              have hB : B = true := by
                rw [← HBk.out, List.take_of_length_le (by omega)]
                exact HWA.out
              subst hB
              go_wp2
              go_ret
              exact ⟨rfl, HB12.out⟩
end Go.Proofs.YthgghgecpjnoiaaDoor.Ea
