/- The reference's rename walked. -/
import Derived.Test.YtpdcjdangnfeiaaGreatDoorZf
section
open Go Go.RowKit Go.Proofs.YtpdcjdangnfeiaaGreatDoor.Pb Go.Proofs.YtpdcjdangnfeiaaGreatDoor.PPrf Go.Proofs.YtpdcjdangnfeiaaGreatDoorW.PrintWords Go.Proofs.YtpdcjdangnfeiaaGreatDoorW.PrintLast Go.Proofs.YtpdcjdangnfeiaaGreatDoorW.PrintMore Go.Proofs.YtpdcjdangnfeiaaGreatDoor.Qa Go.Proofs.YtpdcjdangnfeiaaGreatDoor.Tb Go.Proofs.YtpdcjdangnfeiaaGreatDoor.Rb Go.Proofs.YtpdcjdangnfeiaaGreatDoor.Ba Go.Proofs.YtpdcjdangnfeiaaGreatDoor.Rd Go.Proofs.YtpdcjdangnfeiaaGreatDoor.Te Go.Proofs.YtpdcjdangnfeiaaGreatDoor.Rq Go.Proofs.YtpdcjdangnfeiaaGreatDoor.Ui
namespace Go.Proofs.YtpdcjdangnfeiaaGreatDoor.Rc
set_option maxHeartbeats 32000000 in
set_option maxRecDepth 100000 in
/-- (*Tree).rename -/
theorem rename_lo {w : World} {B g b M : Nat} {r : RS} (A A2 : Option Addr) (c c2 : Nat) (p : List ByteArray) (x : ByteArray) (p2 : List ByteArray) (y : ByteArray) (h : Rf w B g b r.L r.n r.m) (hw : WfL r.L M) (hM : M ≤ 50000) (hl : RdN w A (p ++ [x])) (hn : p.length ≤ 900) (hc : (p ++ [x]).length ≤ c) (hl2 : RdN w A2 (p2 ++ [y])) (hn2 : p2.length ≤ 900) (hc2 : (p2 ++ [y]).length ≤ c2)
    (hnn : 0 ≤ r.n ∧ r.n ≤ 900000000) (hmm : 0 ≤ r.m ∧ r.m ≤ 900000000) (hy : nmL y.data.toList = true) (hok : RenOk r p x p2 y) (hcmp : (p ++ [x]).length ≤ (p2 ++ [y]).length) :
    Calls Tryz.prog 25 #[.pointer (some ⟨g, 0, none⟩), .slice A (p ++ [x]).length c, .slice A2 (p2 ++ [y]).length c2] w (RP w B g b (renameR2 r p x p2 y)) := by
  obtain ⟨Z, hZ⟩ : ∃ Z, renameR2 r p x p2 y = Z := ⟨_, rfl⟩
  rw [hZ]
  obtain ⟨q, hq⟩ : ∃ q, p.length = q := ⟨_, rfl⟩
  obtain ⟨q2, hq2⟩ : ∃ q, p2.length = q := ⟨_, rfl⟩
  obtain ⟨t, ht⟩ : ∃ t, (p ++ [x]).length = t := ⟨_, rfl⟩
  obtain ⟨t2, ht2⟩ : ∃ t, (p2 ++ [y]).length = t := ⟨_, rfl⟩
  have htq : t = q + 1 := by rw [← ht, List.length_append, hq]; rfl
  have htq2 : t2 = q2 + 1 := by rw [← ht2, List.length_append, hq2]; rfl
  have hrun := take_names A c t q (by omega) (by omega) (p ++ [x]) ht
  have hrun2 := take_names A2 c2 t2 q2 (by omega) (by omega) (p2 ++ [y]) ht2
  have hcell := hl.cell q (by rw [ht]; omega)
  have hcell2 := hl2.cell q2 (by rw [ht2]; omega)
  have hget : (p ++ [x])[q]'(by rw [ht]; omega) = x := by simp [← hq]
  have hget2 : (p2 ++ [y])[q2]'(by rw [ht2]; omega) = y := by simp [← hq2]
  rw [hget] at hcell
  rw [hget2] at hcell2
  obtain ⟨nb, no, rfl, hcell⟩ := hcell
  obtain ⟨nb2, no2, rfl, hcell2⟩ := hcell2
  have hp : RdN w (some ⟨nb, no, none⟩) p := by
    have := hl.take p.length
    rwa [List.take_left] at this
  have hp2 : RdN w (some ⟨nb2, no2, none⟩) p2 := by
    have := hl2.take p2.length
    rwa [List.take_left] at this
  have HC1 := Lib.hid (show ∀ i (hi : i < (p ++ [x]).length), w.cell? ⟨nb, no + i, none⟩ = some (.string (p ++ [x])[i]) from fun i hi => by obtain ⟨b', o', e, h⟩ := hl.cell i hi; cases e; exact h)
  have HC2 := Lib.hid (show ∀ i (hi : i < (p2 ++ [y]).length), w.cell? ⟨nb2, no2 + i, none⟩ = some (.string (p2 ++ [y])[i]) from fun i hi => by obtain ⟨b', o', e, h⟩ := hl2.cell i hi; cases e; exact h)
  have HWK := Lib.hid (walk_any (some ⟨nb, no, none⟩) c (p ++ [x]) h hw (by omega) hl (by rw [ht]; omega))
  have HW2 := Lib.hid (fun W (hb : Below w.heap.size w W) => walk_any (some ⟨nb2, no2, none⟩) c2 p2 (h.below hb) hw (by omega) (hp2.below hb) (by omega))
  have HWP := Lib.hid (fun W (hb : Below w.heap.size w W) => walk_any (some ⟨nb, no, none⟩) c p (h.below hb) hw (by omega) (hp.below hb) (by omega))
  rw [ht] at HWK
  rw [hq] at HWP
  rw [hq2] at HW2
  have H := Lib.hid h
  have HW := Lib.hid hw
  have hk0 := walk_lt hw (p ++ [x]) 0 h.pos
  have hi0 := walk_lt hw p2 0 h.pos
  have ha0 := walk_lt hw p 0 h.pos
  obtain ⟨ok1, ok2, ok3⟩ := hok
  unfold renameR2 at hZ
  obtain ⟨⟨k, E⟩, hke⟩ : ∃ z, walkL r.L 0 (p ++ [x]) = z := ⟨_, rfl⟩
  obtain ⟨⟨a, E3⟩, hae⟩ : ∃ z, walkL r.L 0 p = z := ⟨_, rfl⟩
  obtain ⟨⟨ti, E2⟩, hie⟩ : ∃ z, walkL r.L 0 p2 = z := ⟨_, rfl⟩
  rw [hke] at HWK hk0 hZ ok1 ok2 ok3
  rw [hie] at HW2 hi0 hZ ok2 ok3
  rw [hae] at HWP ha0 hZ ok1 ok2 ok3
  dsimp only at HWK HW2 HWP hk0 hi0 ha0 hZ ok1 ok2 ok3
  rw [hq, hq2] at hZ
  have HK := Lib.hid hk0
  have HI0 := Lib.hid hi0
  have HA0 := Lib.hid ha0
  have HNC := Lib.hid hcell
  have HNC2 := Lib.hid hcell2
  have OK1 := Lib.hid ok1
  have OK2 := Lib.hid ok2
  have OK3 := Lib.hid ok3
  have wt : IntKind.i64.wrap ((t : Int) - 1) = (q : Int) := by rw [IntKind.wrap_i64]; omega
  have wt2 : IntKind.i64.wrap ((t2 : Int) - 1) = (q2 : Int) := by rw [IntKind.wrap_i64]; omega
  have t0 : ((t : Int) == 0) = false := by rw [beq_eq_false_iff_ne]; omega
  have t20 : ((t2 : Int) == 0) = false := by rw [beq_eq_false_iff_ne]; omega
  have HT1 := Lib.hid ht
  have HT2 := Lib.hid ht2
  rw [ht, ht2] at hcmp
  rw [ht, ht2]
  have HCMP := Lib.hid hcmp
  clear hcmp
  have hqc : q ≤ c := by omega
  have hqci : (q : Int) ≤ (c : Int) := by omega
  have hqcn : ¬ (c : Int) < (q : Int) := by omega
  have hqc2 : q2 ≤ c2 := by omega
  have hqci2 : (q2 : Int) ≤ (c2 : Int) := by omega
  have hqcn2 : ¬ (c2 : Int) < (q2 : Int) := by omega
  have HTQ := Lib.hid htq
  have HTQ2 := Lib.hid htq2
  have hqt : q < t := by omega
  have hqti : (q : Int) < (t : Int) := by omega
  have hqt2 : q2 < t2 := by omega
  have hqti2 : (q2 : Int) < (t2 : Int) := by omega
  clear h hw hl hl2 hke hae hie hp hp2 hget hget2 ht ht2 hcell hcell2 htq htq2 ok1 ok2 ok3
  by_cases cE : E = 0
  case neg =>
    rw [if_pos cE] at hZ
    have HZ := Lib.hid hZ
    clear hZ hk0
    go_enter Tryz.func25, Tryz.ntmps25
    go_wp2_with (first | (go_at_call 43; refine HWK.out.mono ?_; rintro e w1 ⟨rfl, kk, rfl⟩) | fail)
    go_ret
    exact rp_same HZ.out.symm rfl H.out (bdraw w kk)
  subst cE
  rw [if_neg (by simp)] at hZ
  by_cases cE : E2 = 0
  case neg =>
    rw [if_pos cE] at hZ
    have HZ := Lib.hid hZ
    clear hZ hk0
    go_enter Tryz.func25, Tryz.ntmps25
    go_wp2_with fail
    refine HWK.out.mono ?_
    rintro e w1 ⟨rfl, kk, hk⟩
    have HB1 := Lib.hid (show Below w.heap.size w w1 from hk ▸ bdraw w kk)
    clear hk
    go_wp2_with fail
    refine (HW2.out _ HB1.out).mono ?_
    rintro e w2 ⟨rfl, k2, hk2⟩
    have HB2 := Lib.hid (show Below w.heap.size w w2 from hk2 ▸ HB1.out.trans ((bdraw w1 k2).mono HB1.out.size))
    clear hk2
    go_wp2
    go_ret
    exact rp_same HZ.out.symm rfl H.out HB2.out
  subst cE
  rw [if_neg (by simp)] at hZ
  obtain ⟨i9, hat9⟩ := OK1.out rfl
  have HAT9 := Lib.hid hat9
  clear hat9
  obtain ⟨N, hN⟩ : ∃ N, r.L.length = N := ⟨_, rfl⟩
  have HN := Lib.hid hN
  have i0 : (ti : Int) < N := by omega
  have i00 : ti < N := by omega
  have j0 : (a : Int) < N := by omega
  have j00 : a < N := by omega
  have k00 : k < N := by omega
  obtain ⟨cap, -, hT⟩ := H.out.tree
  rw [hN] at hT
  have HT := Lib.hid hT
  have hsz := HW.out.sz ti _ (thL_get hi0)
  obtain ⟨BA, bc, SA, sc, -, c1, -, c3, -, -, hS, hSc⟩ := H.out.thing ti _ (thL_get hi0)
  obtain ⟨BAa, bca, SAa, sca, -, -, -, ca3, -, -, hSa, hSca⟩ := H.out.thing a _ (thL_get ha0)
  have hsa := (HW.out.sz a _ (thL_get ha0)).1
  obtain ⟨st, hst⟩ : ∃ s, (thL r.L ti).S = s := ⟨_, rfl⟩
  obtain ⟨sa, hsae⟩ : ∃ s, (thL r.L a).S = s := ⟨_, rfl⟩
  obtain ⟨di, hdi⟩ : ∃ d, (thL r.L ti).dir = d := ⟨_, rfl⟩
  rw [hst] at c3 hS hSc hsz
  rw [hsae] at ca3 hSa hSca hsa HAT9
  rw [hdi] at c1 hZ
  obtain ⟨sl, hsl⟩ : ∃ sl, st.length = sl := ⟨_, rfl⟩
  obtain ⟨sal, hsal⟩ : ∃ sl, sa.length = sl := ⟨_, rfl⟩
  rw [hsl] at c3 hsz hSc
  rw [hsal] at ca3 hsa hSca
  have HST := Lib.hid hst
  have HSAE := Lib.hid hsae
  have HSL := Lib.hid hsl
  have HSAL := Lib.hid hsal
  have HS := Lib.hid hS
  have HSa := Lib.hid hSa
  have C1 := Lib.hid c1
  have C3 := Lib.hid c3
  have CA3 := Lib.hid ca3
  have HDI := Lib.hid hdi
  have HSZ := Lib.hid hsz.1
  have HLM := Lib.hid HW.out.len
  clear hN hT hst hsae hsl hsal hS hSa c1 c3 ca3 hk0 hi0 ha0 hdi
  go_enter Tryz.func25, Tryz.ntmps25
  go_wp2_with fail
  refine HWK.out.mono ?_
  rintro e w1 ⟨rfl, kk, hk⟩
  have HB1 := Lib.hid (show Below w.heap.size w w1 from hk ▸ bdraw w kk)
  clear hk
  go_wp2_with fail
  refine (HW2.out _ HB1.out).mono ?_
  rintro e w2 ⟨rfl, k2, hk2⟩
  have HB2 := Lib.hid (show Below w.heap.size w w2 from hk2 ▸ HB1.out.trans ((bdraw w1 k2).mono HB1.out.size))
  clear hk2
  have y0 : w2.cell? ⟨g, 0, none⟩ = some (.slice (some ⟨b, 0, none⟩) N cap) := blk_cell ((HB2.out.block g H.out.ltg).trans HT.out) 0
  have c1 := keepC HB2.out C1.out
  cases di with
  | false =>
    rw [if_pos rfl] at hZ
    have HZ := Lib.hid hZ
    clear hZ
    go_wp2
    go_ret
    exact rp_same HZ.out.symm rfl H.out HB2.out
  | true =>
  rw [if_neg (by simp)] at hZ
  go_wp2_with fail
  refine (HWP.out _ HB2.out).mono ?_
  rintro e w3 ⟨rfl, k3, hk3⟩
  have HB3 := Lib.hid (show Below w.heap.size w w3 from hk3 ▸ HB2.out.trans ((bdraw w2 k3).mono HB2.out.size))
  clear hk3 y0 c1
  have HZ0 := Lib.hid hZ
  clear hZ
  go_wp2_with fail
  go_loopw [14, 15, 16] (fun be se i wr => ∃ n d : Nat, be = .bool (decide (t < t2) && eqN (p ++ [x]) (p2 ++ [y]) n) ∧ se = .bool (decide (t2 = t) && eqN (p ++ [x]) (p2 ++ [y]) n) ∧ i = .int .i64 n ∧ n ≤ t ∧ n ≤ t2 ∧ Hid (wr = w3.drewN d)) (fun _ _ i _ => t - (intOf i).toNat)
  case atStart =>
    refine ⟨0, 0, ?_, ?_, rfl, by omega, by omega, Lib.hid rfl⟩
    · simp [eqN]
    · rw [show ((t2 : Int) == (t : Int)) = decide (t2 = t) from by by_cases h : t2 = t <;> simp [h] <;> omega]
      simp [eqN]
  case round =>
    obtain ⟨n, d, rfl, rfl, rfl, hn1, hn2', HD⟩ := hrel
    have hb4 : Below w.heap.size w wr := HD.out ▸ HB3.out.trans ((bdraw w3 d).mono HB3.out.size)
    have HB4 := Lib.hid hb4
    by_cases hx1 : n < t
    · have hx2 : n < t2 := by have := HCMP.out; omega
      have l1 : (n : Int) < t := by omega
      have l2 : (n : Int) < t2 := by omega
      have hes := eqN_step (l := p ++ [x]) (m := p2 ++ [y]) (i := n) (by rw [HT1.out]; exact hx1) (by rw [HT2.out]; exact hx2)
      have m1 := keepC hb4 (HC1.out n (by rw [HT1.out]; exact hx1))
      have m2 := keepC hb4 (HC2.out n (by rw [HT2.out]; exact hx2))
      obtain ⟨n1, hn1e⟩ : ∃ z, (p ++ [x])[n]'(by rw [HT1.out]; exact hx1) = z := ⟨_, rfl⟩
      obtain ⟨n2, hn2e⟩ : ∃ z, (p2 ++ [y])[n]'(by rw [HT2.out]; exact hx2) = z := ⟨_, rfl⟩
      rw [hn1e] at m1 hes
      rw [hn2e] at m2 hes
      have HES := Lib.hid hes
      clear hes hn1e hn2e hb4
      obtain ⟨B0, hB0⟩ : ∃ B, eqN (p ++ [x]) (p2 ++ [y]) n = B := ⟨_, rfl⟩
      rw [hB0]
      rw [hB0] at HES
      clear hB0
      have wn : IntKind.i64.wrap ((n : Int) + 1) = ((n + 1 : Nat) : Int) := by rw [IntKind.wrap_i64]; have e1 := HTQ.out; omega
      cases cn : (n1.toList == n2.toList) with
      | true =>
        have cn2 : (n1.toList != n2.toList) = false := by simp [bne, cn]
        go_wp2_with fail
        go_quiet (fail)
        go_wp2
        go_roundw
        · refine ⟨n + 1, d + nq, ?_, ?_, by go_num, by omega, by omega, Lib.hid ?_⟩
          · rw [HES.out, cn2]; simp
          · rw [HES.out, cn2]; simp
          · rw [HD.out, World.drewN_drewN]
        · simp [intOf]; omega
      | false =>
        have cn2 : (n1.toList != n2.toList) = true := by simp [bne, cn]
        go_wp2_with fail
        go_quiet (fail)
        go_wp2
        go_roundw
        · refine ⟨n + 1, d + nq, ?_, ?_, by go_num, by omega, by omega, Lib.hid ?_⟩
          · rw [HES.out, cn2]; simp
          · rw [HES.out, cn2]; simp
          · rw [HD.out, World.drewN_drewN]
        · simp [intOf]; omega
    · have hx3 : n = t := by omega
      have l1 : ¬ (n : Int) < t := by omega
      have hbe : (decide (t < t2) && eqN (p ++ [x]) (p2 ++ [y]) n) = (decide (q < q2) && eqN (p ++ [x]) (p2 ++ [y]) (q + 1)) := by
        have e1 := HTQ.out
        have e2 := HTQ2.out
        rw [show decide (t < t2) = decide (q < q2) from decide_eq_decide.2 (by omega), show n = q + 1 by omega]
      have hse : (decide (t2 = t) && eqN (p ++ [x]) (p2 ++ [y]) n) = (decide (q2 = q) && eqN (p ++ [x]) (p2 ++ [y]) (q + 1)) := by
        have e1 := HTQ.out
        have e2 := HTQ2.out
        rw [show decide (t2 = t) = decide (q2 = q) from decide_eq_decide.2 (by omega), show n = q + 1 by omega]
      rw [hbe, hse]
      clear hbe hse hb4
      have hZ := HZ0.out
      clear HZ0
      obtain ⟨be, hbe⟩ : ∃ z, (decide (q < q2) && eqN (p ++ [x]) (p2 ++ [y]) (q + 1)) = z := ⟨_, rfl⟩
      obtain ⟨se, hse⟩ : ∃ z, (decide (q2 = q) && eqN (p ++ [x]) (p2 ++ [y]) (q + 1)) = z := ⟨_, rfl⟩
      rw [hbe] at hZ ⊢
      rw [hse] at hZ ⊢
      clear hbe hse
      cases be with
      | true =>
        rw [if_pos rfl] at hZ
        have HZ := Lib.hid hZ
        clear hZ
        go_wp2
        go_ret
        exact rp_same HZ.out.symm rfl H.out HB4.out
      | false =>
      rw [if_neg (by simp)] at hZ
      cases se with
      | true =>
        rw [if_pos rfl] at hZ
        have HZ := Lib.hid hZ
        clear hZ
        go_wp2
        go_ret
        exact rp_same HZ.out.symm rfl H.out HB4.out
      | false =>
      rw [if_neg (by simp)] at hZ
      unfold renTail at hZ
      rw [HST.out] at hZ
      have y0 : wr.cell? ⟨g, 0, none⟩ = some (.slice (some ⟨b, 0, none⟩) N cap) := blk_cell ((HB4.out.block g H.out.ltg).trans HT.out) 0
      have c3 := keepC HB4.out C3.out
      have n2 := keepC HB4.out HNC2.out
      have HAT := Lib.hid (fun n => at_any y ((HS.out.below HB4.out).below (bdraw wr n)) (by rw [HSL.out]; exact hSc) (by rw [HSL.out]; have := HSZ.out; omega))
      rw [HSL.out] at HAT
      cases ha : atL st y with
      | some i =>
        rw [ha] at hZ HAT
        dsimp only at hZ
        rw [show atI (some i) = (i : Int) from rfl] at HAT
        have HA := Lib.hid ha
        have HZ := Lib.hid hZ
        clear hZ ha
        have ipos : (0 : Int) ≤ (i : Int) := by omega
        go_wp2_with fail
        go_quiet (first | (go_at_call 44; refine Calls.quiet_of (HAT.out _)) | fail)
        obtain ⟨w4, hw4⟩ : ∃ w4, wr.drewN nq = w4 := ⟨_, rfl⟩
        rw [hw4]
        have hb45 : Below wr.heap.size wr w4 := hw4 ▸ bdraw wr nq
        have HB5 := Lib.hid (HB4.out.trans (hb45.mono HB4.out.size))
        have v0 := keepC hb45 y0
        have v3 := keepC hb45 c3
        have vn := keepC HB5.out HNC.out
        have vn2 := keepC hb45 n2
        clear hw4 hb45 y0 c3 n2
        obtain ⟨e9, he9, hf9, -⟩ := atL_some HA.out
        have hil : i < sl := by rw [← HSL.out]; exact (List.getElem?_eq_some_iff.1 he9).1
        have hili : (i : Int) < (sl : Int) := by omega
        have hnx := walk_next HW.out HI0.out (x := y) (by rw [HST.out]; exact HA.out)
        rw [HST.out] at hnx
        obtain ⟨-, j, hj, hjl⟩ := hnx
        have hin : e9.f1 = (j : Int) + 1 := by rw [← hj]; unfold inoL; rw [List.getD_eq_getElem?_getD, he9, Option.getD_some]
        have hjn : (inoL st i - 1).toNat = j := by rw [hj]; omega
        have OK := OK2.out (by trivial) (by trivial) HDI.out i (by rw [HST.out]; exact HA.out)
        rw [HST.out, hjn] at OK
        rw [hjn] at HZ
        have OKH := Lib.hid OK
        obtain ⟨sb, so, rfl, -, s1⟩ := (HS.out.below HB5.out).cell i (by rw [HSL.out]; exact hil)
        obtain ⟨hge2, hge⟩ := List.getElem?_eq_some_iff.1 he9
        rw [hge, hin] at s1
        have HOV := Lib.hid (over_any k j (H.out.below HB5.out) HW.out (by omega) HK.out hjl)
        obtain ⟨E9, hE9⟩ : ∃ E9, overE (thL r.L k) (thL r.L j) = E9 := ⟨_, rfl⟩
        rw [hE9] at HOV HZ OKH
        have wj : IntKind.i64.wrap ((j : Int) + 1 - 1) = (j : Int) := by rw [IntKind.wrap_i64]; have := HLM.out; have := HN.out; omega
        have wj0 : IntKind.i64.wrap (j : Int) = (j : Int) := by rw [IntKind.wrap_i64]; have := HLM.out; have := HN.out; omega
        have HJL := Lib.hid hjl
        have HE9 := Lib.hid he9
        have HF9 := Lib.hid hf9
        clear hge2 HAT hj hjl he9 hf9 hin hjn hE9 OK hge vn vn2
        go_wp2_with fail
        refine HOV.out.mono ?_
        rintro e w5 ⟨rfl, hb5⟩
        have HB6 := Lib.hid (HB5.out.trans (hb5.mono HB5.out.size))
        clear hb5
        by_cases cE : E9 = 0
        case neg =>
          rw [if_pos cE] at HZ
          go_wp2
          go_ret
          exact rp_same HZ.out.symm rfl H.out HB6.out
        subst cE
        rw [if_neg (by simp)] at HZ
        obtain ⟨oj1, oj2⟩ := OKH.out (by trivial)
        clear OKH
        go_wp2_with fail
        refine (free_any j (H.out.below HB6.out) HW.out (by omega) HJL.out (by omega) (by omega)).mono ?_
        rintro e w6 ⟨rfl, b6, hf6, hb6, hz6, hl6⟩
        have hBw : B ≤ w.heap.size := by have := H.out.base; have := H.out.ltg; omega
        have HZ6 := Lib.hid ((H.out.fz0 HB6.out).trans hz6 (fun i hi => .inl hi))
        have HL6 := Lib.hid ((HB6.out.mono hBw).trans hl6)
        have hbb : b6 = b ∨ w.heap.size ≤ b6 := hb6.imp id (fun h => Nat.le_trans HB6.out.size h)
        have hkl6 : (r.L.set j noT).length = N := by rw [List.length_set]; exact HN.out
        have hth : thL (r.L.set j noT) ti = thL r.L ti := thL_set_ne _ (Ne.symm oj1)
        have HF6 := Lib.hid hf6
        obtain ⟨cap6, -, ht6⟩ := hf6.tree
        rw [hkl6] at ht6
        obtain ⟨BA6, bc6, SA6, sc6, -, -, -, z3, -, -, hS6, hSc6⟩ := hf6.thing ti _ (thL_get (by rw [hkl6]; exact i00))
        rw [hth, HST.out] at z3 hS6 hSc6
        rw [HSL.out] at z3 hSc6
        have hb67 : Below w6.heap.size w6 (w6.alloc (Obj.cells #[] 106)) := (Below.refl _ _).alloc (Nat.le_refl _) _
        have y0 := keepC hb67 (blk_cell ht6 0)
        have y3 := keepC hb67 z3
        have HOW := Lib.hid (own_empty w6 106 2)
        have HRC := Lib.hid (RdC.slots (hS6.below hb67))
        rw [HSL.out] at HRC
        have HB67 := Lib.hid hb67
        have HHTH := Lib.hid hth
        have hgb6 : g ≠ b6 := hf6.ne
        have hgb6' : b6 ≠ g := Ne.symm hgb6
        have HLG := Lib.hid hf6.ltg
        have HLB := Lib.hid hf6.ltb
        clear hf6 hb6 hz6 hl6 hth ht6 z3 hS6 hSc6 hb67 v0 v3 s1
        go_wp2_with
          (first
            | (with_reducible refine gate_builtin (b := .append) (xs := #[.tmp 149, .tmp 157]) rfl ?_
               refine wpList_own rfl (.tmp 149) (.tmp 157) 56 rfl w6.heap.size 106 _ 2 24 Tryz.underlying56 PPrf.info106 rfl (by decide) (by decide) (.slice (some ⟨w6.heap.size, 0, none⟩) 0 0) 0 [] SA6 sl sc6 (cellsS st) (by simp [Act.eval]) (by simp [Act.eval]) HOW.out HRC.out HB67.out.size (by have := HSZ.out; omega) ?_
               intro v7 w7 hown hg7 hat7
               have hb78 : Below w6.heap.size w6 w7 := below_own HB67.out HOW.out hg7
               have hos : OwnSl w7 w6.heap.size v7 st := by unfold OwnSl; rw [HSL.out]; simpa using hown
               obtain ⟨q7, cap7a, cur7, rfl, hq7, hql7, hqn7, hqh7, -, hqr7⟩ := hos.open (by rw [HSL.out]; omega)
               have sf := blk_frozen hqh7 (i * 2 + 1)
               obtain ⟨sb7, so7, se7, -, s17⟩ := hqr7.cell i (by rw [HSL.out]; exact hil)
               cases se7
               rw [Nat.zero_add] at s17
               have hq7g : q7 ≠ g := by have := HLG.out; omega
               have hq7b : q7 ≠ b6 := by have := HLB.out; omega
               have H7 := Lib.hid (HF6.out.below hb78)
               obtain ⟨cap8, -, ht8⟩ := H7.out.tree
               rw [hkl6] at ht8
               have u0 : w7.cell? ⟨g, 0, none⟩ = some (.slice (some ⟨b6, 0, none⟩) N cap8) := blk_cell ht8 0
               obtain ⟨cs8, hcs8, -⟩ := H7.out.row
               have uf := blk_frozen hcs8 (ti * 4 + 3)
               obtain ⟨BA8, bc8, SA8, sc8, -, -, -, u3, -⟩ := H7.out.thing ti _ (thL_get (by rw [hkl6]; exact i00))
               have wk : IntKind.i64.wrap ((k : Int) + 1) = (k : Int) + 1 := by rw [IntKind.wrap_i64]; have := HLM.out; have := HN.out; omega
               have HB78 := Lib.hid hb78
               have HOS7 := Lib.hid hos
               have HQ7 := Lib.hid hq7
               have HQN7 := Lib.hid hqn7
               rw [HSL.out]
               clear hown hg7 hat7 hb78 hos hqh7 ht8 hcs8 hqr7 hqn7)
            | fail)
        obtain ⟨w9, hw9⟩ : ∃ w9, (w7.setCell ⟨q7, i * 2 + 1, none⟩ (.int .i64 ((k : Int) + 1))).setCell ⟨b6, ti * 4 + 3, none⟩ (.slice (some ⟨q7, 0, none⟩) sl cap7a) = w9 := ⟨_, rfl⟩
        rw [hw9]
        have hbs := HF6.out.base
        have h7 : Rf2 w6 (w7.setCell ⟨q7, i * 2 + 1, none⟩ (.int .i64 ((k : Int) + 1))) B g b6 (r.L.set j noT) _ _ := (HF6.out.beloww HB78.out).keepw (Below.heap_setCell _ _ _ _ (Ne.symm hq7g)) (Below.heap_setCell _ _ _ _ (Ne.symm hq7b))
        have hz69 : Fz w6 (w7.setCell ⟨q7, i * 2 + 1, none⟩ (.int .i64 ((k : Int) + 1))) (Gb g b6) := Fz.new (HF6.out.fz0 HB78.out) HQ7.out _ _
        have h8 : Rf (w7.setCell ⟨q7, i * 2 + 1, none⟩ (.int .i64 ((k : Int) + 1))) B g b6 (r.L.set j noT) _ _ := h7.rows hz69
        have hrd := OwnSl.ino HOS7.out (by rw [HSL.out]; have := HSZ.out; omega) i e9 HE9.out ((k : Int) + 1)
        rw [HF9.out] at hrd
        have h9 := h8.slots ti (by rw [hkl6]; exact i00) (some ⟨q7, 0, none⟩) cap7a _ hrd (by rw [List.length_set]; exact HQN7.out)
        rw [List.length_set, HSL.out] at h9
        obtain ⟨LX, hLX⟩ : ∃ z, (r.L.set j noT).set ti { thL (r.L.set j noT) ti with S := st.set i ⟨y, (k : Int) + 1⟩ } = z := ⟨_, rfl⟩
        rw [hLX, hw9] at h9
        have HF := Lib.hid h9
        have hs6 := HZ6.out.size
        have HFz := Lib.hid (show Fz w w9 (Gb g b) from hw9 ▸ Fz.set_or (Fz.new (HZ6.out.row HB78.out) (Nat.le_trans hs6 HQ7.out) _ _) hbb _ _)
        have HFb := Lib.hid (show Below B w w9 from hw9 ▸ (((HL6.out.trans (HB78.out.mono (by omega))).setCell (by show B ≤ q7; have := HQ7.out; omega) _).setCell hbs.2 _))
        have hkl : LX.length = N := by rw [← hLX, List.length_set]; exact hkl6
        obtain ⟨sx, hsx⟩ : ∃ s, (thL LX a).S = s := ⟨_, rfl⟩
        have hboth : atL sx x = some i9 ∧ sx.length ≤ 1000000 := by
          rw [← hsx, ← hLX]
          by_cases e : a = ti
          · have hss : sa = st := by rw [← HSAE.out, ← HST.out, e]
            rw [e, thL_set_self _ (by rw [hkl6]; exact i00)]
            have h1 := atL_ino HE9.out ((k : Int) + 1) x
            rw [HF9.out] at h1
            have h2 := HAT9.out
            rw [hss] at h2
            exact ⟨h1.trans h2, by show (st.set i ⟨y, (k : Int) + 1⟩).length ≤ 1000000; rw [List.length_set, HSL.out]; have := HSZ.out; omega⟩
          · rw [thL_set_ne _ e, thL_set_ne _ (Ne.symm oj2), HSAE.out]
            exact ⟨HAT9.out, by rw [HSAL.out]; omega⟩
        obtain ⟨i7, hi7⟩ : ∃ i7, i9 = i7 := ⟨_, rfl⟩
        have HIX := Lib.hid hboth.1
        have hsxl := hboth.2
        rw [hi7] at HIX
        have HREP := Lib.hid (show repL r.L k ti a j i x y = LX.set a { thL LX a with S := sx.set i7 ⟨ByteArray.empty, 0⟩ } from by
          have htk : takeS sx x = sx.set i7 ⟨ByteArray.empty, 0⟩ := by unfold takeS; rw [HIX.out]
          unfold repL
          rw [HST.out, show setS (r.L.set j noT) ti (st.set i ⟨y, (k : Int) + 1⟩) = LX from hLX, hsx, htk]
          rfl)
        clear hw9 h7 hz69 h8 hrd h9 hboth hi7 hLX s17 sf u0 u3 uf
        obtain ⟨cap7, -, ht7⟩ := HF.out.tree
        rw [hkl] at ht7
        have v0 : w9.cell? ⟨g, 0, none⟩ = some (.slice (some ⟨b6, 0, none⟩) N cap7) := blk_cell ht7 0
        obtain ⟨BA7, bc7, SA7, sc7, -, -, -, v3, -, -, hS7, hSc7⟩ := HF.out.thing a _ (thL_get (by rw [hkl]; omega))
        rw [hsx] at v3 hS7 hSc7
        obtain ⟨l7, hl7⟩ : ∃ z, sx.length = z := ⟨_, rfl⟩
        rw [hl7] at v3 hSc7
        have vn := cell_str HFz.out HNC.out
        have hl7b : l7 ≤ 1000000 := by rw [← hl7]; exact hsxl
        have HTK := Lib.hid (fun W (hb : Below w9.heap.size w9 W) => take_any (c := sc7) x (hS7.below hb) (by rw [hl7]; exact hSc7) (by rw [hl7]; exact hl7b) HIX.out)
        rw [hl7] at HTK
        have HKS := Lib.hid (show ∀ W, Below w9.heap.size w9 W → (fun W : World => W.cell? ⟨g, 0, none⟩ = some (.slice (some ⟨b6, 0, none⟩) N cap7) ∧ W.cell? ⟨b6, a * 4 + 3, none⟩ = some (.slice SA7 l7 sc7) ∧ W.cell? ⟨nb, no + q, none⟩ = some (.string x)) W from fun W hb => ⟨keepC hb v0, keepC hb v3, keepC hb vn⟩)
        have HK0 := Lib.hid (kp0 (T := (fun W : World => W.cell? ⟨g, 0, none⟩ = some (.slice (some ⟨b6, 0, none⟩) N cap7) ∧ W.cell? ⟨b6, a * 4 + 3, none⟩ = some (.slice SA7 l7 sc7) ∧ W.cell? ⟨nb, no + q, none⟩ = some (.string x))) HKS.out)
        have hne4 : g ≠ b6 := HF.out.ne
        have hne4' : b6 ≠ g := Ne.symm hne4
        have HL7 := Lib.hid hl7
        have hi7 : i7 < l7 := by rw [← hl7]; obtain ⟨e, he, -⟩ := atL_some HIX.out; exact (List.getElem?_eq_some_iff.1 he).1
        clear ht7 hS7 v0 v3 vn hl7
        go_wp2_with fail
        go_region_held3 (fun W : World => Below w9.heap.size w9 W ∧ W.cell? ⟨g, 0, none⟩ = some (.slice (some ⟨b6, 0, none⟩) N cap7) ∧ W.cell? ⟨b6, a * 4 + 3, none⟩ = some (.slice SA7 l7 sc7) ∧ W.cell? ⟨nb, no + q, none⟩ = some (.string x)) (first | exact kpC (T := (fun W : World => W.cell? ⟨g, 0, none⟩ = some (.slice (some ⟨b6, 0, none⟩) N cap7) ∧ W.cell? ⟨b6, a * 4 + 3, none⟩ = some (.slice SA7 l7 sc7) ∧ W.cell? ⟨nb, no + q, none⟩ = some (.string x))) (by assumption) (by assumption) HKS.out | exact kp1 (T := (fun W : World => W.cell? ⟨g, 0, none⟩ = some (.slice (some ⟨b6, 0, none⟩) N cap7) ∧ W.cell? ⟨b6, a * 4 + 3, none⟩ = some (.slice SA7 l7 sc7) ∧ W.cell? ⟨nb, no + q, none⟩ = some (.string x))) (by first | assumption | exact HK0.out) HKS.out | assumption)
          (first
            | (go_at_call 52
               refine (HTK.out _ (And.left (by assumption))).mono ?_
               rintro e w8 ⟨v, z, rfl, hos, hb⟩
               have HOS := Lib.hid hos
               clear hos)
            | fail)
        have HB8 := Lib.hid (And.left (by assumption : Below w9.heap.size w9 w8 ∧ _))
        obtain ⟨A8, c8, rfl, hr8, hc8⟩ := OwnSl.reads HOS.out
        have HF8 := Lib.hid (HF.out.below HB8.out)
        obtain ⟨cap8, -, ht8⟩ := HF8.out.tree
        rw [hkl] at ht8
        have u0 : w8.cell? ⟨g, 0, none⟩ = some (.slice (some ⟨b6, 0, none⟩) N cap8) := blk_cell ht8 0
        obtain ⟨BA8, bc8, SA8, sc8, -, -, -, u3, -⟩ := HF8.out.thing a _ (thL_get (by rw [hkl]; omega))
        obtain ⟨cs8, hcs8, -⟩ := HF8.out.row
        have uf := blk_frozen hcs8 (a * 4 + 3)
        have h9 := HF8.out.slots a (by rw [hkl]; omega) A8 c8 _ hr8 hc8
        rw [List.length_set] at h9
        have H9 := Lib.hid h9
        have hb' := And.right (by assumption : Below w9.heap.size w9 w8 ∧ _)
        clear hr8 hc8 ht8 hcs8 hb hb' h9
        go_wp2
        go_ret
        have h9 := H9.out
        rw [← HZ.out]
        refine ⟨rfl, b6, ?_, hbb, ?_, ?_⟩
        · show Rf _ B g _ (repL r.L k ti a j i x y) _ _
          rw [HREP.out]
          exact h9
        · exact Fz.set_or (HFz.out.row HB8.out) hbb _ _
        · exact (HFb.out.trans (HB8.out.mono (by have := HF.out.base; have := HF.out.ltg; omega))).setCell HF.out.base.2 _
      | none =>
        rw [ha] at hZ HAT
        dsimp only at hZ
        rw [show atI none = -1 from rfl] at HAT
        have HA := Lib.hid ha
        have HZ := Lib.hid hZ
        clear hZ ha
        go_wp2_with fail
        go_quiet (first | (go_at_call 44; refine Calls.quiet_of (HAT.out _)) | fail)
        obtain ⟨w4, hw4⟩ : ∃ w4, wr.drewN nq = w4 := ⟨_, rfl⟩
        rw [hw4]
        have hb45 : Below wr.heap.size wr w4 := hw4 ▸ bdraw wr nq
        have HB5 := Lib.hid (HB4.out.trans (hb45.mono HB4.out.size))
        have v0 := keepC hb45 y0
        have v3 := keepC hb45 c3
        have vn := keepC HB5.out HNC.out
        have vn2 := keepC hb45 n2
        clear hw4 hb45 y0 c3 n2
        by_cases hat : a = ti
        · rw [if_pos hat] at HZ
          have hyx := OK3.out hat (by rw [HST.out]; exact HA.out) (by trivial)
          have hss : sa = st := by rw [← HSAE.out, ← HST.out, hat]
          have HAT9' := Lib.hid HAT9.out
          rw [hss] at HAT9'
          obtain ⟨e9, he9, hf9, -⟩ := atL_some HAT9'.out
          have hati : (a : Int) = (ti : Int) := by omega
          have hi9 : i9 < sl := by rw [← HSL.out]; exact (List.getElem?_eq_some_iff.1 he9).1
          have hmvS : moveS st x y = st.set i9 ⟨y, e9.f1⟩ := by
            unfold moveS
            rw [HAT9'.out]
            dsimp only
            unfold inoL
            rw [List.getD_eq_getElem?_getD, he9, Option.getD_some]
          have HMS := Lib.hid hmvS
          have HMV := Lib.hid (fun W (hb : Below w4.heap.size w4 W) => move_any (c := sc) x y ((HS.out.below HB5.out).below hb) (by rw [HSL.out]; exact hSc) (by rw [HSL.out]; have := HSZ.out; omega) HAT9'.out he9 hy hyx HA.out)
          rw [HSL.out] at HMV
          clear hss hyx hmvS HAT
          have HKS := Lib.hid (show ∀ W, Below w4.heap.size w4 W → (fun W : World => W.cell? ⟨g, 0, none⟩ = some (.slice (some ⟨b, 0, none⟩) N cap) ∧ W.cell? ⟨b, ti * 4 + 3, none⟩ = some (.slice SA sl sc) ∧ W.cell? ⟨nb, no + q, none⟩ = some (.string x) ∧ W.cell? ⟨nb2, no2 + q2, none⟩ = some (.string y)) W from fun W hb => ⟨keepC hb v0, keepC hb v3, keepC hb vn, keepC hb vn2⟩)
          have HK0 := Lib.hid (kp0 (T := (fun W : World => W.cell? ⟨g, 0, none⟩ = some (.slice (some ⟨b, 0, none⟩) N cap) ∧ W.cell? ⟨b, ti * 4 + 3, none⟩ = some (.slice SA sl sc) ∧ W.cell? ⟨nb, no + q, none⟩ = some (.string x) ∧ W.cell? ⟨nb2, no2 + q2, none⟩ = some (.string y))) HKS.out)
          clear v0 v3 vn vn2
          go_wp2_with fail
          go_region_held3 (fun W : World => Below w4.heap.size w4 W ∧ W.cell? ⟨g, 0, none⟩ = some (.slice (some ⟨b, 0, none⟩) N cap) ∧ W.cell? ⟨b, ti * 4 + 3, none⟩ = some (.slice SA sl sc) ∧ W.cell? ⟨nb, no + q, none⟩ = some (.string x) ∧ W.cell? ⟨nb2, no2 + q2, none⟩ = some (.string y)) (first | exact kpC (T := (fun W : World => W.cell? ⟨g, 0, none⟩ = some (.slice (some ⟨b, 0, none⟩) N cap) ∧ W.cell? ⟨b, ti * 4 + 3, none⟩ = some (.slice SA sl sc) ∧ W.cell? ⟨nb, no + q, none⟩ = some (.string x) ∧ W.cell? ⟨nb2, no2 + q2, none⟩ = some (.string y))) (by assumption) (by assumption) HKS.out | exact kp1 (T := (fun W : World => W.cell? ⟨g, 0, none⟩ = some (.slice (some ⟨b, 0, none⟩) N cap) ∧ W.cell? ⟨b, ti * 4 + 3, none⟩ = some (.slice SA sl sc) ∧ W.cell? ⟨nb, no + q, none⟩ = some (.string x) ∧ W.cell? ⟨nb2, no2 + q2, none⟩ = some (.string y))) (by first | assumption | exact HK0.out) HKS.out | assumption)
            (first
              | (go_at_call 54
                 refine (HMV.out _ (And.left (by assumption))).mono ?_
                 rintro e w8 ⟨v, rfl, hos, hb⟩
                 have HOS := Lib.hid hos
                 clear hos)
              | fail)
          have HB8 := Lib.hid (And.left (by assumption : Below w4.heap.size w4 w8 ∧ _))
          have HB9 := Lib.hid (HB5.out.trans (HB8.out.mono HB5.out.size))
          obtain ⟨A8, c8, rfl, hr8, hc8⟩ := OwnSl.reads HOS.out
          have HF8 := Lib.hid (H.out.below HB9.out)
          obtain ⟨cap8, -, ht8⟩ := HF8.out.tree
          rw [HN.out] at ht8
          have u0 : w8.cell? ⟨g, 0, none⟩ = some (.slice (some ⟨b, 0, none⟩) N cap8) := blk_cell ht8 0
          obtain ⟨BA8, bc8, SA8, sc8, -, -, -, u3, -⟩ := HF8.out.thing ti _ (thL_get HI0.out)
          obtain ⟨cs8, hcs8, -⟩ := HF8.out.row
          have uf := blk_frozen hcs8 (ti * 4 + 3)
          have h9 := HF8.out.slots ti HI0.out A8 c8 _ hr8 hc8
          rw [List.length_set] at h9
          have H9 := Lib.hid h9
          have hne4 : g ≠ b := H.out.ne
          have hne4' : b ≠ g := Ne.symm hne4
          have hb' := And.right (by assumption : Below w4.heap.size w4 w8 ∧ _)
          clear hr8 hc8 ht8 hcs8 hb hb' h9
          go_wp2
          go_ret
          have h9 := H9.out
          rw [← HZ.out, HMS.out]
          refine ⟨rfl, b, ?_, .inl rfl, ?_, ?_⟩
          · exact h9
          · exact Fz.set (H.out.fz0 HB9.out) _ _ _ (.inr rfl)
          · have hB : B ≤ w.heap.size := by have := H.out.base; have := H.out.ltg; omega
            exact (HB9.out.mono hB).setCell H.out.base.2 _
        rw [if_neg hat] at HZ
        have hati : ¬ (a : Int) = (ti : Int) := by omega
        have wk : IntKind.i64.wrap ((k : Int) + 1) = (k : Int) + 1 := by rw [IntKind.wrap_i64]; have := HLM.out; have := HN.out; omega
        have hk9 : (1 : Int) ≤ (k : Int) + 1 ∧ (k : Int) + 1 ≤ 65535 := by have := HLM.out; have := HN.out; omega
        have HPUT := Lib.hid (fun W (hb : Below w4.heap.size w4 W) => put_any (c := sc) y ((k : Int) + 1) ((HS.out.below HB5.out).below hb) (by rw [HSL.out]; exact hSc) (by rw [HSL.out]; have := HSZ.out; omega) hy hk9 HA.out)
        rw [HSL.out] at HPUT
        have HK9 := Lib.hid hk9
        clear HAT hk9
        have HKS := Lib.hid (show ∀ W, Below w4.heap.size w4 W → (fun W : World => W.cell? ⟨g, 0, none⟩ = some (.slice (some ⟨b, 0, none⟩) N cap) ∧ W.cell? ⟨b, ti * 4 + 3, none⟩ = some (.slice SA sl sc) ∧ W.cell? ⟨nb2, no2 + q2, none⟩ = some (.string y)) W from fun W hb => ⟨keepC hb v0, keepC hb v3, keepC hb vn2⟩)
        have HK0 := Lib.hid (kp0 (T := (fun W : World => W.cell? ⟨g, 0, none⟩ = some (.slice (some ⟨b, 0, none⟩) N cap) ∧ W.cell? ⟨b, ti * 4 + 3, none⟩ = some (.slice SA sl sc) ∧ W.cell? ⟨nb2, no2 + q2, none⟩ = some (.string y))) HKS.out)
        clear v0 v3 vn vn2
        go_wp2_with fail
        go_region_held3 (fun W : World => Below w4.heap.size w4 W ∧ W.cell? ⟨g, 0, none⟩ = some (.slice (some ⟨b, 0, none⟩) N cap) ∧ W.cell? ⟨b, ti * 4 + 3, none⟩ = some (.slice SA sl sc) ∧ W.cell? ⟨nb2, no2 + q2, none⟩ = some (.string y)) (first | exact kpC (T := (fun W : World => W.cell? ⟨g, 0, none⟩ = some (.slice (some ⟨b, 0, none⟩) N cap) ∧ W.cell? ⟨b, ti * 4 + 3, none⟩ = some (.slice SA sl sc) ∧ W.cell? ⟨nb2, no2 + q2, none⟩ = some (.string y))) (by assumption) (by assumption) HKS.out | exact kp1 (T := (fun W : World => W.cell? ⟨g, 0, none⟩ = some (.slice (some ⟨b, 0, none⟩) N cap) ∧ W.cell? ⟨b, ti * 4 + 3, none⟩ = some (.slice SA sl sc) ∧ W.cell? ⟨nb2, no2 + q2, none⟩ = some (.string y))) (by first | assumption | exact HK0.out) HKS.out | assumption)
          (first
            | (go_at_call 45
               refine (HPUT.out _ (And.left (by assumption))).mono ?_
               rintro e w5 ⟨v, z, rfl, hos, hb⟩
               have HOS := Lib.hid hos
               clear hos)
            | fail)
        have HB6 := Lib.hid (And.left (by assumption : Below w4.heap.size w4 w5 ∧ _))
        obtain ⟨-, a0, a3, -⟩ := (by assumption : Below w4.heap.size w4 w5 ∧ w5.cell? ⟨g, 0, none⟩ = some (.slice (some ⟨b, 0, none⟩) N cap) ∧ w5.cell? ⟨b, ti * 4 + 3, none⟩ = some (.slice SA sl sc) ∧ w5.cell? ⟨nb2, no2 + q2, none⟩ = some (.string y))
        obtain ⟨A8, c8, rfl, hr8, hc8⟩ := OwnSl.reads HOS.out
        have HBT := Lib.hid (HB5.out.trans (HB6.out.mono HB5.out.size))
        have hpl := putL_len st y ((k : Int) + 1)
        rw [HSL.out] at hpl
        have hsz1 := HSZ.out
        have HN1 := Lib.hid (fun n => need_any (W := w5.drewN n) (c := c8) (hr8.below (bdraw w5 n)) hc8 (by omega))
        have HN2 := Lib.hid (fun n => need_any (W := w5.drewN n) (c := sc) ((HS.out.below HBT.out).below (bdraw w5 n)) (by rw [HSL.out]; exact hSc) (by rw [HSL.out]; omega))
        rw [HSL.out] at HN2
        have HZ2 := Lib.hid HZ.out
        unfold moreN at HZ2
        rw [HST.out] at HZ2
        unfold needL at HZ2
        have wa1 := Qb.allB_le (slotsL (putL st y ((k : Int) + 1)) * 512)
        have wa2 := Qb.allB_le (slotsL st * 512)
        obtain ⟨n1, hn1⟩ : ∃ n1, allB (slotsL (putL st y ((k : Int) + 1)) * 512) = n1 := ⟨_, rfl⟩
        obtain ⟨n2, hn2⟩ : ∃ n2, allB (slotsL st * 512) = n2 := ⟨_, rfl⟩
        rw [hn1] at HN1 HZ2 wa1
        rw [hn2] at HN2 HZ2 wa2
        obtain ⟨pl, hpe⟩ : ∃ pl, (putL st y ((k : Int) + 1)).length = pl := ⟨_, rfl⟩
        have HPE := Lib.hid hpe
        rw [hpe] at HN1
        have HR8 := Lib.hid hr8
        have HC8 := Lib.hid hc8
        have ht5 : w5.heap[g]? = some (Obj.cells #[.slice (some ⟨b, 0, none⟩) N cap, .int .i64 r.n, .int .i64 r.m] 61) := (HBT.out.block g H.out.ltg).trans HT.out
        have g1 : w5.cell? ⟨g, 1, none⟩ = some (.int .i64 r.n) := blk_cell ht5 1
        have f1 := blk_frozen ht5 1
        obtain ⟨cs5, hcs5, -⟩ := (H.out.below HBT.out).row
        have uf := blk_frozen hcs5 (ti * 4 + 3)
        have wm : IntKind.i64.wrap ((n1 : Int) - (n2 : Int)) = (n1 : Int) - (n2 : Int) := by rw [IntKind.wrap_i64]; omega
        have wm2 : IntKind.i64.wrap (r.n - ((n1 : Int) - (n2 : Int))) = r.n - ((n1 : Int) - (n2 : Int)) := by rw [IntKind.wrap_i64]; omega
        have hb' := And.right (by assumption : Below w4.heap.size w4 w5 ∧ _)
        clear hn1 hn2 hpe hpl hr8 hc8 ht5 hcs5 hb hb' HOS HZ hsz1
        rw [HPE.out]
        go_wp2_with fail
        go_quiet (first | (go_at_call 46; first | refine Calls.quiet_of (HN1.out _) | refine Calls.quiet_of (HN2.out _)) | fail)
        have HBQ := Lib.hid (show Below w.heap.size w (w5.drewN nq) from HBT.out.trans ((bdraw w5 nq).mono HBT.out.size))
        by_cases mF : r.n < (n1 : Int) - (n2 : Int)
        · rw [if_pos mF] at HZ2
          have HZ := Lib.hid HZ2.out
          clear HZ2
          go_wp2
          go_ret
          exact rp_same HZ.out.symm rfl H.out HBQ.out
        rw [if_neg mF] at HZ2
        have HZ := Lib.hid HZ2.out
        clear HZ2
        have hne4 : g ≠ b := H.out.ne
        have hne4' : b ≠ g := Ne.symm hne4
        go_wp2_with fail
        obtain ⟨w7, hw7⟩ : ∃ w7, ((w5.drewN nq).setCell ⟨g, 1, none⟩ (.int .i64 (r.n - ((n1 : Int) - (n2 : Int))))).setCell ⟨b, ti * 4 + 3, none⟩ (.slice A8 pl c8) = w7 := ⟨_, rfl⟩
        rw [hw7]
        have h7 := ((H.out.below HBQ.out).num1 (r.n - ((n1 : Int) - (n2 : Int)))).slots ti HI0.out A8 c8 _ (RdSl.fz (HR8.out.below (bdraw w5 nq)) (Fz.set (X := Gb g b) (Fz.of_below (Below.refl _ _) _ (H.out.below HBQ.out).cl) g 1 _ (.inl rfl))) HC8.out
        obtain ⟨LX, hLX⟩ : ∃ z, r.L.set ti { thL r.L ti with S := putL st y ((k : Int) + 1) } = z := ⟨_, rfl⟩
        rw [HPE.out, hw7, hLX] at h7
        have HF := Lib.hid h7
        have hBw : B ≤ w.heap.size := by have := H.out.base; have := H.out.ltg; omega
        have HFz := Lib.hid (show Fz w w7 (Gb g b) from hw7 ▸ Fz.set (Fz.set (H.out.fz0 HBQ.out) g 1 _ (.inl rfl)) b _ _ (.inr rfl))
        have HFb := Lib.hid (show Below B w w7 from hw7 ▸ ((HBQ.out.mono hBw).setCell H.out.base.1 _).setCell H.out.base.2 _)
        have hkl : LX.length = N := by rw [← hLX, List.length_set]; exact HN.out
        have hsx : (thL LX a).S = sa := by rw [← hLX, thL_set_ne _ hat]; exact HSAE.out
        obtain ⟨i7, hi7⟩ : ∃ i7, i9 = i7 := ⟨_, rfl⟩
        have HIX := Lib.hid HAT9.out
        rw [hi7] at HIX
        have HREP := Lib.hid (show newL r.L k ti a x y = LX.set a { thL LX a with S := sa.set i7 ⟨ByteArray.empty, 0⟩ } from by
          have htk : takeS sa x = sa.set i7 ⟨ByteArray.empty, 0⟩ := by unfold takeS; rw [HIX.out]
          unfold newL
          rw [HST.out, HSAE.out, htk, show setS r.L ti (putL st y ((k : Int) + 1)) = LX from hLX]
          rfl)
        have hsxl : sa.length ≤ 1000000 := by rw [HSAL.out]; omega
        clear hw7 h7 HN1 HN2 hi7 a0 a3 g1 f1 uf hLX
        obtain ⟨cap7, -, ht7⟩ := HF.out.tree
        rw [hkl] at ht7
        have v0 : w7.cell? ⟨g, 0, none⟩ = some (.slice (some ⟨b, 0, none⟩) N cap7) := blk_cell ht7 0
        obtain ⟨BA7, bc7, SA7, sc7, -, -, -, v3, -, -, hS7, hSc7⟩ := HF.out.thing a _ (thL_get (by rw [hkl]; omega))
        rw [hsx] at v3 hS7 hSc7
        obtain ⟨l7, hl7⟩ : ∃ z, sa.length = z := ⟨_, rfl⟩
        rw [hl7] at v3 hSc7
        have vn := cell_str HFz.out HNC.out
        have hl7b : l7 ≤ 1000000 := by rw [← hl7]; exact hsxl
        have HTK := Lib.hid (fun W (hb : Below w7.heap.size w7 W) => take_any (c := sc7) x (hS7.below hb) (by rw [hl7]; exact hSc7) (by rw [hl7]; exact hl7b) HIX.out)
        rw [hl7] at HTK
        have HKS := Lib.hid (show ∀ W, Below w7.heap.size w7 W → (fun W : World => W.cell? ⟨g, 0, none⟩ = some (.slice (some ⟨b, 0, none⟩) N cap7) ∧ W.cell? ⟨b, a * 4 + 3, none⟩ = some (.slice SA7 l7 sc7) ∧ W.cell? ⟨nb, no + q, none⟩ = some (.string x)) W from fun W hb => ⟨keepC hb v0, keepC hb v3, keepC hb vn⟩)
        have HK0 := Lib.hid (kp0 (T := (fun W : World => W.cell? ⟨g, 0, none⟩ = some (.slice (some ⟨b, 0, none⟩) N cap7) ∧ W.cell? ⟨b, a * 4 + 3, none⟩ = some (.slice SA7 l7 sc7) ∧ W.cell? ⟨nb, no + q, none⟩ = some (.string x))) HKS.out)
        have hne4 : g ≠ b := HF.out.ne
        have hne4' : b ≠ g := Ne.symm hne4
        have HL7 := Lib.hid hl7
        have hi7 : i7 < l7 := by rw [← hl7]; obtain ⟨e, he, -⟩ := atL_some HIX.out; exact (List.getElem?_eq_some_iff.1 he).1
        clear ht7 hS7 v0 v3 vn hl7
        go_wp2_with fail
        go_region_held3 (fun W : World => Below w7.heap.size w7 W ∧ W.cell? ⟨g, 0, none⟩ = some (.slice (some ⟨b, 0, none⟩) N cap7) ∧ W.cell? ⟨b, a * 4 + 3, none⟩ = some (.slice SA7 l7 sc7) ∧ W.cell? ⟨nb, no + q, none⟩ = some (.string x)) (first | exact kpC (T := (fun W : World => W.cell? ⟨g, 0, none⟩ = some (.slice (some ⟨b, 0, none⟩) N cap7) ∧ W.cell? ⟨b, a * 4 + 3, none⟩ = some (.slice SA7 l7 sc7) ∧ W.cell? ⟨nb, no + q, none⟩ = some (.string x))) (by assumption) (by assumption) HKS.out | exact kp1 (T := (fun W : World => W.cell? ⟨g, 0, none⟩ = some (.slice (some ⟨b, 0, none⟩) N cap7) ∧ W.cell? ⟨b, a * 4 + 3, none⟩ = some (.slice SA7 l7 sc7) ∧ W.cell? ⟨nb, no + q, none⟩ = some (.string x))) (by first | assumption | exact HK0.out) HKS.out | assumption)
          (first
            | (go_at_call 52
               refine (HTK.out _ (And.left (by assumption))).mono ?_
               rintro e w8 ⟨v, z, rfl, hos, hb⟩
               have HOS := Lib.hid hos
               clear hos)
            | fail)
        have HB8 := Lib.hid (And.left (by assumption : Below w7.heap.size w7 w8 ∧ _))
        obtain ⟨A8, c8, rfl, hr8, hc8⟩ := OwnSl.reads HOS.out
        have HF8 := Lib.hid (HF.out.below HB8.out)
        obtain ⟨cap8, -, ht8⟩ := HF8.out.tree
        rw [hkl] at ht8
        have u0 : w8.cell? ⟨g, 0, none⟩ = some (.slice (some ⟨b, 0, none⟩) N cap8) := blk_cell ht8 0
        obtain ⟨BA8, bc8, SA8, sc8, -, -, -, u3, -⟩ := HF8.out.thing a _ (thL_get (by rw [hkl]; omega))
        obtain ⟨cs8, hcs8, -⟩ := HF8.out.row
        have uf := blk_frozen hcs8 (a * 4 + 3)
        have h9 := HF8.out.slots a (by rw [hkl]; omega) A8 c8 _ hr8 hc8
        rw [List.length_set] at h9
        have H9 := Lib.hid h9
        have hb' := And.right (by assumption : Below w7.heap.size w7 w8 ∧ _)
        clear hr8 hc8 ht8 hcs8 hb hb' h9
        go_wp2
        go_ret
        have h9 := H9.out
        rw [← HZ.out]
        refine ⟨rfl, b, ?_, (.inl rfl), ?_, ?_⟩
        · show Rf _ B g _ (newL r.L k ti a x y) _ _
          rw [HREP.out]
          exact h9
        · exact Fz.set_or (HFz.out.row HB8.out) (.inl rfl) _ _
        · exact (HFb.out.trans (HB8.out.mono (by have := HF.out.base; have := HF.out.ltg; omega))).setCell HF.out.base.2 _
end Go.Proofs.YtpdcjdangnfeiaaGreatDoor.Rc
end
