/- The reference's remove walked: Unlink, Rmdir. The reference's over walked; two ways compared, name by name. The reference's rename in plain words. No program in sight. -/
import Derived.Test.YtpdcjdangnfeiaaGreatDoorZe
section
open Go Go.RowKit Go.Proofs.YtpdcjdangnfeiaaGreatDoor.Pb Go.Proofs.YtpdcjdangnfeiaaGreatDoor.PPrf Go.Proofs.YtpdcjdangnfeiaaGreatDoorW.PrintWords Go.Proofs.YtpdcjdangnfeiaaGreatDoorW.PrintLast Go.Proofs.YtpdcjdangnfeiaaGreatDoorW.PrintMore Go.Proofs.YtpdcjdangnfeiaaGreatDoor.Qa Go.Proofs.YtpdcjdangnfeiaaGreatDoor.Tb Go.Proofs.YtpdcjdangnfeiaaGreatDoor.Rb Go.Proofs.YtpdcjdangnfeiaaGreatDoor.Ba Go.Proofs.YtpdcjdangnfeiaaGreatDoor.Rd Go.Proofs.YtpdcjdangnfeiaaGreatDoor.Te Go.Proofs.YtpdcjdangnfeiaaGreatDoor.Rq Go.Proofs.YtpdcjdangnfeiaaGreatDoor.Ui
namespace Go.Proofs.YtpdcjdangnfeiaaGreatDoor.Rc
def takeS (S : List S106) (x : ByteArray) : List S106 := match atL S x with
  | some i => S.set i ⟨ByteArray.empty, 0⟩
  | none => []
/-- A thing that was removed from its directory. -/
def remL (L : List T) (k at_ : Nat) (x : ByteArray) : List T := (L.set k noT).set at_ { thL (L.set k noT) at_ with S := takeS (thL (L.set k noT) at_).S x }
def removeR2 (r : RS) (p : List ByteArray) (x : ByteArray) (d : Bool) : RS × Int :=
  if (walkL r.L 0 (p ++ [x])).2 ≠ 0 then (r, (walkL r.L 0 (p ++ [x])).2) else
  if d = true ∧ (thL r.L (walkL r.L 0 (p ++ [x])).1).dir = false then (r, 11) else
  if d = false ∧ (thL r.L (walkL r.L 0 (p ++ [x])).1).dir = true then (r, 10) else
  if d = true ∧ nmR (thL r.L (walkL r.L 0 (p ++ [x])).1).S ≠ [] then (r, 13) else
  (⟨remL r.L (walkL r.L 0 (p ++ [x])).1 (walkL r.L 0 p).1 x, r.n + blocksT (thL r.L (walkL r.L 0 (p ++ [x])).1), r.m + 1⟩, 0)
set_option maxHeartbeats 8000000 in
set_option maxRecDepth 100000 in
/-- (*Tree).remove of the root. -/
theorem remove_root {w : World} {B g b M : Nat} {r : RS} (A : Option Addr) (c : Nat) (d : Bool) (h : Rf w B g b r.L r.n r.m) (hw : WfL r.L M) (hM : M ≤ 50000) (hdir : (thL r.L 0).dir = true) :
    Calls Tryz.prog 24 #[.pointer (some ⟨g, 0, none⟩), .slice A 0 c, .bool d] w (RP w B g b (r, if d then 13 else 10)) := by
  have HWK := Lib.hid (walk_any A c [] h hw (by omega) ⟨rfl, by simp, fun h => absurd h (by simp)⟩ (by simp))
  have e0 : walkL r.L 0 [] = (0, 0) := rfl
  rw [e0] at HWK
  dsimp only at HWK
  have H := Lib.hid h
  obtain ⟨N, hN⟩ : ∃ N, r.L.length = N := ⟨_, rfl⟩
  have i0 : (0 : Int) < (N : Int) := by have := h.pos; omega
  have i00 : 0 < N := by omega
  obtain ⟨cap, -, hT⟩ := h.tree
  rw [hN] at hT
  have y0 : w.cell? ⟨g, 0, none⟩ = some (.slice (some ⟨b, 0, none⟩) N cap) := blk_cell hT 0
  obtain ⟨BA, bc, SA, sc, -, c1, -⟩ := h.thing 0 _ (thL_get h.pos)
  rw [hdir] at c1
  clear h hw hN hT hdir e0
  cases d with
  | true =>
    go_enter Tryz.func24, Tryz.ntmps24
    go_wp2_with (first | (go_at_call 43; refine HWK.out.mono ?_; rintro e w1 ⟨rfl, kk, rfl⟩) | fail)
    go_ret
    exact rp_same rfl rfl H.out (bdraw w kk)
  | false =>
    go_enter Tryz.func24, Tryz.ntmps24
    go_wp2_with (first | (go_at_call 43; refine HWK.out.mono ?_; rintro e w1 ⟨rfl, kk, rfl⟩) | fail)
    go_ret
    exact rp_same rfl rfl H.out (bdraw w kk)
/-- What becomes of the directory's slots. -/
theorem rem_get {L : List T} {k a : Nat} (hne : a ≠ k) : thL (L.set k noT) a = thL L a := by
  unfold thL
  rw [List.getD_eq_getElem?_getD, List.getD_eq_getElem?_getD, List.getElem?_set_ne (Ne.symm hne)]
set_option maxHeartbeats 8000000 in
set_option maxRecDepth 100000 in
/-- (*Tree).remove -/
theorem remove_any {w : World} {B g b M : Nat} {r : RS} (A : Option Addr) (c : Nat) (p : List ByteArray) (x : ByteArray) (d : Bool) (h : Rf w B g b r.L r.n r.m) (hw : WfL r.L M) (hM : M ≤ 50000) (hl : RdN w A (p ++ [x])) (hn : p.length ≤ 900) (hc : (p ++ [x]).length ≤ c)
    (hnn : 0 ≤ r.n ∧ r.n ≤ 900000000) (hmm : 0 ≤ r.m ∧ r.m ≤ 900000000)
    (hat : (walkL r.L 0 (p ++ [x])).2 = 0 → (walkL r.L 0 p).1 ≠ (walkL r.L 0 (p ++ [x])).1 ∧ ∃ i, atL (thL r.L (walkL r.L 0 p).1).S x = some i) :
    Calls Tryz.prog 24 #[.pointer (some ⟨g, 0, none⟩), .slice A (p ++ [x]).length c, .bool d] w (RP w B g b (removeR2 r p x d)) := by
  obtain ⟨Z, hZ⟩ : ∃ Z, removeR2 r p x d = Z := ⟨_, rfl⟩
  rw [hZ]
  obtain ⟨q, hq⟩ : ∃ q, p.length = q := ⟨_, rfl⟩
  obtain ⟨t, ht⟩ : ∃ t, (p ++ [x]).length = t := ⟨_, rfl⟩
  have htq : t = q + 1 := by rw [← ht, List.length_append, hq]; rfl
  have hrun := take_names A c t q (by omega) (by omega) (p ++ [x]) ht
  have hcell := hl.cell q (by rw [ht]; omega)
  have hget : (p ++ [x])[q]'(by rw [ht]; omega) = x := by simp [← hq]
  rw [hget] at hcell
  obtain ⟨nb, no, rfl, hcell⟩ := hcell
  have hp : RdN w (some ⟨nb, no, none⟩) p := by
    have := hl.take p.length
    rwa [List.take_left] at this
  have HWK := Lib.hid (walk_any (some ⟨nb, no, none⟩) c (p ++ [x]) h hw (by omega) hl (by rw [ht]; omega))
  have HWP := Lib.hid (fun W (hb : Below w.heap.size w W) => walk_any (some ⟨nb, no, none⟩) c p (h.below hb) hw (by omega) (hp.below hb) (by omega))
  rw [ht] at HWK
  rw [hq] at HWP
  have H := Lib.hid h
  have HW := Lib.hid hw
  have hk0 := walk_lt hw (p ++ [x]) 0 h.pos
  have ha0 := walk_lt hw p 0 h.pos
  unfold removeR2 at hZ
  obtain ⟨⟨k, E⟩, hke⟩ : ∃ z, walkL r.L 0 (p ++ [x]) = z := ⟨_, rfl⟩
  obtain ⟨⟨a, E2⟩, hae⟩ : ∃ z, walkL r.L 0 p = z := ⟨_, rfl⟩
  rw [hke] at HWK hk0 hZ hat
  rw [hae] at HWP ha0 hZ hat
  dsimp only at HWK HWP hk0 ha0 hZ hat
  have HK := Lib.hid hk0
  have HA0 := Lib.hid ha0
  have HNC := Lib.hid hcell
  have HAT0 := Lib.hid hat
  have wt : IntKind.i64.wrap ((t : Int) - 1) = (q : Int) := by rw [IntKind.wrap_i64]; omega
  have t0 : ¬ (t : Int) = 0 := by omega
  rw [ht]
  have hqc : q ≤ c := by omega
  have hqci : (q : Int) ≤ (c : Int) := by omega
  have hqcn : ¬ (c : Int) < (q : Int) := by omega
  have HTQ := Lib.hid htq
  have hqt : q < t := by omega
  have hqti : (q : Int) < (t : Int) := by omega
  clear h hw hl hke hae hp hget ht hcell htq hat
  by_cases cE : E = 0
  case neg =>
    rw [if_pos cE] at hZ
    have HZ := Lib.hid hZ
    clear hZ hk0
    go_enter Tryz.func24, Tryz.ntmps24
    go_wp2_with (first | (go_at_call 43; refine HWK.out.mono ?_; rintro e w1 ⟨rfl, kk, rfl⟩) | fail)
    go_ret
    exact rp_same HZ.out.symm rfl H.out (bdraw w kk)
  subst cE
  rw [if_neg (by simp)] at hZ
  obtain ⟨hak, i, hai⟩ := HAT0.out rfl
  have hsz := HW.out.sz k _ (thL_get hk0)
  obtain ⟨N, hN⟩ : ∃ N, r.L.length = N := ⟨_, rfl⟩
  have HN := Lib.hid hN
  have i0 : (k : Int) < N := by omega
  have i00 : k < N := by omega
  have j0 : (a : Int) < N := by omega
  have j00 : a < N := by omega
  obtain ⟨cap, -, hT⟩ := H.out.tree
  rw [hN] at hT
  have HT := Lib.hid hT
  obtain ⟨BA, bc, SA, sc, c0, c1, c2, c3, -, -, hS, hSc⟩ := H.out.thing k _ (thL_get hk0)
  obtain ⟨y, hye⟩ : ∃ y, thL r.L k = y := ⟨_, rfl⟩
  rw [hye] at hZ hsz c1 c3 hS hSc
  have HYE := Lib.hid hye
  obtain ⟨yi, yd, yB, yS⟩ := y
  dsimp only at hZ hsz c1 c3 hS hSc
  obtain ⟨sl, hsl⟩ : ∃ sl, yS.length = sl := ⟨_, rfl⟩
  rw [hsl] at c3 hsz hSc
  have HSL := Lib.hid hsl
  have HS := Lib.hid hS
  have C1 := Lib.hid c1
  have C3 := Lib.hid c3
  have HAI := Lib.hid hai
  have HAK := Lib.hid hak
  clear hN hT hye hS hsl hk0 ha0 c0 c1 c2 c3 hai hak
  go_enter Tryz.func24, Tryz.ntmps24
  go_wp2_with fail
  refine HWK.out.mono ?_
  rintro e w1 ⟨rfl, kk, hk⟩
  have hb1 : Below w.heap.size w w1 := hk ▸ bdraw w kk
  have HB1 := Lib.hid hb1
  have ht1 := (hb1.block g (Array.getElem?_eq_some_iff.1 HT.out).1).trans HT.out
  have y0 : w1.cell? ⟨g, 0, none⟩ = some (.slice (some ⟨b, 0, none⟩) N cap) := blk_cell ht1 0
  have c1 := keepC hb1 C1.out
  have c3 := keepC hb1 C3.out
  clear hk hb1 ht1
  cases d with
  | true =>
    cases yd with
    | false =>
      rw [if_pos ⟨rfl, rfl⟩] at hZ
      have HZ := Lib.hid hZ
      clear hZ
      go_wp2
      go_ret
      exact rp_same HZ.out.symm rfl H.out HB1.out
    | true =>
      rw [if_neg (by simp), if_neg (by simp)] at hZ
      have HNM := Lib.hid (names_any (c := sc) (HS.out.below HB1.out) (by rw [HSL.out]; exact hSc) (by rw [HSL.out]; omega))
      rw [HSL.out] at HNM
      by_cases cN : nmR yS = []
      · rw [if_neg (by simp [cN])] at hZ
        rw [cN] at HNM
        go_wp2_with fail
        refine HNM.out.mono ?_
        rintro e w2 ⟨A2, c2, rfl, -, -, hb2⟩
        have HB2 := Lib.hid (HB1.out.trans (hb2.mono HB1.out.size))
        clear hb2 cN
        have HZ := Lib.hid hZ
        clear hZ
        go_wp2_with fail
        refine (HWP.out _ HB2.out).mono ?_
        rintro e w3 ⟨rfl, k3, hk3⟩
        have HB3 := Lib.hid (show Below w.heap.size w w3 from hk3 ▸ HB2.out.trans ((bdraw w2 k3).mono HB2.out.size))
        clear hk3
        go_wp2_with fail
        refine (free_any k (H.out.below HB3.out) HW.out (by omega) HK.out (by omega) (by omega)).mono ?_
        rintro e w4 ⟨rfl, b4, hf4, hb4, hz4, hl4⟩
        have hkl : (r.L.set k noT).length = N := by rw [List.length_set]; exact HN.out
        have hth := rem_get (L := r.L) HAK.out
        obtain ⟨cap4, -, ht4⟩ := hf4.tree
        rw [hkl] at ht4
        have v0 : w4.cell? ⟨g, 0, none⟩ = some (.slice (some ⟨b4, 0, none⟩) N cap4) := blk_cell ht4 0
        obtain ⟨BA4, bc4, SA4, sc4, -, -, -, v3, -, -, hS4, hSc4⟩ := hf4.thing a _ (thL_get (by rw [List.length_set]; exact HA0.out))
        rw [hth] at v3 hS4 hSc4
        have vn := cell_str hz4 (keepC HB3.out HNC.out)
        have hsa := (HW.out.sz a _ (thL_get HA0.out)).1
        have HF4 := Lib.hid hf4
        have HZ4 := Lib.hid hz4
        have HL4 := Lib.hid hl4
        have HKS := Lib.hid (show ∀ W, Below w4.heap.size w4 W → (fun W : World => W.cell? ⟨g, 0, none⟩ = some (.slice (some ⟨b4, 0, none⟩) N cap4) ∧ W.cell? ⟨b4, a * 4 + 3, none⟩ = some (.slice SA4 (thL r.L a).S.length sc4) ∧ W.cell? ⟨nb, no + q, none⟩ = some (.string x)) W from fun W hb => ⟨keepC hb v0, keepC hb v3, keepC hb vn⟩)
        have HK0 := Lib.hid (kp0 (T := (fun W : World => W.cell? ⟨g, 0, none⟩ = some (.slice (some ⟨b4, 0, none⟩) N cap4) ∧ W.cell? ⟨b4, a * 4 + 3, none⟩ = some (.slice SA4 (thL r.L a).S.length sc4) ∧ W.cell? ⟨nb, no + q, none⟩ = some (.string x))) HKS.out)
        have HTK := Lib.hid (fun W (hb : Below w4.heap.size w4 W) => take_any (c := sc4) x (hS4.below hb) hSc4 (by omega) HAI.out)
        have hne4 : g ≠ b4 := hf4.ne
        have hne4' : b4 ≠ g := Ne.symm hne4
        have i4lt : i < (thL r.L a).S.length := by obtain ⟨e, he, -⟩ := atL_some HAI.out; exact (List.getElem?_eq_some_iff.1 he).1
        clear hf4 hz4 hl4 ht4 hS4 v0 v3 vn
        go_wp2_with fail
        go_region_held3 (fun W : World => Below w4.heap.size w4 W ∧ W.cell? ⟨g, 0, none⟩ = some (.slice (some ⟨b4, 0, none⟩) N cap4) ∧ W.cell? ⟨b4, a * 4 + 3, none⟩ = some (.slice SA4 (thL r.L a).S.length sc4) ∧ W.cell? ⟨nb, no + q, none⟩ = some (.string x)) (first | exact kpC (T := (fun W : World => W.cell? ⟨g, 0, none⟩ = some (.slice (some ⟨b4, 0, none⟩) N cap4) ∧ W.cell? ⟨b4, a * 4 + 3, none⟩ = some (.slice SA4 (thL r.L a).S.length sc4) ∧ W.cell? ⟨nb, no + q, none⟩ = some (.string x))) (by assumption) (by assumption) HKS.out | exact kp1 (T := (fun W : World => W.cell? ⟨g, 0, none⟩ = some (.slice (some ⟨b4, 0, none⟩) N cap4) ∧ W.cell? ⟨b4, a * 4 + 3, none⟩ = some (.slice SA4 (thL r.L a).S.length sc4) ∧ W.cell? ⟨nb, no + q, none⟩ = some (.string x))) (by first | assumption | exact HK0.out) HKS.out | assumption)
          (first
            | (go_at_call 52
               refine (HTK.out _ (And.left (by assumption))).mono ?_
               rintro e w5 ⟨v, z, rfl, hos, hb⟩
               have HOS := Lib.hid hos
               clear hos)
            | fail)
        have HB5 := Lib.hid (And.left (by assumption : Below w4.heap.size w4 w5 ∧ _))
        obtain ⟨A5, c5, rfl, hr5, hc5⟩ := OwnSl.reads HOS.out
        have HF5 := Lib.hid (HF4.out.below HB5.out)
        obtain ⟨cap5, -, ht5⟩ := HF5.out.tree
        rw [hkl] at ht5
        have u0 : w5.cell? ⟨g, 0, none⟩ = some (.slice (some ⟨b4, 0, none⟩) N cap5) := blk_cell ht5 0
        obtain ⟨BA5, bc5, SA5, sc5, -, -, -, u3, -⟩ := HF5.out.thing a _ (thL_get (by rw [List.length_set]; exact HA0.out))
        obtain ⟨cs5, hcs5, -⟩ := HF5.out.row
        have uf := blk_frozen hcs5 (a * 4 + 3)
        have HR5 := Lib.hid hr5
        have HC5 := Lib.hid hc5
        have hb' := And.right (by assumption : Below w4.heap.size w4 w5 ∧ _)
        clear hr5 hc5 ht5 hcs5 hb hb'
        go_wp2
        go_ret
        have h9 := HF5.out.slots a (by rw [List.length_set]; exact HA0.out) A5 c5 _ HR5.out HC5.out
        rw [List.length_set] at h9
        rw [← HZ.out]
        have htk : takeS (thL r.L a).S x = (thL r.L a).S.set i ⟨ByteArray.empty, 0⟩ := by unfold takeS; rw [HAI.out]
        refine ⟨rfl, b4, ?_, ?_, ?_, ?_⟩
        · unfold remL
          rw [hth, htk]
          rw [hth] at h9
          have hbk : blocksT (thL r.L k) = blocksT ⟨yi, true, yB, yS⟩ := by rw [HYE.out]
          rw [hbk] at h9
          exact h9
        · exact hb4.imp id (fun h => Nat.le_trans HB3.out.size h)
        · exact Fz.set_or (((H.out.fz0 HB3.out).trans HZ4.out (fun i hi => .inl hi)).row HB5.out) (hb4.imp id (fun h => Nat.le_trans HB3.out.size h)) _ _
        · have hB : B ≤ w.heap.size := by have := H.out.base; have := H.out.ltg; omega
          exact (((HB3.out.mono hB).trans HL4.out).trans (HB5.out.mono (by have := HF4.out.base; have := HF4.out.ltg; omega))).setCell HF4.out.base.2 _
      · rw [if_pos ⟨rfl, cN⟩] at hZ
        have HZ := Lib.hid hZ
        clear hZ
        obtain ⟨nl, hnl⟩ : ∃ nl, (nmR yS).length = nl := ⟨_, rfl⟩
        have hpos : 0 < nl := by rw [← hnl]; exact List.length_pos_iff.2 cN
        have hposi : (0 : Int) < (nl : Int) := by omega
        rw [hnl] at HNM
        clear hnl cN
        go_wp2_with (first | (go_at_call 50; refine HNM.out.mono ?_; rintro e w2 ⟨A2, c2, rfl, -, -, hb2⟩) | fail)
        go_ret
        exact rp_same HZ.out.symm rfl H.out (HB1.out.trans (hb2.mono HB1.out.size))
  | false =>
    cases yd with
    | true =>
      rw [if_neg (by simp), if_pos ⟨rfl, rfl⟩] at hZ
      have HZ := Lib.hid hZ
      clear hZ
      go_wp2
      go_ret
      exact rp_same HZ.out.symm rfl H.out HB1.out
    | false =>
      rw [if_neg (by simp), if_neg (by simp), if_neg (by simp)] at hZ
      have HZ := Lib.hid hZ
      clear hZ
      go_wp2_with fail
      refine (HWP.out _ HB1.out).mono ?_
      rintro e w3 ⟨rfl, k3, hk3⟩
      have HB3 := Lib.hid (show Below w.heap.size w w3 from hk3 ▸ HB1.out.trans ((bdraw w1 k3).mono HB1.out.size))
      clear hk3
      go_wp2_with fail
      refine (free_any k (H.out.below HB3.out) HW.out (by omega) HK.out (by omega) (by omega)).mono ?_
      rintro e w4 ⟨rfl, b4, hf4, hb4, hz4, hl4⟩
      have hkl : (r.L.set k noT).length = N := by rw [List.length_set]; exact HN.out
      have hth := rem_get (L := r.L) HAK.out
      obtain ⟨cap4, -, ht4⟩ := hf4.tree
      rw [hkl] at ht4
      have v0 : w4.cell? ⟨g, 0, none⟩ = some (.slice (some ⟨b4, 0, none⟩) N cap4) := blk_cell ht4 0
      obtain ⟨BA4, bc4, SA4, sc4, -, -, -, v3, -, -, hS4, hSc4⟩ := hf4.thing a _ (thL_get (by rw [List.length_set]; exact HA0.out))
      rw [hth] at v3 hS4 hSc4
      have vn := cell_str hz4 (keepC HB3.out HNC.out)
      have hsa := (HW.out.sz a _ (thL_get HA0.out)).1
      have HF4 := Lib.hid hf4
      have HZ4 := Lib.hid hz4
      have HL4 := Lib.hid hl4
      have HKS := Lib.hid (show ∀ W, Below w4.heap.size w4 W → (fun W : World => W.cell? ⟨g, 0, none⟩ = some (.slice (some ⟨b4, 0, none⟩) N cap4) ∧ W.cell? ⟨b4, a * 4 + 3, none⟩ = some (.slice SA4 (thL r.L a).S.length sc4) ∧ W.cell? ⟨nb, no + q, none⟩ = some (.string x)) W from fun W hb => ⟨keepC hb v0, keepC hb v3, keepC hb vn⟩)
      have HK0 := Lib.hid (kp0 (T := (fun W : World => W.cell? ⟨g, 0, none⟩ = some (.slice (some ⟨b4, 0, none⟩) N cap4) ∧ W.cell? ⟨b4, a * 4 + 3, none⟩ = some (.slice SA4 (thL r.L a).S.length sc4) ∧ W.cell? ⟨nb, no + q, none⟩ = some (.string x))) HKS.out)
      have HTK := Lib.hid (fun W (hb : Below w4.heap.size w4 W) => take_any (c := sc4) x (hS4.below hb) hSc4 (by omega) HAI.out)
      have hne4 : g ≠ b4 := hf4.ne
      have hne4' : b4 ≠ g := Ne.symm hne4
      have i4lt : i < (thL r.L a).S.length := by obtain ⟨e, he, -⟩ := atL_some HAI.out; exact (List.getElem?_eq_some_iff.1 he).1
      clear hf4 hz4 hl4 ht4 hS4 v0 v3 vn
      go_wp2_with fail
      go_region_held3 (fun W : World => Below w4.heap.size w4 W ∧ W.cell? ⟨g, 0, none⟩ = some (.slice (some ⟨b4, 0, none⟩) N cap4) ∧ W.cell? ⟨b4, a * 4 + 3, none⟩ = some (.slice SA4 (thL r.L a).S.length sc4) ∧ W.cell? ⟨nb, no + q, none⟩ = some (.string x)) (first | exact kpC (T := (fun W : World => W.cell? ⟨g, 0, none⟩ = some (.slice (some ⟨b4, 0, none⟩) N cap4) ∧ W.cell? ⟨b4, a * 4 + 3, none⟩ = some (.slice SA4 (thL r.L a).S.length sc4) ∧ W.cell? ⟨nb, no + q, none⟩ = some (.string x))) (by assumption) (by assumption) HKS.out | exact kp1 (T := (fun W : World => W.cell? ⟨g, 0, none⟩ = some (.slice (some ⟨b4, 0, none⟩) N cap4) ∧ W.cell? ⟨b4, a * 4 + 3, none⟩ = some (.slice SA4 (thL r.L a).S.length sc4) ∧ W.cell? ⟨nb, no + q, none⟩ = some (.string x))) (by first | assumption | exact HK0.out) HKS.out | assumption)
        (first
          | (go_at_call 52
             refine (HTK.out _ (And.left (by assumption))).mono ?_
             rintro e w5 ⟨v, z, rfl, hos, hb⟩
             have HOS := Lib.hid hos
             clear hos)
          | fail)
      have HB5 := Lib.hid (And.left (by assumption : Below w4.heap.size w4 w5 ∧ _))
      obtain ⟨A5, c5, rfl, hr5, hc5⟩ := OwnSl.reads HOS.out
      have HF5 := Lib.hid (HF4.out.below HB5.out)
      obtain ⟨cap5, -, ht5⟩ := HF5.out.tree
      rw [hkl] at ht5
      have u0 : w5.cell? ⟨g, 0, none⟩ = some (.slice (some ⟨b4, 0, none⟩) N cap5) := blk_cell ht5 0
      obtain ⟨BA5, bc5, SA5, sc5, -, -, -, u3, -⟩ := HF5.out.thing a _ (thL_get (by rw [List.length_set]; exact HA0.out))
      obtain ⟨cs5, hcs5, -⟩ := HF5.out.row
      have uf := blk_frozen hcs5 (a * 4 + 3)
      have HR5 := Lib.hid hr5
      have HC5 := Lib.hid hc5
      have hb' := And.right (by assumption : Below w4.heap.size w4 w5 ∧ _)
      clear hr5 hc5 ht5 hcs5 hb hb'
      go_wp2
      go_ret
      have h9 := HF5.out.slots a (by rw [List.length_set]; exact HA0.out) A5 c5 _ HR5.out HC5.out
      rw [List.length_set] at h9
      rw [← HZ.out]
      have htk : takeS (thL r.L a).S x = (thL r.L a).S.set i ⟨ByteArray.empty, 0⟩ := by unfold takeS; rw [HAI.out]
      refine ⟨rfl, b4, ?_, ?_, ?_, ?_⟩
      · unfold remL
        rw [hth, htk]
        rw [hth] at h9
        have hbk : blocksT (thL r.L k) = blocksT ⟨yi, false, yB, yS⟩ := by rw [HYE.out]
        rw [hbk] at h9
        exact h9
      · exact hb4.imp id (fun h => Nat.le_trans HB3.out.size h)
      · exact Fz.set_or (((H.out.fz0 HB3.out).trans HZ4.out (fun i hi => .inl hi)).row HB5.out) (hb4.imp id (fun h => Nat.le_trans HB3.out.size h)) _ _
      · have hB : B ≤ w.heap.size := by have := H.out.base; have := H.out.ltg; omega
        exact (((HB3.out.mono hB).trans HL4.out).trans (HB5.out.mono (by have := HF4.out.base; have := HF4.out.ltg; omega))).setCell HF4.out.base.2 _
end Go.Proofs.YtpdcjdangnfeiaaGreatDoor.Rc
namespace Go.Proofs.YtpdcjdangnfeiaaGreatDoor.Rc
def overE (y x : T) : Int := if x.dir = true ∧ y.dir = false then 10 else if x.dir = false ∧ y.dir = true then 11 else if x.dir = true ∧ nmR x.S ≠ [] then 13 else 0
set_option maxHeartbeats 4000000 in
set_option maxRecDepth 100000 in
/-- (*Tree).over -/
theorem over_any {w : World} {B g b M : Nat} {L : List T} {n m : Int} (k j : Nat) (h : Rf w B g b L n m) (hw : WfL L M) (hM : M ≤ 100000) (hk : k < L.length) (hj : j < L.length) :
    Calls Tryz.prog 53 #[.pointer (some ⟨g, 0, none⟩), .int .i64 k, .int .i64 j] w fun e w' => e = .returned (.int .i64 (overE (thL L k) (thL L j))) ∧ Below w.heap.size w w' := by
  obtain ⟨Z, hZ⟩ : ∃ Z, overE (thL L k) (thL L j) = Z := ⟨_, rfl⟩
  rw [hZ]
  obtain ⟨N, hN⟩ : ∃ N, L.length = N := ⟨_, rfl⟩
  have i0 : (k : Int) < N := by omega
  have i00 : k < N := by omega
  have j0 : (j : Int) < N := by omega
  have j00 : j < N := by omega
  obtain ⟨cap, -, hT⟩ := h.tree
  rw [hN] at hT
  have y0 : w.cell? ⟨g, 0, none⟩ = some (.slice (some ⟨b, 0, none⟩) N cap) := blk_cell hT 0
  obtain ⟨-, -, -, -, -, c1, -⟩ := h.thing k _ (thL_get hk)
  obtain ⟨BA, bc, SA, sc, -, d1, -, d3, -, -, hS, hSc⟩ := h.thing j _ (thL_get hj)
  have hsz := hw.sz j _ (thL_get hj)
  obtain ⟨y, hye⟩ : ∃ y, thL L k = y := ⟨_, rfl⟩
  obtain ⟨x, hxe⟩ : ∃ x, thL L j = x := ⟨_, rfl⟩
  rw [hye] at hZ c1
  rw [hxe] at hZ d1 d3 hS hSc hsz
  obtain ⟨yi, yd, yB, yS⟩ := y
  obtain ⟨xi, xd, xB, xS⟩ := x
  unfold overE at hZ
  dsimp only at hZ c1 d1 d3 hS hSc hsz
  have HNM := Lib.hid (names_any (c := sc) hS hSc (by omega))
  obtain ⟨nl, hnl⟩ : ∃ nl, (nmR xS).length = nl := ⟨_, rfl⟩
  obtain ⟨sl, hsl⟩ : ∃ sl, xS.length = sl := ⟨_, rfl⟩
  rw [hsl, hnl] at HNM
  rw [hsl] at d3
  clear h hw hk hj hN hT hye hxe hS hSc hsl
  cases xd with
  | true =>
    cases yd with
    | false =>
      rw [if_pos ⟨rfl, rfl⟩] at hZ
      have HZ := Lib.hid hZ
      clear hZ
      go_enter Tryz.func53, Tryz.ntmps53
      go_wp2
      go_ret
      exact ⟨by rw [← HZ.out]; rfl, Below.refl _ _⟩
    | true =>
      rw [if_neg (by simp), if_neg (by simp)] at hZ
      by_cases cN : nmR xS = []
      · rw [if_neg (by simp [cN])] at hZ
        have hnl0 : nl = 0 := by rw [← hnl, cN]; rfl
        subst hnl0
        have HZ := Lib.hid hZ
        clear hZ cN hnl
        go_enter Tryz.func53, Tryz.ntmps53
        go_wp2_with (first | (go_at_call 50; refine HNM.out.mono ?_; rintro e w2 ⟨A2, c2, rfl, -, -, hb2⟩) | fail)
        go_ret
        exact ⟨by rw [← HZ.out]; rfl, hb2⟩
      · rw [if_pos ⟨rfl, cN⟩] at hZ
        have hpos : 0 < nl := by rw [← hnl]; exact List.length_pos_iff.2 cN
        have hposi : (0 : Int) < (nl : Int) := by omega
        have HZ := Lib.hid hZ
        clear hZ cN hnl
        go_enter Tryz.func53, Tryz.ntmps53
        go_wp2_with (first | (go_at_call 50; refine HNM.out.mono ?_; rintro e w2 ⟨A2, c2, rfl, -, -, hb2⟩) | fail)
        go_ret
        exact ⟨by rw [← HZ.out]; rfl, hb2⟩
  | false =>
    cases yd with
    | true =>
      rw [if_neg (by simp), if_pos ⟨rfl, rfl⟩] at hZ
      have HZ := Lib.hid hZ
      clear hZ
      go_enter Tryz.func53, Tryz.ntmps53
      go_wp2
      go_ret
      exact ⟨by rw [← HZ.out]; rfl, Below.refl _ _⟩
    | false =>
      rw [if_neg (by simp), if_neg (by simp), if_neg (by simp)] at hZ
      have HZ := Lib.hid hZ
      clear hZ
      go_enter Tryz.func53, Tryz.ntmps53
      go_wp2
      go_ret
      exact ⟨by rw [← HZ.out]; rfl, Below.refl _ _⟩
/-- Alike so far. -/
def eqN (l m : List ByteArray) (i : Nat) : Bool := decide (l.take i = m.take i)
theorem eqN_step {l m : List ByteArray} {i : Nat} (h1 : i < l.length) (h2 : i < m.length) : eqN l m (i + 1) = (eqN l m i && !(l[i].toList != m[i].toList)) := by
  unfold eqN
  rw [List.take_succ_eq_append_getElem h1, List.take_succ_eq_append_getElem h2]
  have e : (!(l[i].toList != m[i].toList)) = decide (l[i] = m[i]) := by
    by_cases c : l[i] = m[i]
    · simp [c]
    · have : l[i].toList ≠ m[i].toList := fun h => c (ba_eq.1 h)
      simp [c, this]
  rw [e, ← Bool.decide_and]
  apply decide_eq_decide.2
  constructor
  · intro h
    have := List.append_inj h (by simp; omega)
    exact ⟨this.1, by simpa using this.2⟩
  · rintro ⟨h3, h4⟩
    rw [h3, h4]
theorem below_of {l m : List ByteArray} (h : l.length < m.length) : eqN l m l.length = true ↔ l <+: m ∧ l ≠ m := by
  unfold eqN
  rw [decide_eq_true_eq, List.take_length]
  constructor
  · intro h1
    refine ⟨h1 ▸ List.take_prefix _ _, ?_⟩
    rintro rfl
    omega
  · rintro ⟨⟨r, rfl⟩, -⟩
    simp
end Go.Proofs.YtpdcjdangnfeiaaGreatDoor.Rc
namespace Go.Proofs.YtpdcjdangnfeiaaGreatDoor.Rc
def moveS (S : List S106) (x y : ByteArray) : List S106 := match atL S x with
  | some i => S.set i ⟨y, inoL S i⟩
  | none => []
def setS (L : List T) (k : Nat) (S : List S106) : List T := L.set k { thL L k with S := S }
/-- A thing takes another one's place. -/
def repL (L : List T) (k ti a j i : Nat) (x y : ByteArray) : List T :=
  setS (setS (L.set j noT) ti ((thL L ti).S.set i ⟨y, (k : Int) + 1⟩)) a (takeS (thL (setS (L.set j noT) ti ((thL L ti).S.set i ⟨y, (k : Int) + 1⟩)) a).S x)
/-- A thing gets a new name in another directory. -/
def newL (L : List T) (k ti a : Nat) (x y : ByteArray) : List T :=
  setS (setS L ti (putL (thL L ti).S y ((k : Int) + 1))) a (takeS (thL L a).S x)
def moreN (L : List T) (k ti : Nat) (y : ByteArray) : Int := (needL (putL (thL L ti).S y ((k : Int) + 1)) : Int) - (needL (thL L ti).S : Int)
def renTail (r : RS) (k ti a : Nat) (x y : ByteArray) : RS × Int := match atL (thL r.L ti).S y with
  | some i =>
    if overE (thL r.L k) (thL r.L (inoL (thL r.L ti).S i - 1).toNat) ≠ 0 then (r, overE (thL r.L k) (thL r.L (inoL (thL r.L ti).S i - 1).toNat)) else
    (⟨repL r.L k ti a (inoL (thL r.L ti).S i - 1).toNat i x y, r.n + blocksT (thL r.L (inoL (thL r.L ti).S i - 1).toNat), r.m + 1⟩, 0)
  | none =>
    if a = ti then (⟨setS r.L ti (moveS (thL r.L ti).S x y), r.n, r.m⟩, 0) else
    if moreN r.L k ti y > r.n then (r, 7) else (⟨newL r.L k ti a x y, r.n - moreN r.L k ti y, r.m⟩, 0)
def renameR2 (r : RS) (p : List ByteArray) (x : ByteArray) (p2 : List ByteArray) (y : ByteArray) : RS × Int :=
  if (walkL r.L 0 (p ++ [x])).2 ≠ 0 then (r, (walkL r.L 0 (p ++ [x])).2) else
  if (walkL r.L 0 p2).2 ≠ 0 then (r, (walkL r.L 0 p2).2) else
  if (thL r.L (walkL r.L 0 p2).1).dir = false then (r, 11) else
  if (decide (p.length < p2.length) && eqN (p ++ [x]) (p2 ++ [y]) (p.length + 1)) = true then (r, 13) else
  if (decide (p2.length = p.length) && eqN (p ++ [x]) (p2 ++ [y]) (p.length + 1)) = true then (r, 0) else
  renTail r (walkL r.L 0 (p ++ [x])).1 (walkL r.L 0 p2).1 (walkL r.L 0 p).1 x y
/-- What a tree of things tells of two ways in it. -/
structure RenOk (r : RS) (p : List ByteArray) (x : ByteArray) (p2 : List ByteArray) (y : ByteArray) : Prop where
  has : (walkL r.L 0 (p ++ [x])).2 = 0 → ∃ i, atL (thL r.L (walkL r.L 0 p).1).S x = some i
  other : (walkL r.L 0 (p ++ [x])).2 = 0 → (walkL r.L 0 p2).2 = 0 → (thL r.L (walkL r.L 0 p2).1).dir = true → ∀ i, atL (thL r.L (walkL r.L 0 p2).1).S y = some i →
    overE (thL r.L (walkL r.L 0 (p ++ [x])).1) (thL r.L (inoL (thL r.L (walkL r.L 0 p2).1).S i - 1).toNat) = 0 →
    (inoL (thL r.L (walkL r.L 0 p2).1).S i - 1).toNat ≠ (walkL r.L 0 p2).1 ∧ (inoL (thL r.L (walkL r.L 0 p2).1).S i - 1).toNat ≠ (walkL r.L 0 p).1
  ne : (walkL r.L 0 p).1 = (walkL r.L 0 p2).1 → atL (thL r.L (walkL r.L 0 p2).1).S y = none → (walkL r.L 0 (p ++ [x])).2 = 0 → y ≠ x
theorem atL_ino {l : List S106} {i : Nat} {e : S106} (h : l[i]? = some e) (m : Int) (x : ByteArray) : atL (l.set i ⟨e.f0, m⟩) x = atL l x := by
  unfold atL
  by_cases hx : x = ByteArray.empty
  · rw [if_pos hx, if_pos hx]
  rw [if_neg hx, if_neg hx]
  have hlt := (List.getElem?_eq_some_iff.1 h).1
  have e1 : (l.set i ⟨e.f0, m⟩).map (fun e => decide (e.f0 = x)) = l.map (fun e => decide (e.f0 = x)) := by
    apply List.ext_getElem?
    intro j
    rw [List.getElem?_map, List.getElem?_map]
    by_cases c : j = i
    · subst c
      rw [List.getElem?_set_self hlt, h]
      rfl
    · rw [List.getElem?_set_ne (Ne.symm c)]
  have e2 : ∀ z : List S106, z.findIdx? (fun e => decide (e.f0 = x)) = (z.map (fun e => decide (e.f0 = x))).findIdx? id := fun z => by rw [List.findIdx?_map]; rfl
  rw [e2, e2, e1]
theorem thL_set_ne {L : List T} {k a : Nat} (t : T) (hne : a ≠ k) : thL (L.set k t) a = thL L a := by
  unfold thL
  rw [List.getD_eq_getElem?_getD, List.getD_eq_getElem?_getD, List.getElem?_set_ne (Ne.symm hne)]
theorem thL_set_self {L : List T} {k : Nat} (t : T) (hk : k < L.length) : thL (L.set k t) k = t := by
  unfold thL
  rw [List.getD_eq_getElem?_getD, List.getElem?_set_self hk, Option.getD_some]
end Go.Proofs.YtpdcjdangnfeiaaGreatDoor.Rc
end
