/- The reference's rename on whole paths; Do of any act. -/
import Derived.Test.YtpdcjdangnfeiaaGreatDoorZj
import Derived.Test.YtpdcjdangnfeiaaGreatDoorZk
import Derived.Test.YtpdcjdangnfeiaaGreatDoorZl
section
open Go Go.RowKit Go.Proofs.YtpdcjdangnfeiaaGreatDoor.Pb Go.Proofs.YtpdcjdangnfeiaaGreatDoor.PPrf Go.Proofs.YtpdcjdangnfeiaaGreatDoorW.PrintWords Go.Proofs.YtpdcjdangnfeiaaGreatDoorW.PrintLast Go.Proofs.YtpdcjdangnfeiaaGreatDoorW.PrintMore Go.Proofs.YtpdcjdangnfeiaaGreatDoor.Qa Go.Proofs.YtpdcjdangnfeiaaGreatDoor.Tb Go.Proofs.YtpdcjdangnfeiaaGreatDoor.Rb Go.Proofs.YtpdcjdangnfeiaaGreatDoor.Ba Go.Proofs.YtpdcjdangnfeiaaGreatDoor.Rd Go.Proofs.YtpdcjdangnfeiaaGreatDoor.Te Go.Proofs.YtpdcjdangnfeiaaGreatDoor.Rq Go.Proofs.YtpdcjdangnfeiaaGreatDoor.Ui Go.Proofs.YtpdcjdangnfeiaaGreatDoor.Ua Go.Proofs.YtpdcjdangnfeiaaGreatDoor.Uz
namespace Go.Proofs.YtpdcjdangnfeiaaGreatDoor.Rc
section
variable {w : World} {B g b M : Nat} {r : RS} {s : Ua.S} {ix : Wy → Option Nat}
set_option maxHeartbeats 4000000 in
set_option maxRecDepth 100000 in
/-- A rename of, or to, the root. -/
theorem rename_root (A A2 : Option Addr) (c c2 : Nat) (l m : Wy) (h : Rf w B g b r.L r.n r.m) (hw : WfL r.L M) (hM : M ≤ 50000) (hl : RdN w A l) (hn : l.length ≤ 900) (hlm : l = [] ∨ m = []) :
    Calls Tryz.prog 25 #[.pointer (some ⟨g, 0, none⟩), .slice A l.length c, .slice A2 m.length c2] w (RP w B g b (r, if (walkL r.L 0 l).2 ≠ 0 then (walkL r.L 0 l).2 else 13)) := by
  have HWK := Lib.hid (walk_any A c l h hw (by omega) hl (by omega))
  have H := Lib.hid h
  obtain ⟨⟨k, E⟩, hke⟩ : ∃ z, walkL r.L 0 l = z := ⟨_, rfl⟩
  rw [hke] at HWK ⊢
  dsimp only at HWK ⊢
  obtain ⟨t, ht⟩ : ∃ t, l.length = t := ⟨_, rfl⟩
  obtain ⟨t2, ht2⟩ : ∃ t, m.length = t := ⟨_, rfl⟩
  have h0 : t = 0 ∨ t2 = 0 := by
    rcases hlm with rfl | rfl
    · exact .inl (by rw [← ht]; rfl)
    · exact .inr (by rw [← ht2]; rfl)
  rw [ht] at HWK ⊢
  rw [ht2]
  clear h hw hl hlm hke ht ht2
  by_cases cE : E = 0
  · subst cE
    rw [if_neg (show ¬ (0 : Int) ≠ 0 by simp)]
    by_cases c1 : t = 0
    · subst c1
      go_enter Tryz.func25, Tryz.ntmps25
      go_wp2_with (first | (go_at_call 43; refine HWK.out.mono ?_; rintro e w1 ⟨rfl, kk, rfl⟩) | fail)
      go_ret
      exact rp_same rfl rfl H.out (bdraw w kk)
    · have c2 : t2 = 0 := by omega
      subst c2
      have tb : ((t : Int) == 0) = false := by rw [beq_eq_false_iff_ne]; omega
      go_enter Tryz.func25, Tryz.ntmps25
      go_wp2_with (first | (go_at_call 43; refine HWK.out.mono ?_; rintro e w1 ⟨rfl, kk, rfl⟩) | fail)
      go_ret
      exact rp_same rfl rfl H.out (bdraw w kk)
  · rw [if_pos cE]
    go_enter Tryz.func25, Tryz.ntmps25
    go_wp2_with (first | (go_at_call 43; refine HWK.out.mono ?_; rintro e w1 ⟨rfl, kk, rfl⟩) | fail)
    go_ret
    exact rp_same rfl rfl H.out (bdraw w kk)
theorem rename_all (A A2 : Option Addr) (c c2 : Nat) (l m : Wy) (h : Rf w B g b r.L r.n r.m) (ht : Tied r s M ix) (hM : M ≤ 40000) (hl : RdN w A l) (hn : l.length ≤ 8) (hc : l.length ≤ c) (hl2 : RdN w A2 m) (hn2 : m.length ≤ 8) (hc2 : m.length ≤ c2) (hx : ∀ x ∈ m, nmL x.data.toList = true) :
    Calls Tryz.prog 25 #[.pointer (some ⟨g, 0, none⟩), .slice A l.length c, .slice A2 m.length c2] w (RP w B g b (if l = [] ∨ m = [] then (r, if (walkL r.L 0 l).2 ≠ 0 then (walkL r.L 0 l).2 else 13) else renameR2 r l.dropLast (lastW l) m.dropLast (lastW m))) := by
  by_cases lm : l = [] ∨ m = []
  · rw [if_pos lm]
    exact rename_root A A2 c c2 l m h ht.wf (by omega) hl (by omega) lm
  · rw [if_neg lm]
    have l0 : l ≠ [] := fun h => lm (.inl h)
    have m0 : m ≠ [] := fun h => lm (.inr h)
    obtain ⟨b1, b2⟩ := ht.bounds hM
    have e1 := last_eq l0
    have e2 := last_eq m0
    have hm := hx _ (last_mem m0)
    by_cases hcmp : (l.dropLast ++ [lastW l]).length ≤ (m.dropLast ++ [lastW m]).length
    · have := rename_lo A A2 c c2 l.dropLast (lastW l) m.dropLast (lastW m) h ht.wf (by omega) (by rw [e1]; exact hl) (by rw [List.length_dropLast]; omega) (by rw [e1]; exact hc) (by rw [e2]; exact hl2) (by rw [List.length_dropLast]; omega) (by rw [e2]; exact hc2) b1 b2 hm (rename_ok ht _ _ _ _) hcmp
      rwa [e1, e2] at this
    · have := rename_hi A A2 c c2 l.dropLast (lastW l) m.dropLast (lastW m) h ht.wf (by omega) (by rw [e1]; exact hl) (by rw [List.length_dropLast]; omega) (by rw [e1]; exact hc) (by rw [e2]; exact hl2) (by rw [List.length_dropLast]; omega) (by rw [e2]; exact hc2) b1 b2 hm (rename_ok ht _ _ _ _) (by omega)
      rwa [e1, e2] at this
set_option maxHeartbeats 4000000 in
set_option maxRecDepth 100000 in
theorem rdo_7 (pa pt : ByteArray) (da : List UInt8) (n : Int) (D : Option Addr) (dc : Nat) (h : Rf w B g b r.L r.n r.m) (ht : Tied r s M ix) (hM : M ≤ 40000) (hD : RdB w D da) (hdl : da.length ≤ 1000000) :
    Calls Tryz.prog 9 #[.pointer (some ⟨g, 0, none⟩), opV ⟨7, pa, pt, da, n⟩ D dc] w (RP w B g b (doR2 r ⟨7, pa, pt, da, n⟩)) := by
  obtain ⟨Z, hZ⟩ : ∃ Z, doR2 r ⟨7, pa, pt, da, n⟩ = Z := ⟨_, rfl⟩
  rw [hZ]
  unfold doR2 at hZ
  dsimp only at hZ
  rw [if_neg (show ¬ ((7 : Int) < 1 ∨ 7 < (7 : Int)) by omega)] at hZ
  unfold opV
  dsimp only
  have hb1 : Below w.heap.size w (w.alloc (Obj.cells #[.int .i64 7, .string pa, .string pt, .slice D da.length dc, .int .i64 n] 37)) := (Below.refl _ _).alloc (Nat.le_refl _) _
  have hx := Go.heap_alloc_new w (Obj.cells #[.int .i64 7, .string pa, .string pt, .slice D da.length dc, .int .i64 n] 37)
  have hsp := split_ref pa (w.alloc (Obj.cells #[.int .i64 7, .string pa, .string pt, .slice D da.length dc, .int .i64 n] 37))
  obtain ⟨b1, b2⟩ := ht.bounds hM
  obtain ⟨l, hl⟩ : ∃ l, (splitP pa).1 = l := ⟨_, rfl⟩
  obtain ⟨E, hE⟩ : ∃ E, (splitP pa).2 = E := ⟨_, rfl⟩
  have hnames := fun h0 => Uz.split_names (s := pa) h0
  rw [hl, hE] at hsp hZ hnames
  obtain ⟨t, hte⟩ : ∃ t, l.length = t := ⟨_, rfl⟩
  have HSP := Lib.hid hsp
  have H := Lib.hid h
  have HT := Lib.hid ht
  have HD := Lib.hid hD
  have HB1 := Lib.hid hb1
  have HX := Lib.hid hx
  have HNM := Lib.hid hnames
  have HTE := Lib.hid hte
  have HDL := Lib.hid hdl
  obtain ⟨dl, hdle⟩ : ∃ d, da.length = d := ⟨_, rfl⟩
  clear hsp h ht hD hl hE hb1 hx hnames hte hdl hdle
  by_cases cE : E = 0
  case neg =>
    rw [if_pos cE] at hZ
    have HZ := Lib.hid hZ
    clear hZ
    go_enter Tryz.func9, Tryz.ntmps9
    go_wp2_with (first | (go_at_call 21; refine HSP.out.mono ?_; rintro e w2 ⟨A, c, rfl, -, -, hb2⟩) | fail)
    go_ret
    exact rp_same HZ.out.symm rfl H.out (HB1.out.trans (hb2.mono HB1.out.size))
  case pos =>
    subst cE
    rw [if_neg (show ¬ (0 : Int) ≠ 0 by simp)] at hZ
    rw [if_neg (show ¬ (7 : Int) ≤ 2 by omega), if_neg (show ¬ (7 : Int) ≤ 4 by omega), if_neg (show ¬ (7 : Int) ≤ 6 by omega)] at hZ
    have HZ := Lib.hid hZ
    obtain ⟨hl8, hnm0⟩ := HNM.out rfl
    have HL8 := Lib.hid hl8
    have HNM0 := Lib.hid hnm0
    clear hZ hl8 hnm0 HNM
    go_enter Tryz.func9, Tryz.ntmps9
    go_wp2_with fail
    refine HSP.out.mono ?_
    rintro e w2 ⟨A, c, rfl, hr, hc, hb2⟩
    have HB2 := Lib.hid (HB1.out.trans (hb2.mono HB1.out.size))
    have hx2 := (hb2.block _ (Array.getElem?_eq_some_iff.1 HX.out).1).trans HX.out
    have x0 : w2.cell? ⟨w.heap.size, 0, none⟩ = some (.int .i64 7) := blk_cell hx2 0
    have x1 : w2.cell? ⟨w.heap.size, 1, none⟩ = some (.string pa) := blk_cell hx2 1
    have x2 : w2.cell? ⟨w.heap.size, 2, none⟩ = some (.string pt) := blk_cell hx2 2
    have x3 : w2.cell? ⟨w.heap.size, 3, none⟩ = some (.slice D da.length dc) := blk_cell hx2 3
    have x4 : w2.cell? ⟨w.heap.size, 4, none⟩ = some (.int .i64 n) := blk_cell hx2 4
    have hsp2 := split_ref pt w2
    obtain ⟨m, hm⟩ : ∃ m, (splitP pt).1 = m := ⟨_, rfl⟩
    obtain ⟨E2, hE2⟩ : ∃ E, (splitP pt).2 = E := ⟨_, rfl⟩
    have hnames2 := fun h0 => Uz.split_names (s := pt) h0
    have hZ2 := HZ.out
    rw [hm, hE2] at hsp2 hnames2 hZ2
    have HSP2 := Lib.hid hsp2
    have HNM2 := Lib.hid hnames2
    have HR := Lib.hid hr
    have HC := Lib.hid hc
    have HX2 := Lib.hid hx2
    clear hsp2 hnames2 hm hE2 HZ hr hc hx2 hb2
    by_cases cE2 : E2 = 0
    case neg =>
      rw [if_pos cE2] at hZ2
      have HZ := Lib.hid hZ2
      clear hZ2
      go_wp2_with (first | (go_at_call 21; refine HSP2.out.mono ?_; rintro e w3 ⟨A2, c2, rfl, -, -, hb3⟩) | fail)
      go_ret
      exact rp_same HZ.out.symm rfl H.out (HB2.out.trans (hb3.mono HB2.out.size))
    case pos =>
      subst cE2
      rw [if_neg (show ¬ (0 : Int) ≠ 0 by simp)] at hZ2
      have HZ := Lib.hid hZ2
      obtain ⟨hm8, hmm0⟩ := HNM2.out rfl
      have HM8 := Lib.hid hm8
      have HMM0 := Lib.hid hmm0
      clear hZ2 hm8 hmm0 HNM2
      go_wp2_with fail
      refine HSP2.out.mono ?_
      rintro e w3 ⟨A2, c2, rfl, hr3, hc3, hb3⟩
      have HB3 := Lib.hid (HB2.out.trans (hb3.mono HB2.out.size))
      have hcall := rename_all A A2 c c2 l m (H.out.below HB3.out) HT.out hM (HR.out.below hb3) HL8.out HC.out hr3 HM8.out hc3 (fun x hx => (HMM0.out x hx).2)
      rw [HZ.out] at hcall
      have HCALL := Lib.hid hcall
      clear hcall hr3 hc3 hb3
      go_wp2_with fail
      refine HCALL.out.mono ?_
      rintro e w4 ⟨rfl, hp⟩
      have HP := Lib.hid hp
      clear hp
      go_wp2
      go_ret
      exact ⟨rfl, Rp.from HB3.out H.out HP.out⟩
/-- Any act. -/
theorem rdo_any (o : O) (D : Option Addr) (dc : Nat) (h : Rf w B g b r.L r.n r.m) (ht : Tied r s M ix) (hM : M ≤ 40000) (hD : RdB w D o.data) (hdl : o.data.length ≤ 1000000) :
    Calls Tryz.prog 9 #[.pointer (some ⟨g, 0, none⟩), opV o D dc] w (RP w B g b (doR2 r o)) := by
  by_cases hk : o.kind < 1 ∨ 7 < o.kind
  · exact rdo_bad o D dc h hk
  · obtain ⟨K, pa, pt, da, n⟩ := o
    have hk' : K = 1 ∨ K = 2 ∨ K = 3 ∨ K = 4 ∨ K = 5 ∨ K = 6 ∨ K = 7 := by
      dsimp only at hk
      omega
    rcases hk' with rfl | rfl | rfl | rfl | rfl | rfl | rfl
    · exact rdo_1 pa pt da n D dc h ht hM hD hdl
    · exact rdo_2 pa pt da n D dc h ht hM hD hdl
    · exact rdo_3 pa pt da n D dc h ht hM hD hdl
    · exact rdo_4 pa pt da n D dc h ht hM hD hdl
    · exact rdo_5 pa pt da n D dc h ht hM hD hdl
    · exact rdo_6 pa pt da n D dc h ht hM hD hdl
    · exact rdo_7 pa pt da n D dc h ht hM hD hdl
end
end Go.Proofs.YtpdcjdangnfeiaaGreatDoor.Rc
end
