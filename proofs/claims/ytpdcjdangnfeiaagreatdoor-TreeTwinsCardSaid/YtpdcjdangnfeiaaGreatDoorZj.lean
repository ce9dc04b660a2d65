/- make, remove on whole paths; Split of the reference. The reference's Do walked, kind by kind. -/
import Derived.Test.YtpdcjdangnfeiaaGreatDoorZi
import Derived.Test.YtpdcjdangnfeiaaGreatDoorZh
section
open Go Go.RowKit Go.Proofs.YtpdcjdangnfeiaaGreatDoor.Pb Go.Proofs.YtpdcjdangnfeiaaGreatDoor.PPrf Go.Proofs.YtpdcjdangnfeiaaGreatDoorW.PrintWords Go.Proofs.YtpdcjdangnfeiaaGreatDoorW.PrintLast Go.Proofs.YtpdcjdangnfeiaaGreatDoorW.PrintMore Go.Proofs.YtpdcjdangnfeiaaGreatDoor.Qa Go.Proofs.YtpdcjdangnfeiaaGreatDoor.Tb Go.Proofs.YtpdcjdangnfeiaaGreatDoor.Rb Go.Proofs.YtpdcjdangnfeiaaGreatDoor.Ba Go.Proofs.YtpdcjdangnfeiaaGreatDoor.Rd Go.Proofs.YtpdcjdangnfeiaaGreatDoor.Te Go.Proofs.YtpdcjdangnfeiaaGreatDoor.Rq Go.Proofs.YtpdcjdangnfeiaaGreatDoor.Ui Go.Proofs.YtpdcjdangnfeiaaGreatDoor.Ua Go.Proofs.YtpdcjdangnfeiaaGreatDoor.Uz
namespace Go.Proofs.YtpdcjdangnfeiaaGreatDoor.Rc
theorem split_ref (s : ByteArray) (w : World) : Calls Tryz.prog 21 #[.string s] w fun e w' => ∃ A c, e = .returned (.tuple #[.slice A (splitP s).1.length c, .int .i64 (splitP s).2]) ∧ RdN w' A (splitP s).1 ∧ (splitP s).1.length ≤ c ∧ Below w.heap.size w w' := by
  refine (mailbagref10_Split.calls 700 s _ _ w (Ra.split_eq s 700 (Nat.le_refl _))).mono ?_
  rintro e w' ⟨v, rfl, hR, hb⟩
  obtain ⟨A, c, rfl, h1, h2⟩ := kdR_strings hR
  exact ⟨A, c, rfl, h1, h2, hb⟩
set_option maxHeartbeats 4000000 in
set_option maxRecDepth 100000 in
theorem make_nil {w : World} {B g b : Nat} {r : RS} (A : Option Addr) (c : Nat) (d : Bool) (h : Rf w B g b r.L r.n r.m) : Calls Tryz.prog 22 #[.pointer (some ⟨g, 0, none⟩), .slice A 0 c, .bool d] w (RP w B g b (r, 9)) := by
  have H := Lib.hid h
  clear h
  go_enter Tryz.func22, Tryz.ntmps22
  go_wp2
  go_ret
  exact rp_same rfl rfl H.out (Below.refl _ _)
section
variable {w : World} {B g b M : Nat} {r : RS} {s : Ua.S} {ix : Wy → Option Nat}
theorem Tied.bounds (h : Tied r s M ix) (hM : M ≤ 40000) : (0 ≤ r.n ∧ r.n ≤ 900000000) ∧ 0 ≤ r.m ∧ r.m ≤ 900000000 := by
  have h1 := h.n
  have h2 := h.m
  have h3 := h.bn
  have h4 := h.bm
  omega
theorem make_all (A : Option Addr) (c : Nat) (l : Wy) (d : Bool) (h : Rf w B g b r.L r.n r.m) (ht : Tied r s M ix) (hM : M ≤ 40000) (hl : RdN w A l) (hn : l.length ≤ 8) (hc : l.length ≤ c) (hx : ∀ x ∈ l, nmL x.data.toList = true) :
    Calls Tryz.prog 22 #[.pointer (some ⟨g, 0, none⟩), .slice A l.length c, .bool d] w (RP w B g b (if l = [] then (r, 9) else makeR2 r l.dropLast (lastW l) d)) := by
  by_cases l0 : l = []
  · subst l0
    rw [if_pos rfl]
    exact make_nil A c d h
  · rw [if_neg l0]
    obtain ⟨b1, b2⟩ := ht.bounds hM
    have e := last_eq l0
    have hm := hx _ (last_mem l0)
    have := make_any A c l.dropLast (lastW l) d h ht.wf (by omega) (by rw [e]; exact hl) (by rw [List.length_dropLast]; omega) (by rw [e]; exact hc) (by omega) (by omega) hm (nm_ne hm)
    rwa [e] at this
theorem remove_all (A : Option Addr) (c : Nat) (l : Wy) (d : Bool) (h : Rf w B g b r.L r.n r.m) (ht : Tied r s M ix) (hM : M ≤ 40000) (hl : RdN w A l) (hn : l.length ≤ 8) (hc : l.length ≤ c) :
    Calls Tryz.prog 24 #[.pointer (some ⟨g, 0, none⟩), .slice A l.length c, .bool d] w (RP w B g b (if l = [] then (r, if d = true then 13 else 10) else removeR2 r l.dropLast (lastW l) d)) := by
  by_cases l0 : l = []
  · subst l0
    rw [if_pos rfl]
    exact remove_root A c d h ht.wf (by omega) ht.rel.rdir
  · rw [if_neg l0]
    obtain ⟨b1, b2⟩ := ht.bounds hM
    have e := last_eq l0
    have := remove_any A c l.dropLast (lastW l) d h ht.wf (by omega) (by rw [e]; exact hl) (by rw [List.length_dropLast]; omega) (by rw [e]; exact hc) b1 b2 (remove_hat ht _ _)
    rwa [e] at this
end
end Go.Proofs.YtpdcjdangnfeiaaGreatDoor.Rc
namespace Go.Proofs.YtpdcjdangnfeiaaGreatDoor.Rc
section
variable {w : World} {B g b M : Nat} {r : RS} {s : Ua.S} {ix : Wy → Option Nat}
set_option maxHeartbeats 4000000 in
set_option maxRecDepth 100000 in
/-- A kind that is none. -/
theorem rdo_bad (o : O) (D : Option Addr) (dc : Nat) (h : Rf w B g b r.L r.n r.m) (hk : o.kind < 1 ∨ 7 < o.kind) : Calls Tryz.prog 9 #[.pointer (some ⟨g, 0, none⟩), opV o D dc] w (RP w B g b (doR2 r o)) := by
  obtain ⟨Z, hZ⟩ : ∃ Z, doR2 r o = Z := ⟨_, rfl⟩
  rw [hZ]
  unfold doR2 at hZ
  rw [if_pos hk] at hZ
  obtain ⟨K, pa, pt, da, n⟩ := o
  unfold opV
  dsimp only at hk ⊢
  have HZ := Lib.hid hZ
  have H := Lib.hid h
  have HB := Lib.hid (show Below w.heap.size w (w.alloc (Obj.cells #[.int .i64 K, .string pa, .string pt, .slice D da.length dc, .int .i64 n] 37)) from (Below.refl _ _).alloc (Nat.le_refl _) _)
  clear hZ h
  by_cases h1 : K < 1
  · go_enter Tryz.func9, Tryz.ntmps9
    go_wp2
    go_ret
    exact rp_same HZ.out.symm rfl H.out HB.out
  · have h7 : 7 < K := by omega
    go_enter Tryz.func9, Tryz.ntmps9
    go_wp2
    go_ret
    exact rp_same HZ.out.symm rfl H.out HB.out
set_option maxHeartbeats 4000000 in
set_option maxRecDepth 100000 in
theorem rdo_1 (pa pt : ByteArray) (da : List UInt8) (n : Int) (D : Option Addr) (dc : Nat) (h : Rf w B g b r.L r.n r.m) (ht : Tied r s M ix) (hM : M ≤ 40000) (hD : RdB w D da) (hdl : da.length ≤ 1000000) :
    Calls Tryz.prog 9 #[.pointer (some ⟨g, 0, none⟩), opV ⟨1, pa, pt, da, n⟩ D dc] w (RP w B g b (doR2 r ⟨1, pa, pt, da, n⟩)) := by
  obtain ⟨Z, hZ⟩ : ∃ Z, doR2 r ⟨1, pa, pt, da, n⟩ = Z := ⟨_, rfl⟩
  rw [hZ]
  unfold doR2 at hZ
  dsimp only at hZ
  rw [if_neg (show ¬ ((1 : Int) < 1 ∨ 7 < (1 : Int)) by omega)] at hZ
  unfold opV
  dsimp only
  have hb1 : Below w.heap.size w (w.alloc (Obj.cells #[.int .i64 1, .string pa, .string pt, .slice D da.length dc, .int .i64 n] 37)) := (Below.refl _ _).alloc (Nat.le_refl _) _
  have hx := Go.heap_alloc_new w (Obj.cells #[.int .i64 1, .string pa, .string pt, .slice D da.length dc, .int .i64 n] 37)
  have hsp := split_ref pa (w.alloc (Obj.cells #[.int .i64 1, .string pa, .string pt, .slice D da.length dc, .int .i64 n] 37))
  obtain ⟨b1, b2⟩ := ht.bounds hM
  obtain ⟨l, hl⟩ : ∃ l, (splitP pa).1 = l := ⟨_, rfl⟩
  obtain ⟨E, hE⟩ : ∃ E, (splitP pa).2 = E := ⟨_, rfl⟩
  have hnames := fun h0 => Uz.split_names (s := pa) h0
  rw [hl, hE] at hsp hZ hnames
  obtain ⟨t, hte⟩ : ∃ t, l.length = t := ⟨_, rfl⟩
  have HSP := Lib.hid hsp
  have H := Lib.hid h
  have HT := Lib.hid ht
  have HD := Lib.hid hD
  have HB1 := Lib.hid hb1
  have HX := Lib.hid hx
  have HNM := Lib.hid hnames
  have HTE := Lib.hid hte
  have HDL := Lib.hid hdl
  obtain ⟨dl, hdle⟩ : ∃ d, da.length = d := ⟨_, rfl⟩
  clear hsp h ht hD hl hE hb1 hx hnames hte hdl hdle
  by_cases cE : E = 0
  case neg =>
    rw [if_pos cE] at hZ
    have HZ := Lib.hid hZ
    clear hZ
    go_enter Tryz.func9, Tryz.ntmps9
    go_wp2_with (first | (go_at_call 21; refine HSP.out.mono ?_; rintro e w2 ⟨A, c, rfl, -, -, hb2⟩) | fail)
    go_ret
    exact rp_same HZ.out.symm rfl H.out (HB1.out.trans (hb2.mono HB1.out.size))
  case pos =>
    subst cE
    rw [if_neg (show ¬ (0 : Int) ≠ 0 by simp)] at hZ
    rw [if_pos (show (1 : Int) ≤ 2 by omega), show decide ((1 : Int) = 2) = false from rfl] at hZ
    have HZ := Lib.hid hZ
    obtain ⟨hl8, hnm0⟩ := HNM.out rfl
    have HL8 := Lib.hid hl8
    have HNM0 := Lib.hid hnm0
    clear hZ hl8 hnm0 HNM
    go_enter Tryz.func9, Tryz.ntmps9
    go_wp2_with fail
    refine HSP.out.mono ?_
    rintro e w2 ⟨A, c, rfl, hr, hc, hb2⟩
    have HB2 := Lib.hid (HB1.out.trans (hb2.mono HB1.out.size))
    have hx2 := (hb2.block _ (Array.getElem?_eq_some_iff.1 HX.out).1).trans HX.out
    have x0 : w2.cell? ⟨w.heap.size, 0, none⟩ = some (.int .i64 1) := blk_cell hx2 0
    have x1 : w2.cell? ⟨w.heap.size, 1, none⟩ = some (.string pa) := blk_cell hx2 1
    have x2 : w2.cell? ⟨w.heap.size, 2, none⟩ = some (.string pt) := blk_cell hx2 2
    have x3 : w2.cell? ⟨w.heap.size, 3, none⟩ = some (.slice D da.length dc) := blk_cell hx2 3
    have x4 : w2.cell? ⟨w.heap.size, 4, none⟩ = some (.int .i64 n) := blk_cell hx2 4
    have hl8 := HL8.out
    have hnm0 := HNM0.out
    have hnm : ∀ x ∈ l, nmL x.data.toList = true := fun x hx => (hnm0 x hx).2
    have hdl := HDL.out
    have hcall := make_all A c l false (H.out.below HB2.out) HT.out hM hr hl8 hc hnm
    rw [HZ.out] at hcall
    have HCALL := Lib.hid hcall
    clear hcall hr hc hb2 hx2 hl8 hnm0 hnm hdl
    go_wp2_with fail
    refine HCALL.out.mono ?_
    rintro e w3 ⟨rfl, hp⟩
    have HP := Lib.hid hp
    clear hp
    go_wp2
    go_ret
    exact ⟨rfl, Rp.from HB2.out H.out HP.out⟩
set_option maxHeartbeats 4000000 in
set_option maxRecDepth 100000 in
theorem rdo_2 (pa pt : ByteArray) (da : List UInt8) (n : Int) (D : Option Addr) (dc : Nat) (h : Rf w B g b r.L r.n r.m) (ht : Tied r s M ix) (hM : M ≤ 40000) (hD : RdB w D da) (hdl : da.length ≤ 1000000) :
    Calls Tryz.prog 9 #[.pointer (some ⟨g, 0, none⟩), opV ⟨2, pa, pt, da, n⟩ D dc] w (RP w B g b (doR2 r ⟨2, pa, pt, da, n⟩)) := by
  obtain ⟨Z, hZ⟩ : ∃ Z, doR2 r ⟨2, pa, pt, da, n⟩ = Z := ⟨_, rfl⟩
  rw [hZ]
  unfold doR2 at hZ
  dsimp only at hZ
  rw [if_neg (show ¬ ((2 : Int) < 1 ∨ 7 < (2 : Int)) by omega)] at hZ
  unfold opV
  dsimp only
  have hb1 : Below w.heap.size w (w.alloc (Obj.cells #[.int .i64 2, .string pa, .string pt, .slice D da.length dc, .int .i64 n] 37)) := (Below.refl _ _).alloc (Nat.le_refl _) _
  have hx := Go.heap_alloc_new w (Obj.cells #[.int .i64 2, .string pa, .string pt, .slice D da.length dc, .int .i64 n] 37)
  have hsp := split_ref pa (w.alloc (Obj.cells #[.int .i64 2, .string pa, .string pt, .slice D da.length dc, .int .i64 n] 37))
  obtain ⟨b1, b2⟩ := ht.bounds hM
  obtain ⟨l, hl⟩ : ∃ l, (splitP pa).1 = l := ⟨_, rfl⟩
  obtain ⟨E, hE⟩ : ∃ E, (splitP pa).2 = E := ⟨_, rfl⟩
  have hnames := fun h0 => Uz.split_names (s := pa) h0
  rw [hl, hE] at hsp hZ hnames
  obtain ⟨t, hte⟩ : ∃ t, l.length = t := ⟨_, rfl⟩
  have HSP := Lib.hid hsp
  have H := Lib.hid h
  have HT := Lib.hid ht
  have HD := Lib.hid hD
  have HB1 := Lib.hid hb1
  have HX := Lib.hid hx
  have HNM := Lib.hid hnames
  have HTE := Lib.hid hte
  have HDL := Lib.hid hdl
  obtain ⟨dl, hdle⟩ : ∃ d, da.length = d := ⟨_, rfl⟩
  clear hsp h ht hD hl hE hb1 hx hnames hte hdl hdle
  by_cases cE : E = 0
  case neg =>
    rw [if_pos cE] at hZ
    have HZ := Lib.hid hZ
    clear hZ
    go_enter Tryz.func9, Tryz.ntmps9
    go_wp2_with (first | (go_at_call 21; refine HSP.out.mono ?_; rintro e w2 ⟨A, c, rfl, -, -, hb2⟩) | fail)
    go_ret
    exact rp_same HZ.out.symm rfl H.out (HB1.out.trans (hb2.mono HB1.out.size))
  case pos =>
    subst cE
    rw [if_neg (show ¬ (0 : Int) ≠ 0 by simp)] at hZ
    rw [if_pos (show (2 : Int) ≤ 2 by omega), show decide ((2 : Int) = 2) = true from rfl] at hZ
    have HZ := Lib.hid hZ
    obtain ⟨hl8, hnm0⟩ := HNM.out rfl
    have HL8 := Lib.hid hl8
    have HNM0 := Lib.hid hnm0
    clear hZ hl8 hnm0 HNM
    go_enter Tryz.func9, Tryz.ntmps9
    go_wp2_with fail
    refine HSP.out.mono ?_
    rintro e w2 ⟨A, c, rfl, hr, hc, hb2⟩
    have HB2 := Lib.hid (HB1.out.trans (hb2.mono HB1.out.size))
    have hx2 := (hb2.block _ (Array.getElem?_eq_some_iff.1 HX.out).1).trans HX.out
    have x0 : w2.cell? ⟨w.heap.size, 0, none⟩ = some (.int .i64 2) := blk_cell hx2 0
    have x1 : w2.cell? ⟨w.heap.size, 1, none⟩ = some (.string pa) := blk_cell hx2 1
    have x2 : w2.cell? ⟨w.heap.size, 2, none⟩ = some (.string pt) := blk_cell hx2 2
    have x3 : w2.cell? ⟨w.heap.size, 3, none⟩ = some (.slice D da.length dc) := blk_cell hx2 3
    have x4 : w2.cell? ⟨w.heap.size, 4, none⟩ = some (.int .i64 n) := blk_cell hx2 4
    have hl8 := HL8.out
    have hnm0 := HNM0.out
    have hnm : ∀ x ∈ l, nmL x.data.toList = true := fun x hx => (hnm0 x hx).2
    have hdl := HDL.out
    have hcall := make_all A c l true (H.out.below HB2.out) HT.out hM hr hl8 hc hnm
    rw [HZ.out] at hcall
    have HCALL := Lib.hid hcall
    clear hcall hr hc hb2 hx2 hl8 hnm0 hnm hdl
    go_wp2_with fail
    refine HCALL.out.mono ?_
    rintro e w3 ⟨rfl, hp⟩
    have HP := Lib.hid hp
    clear hp
    go_wp2
    go_ret
    exact ⟨rfl, Rp.from HB2.out H.out HP.out⟩
set_option maxHeartbeats 4000000 in
set_option maxRecDepth 100000 in
theorem rdo_3 (pa pt : ByteArray) (da : List UInt8) (n : Int) (D : Option Addr) (dc : Nat) (h : Rf w B g b r.L r.n r.m) (ht : Tied r s M ix) (hM : M ≤ 40000) (hD : RdB w D da) (hdl : da.length ≤ 1000000) :
    Calls Tryz.prog 9 #[.pointer (some ⟨g, 0, none⟩), opV ⟨3, pa, pt, da, n⟩ D dc] w (RP w B g b (doR2 r ⟨3, pa, pt, da, n⟩)) := by
  obtain ⟨Z, hZ⟩ : ∃ Z, doR2 r ⟨3, pa, pt, da, n⟩ = Z := ⟨_, rfl⟩
  rw [hZ]
  unfold doR2 at hZ
  dsimp only at hZ
  rw [if_neg (show ¬ ((3 : Int) < 1 ∨ 7 < (3 : Int)) by omega)] at hZ
  unfold opV
  dsimp only
  have hb1 : Below w.heap.size w (w.alloc (Obj.cells #[.int .i64 3, .string pa, .string pt, .slice D da.length dc, .int .i64 n] 37)) := (Below.refl _ _).alloc (Nat.le_refl _) _
  have hx := Go.heap_alloc_new w (Obj.cells #[.int .i64 3, .string pa, .string pt, .slice D da.length dc, .int .i64 n] 37)
  have hsp := split_ref pa (w.alloc (Obj.cells #[.int .i64 3, .string pa, .string pt, .slice D da.length dc, .int .i64 n] 37))
  obtain ⟨b1, b2⟩ := ht.bounds hM
  obtain ⟨l, hl⟩ : ∃ l, (splitP pa).1 = l := ⟨_, rfl⟩
  obtain ⟨E, hE⟩ : ∃ E, (splitP pa).2 = E := ⟨_, rfl⟩
  have hnames := fun h0 => Uz.split_names (s := pa) h0
  rw [hl, hE] at hsp hZ hnames
  obtain ⟨t, hte⟩ : ∃ t, l.length = t := ⟨_, rfl⟩
  have HSP := Lib.hid hsp
  have H := Lib.hid h
  have HT := Lib.hid ht
  have HD := Lib.hid hD
  have HB1 := Lib.hid hb1
  have HX := Lib.hid hx
  have HNM := Lib.hid hnames
  have HTE := Lib.hid hte
  have HDL := Lib.hid hdl
  obtain ⟨dl, hdle⟩ : ∃ d, da.length = d := ⟨_, rfl⟩
  clear hsp h ht hD hl hE hb1 hx hnames hte hdl hdle
  by_cases cE : E = 0
  case neg =>
    rw [if_pos cE] at hZ
    have HZ := Lib.hid hZ
    clear hZ
    go_enter Tryz.func9, Tryz.ntmps9
    go_wp2_with (first | (go_at_call 21; refine HSP.out.mono ?_; rintro e w2 ⟨A, c, rfl, -, -, hb2⟩) | fail)
    go_ret
    exact rp_same HZ.out.symm rfl H.out (HB1.out.trans (hb2.mono HB1.out.size))
  case pos =>
    subst cE
    rw [if_neg (show ¬ (0 : Int) ≠ 0 by simp)] at hZ
    rw [if_neg (show ¬ (3 : Int) ≤ 2 by omega), if_pos (show (3 : Int) ≤ 4 by omega)] at hZ
    have HZ := Lib.hid hZ
    obtain ⟨hl8, hnm0⟩ := HNM.out rfl
    have HL8 := Lib.hid hl8
    have HNM0 := Lib.hid hnm0
    clear hZ hl8 hnm0 HNM
    go_enter Tryz.func9, Tryz.ntmps9
    go_wp2_with fail
    refine HSP.out.mono ?_
    rintro e w2 ⟨A, c, rfl, hr, hc, hb2⟩
    have HB2 := Lib.hid (HB1.out.trans (hb2.mono HB1.out.size))
    have hx2 := (hb2.block _ (Array.getElem?_eq_some_iff.1 HX.out).1).trans HX.out
    have x0 : w2.cell? ⟨w.heap.size, 0, none⟩ = some (.int .i64 3) := blk_cell hx2 0
    have x1 : w2.cell? ⟨w.heap.size, 1, none⟩ = some (.string pa) := blk_cell hx2 1
    have x2 : w2.cell? ⟨w.heap.size, 2, none⟩ = some (.string pt) := blk_cell hx2 2
    have x3 : w2.cell? ⟨w.heap.size, 3, none⟩ = some (.slice D da.length dc) := blk_cell hx2 3
    have x4 : w2.cell? ⟨w.heap.size, 4, none⟩ = some (.int .i64 n) := blk_cell hx2 4
    have hl8 := HL8.out
    have hnm0 := HNM0.out
    have hnm : ∀ x ∈ l, nmL x.data.toList = true := fun x hx => (hnm0 x hx).2
    have hdl := HDL.out
    have hcall := data_any A c l ⟨3, pa, pt, da, n⟩ D dc (H.out.below HB2.out) HT.out.wf (by omega) hr (by omega) (by omega) (HD.out.below HB2.out) hdl
    unfold opV at hcall
    dsimp only at hcall
    rw [HZ.out] at hcall
    have HCALL := Lib.hid hcall
    clear hcall hr hc hb2 hx2 hl8 hnm0 hnm hdl
    go_wp2_with fail
    refine HCALL.out.mono ?_
    rintro e w3 ⟨rfl, hp⟩
    have HP := Lib.hid hp
    clear hp
    go_wp2
    go_ret
    exact ⟨rfl, Rp.from HB2.out H.out HP.out⟩
set_option maxHeartbeats 4000000 in
set_option maxRecDepth 100000 in
theorem rdo_4 (pa pt : ByteArray) (da : List UInt8) (n : Int) (D : Option Addr) (dc : Nat) (h : Rf w B g b r.L r.n r.m) (ht : Tied r s M ix) (hM : M ≤ 40000) (hD : RdB w D da) (hdl : da.length ≤ 1000000) :
    Calls Tryz.prog 9 #[.pointer (some ⟨g, 0, none⟩), opV ⟨4, pa, pt, da, n⟩ D dc] w (RP w B g b (doR2 r ⟨4, pa, pt, da, n⟩)) := by
  obtain ⟨Z, hZ⟩ : ∃ Z, doR2 r ⟨4, pa, pt, da, n⟩ = Z := ⟨_, rfl⟩
  rw [hZ]
  unfold doR2 at hZ
  dsimp only at hZ
  rw [if_neg (show ¬ ((4 : Int) < 1 ∨ 7 < (4 : Int)) by omega)] at hZ
  unfold opV
  dsimp only
  have hb1 : Below w.heap.size w (w.alloc (Obj.cells #[.int .i64 4, .string pa, .string pt, .slice D da.length dc, .int .i64 n] 37)) := (Below.refl _ _).alloc (Nat.le_refl _) _
  have hx := Go.heap_alloc_new w (Obj.cells #[.int .i64 4, .string pa, .string pt, .slice D da.length dc, .int .i64 n] 37)
  have hsp := split_ref pa (w.alloc (Obj.cells #[.int .i64 4, .string pa, .string pt, .slice D da.length dc, .int .i64 n] 37))
  obtain ⟨b1, b2⟩ := ht.bounds hM
  obtain ⟨l, hl⟩ : ∃ l, (splitP pa).1 = l := ⟨_, rfl⟩
  obtain ⟨E, hE⟩ : ∃ E, (splitP pa).2 = E := ⟨_, rfl⟩
  have hnames := fun h0 => Uz.split_names (s := pa) h0
  rw [hl, hE] at hsp hZ hnames
  obtain ⟨t, hte⟩ : ∃ t, l.length = t := ⟨_, rfl⟩
  have HSP := Lib.hid hsp
  have H := Lib.hid h
  have HT := Lib.hid ht
  have HD := Lib.hid hD
  have HB1 := Lib.hid hb1
  have HX := Lib.hid hx
  have HNM := Lib.hid hnames
  have HTE := Lib.hid hte
  have HDL := Lib.hid hdl
  obtain ⟨dl, hdle⟩ : ∃ d, da.length = d := ⟨_, rfl⟩
  clear hsp h ht hD hl hE hb1 hx hnames hte hdl hdle
  by_cases cE : E = 0
  case neg =>
    rw [if_pos cE] at hZ
    have HZ := Lib.hid hZ
    clear hZ
    go_enter Tryz.func9, Tryz.ntmps9
    go_wp2_with (first | (go_at_call 21; refine HSP.out.mono ?_; rintro e w2 ⟨A, c, rfl, -, -, hb2⟩) | fail)
    go_ret
    exact rp_same HZ.out.symm rfl H.out (HB1.out.trans (hb2.mono HB1.out.size))
  case pos =>
    subst cE
    rw [if_neg (show ¬ (0 : Int) ≠ 0 by simp)] at hZ
    rw [if_neg (show ¬ (4 : Int) ≤ 2 by omega), if_pos (show (4 : Int) ≤ 4 by omega)] at hZ
    have HZ := Lib.hid hZ
    obtain ⟨hl8, hnm0⟩ := HNM.out rfl
    have HL8 := Lib.hid hl8
    have HNM0 := Lib.hid hnm0
    clear hZ hl8 hnm0 HNM
    go_enter Tryz.func9, Tryz.ntmps9
    go_wp2_with fail
    refine HSP.out.mono ?_
    rintro e w2 ⟨A, c, rfl, hr, hc, hb2⟩
    have HB2 := Lib.hid (HB1.out.trans (hb2.mono HB1.out.size))
    have hx2 := (hb2.block _ (Array.getElem?_eq_some_iff.1 HX.out).1).trans HX.out
    have x0 : w2.cell? ⟨w.heap.size, 0, none⟩ = some (.int .i64 4) := blk_cell hx2 0
    have x1 : w2.cell? ⟨w.heap.size, 1, none⟩ = some (.string pa) := blk_cell hx2 1
    have x2 : w2.cell? ⟨w.heap.size, 2, none⟩ = some (.string pt) := blk_cell hx2 2
    have x3 : w2.cell? ⟨w.heap.size, 3, none⟩ = some (.slice D da.length dc) := blk_cell hx2 3
    have x4 : w2.cell? ⟨w.heap.size, 4, none⟩ = some (.int .i64 n) := blk_cell hx2 4
    have hl8 := HL8.out
    have hnm0 := HNM0.out
    have hnm : ∀ x ∈ l, nmL x.data.toList = true := fun x hx => (hnm0 x hx).2
    have hdl := HDL.out
    have hcall := data_any A c l ⟨4, pa, pt, da, n⟩ D dc (H.out.below HB2.out) HT.out.wf (by omega) hr (by omega) (by omega) (HD.out.below HB2.out) hdl
    unfold opV at hcall
    dsimp only at hcall
    rw [HZ.out] at hcall
    have HCALL := Lib.hid hcall
    clear hcall hr hc hb2 hx2 hl8 hnm0 hnm hdl
    go_wp2_with fail
    refine HCALL.out.mono ?_
    rintro e w3 ⟨rfl, hp⟩
    have HP := Lib.hid hp
    clear hp
    go_wp2
    go_ret
    exact ⟨rfl, Rp.from HB2.out H.out HP.out⟩
set_option maxHeartbeats 4000000 in
set_option maxRecDepth 100000 in
theorem rdo_5 (pa pt : ByteArray) (da : List UInt8) (n : Int) (D : Option Addr) (dc : Nat) (h : Rf w B g b r.L r.n r.m) (ht : Tied r s M ix) (hM : M ≤ 40000) (hD : RdB w D da) (hdl : da.length ≤ 1000000) :
    Calls Tryz.prog 9 #[.pointer (some ⟨g, 0, none⟩), opV ⟨5, pa, pt, da, n⟩ D dc] w (RP w B g b (doR2 r ⟨5, pa, pt, da, n⟩)) := by
  obtain ⟨Z, hZ⟩ : ∃ Z, doR2 r ⟨5, pa, pt, da, n⟩ = Z := ⟨_, rfl⟩
  rw [hZ]
  unfold doR2 at hZ
  dsimp only at hZ
  rw [if_neg (show ¬ ((5 : Int) < 1 ∨ 7 < (5 : Int)) by omega)] at hZ
  unfold opV
  dsimp only
  have hb1 : Below w.heap.size w (w.alloc (Obj.cells #[.int .i64 5, .string pa, .string pt, .slice D da.length dc, .int .i64 n] 37)) := (Below.refl _ _).alloc (Nat.le_refl _) _
  have hx := Go.heap_alloc_new w (Obj.cells #[.int .i64 5, .string pa, .string pt, .slice D da.length dc, .int .i64 n] 37)
  have hsp := split_ref pa (w.alloc (Obj.cells #[.int .i64 5, .string pa, .string pt, .slice D da.length dc, .int .i64 n] 37))
  obtain ⟨b1, b2⟩ := ht.bounds hM
  obtain ⟨l, hl⟩ : ∃ l, (splitP pa).1 = l := ⟨_, rfl⟩
  obtain ⟨E, hE⟩ : ∃ E, (splitP pa).2 = E := ⟨_, rfl⟩
  have hnames := fun h0 => Uz.split_names (s := pa) h0
  rw [hl, hE] at hsp hZ hnames
  obtain ⟨t, hte⟩ : ∃ t, l.length = t := ⟨_, rfl⟩
  have HSP := Lib.hid hsp
  have H := Lib.hid h
  have HT := Lib.hid ht
  have HD := Lib.hid hD
  have HB1 := Lib.hid hb1
  have HX := Lib.hid hx
  have HNM := Lib.hid hnames
  have HTE := Lib.hid hte
  have HDL := Lib.hid hdl
  obtain ⟨dl, hdle⟩ : ∃ d, da.length = d := ⟨_, rfl⟩
  clear hsp h ht hD hl hE hb1 hx hnames hte hdl hdle
  by_cases cE : E = 0
  case neg =>
    rw [if_pos cE] at hZ
    have HZ := Lib.hid hZ
    clear hZ
    go_enter Tryz.func9, Tryz.ntmps9
    go_wp2_with (first | (go_at_call 21; refine HSP.out.mono ?_; rintro e w2 ⟨A, c, rfl, -, -, hb2⟩) | fail)
    go_ret
    exact rp_same HZ.out.symm rfl H.out (HB1.out.trans (hb2.mono HB1.out.size))
  case pos =>
    subst cE
    rw [if_neg (show ¬ (0 : Int) ≠ 0 by simp)] at hZ
    rw [if_neg (show ¬ (5 : Int) ≤ 2 by omega), if_neg (show ¬ (5 : Int) ≤ 4 by omega), if_pos (show (5 : Int) ≤ 6 by omega), show decide ((5 : Int) = 6) = false from rfl] at hZ
    have HZ := Lib.hid hZ
    obtain ⟨hl8, hnm0⟩ := HNM.out rfl
    have HL8 := Lib.hid hl8
    have HNM0 := Lib.hid hnm0
    clear hZ hl8 hnm0 HNM
    go_enter Tryz.func9, Tryz.ntmps9
    go_wp2_with fail
    refine HSP.out.mono ?_
    rintro e w2 ⟨A, c, rfl, hr, hc, hb2⟩
    have HB2 := Lib.hid (HB1.out.trans (hb2.mono HB1.out.size))
    have hx2 := (hb2.block _ (Array.getElem?_eq_some_iff.1 HX.out).1).trans HX.out
    have x0 : w2.cell? ⟨w.heap.size, 0, none⟩ = some (.int .i64 5) := blk_cell hx2 0
    have x1 : w2.cell? ⟨w.heap.size, 1, none⟩ = some (.string pa) := blk_cell hx2 1
    have x2 : w2.cell? ⟨w.heap.size, 2, none⟩ = some (.string pt) := blk_cell hx2 2
    have x3 : w2.cell? ⟨w.heap.size, 3, none⟩ = some (.slice D da.length dc) := blk_cell hx2 3
    have x4 : w2.cell? ⟨w.heap.size, 4, none⟩ = some (.int .i64 n) := blk_cell hx2 4
    have hl8 := HL8.out
    have hnm0 := HNM0.out
    have hnm : ∀ x ∈ l, nmL x.data.toList = true := fun x hx => (hnm0 x hx).2
    have hdl := HDL.out
    have hcall := remove_all A c l false (H.out.below HB2.out) HT.out hM hr hl8 hc
    rw [HZ.out] at hcall
    have HCALL := Lib.hid hcall
    clear hcall hr hc hb2 hx2 hl8 hnm0 hnm hdl
    go_wp2_with fail
    refine HCALL.out.mono ?_
    rintro e w3 ⟨rfl, hp⟩
    have HP := Lib.hid hp
    clear hp
    go_wp2
    go_ret
    exact ⟨rfl, Rp.from HB2.out H.out HP.out⟩
set_option maxHeartbeats 4000000 in
set_option maxRecDepth 100000 in
theorem rdo_6 (pa pt : ByteArray) (da : List UInt8) (n : Int) (D : Option Addr) (dc : Nat) (h : Rf w B g b r.L r.n r.m) (ht : Tied r s M ix) (hM : M ≤ 40000) (hD : RdB w D da) (hdl : da.length ≤ 1000000) :
    Calls Tryz.prog 9 #[.pointer (some ⟨g, 0, none⟩), opV ⟨6, pa, pt, da, n⟩ D dc] w (RP w B g b (doR2 r ⟨6, pa, pt, da, n⟩)) := by
  obtain ⟨Z, hZ⟩ : ∃ Z, doR2 r ⟨6, pa, pt, da, n⟩ = Z := ⟨_, rfl⟩
  rw [hZ]
  unfold doR2 at hZ
  dsimp only at hZ
  rw [if_neg (show ¬ ((6 : Int) < 1 ∨ 7 < (6 : Int)) by omega)] at hZ
  unfold opV
  dsimp only
  have hb1 : Below w.heap.size w (w.alloc (Obj.cells #[.int .i64 6, .string pa, .string pt, .slice D da.length dc, .int .i64 n] 37)) := (Below.refl _ _).alloc (Nat.le_refl _) _
  have hx := Go.heap_alloc_new w (Obj.cells #[.int .i64 6, .string pa, .string pt, .slice D da.length dc, .int .i64 n] 37)
  have hsp := split_ref pa (w.alloc (Obj.cells #[.int .i64 6, .string pa, .string pt, .slice D da.length dc, .int .i64 n] 37))
  obtain ⟨b1, b2⟩ := ht.bounds hM
  obtain ⟨l, hl⟩ : ∃ l, (splitP pa).1 = l := ⟨_, rfl⟩
  obtain ⟨E, hE⟩ : ∃ E, (splitP pa).2 = E := ⟨_, rfl⟩
  have hnames := fun h0 => Uz.split_names (s := pa) h0
  rw [hl, hE] at hsp hZ hnames
  obtain ⟨t, hte⟩ : ∃ t, l.length = t := ⟨_, rfl⟩
  have HSP := Lib.hid hsp
  have H := Lib.hid h
  have HT := Lib.hid ht
  have HD := Lib.hid hD
  have HB1 := Lib.hid hb1
  have HX := Lib.hid hx
  have HNM := Lib.hid hnames
  have HTE := Lib.hid hte
  have HDL := Lib.hid hdl
  obtain ⟨dl, hdle⟩ : ∃ d, da.length = d := ⟨_, rfl⟩
  clear hsp h ht hD hl hE hb1 hx hnames hte hdl hdle
  by_cases cE : E = 0
  case neg =>
    rw [if_pos cE] at hZ
    have HZ := Lib.hid hZ
    clear hZ
    go_enter Tryz.func9, Tryz.ntmps9
    go_wp2_with (first | (go_at_call 21; refine HSP.out.mono ?_; rintro e w2 ⟨A, c, rfl, -, -, hb2⟩) | fail)
    go_ret
    exact rp_same HZ.out.symm rfl H.out (HB1.out.trans (hb2.mono HB1.out.size))
  case pos =>
    subst cE
    rw [if_neg (show ¬ (0 : Int) ≠ 0 by simp)] at hZ
    rw [if_neg (show ¬ (6 : Int) ≤ 2 by omega), if_neg (show ¬ (6 : Int) ≤ 4 by omega), if_pos (show (6 : Int) ≤ 6 by omega), show decide ((6 : Int) = 6) = true from rfl] at hZ
    simp only [if_true] at hZ
    have HZ := Lib.hid hZ
    obtain ⟨hl8, hnm0⟩ := HNM.out rfl
    have HL8 := Lib.hid hl8
    have HNM0 := Lib.hid hnm0
    clear hZ hl8 hnm0 HNM
    go_enter Tryz.func9, Tryz.ntmps9
    go_wp2_with fail
    refine HSP.out.mono ?_
    rintro e w2 ⟨A, c, rfl, hr, hc, hb2⟩
    have HB2 := Lib.hid (HB1.out.trans (hb2.mono HB1.out.size))
    have hx2 := (hb2.block _ (Array.getElem?_eq_some_iff.1 HX.out).1).trans HX.out
    have x0 : w2.cell? ⟨w.heap.size, 0, none⟩ = some (.int .i64 6) := blk_cell hx2 0
    have x1 : w2.cell? ⟨w.heap.size, 1, none⟩ = some (.string pa) := blk_cell hx2 1
    have x2 : w2.cell? ⟨w.heap.size, 2, none⟩ = some (.string pt) := blk_cell hx2 2
    have x3 : w2.cell? ⟨w.heap.size, 3, none⟩ = some (.slice D da.length dc) := blk_cell hx2 3
    have x4 : w2.cell? ⟨w.heap.size, 4, none⟩ = some (.int .i64 n) := blk_cell hx2 4
    have hl8 := HL8.out
    have hnm0 := HNM0.out
    have hnm : ∀ x ∈ l, nmL x.data.toList = true := fun x hx => (hnm0 x hx).2
    have hdl := HDL.out
    have hcall := remove_all A c l true (H.out.below HB2.out) HT.out hM hr hl8 hc
    rw [show (if true = true then (13 : Int) else 10) = 13 from rfl] at hcall
    rw [HZ.out] at hcall
    have HCALL := Lib.hid hcall
    clear hcall hr hc hb2 hx2 hl8 hnm0 hnm hdl
    go_wp2_with fail
    refine HCALL.out.mono ?_
    rintro e w3 ⟨rfl, hp⟩
    have HP := Lib.hid hp
    clear hp
    go_wp2
    go_ret
    exact ⟨rfl, Rp.from HB2.out H.out HP.out⟩
end
end Go.Proofs.YtpdcjdangnfeiaaGreatDoor.Rc
end
