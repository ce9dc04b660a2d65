/- The reference's New, Of, Twin and info walked. The reference's Of and info walked. -/
import Derived.Test.YtpdcjdangnfeiaaGreatDoorZe
section
open Go Go.RowKit Go.Proofs.YtpdcjdangnfeiaaGreatDoor.Pb Go.Proofs.YtpdcjdangnfeiaaGreatDoor.PPrf Go.Proofs.YtpdcjdangnfeiaaGreatDoorW.PrintWords Go.Proofs.YtpdcjdangnfeiaaGreatDoorW.PrintLast Go.Proofs.YtpdcjdangnfeiaaGreatDoorW.PrintMore Go.Proofs.YtpdcjdangnfeiaaGreatDoor.Qa Go.Proofs.YtpdcjdangnfeiaaGreatDoor.Tb Go.Proofs.YtpdcjdangnfeiaaGreatDoor.Rb Go.Proofs.YtpdcjdangnfeiaaGreatDoor.Ba Go.Proofs.YtpdcjdangnfeiaaGreatDoor.Rd Go.Proofs.YtpdcjdangnfeiaaGreatDoor.Te Go.Proofs.YtpdcjdangnfeiaaGreatDoor.Rq Go.Proofs.YtpdcjdangnfeiaaGreatDoor.Ui
namespace Go.Proofs.YtpdcjdangnfeiaaGreatDoor.Rc
set_option maxHeartbeats 4000000 in
set_option maxRecDepth 100000 in
/-- The document's New, of 60 blocks and 40 inodes. -/
theorem rnew_any (w : World) : Calls Tryz.prog 7 #[.int .i64 60, .int .i64 40] w fun e w' => ∃ g b, e = .returned (.tuple #[.pointer (some ⟨g, 0, none⟩), .int .i64 0]) ∧ Rf w' w.heap.size g b [⟨true, true, [], []⟩] 60 39 ∧ Below w.heap.size w w' := by
  go_enter Tryz.func7, Tryz.ntmps7
  go_wp2
  first | go_ret2 | go_ret3
  refine ⟨_, _, rfl, ⟨⟨by omega, Nat.le_refl w.heap.size⟩, by simp, ⟨1, by simp, ?_⟩, ⟨_, blk_alloc (Go.heap_alloc_new w _) _, ?_, ?_⟩⟩, ((Below.refl _ _).alloc (Nat.le_refl _) _).alloc (by simp) _⟩
  · have := Go.heap_alloc_new (w.alloc (Obj.cells #[.bool true, .bool true, .slice none 0 0, .slice none 0 0] 58)) (Obj.cells #[.slice (some ⟨w.heap.size, 0, none⟩) 1 1, .int .i64 60, .int .i64 39] 61)
    rw [World.size_alloc] at this
    exact this
  · intro j x hx
    have : j = 0 ∧ x = ⟨true, true, [], []⟩ := by
      cases j with
      | zero => simpa [eq_comm] using hx
      | succ j => simp at hx
    obtain ⟨rfl, rfl⟩ := this
    exact ⟨none, 0, none, 0, rfl, rfl, rfl, rfl, RdB.nil _ _, Nat.le_refl _, RdSl.nil _ _, Nat.le_refl _⟩
  · intro u hu
    have : u = .bool true ∨ u = .bool true ∨ u = .slice none 0 0 ∨ u = .slice none 0 0 := by simpa using hu
    rcases this with rfl | rfl | rfl | rfl
    · exact cv_bool _
    · exact cv_bool _
    · exact cv_slice _ _ _
    · exact cv_slice _ _ _
set_option maxHeartbeats 8000000 in
set_option maxRecDepth 100000 in
/-- (*Tree).Twin -/
theorem rtwin_any {w : World} {B g b M : Nat} {L : List T} {n m : Int} (h : Rf w B g b L n m) (hw : WfL L M) (hM : M ≤ 50000) : Calls Tryz.prog 12 #[.pointer (some ⟨g, 0, none⟩)] w fun e w' => ∃ g' b', e = .returned (.pointer (some ⟨g', 0, none⟩)) ∧ Rf w' w.heap.size g' b' L n m ∧ Below w.heap.size w w' := by
  have H := Lib.hid h
  obtain ⟨N, hN⟩ : ∃ N, L.length = N := ⟨_, rfl⟩
  have HN := Lib.hid hN
  have hNM : N ≤ 50000 := by have := hw.len; omega
  obtain ⟨cap, -, hT⟩ := h.tree
  rw [hN] at hT
  obtain ⟨cs, hCS, hRC⟩ := h.cells
  rw [hN] at hRC
  have g0 := blk_cell hT 0
  have g1 := blk_cell hT 1
  have g2 := blk_cell hT 2
  have hpos : 0 < N := by rw [← hN]; exact h.pos
  have HCC := Lib.hid hCS.cv
  have HCS := Lib.hid hCS
  have HBA := Lib.hid (show Below w.heap.size w (w.alloc (Obj.cells #[] 58)).drew from ((Below.refl w.heap.size w).alloc (Nat.le_refl _) _).drew)
  have HRC := Lib.hid (hRC.below HBA.out)
  have HOA := Lib.hid (show (w.alloc (Obj.cells #[] 58)).drew.ownsRow w.heap.size 58 4 (.slice (some ⟨w.heap.size, 0, none⟩) 0 0) 0 [] from own_empty w 58 4)
  have HPA := Lib.hid (show AllP Cv (w.alloc (Obj.cells #[] 58)).drew (.slice (some ⟨w.heap.size, 0, none⟩) 0 0) from allP_empty w 58 Cv)
  have HZC := Lib.hid (show ∀ c ∈ (Value.agg #[.bool false, .bool false, .slice none 0 0, .slice none 0 0]).cells.toList, Cv c from by
    intro u hu
    have : u = .bool false ∨ u = .bool false ∨ u = .slice none 0 0 ∨ u = .slice none 0 0 := by simpa [Value.cells] using hu
    rcases this with rfl | rfl | rfl | rfl
    · exact cv_bool _
    · exact cv_bool _
    · exact cv_slice _ _ _
    · exact cv_slice _ _ _)
  have HKS := Lib.hid (show ∀ W, Below w.heap.size w W → (fun W : World => W.cell? ⟨g, 0, none⟩ = some (.slice (some ⟨b, 0, none⟩) N cap) ∧ W.cell? ⟨g, 1, none⟩ = some (.int .i64 n) ∧ W.cell? ⟨g, 2, none⟩ = some (.int .i64 m)) W from fun W hb => ⟨keepC hb g0, keepC hb g1, keepC hb g2⟩)
  have HK0 := Lib.hid (kp0 (T := (fun W : World => W.cell? ⟨g, 0, none⟩ = some (.slice (some ⟨b, 0, none⟩) N cap) ∧ W.cell? ⟨g, 1, none⟩ = some (.int .i64 n) ∧ W.cell? ⟨g, 2, none⟩ = some (.int .i64 m))) HKS.out)
  clear h hw hN hT hCS hRC g0 g1 g2
  go_enter Tryz.func12, Tryz.ntmps12
  go_wp2_with fail
  go_region_held3 (fun W : World => Below w.heap.size w W ∧ W.cell? ⟨g, 0, none⟩ = some (.slice (some ⟨b, 0, none⟩) N cap) ∧ W.cell? ⟨g, 1, none⟩ = some (.int .i64 n) ∧ W.cell? ⟨g, 2, none⟩ = some (.int .i64 m)) (first | assumption | exact kpC (T := (fun W : World => W.cell? ⟨g, 0, none⟩ = some (.slice (some ⟨b, 0, none⟩) N cap) ∧ W.cell? ⟨g, 1, none⟩ = some (.int .i64 n) ∧ W.cell? ⟨g, 2, none⟩ = some (.int .i64 m))) (by assumption) (by assumption) HKS.out | exact kp1 (T := (fun W : World => W.cell? ⟨g, 0, none⟩ = some (.slice (some ⟨b, 0, none⟩) N cap) ∧ W.cell? ⟨g, 1, none⟩ = some (.int .i64 n) ∧ W.cell? ⟨g, 2, none⟩ = some (.int .i64 m))) (by first | assumption | exact HK0.out) HKS.out | exact kpA (T := (fun W : World => W.cell? ⟨g, 0, none⟩ = some (.slice (some ⟨b, 0, none⟩) N cap) ∧ W.cell? ⟨g, 1, none⟩ = some (.int .i64 n) ∧ W.cell? ⟨g, 2, none⟩ = some (.int .i64 m))) _ (by first | assumption | exact HK0.out) HKS.out)
    (first
      | (refine step_ownP Cv rfl (.tmp 3) (.tmp 7) 59 rfl w.heap.size 58 _ 4 56 Tryz.underlying59 info58 rfl (by decide) (by decide) (.slice (some ⟨w.heap.size, 0, none⟩) 0 0) 0 [] ⟨b, 0, none⟩ N cap cs (by simp [Act.eval]) rfl HOA.out HRC.out HBA.out.size (by omega) (by omega) HZC.out HCC.out HPA.out ?_
         intro v1 w3 hown hg hat hap
         have hb3 : Below w.heap.size w w3 := below_own HBA.out HOA.out hg
         have HOT := Lib.hid (show OwnT w w3 w.heap.size v1 L from ⟨hap, cs, HCS.out, by rw [HN.out]; simpa using hown⟩)
         obtain ⟨q, cap2, rfl, hq, hc2, hcs2⟩ := HOT.out.open (by rw [HN.out]; exact hpos)
         rw [HN.out] at hc2
         have HB3 := Lib.hid hb3
         have HQ := Lib.hid hq
         have HC2 := Lib.hid hc2
         have HCS2 := Lib.hid hcs2
         clear hat hg hown hap HOT hq hc2 hcs2)
      | fail)
  all_goals
    have hb9 : Below w.heap.size w (w3.alloc (Obj.cells #[.slice (some ⟨q, 0, none⟩) L.length cap2, .int .i64 n, .int .i64 m] 61)) := HB3.out.alloc HB3.out.size _
    obtain ⟨cs2, d1, d2, d3⟩ := HCS2.out
    have hfin : Rf (w3.alloc (Obj.cells #[.slice (some ⟨q, 0, none⟩) L.length cap2, .int .i64 n, .int .i64 m] 61)) w.heap.size w3.heap.size q L n m :=
      ⟨⟨HB3.out.size, HQ.out⟩, H.out.pos, ⟨cap2, by rw [HN.out]; exact HC2.out, Go.heap_alloc_new w3 _⟩, ⟨cs2, blk_alloc d1 _, fun j x hx => (d2 j x hx).fz (H.out.fz0 hb9), d3⟩⟩
    have HFIN := Lib.hid hfin
    have HB9 := Lib.hid hb9
    clear hb9 d1 d2 d3 hfin
    go_wp2
    go_ret
    exact ⟨_, q, rfl, HFIN.out, HB9.out⟩
end Go.Proofs.YtpdcjdangnfeiaaGreatDoor.Rc
open Go.Proofs.YtpdcjdangnfeiaaGreatDoor.Ua Go.Proofs.YtpdcjdangnfeiaaGreatDoor.Uz
namespace Go.Proofs.YtpdcjdangnfeiaaGreatDoor.Rc
set_option maxHeartbeats 4000000 in
set_option maxRecDepth 100000 in
/-- Of: the act as it is. -/
theorem of_any (w : World) (o : O) (D : Option Addr) (dc : Nat) : Calls Tryz.prog 10 #[opV o D dc] w fun e w' => e = .returned (opV o D dc) ∧ Below w.heap.size w w' := by
  unfold opV
  go_enter Tryz.func10, Tryz.ntmps10
  go_wp2
  exact bodyPost_ret (v := .agg #[.int .i64 o.kind, .string o.path, .string o.to, .slice D o.data.length dc, .int .i64 o.n]) (by simp [results, Tryz.results10, go_sem]) rfl ⟨rfl, ((Below.refl _ _).alloc (Nat.le_refl _) _).alloc (by simp) _⟩
set_option maxHeartbeats 8000000 in
set_option maxRecDepth 100000 in
/-- (*Tree).info -/
theorem rinfo_any {w : World} {B g b M : Nat} {L : List T} {n m : Int} (k : Nat) (h : Rf w B g b L n m) (hw : WfL L M) (hM : M ≤ 50000) (hk : k < L.length) :
    Calls Tryz.prog 88 #[.pointer (some ⟨g, 0, none⟩), .int .i64 k] w fun e w' => e = .returned (.agg #[.bool (thL L k).dir, .int .i64 (if (thL L k).dir then 0 else (thL L k).B.length : Nat), .int .i64 (if (thL L k).dir then (nmR (thL L k).S).length else 0 : Nat)]) ∧ Below w.heap.size w w' := by
  obtain ⟨N, hN⟩ : ∃ N, L.length = N := ⟨_, rfl⟩
  have i0 : (k : Int) < N := by omega
  have i00 : k < N := by omega
  obtain ⟨cap, -, hT⟩ := h.tree
  rw [hN] at hT
  obtain ⟨BA, bc, SA, sc, -, c1, c2, c3, -, -, hS, hSc⟩ := h.thing k _ (thL_get hk)
  have hsz := hw.sz k _ (thL_get hk)
  have hz0 : Below w.heap.size w (w.alloc (Obj.cells #[.bool false, .int .i64 0, .int .i64 0] 76)) := (Below.refl _ _).alloc (Nat.le_refl _) _
  obtain ⟨y, hye⟩ : ∃ y, thL L k = y := ⟨_, rfl⟩
  rw [hye] at c1 c2 c3 hS hSc hsz ⊢
  obtain ⟨yi, yd, yB, yS⟩ := y
  dsimp only at c1 c2 c3 hS hSc hsz ⊢
  have hx := Go.heap_alloc_new w (Obj.cells #[.bool false, .int .i64 0, .int .i64 0] 76)
  have y0 : (w.alloc (Obj.cells #[.bool false, .int .i64 0, .int .i64 0] 76)).cell? ⟨g, 0, none⟩ = some (.slice (some ⟨b, 0, none⟩) N cap) := keepC hz0 (blk_cell hT 0)
  have d1 := keepC hz0 c1
  have d2 := keepC hz0 c2
  have d3 := keepC hz0 c3
  have hsl : yS.length ≤ 1000000 := by omega
  have HNM := Lib.hid (names_any (c := sc) (hS.below hz0) hSc hsl)
  obtain ⟨nl, hnl⟩ : ∃ nl, (nmR yS).length = nl := ⟨_, rfl⟩
  obtain ⟨sl, hsle⟩ : ∃ sl, yS.length = sl := ⟨_, rfl⟩
  obtain ⟨bl, hble⟩ : ∃ bl, yB.length = bl := ⟨_, rfl⟩
  rw [hsle] at d3 HNM
  rw [hnl] at HNM ⊢
  rw [hble] at d2 ⊢
  have HZ0 := Lib.hid hz0
  have HX := Lib.hid hx
  clear h hw hk hN hT hye hS hSc hsz c1 c2 c3 hsle hnl hble hz0 hx hsl
  cases yd with
  | true =>
    go_enter Tryz.func88, Tryz.ntmps88
    go_wp2_with fail
    refine HNM.out.mono ?_
    rintro e w2 ⟨A2, c2, rfl, -, -, hb2⟩
    have hx2 : w2.heap[w.heap.size]? = some (Obj.cells #[.bool false, .int .i64 0, .int .i64 0] 76) := (hb2.block _ (Array.getElem?_eq_some_iff.1 HX.out).1).trans HX.out
    have f0 := blk_frozen hx2 0
    have f1 := blk_frozen hx2 1
    have f2 := blk_frozen hx2 2
    have e0 := blk_cell hx2 0
    have e1 := blk_cell hx2 1
    have e2 := blk_cell hx2 2
    go_wp2
    have h3 : (((w2.setCell ⟨w.heap.size, 0, none⟩ (.bool true)).setCell ⟨w.heap.size, 1, none⟩ (.int .i64 0)).setCell ⟨w.heap.size, 2, none⟩ (.int .i64 nl)).heap[w.heap.size]? = some (Obj.cells #[.bool true, .int .i64 0, .int .i64 nl] 76) := (blk_set (blk_set (blk_set hx2 0 _) 1 _) 2 _).trans rfl
    have hb9 : Below w.heap.size w (((w2.setCell ⟨w.heap.size, 0, none⟩ (.bool true)).setCell ⟨w.heap.size, 1, none⟩ (.int .i64 0)).setCell ⟨w.heap.size, 2, none⟩ (.int .i64 nl)) := (((HZ0.out.trans (hb2.mono HZ0.out.size)).setCell (Nat.le_refl _) _).setCell (Nat.le_refl _) _).setCell (Nat.le_refl _) _
    obtain ⟨w9, hw9⟩ : ∃ w9, ((w2.setCell ⟨w.heap.size, 0, none⟩ (.bool true)).setCell ⟨w.heap.size, 1, none⟩ (.int .i64 0)).setCell ⟨w.heap.size, 2, none⟩ (.int .i64 nl) = w9 := ⟨_, rfl⟩
    rw [hw9] at h3 hb9 ⊢
    have z0 := blk_cell h3 0
    have z1 := blk_cell h3 1
    have z2 := blk_cell h3 2
    exact bodyPost_ret (v := .agg #[.bool true, .int .i64 0, .int .i64 nl]) (by simp [results, Tryz.results88, go_sem, z0, z1, z2]) rfl ⟨rfl, hb9⟩
  | false =>
    go_enter Tryz.func88, Tryz.ntmps88
    go_wp2
    exact bodyPost_ret (v := .agg #[.bool false, .int .i64 bl, .int .i64 0]) (by simp [results, Tryz.results88, go_sem]) rfl ⟨rfl, (Below.refl _ _).alloc (Nat.le_refl _) _⟩
end Go.Proofs.YtpdcjdangnfeiaaGreatDoor.Rc
end
