/- plan walked, kind by kind: what is wrong, or the act. (Printed by mkuy.py.) plan and Do, whole. look, info, Read, Stat walked. -/
import Derived.Test.YtpdcjdangnfeiaaGreatDoorYj
section
open Go Go.Maps Go.RowKit Go.Proofs.YtpdcjdangnfeiaaGreatDoor.Pb Go.Proofs.YtpdcjdangnfeiaaGreatDoor.PPth Go.Proofs.YtpdcjdangnfeiaaGreatDoorW.PrintWords Go.Proofs.YtpdcjdangnfeiaaGreatDoorW.PrintLast Go.Proofs.YtpdcjdangnfeiaaGreatDoorW.PrintMore Go.Proofs.YtpdcjdangnfeiaaGreatDoor.Ta Go.Proofs.YtpdcjdangnfeiaaGreatDoor.Tb Go.Proofs.YtpdcjdangnfeiaaGreatDoor.Tc Go.Proofs.YtpdcjdangnfeiaaGreatDoor.Te Go.Proofs.YtpdcjdangnfeiaaGreatDoor.Tf Go.Proofs.YtpdcjdangnfeiaaGreatDoor.Qa Go.Proofs.YtpdcjdangnfeiaaGreatDoor.Qb Go.Proofs.YtpdcjdangnfeiaaGreatDoor.Qc Go.Proofs.YtpdcjdangnfeiaaGreatDoor.Qd Go.Proofs.YtpdcjdangnfeiaaGreatDoor.Qe Go.Proofs.YtpdcjdangnfeiaaGreatDoor.Qf Go.Proofs.YtpdcjdangnfeiaaGreatDoor.Ua Go.Proofs.YtpdcjdangnfeiaaGreatDoor.Ub Go.Proofs.YtpdcjdangnfeiaaGreatDoor.Uc Go.Proofs.YtpdcjdangnfeiaaGreatDoor.Ud Go.Proofs.YtpdcjdangnfeiaaGreatDoor.Ue Go.Proofs.YtpdcjdangnfeiaaGreatDoor.Uf Go.Proofs.YtpdcjdangnfeiaaGreatDoor.Ba Go.Proofs.YtpdcjdangnfeiaaGreatDoor.Ug Go.Proofs.YtpdcjdangnfeiaaGreatDoor.Uh Go.Proofs.YtpdcjdangnfeiaaGreatDoor.Ui Go.Proofs.YtpdcjdangnfeiaaGreatDoor.Uj Go.Proofs.YtpdcjdangnfeiaaGreatDoor.Uk Go.Proofs.YtpdcjdangnfeiaaGreatDoor.Ul Go.Proofs.YtpdcjdangnfeiaaGreatDoor.Um Go.Proofs.YtpdcjdangnfeiaaGreatDoor.Un Go.Proofs.YtpdcjdangnfeiaaGreatDoor.Uo Go.Proofs.YtpdcjdangnfeiaaGreatDoor.Up Go.Proofs.YtpdcjdangnfeiaaGreatDoor.Uq Go.Proofs.YtpdcjdangnfeiaaGreatDoor.Ur Go.Proofs.YtpdcjdangnfeiaaGreatDoor.Us Go.Proofs.YtpdcjdangnfeiaaGreatDoor.Ut Go.Proofs.YtpdcjdangnfeiaaGreatDoor.Uu Go.Proofs.YtpdcjdangnfeiaaGreatDoor.Uv Go.Proofs.YtpdcjdangnfeiaaGreatDoor.Uw Go.Proofs.YtpdcjdangnfeiaaGreatDoor.Ux
namespace Go.Proofs.YtpdcjdangnfeiaaGreatDoor.Uy
theorem split_v (s : ByteArray) (q : Int) (W : World) (hm : W.cell? ⟨0, 0, none⟩ = some (.int .i64 q)) :
    Calls Tryz.prog 35 #[.string s] W fun e w' => ∃ A c, e = .returned (.tuple #[.slice A (splitP s).1.length c, .int .i64 (splitP s).2]) ∧ RdS w' A (splitP s).1 ∧ (splitP s).1.length ≤ c ∧ Below W.heap.size W w' := split_any s q W hm
section
variable {w : World} {B tb n i m : Nat} {es : Es} {L M : Path}
set_option maxHeartbeats 4000000 in
set_option maxRecDepth 100000 in
theorem plan_kind (K : Int) (pa pt : ByteArray) (D : Option Addr) (N dc : Nat) (Z : Int) (hk : K < 1 ∨ 7 < K) : Calls Tryz.prog 20 #[.pointer (some ⟨tb, 0, none⟩), .agg #[.int .i64 K, .string pa, .string pt, .slice D N dc, .int .i64 Z]] w (ErrPost w 1) := by
  have HB := Lib.hid ((Below.refl w.heap.size w).alloc (Nat.le_refl _) (Obj.cells #[.int .i64 K, .string pa, .string pt, .slice D N dc, .int .i64 Z] 35))
  rcases hk with hk | hk
  · go_enter Tryz.func20, Tryz.ntmps20
    go_wp2
    go_ret2
    exact ⟨HB.out, _, rfl⟩
  · have hk2 : ¬ K < 1 := by omega
    go_enter Tryz.func20, Tryz.ntmps20
    go_wp2
    go_ret2
    exact ⟨HB.out, _, rfl⟩
set_option maxHeartbeats 4000000 in
set_option maxRecDepth 100000 in
theorem plan_path (K q E : Int) (pa pt : ByteArray) (D : Option Addr) (N dc : Nat) (Z : Int) (hk : ¬ K < 1) (hk2 : ¬ 7 < K) (hq : w.cell? ⟨0, 0, none⟩ = some (.int .i64 q)) (hE : (splitP pa).2 = E) (h0 : E ≠ 0) :
    Calls Tryz.prog 20 #[.pointer (some ⟨tb, 0, none⟩), .agg #[.int .i64 K, .string pa, .string pt, .slice D N dc, .int .i64 Z]] w (ErrPost w E) := by
  have hb := (Below.refl w.heap.size w).alloc (Nat.le_refl _) (Obj.cells #[.int .i64 K, .string pa, .string pt, .slice D N dc, .int .i64 Z] 35)
  have HB := Lib.hid hb
  have hs := split_v pa q _ (keepC hb hq)
  rw [hE] at hs
  have HS := Lib.hid hs
  have k0 : (E != 0) = true := by simpa using h0
  clear hs hb hE hq
  go_enter Tryz.func20, Tryz.ntmps20
  go_wp2_with fail
  refine HS.out.mono ?_
  rintro e w1 ⟨A, c, rfl, hr, hc, hb1⟩
  have HB1 := Lib.hid (HB.out.trans (hb1.mono HB.out.size))
  clear hr hc hb1
  go_wp2_with fail
  go_ret2
  exact ⟨HB1.out, _, rfl⟩
set_option maxHeartbeats 4000000 in
set_option maxRecDepth 100000 in
theorem plan_to (q E : Int) (pa pt : ByteArray) (D : Option Addr) (N dc : Nat) (Z : Int) (hq : w.cell? ⟨0, 0, none⟩ = some (.int .i64 q)) (hp : (splitP pa).2 = 0) (hE : (splitP pt).2 = E) (h0 : E ≠ 0) :
    Calls Tryz.prog 20 #[.pointer (some ⟨tb, 0, none⟩), .agg #[.int .i64 7, .string pa, .string pt, .slice D N dc, .int .i64 Z]] w (ErrPost w E) := by
  have hb := (Below.refl w.heap.size w).alloc (Nat.le_refl _) (Obj.cells #[.int .i64 7, .string pa, .string pt, .slice D N dc, .int .i64 Z] 35)
  have HB := Lib.hid hb
  have hs := split_v pa q _ (keepC hb hq)
  rw [hp] at hs
  have HS := Lib.hid hs
  have hs2 := fun W (hW : Below w.heap.size w W) => split_v pt q W (keepC hW hq)
  rw [hE] at hs2
  have HS2 := Lib.hid hs2
  have HO := Lib.hid (Go.heap_alloc_new w (Obj.cells #[.int .i64 7, .string pa, .string pt, .slice D N dc, .int .i64 Z] 35))
  have k0 : (E != 0) = true := by simpa using h0
  clear hs hs2 hb hE hq hp
  go_enter Tryz.func20, Tryz.ntmps20
  go_wp2_with fail
  refine HS.out.mono ?_
  rintro e w1 ⟨A, c, rfl, hr, hc, hb1⟩
  have HB1 := Lib.hid (HB.out.trans (hb1.mono HB.out.size))
  have o0_1 := keepC hb1 (blk_cell HO.out 0)
  have o1_1 := keepC hb1 (blk_cell HO.out 1)
  have o2_1 := keepC hb1 (blk_cell HO.out 2)
  have o3_1 := keepC hb1 (blk_cell HO.out 3)
  have o4_1 := keepC hb1 (blk_cell HO.out 4)
  clear hr hc hb1
  go_wp2_with fail
  refine (HS2.out _ HB1.out).mono ?_
  rintro e w2 ⟨A2, c2, rfl, hr, hc, hb2⟩
  have HB2 := Lib.hid (bt HB1.out hb2)
  clear hr hc hb2
  go_wp2_with fail
  go_ret2
  exact ⟨HB2.out, _, rfl⟩
set_option maxHeartbeats 4000000 in
set_option maxRecDepth 100000 in
theorem plan_way7 (q E : Int) (pa pt : ByteArray) (D : Option Addr) (N dc : Nat) (Z : Int) (h : St w B tb es n i m) (hq : w.cell? ⟨0, 0, none⟩ = some (.int .i64 q)) (hp : (splitP pa).2 = 0) (hL : (splitP pa).1 = L) (hln1 : L.length ≤ 1000) (hln2 : ∀ x ∈ L, x.size ≤ 1000) (hp2 : (splitP pt).2 = 0) (hM : (splitP pt).1 = M) (hw : way es [] L = E) (h0 : E ≠ 0) :
    Calls Tryz.prog 20 #[.pointer (some ⟨tb, 0, none⟩), .agg #[.int .i64 7, .string pa, .string pt, .slice D N dc, .int .i64 Z]] w (ErrPost w E) := by
  have k0 : (E != 0) = true := by simpa using h0
  have hb := (Below.refl w.heap.size w).alloc (Nat.le_refl _) (Obj.cells #[.int .i64 7, .string pa, .string pt, .slice D N dc, .int .i64 Z] 35)
  have HB := Lib.hid hb
  have hs := split_v pa q _ (keepC hb hq)
  rw [hp, hL] at hs
  have HS := Lib.hid hs
  have hs2 := fun W (hW : Below w.heap.size w W) => split_v pt q W (keepC hW hq)
  rw [hp2, hM] at hs2
  have HS2 := Lib.hid hs2
  have hf : ∀ A c W, Below w.heap.size w W → RdS W A L → Calls Tryz.prog 36 #[.pointer (some ⟨tb, 0, none⟩), .slice A L.length c] W (fun e w' => e = .returned (.tuple #[.agg #[.pointer none, .string ByteArray.empty, .pointer none, .slice none 0 0], .int .i64 E]) ∧ Below W.heap.size W w') := by
    intro A c W hW hr
    have h2 := h.below hW
    obtain ⟨r, hr1, hr2⟩ := h2.tre
    have h3 := find_any A c L h2.tr hr1 hr2 hr hln1 hln2
    rw [if_neg (by rw [hw]; exact h0), hw] at h3
    exact h3
  have HFD := Lib.hid hf
  have HO := Lib.hid (Go.heap_alloc_new w (Obj.cells #[.int .i64 7, .string pa, .string pt, .slice D N dc, .int .i64 Z] 35))
  clear hs hb hq hp hL hf h hw hs2 hp2 hM
  go_enter Tryz.func20, Tryz.ntmps20
  go_wp2_with fail
  refine HS.out.mono ?_
  rintro e w1 ⟨A, c, rfl, hr, hc, hb1⟩
  have HB1 := Lib.hid (HB.out.trans (hb1.mono HB.out.size))
  have HRD := Lib.hid hr
  have HC := Lib.hid hc
  have o0_1 := keepC hb1 (blk_cell HO.out 0)
  have o1_1 := keepC hb1 (blk_cell HO.out 1)
  have o2_1 := keepC hb1 (blk_cell HO.out 2)
  have o3_1 := keepC hb1 (blk_cell HO.out 3)
  have o4_1 := keepC hb1 (blk_cell HO.out 4)
  have HO1 := Lib.hid ((hb1.block _ (Array.getElem?_eq_some_iff.1 HO.out).1).trans HO.out)
  clear hr hc hb1
  go_wp2_with fail
  refine (HS2.out _ HB1.out).mono ?_
  rintro e w2 ⟨A2, c2, rfl, hr, hc, hb2⟩
  have HB2 := Lib.hid (bt HB1.out hb2)
  have HRD1 := Lib.hid (HRD.out.below hb2)
  have HRD2 := Lib.hid hr
  have HC2 := Lib.hid hc
  have o0_2 := keepC hb2 (blk_cell HO1.out 0)
  have o1_2 := keepC hb2 (blk_cell HO1.out 1)
  have o2_2 := keepC hb2 (blk_cell HO1.out 2)
  have o3_2 := keepC hb2 (blk_cell HO1.out 3)
  have o4_2 := keepC hb2 (blk_cell HO1.out 4)
  have HO2 := Lib.hid ((hb2.block _ (Array.getElem?_eq_some_iff.1 HO1.out).1).trans HO1.out)
  clear hr hc hb2 o0_1 o1_1 o2_1 o3_1 o4_1
  go_wp2_with fail
  refine (HFD.out A c _ HB2.out HRD1.out).mono ?_
  rintro e w3 ⟨rfl, hb3⟩
  have HB3 := Lib.hid (bt HB2.out hb3)
  clear hb3
  go_wp2_with fail
  go_ret2
  exact ⟨HB3.out.alloc HB3.out.size _, _, rfl⟩
set_option maxHeartbeats 4000000 in
set_option maxRecDepth 100000 in
theorem plan_way (K q E : Int) (pa pt : ByteArray) (D : Option Addr) (N dc : Nat) (Z : Int) (hk : ¬ K < 1) (hk2 : ¬ 7 < K) (hk3 : (K == 7) = false) (h : St w B tb es n i m) (hq : w.cell? ⟨0, 0, none⟩ = some (.int .i64 q)) (hp : (splitP pa).2 = 0) (hL : (splitP pa).1 = L) (hln1 : L.length ≤ 1000) (hln2 : ∀ x ∈ L, x.size ≤ 1000) (hw : way es [] L = E) (h0 : E ≠ 0) :
    Calls Tryz.prog 20 #[.pointer (some ⟨tb, 0, none⟩), .agg #[.int .i64 K, .string pa, .string pt, .slice D N dc, .int .i64 Z]] w (ErrPost w E) := by
  have k0 : (E != 0) = true := by simpa using h0
  have hb := (Below.refl w.heap.size w).alloc (Nat.le_refl _) (Obj.cells #[.int .i64 K, .string pa, .string pt, .slice D N dc, .int .i64 Z] 35)
  have HB := Lib.hid hb
  have hs := split_v pa q _ (keepC hb hq)
  rw [hp, hL] at hs
  have HS := Lib.hid hs
  have hf : ∀ A c W, Below w.heap.size w W → RdS W A L → Calls Tryz.prog 36 #[.pointer (some ⟨tb, 0, none⟩), .slice A L.length c] W (fun e w' => e = .returned (.tuple #[.agg #[.pointer none, .string ByteArray.empty, .pointer none, .slice none 0 0], .int .i64 E]) ∧ Below W.heap.size W w') := by
    intro A c W hW hr
    have h2 := h.below hW
    obtain ⟨r, hr1, hr2⟩ := h2.tre
    have h3 := find_any A c L h2.tr hr1 hr2 hr hln1 hln2
    rw [if_neg (by rw [hw]; exact h0), hw] at h3
    exact h3
  have HFD := Lib.hid hf
  have HO := Lib.hid (Go.heap_alloc_new w (Obj.cells #[.int .i64 K, .string pa, .string pt, .slice D N dc, .int .i64 Z] 35))
  clear hs hb hq hp hL hf h hw
  go_enter Tryz.func20, Tryz.ntmps20
  go_wp2_with fail
  refine HS.out.mono ?_
  rintro e w1 ⟨A, c, rfl, hr, hc, hb1⟩
  have HB1 := Lib.hid (HB.out.trans (hb1.mono HB.out.size))
  have HRD := Lib.hid hr
  have HC := Lib.hid hc
  have o0_1 := keepC hb1 (blk_cell HO.out 0)
  have o1_1 := keepC hb1 (blk_cell HO.out 1)
  have o2_1 := keepC hb1 (blk_cell HO.out 2)
  have o3_1 := keepC hb1 (blk_cell HO.out 3)
  have o4_1 := keepC hb1 (blk_cell HO.out 4)
  have HO1 := Lib.hid ((hb1.block _ (Array.getElem?_eq_some_iff.1 HO.out).1).trans HO.out)
  clear hr hc hb1
  go_wp2_with fail
  refine (HFD.out A c _ HB1.out HRD.out).mono ?_
  rintro e w3 ⟨rfl, hb3⟩
  have HB3 := Lib.hid (bt HB1.out hb3)
  clear hb3
  go_wp2_with fail
  go_ret2
  exact ⟨HB3.out.alloc HB3.out.size _, _, rfl⟩
set_option maxHeartbeats 4000000 in
set_option maxRecDepth 100000 in
theorem plan_1 (q E : Int) (S' : S) (pa pt : ByteArray) (D : Option Addr) (N dc : Nat) (Z : Int) (pu pn : Option Addr) (ln : ByteArray) (h : St w B tb es n i m) (hq : w.cell? ⟨0, 0, none⟩ = some (.int .i64 q)) (hp : (splitP pa).2 = 0) (hL : (splitP pa).1 = L) (hln1 : L.length ≤ 1000) (hln2 : ∀ x ∈ L, x.size ≤ 1000) (hw : way es [] L = 0)
    (hup : upV es L = .pointer pu) (hpn : ptrV ((gp es L).map (·.nb)) = .pointer pn) (hlast : L.getLastD ByteArray.empty = ln)
    (hR : ∀ (W : World) (A : Option Addr) (c : Nat), Below w.heap.size w W → RdS W A L → Calls Tryz.prog 37 #[.pointer (some ⟨tb, 0, none⟩), .agg #[.pointer pu, .string ln, .pointer pn, .slice A L.length c], .bool false] W (PlanPost W B tb es n i m E S')) :
    Calls Tryz.prog 20 #[.pointer (some ⟨tb, 0, none⟩), .agg #[.int .i64 1, .string pa, .string pt, .slice D N dc, .int .i64 Z]] w (PlanPost w B tb es n i m E S') := by
  have hb := (Below.refl w.heap.size w).alloc (Nat.le_refl _) (Obj.cells #[.int .i64 1, .string pa, .string pt, .slice D N dc, .int .i64 Z] 35)
  have HB := Lib.hid hb
  have hs := split_v pa q _ (keepC hb hq)
  rw [hp, hL] at hs
  have HS := Lib.hid hs
  have hf : ∀ A c W, Below w.heap.size w W → RdS W A L → Calls Tryz.prog 36 #[.pointer (some ⟨tb, 0, none⟩), .slice A L.length c] W (fun e w' => e = .returned (.tuple #[.agg #[.pointer pu, .string ln, .pointer pn, .slice A L.length c], .int .i64 0]) ∧ Below W.heap.size W w') := by
    intro A c W hW hr
    have h2 := h.below hW
    obtain ⟨r, hr1, hr2⟩ := h2.tre
    have h3 := find_any A c L h2.tr hr1 hr2 hr hln1 hln2
    rw [if_pos hw, hw] at h3
    unfold spotV nmV at h3
    rw [hup, hpn, hlast] at h3
    exact h3
  have HR := Lib.hid hR
  have HFD := Lib.hid hf
  have HO := Lib.hid (Go.heap_alloc_new w (Obj.cells #[.int .i64 1, .string pa, .string pt, .slice D N dc, .int .i64 Z] 35))
  clear hs hb hq hp hL hf h hw hup hpn hlast hR
  go_enter Tryz.func20, Tryz.ntmps20
  go_wp2_with fail
  refine HS.out.mono ?_
  rintro e w1 ⟨A, c, rfl, hr, hc, hb1⟩
  have HB1 := Lib.hid (HB.out.trans (hb1.mono HB.out.size))
  have HRD := Lib.hid hr
  have HC := Lib.hid hc
  have o0_1 := keepC hb1 (blk_cell HO.out 0)
  have o1_1 := keepC hb1 (blk_cell HO.out 1)
  have o2_1 := keepC hb1 (blk_cell HO.out 2)
  have o3_1 := keepC hb1 (blk_cell HO.out 3)
  have o4_1 := keepC hb1 (blk_cell HO.out 4)
  have HO1 := Lib.hid ((hb1.block _ (Array.getElem?_eq_some_iff.1 HO.out).1).trans HO.out)
  clear hr hc hb1
  go_wp2_with fail
  refine (HFD.out A c _ HB1.out HRD.out).mono ?_
  rintro e w3 ⟨rfl, hb3⟩
  have HB3 := Lib.hid ((bt HB1.out hb3).alloc (bt HB1.out hb3).size (Obj.cells #[.pointer pu, .string ln, .pointer pn, .slice A L.length c] 91))
  have HRW := Lib.hid (HRD.out.below (hb3.alloc hb3.size (Obj.cells #[.pointer pu, .string ln, .pointer pn, .slice A L.length c] 91)))
  have o0_3 := keepC (hb3.alloc hb3.size (Obj.cells #[.pointer pu, .string ln, .pointer pn, .slice A L.length c] 91)) (blk_cell HO1.out 0)
  have o1_3 := keepC (hb3.alloc hb3.size (Obj.cells #[.pointer pu, .string ln, .pointer pn, .slice A L.length c] 91)) (blk_cell HO1.out 1)
  have o2_3 := keepC (hb3.alloc hb3.size (Obj.cells #[.pointer pu, .string ln, .pointer pn, .slice A L.length c] 91)) (blk_cell HO1.out 2)
  have o3_3 := keepC (hb3.alloc hb3.size (Obj.cells #[.pointer pu, .string ln, .pointer pn, .slice A L.length c] 91)) (blk_cell HO1.out 3)
  have o4_3 := keepC (hb3.alloc hb3.size (Obj.cells #[.pointer pu, .string ln, .pointer pn, .slice A L.length c] 91)) (blk_cell HO1.out 4)
  have s0 := blk_cell (Go.heap_alloc_new w3 (Obj.cells #[.pointer pu, .string ln, .pointer pn, .slice A L.length c] 91)) 0
  have s1 := blk_cell (Go.heap_alloc_new w3 (Obj.cells #[.pointer pu, .string ln, .pointer pn, .slice A L.length c] 91)) 1
  have s2 := blk_cell (Go.heap_alloc_new w3 (Obj.cells #[.pointer pu, .string ln, .pointer pn, .slice A L.length c] 91)) 2
  have s3 := blk_cell (Go.heap_alloc_new w3 (Obj.cells #[.pointer pu, .string ln, .pointer pn, .slice A L.length c] 91)) 3
  clear hb3 o0_1 o1_1 o2_1 o3_1 o4_1
  go_wp2_with fail
  refine (HR.out _ A c HB3.out HRW.out).mono ?_
  rintro e w4 ⟨hb4, f, rfl, hf4⟩
  have HB4 := Lib.hid hb4
  have HF4 := Lib.hid hf4
  clear hb4 hf4
  go_wp2_with fail
  go_ret2
  exact ⟨bt HB3.out HB4.out, f, rfl, HF4.out⟩
set_option maxHeartbeats 4000000 in
set_option maxRecDepth 100000 in
theorem plan_2 (q E : Int) (S' : S) (pa pt : ByteArray) (D : Option Addr) (N dc : Nat) (Z : Int) (pu pn : Option Addr) (ln : ByteArray) (h : St w B tb es n i m) (hq : w.cell? ⟨0, 0, none⟩ = some (.int .i64 q)) (hp : (splitP pa).2 = 0) (hL : (splitP pa).1 = L) (hln1 : L.length ≤ 1000) (hln2 : ∀ x ∈ L, x.size ≤ 1000) (hw : way es [] L = 0)
    (hup : upV es L = .pointer pu) (hpn : ptrV ((gp es L).map (·.nb)) = .pointer pn) (hlast : L.getLastD ByteArray.empty = ln)
    (hR : ∀ (W : World) (A : Option Addr) (c : Nat), Below w.heap.size w W → RdS W A L → Calls Tryz.prog 37 #[.pointer (some ⟨tb, 0, none⟩), .agg #[.pointer pu, .string ln, .pointer pn, .slice A L.length c], .bool true] W (PlanPost W B tb es n i m E S')) :
    Calls Tryz.prog 20 #[.pointer (some ⟨tb, 0, none⟩), .agg #[.int .i64 2, .string pa, .string pt, .slice D N dc, .int .i64 Z]] w (PlanPost w B tb es n i m E S') := by
  have hb := (Below.refl w.heap.size w).alloc (Nat.le_refl _) (Obj.cells #[.int .i64 2, .string pa, .string pt, .slice D N dc, .int .i64 Z] 35)
  have HB := Lib.hid hb
  have hs := split_v pa q _ (keepC hb hq)
  rw [hp, hL] at hs
  have HS := Lib.hid hs
  have hf : ∀ A c W, Below w.heap.size w W → RdS W A L → Calls Tryz.prog 36 #[.pointer (some ⟨tb, 0, none⟩), .slice A L.length c] W (fun e w' => e = .returned (.tuple #[.agg #[.pointer pu, .string ln, .pointer pn, .slice A L.length c], .int .i64 0]) ∧ Below W.heap.size W w') := by
    intro A c W hW hr
    have h2 := h.below hW
    obtain ⟨r, hr1, hr2⟩ := h2.tre
    have h3 := find_any A c L h2.tr hr1 hr2 hr hln1 hln2
    rw [if_pos hw, hw] at h3
    unfold spotV nmV at h3
    rw [hup, hpn, hlast] at h3
    exact h3
  have HR := Lib.hid hR
  have HFD := Lib.hid hf
  have HO := Lib.hid (Go.heap_alloc_new w (Obj.cells #[.int .i64 2, .string pa, .string pt, .slice D N dc, .int .i64 Z] 35))
  clear hs hb hq hp hL hf h hw hup hpn hlast hR
  go_enter Tryz.func20, Tryz.ntmps20
  go_wp2_with fail
  refine HS.out.mono ?_
  rintro e w1 ⟨A, c, rfl, hr, hc, hb1⟩
  have HB1 := Lib.hid (HB.out.trans (hb1.mono HB.out.size))
  have HRD := Lib.hid hr
  have HC := Lib.hid hc
  have o0_1 := keepC hb1 (blk_cell HO.out 0)
  have o1_1 := keepC hb1 (blk_cell HO.out 1)
  have o2_1 := keepC hb1 (blk_cell HO.out 2)
  have o3_1 := keepC hb1 (blk_cell HO.out 3)
  have o4_1 := keepC hb1 (blk_cell HO.out 4)
  have HO1 := Lib.hid ((hb1.block _ (Array.getElem?_eq_some_iff.1 HO.out).1).trans HO.out)
  clear hr hc hb1
  go_wp2_with fail
  refine (HFD.out A c _ HB1.out HRD.out).mono ?_
  rintro e w3 ⟨rfl, hb3⟩
  have HB3 := Lib.hid ((bt HB1.out hb3).alloc (bt HB1.out hb3).size (Obj.cells #[.pointer pu, .string ln, .pointer pn, .slice A L.length c] 91))
  have HRW := Lib.hid (HRD.out.below (hb3.alloc hb3.size (Obj.cells #[.pointer pu, .string ln, .pointer pn, .slice A L.length c] 91)))
  have o0_3 := keepC (hb3.alloc hb3.size (Obj.cells #[.pointer pu, .string ln, .pointer pn, .slice A L.length c] 91)) (blk_cell HO1.out 0)
  have o1_3 := keepC (hb3.alloc hb3.size (Obj.cells #[.pointer pu, .string ln, .pointer pn, .slice A L.length c] 91)) (blk_cell HO1.out 1)
  have o2_3 := keepC (hb3.alloc hb3.size (Obj.cells #[.pointer pu, .string ln, .pointer pn, .slice A L.length c] 91)) (blk_cell HO1.out 2)
  have o3_3 := keepC (hb3.alloc hb3.size (Obj.cells #[.pointer pu, .string ln, .pointer pn, .slice A L.length c] 91)) (blk_cell HO1.out 3)
  have o4_3 := keepC (hb3.alloc hb3.size (Obj.cells #[.pointer pu, .string ln, .pointer pn, .slice A L.length c] 91)) (blk_cell HO1.out 4)
  have s0 := blk_cell (Go.heap_alloc_new w3 (Obj.cells #[.pointer pu, .string ln, .pointer pn, .slice A L.length c] 91)) 0
  have s1 := blk_cell (Go.heap_alloc_new w3 (Obj.cells #[.pointer pu, .string ln, .pointer pn, .slice A L.length c] 91)) 1
  have s2 := blk_cell (Go.heap_alloc_new w3 (Obj.cells #[.pointer pu, .string ln, .pointer pn, .slice A L.length c] 91)) 2
  have s3 := blk_cell (Go.heap_alloc_new w3 (Obj.cells #[.pointer pu, .string ln, .pointer pn, .slice A L.length c] 91)) 3
  clear hb3 o0_1 o1_1 o2_1 o3_1 o4_1
  go_wp2_with fail
  refine (HR.out _ A c HB3.out HRW.out).mono ?_
  rintro e w4 ⟨hb4, f, rfl, hf4⟩
  have HB4 := Lib.hid hb4
  have HF4 := Lib.hid hf4
  clear hb4 hf4
  go_wp2_with fail
  go_ret2
  exact ⟨bt HB3.out HB4.out, f, rfl, HF4.out⟩
set_option maxHeartbeats 4000000 in
set_option maxRecDepth 100000 in
theorem plan_3 (q E : Int) (S' : S) (pa pt : ByteArray) (D : Option Addr) (N dc : Nat) (Z : Int) (pu pn : Option Addr) (ln : ByteArray) (h : St w B tb es n i m) (hq : w.cell? ⟨0, 0, none⟩ = some (.int .i64 q)) (hp : (splitP pa).2 = 0) (hL : (splitP pa).1 = L) (hln1 : L.length ≤ 1000) (hln2 : ∀ x ∈ L, x.size ≤ 1000) (hw : way es [] L = 0)
    (hup : upV es L = .pointer pu) (hpn : ptrV ((gp es L).map (·.nb)) = .pointer pn) (hlast : L.getLastD ByteArray.empty = ln)
    (hR : ∀ (W : World) (A : Option Addr) (_c : Nat), Below w.heap.size w W → RdS W A L → Calls Tryz.prog 38 #[.pointer (some ⟨tb, 0, none⟩), .pointer pn, .slice D N dc] W (PlanPost W B tb es n i m E S')) :
    Calls Tryz.prog 20 #[.pointer (some ⟨tb, 0, none⟩), .agg #[.int .i64 3, .string pa, .string pt, .slice D N dc, .int .i64 Z]] w (PlanPost w B tb es n i m E S') := by
  have hb := (Below.refl w.heap.size w).alloc (Nat.le_refl _) (Obj.cells #[.int .i64 3, .string pa, .string pt, .slice D N dc, .int .i64 Z] 35)
  have HB := Lib.hid hb
  have hs := split_v pa q _ (keepC hb hq)
  rw [hp, hL] at hs
  have HS := Lib.hid hs
  have hf : ∀ A c W, Below w.heap.size w W → RdS W A L → Calls Tryz.prog 36 #[.pointer (some ⟨tb, 0, none⟩), .slice A L.length c] W (fun e w' => e = .returned (.tuple #[.agg #[.pointer pu, .string ln, .pointer pn, .slice A L.length c], .int .i64 0]) ∧ Below W.heap.size W w') := by
    intro A c W hW hr
    have h2 := h.below hW
    obtain ⟨r, hr1, hr2⟩ := h2.tre
    have h3 := find_any A c L h2.tr hr1 hr2 hr hln1 hln2
    rw [if_pos hw, hw] at h3
    unfold spotV nmV at h3
    rw [hup, hpn, hlast] at h3
    exact h3
  have HR := Lib.hid hR
  have HFD := Lib.hid hf
  have HO := Lib.hid (Go.heap_alloc_new w (Obj.cells #[.int .i64 3, .string pa, .string pt, .slice D N dc, .int .i64 Z] 35))
  clear hs hb hq hp hL hf h hw hup hpn hlast hR
  go_enter Tryz.func20, Tryz.ntmps20
  go_wp2_with fail
  refine HS.out.mono ?_
  rintro e w1 ⟨A, c, rfl, hr, hc, hb1⟩
  have HB1 := Lib.hid (HB.out.trans (hb1.mono HB.out.size))
  have HRD := Lib.hid hr
  have HC := Lib.hid hc
  have o0_1 := keepC hb1 (blk_cell HO.out 0)
  have o1_1 := keepC hb1 (blk_cell HO.out 1)
  have o2_1 := keepC hb1 (blk_cell HO.out 2)
  have o3_1 := keepC hb1 (blk_cell HO.out 3)
  have o4_1 := keepC hb1 (blk_cell HO.out 4)
  have HO1 := Lib.hid ((hb1.block _ (Array.getElem?_eq_some_iff.1 HO.out).1).trans HO.out)
  clear hr hc hb1
  go_wp2_with fail
  refine (HFD.out A c _ HB1.out HRD.out).mono ?_
  rintro e w3 ⟨rfl, hb3⟩
  have HB3 := Lib.hid ((bt HB1.out hb3).alloc (bt HB1.out hb3).size (Obj.cells #[.pointer pu, .string ln, .pointer pn, .slice A L.length c] 91))
  have HRW := Lib.hid (HRD.out.below (hb3.alloc hb3.size (Obj.cells #[.pointer pu, .string ln, .pointer pn, .slice A L.length c] 91)))
  have o0_3 := keepC (hb3.alloc hb3.size (Obj.cells #[.pointer pu, .string ln, .pointer pn, .slice A L.length c] 91)) (blk_cell HO1.out 0)
  have o1_3 := keepC (hb3.alloc hb3.size (Obj.cells #[.pointer pu, .string ln, .pointer pn, .slice A L.length c] 91)) (blk_cell HO1.out 1)
  have o2_3 := keepC (hb3.alloc hb3.size (Obj.cells #[.pointer pu, .string ln, .pointer pn, .slice A L.length c] 91)) (blk_cell HO1.out 2)
  have o3_3 := keepC (hb3.alloc hb3.size (Obj.cells #[.pointer pu, .string ln, .pointer pn, .slice A L.length c] 91)) (blk_cell HO1.out 3)
  have o4_3 := keepC (hb3.alloc hb3.size (Obj.cells #[.pointer pu, .string ln, .pointer pn, .slice A L.length c] 91)) (blk_cell HO1.out 4)
  have s0 := blk_cell (Go.heap_alloc_new w3 (Obj.cells #[.pointer pu, .string ln, .pointer pn, .slice A L.length c] 91)) 0
  have s1 := blk_cell (Go.heap_alloc_new w3 (Obj.cells #[.pointer pu, .string ln, .pointer pn, .slice A L.length c] 91)) 1
  have s2 := blk_cell (Go.heap_alloc_new w3 (Obj.cells #[.pointer pu, .string ln, .pointer pn, .slice A L.length c] 91)) 2
  have s3 := blk_cell (Go.heap_alloc_new w3 (Obj.cells #[.pointer pu, .string ln, .pointer pn, .slice A L.length c] 91)) 3
  clear hb3 o0_1 o1_1 o2_1 o3_1 o4_1
  go_wp2_with fail
  refine (HR.out _ A c HB3.out HRW.out).mono ?_
  rintro e w4 ⟨hb4, f, rfl, hf4⟩
  have HB4 := Lib.hid hb4
  have HF4 := Lib.hid hf4
  clear hb4 hf4
  go_wp2_with fail
  go_ret2
  exact ⟨bt HB3.out HB4.out, f, rfl, HF4.out⟩
set_option maxHeartbeats 4000000 in
set_option maxRecDepth 100000 in
theorem plan_4 (q E : Int) (S' : S) (pa pt : ByteArray) (D : Option Addr) (N dc : Nat) (Z : Int) (pu pn : Option Addr) (ln : ByteArray) (h : St w B tb es n i m) (hq : w.cell? ⟨0, 0, none⟩ = some (.int .i64 q)) (hp : (splitP pa).2 = 0) (hL : (splitP pa).1 = L) (hln1 : L.length ≤ 1000) (hln2 : ∀ x ∈ L, x.size ≤ 1000) (hw : way es [] L = 0)
    (hup : upV es L = .pointer pu) (hpn : ptrV ((gp es L).map (·.nb)) = .pointer pn) (hlast : L.getLastD ByteArray.empty = ln)
    (hR : ∀ (W : World) (A : Option Addr) (_c : Nat), Below w.heap.size w W → RdS W A L → Calls Tryz.prog 39 #[.pointer (some ⟨tb, 0, none⟩), .pointer pn, .int .i64 Z] W (PlanPost W B tb es n i m E S')) :
    Calls Tryz.prog 20 #[.pointer (some ⟨tb, 0, none⟩), .agg #[.int .i64 4, .string pa, .string pt, .slice D N dc, .int .i64 Z]] w (PlanPost w B tb es n i m E S') := by
  have hb := (Below.refl w.heap.size w).alloc (Nat.le_refl _) (Obj.cells #[.int .i64 4, .string pa, .string pt, .slice D N dc, .int .i64 Z] 35)
  have HB := Lib.hid hb
  have hs := split_v pa q _ (keepC hb hq)
  rw [hp, hL] at hs
  have HS := Lib.hid hs
  have hf : ∀ A c W, Below w.heap.size w W → RdS W A L → Calls Tryz.prog 36 #[.pointer (some ⟨tb, 0, none⟩), .slice A L.length c] W (fun e w' => e = .returned (.tuple #[.agg #[.pointer pu, .string ln, .pointer pn, .slice A L.length c], .int .i64 0]) ∧ Below W.heap.size W w') := by
    intro A c W hW hr
    have h2 := h.below hW
    obtain ⟨r, hr1, hr2⟩ := h2.tre
    have h3 := find_any A c L h2.tr hr1 hr2 hr hln1 hln2
    rw [if_pos hw, hw] at h3
    unfold spotV nmV at h3
    rw [hup, hpn, hlast] at h3
    exact h3
  have HR := Lib.hid hR
  have HFD := Lib.hid hf
  have HO := Lib.hid (Go.heap_alloc_new w (Obj.cells #[.int .i64 4, .string pa, .string pt, .slice D N dc, .int .i64 Z] 35))
  clear hs hb hq hp hL hf h hw hup hpn hlast hR
  go_enter Tryz.func20, Tryz.ntmps20
  go_wp2_with fail
  refine HS.out.mono ?_
  rintro e w1 ⟨A, c, rfl, hr, hc, hb1⟩
  have HB1 := Lib.hid (HB.out.trans (hb1.mono HB.out.size))
  have HRD := Lib.hid hr
  have HC := Lib.hid hc
  have o0_1 := keepC hb1 (blk_cell HO.out 0)
  have o1_1 := keepC hb1 (blk_cell HO.out 1)
  have o2_1 := keepC hb1 (blk_cell HO.out 2)
  have o3_1 := keepC hb1 (blk_cell HO.out 3)
  have o4_1 := keepC hb1 (blk_cell HO.out 4)
  have HO1 := Lib.hid ((hb1.block _ (Array.getElem?_eq_some_iff.1 HO.out).1).trans HO.out)
  clear hr hc hb1
  go_wp2_with fail
  refine (HFD.out A c _ HB1.out HRD.out).mono ?_
  rintro e w3 ⟨rfl, hb3⟩
  have HB3 := Lib.hid ((bt HB1.out hb3).alloc (bt HB1.out hb3).size (Obj.cells #[.pointer pu, .string ln, .pointer pn, .slice A L.length c] 91))
  have HRW := Lib.hid (HRD.out.below (hb3.alloc hb3.size (Obj.cells #[.pointer pu, .string ln, .pointer pn, .slice A L.length c] 91)))
  have o0_3 := keepC (hb3.alloc hb3.size (Obj.cells #[.pointer pu, .string ln, .pointer pn, .slice A L.length c] 91)) (blk_cell HO1.out 0)
  have o1_3 := keepC (hb3.alloc hb3.size (Obj.cells #[.pointer pu, .string ln, .pointer pn, .slice A L.length c] 91)) (blk_cell HO1.out 1)
  have o2_3 := keepC (hb3.alloc hb3.size (Obj.cells #[.pointer pu, .string ln, .pointer pn, .slice A L.length c] 91)) (blk_cell HO1.out 2)
  have o3_3 := keepC (hb3.alloc hb3.size (Obj.cells #[.pointer pu, .string ln, .pointer pn, .slice A L.length c] 91)) (blk_cell HO1.out 3)
  have o4_3 := keepC (hb3.alloc hb3.size (Obj.cells #[.pointer pu, .string ln, .pointer pn, .slice A L.length c] 91)) (blk_cell HO1.out 4)
  have s0 := blk_cell (Go.heap_alloc_new w3 (Obj.cells #[.pointer pu, .string ln, .pointer pn, .slice A L.length c] 91)) 0
  have s1 := blk_cell (Go.heap_alloc_new w3 (Obj.cells #[.pointer pu, .string ln, .pointer pn, .slice A L.length c] 91)) 1
  have s2 := blk_cell (Go.heap_alloc_new w3 (Obj.cells #[.pointer pu, .string ln, .pointer pn, .slice A L.length c] 91)) 2
  have s3 := blk_cell (Go.heap_alloc_new w3 (Obj.cells #[.pointer pu, .string ln, .pointer pn, .slice A L.length c] 91)) 3
  clear hb3 o0_1 o1_1 o2_1 o3_1 o4_1
  go_wp2_with fail
  refine (HR.out _ A c HB3.out HRW.out).mono ?_
  rintro e w4 ⟨hb4, f, rfl, hf4⟩
  have HB4 := Lib.hid hb4
  have HF4 := Lib.hid hf4
  clear hb4 hf4
  go_wp2_with fail
  go_ret2
  exact ⟨bt HB3.out HB4.out, f, rfl, HF4.out⟩
set_option maxHeartbeats 4000000 in
set_option maxRecDepth 100000 in
theorem plan_5 (q E : Int) (S' : S) (pa pt : ByteArray) (D : Option Addr) (N dc : Nat) (Z : Int) (pu pn : Option Addr) (ln : ByteArray) (h : St w B tb es n i m) (hq : w.cell? ⟨0, 0, none⟩ = some (.int .i64 q)) (hp : (splitP pa).2 = 0) (hL : (splitP pa).1 = L) (hln1 : L.length ≤ 1000) (hln2 : ∀ x ∈ L, x.size ≤ 1000) (hw : way es [] L = 0)
    (hup : upV es L = .pointer pu) (hpn : ptrV ((gp es L).map (·.nb)) = .pointer pn) (hlast : L.getLastD ByteArray.empty = ln)
    (hR : ∀ (W : World) (A : Option Addr) (c : Nat), Below w.heap.size w W → RdS W A L → Calls Tryz.prog 40 #[.pointer (some ⟨tb, 0, none⟩), .agg #[.pointer pu, .string ln, .pointer pn, .slice A L.length c], .bool false] W (PlanPost W B tb es n i m E S')) :
    Calls Tryz.prog 20 #[.pointer (some ⟨tb, 0, none⟩), .agg #[.int .i64 5, .string pa, .string pt, .slice D N dc, .int .i64 Z]] w (PlanPost w B tb es n i m E S') := by
  have hb := (Below.refl w.heap.size w).alloc (Nat.le_refl _) (Obj.cells #[.int .i64 5, .string pa, .string pt, .slice D N dc, .int .i64 Z] 35)
  have HB := Lib.hid hb
  have hs := split_v pa q _ (keepC hb hq)
  rw [hp, hL] at hs
  have HS := Lib.hid hs
  have hf : ∀ A c W, Below w.heap.size w W → RdS W A L → Calls Tryz.prog 36 #[.pointer (some ⟨tb, 0, none⟩), .slice A L.length c] W (fun e w' => e = .returned (.tuple #[.agg #[.pointer pu, .string ln, .pointer pn, .slice A L.length c], .int .i64 0]) ∧ Below W.heap.size W w') := by
    intro A c W hW hr
    have h2 := h.below hW
    obtain ⟨r, hr1, hr2⟩ := h2.tre
    have h3 := find_any A c L h2.tr hr1 hr2 hr hln1 hln2
    rw [if_pos hw, hw] at h3
    unfold spotV nmV at h3
    rw [hup, hpn, hlast] at h3
    exact h3
  have HR := Lib.hid hR
  have HFD := Lib.hid hf
  have HO := Lib.hid (Go.heap_alloc_new w (Obj.cells #[.int .i64 5, .string pa, .string pt, .slice D N dc, .int .i64 Z] 35))
  clear hs hb hq hp hL hf h hw hup hpn hlast hR
  go_enter Tryz.func20, Tryz.ntmps20
  go_wp2_with fail
  refine HS.out.mono ?_
  rintro e w1 ⟨A, c, rfl, hr, hc, hb1⟩
  have HB1 := Lib.hid (HB.out.trans (hb1.mono HB.out.size))
  have HRD := Lib.hid hr
  have HC := Lib.hid hc
  have o0_1 := keepC hb1 (blk_cell HO.out 0)
  have o1_1 := keepC hb1 (blk_cell HO.out 1)
  have o2_1 := keepC hb1 (blk_cell HO.out 2)
  have o3_1 := keepC hb1 (blk_cell HO.out 3)
  have o4_1 := keepC hb1 (blk_cell HO.out 4)
  have HO1 := Lib.hid ((hb1.block _ (Array.getElem?_eq_some_iff.1 HO.out).1).trans HO.out)
  clear hr hc hb1
  go_wp2_with fail
  refine (HFD.out A c _ HB1.out HRD.out).mono ?_
  rintro e w3 ⟨rfl, hb3⟩
  have HB3 := Lib.hid ((bt HB1.out hb3).alloc (bt HB1.out hb3).size (Obj.cells #[.pointer pu, .string ln, .pointer pn, .slice A L.length c] 91))
  have HRW := Lib.hid (HRD.out.below (hb3.alloc hb3.size (Obj.cells #[.pointer pu, .string ln, .pointer pn, .slice A L.length c] 91)))
  have o0_3 := keepC (hb3.alloc hb3.size (Obj.cells #[.pointer pu, .string ln, .pointer pn, .slice A L.length c] 91)) (blk_cell HO1.out 0)
  have o1_3 := keepC (hb3.alloc hb3.size (Obj.cells #[.pointer pu, .string ln, .pointer pn, .slice A L.length c] 91)) (blk_cell HO1.out 1)
  have o2_3 := keepC (hb3.alloc hb3.size (Obj.cells #[.pointer pu, .string ln, .pointer pn, .slice A L.length c] 91)) (blk_cell HO1.out 2)
  have o3_3 := keepC (hb3.alloc hb3.size (Obj.cells #[.pointer pu, .string ln, .pointer pn, .slice A L.length c] 91)) (blk_cell HO1.out 3)
  have o4_3 := keepC (hb3.alloc hb3.size (Obj.cells #[.pointer pu, .string ln, .pointer pn, .slice A L.length c] 91)) (blk_cell HO1.out 4)
  have s0 := blk_cell (Go.heap_alloc_new w3 (Obj.cells #[.pointer pu, .string ln, .pointer pn, .slice A L.length c] 91)) 0
  have s1 := blk_cell (Go.heap_alloc_new w3 (Obj.cells #[.pointer pu, .string ln, .pointer pn, .slice A L.length c] 91)) 1
  have s2 := blk_cell (Go.heap_alloc_new w3 (Obj.cells #[.pointer pu, .string ln, .pointer pn, .slice A L.length c] 91)) 2
  have s3 := blk_cell (Go.heap_alloc_new w3 (Obj.cells #[.pointer pu, .string ln, .pointer pn, .slice A L.length c] 91)) 3
  clear hb3 o0_1 o1_1 o2_1 o3_1 o4_1
  go_wp2_with fail
  refine (HR.out _ A c HB3.out HRW.out).mono ?_
  rintro e w4 ⟨hb4, f, rfl, hf4⟩
  have HB4 := Lib.hid hb4
  have HF4 := Lib.hid hf4
  clear hb4 hf4
  go_wp2_with fail
  go_ret2
  exact ⟨bt HB3.out HB4.out, f, rfl, HF4.out⟩
set_option maxHeartbeats 4000000 in
set_option maxRecDepth 100000 in
theorem plan_6 (q E : Int) (S' : S) (pa pt : ByteArray) (D : Option Addr) (N dc : Nat) (Z : Int) (pu pn : Option Addr) (ln : ByteArray) (h : St w B tb es n i m) (hq : w.cell? ⟨0, 0, none⟩ = some (.int .i64 q)) (hp : (splitP pa).2 = 0) (hL : (splitP pa).1 = L) (hln1 : L.length ≤ 1000) (hln2 : ∀ x ∈ L, x.size ≤ 1000) (hw : way es [] L = 0)
    (hup : upV es L = .pointer pu) (hpn : ptrV ((gp es L).map (·.nb)) = .pointer pn) (hlast : L.getLastD ByteArray.empty = ln)
    (hR : ∀ (W : World) (A : Option Addr) (c : Nat), Below w.heap.size w W → RdS W A L → Calls Tryz.prog 40 #[.pointer (some ⟨tb, 0, none⟩), .agg #[.pointer pu, .string ln, .pointer pn, .slice A L.length c], .bool true] W (PlanPost W B tb es n i m E S')) :
    Calls Tryz.prog 20 #[.pointer (some ⟨tb, 0, none⟩), .agg #[.int .i64 6, .string pa, .string pt, .slice D N dc, .int .i64 Z]] w (PlanPost w B tb es n i m E S') := by
  have hb := (Below.refl w.heap.size w).alloc (Nat.le_refl _) (Obj.cells #[.int .i64 6, .string pa, .string pt, .slice D N dc, .int .i64 Z] 35)
  have HB := Lib.hid hb
  have hs := split_v pa q _ (keepC hb hq)
  rw [hp, hL] at hs
  have HS := Lib.hid hs
  have hf : ∀ A c W, Below w.heap.size w W → RdS W A L → Calls Tryz.prog 36 #[.pointer (some ⟨tb, 0, none⟩), .slice A L.length c] W (fun e w' => e = .returned (.tuple #[.agg #[.pointer pu, .string ln, .pointer pn, .slice A L.length c], .int .i64 0]) ∧ Below W.heap.size W w') := by
    intro A c W hW hr
    have h2 := h.below hW
    obtain ⟨r, hr1, hr2⟩ := h2.tre
    have h3 := find_any A c L h2.tr hr1 hr2 hr hln1 hln2
    rw [if_pos hw, hw] at h3
    unfold spotV nmV at h3
    rw [hup, hpn, hlast] at h3
    exact h3
  have HR := Lib.hid hR
  have HFD := Lib.hid hf
  have HO := Lib.hid (Go.heap_alloc_new w (Obj.cells #[.int .i64 6, .string pa, .string pt, .slice D N dc, .int .i64 Z] 35))
  clear hs hb hq hp hL hf h hw hup hpn hlast hR
  go_enter Tryz.func20, Tryz.ntmps20
  go_wp2_with fail
  refine HS.out.mono ?_
  rintro e w1 ⟨A, c, rfl, hr, hc, hb1⟩
  have HB1 := Lib.hid (HB.out.trans (hb1.mono HB.out.size))
  have HRD := Lib.hid hr
  have HC := Lib.hid hc
  have o0_1 := keepC hb1 (blk_cell HO.out 0)
  have o1_1 := keepC hb1 (blk_cell HO.out 1)
  have o2_1 := keepC hb1 (blk_cell HO.out 2)
  have o3_1 := keepC hb1 (blk_cell HO.out 3)
  have o4_1 := keepC hb1 (blk_cell HO.out 4)
  have HO1 := Lib.hid ((hb1.block _ (Array.getElem?_eq_some_iff.1 HO.out).1).trans HO.out)
  clear hr hc hb1
  go_wp2_with fail
  refine (HFD.out A c _ HB1.out HRD.out).mono ?_
  rintro e w3 ⟨rfl, hb3⟩
  have HB3 := Lib.hid ((bt HB1.out hb3).alloc (bt HB1.out hb3).size (Obj.cells #[.pointer pu, .string ln, .pointer pn, .slice A L.length c] 91))
  have HRW := Lib.hid (HRD.out.below (hb3.alloc hb3.size (Obj.cells #[.pointer pu, .string ln, .pointer pn, .slice A L.length c] 91)))
  have o0_3 := keepC (hb3.alloc hb3.size (Obj.cells #[.pointer pu, .string ln, .pointer pn, .slice A L.length c] 91)) (blk_cell HO1.out 0)
  have o1_3 := keepC (hb3.alloc hb3.size (Obj.cells #[.pointer pu, .string ln, .pointer pn, .slice A L.length c] 91)) (blk_cell HO1.out 1)
  have o2_3 := keepC (hb3.alloc hb3.size (Obj.cells #[.pointer pu, .string ln, .pointer pn, .slice A L.length c] 91)) (blk_cell HO1.out 2)
  have o3_3 := keepC (hb3.alloc hb3.size (Obj.cells #[.pointer pu, .string ln, .pointer pn, .slice A L.length c] 91)) (blk_cell HO1.out 3)
  have o4_3 := keepC (hb3.alloc hb3.size (Obj.cells #[.pointer pu, .string ln, .pointer pn, .slice A L.length c] 91)) (blk_cell HO1.out 4)
  have s0 := blk_cell (Go.heap_alloc_new w3 (Obj.cells #[.pointer pu, .string ln, .pointer pn, .slice A L.length c] 91)) 0
  have s1 := blk_cell (Go.heap_alloc_new w3 (Obj.cells #[.pointer pu, .string ln, .pointer pn, .slice A L.length c] 91)) 1
  have s2 := blk_cell (Go.heap_alloc_new w3 (Obj.cells #[.pointer pu, .string ln, .pointer pn, .slice A L.length c] 91)) 2
  have s3 := blk_cell (Go.heap_alloc_new w3 (Obj.cells #[.pointer pu, .string ln, .pointer pn, .slice A L.length c] 91)) 3
  clear hb3 o0_1 o1_1 o2_1 o3_1 o4_1
  go_wp2_with fail
  refine (HR.out _ A c HB3.out HRW.out).mono ?_
  rintro e w4 ⟨hb4, f, rfl, hf4⟩
  have HB4 := Lib.hid hb4
  have HF4 := Lib.hid hf4
  clear hb4 hf4
  go_wp2_with fail
  go_ret2
  exact ⟨bt HB3.out HB4.out, f, rfl, HF4.out⟩
set_option maxHeartbeats 4000000 in
set_option maxRecDepth 100000 in
theorem plan_7 (q E : Int) (S' : S) (pa pt : ByteArray) (D : Option Addr) (N dc : Nat) (Z : Int) (pu pn : Option Addr) (ln : ByteArray) (h : St w B tb es n i m) (hq : w.cell? ⟨0, 0, none⟩ = some (.int .i64 q)) (hp : (splitP pa).2 = 0) (hL : (splitP pa).1 = L) (hln1 : L.length ≤ 1000) (hln2 : ∀ x ∈ L, x.size ≤ 1000) (hp2 : (splitP pt).2 = 0) (hM : (splitP pt).1 = M) (hw : way es [] L = 0)
    (hup : upV es L = .pointer pu) (hpn : ptrV ((gp es L).map (·.nb)) = .pointer pn) (hlast : L.getLastD ByteArray.empty = ln)
    (hR : ∀ (W : World) (A : Option Addr) (c : Nat), Below w.heap.size w W → RdS W A L → ∀ A2 c2, RdS W A2 M → M.length ≤ c2 → Calls Tryz.prog 41 #[.pointer (some ⟨tb, 0, none⟩), .agg #[.pointer pu, .string ln, .pointer pn, .slice A L.length c], .slice A2 M.length c2] W (PlanPost W B tb es n i m E S')) :
    Calls Tryz.prog 20 #[.pointer (some ⟨tb, 0, none⟩), .agg #[.int .i64 7, .string pa, .string pt, .slice D N dc, .int .i64 Z]] w (PlanPost w B tb es n i m E S') := by
  have hb := (Below.refl w.heap.size w).alloc (Nat.le_refl _) (Obj.cells #[.int .i64 7, .string pa, .string pt, .slice D N dc, .int .i64 Z] 35)
  have HB := Lib.hid hb
  have hs := split_v pa q _ (keepC hb hq)
  rw [hp, hL] at hs
  have HS := Lib.hid hs
  have hs2 := fun W (hW : Below w.heap.size w W) => split_v pt q W (keepC hW hq)
  rw [hp2, hM] at hs2
  have HS2 := Lib.hid hs2
  have hf : ∀ A c W, Below w.heap.size w W → RdS W A L → Calls Tryz.prog 36 #[.pointer (some ⟨tb, 0, none⟩), .slice A L.length c] W (fun e w' => e = .returned (.tuple #[.agg #[.pointer pu, .string ln, .pointer pn, .slice A L.length c], .int .i64 0]) ∧ Below W.heap.size W w') := by
    intro A c W hW hr
    have h2 := h.below hW
    obtain ⟨r, hr1, hr2⟩ := h2.tre
    have h3 := find_any A c L h2.tr hr1 hr2 hr hln1 hln2
    rw [if_pos hw, hw] at h3
    unfold spotV nmV at h3
    rw [hup, hpn, hlast] at h3
    exact h3
  have HR := Lib.hid hR
  have HFD := Lib.hid hf
  have HO := Lib.hid (Go.heap_alloc_new w (Obj.cells #[.int .i64 7, .string pa, .string pt, .slice D N dc, .int .i64 Z] 35))
  clear hs hb hq hp hL hf h hw hs2 hp2 hM hup hpn hlast hR
  go_enter Tryz.func20, Tryz.ntmps20
  go_wp2_with fail
  refine HS.out.mono ?_
  rintro e w1 ⟨A, c, rfl, hr, hc, hb1⟩
  have HB1 := Lib.hid (HB.out.trans (hb1.mono HB.out.size))
  have HRD := Lib.hid hr
  have HC := Lib.hid hc
  have o0_1 := keepC hb1 (blk_cell HO.out 0)
  have o1_1 := keepC hb1 (blk_cell HO.out 1)
  have o2_1 := keepC hb1 (blk_cell HO.out 2)
  have o3_1 := keepC hb1 (blk_cell HO.out 3)
  have o4_1 := keepC hb1 (blk_cell HO.out 4)
  have HO1 := Lib.hid ((hb1.block _ (Array.getElem?_eq_some_iff.1 HO.out).1).trans HO.out)
  clear hr hc hb1
  go_wp2_with fail
  refine (HS2.out _ HB1.out).mono ?_
  rintro e w2 ⟨A2, c2, rfl, hr, hc, hb2⟩
  have HB2 := Lib.hid (bt HB1.out hb2)
  have HRD1 := Lib.hid (HRD.out.below hb2)
  have HRD2 := Lib.hid hr
  have HC2 := Lib.hid hc
  have o0_2 := keepC hb2 (blk_cell HO1.out 0)
  have o1_2 := keepC hb2 (blk_cell HO1.out 1)
  have o2_2 := keepC hb2 (blk_cell HO1.out 2)
  have o3_2 := keepC hb2 (blk_cell HO1.out 3)
  have o4_2 := keepC hb2 (blk_cell HO1.out 4)
  have HO2 := Lib.hid ((hb2.block _ (Array.getElem?_eq_some_iff.1 HO1.out).1).trans HO1.out)
  clear hr hc hb2 o0_1 o1_1 o2_1 o3_1 o4_1
  go_wp2_with fail
  refine (HFD.out A c _ HB2.out HRD1.out).mono ?_
  rintro e w3 ⟨rfl, hb3⟩
  have HB3 := Lib.hid ((bt HB2.out hb3).alloc (bt HB2.out hb3).size (Obj.cells #[.pointer pu, .string ln, .pointer pn, .slice A L.length c] 91))
  have HRW := Lib.hid (HRD1.out.below (hb3.alloc hb3.size (Obj.cells #[.pointer pu, .string ln, .pointer pn, .slice A L.length c] 91)))
  have HRW2 := Lib.hid (HRD2.out.below (hb3.alloc hb3.size (Obj.cells #[.pointer pu, .string ln, .pointer pn, .slice A L.length c] 91)))
  have o0_3 := keepC (hb3.alloc hb3.size (Obj.cells #[.pointer pu, .string ln, .pointer pn, .slice A L.length c] 91)) (blk_cell HO2.out 0)
  have o1_3 := keepC (hb3.alloc hb3.size (Obj.cells #[.pointer pu, .string ln, .pointer pn, .slice A L.length c] 91)) (blk_cell HO2.out 1)
  have o2_3 := keepC (hb3.alloc hb3.size (Obj.cells #[.pointer pu, .string ln, .pointer pn, .slice A L.length c] 91)) (blk_cell HO2.out 2)
  have o3_3 := keepC (hb3.alloc hb3.size (Obj.cells #[.pointer pu, .string ln, .pointer pn, .slice A L.length c] 91)) (blk_cell HO2.out 3)
  have o4_3 := keepC (hb3.alloc hb3.size (Obj.cells #[.pointer pu, .string ln, .pointer pn, .slice A L.length c] 91)) (blk_cell HO2.out 4)
  have s0 := blk_cell (Go.heap_alloc_new w3 (Obj.cells #[.pointer pu, .string ln, .pointer pn, .slice A L.length c] 91)) 0
  have s1 := blk_cell (Go.heap_alloc_new w3 (Obj.cells #[.pointer pu, .string ln, .pointer pn, .slice A L.length c] 91)) 1
  have s2 := blk_cell (Go.heap_alloc_new w3 (Obj.cells #[.pointer pu, .string ln, .pointer pn, .slice A L.length c] 91)) 2
  have s3 := blk_cell (Go.heap_alloc_new w3 (Obj.cells #[.pointer pu, .string ln, .pointer pn, .slice A L.length c] 91)) 3
  clear hb3 o0_2 o1_2 o2_2 o3_2 o4_2
  go_wp2_with fail
  refine (HR.out _ A c HB3.out HRW.out A2 c2 HRW2.out HC2.out).mono ?_
  rintro e w4 ⟨hb4, f, rfl, hf4⟩
  have HB4 := Lib.hid hb4
  have HF4 := Lib.hid hf4
  clear hb4 hf4
  go_wp2_with fail
  go_ret2
  exact ⟨bt HB3.out HB4.out, f, rfl, HF4.out⟩
end
end Go.Proofs.YtpdcjdangnfeiaaGreatDoor.Uy
open Go.Proofs.YtpdcjdangnfeiaaGreatDoor.Uy
namespace Go.Proofs.YtpdcjdangnfeiaaGreatDoor.Uz
theorem split_names {s : ByteArray} (h : (splitP s).2 = 0) : (splitP s).1.length ≤ 8 ∧ ∀ x ∈ (splitP s).1, x.size ≤ 48 ∧ nmL x.data.toList = true := by
  obtain ⟨h1, -, -⟩ := split_ok h
  obtain ⟨h2, h3⟩ := chk_zero h1
  refine ⟨by show ((splitL s.data.toList).1.map _).length ≤ 8; rw [List.length_map]; exact h3, fun x hx => ?_⟩
  obtain ⟨l, hl, rfl⟩ := List.mem_map.1 hx
  have h4 := List.all_eq_true.1 h2 l hl
  have e : (⟨l.toArray⟩ : ByteArray).data.toList = l := by simp
  refine ⟨?_, by rw [e]; exact h4⟩
  have h5 : l.length ≤ 48 := by
    simp only [nmL, Bool.and_eq_true, decide_eq_true_eq] at h4
    exact h4.1.1.1.2
  have : (⟨l.toArray⟩ : ByteArray).size = l.length := by simp [ByteArray.size]
  omega
def opV (o : O) (D : Option Addr) (dc : Nat) : Value := .agg #[.int .i64 o.kind, .string o.path, .string o.to, .slice D o.data.length dc, .int .i64 o.n]
section
variable {w : World} {B tb n i m : Nat} {es : Es}
/-- (*Tree).plan -/
theorem plan_any (q : Int) (o : O) (D : Option Addr) (dc : Nat) (h : St w B tb es n i m) (hm : m ≤ 2000) (hq : w.cell? ⟨0, 0, none⟩ = some (.int .i64 q)) (hD : RdB w D o.data) (hl : o.data.length ≤ 1000000) :
    Calls Tryz.prog 20 #[.pointer (some ⟨tb, 0, none⟩), opV o D dc] w (PlanPost w B tb es n i m (doE ⟨absE es, n, i⟩ o) (planS ⟨absE es, n, i⟩ o (splitP o.path).1 (splitP o.to).1)) := by
  obtain ⟨K, pa, pt, dat, Z⟩ := o
  unfold opV
  obtain ⟨E, hE⟩ : ∃ E, doE ⟨absE es, n, i⟩ ⟨K, pa, pt, dat, Z⟩ = E := ⟨_, rfl⟩
  rw [hE]
  unfold doE at hE
  dsimp only at hE hD hl ⊢
  rw [way_abs] at hE
  by_cases c1 : K < 1 ∨ 7 < K
  · rw [if_pos c1] at hE
    subst hE
    exact (plan_kind K pa pt D _ dc Z c1).mono fun _ _ h => ErrPost.plan h (by decide)
  rw [if_neg c1] at hE
  have k1 : ¬ K < 1 := fun h => c1 (.inl h)
  have k2 : ¬ 7 < K := fun h => c1 (.inr h)
  by_cases c2 : (splitP pa).2 = 0
  · rw [if_neg (by simpa using c2)] at hE
    obtain ⟨n1, n2⟩ := split_names c2
    obtain ⟨L, hL⟩ : ∃ L, (splitP pa).1 = L := ⟨_, rfl⟩
    obtain ⟨M, hM⟩ : ∃ M, (splitP pt).1 = M := ⟨_, rfl⟩
    rw [hL] at n1 n2 hE
    rw [hM] at hE
    rw [hL, hM]
    have n3 : ∀ x ∈ L, x.size ≤ 1000 := fun x hx => by have := (n2 x hx).1; omega
    have n4 : ∀ x ∈ L, x.size ≤ 1000000 := fun x hx => by have := (n2 x hx).1; omega
    have n5 : ∀ x ∈ L, x.size ≤ 1000000 ∧ nmL x.data.toList = true := fun x hx => ⟨n4 x hx, (n2 x hx).2⟩
    by_cases c3 : K = 7 ∧ (splitP pt).2 ≠ 0
    · rw [if_pos c3] at hE
      obtain ⟨rfl, c3⟩ := c3
      exact (plan_to q E pa pt D _ dc Z hq c2 hE (by rw [← hE]; exact c3)).mono fun _ _ h => ErrPost.plan h (by rw [← hE]; exact c3)
    · rw [if_neg c3] at hE
      by_cases c4 : way es [] L = 0
      · rw [if_neg (by simpa using c4)] at hE
        obtain ⟨pu, hpu⟩ := upV_is es L
        obtain ⟨pn, hpn⟩ := ptrV_is ((gp es L).map (·.nb))
        obtain ⟨ln, hln⟩ : ∃ ln, L.getLastD ByteArray.empty = ln := ⟨_, rfl⟩
        have hsp : ∀ x, spotV es L x = .agg #[.pointer pu, .string ln, .pointer pn, x] := fun x => by unfold spotV nmV; rw [hpu, hpn, hln]
        have hk : K = 1 ∨ K = 2 ∨ K = 3 ∨ K = 4 ∨ K = 5 ∨ K = 6 ∨ K = 7 := by omega
        subst hE
        rcases hk with rfl | rfl | rfl | rfl | rfl | rfl | rfl
        · refine plan_1 q _ _ pa pt D _ dc Z pu pn ln h hq c2 hL (by omega) n3 c4 hpu hpn hln fun W A c hW hr => ?_
          rw [← hsp]
          exact make_any A _ c false L (h.below hW) hm c4 n5
        · refine plan_2 q _ _ pa pt D _ dc Z pu pn ln h hq c2 hL (by omega) n3 c4 hpu hpn hln fun W A c hW hr => ?_
          rw [← hsp]
          exact make_any A _ c true L (h.below hW) hm c4 n5
        · refine plan_3 q _ _ pa pt D _ dc Z pu pn ln h hq c2 hL (by omega) n3 c4 hpu hpn hln fun W A c hW hr => ?_
          rw [← hpn]
          exact append_any D dc dat L (h.below hW) hm (hD.below hW) hl
        · refine plan_4 q _ _ pa pt D _ dc Z pu pn ln h hq c2 hL (by omega) n3 c4 hpu hpn hln fun W A c hW hr => ?_
          rw [← hpn]
          exact cut_any Z L (h.below hW) hm
        · refine plan_5 q _ _ pa pt D _ dc Z pu pn ln h hq c2 hL (by omega) n3 c4 hpu hpn hln fun W A c hW hr => ?_
          rw [← hsp]
          exact remove_any A _ c false L (h.below hW) hm c4 n4
        · refine plan_6 q _ _ pa pt D _ dc Z pu pn ln h hq c2 hL (by omega) n3 c4 hpu hpn hln fun W A c hW hr => ?_
          rw [← hsp]
          exact remove_any A _ c true L (h.below hW) hm c4 n4
        · have c5 : (splitP pt).2 = 0 := by
            by_cases e : (splitP pt).2 = 0
            · exact e
            · exact absurd ⟨rfl, e⟩ c3
          obtain ⟨m1, m2⟩ := split_names c5
          rw [hM] at m1 m2
          refine plan_7 q _ _ pa pt D _ dc Z pu pn ln h hq c2 hL (by omega) n3 c5 hM c4 hpu hpn hln fun W A c hW hr A2 c2' hr2 hc2' => ?_
          rw [← hsp]
          exact move_any A A2 c c2' (h.below hW) hm hr hr2 (by omega) (by omega) hc2' n3 (fun x hx => ⟨by have := (m2 x hx).1; omega, (m2 x hx).2⟩) c4
      · rw [if_pos c4] at hE
        by_cases c5 : K = 7
        · subst c5
          have c6 : (splitP pt).2 = 0 := by
            by_cases e : (splitP pt).2 = 0
            · exact e
            · exact absurd ⟨rfl, e⟩ c3
          exact (plan_way7 q E pa pt D _ dc Z h hq c2 hL (by omega) n3 c6 hM hE (by rw [← hE]; exact c4)).mono fun _ _ h => ErrPost.plan h (by rw [← hE]; exact c4)
        · exact (plan_way K q E pa pt D _ dc Z k1 k2 (by simpa using c5) h hq c2 hL (by omega) n3 hE (by rw [← hE]; exact c4)).mono fun _ _ h => ErrPost.plan h (by rw [← hE]; exact c4)
  · rw [if_pos c2] at hE
    exact (plan_path K q E pa pt D _ dc Z k1 k2 hq hE (by rw [← hE]; exact c2)).mono fun _ _ h => ErrPost.plan h (by rw [← hE]; exact c2)
/-- What Do leaves. -/
def DoPost (w : World) (B tb : Nat) (es : Es) (n i m : Nat) (o : O) (e : Ending) (w' : World) : Prop :=
  e = .returned (.int .i64 (doE ⟨absE es, n, i⟩ o)) ∧ ∃ es' n' i', St w' B tb es' n' i' (m + 1) ∧ (⟨absE es', n', i'⟩ : S) = doS ⟨absE es, n, i⟩ o ∧ Turn w w' B tb es es' ∧ es'.length + i' = es.length + i ∧ (doE ⟨absE es, n, i⟩ o ≠ 0 → es' = es)
def DoMid (w : World) (B tb : Nat) (es : Es) (i m : Nat) (E : Int) (S0 S' : S) (e : Ending) (w' : World) : Prop :=
  e = .returned (.int .i64 E) ∧ ∃ es' n' i', St w' B tb es' n' i' (m + 1) ∧ (⟨absE es', n', i'⟩ : S) = (if E ≠ 0 then S0 else S') ∧ Turn w w' B tb es es' ∧ es'.length + i' = es.length + i ∧ (E ≠ 0 → es' = es)
set_option maxHeartbeats 4000000 in
set_option maxRecDepth 100000 in
/-- (*Tree).Do -/
theorem do_any (q : Int) (o : O) (D : Option Addr) (dc : Nat) (h : St w B tb es n i m) (hm : m ≤ 2000) (hq : w.cell? ⟨0, 0, none⟩ = some (.int .i64 q)) (hD : RdB w D o.data) (hl : o.data.length ≤ 1000000) :
    Calls Tryz.prog 8 #[.pointer (some ⟨tb, 0, none⟩), opV o D dc] w (DoPost w B tb es n i m o) := by
  have hb : ∀ O9 : Obj, Below w.heap.size w (w.alloc O9) := fun O9 => (Below.refl w.heap.size w).alloc (Nat.le_refl _) O9
  have HB := Lib.hid (hb (.cells #[.int .i64 o.kind, .string o.path, .string o.to, .slice D o.data.length dc, .int .i64 o.n] 35))
  have hp := plan_any q o D dc (h.below HB.out) hm (keepC HB.out hq) (hD.below HB.out) hl
  obtain ⟨S', hS'⟩ : ∃ S', planS ⟨absE es, n, i⟩ o (splitP o.path).1 (splitP o.to).1 = S' := ⟨_, rfl⟩
  have hdo : doS ⟨absE es, n, i⟩ o = if doE ⟨absE es, n, i⟩ o ≠ 0 then ⟨absE es, n, i⟩ else S' := by unfold doS; rw [hS']
  rw [hS'] at hp
  have H := Lib.hid h
  obtain ⟨E, hE⟩ : ∃ E, doE ⟨absE es, n, i⟩ o = E := ⟨_, rfl⟩
  have hpost : DoPost w B tb es n i m o = DoMid w B tb es i m E ⟨absE es, n, i⟩ S' := by
    unfold DoMid
    unfold DoPost
    rw [hdo, hE]
  rw [hE] at hp
  rw [hpost]
  unfold opV at hp ⊢
  have HP := Lib.hid hp
  clear hS' hdo hpost hE hp hb hq h
  by_cases k : E = 0
  · have HK := Lib.hid k
    subst k
    go_enter Tryz.func8, Tryz.ntmps8
    go_wp2_with fail
    refine HP.out.mono ?_
    rintro e w1 ⟨hb1, f, rfl, hf⟩
    obtain ⟨kf, caps, rfl, hent, hcall⟩ := hf rfl
    have hen : ∀ args w, (callFunc kf args).run Tryz.prog w = .ok (.enter kf args) w := hent
    have HB1 := Lib.hid (bt HB.out hb1)
    have HCALL := Lib.hid hcall
    clear hf hcall hb1 hent
    go_wp2_with fail
    refine HCALL.out.mono ?_
    rintro e w2 ⟨rfl, es', n', i', a1, a2, a3, a4⟩
    have HA1 := Lib.hid a1
    have HA2 := Lib.hid a2
    have HA3 := Lib.hid a3
    have HA4 := Lib.hid a4
    clear a1 a2 a3 a4
    go_wp2_with fail
    go_ret
    refine ⟨rfl, es', n', i', HA1.out, ?_, (Turn.of_below H.out HB1.out H.out.base).trans HA3.out, HA4.out, fun h => absurd rfl h⟩
    rw [if_neg (by simp)]
    exact HA2.out
  · have HK := Lib.hid k
    have k1 : (E == 0) = false := by simpa using k
    clear k
    go_enter Tryz.func8, Tryz.ntmps8
    go_wp2_with fail
    refine HP.out.mono ?_
    rintro e w1 ⟨hb1, f, rfl, -⟩
    have HB1 := Lib.hid (bt HB.out hb1)
    clear hb1
    go_wp2_with fail
    go_ret
    refine ⟨rfl, es, n, i, (H.out.below HB1.out).mono (by omega), ?_, Turn.of_below H.out HB1.out H.out.base, rfl, fun _ => rfl⟩
    rw [if_pos HK.out]
end
end Go.Proofs.YtpdcjdangnfeiaaGreatDoor.Uz
open Go.Proofs.YtpdcjdangnfeiaaGreatDoor.Uz
namespace Go.Proofs.YtpdcjdangnfeiaaGreatDoor.Va
/-- What look tells. -/
def lk (es : Es) (p : ByteArray) : Option Sh × Int :=
  if (splitP p).2 ≠ 0 then (none, (splitP p).2) else if way es [] (splitP p).1 ≠ 0 then (none, way es [] (splitP p).1) else match gp es (splitP p).1 with
  | none => (none, 8)
  | some s => (some s, 0)
section
variable {w : World} {B tb n i m : Nat} {es : Es} {p : ByteArray} {L : Path} {s : Sh}
set_option maxHeartbeats 1000000 in
set_option maxRecDepth 100000 in
theorem look_path (q E : Int) (hq : w.cell? ⟨0, 0, none⟩ = some (.int .i64 q)) (hE : (splitP p).2 = E) (h0 : E ≠ 0) :
    Calls Tryz.prog 30 #[.pointer (some ⟨tb, 0, none⟩), .string p] w fun e w' => e = .returned (.tuple #[.pointer none, .int .i64 E]) ∧ Below w.heap.size w w' := by
  have hs := split_v p q w hq
  rw [hE] at hs
  have HS := Lib.hid hs
  have k0 : (E != 0) = true := by simpa using h0
  clear hs hE hq
  go_enter Tryz.func30, Tryz.ntmps30
  go_wp2_with fail
  refine HS.out.mono ?_
  rintro e w1 ⟨A, c, rfl, hr, hc, hb1⟩
  have HB1 := Lib.hid hb1
  clear hr hc hb1
  go_wp2_with fail
  go_ret2
  exact ⟨rfl, HB1.out⟩
theorem find_v (h : St w B tb es n i m) (hln1 : L.length ≤ 1000) (hln2 : ∀ x ∈ L, x.size ≤ 1000) (A : Option Addr) (c : Nat) (hr : RdS w A L) :
    Calls Tryz.prog 36 #[.pointer (some ⟨tb, 0, none⟩), .slice A L.length c] w fun e w' => e = .returned (.tuple #[if way es [] L = 0 then spotV es L (.slice A L.length c) else noSpot, .int .i64 (way es [] L)]) ∧ Below w.heap.size w w' := by
  obtain ⟨r, hr1, hr2⟩ := h.tre
  exact find_any A c L h.tr hr1 hr2 hr hln1 hln2
set_option maxHeartbeats 1000000 in
set_option maxRecDepth 100000 in
theorem look_way (q E : Int) (h : St w B tb es n i m) (hq : w.cell? ⟨0, 0, none⟩ = some (.int .i64 q)) (hp : (splitP p).2 = 0) (hL : (splitP p).1 = L) (hln1 : L.length ≤ 1000) (hln2 : ∀ x ∈ L, x.size ≤ 1000) (hw : way es [] L = E) (h0 : E ≠ 0) :
    Calls Tryz.prog 30 #[.pointer (some ⟨tb, 0, none⟩), .string p] w fun e w' => e = .returned (.tuple #[.pointer none, .int .i64 E]) ∧ Below w.heap.size w w' := by
  have hs := split_v p q w hq
  rw [hp, hL] at hs
  have HS := Lib.hid hs
  have hf : ∀ A c W, Below w.heap.size w W → RdS W A L → Calls Tryz.prog 36 #[.pointer (some ⟨tb, 0, none⟩), .slice A L.length c] W (fun e w' => e = .returned (.tuple #[.agg #[.pointer none, .string ByteArray.empty, .pointer none, .slice none 0 0], .int .i64 E]) ∧ Below W.heap.size W w') := by
    intro A c W hW hr
    have h3 := find_v (h.below hW) hln1 hln2 A c hr
    rw [if_neg (by rw [hw]; exact h0), hw] at h3
    exact h3
  have HF := Lib.hid hf
  have k0 : (E == 0) = false := by simpa using h0
  have k1 : (E != 0) = true := by simpa using h0
  clear hs hq hp hL hf h hw
  go_enter Tryz.func30, Tryz.ntmps30
  go_wp2_with fail
  refine HS.out.mono ?_
  rintro e w1 ⟨A, c, rfl, hr, hc, hb1⟩
  have HB1 := Lib.hid hb1
  have HRD := Lib.hid hr
  clear hr hc hb1
  go_wp2_with fail
  refine (HF.out A c _ HB1.out HRD.out).mono ?_
  rintro e w2 ⟨rfl, hb2⟩
  have HB2 := Lib.hid (bt HB1.out hb2)
  clear hb2
  go_wp2_with fail
  go_ret2
  exact ⟨rfl, HB2.out.alloc HB2.out.size _⟩
set_option maxHeartbeats 1000000 in
set_option maxRecDepth 100000 in
theorem look_there (q : Int) (o : Option Addr) (h : St w B tb es n i m) (hq : w.cell? ⟨0, 0, none⟩ = some (.int .i64 q)) (hp : (splitP p).2 = 0) (hL : (splitP p).1 = L) (hln1 : L.length ≤ 1000) (hln2 : ∀ x ∈ L, x.size ≤ 1000) (hw : way es [] L = 0) (hpn : ptrV ((gp es L).map (·.nb)) = .pointer o) :
    Calls Tryz.prog 30 #[.pointer (some ⟨tb, 0, none⟩), .string p] w fun e w' => e = .returned (.tuple #[.pointer o, .int .i64 (if o.isNone then 8 else 0)]) ∧ Below w.heap.size w w' := by
  have hs := split_v p q w hq
  rw [hp, hL] at hs
  have HS := Lib.hid hs
  obtain ⟨pu, hpu⟩ := upV_is es L
  obtain ⟨ln, hln⟩ : ∃ ln, L.getLastD ByteArray.empty = ln := ⟨_, rfl⟩
  have hf : ∀ A c W, Below w.heap.size w W → RdS W A L → Calls Tryz.prog 36 #[.pointer (some ⟨tb, 0, none⟩), .slice A L.length c] W (fun e w' => e = .returned (.tuple #[.agg #[.pointer pu, .string ln, .pointer o, .slice A L.length c], .int .i64 0]) ∧ Below W.heap.size W w') := by
    intro A c W hW hr
    have h3 := find_v (h.below hW) hln1 hln2 A c hr
    rw [if_pos hw, hw] at h3
    unfold spotV nmV at h3
    rw [hpu, hpn, hln] at h3
    exact h3
  have HF := Lib.hid hf
  clear hs hq hp hL hf h hw hpu hpn hln
  cases o with
  | none =>
    show Calls _ _ _ _ fun e w' => e = .returned (.tuple #[.pointer none, .int .i64 8]) ∧ _
    go_enter Tryz.func30, Tryz.ntmps30
    go_wp2_with fail
    refine HS.out.mono ?_
    rintro e w1 ⟨A, c, rfl, hr, hc, hb1⟩
    have HB1 := Lib.hid hb1
    have HRD := Lib.hid hr
    clear hr hc hb1
    go_wp2_with fail
    refine (HF.out A c _ HB1.out HRD.out).mono ?_
    rintro e w2 ⟨rfl, hb2⟩
    have HB2 := Lib.hid (bt HB1.out hb2)
    clear hb2
    go_wp2_with fail
    go_ret2
    exact ⟨rfl, HB2.out.alloc HB2.out.size _⟩
  | some ad =>
    show Calls _ _ _ _ fun e w' => e = .returned (.tuple #[.pointer (some ad), .int .i64 0]) ∧ _
    go_enter Tryz.func30, Tryz.ntmps30
    go_wp2_with fail
    refine HS.out.mono ?_
    rintro e w1 ⟨A, c, rfl, hr, hc, hb1⟩
    have HB1 := Lib.hid hb1
    have HRD := Lib.hid hr
    clear hr hc hb1
    go_wp2_with fail
    refine (HF.out A c _ HB1.out HRD.out).mono ?_
    rintro e w2 ⟨rfl, hb2⟩
    have HB2 := Lib.hid (bt HB1.out hb2)
    clear hb2
    go_wp2_with fail
    go_ret2
    exact ⟨rfl, HB2.out.alloc HB2.out.size _⟩
/-- look -/
theorem look_any (q : Int) (p : ByteArray) (h : St w B tb es n i m) (hq : w.cell? ⟨0, 0, none⟩ = some (.int .i64 q)) :
    Calls Tryz.prog 30 #[.pointer (some ⟨tb, 0, none⟩), .string p] w fun e w' => e = .returned (.tuple #[ptrV ((lk es p).1.map (·.nb)), .int .i64 (lk es p).2]) ∧ Below w.heap.size w w' := by
  unfold lk
  by_cases c2 : (splitP p).2 = 0
  · rw [if_neg (by simpa using c2)]
    obtain ⟨n1, n2⟩ := split_names c2
    obtain ⟨L, hL⟩ : ∃ L, (splitP p).1 = L := ⟨_, rfl⟩
    rw [hL] at n1 n2 ⊢
    have n3 : ∀ x ∈ L, x.size ≤ 1000 := fun x hx => by have := (n2 x hx).1; omega
    by_cases c4 : way es [] L = 0
    · rw [if_neg (by simpa using c4)]
      cases hg : gp es L with
      | none => exact look_there q none h hq c2 hL (by omega) n3 c4 (by rw [hg]; rfl)
      | some s => exact look_there q (some ⟨s.nb, 0, none⟩) h hq c2 hL (by omega) n3 c4 (by rw [hg]; rfl)
    · rw [if_pos c4]
      exact look_way q _ h hq c2 hL (by omega) n3 rfl c4
  · rw [if_pos c2]
    exact look_path q _ hq rfl c2
end
end Go.Proofs.YtpdcjdangnfeiaaGreatDoor.Va
end
