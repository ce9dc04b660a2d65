/- The reference's data walked: Append, Cut. The reference's make walked: Create, Mkdir. -/
import Derived.Test.YtpdcjdangnfeiaaGreatDoorZc
import Derived.Test.YtpdcjdangnfeiaaGreatDoorYk
import Derived.Test.YtpdcjdangnfeiaaGreatDoorZb
import Derived.Test.YtpdcjdangnfeiaaGreatDoorZd
section
open Go Go.RowKit Go.Proofs.YtpdcjdangnfeiaaGreatDoor.Pb Go.Proofs.YtpdcjdangnfeiaaGreatDoor.PPrf Go.Proofs.YtpdcjdangnfeiaaGreatDoorW.PrintWords Go.Proofs.YtpdcjdangnfeiaaGreatDoorW.PrintLast Go.Proofs.YtpdcjdangnfeiaaGreatDoorW.PrintMore Go.Proofs.YtpdcjdangnfeiaaGreatDoor.Qa Go.Proofs.YtpdcjdangnfeiaaGreatDoor.Tb Go.Proofs.YtpdcjdangnfeiaaGreatDoor.Rb Go.Proofs.YtpdcjdangnfeiaaGreatDoor.Ba Go.Proofs.YtpdcjdangnfeiaaGreatDoor.Rd Go.Proofs.YtpdcjdangnfeiaaGreatDoor.Te Go.Proofs.YtpdcjdangnfeiaaGreatDoor.Rq Go.Proofs.YtpdcjdangnfeiaaGreatDoor.Ua Go.Proofs.YtpdcjdangnfeiaaGreatDoor.Uz
namespace Go.Proofs.YtpdcjdangnfeiaaGreatDoor.Rc
/-- The reference's state. -/
structure RS where
  L : List T
  n : Int
  m : Int
def moreR (r : RS) (k : Nat) (d : List UInt8) : RS × Int :=
  if moreE (thL r.L k) r.n d.length = 0 then (⟨r.L.set k { thL r.L k with B := (thL r.L k).B ++ d }, r.n - ((allB ((thL r.L k).B.length + d.length) : Int) - (allB (thL r.L k).B.length : Int)), r.m⟩, 0) else (r, moreE (thL r.L k) r.n d.length)
def cutR (r : RS) (k : Nat) (n : Int) : RS × Int :=
  if n < 0 ∨ ((thL r.L k).B.length : Int) < n then (r, 1) else (⟨r.L.set k { thL r.L k with B := (thL r.L k).B.take n.toNat }, r.n + (allB (thL r.L k).B.length : Int) - (allB n.toNat : Int), r.m⟩, 0)
def dataR (r : RS) (o : O) (l : List ByteArray) : RS × Int :=
  if (walkL r.L 0 l).2 ≠ 0 then (r, (walkL r.L 0 l).2) else if (thL r.L (walkL r.L 0 l).1).dir then (r, 10) else if o.kind = 4 then cutR r (walkL r.L 0 l).1 o.n else moreR r (walkL r.L 0 l).1 o.data
/-- What a call answers and leaves. -/
def RP (w : World) (B g b : Nat) (z : RS × Int) (e : Ending) (w' : World) : Prop := e = .returned (.int .i64 z.2) ∧ Rp w w' B g b z.1.L z.1.n z.1.m
/-- Where names lead. -/
theorem walk_lt {L : List T} {M : Nat} (hw : WfL L M) (l : List ByteArray) : ∀ k, k < L.length → (walkL L k l).1 < L.length := by
  induction l with
  | nil => intro k hk; exact hk
  | cons x l ih =>
    intro k hk
    unfold walkL
    split
    · exact Nat.lt_of_le_of_lt (Nat.zero_le _) hk
    · cases ha : atL (thL L k).S x with
      | none => exact Nat.lt_of_le_of_lt (Nat.zero_le _) hk
      | some i =>
        obtain ⟨-, j, hj, hj2⟩ := walk_next hw hk ha
        have : (inoL (thL L k).S i - 1).toNat = j := by omega
        show (walkL L _ l).1 < _
        rw [this]
        exact ih j hj2
theorem rp_same {w w' : World} {B g b : Nat} {r : RS} {E : Int} {z : RS × Int} {e : Ending} (hz : z = (r, E)) (he : e = .returned (.int .i64 E)) (h : Rf w B g b r.L r.n r.m) (hb : Below w.heap.size w w') : RP w B g b z e w' := by
  subst hz
  exact ⟨he, Rp.of_below h hb⟩
theorem more_r {w : World} {B g b M : Nat} {r : RS} (k : Nat) (D : Option Addr) (dc : Nat) (d : List UInt8) (h : Rf w B g b r.L r.n r.m) (hw : WfL r.L M) (hM : M ≤ 100000) (hk : k < r.L.length) (hn : 0 ≤ r.n ∧ r.n ≤ 1000000000) (hD : RdB w D d) (hdl : d.length ≤ 1000000) :
    Calls Tryz.prog 49 #[.pointer (some ⟨g, 0, none⟩), .int .i64 k, .slice D d.length dc] w (RP w B g b (moreR r k d)) := by
  refine (more_any k D dc d h hw hM hk hn hD hdl).mono ?_
  rintro e w' ⟨rfl, hp⟩
  unfold moreR
  by_cases c : moreE (thL r.L k) r.n d.length = 0
  · rw [if_pos c] at hp ⊢
    exact ⟨by rw [c], hp⟩
  · rw [if_neg c] at hp ⊢
    exact ⟨rfl, hp⟩
theorem Rp.from {w w1 w2 : World} {B g b : Nat} {L : List T} {n m : Int} (hb : Below w.heap.size w w1) {L0 : List T} {n0 m0 : Int} (h0 : Rf w B g b L0 n0 m0) (h : Rp w1 w2 B g b L n m) : Rp w w2 B g b L n m :=
  Rp.trans ⟨b, h0.below hb, .inl rfl, h0.fz0 hb, hb.mono (by have := h0.base; have := h0.ltg; omega), h⟩
set_option maxHeartbeats 4000000 in
set_option maxRecDepth 100000 in
/-- (*Tree).data -/
theorem data_any {w : World} {B g b M : Nat} {r : RS} (A : Option Addr) (c : Nat) (l : List ByteArray) (o : O) (D : Option Addr) (dc : Nat) (h : Rf w B g b r.L r.n r.m) (hw : WfL r.L M) (hM : M ≤ 100000) (hl : RdN w A l) (hn : l.length ≤ 1000)
    (hnn : 0 ≤ r.n ∧ r.n ≤ 1000000000) (hD : RdB w D o.data) (hdl : o.data.length ≤ 1000000) :
    Calls Tryz.prog 23 #[.pointer (some ⟨g, 0, none⟩), opV o D dc, .slice A l.length c] w (RP w B g b (dataR r o l)) := by
  obtain ⟨Z, hZ⟩ : ∃ Z, dataR r o l = Z := ⟨_, rfl⟩
  rw [hZ]
  obtain ⟨w0, hw0⟩ : ∃ w0, w.alloc (Obj.cells #[.int .i64 o.kind, .string o.path, .string o.to, .slice D o.data.length dc, .int .i64 o.n] 37) = w0 := ⟨_, rfl⟩
  have hb0 : Below w.heap.size w w0 := hw0 ▸ (Below.refl _ _).alloc (Nat.le_refl _) _
  have hx0 : w0.heap[w.heap.size]? = some (Obj.cells #[.int .i64 o.kind, .string o.path, .string o.to, .slice D o.data.length dc, .int .i64 o.n] 37) := hw0 ▸ Go.heap_alloc_new w _
  have HWK := Lib.hid (walk_any A c l (h.below hb0) hw hM (hl.below hb0) hn)
  have H := Lib.hid h
  have HW := Lib.hid hw
  have HD := Lib.hid hD
  have hk0 := walk_lt hw l 0 h.pos
  unfold dataR at hZ
  obtain ⟨⟨k, E⟩, hke⟩ : ∃ z, walkL r.L 0 l = z := ⟨_, rfl⟩
  rw [hke] at HWK hk0 hZ
  dsimp only at HWK hk0 hZ
  have HK := Lib.hid hk0
  have HB0 := Lib.hid hb0
  have HX0 := Lib.hid hx0
  have HW0 := Lib.hid hw0
  clear h hw hl hD hke hb0 hx0 hw0
  have facts : ∀ w1, Below w.heap.size w w1 → Rf w1 B g b r.L r.n r.m := fun w1 hb => H.out.below hb
  have HF := Lib.hid facts
  clear facts
  by_cases cE : E = 0
  case neg =>
    rw [if_pos cE] at hZ
    have HZ := Lib.hid hZ
    clear hZ hk0
    unfold opV
    go_enter Tryz.func23, Tryz.ntmps23
    go_wp2_with (rw [HW0.out]; refine HWK.out.mono ?_; rintro e w1 ⟨rfl, kk, rfl⟩)
    go_ret
    exact rp_same HZ.out.symm rfl H.out (HB0.out.trans ((bdraw w0 kk).mono HB0.out.size))
  subst cE
  rw [if_neg (by simp)] at hZ
  have hsz := HW.out.sz k _ (thL_get hk0)
  obtain ⟨N, hN⟩ : ∃ N, r.L.length = N := ⟨_, rfl⟩
  have HN := Lib.hid hN
  have i0 : (k : Int) < N := by omega
  have i00 : k < N := by omega
  obtain ⟨cap, -, ht⟩ := (H.out.below HB0.out).tree
  rw [hN] at ht
  obtain ⟨BA, bc, SA, sc, c0, c1, c2, c3, hB, hBc, hS, hSc⟩ := (H.out.below HB0.out).thing k _ (thL_get hk0)
  have HB := Lib.hid hB
  obtain ⟨x, hxe⟩ : ∃ x, thL r.L k = x := ⟨_, rfl⟩
  rw [hxe] at hZ hsz c0 c1 c2 c3 hB hBc hS hSc HB
  have HXE := Lib.hid hxe
  obtain ⟨xi, xd, xB, xS⟩ := x
  dsimp only at hZ hsz c0 c1 c2 c3 hB hBc hS hSc HB
  obtain ⟨bl, hbl⟩ : ∃ bl, xB.length = bl := ⟨_, rfl⟩
  have HBL := Lib.hid hbl
  rw [hbl] at c2 hsz hBc
  obtain ⟨sl, hsl⟩ : ∃ sl, xS.length = sl := ⟨_, rfl⟩
  rw [hsl] at c3 hsz hSc
  obtain ⟨dl, hdle⟩ : ∃ dl, o.data.length = dl := ⟨_, rfl⟩
  have HDL := Lib.hid hdle
  rw [hdle] at HX0 HW0 hdl
  have HT := Lib.hid ht
  have HC0 := Lib.hid c0
  have HC1 := Lib.hid c1
  have HC2 := Lib.hid c2
  have HC3 := Lib.hid c3
  clear hN ht hxe hB hS hbl hsl hdle hk0 c0 c1 c2 c3
  unfold opV
  rw [HDL.out]
  go_enter Tryz.func23, Tryz.ntmps23
  go_wp2_with fail
  rw [HW0.out]
  refine HWK.out.mono ?_
  rintro e w1 ⟨rfl, kk, hk⟩
  have hb01 : Below w0.heap.size w0 w1 := hk ▸ bdraw w0 kk
  have HB1 := Lib.hid (show Below w.heap.size w w1 from HB0.out.trans (hb01.mono HB0.out.size))
  have c0 := keepC hb01 HC0.out
  have c1 := keepC hb01 HC1.out
  have c2 := keepC hb01 HC2.out
  have c3 := keepC hb01 HC3.out
  have ht1 := (hb01.block g (Array.getElem?_eq_some_iff.1 HT.out).1).trans HT.out
  have hx1 := (hb01.block _ (Array.getElem?_eq_some_iff.1 HX0.out).1).trans HX0.out
  have y0 : w1.cell? ⟨g, 0, none⟩ = some (.slice (some ⟨b, 0, none⟩) N cap) := blk_cell ht1 0
  have y1 : w1.cell? ⟨g, 1, none⟩ = some (.int .i64 r.n) := blk_cell ht1 1
  have p0 : w1.cell? ⟨w.heap.size, 0, none⟩ = some (.int .i64 o.kind) := blk_cell hx1 0
  have p3 : w1.cell? ⟨w.heap.size, 3, none⟩ = some (.slice D dl dc) := blk_cell hx1 3
  have p4 : w1.cell? ⟨w.heap.size, 4, none⟩ = some (.int .i64 o.n) := blk_cell hx1 4
  have HBA := Lib.hid (show ∀ O, Below w1.heap.size w1 (w1.alloc O) from fun O => (Below.refl _ _).alloc (Nat.le_refl _) _)
  have v0 := keepC (HBA.out (Obj.cells #[.bool xi, .bool xd, .slice BA bl bc, .slice SA sl sc] 58)) y0
  have v1 := keepC (HBA.out (Obj.cells #[.bool xi, .bool xd, .slice BA bl bc, .slice SA sl sc] 58)) y1
  have r0 := keepC (HBA.out (Obj.cells #[.bool xi, .bool xd, .slice BA bl bc, .slice SA sl sc] 58)) p0
  have r3 := keepC (HBA.out (Obj.cells #[.bool xi, .bool xd, .slice BA bl bc, .slice SA sl sc] 58)) p3
  have r4 := keepC (HBA.out (Obj.cells #[.bool xi, .bool xd, .slice BA bl bc, .slice SA sl sc] 58)) p4
  have HBX := Lib.hid (HB1.out.trans ((HBA.out (Obj.cells #[.bool xi, .bool xd, .slice BA bl bc, .slice SA sl sc] 58)).mono HB1.out.size))
  have HB01 := Lib.hid hb01
  clear hk ht1 hx1 hb01
  cases xd with
  | true =>
    simp only [if_true] at hZ
    have HZ := Lib.hid hZ
    clear hZ
    go_wp2
    go_ret
    exact rp_same HZ.out.symm rfl H.out HBX.out
  | false =>
  simp only [Bool.false_eq_true, if_false] at hZ
  by_cases k4 : o.kind = 4
  case neg =>
    rw [if_neg k4] at hZ
    have HZ := Lib.hid hZ
    clear hZ
    go_wp2_with fail
    rw [← HDL.out]
    refine (more_r k D dc o.data (H.out.below HBX.out) HW.out hM HK.out hnn (HD.out.below HBX.out) (by rw [HDL.out]; exact hdl)).mono ?_
    rintro e w3 ⟨rfl, hp⟩
    have HP := Lib.hid (show RP w B g b Z (.returned (.int .i64 (moreR r k o.data).2)) w3 from HZ.out ▸ ⟨rfl, Rp.from HBX.out H.out hp⟩)
    clear hp
    go_wp2
    go_ret
    exact HP.out
  rw [if_pos k4] at hZ
  unfold cutR at hZ
  rw [HXE.out] at hZ
  dsimp only at hZ
  rw [HBL.out] at hZ
  by_cases n0 : o.n < 0
  · rw [if_pos (.inl n0)] at hZ
    have HZ := Lib.hid hZ
    clear hZ
    go_wp2
    go_ret
    exact rp_same HZ.out.symm rfl H.out HBX.out
  by_cases n1 : (bl : Int) < o.n
  · rw [if_pos (.inr n1)] at hZ
    have HZ := Lib.hid hZ
    clear hZ
    go_wp2
    go_ret
    exact rp_same HZ.out.symm rfl H.out HBX.out
  rw [if_neg (by omega)] at hZ
  obtain ⟨q, hq⟩ : ∃ q : Nat, o.n = q := ⟨o.n.toNat, by omega⟩
  rw [hq] at hZ p4 r4 n0 n1
  rw [Int.toNat_natCast] at hZ
  have HZ := Lib.hid hZ
  clear hZ
  have ha1 := Qb.allB_le bl
  have ha2 := Qb.allB_le q
  have HA1 := Lib.hid (fun W : World => Rc.all_any (W := W) bl (by omega))
  have HA2 := Lib.hid (fun W : World => Rc.all_any (W := W) q (by omega))
  obtain ⟨a1, hq1⟩ : ∃ q, allB bl = q := ⟨_, rfl⟩
  obtain ⟨a2, hq2⟩ : ∃ a, allB q = a := ⟨_, rfl⟩
  rw [hq1] at HA1 ha1 HZ
  rw [hq2] at HA2 ha2 HZ
  clear hq1 hq2
  have wa : IntKind.i64.wrap (r.n + (a1 : Int)) = r.n + (a1 : Int) := by rw [IntKind.wrap_i64]; omega
  have wb : IntKind.i64.wrap (r.n + (a1 : Int) - (a2 : Int)) = r.n + (a1 : Int) - (a2 : Int) := by rw [IntKind.wrap_i64]; omega
  have H1 := Lib.hid (H.out.below HB1.out)
  have H2 := Lib.hid (H.out.below HBX.out)
  have hne : g ≠ b := H.out.ne
  have hne' : b ≠ g := Ne.symm hne
  obtain ⟨capX, hcx, htX⟩ := H2.out.tree
  have f1 := blk_frozen htX 1
  clear htX hcx capX
  go_wp2_with fail
  obtain ⟨w2, hw2⟩ : ∃ w2, w1.alloc (Obj.cells #[.bool xi, .bool false, .slice BA bl bc, .slice SA sl sc] 58) = w2 := ⟨_, rfl⟩
  have hx2 : w2.heap[w1.heap.size]? = some (Obj.cells #[.bool xi, .bool false, .slice BA bl bc, .slice SA sl sc] 58) := hw2 ▸ Go.heap_alloc_new w1 _
  rw [hw2] at HBX H2 f1 v0 v1 r0 r3 r4 ⊢
  have x2 : w2.cell? ⟨w1.heap.size, 2, none⟩ = some (.slice BA bl bc) := blk_cell hx2 2
  have HX2 := Lib.hid hx2
  have HB12 := Lib.hid (show Below w1.heap.size w1 w2 from hw2 ▸ HBA.out _)
  clear hx2 hw2
  refine wp_region_quiet_tail 16 (by kernel_rfl) (by kernel_rfl) ?_
  simp only [List.take_succ_cons, List.take_zero, List.drop_succ_cons, List.drop_zero]
  repeat (quiet_step (first | (go_at_call 48; first | refine Calls.quiet_of (HA1.out _) | refine Calls.quiet_of (HA2.out _)) | fail))
  refine wpQuiet_nil ?_
  intro _ hw'
  obtain ⟨nq, hw''⟩ := hw'
  subst hw''
  go_wp2_with fail
  have hb3 : Below w.heap.size w (w2.drewN nq) := HBX.out.trans ((bdraw w2 nq).mono HBX.out.size)
  obtain ⟨w3, hw3⟩ : ∃ w3, (w2.drewN nq).setCell ⟨g, 1, none⟩ (.int .i64 (r.n + (a1 : Int) - (a2 : Int))) = w3 := ⟨_, rfl⟩
  rw [hw3]
  have hlo3 : Below B w w3 := hw3 ▸ (hb3.mono (by have := H.out.base; have := H.out.ltg; omega)).setCell H.out.base.1 _
  have hfz3 : Fz w w3 (Gb g b) := hw3 ▸ Fz.set (H.out.fz0 hb3) g 1 _ (.inl rfl)
  have hfz3' : Fz w0 w3 (Gb g b) := hw3 ▸ Fz.set ((H.out.below HB0.out).fz0 (by
    have h1 : Below w0.heap.size w0 w1 := HB01.out
    have h2 : Below w1.heap.size w1 w2 := HB12.out
    exact (h1.trans (h2.mono h1.size)).trans ((bdraw w2 nq).mono (Nat.le_trans h1.size h2.size)))) g 1 _ (.inl rfl)
  have h3 : Rf w3 B g b r.L (r.n + (a1 : Int) - (a2 : Int)) r.m := hw3 ▸ (H.out.below hb3).num1 _
  have hgne : w.heap.size ≠ g := by have := H.out.ltg; omega
  have hbne : w.heap.size ≠ b := by have := H.out.ltb; omega
  have hs1 := HB1.out.size
  have hgne1 : w1.heap.size ≠ g := by have := H.out.ltg; omega
  have hbne1 : w1.heap.size ≠ b := by have := H.out.ltb; omega
  have u0 : w3.cell? ⟨g, 0, none⟩ = some (.slice (some ⟨b, 0, none⟩) N cap) := by
    rw [← hw3, World.cell?_setCell_other _ _ _ _ (by simp)]
    exact v0
  have u2 : w3.cell? ⟨w1.heap.size, 2, none⟩ = some (.slice BA bl bc) := by
    rw [← hw3, World.cell?_setCell_other _ _ _ _ (by simp)]
    exact x2
  have u4 : w3.cell? ⟨w.heap.size, 4, none⟩ = some (.int .i64 (q : Int)) := by
    rw [← hw3, World.cell?_setCell_other _ _ _ _ (by simp)]
    exact r4
  have hq0 : (q : Int) ≤ (bl : Int) := by omega
  obtain ⟨hrun, htake, -⟩ := take_of BA bc xB (q : Int) (by omega) (by rw [HBL.out]; exact hq0) (by rw [HBL.out]; exact hBc)
  rw [Int.toNat_natCast, HBL.out] at hrun
  rw [Int.toNat_natCast] at htake
  have hql : (xB.take q).length = q := by rw [List.length_take, HBL.out]; omega
  rw [hql] at hrun
  have HRC := Lib.hid (show RdC w3 BA q 1 (encs bv (xB.take q)) from by have := RdC.bytes (RdB.fz (htake _ HB.out) hfz3'); rwa [hql] at this)
  have HQL := Lib.hid hql
  have HS := Lib.hid (show ∀ W, Fz w3 W (fun i => i = b) → (fun W : World => W.cell? ⟨g, 0, none⟩ = some (.slice (some ⟨b, 0, none⟩) N cap) ∧ W.cell? ⟨w1.heap.size, 2, none⟩ = some (.slice BA bl bc) ∧ W.cell? ⟨w.heap.size, 4, none⟩ = some (.int .i64 (q : Int))) W from fun W hz => ⟨cell_fz hz u0 hne, cell_fz hz u2 hbne1, cell_fz hz u4 hbne⟩)
  have HCL := Lib.hid (show ∀ i, i = b → i < w3.heap.size → Cl w3 i from fun i e _ => e ▸ h3.clb)
  have HS0 := Lib.hid (kzF (T := (fun W : World => W.cell? ⟨g, 0, none⟩ = some (.slice (some ⟨b, 0, none⟩) N cap) ∧ W.cell? ⟨w1.heap.size, 2, none⟩ = some (.slice BA bl bc) ∧ W.cell? ⟨w.heap.size, 4, none⟩ = some (.int .i64 (q : Int)))) (Fz.of_below (Below.refl w3.heap.size w3) _ HCL.out) HS.out)
  have H3 := Lib.hid h3
  have HLO := Lib.hid hlo3
  have HFZ := Lib.hid hfz3
  have HOW := Lib.hid (show (w3.alloc (Obj.cells #[] 5)).drew.ownsRow w3.heap.size 5 1 (.slice (some ⟨w3.heap.size, 0, none⟩) 0 0) 0 [] from own_empty w3 5 1)
  have HBW := Lib.hid (show Below w3.heap.size w3 (w3.alloc (Obj.cells #[] 5)).drew from ((Below.refl w3.heap.size w3).alloc (Nat.le_refl _) _).drew)
  clear hw3 h3 hlo3 hfz3 hfz3' hb3 y0 y1 v0 v1 r0 r3 r4 p0 p3 p4 x2 u0 u2 u4 f1 c0 c1 c2 c3 htake hql wa wb
  go_region_held3 (fun W : World => Fz w3 W (fun i => i = b) ∧ W.cell? ⟨g, 0, none⟩ = some (.slice (some ⟨b, 0, none⟩) N cap) ∧ W.cell? ⟨w1.heap.size, 2, none⟩ = some (.slice BA bl bc) ∧ W.cell? ⟨w.heap.size, 4, none⟩ = some (.int .i64 (q : Int))) (first | exact kzF (T := (fun W : World => W.cell? ⟨g, 0, none⟩ = some (.slice (some ⟨b, 0, none⟩) N cap) ∧ W.cell? ⟨w1.heap.size, 2, none⟩ = some (.slice BA bl bc) ∧ W.cell? ⟨w.heap.size, 4, none⟩ = some (.int .i64 (q : Int)))) (by assumption) HS.out | exact kz1 (T := (fun W : World => W.cell? ⟨g, 0, none⟩ = some (.slice (some ⟨b, 0, none⟩) N cap) ∧ W.cell? ⟨w1.heap.size, 2, none⟩ = some (.slice BA bl bc) ∧ W.cell? ⟨w.heap.size, 4, none⟩ = some (.int .i64 (q : Int)))) (by first | assumption | exact HS0.out) HS.out | exact kzA (T := (fun W : World => W.cell? ⟨g, 0, none⟩ = some (.slice (some ⟨b, 0, none⟩) N cap) ∧ W.cell? ⟨w1.heap.size, 2, none⟩ = some (.slice BA bl bc) ∧ W.cell? ⟨w.heap.size, 4, none⟩ = some (.int .i64 (q : Int)))) _ (by first | assumption | exact HS0.out) HS.out | exact kzS (T := (fun W : World => W.cell? ⟨g, 0, none⟩ = some (.slice (some ⟨b, 0, none⟩) N cap) ∧ W.cell? ⟨w1.heap.size, 2, none⟩ = some (.slice BA bl bc) ∧ W.cell? ⟨w.heap.size, 4, none⟩ = some (.int .i64 (q : Int)))) _ rfl (by assumption) HS.out)
      ((refine step_own rfl (.tmp 63) (.tmp 68) 33 rfl w3.heap.size 5 (.int .u8 0) 1 1 Tryz.underlying33 info5 rfl (by decide) (by decide) (.slice (some ⟨w3.heap.size, 0, none⟩) 0 0) 0 [] BA q bc (encs bv (xB.take q)) (by simp [Act.eval]) (by simp [Act.eval]) HOW.out (HRC.out.below HBW.out) HBW.out.size (by omega) ?_
        intro v2 w4 hown2 hg2 hat2
        have hb4 : Below w3.heap.size w3 w4 := below_own HBW.out HOW.out hg2
        have hz4 : Fz w3 w4 (fun i => i = b) := Fz.of_below hb4 _ HCL.out
        have hob : OwnB w4 w3.heap.size v2 ([] ++ xB.take q) := OwnB.of_cells (l := []) (by simpa [encs] using hown2) (by simp [HBL.out]; omega)
        obtain ⟨A2, k2, rfl, hr2, hc2⟩ := hob.reads
        have H4 := Lib.hid (H3.out.below hb4)
        obtain ⟨BA4, bc4, SA4, sc4, -, -, zz, -⟩ := H4.out.thing k _ (thL_get HK.out)
        obtain ⟨cs4, hcs4, -⟩ := H4.out.row
        have qf4 := blk_frozen hcs4 (k * 4 + 2)
        have HB4 := Lib.hid hb4
        have HR2 := Lib.hid hr2
        have HC2 := Lib.hid hc2
        clear hr2 hc2 hcs4 hb4 hob hown2 hg2 hat2))
  have h5 := H4.out.bytes k HK.out A2 k2 _ HR2.out HC2.out
  rw [List.nil_append, List.length_take] at h5
  have HE := Lib.hid h5
  clear h5
  go_wp2
  go_ret
  have hz : Z = (⟨r.L.set k { thL r.L k with B := xB.take q }, r.n + (a1 : Int) - (a2 : Int), r.m⟩, 0) := by rw [← HZ.out, HXE.out]
  rw [hz]
  refine ⟨rfl, b, HE.out, .inl rfl, ?_, ?_⟩
  · exact Fz.set (HFZ.out.row HB4.out) b _ _ (.inr rfl)
  · exact (HLO.out.trans (HB4.out.mono (by have := H.out.base; have := H3.out.ltg; omega))).setCell H.out.base.2 _
end Go.Proofs.YtpdcjdangnfeiaaGreatDoor.Rc
end
section
open Go Go.RowKit Go.Proofs.YtpdcjdangnfeiaaGreatDoor.Pb Go.Proofs.YtpdcjdangnfeiaaGreatDoor.PPrf Go.Proofs.YtpdcjdangnfeiaaGreatDoorW.PrintWords Go.Proofs.YtpdcjdangnfeiaaGreatDoorW.PrintLast Go.Proofs.YtpdcjdangnfeiaaGreatDoorW.PrintMore Go.Proofs.YtpdcjdangnfeiaaGreatDoor.Qa Go.Proofs.YtpdcjdangnfeiaaGreatDoor.Tb Go.Proofs.YtpdcjdangnfeiaaGreatDoor.Rb Go.Proofs.YtpdcjdangnfeiaaGreatDoor.Ba Go.Proofs.YtpdcjdangnfeiaaGreatDoor.Rd Go.Proofs.YtpdcjdangnfeiaaGreatDoor.Te Go.Proofs.YtpdcjdangnfeiaaGreatDoor.Rq Go.Proofs.YtpdcjdangnfeiaaGreatDoor.Ui
namespace Go.Proofs.YtpdcjdangnfeiaaGreatDoor.Rc
def needL (S : List S106) : Nat := allB (slotsL S * 512)
def makeR2 (r : RS) (p : List ByteArray) (x : ByteArray) (d : Bool) : RS × Int :=
  if (walkL r.L 0 p).2 ≠ 0 then (r, (walkL r.L 0 p).2) else if (thL r.L (walkL r.L 0 p).1).dir = false then (r, 11) else
  if (atL (thL r.L (walkL r.L 0 p).1).S x).isSome then (r, 9) else
  if r.m = 0 ∨ ((needL (putL (thL r.L (walkL r.L 0 p).1).S x 1) : Int) - (needL (thL r.L (walkL r.L 0 p).1).S : Int)) > r.n then (r, 7) else
  (⟨(freshL r.L ⟨true, d, [], []⟩).1.set (walkL r.L 0 p).1 { thL (freshL r.L ⟨true, d, [], []⟩).1 (walkL r.L 0 p).1 with S := putL (thL r.L (walkL r.L 0 p).1).S x ((freshL r.L ⟨true, d, [], []⟩).2 + 1) },
    r.n - ((needL (putL (thL r.L (walkL r.L 0 p).1).S x 1) : Int) - (needL (thL r.L (walkL r.L 0 p).1).S : Int)), r.m - 1⟩, 0)
/-- l[:n] -/
theorem take_names (A : Option Addr) (c t q : Nat) (hq : q ≤ t) (hc : t ≤ c) (l : List ByteArray) (hl : l.length = t) : ∀ W : World, (Instr.slice 47 (.slice A t c) none (some (.int .i64 (q : Int))) none).run Tryz.prog W = .ok (.slice A q c) W := by
  obtain ⟨i0, hi, hz⟩ := Option.map_eq_some_iff.1 PPrf.info9
  simp only [Prod.mk.injEq] at hz
  have h := (print_take_of (P := Tryz.prog) Value.string ByteArray.empty 47 9 .i64 Tryz.underlying47 hi hz.2.1 A c l (q : Int) (by omega) (by omega) (by omega)).1
  have e : (l.take (q : Int).toNat).length = q := by rw [List.length_take, Int.toNat_natCast]; omega
  rw [e, hl] at h
  exact h
/-- Behind what is kept there is a store to a block that is new. -/
theorem Fz.new {w w' : World} {X : Nat → Prop} (hf : Fz w w' X) {q : Nat} (hq : w.heap.size ≤ q) (j : Nat) (u : Value) : Fz w (w'.setCell ⟨q, j, none⟩ u) X :=
  ⟨by have := hf.size; simpa [World.setCell] using this, fun k hk hn => (Below.heap_setCell w' ⟨q, j, none⟩ u k (by show k ≠ q; omega)).trans (hf.block k hk hn), hf.cl⟩
theorem Rf2.keepw {v w w' : World} {B g b : Nat} {L : List T} {n m : Int} (h : Rf2 v w B g b L n m) (hg : w'.heap[g]? = w.heap[g]?) (hb : w'.heap[b]? = w.heap[b]?) : Rf2 v w' B g b L n m := by
  obtain ⟨c, hc, h1⟩ := h.tree
  obtain ⟨cs, h2, h3, h4⟩ := h.row
  exact ⟨h.base, h.pos, ⟨c, hc, hg.trans h1⟩, ⟨cs, hb.trans h2, h3, h4⟩⟩
theorem Fz.set_or {w w' : World} {g b b' : Nat} (hf : Fz w w' (Gb g b)) (hb : b' = b ∨ w.heap.size ≤ b') (j : Nat) (u : Value) : Fz w (w'.setCell ⟨b', j, none⟩ u) (Gb g b) := by
  rcases hb with rfl | hb
  · exact Fz.set hf _ _ _ (.inr rfl)
  · exact Fz.new hf hb _ _
theorem OwnSl.keep {w w' : World} {base q n c : Nat} {l : List S106} (h : OwnSl w base (.slice (some ⟨q, 0, none⟩) n c) l) (hq : w'.heap[q]? = w.heap[q]?) : OwnSl w' base (.slice (some ⟨q, 0, none⟩) n c) l :=
  own_move h fun j hj => by
    have : q = j := by simpa [Value.ownBlock] using hj
    rw [← this]
    exact hq
theorem cell_str {w w' : World} {X : Nat → Prop} (hf : Fz w w' X) {b o : Nat} {x : ByteArray} (h : w.cell? ⟨b, o, none⟩ = some (.string x)) : w'.cell? ⟨b, o, none⟩ = some (.string x) :=
  cell_fz hf h fun hx => (hf.cl b hx (World.block_lt_of_cell? w _ h) _ _ h).2 _ rfl
theorem fresh_len (L : List T) (x : T) : L.length ≤ (freshL L x).1.length ∧ (freshL L x).2 < (freshL L x).1.length ∧ (freshL L x).1.length ≤ L.length + 1 := by
  unfold freshL
  cases h : L.findIdx? (fun t => !t.is) with
  | some i =>
    have := (List.findIdx?_eq_some_iff_getElem.1 h).1
    simp [this]
  | none => simp
set_option maxHeartbeats 8000000 in
set_option maxRecDepth 100000 in
/-- (*Tree).make -/
theorem make_any {w : World} {B g b M : Nat} {r : RS} (A : Option Addr) (c : Nat) (p : List ByteArray) (x : ByteArray) (d : Bool) (h : Rf w B g b r.L r.n r.m) (hw : WfL r.L M) (hM : M ≤ 50000) (hl : RdN w A (p ++ [x])) (hn : p.length ≤ 900) (hc : (p ++ [x]).length ≤ c)
    (hnn : 0 ≤ r.n ∧ r.n ≤ 1000000000) (hmm : 0 ≤ r.m ∧ r.m ≤ 1000000000) (hx : nmL x.data.toList = true) (hx0 : x ≠ ByteArray.empty) :
    Calls Tryz.prog 22 #[.pointer (some ⟨g, 0, none⟩), .slice A (p ++ [x]).length c, .bool d] w (RP w B g b (makeR2 r p x d)) := by
  obtain ⟨Z, hZ⟩ : ∃ Z, makeR2 r p x d = Z := ⟨_, rfl⟩
  rw [hZ]
  obtain ⟨q, hq⟩ : ∃ q, p.length = q := ⟨_, rfl⟩
  obtain ⟨t, ht⟩ : ∃ t, (p ++ [x]).length = t := ⟨_, rfl⟩
  have htq : t = q + 1 := by rw [← ht, List.length_append, hq]; rfl
  have hrun := take_names A c t q (by omega) (by omega) (p ++ [x]) ht
  have hcell := hl.cell q (by rw [ht]; omega)
  have hget : (p ++ [x])[q]'(by rw [ht]; omega) = x := by simp [← hq]
  rw [hget] at hcell
  obtain ⟨nb, no, rfl, hcell⟩ := hcell
  have hp : RdN w (some ⟨nb, no, none⟩) p := by
    have := hl.take p.length
    rwa [List.take_left] at this
  have HWK := Lib.hid (walk_any (some ⟨nb, no, none⟩) c p h hw (by omega) hp (by omega))
  rw [hq] at HWK
  have H := Lib.hid h
  have HW := Lib.hid hw
  have hk0 := walk_lt hw p 0 h.pos
  unfold makeR2 at hZ
  obtain ⟨⟨k, E⟩, hke⟩ : ∃ z, walkL r.L 0 p = z := ⟨_, rfl⟩
  rw [hke] at HWK hk0 hZ
  dsimp only at HWK hk0 hZ
  have HK := Lib.hid hk0
  have HNC := Lib.hid hcell
  have wt : IntKind.i64.wrap ((t : Int) - 1) = (q : Int) := by rw [IntKind.wrap_i64]; omega
  have t0 : ¬ (t : Int) = 0 := by omega
  rw [ht]
  have hqc : q ≤ c := by omega
  have hqci : (q : Int) ≤ (c : Int) := by omega
  have hqcn : ¬ (c : Int) < (q : Int) := by omega
  have HTQ := Lib.hid htq
  have hqt : q < t := by omega
  have hqti : (q : Int) < (t : Int) := by omega
  clear h hw hl hke hp hget ht hcell htq
  by_cases cE : E = 0
  case neg =>
    rw [if_pos cE] at hZ
    have HZ := Lib.hid hZ
    clear hZ hk0
    go_enter Tryz.func22, Tryz.ntmps22
    go_wp2_with (refine HWK.out.mono ?_; rintro e w1 ⟨rfl, kk, rfl⟩)
    go_ret
    exact rp_same HZ.out.symm rfl H.out (bdraw w kk)
  subst cE
  rw [if_neg (by simp)] at hZ
  have hsz := HW.out.sz k _ (thL_get hk0)
  obtain ⟨N, hN⟩ : ∃ N, r.L.length = N := ⟨_, rfl⟩
  have HN := Lib.hid hN
  have i0 : (k : Int) < N := by omega
  have i00 : k < N := by omega
  obtain ⟨cap, -, hT⟩ := H.out.tree
  rw [hN] at hT
  have HT := Lib.hid hT
  obtain ⟨BA, bc, SA, sc, c0, c1, c2, c3, -, -, hS, hSc⟩ := H.out.thing k _ (thL_get hk0)
  obtain ⟨y, hye⟩ : ∃ y, thL r.L k = y := ⟨_, rfl⟩
  rw [hye] at hZ hsz c1 c3 hS hSc
  obtain ⟨yi, yd, yB, yS⟩ := y
  dsimp only at hZ hsz c1 c3 hS hSc
  obtain ⟨sl, hsl⟩ : ∃ sl, yS.length = sl := ⟨_, rfl⟩
  rw [hsl] at c3 hsz hSc
  have HSL := Lib.hid hsl
  have HS := Lib.hid hS
  have C1 := Lib.hid c1
  have C3 := Lib.hid c3
  have HYE := Lib.hid hye
  clear hN hT hye hS hsl hk0 c0 c1 c2 c3
  go_enter Tryz.func22, Tryz.ntmps22
  go_wp2_with fail
  refine HWK.out.mono ?_
  rintro e w1 ⟨rfl, kk, hk⟩
  have hb1 : Below w.heap.size w w1 := hk ▸ bdraw w kk
  have HB1 := Lib.hid hb1
  have ht1 := (hb1.block g (Array.getElem?_eq_some_iff.1 HT.out).1).trans HT.out
  have y0 : w1.cell? ⟨g, 0, none⟩ = some (.slice (some ⟨b, 0, none⟩) N cap) := blk_cell ht1 0
  have c1 := keepC hb1 C1.out
  have c3 := keepC hb1 C3.out
  have n1 := keepC hb1 HNC.out
  have HT1 := Lib.hid ht1
  clear hk hb1 ht1
  cases yd with
  | false =>
    rw [if_pos rfl] at hZ
    have HZ := Lib.hid hZ
    clear hZ
    go_wp2
    go_ret
    exact rp_same HZ.out.symm rfl H.out HB1.out
  | true =>
  rw [if_neg (by simp)] at hZ
  have HAT := Lib.hid (fun n => at_any x ((HS.out.below HB1.out).below (bdraw w1 n)) (by rw [HSL.out]; exact hSc) (by rw [HSL.out]; omega))
  rw [HSL.out] at HAT
  cases ha : atL yS x with
  | some i =>
    rw [ha] at hZ HAT
    rw [if_pos (show (some i).isSome = true from rfl)] at hZ
    rw [show atI (some i) = (i : Int) from rfl] at HAT
    have HZ := Lib.hid hZ
    clear hZ ha
    have ipos : (0 : Int) ≤ (i : Int) := by omega
    go_wp2_with fail
    go_quiet (first | (go_at_call 44; refine Calls.quiet_of (HAT.out _)) | fail)
    go_wp2
    go_ret
    exact rp_same HZ.out.symm rfl H.out (HB1.out.trans ((bdraw w1 nq).mono HB1.out.size))
  | none =>
  rw [ha] at hZ HAT
  rw [if_neg (by simp)] at hZ
  rw [show atI none = -1 from rfl] at HAT
  have HA := Lib.hid ha
  have HZ := Lib.hid hZ
  clear ha hZ
  go_wp2_with fail
  go_quiet (first | (go_at_call 44; refine Calls.quiet_of (HAT.out _)) | fail)
  go_wp2_with fail
  obtain ⟨w2, hw2⟩ : ∃ w2, w1.drewN nq = w2 := ⟨_, rfl⟩
  rw [hw2]
  have hb12 : Below w1.heap.size w1 w2 := hw2 ▸ bdraw w1 nq
  have HB2 := Lib.hid (HB1.out.trans (hb12.mono HB1.out.size))
  have v0 := keepC hb12 y0
  have v1 := keepC hb12 c1
  have v3 := keepC hb12 c3
  have vn := keepC hb12 n1
  have HSR := Lib.hid ((HS.out.below HB2.out))
  have HKS := Lib.hid (show ∀ W, Below w2.heap.size w2 W → (fun W : World => W.cell? ⟨g, 0, none⟩ = some (.slice (some ⟨b, 0, none⟩) N cap) ∧ W.cell? ⟨b, k * 4 + 3, none⟩ = some (.slice SA sl sc) ∧ W.cell? ⟨nb, no + q, none⟩ = some (.string x)) W from fun W hb => ⟨keepC hb v0, keepC hb v3, keepC hb vn⟩)
  have HK0 := Lib.hid (kp0 (T := (fun W : World => W.cell? ⟨g, 0, none⟩ = some (.slice (some ⟨b, 0, none⟩) N cap) ∧ W.cell? ⟨b, k * 4 + 3, none⟩ = some (.slice SA sl sc) ∧ W.cell? ⟨nb, no + q, none⟩ = some (.string x))) HKS.out)
  have HPUT := Lib.hid (fun W (hb : Below w2.heap.size w2 W) => put_any (c := sc) x 1 (HSR.out.below hb) (by rw [HSL.out]; exact hSc) (by rw [HSL.out]; omega) hx (by omega) HA.out)
  rw [HSL.out] at HPUT
  clear hw2 hb12 y0 c1 c3 n1
  go_region_held3 (fun W : World => Below w2.heap.size w2 W ∧ W.cell? ⟨g, 0, none⟩ = some (.slice (some ⟨b, 0, none⟩) N cap) ∧ W.cell? ⟨b, k * 4 + 3, none⟩ = some (.slice SA sl sc) ∧ W.cell? ⟨nb, no + q, none⟩ = some (.string x)) (first | exact kpC (T := (fun W : World => W.cell? ⟨g, 0, none⟩ = some (.slice (some ⟨b, 0, none⟩) N cap) ∧ W.cell? ⟨b, k * 4 + 3, none⟩ = some (.slice SA sl sc) ∧ W.cell? ⟨nb, no + q, none⟩ = some (.string x))) (by assumption) (by assumption) HKS.out | exact kp1 (T := (fun W : World => W.cell? ⟨g, 0, none⟩ = some (.slice (some ⟨b, 0, none⟩) N cap) ∧ W.cell? ⟨b, k * 4 + 3, none⟩ = some (.slice SA sl sc) ∧ W.cell? ⟨nb, no + q, none⟩ = some (.string x))) (by first | assumption | exact HK0.out) HKS.out | assumption)
    (first
      | (go_at_call 45
         refine (HPUT.out _ (And.left (by assumption))).mono ?_
         rintro e w3 ⟨v, z, rfl, hos, hb⟩
         have HOS := Lib.hid hos
         clear hos)
      | fail)
  have hs := And.left (by assumption : Below w2.heap.size w2 w3 ∧ _)
  have HB3 := Lib.hid hs
  have hp0 : 0 < (putL yS x 1).length := by have := (put_at (m := 1) hx0 HA.out).2.1; exact Nat.lt_of_le_of_lt (Nat.zero_le _) (List.getElem?_eq_some_iff.1 this).1
  obtain ⟨-, a0, a3, an⟩ := (by assumption : Below w2.heap.size w2 w3 ∧ w3.cell? ⟨g, 0, none⟩ = some (.slice (some ⟨b, 0, none⟩) N cap) ∧ w3.cell? ⟨b, k * 4 + 3, none⟩ = some (.slice SA sl sc) ∧ w3.cell? ⟨nb, no + q, none⟩ = some (.string x))
  have hos2 : OwnSl w3 w2.heap.size v (putL yS x 1) := HOS.out
  obtain ⟨q0, cap0, cur, rfl, hq0, hql, hqn, hqh, hqt2, hqr⟩ := hos2.open hp0
  have HOS2 := Lib.hid hos2
  have hpl := (putL_len yS x 1)
  have hplM : (putL yS x 1).length ≤ 100001 := by rw [HSL.out] at hpl; omega
  have HN1 := Lib.hid (fun n => need_any (W := w3.drewN n) (c := cap0) (RdSl.below hqr (bdraw w3 n)) hqn (by rw [HSL.out] at hpl; omega))
  have HN2 := Lib.hid (fun n => need_any (W := w3.drewN n) (c := sc) ((HSR.out.below HB3.out).below (bdraw w3 n)) (by rw [HSL.out]; exact hSc) (by rw [HSL.out]; omega))
  rw [HSL.out] at HN2
  have HZ2 := Lib.hid HZ.out
  unfold needL at HZ2
  have wa1 := Qb.allB_le (slotsL (putL yS x 1) * 512)
  have wa2 := Qb.allB_le (slotsL yS * 512)
  obtain ⟨n1, hn1⟩ : ∃ n1, allB (slotsL (putL yS x 1) * 512) = n1 := ⟨_, rfl⟩
  obtain ⟨n2, hn2⟩ : ∃ n2, allB (slotsL yS * 512) = n2 := ⟨_, rfl⟩
  rw [hn1] at HN1 HZ2 wa1
  rw [hn2] at HN2 HZ2 wa2
  obtain ⟨pl, hpe⟩ : ∃ pl, (putL yS x 1).length = pl := ⟨_, rfl⟩
  have HPE := Lib.hid hpe
  rw [hpe] at HN1
  have ht3 : w3.heap[g]? = some (Obj.cells #[.slice (some ⟨b, 0, none⟩) N cap, .int .i64 r.n, .int .i64 r.m] 61) := ((HB2.out.trans (HB3.out.mono HB2.out.size)).block g H.out.ltg).trans HT.out
  have g1 : w3.cell? ⟨g, 1, none⟩ = some (.int .i64 r.n) := blk_cell ht3 1
  have g2 : w3.cell? ⟨g, 2, none⟩ = some (.int .i64 r.m) := blk_cell ht3 2
  have wm : IntKind.i64.wrap ((n1 : Int) - (n2 : Int)) = (n1 : Int) - (n2 : Int) := by rw [IntKind.wrap_i64]; omega
  clear hn1 hn2 hpe hpl hos2 hqh hqt2 hqr ht3 hs hb HOS HZ v0 v1 v3 vn hp0
  rw [HPE.out]
  go_wp2_with fail
  go_quiet (first | (go_at_call 46; first | refine Calls.quiet_of (HN1.out _) | refine Calls.quiet_of (HN2.out _)) | fail)
  have HB4 := Lib.hid (show Below w.heap.size w (w3.drewN nq) from (HB2.out.trans (HB3.out.mono HB2.out.size)).trans ((bdraw w3 nq).mono (HB2.out.trans (HB3.out.mono HB2.out.size)).size))
  by_cases m0 : r.m = 0
  · rw [if_pos (.inl m0)] at HZ2
    have HZ := Lib.hid HZ2.out
    clear HZ2
    go_wp2
    go_ret
    exact rp_same HZ.out.symm rfl H.out HB4.out
  by_cases mF : r.n < (n1 : Int) - (n2 : Int)
  · rw [if_pos (.inr mF)] at HZ2
    have HZ := Lib.hid HZ2.out
    clear HZ2
    go_wp2
    go_ret
    exact rp_same HZ.out.symm rfl H.out HB4.out
  rw [if_neg (fun h => h.elim m0 mF)] at HZ2
  go_wp2_with fail
  have h24 : Below w2.heap.size w2 (w3.drewN nq) := HB3.out.trans ((bdraw w3 nq).mono HB3.out.size)
  refine (fresh_any d (Rf2.beloww (H.out.below HB2.out) h24) HW.out (by omega)).mono ?_
  rintro e w5 ⟨rfl, b', hf5, hb', hz5, hl5⟩
  obtain ⟨⟨L1, k1⟩, hfe⟩ : ∃ z, freshL r.L ⟨true, d, [], []⟩ = z := ⟨_, rfl⟩
  have hfl := fresh_len r.L ⟨true, d, [], []⟩
  rw [hfe] at hf5 HZ2 hfl
  rw [hfe]
  dsimp only at hf5 HZ2 hfl ⊢
  have hsz4 : (w3.drewN nq).heap.size = w3.heap.size := rfl
  have hgw2 : g < w2.heap.size := by have := HB2.out.size; have := H.out.ltg; omega
  have hbw2 : b < w2.heap.size := by have := HB2.out.size; have := H.out.ltb; omega
  have hq0g : q0 ≠ g := by omega
  have hq0b : q0 ≠ b := by omega
  have hq0b' : q0 ≠ b' := by
    rcases hb' with rfl | hb'
    · exact hq0b
    · rw [hsz4] at hb'; omega
  have hq5 : w5.heap[q0]? = w3.heap[q0]? := hz5.block q0 (by rw [hsz4]; exact hql) (fun hx => hx.elim hq0g hq0b)
  have hos5 := OwnSl.keep HOS2.out hq5
  have n5 := cell_str hz5 (show (w3.drewN nq).cell? ⟨nb, no + q, none⟩ = some (.string x) from an)
  obtain ⟨hat1, hat2, hat3⟩ := put_at (m := 1) hx0 HA.out
  obtain ⟨i1, hi1⟩ : ∃ i, plL yS = i := ⟨_, rfl⟩
  rw [hi1] at hat1 hat2 hat3
  have hil : i1 < pl := by rw [← HPE.out]; exact (List.getElem?_eq_some_iff.1 hat2).1
  have hili : (i1 : Int) < (pl : Int) := by omega
  obtain ⟨q', cap', cur', e', -, -, -, hh5, -, hr5⟩ := hos5.open (by rw [HPE.out]; omega)
  cases e'
  have HAT5 := Lib.hid (fun W (hb : Below w5.heap.size w5 W) => at_any x (c := cap0) (hr5.below hb) hqn (by omega))
  rw [hat1, HPE.out] at HAT5
  rw [show atI (some i1) = (i1 : Int) from rfl] at HAT5
  obtain ⟨cq, hcq, _⟩ := (hos5 : OwnSl _ _ _ _).reads
  have s1 := ((hr5.cell i1 (by rw [HPE.out]; exact hil)))
  obtain ⟨sb, so, se, -, s1⟩ := s1
  cases se
  have sf := blk_frozen hh5 (i1 * 2 + 1)
  rw [Nat.zero_add] at s1
  have hg5 := hf5.ltg
  have hb5 := hf5.ltb
  obtain ⟨cap5, hc5, ht5⟩ := hf5.tree
  obtain ⟨N1, hN1⟩ : ∃ N1, L1.length = N1 := ⟨_, rfl⟩
  have hk1 : k < L1.length := Nat.lt_of_lt_of_le HK.out hfl.1
  obtain ⟨BA5, bc5, SA5, sc5, -, -, -, z3⟩ := hf5.thing2 k _ (thL_get hk1)
  obtain ⟨cs5, hcs5, -⟩ := hf5.row
  have zf := blk_frozen hcs5 (k * 4 + 3)
  rw [hN1] at ht5 hk1
  have i5 : (k : Int) < (N1 : Int) := by omega
  have u0 : w5.cell? ⟨g, 0, none⟩ = some (.slice (some ⟨b', 0, none⟩) N1 cap5) := blk_cell ht5 0
  have u1 : w5.cell? ⟨g, 1, none⟩ = some (.int .i64 r.n) := blk_cell ht5 1
  have u2 : w5.cell? ⟨g, 2, none⟩ = some (.int .i64 r.m) := blk_cell ht5 2
  have uf1 := blk_frozen ht5 1
  have uf2 := blk_frozen ht5 2
  have hne5 : g ≠ b' := hf5.ne
  have hne5' : b' ≠ g := Ne.symm hne5
  have wk1 : IntKind.i64.wrap ((k1 : Int) + 1) = (k1 : Int) + 1 := by have := hfl.2; have := HW.out.len; rw [IntKind.wrap_i64]; omega
  have wn1 : IntKind.i64.wrap (r.n - ((n1 : Int) - (n2 : Int))) = r.n - ((n1 : Int) - (n2 : Int)) := by rw [IntKind.wrap_i64]; omega
  have wm1 : IntKind.i64.wrap (r.m - 1) = r.m - 1 := by rw [IntKind.wrap_i64]; omega
  go_wp2_with (first | (refine (HAT5.out _ (Below.refl _ _)).mono ?_; rintro e w6 ⟨rfl, k6, rfl⟩) | fail)
  go_ret
  have hB : B ≤ w.heap.size := by have := H.out.base; have := H.out.ltg; omega
  have hb2s := HB2.out.size
  have h6 : Rf2 w2 ((w5.drewN k6).setCell ⟨q0, i1 * 2 + 1, none⟩ (.int .i64 ((k1 : Int) + 1))) B g b' L1 r.n r.m := (hf5.beloww (bdraw w5 k6)).keepw (Below.heap_setCell _ _ _ _ (Ne.symm hq0g)) (Below.heap_setCell _ _ _ _ (Ne.symm hq0b'))
  have hz25 : Fz w2 w5 (Gb g b) := ((H.out.below HB2.out).fz0 h24).trans hz5 (fun i hi => .inl hi)
  have hz26 : Fz w2 ((w5.drewN k6).setCell ⟨q0, i1 * 2 + 1, none⟩ (.int .i64 ((k1 : Int) + 1))) (Gb g b) := Fz.new (hz25.row (bdraw w5 k6)) hq0 _ _
  have h6' : Rf ((w5.drewN k6).setCell ⟨q0, i1 * 2 + 1, none⟩ (.int .i64 ((k1 : Int) + 1))) B g b' L1 r.n r.m := h6.rows hz26
  have hrd := OwnSl.ino (OwnSl.keep (w' := w5.drewN k6) hos5 rfl) (by omega) i1 _ hat2 ((k1 : Int) + 1)
  have hset := hat3 ((k1 : Int) + 1)
  rw [hset] at hrd
  have hlen : (putL yS x ((k1 : Int) + 1)).length = pl := by rw [← hset, List.length_set, HPE.out]
  have h7 := h6'.slots k (by rw [hN1]; exact hk1) (some ⟨q0, 0, none⟩) cap0 _ hrd (by rw [hlen, ← HPE.out]; exact hqn)
  rw [hlen] at h7
  have h8 := (h7.num1 (r.n - ((n1 : Int) - (n2 : Int)))).num2 (r.m - 1)
  have hb3 := HB3.out.size
  have hbb : b' = b ∨ w.heap.size ≤ b' := hb'.imp id (fun h => by rw [hsz4] at h; omega)
  have hz0 : Fz w w5 (Gb g b) := (H.out.fz0 HB4.out).trans hz5 (fun i hi => .inl hi)
  rw [← HZ2.out]
  refine ⟨rfl, b', h8, hbb, ?_, ?_⟩
  · exact Fz.set (Fz.set (Fz.set_or (Fz.new (hz0.row (bdraw w5 k6)) (by omega) _ _) hbb _ _) g _ _ (.inl rfl)) g _ _ (.inl rfl)
  · refine ((((((HB4.out.mono hB).trans hl5).trans ((bdraw w5 k6).mono ?_)).setCell ?_ _).setCell hf5.base.2 _).setCell H.out.base.1 _).setCell H.out.base.1 _
    · have := hz0.size; omega
    · show B ≤ q0; omega
end Go.Proofs.YtpdcjdangnfeiaaGreatDoor.Rc
end
