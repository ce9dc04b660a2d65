/- The reference's fresh walked: a thing's number. -/
import Derived.Test.YtpdcjdangnfeiaaGreatDoorZa
import Derived.StillTailTactics
import Derived.Deep.RegionLaw
section
open Go Go.RowKit Go.Proofs.YtpdcjdangnfeiaaGreatDoor.Pb Go.Proofs.YtpdcjdangnfeiaaGreatDoor.PPrf Go.Proofs.YtpdcjdangnfeiaaGreatDoorW.PrintWords Go.Proofs.YtpdcjdangnfeiaaGreatDoorW.PrintLast Go.Proofs.YtpdcjdangnfeiaaGreatDoorW.PrintMore Go.Proofs.YtpdcjdangnfeiaaGreatDoor.Qa Go.Proofs.YtpdcjdangnfeiaaGreatDoor.Tb Go.Proofs.YtpdcjdangnfeiaaGreatDoor.Rb Go.Proofs.YtpdcjdangnfeiaaGreatDoor.Ba Go.Proofs.YtpdcjdangnfeiaaGreatDoor.Rd Go.Proofs.YtpdcjdangnfeiaaGreatDoor.Te
namespace Go.Proofs.YtpdcjdangnfeiaaGreatDoor.Rc
def freshL (L : List T) (x : T) : List T × Nat := match L.findIdx? (fun t => !t.is) with
  | some i => (L.set i x, i)
  | none => (L ++ [x], L.length)
theorem fresh_some {L : List T} {k : Nat} (h : k < L.length) (h1 : (thL L k).is = false) (h2 : ∀ j, j < k → (thL L j).is = true) (x : T) : freshL L x = (L.set k x, k) := by
  unfold freshL
  have : L.findIdx? (fun t => !t.is) = some k := by
    rw [List.findIdx?_eq_some_iff_getElem]
    have e : ∀ j (hj : j < L.length), L[j] = thL L j := fun j hj => by unfold thL; rw [List.getD_eq_getElem?_getD, List.getElem?_eq_getElem hj]; rfl
    refine ⟨h, by rw [e k h, h1]; rfl, fun j hj => ?_⟩
    rw [e j (by omega), h2 j hj]; simp
  rw [this]
theorem fresh_none {L : List T} (h2 : ∀ j, j < L.length → (thL L j).is = true) (x : T) : freshL L x = (L ++ [x], L.length) := by
  unfold freshL
  have : L.findIdx? (fun t => !t.is) = none := by
    rw [List.findIdx?_eq_none_iff]
    intro t ht
    obtain ⟨j, hj, rfl⟩ := List.getElem_of_mem ht
    have e : L[j] = thL L j := by unfold thL; rw [List.getD_eq_getElem?_getD, List.getElem?_eq_getElem hj]; rfl
    rw [e, h2 j hj]; rfl
  rw [this]
theorem allP_empty (W : World) (e : TypeId) (Pv : Value → Prop) : AllP Pv (W.alloc (Obj.cells #[] e)) (.slice (some ⟨W.heap.size, 0, none⟩) 0 0) := by
  intro q cs t fr hq hh c hc
  have hq' : W.heap.size = q := by simpa [Value.ownBlock] using hq
  subst hq'
  rw [heap_alloc_new] at hh
  cases hh
  cases hc
theorem AllP.kept {Pv : Value → Prop} {w w' : World} {v : Value} (h : AllP Pv w v) (hk : ∀ q, v.ownBlock = some q → w'.heap[q]? = w.heap[q]?) : AllP Pv w' v := fun q cs t fr hq hh => h q cs t fr hq ((hk q hq).symm.trans hh)
theorem own_alloc {w : World} {base : Nat} {e : TypeId} {size n : Nat} {v : Value} {xs : List Value} (h : w.ownsRow base e size v n xs) (o : Obj) : (w.alloc o).ownsRow base e size v n xs := own_move h fun k hk => Below.heap_alloc w o k (own_lt h k hk)
theorem rdc_lit (w : World) (cs : List Value) (e : TypeId) (m size : Nat) (hl : cs.length = m * size) (h1 : ∀ u ∈ cs, u.oneCell' = true) : RdC (w.alloc (Obj.cells cs.toArray e)) (some ⟨w.heap.size, 0, none⟩) m size cs :=
  ⟨hl, h1, fun _ => ⟨_, rfl, fun j u hu => World.news_of_block (cs := cs.toArray) (heap_alloc_new w _) j u (by simpa using hu)⟩⟩
theorem rdc_grown {w w' : World} {q m size : Nat} {cs : List Value} {r : Option Nat} (h : RdC w (some ⟨q, 0, none⟩) m size cs) (hg : w.grownBy w' r) (hne : some q ≠ r) (hlt : q < w.heap.size) : RdC w' (some ⟨q, 0, none⟩) m size cs :=
  ⟨h.1, h.2.1, fun h0 => by
    obtain ⟨ad, e, hc⟩ := h.2.2 h0
    cases e
    refine ⟨_, rfl, fun j u hu => ?_⟩
    have := hc j u hu
    rw [Addr.add_lit] at this ⊢
    rw [← this]
    exact World.cell?_of_block (a := ⟨q, 0 + j, none⟩) (hg.block q hlt hne)⟩
/-- A thing without rows stored. -/
theorem Rf2.whole {v w : World} {B g b : Nat} {L : List T} {n m : Int} (h : Rf2 v w B g b L n m) (k : Nat) (hk : k < L.length) (i d : Bool) :
    Rf2 v (set4 w b (k * 4) (.bool i) (.bool d) (.slice none 0 0) (.slice none 0 0)) B g b (L.set k ⟨i, d, [], []⟩) n m := by
  obtain ⟨c, hc, h1⟩ := h.tree
  obtain ⟨cs, h2, h3, h4⟩ := h.row
  refine ⟨h.base, by rw [List.length_set]; exact h.pos, ⟨c, by rw [List.length_set]; exact hc, ?_⟩, ⟨_, blk_set (blk_set (blk_set (blk_set h2 _ _) _ _) _ _) _ _, fun j y hy => ?_, set_cv (set_cv (set_cv (set_cv h4 (cv_bool _)) (cv_bool _)) (cv_slice _ _ _)) (cv_slice _ _ _)⟩⟩
  · rw [List.length_set]
    unfold Rc.set4
    rw [Below.heap_setCell _ _ _ _ h.ne, Below.heap_setCell _ _ _ _ h.ne, Below.heap_setCell _ _ _ _ h.ne, Below.heap_setCell _ _ _ _ h.ne]
    exact h1
  · rcases get_of_set hy with ⟨rfl, rfl, -⟩ | ⟨hne, hy⟩
    · obtain ⟨BA, bc, SA', sc', q1, q2, q3, q4, -⟩ := h3 j _ (thL_get hk)
      refine ⟨none, 0, none, 0, ?_, ?_, ?_, ?_, RdB.nil _ _, Nat.le_refl _, RdSl.nil _ _, Nat.le_refl _⟩
      · exact get_set (by omega) (get_set (by omega) (get_set (by omega) (get_set_same q1)))
      · exact get_set (by omega) (get_set (by omega) (get_set_same (get_set (by omega) q2)))
      · exact get_set (by omega) (get_set_same (get_set (by omega) (get_set (by omega) q3)))
      · exact get_set_same (get_set (by omega) (get_set (by omega) (get_set (by omega) q4)))
    · have q := (((CT.other (i := 0) (u := Value.bool i) (h3 j y hy) hne (by omega)).other (i := 1) (u := Value.bool d) hne (by omega)).other (i := 2) (u := Value.slice none 0 0) hne (by omega)).other (i := 3) (u := Value.slice none 0 0) hne (by omega)
      exact q
/-- What a thing's cells are. -/
theorem Rf2.thing2 {v w : World} {B g b : Nat} {L : List T} {n m : Int} (h : Rf2 v w B g b L n m) (j : Nat) (x : T) (hx : L[j]? = some x) :
    ∃ BA bc SA sc, w.cell? ⟨b, j * 4, none⟩ = some (.bool x.is) ∧ w.cell? ⟨b, j * 4 + 1, none⟩ = some (.bool x.dir) ∧ w.cell? ⟨b, j * 4 + 2, none⟩ = some (.slice BA x.B.length bc) ∧ w.cell? ⟨b, j * 4 + 3, none⟩ = some (.slice SA x.S.length sc) := by
  obtain ⟨cs, h1, h2, -⟩ := h.row
  obtain ⟨BA, bc, SA, sc, q1, q2, q3, q4, -⟩ := h2 j x hx
  exact ⟨BA, bc, SA, sc, by rw [cell_of_block h1]; exact q1, by rw [cell_of_block h1]; exact q2, by rw [cell_of_block h1]; exact q3, by rw [cell_of_block h1]; exact q4⟩
/-- What a call leaves of the tree, its rows in v. -/
def Rp2 (v w w' : World) (B g b : Nat) (L : List T) (n m : Int) : Prop := ∃ b', Rf2 v w' B g b' L n m ∧ (b' = b ∨ w.heap.size ≤ b') ∧ Fz w w' (Gb g b) ∧ Below B w w'
/-- A new things' row is the tree's. -/
theorem Rf2.newrow {v w : World} {B g b q k cap : Nat} {L L' : List T} {n m : Int} (h : Rf2 v w B g b L n m) (hB : B ≤ q) (hk : L'.length = k) (hp : 0 < k) (hc : k ≤ cap) (hgq : g ≠ q)
    (hq : ∃ cs, w.heap[q]? = some (.cells cs 58 (0, 0)) ∧ (∀ j x, L'[j]? = some x → CT v cs j x) ∧ ∀ u ∈ cs.toList, Cv u) : Rf2 v (w.setCell ⟨g, 0, none⟩ (.slice (some ⟨q, 0, none⟩) k cap)) B g q L' n m := by
  obtain ⟨c, hc0, h1⟩ := h.tree
  obtain ⟨cs, h2, h3, h4⟩ := hq
  refine ⟨⟨h.base.1, hB⟩, by omega, ⟨cap, by omega, ?_⟩, ⟨cs, ?_, h3, h4⟩⟩
  · rw [blk_set h1, hk]; rfl
  · exact (Below.heap_setCell w ⟨g, 0, none⟩ _ q (Ne.symm hgq)).trans h2
set_option maxHeartbeats 8000000 in
set_option maxRecDepth 100000 in
/-- (*Tree).fresh, a thing without bytes and slots. -/
theorem fresh_any {v w : World} {B g b M : Nat} {L : List T} {n m : Int} (d : Bool) (h : Rf2 v w B g b L n m) (hw : WfL L M) (hM : M ≤ 100000) :
    Calls Tryz.prog 47 #[.pointer (some ⟨g, 0, none⟩), .agg #[.bool true, .bool d, .slice none 0 0, .slice none 0 0]] w fun e w' => e = .returned (.int .i64 (freshL L ⟨true, d, [], []⟩).2) ∧ Rp2 v w w' B g b (freshL L ⟨true, d, [], []⟩).1 n m := by
  obtain ⟨Z, hZ⟩ : ∃ Z, freshL L ⟨true, d, [], []⟩ = Z := ⟨_, rfl⟩
  rw [hZ]
  have HZ := Lib.hid hZ
  have H := Lib.hid h
  have hlen := hw.len
  obtain ⟨N, hN⟩ : ∃ N, L.length = N := ⟨_, rfl⟩
  have HN := Lib.hid hN
  obtain ⟨w0, hw0⟩ : ∃ w0, w.alloc (Obj.cells #[.bool true, .bool d, .slice none 0 0, .slice none 0 0] 58) = w0 := ⟨_, rfl⟩
  have hb0 : Below w.heap.size w w0 := hw0 ▸ (Below.refl _ _).alloc (Nat.le_refl _) _
  have hx0 : w0.heap[w.heap.size]? = some (Obj.cells #[.bool true, .bool d, .slice none 0 0, .slice none 0 0] 58) := hw0 ▸ Go.heap_alloc_new w _
  have h0 := h.beloww hb0
  obtain ⟨cap, -, ht⟩ := h0.tree
  rw [hN] at ht hlen
  have g0 : w0.cell? ⟨g, 0, none⟩ = some (.slice (some ⟨b, 0, none⟩) N cap) := blk_cell ht 0
  have x0 : w0.cell? ⟨w.heap.size, 0, none⟩ = some (.bool true) := blk_cell hx0 0
  have x1 : w0.cell? ⟨w.heap.size, 1, none⟩ = some (.bool d) := blk_cell hx0 1
  have x2 : w0.cell? ⟨w.heap.size, 2, none⟩ = some (.slice none 0 0) := blk_cell hx0 2
  have x3 : w0.cell? ⟨w.heap.size, 3, none⟩ = some (.slice none 0 0) := blk_cell hx0 3
  have H0 := Lib.hid h0
  have HT := Lib.hid ht
  have HB0 := Lib.hid hb0
  have HX0 := Lib.hid hx0
  have HW0 := Lib.hid hw0
  have hne : g ≠ b := h.ne
  have hne' : b ≠ g := Ne.symm hne
  have hgne : w.heap.size ≠ g := by have := h.ltg; omega
  have hbne : w.heap.size ≠ b := by have := h.ltb; omega
  clear hZ h hw hN hb0 hx0 h0 ht hw0
  go_enter Tryz.func47, Tryz.ntmps47
  go_wp2_with fail
  rw [HW0.out]
  go_loop [5] (fun i => ∃ k : Nat, i = .int .i64 k ∧ k ≤ N ∧ Hid (∀ j, j < k → (thL L j).is = true)) (fun i => N - (intOf i).toNat)
  case atStart => exact ⟨0, rfl, by omega, Lib.hid (fun j hj => by omega)⟩
  case round =>
    obtain ⟨k, rfl, hk, HI⟩ := hrel
    by_cases hlt : k < N
    · have i1 : (k : Int) < N := by omega
      have hkl : k < L.length := by rw [HN.out]; exact hlt
      obtain ⟨BA, bc, SA, sc, c0, c1, c2, c3⟩ := H0.out.thing2 k _ (thL_get hkl)
      cases his : (thL L k).is with
      | true =>
        rw [his] at c0
        go_wp2
        go_light
        refine ⟨⟨k + 1, by go_num, hlt, Lib.hid fun j hj => ?_⟩, by simp [intOf]; omega⟩
        by_cases e : j = k
        · subst e; exact his
        · exact HI.out j (by omega)
      | false =>
        rw [his] at c0
        have HE := Lib.hid (show Z = (L.set k ⟨true, d, [], []⟩, k) from HZ.out ▸ fresh_some hkl his HI.out _)
        obtain ⟨cs, hcs, -⟩ := H0.out.row
        have q0 := blk_frozen hcs (k * 4)
        have q1 := blk_frozen hcs (k * 4 + 1)
        have q2 := blk_frozen hcs (k * 4 + 2)
        have q3 := blk_frozen hcs (k * 4 + 3)
        clear hcs his
        go_wp2_with fail
        go_still_tail 7, (by kernel_rfl)
        go_wp2
        go_ret
        rw [HE.out]
        refine ⟨rfl, b, (H0.out.beloww (bdraw w0 1)).whole k hkl true d, .inl rfl, ?_, ?_⟩
        · exact Fz.set4 (H.out.fz0 (HB0.out.trans ((bdraw w0 1).mono HB0.out.size))) b _ _ _ _ _ (.inr rfl)
        · exact Below.set4 ((HB0.out.trans ((bdraw w0 1).mono HB0.out.size)).mono (by have := H.out.base; have := H.out.ltg; omega)) H.out.base.2 _ _ _ _ _
    · have i1 : ¬ (k : Int) < N := by omega
      have HE := Lib.hid (show Z = (L ++ [⟨true, d, [], []⟩], N) from HZ.out ▸ HN.out ▸ fresh_none (fun j hj => HI.out j (by have := HN.out; omega)) _)
      obtain ⟨cs, hcs, hrc⟩ := H0.out.cells
      rw [HN.out] at hrc
      have HXT := Lib.hid (show ∀ W, CsT W ⟨true, d, [], []⟩ [.bool true, .bool d, .slice none 0 0, .slice none 0 0] from fun W => ⟨none, 0, none, 0, rfl, RdB.nil _ _, Nat.le_refl _, RdSl.nil _ _, Nat.le_refl _⟩)
      have HXV := Lib.hid (HXT.out w0).cv
      have HCS := Lib.hid hcs
      have HRC := Lib.hid hrc
      have HCC := Lib.hid hcs.cv
      have HZC := Lib.hid (show ∀ c ∈ (Value.agg #[.bool false, .bool false, .slice none 0 0, .slice none 0 0]).cells.toList, Cv c from by
        intro c hc
        simp [Value.cells] at hc
        rcases hc with h | h <;> rw [h]
        · exact cv_bool _
        · exact cv_slice _ _ _)
      have hp : 0 < N := by have := H.out.pos; have := HN.out; omega
      have HBA := Lib.hid (show Below w0.heap.size w0 (w0.alloc (Obj.cells #[] 58)).drew from ((Below.refl _ _).alloc (Nat.le_refl _) _).drew)
      have HBB := Lib.hid (show Below w0.heap.size w0 ((w0.alloc (Obj.cells #[] 58)).alloc (Obj.cells #[.bool true, .bool d, .slice none 0 0, .slice none 0 0] 58)).drew from (((Below.refl _ _).alloc (Nat.le_refl _) _).alloc (by simp) _).drew)
      have HBC := Lib.hid (show Below w0.heap.size w0 ((w0.alloc (Obj.cells #[.bool true, .bool d, .slice none 0 0, .slice none 0 0] 58)).alloc (Obj.cells #[] 58)).drew from (((Below.refl _ _).alloc (Nat.le_refl _) _).alloc (by simp) _).drew)
      have HOA := Lib.hid (show (w0.alloc (Obj.cells #[] 58)).drew.ownsRow w0.heap.size 58 4 (.slice (some ⟨w0.heap.size, 0, none⟩) 0 0) 0 [] from own_empty w0 58 4)
      have HOB := Lib.hid (show ((w0.alloc (Obj.cells #[] 58)).alloc (Obj.cells #[.bool true, .bool d, .slice none 0 0, .slice none 0 0] 58)).drew.ownsRow w0.heap.size 58 4 (.slice (some ⟨w0.heap.size, 0, none⟩) 0 0) 0 [] from own_alloc (own_empty w0 58 4) _)
      have HOC := Lib.hid (show ((w0.alloc (Obj.cells #[.bool true, .bool d, .slice none 0 0, .slice none 0 0] 58)).alloc (Obj.cells #[] 58)).drew.ownsRow w0.heap.size 58 4 (.slice (some ⟨w0.heap.size + 1, 0, none⟩) 0 0) 0 [] from by
        have := own_weaken (own_empty (w0.alloc (Obj.cells #[.bool true, .bool d, .slice none 0 0, .slice none 0 0] 58)) 58 4) (base' := w0.heap.size) (by simp)
        rw [World.size_alloc] at this
        exact this)
      have HPA := Lib.hid (show AllP Cv (w0.alloc (Obj.cells #[] 58)).drew (.slice (some ⟨w0.heap.size, 0, none⟩) 0 0) from allP_empty w0 58 Cv)
      have HPB := Lib.hid (show AllP Cv ((w0.alloc (Obj.cells #[] 58)).alloc (Obj.cells #[.bool true, .bool d, .slice none 0 0, .slice none 0 0] 58)).drew (.slice (some ⟨w0.heap.size, 0, none⟩) 0 0) from AllP.kept (allP_empty w0 58 Cv) (fun k hk => Below.heap_alloc (w0.alloc (Obj.cells #[] 58)) _ k (own_lt (own_empty w0 58 4) k hk)))
      have HPC := Lib.hid (show AllP Cv ((w0.alloc (Obj.cells #[.bool true, .bool d, .slice none 0 0, .slice none 0 0] 58)).alloc (Obj.cells #[] 58)).drew (.slice (some ⟨w0.heap.size + 1, 0, none⟩) 0 0) from by
        have := allP_empty (w0.alloc (Obj.cells #[.bool true, .bool d, .slice none 0 0, .slice none 0 0] 58)) 58 Cv
        rw [World.size_alloc] at this
        exact this)
      have HXB := Lib.hid (show RdC ((w0.alloc (Obj.cells #[] 58)).alloc (Obj.cells #[.bool true, .bool d, .slice none 0 0, .slice none 0 0] 58)).drew (some ⟨w0.heap.size + 1, 0, none⟩) 1 4 [.bool true, .bool d, .slice none 0 0, .slice none 0 0] from by
        have := rdc_lit (w0.alloc (Obj.cells #[] 58)) [.bool true, .bool d, .slice none 0 0, .slice none 0 0] 58 1 4 rfl (HXT.out w0).one
        rw [World.size_alloc] at this
        exact this)
      have HXC := Lib.hid (show RdC ((w0.alloc (Obj.cells #[.bool true, .bool d, .slice none 0 0, .slice none 0 0] 58)).alloc (Obj.cells #[] 58)).drew (some ⟨w0.heap.size, 0, none⟩) 1 4 [.bool true, .bool d, .slice none 0 0, .slice none 0 0] from by
        have := rdc_lit w0 [.bool true, .bool d, .slice none 0 0, .slice none 0 0] 58 1 4 rfl (HXT.out w0).one
        exact (this.below ((Below.refl _ _).alloc (Nat.le_refl _) _)).below (Below.refl _ _).drew)
      have m1 : (w0.alloc (Obj.cells #[] 58)).cell? ⟨g, 0, none⟩ = some (.slice (some ⟨b, 0, none⟩) N cap) := keepC ((Below.refl _ _).alloc (Nat.le_refl _) _) g0
      have m2 : (w0.alloc (Obj.cells #[.bool true, .bool d, .slice none 0 0, .slice none 0 0] 58)).cell? ⟨g, 0, none⟩ = some (.slice (some ⟨b, 0, none⟩) N cap) := keepC ((Below.refl _ _).alloc (Nat.le_refl _) _) g0
      have m3 : ((w0.alloc (Obj.cells #[] 58)).alloc (Obj.cells #[.bool true, .bool d, .slice none 0 0, .slice none 0 0] 58)).cell? ⟨g, 0, none⟩ = some (.slice (some ⟨b, 0, none⟩) N cap) := keepC ((Below.refl _ _).alloc (Nat.le_refl _) _) m1
      have m4 : ((w0.alloc (Obj.cells #[.bool true, .bool d, .slice none 0 0, .slice none 0 0] 58)).alloc (Obj.cells #[] 58)).cell? ⟨g, 0, none⟩ = some (.slice (some ⟨b, 0, none⟩) N cap) := keepC ((Below.refl _ _).alloc (Nat.le_refl _) _) m2
      have HS := Lib.hid (show ∀ W, Fz w0 W (Gb g b) → (fun W : World => W.cell? ⟨w.heap.size, 0, none⟩ = some (.bool true) ∧ W.cell? ⟨w.heap.size, 1, none⟩ = some (.bool d) ∧ W.cell? ⟨w.heap.size, 2, none⟩ = some (.slice none 0 0) ∧ W.cell? ⟨w.heap.size, 3, none⟩ = some (.slice none 0 0)) W from fun W hz =>
        have hnx : ¬ Gb g b w.heap.size := fun h => h.elim hgne hbne
        ⟨cell_fz hz x0 hnx, cell_fz hz x1 hnx, cell_fz hz x2 hnx, cell_fz hz x3 hnx⟩)
      have HS0 := Lib.hid (kzF (T := (fun W : World => W.cell? ⟨w.heap.size, 0, none⟩ = some (.bool true) ∧ W.cell? ⟨w.heap.size, 1, none⟩ = some (.bool d) ∧ W.cell? ⟨w.heap.size, 2, none⟩ = some (.slice none 0 0) ∧ W.cell? ⟨w.heap.size, 3, none⟩ = some (.slice none 0 0))) (H0.out.fz0 (Below.refl w0.heap.size w0)) HS.out)
      have ya0 := keepC ((Below.refl _ _).alloc (Nat.le_refl _) (Obj.cells #[] 58)) x0
      have ya1 := keepC ((Below.refl _ _).alloc (Nat.le_refl _) (Obj.cells #[] 58)) x1
      have ya2 := keepC ((Below.refl _ _).alloc (Nat.le_refl _) (Obj.cells #[] 58)) x2
      have ya3 := keepC ((Below.refl _ _).alloc (Nat.le_refl _) (Obj.cells #[] 58)) x3
      clear hcs hrc
      go_wp2_with fail
      go_region_law
        (
          first
          | (refine step_ownP Cv rfl (.tmp 33) (.tmp 37) 59 rfl w0.heap.size 58 _ 4 56 Tryz.underlying59 info58 rfl (by decide) (by decide) (.slice (some ⟨w0.heap.size, 0, none⟩) 0 0) 0 [] ⟨b, 0, none⟩ N cap cs (by simp [Act.eval]) rfl HOA.out (HRC.out.below HBA.out) HBA.out.size (by omega) (by omega) HZC.out HCC.out HPA.out ?_
             intro v1 w3 hown hg hat hap
             have hb3 : Below w0.heap.size w0 w3 := below_own HBA.out HOA.out hg
             have hz3 : Fz w0 w3 (Gb g b) := H0.out.fz0 hb3
             obtain ⟨x30, x31, x32, x33⟩ := HS.out w3 hz3
             have HO3 := Lib.hid hown
             have HP3 := Lib.hid hap
             have HB3 := Lib.hid hb3
             clear hat hg hown hap hb3)
          | (refine step_ownP Cv rfl (.tmp 33) (.tmp 37) 59 rfl w0.heap.size 58 _ 4 56 Tryz.underlying59 info58 rfl (by decide) (by decide) (.slice (some ⟨w0.heap.size, 0, none⟩) 0 0) 0 [] ⟨b, 0, none⟩ N cap cs (by simp [Act.eval]) rfl HOB.out (HRC.out.below HBB.out) HBB.out.size (by omega) (by omega) HZC.out HCC.out HPB.out ?_
             intro v1 w3 hown hg hat hap
             have hb3 : Below w0.heap.size w0 w3 := below_own HBB.out HOB.out hg
             have hz3 : Fz w0 w3 (Gb g b) := H0.out.fz0 hb3
             obtain ⟨x30, x31, x32, x33⟩ := HS.out w3 hz3
             have HRX := Lib.hid (show RdC w3 (some ⟨w0.heap.size + 1, 0, none⟩) 1 4 [.bool true, .bool d, .slice none 0 0, .slice none 0 0] from rdc_grown HXB.out hg (by simp [Value.ownBlock]) (by simp))
             have HO3 := Lib.hid hown
             have HP3 := Lib.hid hap
             have HB3 := Lib.hid hb3
             clear hat hg hown hap hb3)
          | (refine step_ownP Cv rfl (.tmp 33) (.tmp 37) 59 rfl w0.heap.size 58 _ 4 56 Tryz.underlying59 info58 rfl (by decide) (by decide) (.slice (some ⟨w0.heap.size + 1, 0, none⟩) 0 0) 0 [] ⟨b, 0, none⟩ N cap cs (by simp [Act.eval]) rfl HOC.out (HRC.out.below HBC.out) HBC.out.size (by omega) (by omega) HZC.out HCC.out HPC.out ?_
             intro v1 w3 hown hg hat hap
             have hb3 : Below w0.heap.size w0 w3 := below_own HBC.out HOC.out hg
             have hz3 : Fz w0 w3 (Gb g b) := H0.out.fz0 hb3
             obtain ⟨x30, x31, x32, x33⟩ := HS.out w3 hz3
             have HRX := Lib.hid (show RdC w3 (some ⟨w0.heap.size, 0, none⟩) 1 4 [.bool true, .bool d, .slice none 0 0, .slice none 0 0] from rdc_grown HXC.out hg (by simp [Value.ownBlock]) (by simp; omega))
             have HO3 := Lib.hid hown
             have HP3 := Lib.hid hap
             have HB3 := Lib.hid hb3
             clear hat hg hown hap hb3)
          | (refine step_ownP Cv rfl (.tmp 38) (.tmp 40) 59 rfl w0.heap.size 58 _ 4 56 Tryz.underlying59 info58 rfl (by decide) (by decide) v1 (0 + N) ([] ++ cs) ⟨w3.heap.size, 0, none⟩ 1 1 [.bool true, .bool d, .slice none 0 0, .slice none 0 0] (by simp [Act.eval]) rfl (own_alloc HO3.out _) (rdc_lit w3 [.bool true, .bool d, .slice none 0 0, .slice none 0 0] 58 1 4 rfl (HXT.out w0).one) (HB3.out.alloc HB3.out.size _).size (by omega) (by omega) HZC.out HXV.out (AllP.kept HP3.out (fun k hk => Below.heap_alloc w3 _ k (own_lt HO3.out k hk))) ?_
             intro v2 w4 hown2 hg2 hat2 hap2
             have hb4 : Below w0.heap.size w0 w4 := below_own (HB3.out.alloc HB3.out.size _) (own_alloc HO3.out _) hg2
             have hz4 : Fz w0 w4 (Gb g b) := H0.out.fz0 hb4
             obtain ⟨x40, x41, x42, x43⟩ := HS.out w4 hz4
             have hot : OwnT v w4 w0.heap.size v2 (L ++ [⟨true, d, [], []⟩]) := ⟨hap2, cs ++ [.bool true, .bool d, .slice none 0 0, .slice none 0 0], CsL.append HCS.out (HXT.out v), by rw [List.length_append, HN.out]; simpa using hown2⟩
             obtain ⟨q, cap2, rfl, hq, hc2, hcs2⟩ := hot.open (by simp)
             have H4 := Lib.hid (H0.out.beloww hb4)
             obtain ⟨cap4, -, ht4⟩ := H4.out.tree
             have zz := blk_cell ht4 0
             have qf4 := blk_frozen ht4 0
             have HB4 := Lib.hid hb4
             have HQ := Lib.hid hq
             have HC2 := Lib.hid hc2
             have HCS2 := Lib.hid hcs2
             clear ht4 hb4 hot hown2 hg2 hat2 hap2 hq hc2 hcs2)
          | (refine step_ownP Cv rfl (.tmp 38) (.tmp 40) 59 rfl w0.heap.size 58 _ 4 56 Tryz.underlying59 info58 rfl (by decide) (by decide) v1 (0 + N) ([] ++ cs) ⟨w0.heap.size + 1, 0, none⟩ 1 1 [.bool true, .bool d, .slice none 0 0, .slice none 0 0] (by simp [Act.eval]) rfl HO3.out HRX.out HB3.out.size (by omega) (by omega) HZC.out HXV.out HP3.out ?_
             intro v2 w4 hown2 hg2 hat2 hap2
             have hb4 : Below w0.heap.size w0 w4 := below_own HB3.out HO3.out hg2
             have hz4 : Fz w0 w4 (Gb g b) := H0.out.fz0 hb4
             obtain ⟨x40, x41, x42, x43⟩ := HS.out w4 hz4
             have hot : OwnT v w4 w0.heap.size v2 (L ++ [⟨true, d, [], []⟩]) := ⟨hap2, cs ++ [.bool true, .bool d, .slice none 0 0, .slice none 0 0], CsL.append HCS.out (HXT.out v), by rw [List.length_append, HN.out]; simpa using hown2⟩
             obtain ⟨q, cap2, rfl, hq, hc2, hcs2⟩ := hot.open (by simp)
             have H4 := Lib.hid (H0.out.beloww hb4)
             obtain ⟨cap4, -, ht4⟩ := H4.out.tree
             have zz := blk_cell ht4 0
             have qf4 := blk_frozen ht4 0
             have HB4 := Lib.hid hb4
             have HQ := Lib.hid hq
             have HC2 := Lib.hid hc2
             have HCS2 := Lib.hid hcs2
             clear ht4 hb4 hot hown2 hg2 hat2 hap2 hq hc2 hcs2)
          | (refine step_ownP Cv rfl (.tmp 38) (.tmp 40) 59 rfl w0.heap.size 58 _ 4 56 Tryz.underlying59 info58 rfl (by decide) (by decide) v1 (0 + N) ([] ++ cs) ⟨w0.heap.size, 0, none⟩ 1 1 [.bool true, .bool d, .slice none 0 0, .slice none 0 0] (by simp [Act.eval]) rfl HO3.out HRX.out HB3.out.size (by omega) (by omega) HZC.out HXV.out HP3.out ?_
             intro v2 w4 hown2 hg2 hat2 hap2
             have hb4 : Below w0.heap.size w0 w4 := below_own HB3.out HO3.out hg2
             have hz4 : Fz w0 w4 (Gb g b) := H0.out.fz0 hb4
             obtain ⟨x40, x41, x42, x43⟩ := HS.out w4 hz4
             have hot : OwnT v w4 w0.heap.size v2 (L ++ [⟨true, d, [], []⟩]) := ⟨hap2, cs ++ [.bool true, .bool d, .slice none 0 0, .slice none 0 0], CsL.append HCS.out (HXT.out v), by rw [List.length_append, HN.out]; simpa using hown2⟩
             obtain ⟨q, cap2, rfl, hq, hc2, hcs2⟩ := hot.open (by simp)
             have H4 := Lib.hid (H0.out.beloww hb4)
             obtain ⟨cap4, -, ht4⟩ := H4.out.tree
             have zz := blk_cell ht4 0
             have qf4 := blk_frozen ht4 0
             have HB4 := Lib.hid hb4
             have HQ := Lib.hid hq
             have HC2 := Lib.hid hc2
             have HCS2 := Lib.hid hcs2
             clear ht4 hb4 hot hown2 hg2 hat2 hap2 hq hc2 hcs2)
)
      all_goals
        have h5 := Rf2.newrow (L' := L ++ [⟨true, d, [], []⟩]) (k := L.length + 1) H4.out (Nat.le_trans (Nat.le_trans H.out.base.1 (Nat.le_of_lt H.out.ltg)) (Nat.le_trans HB0.out.size HQ.out)) (by simp) (by omega) (by simpa using HC2.out) (by have := HQ.out; have := H.out.ltg; have := HB0.out.size; omega) HCS2.out
        have H5 := Lib.hid h5
        clear h5
        go_wp2
        go_ret
        rw [HE.out]
        have hwl : wrap64 (L.length : Int) = (N : Int) := by have := HN.out; rw [Ra.w64 (by omega) (by omega)]; omega
        refine ⟨by show Ending.returned (.int .i64 (wrap64 (L.length : Int))) = _; rw [hwl], q, H5.out, .inr (Nat.le_trans HB0.out.size HQ.out), ?_, ?_⟩
        · exact Fz.set (H.out.fz0 (HB0.out.trans (HB4.out.mono HB0.out.size))) g _ _ (.inl rfl)
        · exact ((HB0.out.trans (HB4.out.mono HB0.out.size)).mono (by have := H.out.base; have := H.out.ltg; omega)).setCell H.out.base.1 _
end Go.Proofs.YtpdcjdangnfeiaaGreatDoor.Rc
end
