/- The printed Names as a plain list; Put, Take, Move, Names told by rows. The reference's More walked: bytes behind a file's. -/
import Derived.Test.YtpdcjdangnfeiaaGreatDoorZa
section
open Go Go.RowKit Go.Proofs.YtpdcjdangnfeiaaGreatDoor.Pb Go.Proofs.YtpdcjdangnfeiaaGreatDoor.PPrf Go.Proofs.YtpdcjdangnfeiaaGreatDoorW.PrintWords Go.Proofs.YtpdcjdangnfeiaaGreatDoorW.PrintLast Go.Proofs.YtpdcjdangnfeiaaGreatDoorW.PrintMore Go.Proofs.YtpdcjdangnfeiaaGreatDoor.Qa Go.Proofs.YtpdcjdangnfeiaaGreatDoor.Tb Go.Proofs.YtpdcjdangnfeiaaGreatDoor.Rb Go.Proofs.YtpdcjdangnfeiaaGreatDoor.Ba Go.Proofs.YtpdcjdangnfeiaaGreatDoor.Rd Go.Proofs.YtpdcjdangnfeiaaGreatDoor.Te
namespace Go.Proofs.YtpdcjdangnfeiaaGreatDoor.Rc
def ltN (x y : ByteArray) : Bool := Op.bytesLess y.toList x.toList
/-- A name put into names that rise. -/
def insR (out : List ByteArray) (x : ByteArray) : List ByteArray := out.takeWhile (ltN x) ++ [x] ++ out.dropWhile (ltN x)
/-- The names, one by one. -/
def nmF : List ByteArray → List S106 → List ByteArray
  | out, [] => out
  | out, e :: S => if e.f0 = ByteArray.empty then nmF out S else nmF (insR out e.f0) S
theorem insR_len (out : List ByteArray) (x : ByteArray) : (insR out x).length = out.length + 1 := by
  have := congrArg List.length (List.takeWhile_append_dropWhile (p := ltN x) (l := out))
  unfold insR
  simp only [List.length_append, List.length_singleton] at this ⊢
  omega
theorem tw_take {α : Type} (p : α → Bool) (l : List α) (i : Nat) (h1 : ∀ j (hj : j < l.length), j < i → p l[j] = true) (h2 : ∀ hi : i < l.length, p l[i] = false) (hi : i ≤ l.length) : l.takeWhile p = l.take i ∧ l.dropWhile p = l.drop i := by
  induction l generalizing i with
  | nil => simp
  | cons x l ih =>
    cases i with
    | zero =>
      have h3 := h2 (by simp)
      have h3' : p x = false := h3
      simp [h3']
    | succ i =>
      have h0 : p x = true := h1 0 (by simp) (by omega)
      obtain ⟨a1, a2⟩ := ih i (fun j hj hji => by have := h1 (j + 1) (by simpa using hj) (by omega); simpa using this) (fun hi' => by have := h2 (by simpa using hi'); simpa using this) (by simpa using hi)
      simp [h0, a1, a2]
/-- A directory's names, as the document's. -/
def nmR (S : List S106) : List ByteArray := nmF [] S
theorem kdR_strings {w : World} {base : Nat} {v : Value} {l : List ByteArray} (h : Kd.R Kd.string 9 w base (fun _ => True) v l) : ∃ A c, v = .slice A l.length c ∧ RdN w A l ∧ l.length ≤ c := by
  obtain ⟨A, c, e, h1, h2⟩ := h.2.reads
  exact ⟨A, c, e, ReadsRow.imp_ h2 (Below.refl _ _) (fun _ _ hp => Kd.string.K_of_M hp), h1⟩
/-- A row of slots of the call's own, opened. -/
theorem OwnSl.open {w : World} {base : Nat} {v : Value} {l : List S106} (h : OwnSl w base v l) (h0 : 0 < l.length) :
    ∃ q cap cur, v = .slice (some ⟨q, 0, none⟩) l.length cap ∧ base ≤ q ∧ q < w.heap.size ∧ l.length ≤ cap ∧ w.heap[q]? = some (.cells cur 106 (0, 0)) ∧ cur.toList.take (l.length * 2) = cellsS l ∧ RdSl w (some ⟨q, 0, none⟩) l := by
  obtain ⟨A, c, e, hr, -⟩ := h.reads
  obtain ⟨hl, h⟩ := h
  rcases h with ⟨-, h1⟩ | ⟨q, cap, cur, rfl, hq, hh, hn, hm, hs, ht⟩
  · omega
  · cases e
    exact ⟨q, _, cur, rfl, hq, (Array.getElem?_eq_some_iff.1 hh).1, hn, hh, ht, hr⟩
theorem RdSl.of_cells {w : World} {q : Nat} {cur : Array Value} {l : List S106} (hh : w.heap[q]? = some (.cells cur 106 (0, 0))) (hl : l.length ≤ 1000000) (hc : ∀ j (hj : j < l.length), cur[j * 2]? = some (.string l[j].f0) ∧ cur[j * 2 + 1]? = some (.int .i64 l[j].f1)) : RdSl w (some ⟨q, 0, none⟩) l := by
  refine RdSl.mk (by omega) fun j hj => ?_
  rw [Nat.zero_add, cell_of_block hh, cell_of_block hh]
  exact hc j hj
/-- A number stored into such a row. -/
theorem OwnSl.ino {w : World} {base q cap : Nat} {l : List S106} (h : OwnSl w base (.slice (some ⟨q, 0, none⟩) l.length cap) l) (hl : l.length ≤ 1000000) (i : Nat) (e : S106) (hi : l[i]? = some e) (m : Int) :
    RdSl (w.setCell ⟨q, i * 2 + 1, none⟩ (.int .i64 m)) (some ⟨q, 0, none⟩) (l.set i ⟨e.f0, m⟩) := by
  have hlt := (List.getElem?_eq_some_iff.1 hi).1
  obtain ⟨q', cap', cur, e', hq, hlq, hn, hh, ht, hr⟩ := OwnSl.open h (by omega)
  cases e'
  refine RdSl.of_cells (blk_set hh _ _) (by rw [List.length_set]; exact hl) fun j hj => ?_
  have hjl : j < l.length := by simpa using hj
  obtain ⟨c1, c2⟩ := cellsS_at l j _ (List.getElem?_eq_getElem hjl)
  have k1 : cur[j * 2]? = some (.string l[j].f0) := by rw [← ht, List.getElem?_take_of_lt (by omega), Array.getElem?_toList] at c1; exact c1
  have k2 : cur[j * 2 + 1]? = some (.int .i64 l[j].f1) := by rw [← ht, List.getElem?_take_of_lt (by omega), Array.getElem?_toList] at c2; exact c2
  by_cases e2 : j = i
  · subst e2
    have this : l[j] = e := Option.some.inj ((List.getElem?_eq_getElem (l := l) hjl).symm.trans hi)
    have h5 : some (Value.string l[j].f0) = some (Value.string e.f0) := by rw [this]
    rw [List.getElem_set_self]
    exact ⟨(get_set (by omega) k1).trans h5, get_set_same k2⟩
  · rw [List.getElem_set_ne (Ne.symm e2)]
    exact ⟨get_set (by omega) k1, get_set (by omega) k2⟩
/-- Where a name stands that was put. -/
def plL (l : List S106) : Nat := match l.findIdx? isE with
  | some i => i
  | none => l.length
theorem putL_len (l : List S106) (x : ByteArray) (m : Int) : l.length ≤ (putL l x m).length ∧ (putL l x m).length ≤ l.length + 1 := by
  unfold putL
  cases l.findIdx? isE <;> simp
theorem put_at {l : List S106} {x : ByteArray} {m : Int} (hx : x ≠ ByteArray.empty) (ha : atL l x = none) : atL (putL l x m) x = some (plL l) ∧ (putL l x m)[plL l]? = some ⟨x, m⟩ ∧ ∀ m', (putL l x m).set (plL l) ⟨x, m'⟩ = putL l x m' := by
  have hno := atL_none hx ha
  unfold putL plL
  cases hf : l.findIdx? isE with
  | some i =>
    have hi := (List.findIdx?_eq_some_iff_getElem.1 hf).1
    dsimp only
    refine ⟨?_, by rw [List.getElem?_set_self hi], fun m' => by rw [List.set_set]⟩
    unfold atL
    rw [if_neg hx, List.findIdx?_eq_some_iff_getElem]
    refine ⟨by rw [List.length_set]; exact hi, by simp, fun j hj => ?_⟩
    rw [List.getElem_set_ne (by omega)]
    have := hno l[j] (List.getElem_mem (by omega))
    simpa using this
  | none =>
    dsimp only
    refine ⟨?_, by simp, fun m' => by simp⟩
    unfold atL
    rw [if_neg hx, List.findIdx?_eq_some_iff_getElem]
    refine ⟨by simp, by simp, fun j hj => ?_⟩
    rw [List.getElem_append_left (by omega)]
    have := hno l[j] (List.getElem_mem (by omega))
    simpa using this
end Go.Proofs.YtpdcjdangnfeiaaGreatDoor.Rc
open Go.Proofs.YtpdcjdangnfeiaaGreatDoor.Rq
namespace Go.Proofs.YtpdcjdangnfeiaaGreatDoor.Rc
/-- What More answers. -/
def moreE (x : T) (n : Int) (d : Nat) : Int := if (d : Int) > 8458240 - (x.B.length : Int) then 5 else if (allB (x.B.length + d) : Int) - (allB x.B.length : Int) > n then 7 else 0
def MorePost (w : World) (B g b : Nat) (L : List T) (n m : Int) (k : Nat) (d : List UInt8) (e : Ending) (w' : World) : Prop :=
  e = .returned (.int .i64 (moreE (thL L k) n d.length)) ∧
    if moreE (thL L k) n d.length = 0 then Rp w w' B g b (L.set k { thL L k with B := (thL L k).B ++ d }) (n - ((allB ((thL L k).B.length + d.length) : Int) - (allB (thL L k).B.length : Int))) m else Rp w w' B g b L n m
theorem Rp.of_below {w w' : World} {B g b : Nat} {L : List T} {n m : Int} (h : Rf w B g b L n m) (hb : Below w.heap.size w w') : Rp w w' B g b L n m :=
  ⟨b, h.below hb, .inl rfl, h.fz0 hb, hb.mono (by have := h.base; have := h.ltg; omega)⟩
set_option maxHeartbeats 4000000 in
set_option maxRecDepth 100000 in
/-- (*Tree).More -/
theorem more_any {w : World} {B g b M : Nat} {L : List T} {n m : Int} (k : Nat) (D : Option Addr) (dc : Nat) (d : List UInt8) (h : Rf w B g b L n m) (hw : WfL L M) (hM : M ≤ 100000) (hk : k < L.length) (hn : 0 ≤ n ∧ n ≤ 1000000000) (hD : RdB w D d) (hdl : d.length ≤ 1000000) :
    Calls Tryz.prog 49 #[.pointer (some ⟨g, 0, none⟩), .int .i64 k, .slice D d.length dc] w (MorePost w B g b L n m k d) := by
  have hsz := hw.sz k _ (thL_get hk)
  have HW := Lib.hid hw
  have H := Lib.hid h
  have HK := Lib.hid hk
  have HDD := Lib.hid hD
  obtain ⟨N, hN⟩ : ∃ N, L.length = N := ⟨_, rfl⟩
  have HN := Lib.hid hN
  have i0 : (k : Int) < N := by omega
  have i00 : k < N := by omega
  obtain ⟨cap, -, ht⟩ := h.tree
  rw [hN] at ht
  have g0 := blk_cell ht 0
  have g1 := blk_cell ht 1
  obtain ⟨BA, bc, SA, sc, c0, c1, c2, c3, hB, hBc, hS, hSc⟩ := h.thing k _ (thL_get hk)
  have HT := Lib.hid ht
  have HBB := Lib.hid hB
  clear h hw hN ht hS hSc hk hB hD
  obtain ⟨R, hR⟩ : ∃ R, moreE (thL L k) n d.length = R := ⟨_, rfl⟩
  have HR := Lib.hid hR
  obtain ⟨dl, hdl'⟩ : ∃ dl, d.length = dl := ⟨_, rfl⟩
  obtain ⟨bl, hbl⟩ : ∃ bl, (thL L k).B.length = bl := ⟨_, rfl⟩
  have HDL := Lib.hid hdl'
  have HBL := Lib.hid hbl
  unfold moreE at hR
  rw [hbl, hdl'] at hR
  rw [hdl'] at hdl
  rw [hbl] at c2 hsz hBc
  have ha1 := Qb.allB_le (bl + dl)
  have ha2 := Qb.allB_le bl
  obtain ⟨F, hF⟩ : ∃ F : World → Prop, (fun w' => if R = 0 then Rp w w' B g b (L.set k { thL L k with B := (thL L k).B ++ d }) (n - ((allB (bl + dl) : Int) - (allB bl : Int))) m else Rp w w' B g b L n m) = F := ⟨_, rfl⟩
  have HF0 := Lib.hid (show R = 0 → ∀ w', Rp w w' B g b (L.set k { thL L k with B := (thL L k).B ++ d }) (n - ((allB (bl + dl) : Int) - (allB bl : Int))) m → F w' from fun h w' hp => by rw [← hF]; dsimp only; rw [if_pos h]; exact hp)
  have HF1 := Lib.hid (show R ≠ 0 → ∀ w', Rp w w' B g b L n m → F w' from fun h w' hp => by rw [← hF]; dsimp only; rw [if_neg h]; exact hp)
  have HPOST := Lib.hid (show ∀ (e : Ending) (w' : World), (e = .returned (.int .i64 R) ∧ F w') → MorePost w B g b L n m k d e w' from by
      intro e w' hp
      unfold MorePost
      rw [HR.out, HBL.out, HDL.out]
      rw [← hF] at hp
      exact hp)
  refine Calls.mono ?_ HPOST.out
  rw [hdl']
  clear hdl' hbl HPOST hF
  have wq : IntKind.i64.wrap (8458240 - (bl : Int)) = 8458240 - (bl : Int) := by rw [IntKind.wrap_i64]; omega
  by_cases r5 : (dl : Int) > 8458240 - (bl : Int)
  · rw [if_pos r5] at hR
    have r5' : 8458240 - (bl : Int) < (dl : Int) := r5
    have HR5 := Lib.hid hR
    clear hR
    go_enter Tryz.func49, Tryz.ntmps49
    go_wp2
    go_ret
    exact ⟨by rw [← HR5.out]; rfl, HF1.out (by rw [← HR5.out]; decide) _ (Rp.of_below H.out ((Below.refl _ _).alloc (Nat.le_refl _) _))⟩
  rw [if_neg r5] at hR
  have r5' : ¬ 8458240 - (bl : Int) < (dl : Int) := r5
  have HA1 := Lib.hid (fun W : World => Rc.all_any (W := W) (bl + dl) (by omega))
  have HA2 := Lib.hid (fun W : World => Rc.all_any (W := W) bl (by omega))
  have w1 : IntKind.i64.wrap ((bl : Int) + (dl : Int)) = ((bl + dl : Nat) : Int) := by rw [IntKind.wrap_i64]; omega
  have w2 : IntKind.i64.wrap ((allB (bl + dl) : Int) - (allB bl : Int)) = (allB (bl + dl) : Int) - (allB bl : Int) := by rw [IntKind.wrap_i64]; omega
  have HRR := Lib.hid hR
  clear hR r5
  obtain ⟨q1, hq1⟩ : ∃ q, allB (bl + dl) = q := ⟨_, rfl⟩
  obtain ⟨q2, hq2⟩ : ∃ q, allB bl = q := ⟨_, rfl⟩
  rw [hq1] at HA1 w2 ha1 HRR HF0
  rw [hq2] at HA2 w2 ha2 HRR HF0
  generalize bl + dl = q3 at HA1 w1
  clear hq1 hq2
  go_enter Tryz.func49, Tryz.ntmps49
  go_wp2_with fail
  obtain ⟨w1', hw1⟩ : ∃ w1, w.alloc (Obj.cells #[.bool (thL L k).is, .bool (thL L k).dir, .slice BA bl bc, .slice SA (thL L k).S.length sc] 58) = w1 := ⟨_, rfl⟩
  rw [hw1]
  have hb1 : Below w.heap.size w w1' := hw1 ▸ (Below.refl _ _).alloc (Nat.le_refl _) _
  have hx : w1'.heap[w.heap.size]? = some (Obj.cells #[.bool (thL L k).is, .bool (thL L k).dir, .slice BA bl bc, .slice SA (thL L k).S.length sc] 58) := hw1 ▸ Go.heap_alloc_new w _
  have H1 := Lib.hid (H.out.below hb1)
  have x2 : w1'.cell? ⟨w.heap.size, 2, none⟩ = some (.slice BA bl bc) := blk_cell hx 2
  have y0 := keepC hb1 g0
  have y1 := keepC hb1 g1
  have z2 := keepC hb1 c2
  obtain ⟨cs, hcs, -⟩ := H1.out.row
  have qf := blk_frozen hcs (k * 4 + 2)
  have hne : g ≠ b := H1.out.ne
  have hne' : b ≠ g := Ne.symm hne
  have hne2 : w.heap.size ≠ g := by have := H.out.ltg; omega
  have hne3 : w.heap.size ≠ b := by have := H.out.ltb; omega
  have ht1 := (hb1.block g (Array.getElem?_eq_some_iff.1 HT.out).1).trans HT.out
  have f1 := blk_frozen ht1 1
  have HB1 := Lib.hid hb1
  have HX := Lib.hid hx
  clear hw1 hx hb1 ht1 hcs g0 g1 c0 c1 c2 c3
  go_quiet (first | (go_at_call 48; first | refine Calls.quiet_of (HA1.out _) | refine Calls.quiet_of (HA2.out _)) | fail)
  by_cases r7 : n < (q1 : Int) - (q2 : Int)
  · go_wp2
    go_ret
    have e7 : 7 = R := by rw [← HRR.out, if_pos r7]
    exact ⟨by rw [← e7]; rfl, HF1.out (by rw [← e7]; decide) _ (Rp.of_below H.out (HB1.out.trans ((bdraw w1' nq).mono HB1.out.size)))⟩
  · have E0 := Lib.hid (show 0 = R by rw [← HRR.out, if_neg r7])
    have wn : IntKind.i64.wrap (n - ((q1 : Int) - (q2 : Int))) = n - ((q1 : Int) - (q2 : Int)) := by rw [IntKind.wrap_i64]; omega
    go_wp2_with fail
    obtain ⟨w2, hw2⟩ : ∃ w2, (w1'.drewN nq).setCell ⟨g, 1, none⟩ (.int .i64 (n - ((q1 : Int) - (q2 : Int)))) = w2 := ⟨_, rfl⟩
    rw [hw2]
    have hb2 : Below w.heap.size w (w1'.drewN nq) := HB1.out.trans ((bdraw w1' nq).mono HB1.out.size)
    have hlo2 : Below B w w2 := hw2 ▸ (hb2.mono (by have := H.out.base; have := H.out.ltg; omega)).setCell H.out.base.1 _
    have hfz2 : Fz w w2 (Gb g b) := hw2 ▸ Fz.set (H.out.fz0 hb2) g 1 _ (.inl rfl)
    have h2 : Rf w2 B g b L (n - ((q1 : Int) - (q2 : Int))) m := hw2 ▸ (H.out.below hb2).num1 _
    have hsz2 : w2.heap.size = w1'.heap.size := by rw [← hw2]; simp [World.setCell]
    have hx2 : w2.heap[w.heap.size]? = some (Obj.cells #[.bool (thL L k).is, .bool (thL L k).dir, .slice BA bl bc, .slice SA (thL L k).S.length sc] 58) := by
      rw [← hw2]
      exact (Below.heap_setCell (w1'.drewN nq) ⟨g, 1, none⟩ _ _ hne2).trans HX.out
    have hg2 : w2.heap[g]? = some (Obj.cells #[.slice (some ⟨b, 0, none⟩) N cap, .int .i64 (n - ((q1 : Int) - (q2 : Int))), .int .i64 m] 61) := by
      rw [← hw2]
      have h3 : (w1'.drewN nq).heap[g]? = some (Obj.cells #[.slice (some ⟨b, 0, none⟩) N cap, .int .i64 n, .int .i64 m] 61) := (hb2.block g H.out.ltg).trans HT.out
      exact (blk_set h3 1 _).trans rfl
    have u0 : w2.cell? ⟨g, 0, none⟩ = some (.slice (some ⟨b, 0, none⟩) N cap) := blk_cell hg2 0
    have u2 : w2.cell? ⟨w.heap.size, 2, none⟩ = some (.slice BA bl bc) := blk_cell hx2 2
    have HBB2 := Lib.hid (RdB.fz HBB.out hfz2)
    have HDD2 := Lib.hid (RdB.fz HDD.out hfz2)
    have HRC1 := Lib.hid (show RdC w2 BA bl 1 (encs bv (thL L k).B) from by have := RdC.bytes HBB2.out; rwa [HBL.out] at this)
    have HRC2 := Lib.hid (show RdC w2 D dl 1 (encs bv d) from by have := RdC.bytes HDD2.out; rwa [HDL.out] at this)
    have HS := Lib.hid (show ∀ W, Fz w2 W (fun i => i = b) → (fun W : World => W.cell? ⟨g, 0, none⟩ = some (.slice (some ⟨b, 0, none⟩) N cap) ∧ W.cell? ⟨w.heap.size, 2, none⟩ = some (.slice BA bl bc)) W from fun W hz => ⟨cell_fz hz u0 hne, cell_fz hz u2 hne3⟩)
    have HCL := Lib.hid (show ∀ i, i = b → i < w2.heap.size → Cl w2 i from fun i e _ => e ▸ h2.clb)
    have HS0 := Lib.hid (kzF (T := (fun W : World => W.cell? ⟨g, 0, none⟩ = some (.slice (some ⟨b, 0, none⟩) N cap) ∧ W.cell? ⟨w.heap.size, 2, none⟩ = some (.slice BA bl bc))) (Fz.of_below (Below.refl w2.heap.size w2) _ HCL.out) HS.out)
    have H2 := Lib.hid h2
    have HLO := Lib.hid hlo2
    have HFZ := Lib.hid hfz2
    have HOW := Lib.hid (show (w2.alloc (Obj.cells #[] 5)).drew.ownsRow w2.heap.size 5 1 (.slice (some ⟨w2.heap.size, 0, none⟩) 0 0) 0 [] from own_empty w2 5 1)
    have HBW := Lib.hid (show Below w2.heap.size w2 (w2.alloc (Obj.cells #[] 5)).drew from ((Below.refl w2.heap.size w2).alloc (Nat.le_refl _) _).drew)
    clear hw2 hx2 hg2 h2 hlo2 hfz2 hb2 y0 y1 z2 x2 qf f1 u0 u2
    go_region_held3 (fun W : World => Fz w2 W (fun i => i = b) ∧ W.cell? ⟨g, 0, none⟩ = some (.slice (some ⟨b, 0, none⟩) N cap) ∧ W.cell? ⟨w.heap.size, 2, none⟩ = some (.slice BA bl bc)) (first | exact kzF (T := (fun W : World => W.cell? ⟨g, 0, none⟩ = some (.slice (some ⟨b, 0, none⟩) N cap) ∧ W.cell? ⟨w.heap.size, 2, none⟩ = some (.slice BA bl bc))) (by assumption) HS.out | exact kz1 (T := (fun W : World => W.cell? ⟨g, 0, none⟩ = some (.slice (some ⟨b, 0, none⟩) N cap) ∧ W.cell? ⟨w.heap.size, 2, none⟩ = some (.slice BA bl bc))) (by first | assumption | exact HS0.out) HS.out | exact kzA (T := (fun W : World => W.cell? ⟨g, 0, none⟩ = some (.slice (some ⟨b, 0, none⟩) N cap) ∧ W.cell? ⟨w.heap.size, 2, none⟩ = some (.slice BA bl bc))) _ (by first | assumption | exact HS0.out) HS.out | exact kzS (T := (fun W : World => W.cell? ⟨g, 0, none⟩ = some (.slice (some ⟨b, 0, none⟩) N cap) ∧ W.cell? ⟨w.heap.size, 2, none⟩ = some (.slice BA bl bc))) _ rfl (by assumption) HS.out)
      (
          first
          | (refine step_own rfl (.tmp 55) (.tmp 57) 33 rfl w2.heap.size 5 (.int .u8 0) 1 1 Tryz.underlying33 info5 rfl (by decide) (by decide) (.slice (some ⟨w2.heap.size, 0, none⟩) 0 0) 0 [] BA bl bc (encs bv (thL L k).B) (by simp [Act.eval]) rfl HOW.out (HRC1.out.below HBW.out) HBW.out.size (by omega) ?_
             intro v1 w3 hown hg hat
             have hb3 : Below w2.heap.size w2 w3 := below_own HBW.out HOW.out hg
             have hz3 : Fz w2 w3 (fun i => i = b) := Fz.of_below hb3 _ HCL.out)
          | (refine step_own rfl (.tmp 58) (.tmp 59) 33 rfl w2.heap.size 5 (.int .u8 0) 1 1 Tryz.underlying33 info5 rfl (by decide) (by decide) v1 (0 + bl) ([] ++ encs bv (thL L k).B) D dl dc (encs bv d) (by simp [Act.eval]) rfl hown (HRC2.out.below hb3) hb3.size (by omega) ?_
             intro v2 w4 hown2 hg2 hat2
             have hb4 : Below w2.heap.size w2 w4 := below_own hb3 hown hg2
             have hz4 : Fz w2 w4 (fun i => i = b) := Fz.of_below hb4 _ HCL.out
             have hob : OwnB w4 w2.heap.size v2 ((thL L k).B ++ d) := OwnB.of_cells (by simpa using hown2) (by simp [HBL.out, HDL.out])
             obtain ⟨A2, k2, rfl, hr2, hc2⟩ := hob.reads
             have H4 := Lib.hid (H2.out.below hb4)
             obtain ⟨BA4, bc4, SA4, sc4, -, -, zz, -⟩ := H4.out.thing k _ (thL_get HK.out)
             obtain ⟨cs4, hcs4, -⟩ := H4.out.row
             have qf4 := blk_frozen hcs4 (k * 4 + 2)
             have HB4 := Lib.hid hb4
             have HR2 := Lib.hid hr2
             have HC2 := Lib.hid hc2
             clear hr2 hc2 hcs4 hb4 hob hown2 hg2 hat2))
    have h5 := H4.out.bytes k HK.out A2 k2 _ HR2.out HC2.out
    rw [List.length_append] at h5
    have H5 := Lib.hid h5
    clear h5
    go_wp2
    go_ret
    refine ⟨by rw [← E0.out]; rfl, HF0.out E0.out.symm _ ⟨b, H5.out, .inl rfl, ?_, ?_⟩⟩
    · exact Fz.set (HFZ.out.row HB4.out) b _ _ (.inr rfl)
    · exact (HLO.out.trans (HB4.out.mono (by have := H.out.base; have := H2.out.ltg; omega))).setCell H.out.base.2 _
end Go.Proofs.YtpdcjdangnfeiaaGreatDoor.Rc
end
