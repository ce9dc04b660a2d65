/- Rows: has a tree just these paths, kinds, bytes? Walked, where it has. -/
import Derived.Test.YtpdcjdangnfeiaaGreatDoorZs
section
open Go Go.Maps Go.RowKit Go.Proofs.YtpdcjdangnfeiaaGreatDoor.Pb Go.Proofs.YtpdcjdangnfeiaaGreatDoor.PPth Go.Proofs.YtpdcjdangnfeiaaGreatDoorW.PrintWords Go.Proofs.YtpdcjdangnfeiaaGreatDoorW.PrintLast Go.Proofs.YtpdcjdangnfeiaaGreatDoorW.PrintMore Go.Proofs.YtpdcjdangnfeiaaGreatDoor.Ta Go.Proofs.YtpdcjdangnfeiaaGreatDoor.Tb Go.Proofs.YtpdcjdangnfeiaaGreatDoor.Tc Go.Proofs.YtpdcjdangnfeiaaGreatDoor.Te Go.Proofs.YtpdcjdangnfeiaaGreatDoor.Tf Go.Proofs.YtpdcjdangnfeiaaGreatDoor.Qa Go.Proofs.YtpdcjdangnfeiaaGreatDoor.Qb Go.Proofs.YtpdcjdangnfeiaaGreatDoor.Qc Go.Proofs.YtpdcjdangnfeiaaGreatDoor.Qd Go.Proofs.YtpdcjdangnfeiaaGreatDoor.Qe Go.Proofs.YtpdcjdangnfeiaaGreatDoor.Qf Go.Proofs.YtpdcjdangnfeiaaGreatDoor.Ua Go.Proofs.YtpdcjdangnfeiaaGreatDoor.Ub Go.Proofs.YtpdcjdangnfeiaaGreatDoor.Uc Go.Proofs.YtpdcjdangnfeiaaGreatDoor.Ud Go.Proofs.YtpdcjdangnfeiaaGreatDoor.Ue Go.Proofs.YtpdcjdangnfeiaaGreatDoor.Uf Go.Proofs.YtpdcjdangnfeiaaGreatDoor.Ba Go.Proofs.YtpdcjdangnfeiaaGreatDoor.Ug Go.Proofs.YtpdcjdangnfeiaaGreatDoor.Uh Go.Proofs.YtpdcjdangnfeiaaGreatDoor.Ui Go.Proofs.YtpdcjdangnfeiaaGreatDoor.Uj Go.Proofs.YtpdcjdangnfeiaaGreatDoor.Uk Go.Proofs.YtpdcjdangnfeiaaGreatDoor.Ul Go.Proofs.YtpdcjdangnfeiaaGreatDoor.Um Go.Proofs.YtpdcjdangnfeiaaGreatDoor.Un Go.Proofs.YtpdcjdangnfeiaaGreatDoor.Uo Go.Proofs.YtpdcjdangnfeiaaGreatDoor.Up Go.Proofs.YtpdcjdangnfeiaaGreatDoor.Uq Go.Proofs.YtpdcjdangnfeiaaGreatDoor.Ur Go.Proofs.YtpdcjdangnfeiaaGreatDoor.Us Go.Proofs.YtpdcjdangnfeiaaGreatDoor.Ut Go.Proofs.YtpdcjdangnfeiaaGreatDoor.Uu Go.Proofs.YtpdcjdangnfeiaaGreatDoor.Uv Go.Proofs.YtpdcjdangnfeiaaGreatDoor.Uw Go.Proofs.YtpdcjdangnfeiaaGreatDoor.Ux Go.Proofs.YtpdcjdangnfeiaaGreatDoor.Uy Go.Proofs.YtpdcjdangnfeiaaGreatDoor.Uz Go.Proofs.YtpdcjdangnfeiaaGreatDoor.Va Go.Proofs.YtpdcjdangnfeiaaGreatDoor.Vb Go.Proofs.YtpdcjdangnfeiaaGreatDoor.Vc Go.Proofs.YtpdcjdangnfeiaaGreatDoor.Vd Go.Proofs.YtpdcjdangnfeiaaGreatDoor.Ve Go.Proofs.YtpdcjdangnfeiaaGreatDoor.Wa Go.Proofs.YtpdcjdangnfeiaaGreatDoor.Wb Go.Proofs.YtpdcjdangnfeiaaGreatDoor.Wc Go.Proofs.YtpdcjdangnfeiaaGreatDoor.Wd Go.Proofs.YtpdcjdangnfeiaaGreatDoor.We Go.Proofs.YtpdcjdangnfeiaaGreatDoor.Wg Go.Proofs.YtpdcjdangnfeiaaGreatDoor.Wi Go.Proofs.YtpdcjdangnfeiaaGreatDoor.Wm Go.Proofs.YtpdcjdangnfeiaaGreatDoor.Wp Go.Proofs.YtpdcjdangnfeiaaGreatDoor.Wq Go.Proofs.YtpdcjdangnfeiaaGreatDoor.Wr Go.Proofs.YtpdcjdangnfeiaaGreatDoor.Rd Go.Proofs.YtpdcjdangnfeiaaGreatDoor.Sg Go.Proofs.YtpdcjdangnfeiaaGreatDoor.Si
namespace Go.Proofs.YtpdcjdangnfeiaaGreatDoor.Sj
open Go.Proofs.YtpdcjdangnfeiaaGreatDoor.Rc (Rf Rf2 Gb Fz RS Tied Rel RR toRR OwnR)
theorem balloc (w : World) (o : Obj) : Below w.heap.size w (w.alloc o) := (Below.refl _ _).alloc (Nat.le_refl _) _
theorem act_name {Φ : Act → Prop} {a : Act} (h : ∀ T, T = a.tmps → Φ ⟨T, a.defers⟩) : Φ a := h _ rfl
theorem res28 {W : World} {tmps : Array Value} {b : Nat} {v : Bool} (h : tmps[4]? = some (.pointer (some ⟨b, 0, none⟩))) (hc : W.cell? ⟨b, 0, none⟩ = some (.bool v)) : (results Tryz.f28 tmps).run Tryz.prog W = .ok (.bool v) W := by
  simp [results, Tryz.results28, h, go_sem, hc]
/-- The loop's variable between two rounds. -/
structure LI (w10 : World) (s0 : Nat) (pre : List Row) (W : World) : Prop where
  c3 : W.heap[s0 + 3]? = some (.cells #[.int .i64 pre.length] 3 (0, 0))
  low : Below (s0 + 3) w10 W
theorem LI.own {w10 : World} {s0 B : Nat} (hB : s0 + 4 ≤ B) : OwnFrom B (fun pre W => LI w10 s0 pre W) := by
  rintro pre W W' row h hg hr
  have key : ∀ b o, W.heap[b]? = some o → b < B → W'.heap[b]? = some o := fun b _ hb hlt =>
    (hg.block b (Array.getElem?_eq_some_iff.1 hb).1 (fun e => by have h1 := (hr b e.symm).1; omega)).trans hb
  refine ⟨key _ _ h.c3 (by omega), h.low.trans ⟨hg.os, hg.tape, hg.output, hg.size, fun b hb => hg.block b (Nat.lt_of_lt_of_le hb ?_) (fun e => by obtain ⟨h1, -⟩ := hr b e.symm; omega)⟩⟩
  have := (Array.getElem?_eq_some_iff.1 h.c3).1
  omega
/-- The variable's block. -/
def X1 (s0 b : Nat) : Prop := b = s0 + 3
theorem LI.nob {w10 W : World} {s0 : Nat} {pre : List Row} (h : LI w10 s0 pre W) : ∀ b, X1 s0 b → NoB W b := by
  rintro b rfl
  exact noB_cells h.c3 (by simp)
theorem LI.kp {w10 W W' : World} {s0 : Nat} {pre : List Row} (h : LI w10 s0 pre W') (hs : W.heap.size ≤ W'.heap.size) (hk : ∀ b, b < W.heap.size → ¬ X1 s0 b → W'.heap[b]? = W.heap[b]?) : Kp (X1 s0) W W' :=
  ⟨hs, fun b o hb hx _ => (hk b (Array.getElem?_eq_some_iff.1 hb).1 hx).trans hb, fun b hx _ _ => h.nob b hx⟩
theorem LI.step {w10 W W1 : World} {s0 : Nat} {pre : List Row} (h : LI w10 s0 pre W) (hb : Below W.heap.size W W1) (x : Row) : LI w10 s0 (pre ++ [x]) (W1.setCell ⟨s0 + 3, 0, none⟩ (.int .i64 ((pre.length : Int) + 1))) := by
  have hc := (hb.block _ (Array.getElem?_eq_some_iff.1 h.c3).1).trans h.c3
  refine ⟨(blk_set hc 0 _).trans ?_, (h.low.trans (hb.mono ?_)).setCell (Nat.le_refl _) _⟩
  · rw [List.length_append, List.length_singleton]; rfl
  · have := (Array.getElem?_eq_some_iff.1 h.c3).1; omega
theorem ko_below {W W' : World} (hb : Below W.heap.size W W') : KeepsOthers W W' := ⟨hb.size, fun k o h _ => (hb.block k (Array.getElem?_eq_some_iff.1 h).1).trans h⟩
theorem fin_ok {w10 W W1 : World} {s0 B : Nat} {pre : List Row} {x : Row} {u : Value} (h : LI w10 s0 (pre ++ [x]) (W1.setCell ⟨s0 + 1 + 1 + 1, 0, none⟩ u)) (hb : Below W.heap.size W W1) : KeepsFrom B W (W1.setCell ⟨s0 + 1 + 1 + 1, 0, none⟩ u) ∧ Kp (X1 s0) W (W1.setCell ⟨s0 + 1 + 1 + 1, 0, none⟩ u) ∧ LI w10 s0 (pre ++ [x]) (W1.setCell ⟨s0 + 1 + 1 + 1, 0, none⟩ u) :=
  ⟨((ko_below hb).trans (KeepsOthers.setCell _ _ _)).from _, h.kp (by simpa [World.setCell] using hb.size) (fun b hlt hx => (Below.heap_setCell _ _ _ b (fun e => hx (show b = s0 + 3 from e))).trans (hb.block b hlt)), h⟩
/-- A row of the tree is the document's. -/
def Good (es : Es) (X : List RR) (k : Nat) (x : Row) : Prop := ∀ y, X[k]? = some y → x.1 = y.p ∧ (x.2.dir = y.dir ∧ x.2.data.length = y.sz ∧ x.2.k = y.kids) ∧ (x.2.dir = false → x.1.size ≤ 256 → (rdE (lk es x.1)).2 = 0 → (rdE (lk es x.1)).1 = y.b)
theorem good_of {w : World} {B tb n i m : Nat} {es : Es} (h : St w B tb es n i m) {R : List Row} {X : List RR} (hR : RowsOf es R) (hX : X = R.map toRR) {pre : List Row} {x : Row} (hp : pre ++ [x] <+: R) : Good es X pre.length x := by
  intro y hy
  obtain ⟨r, hr⟩ := hp
  have hx : R[pre.length]? = some x := by rw [← hr]; simp
  rw [hX, List.getElem?_map, hx] at hy
  simp only [Option.map_some, Option.some.injEq] at hy
  subst hy
  exact ⟨rfl, ⟨rfl, rfl, rfl⟩, fun hd _ he => read_row h hR (List.mem_of_getElem? hx) hd he⟩
theorem eqB {a b : ByteArray} : (a.toList == b.toList) = decide (a = b) := by
  by_cases h : a = b
  · subst h; simp
  · have : a.toList ≠ b.toList := fun e => h (Rb.ba_eq.1 e)
    simp [h, this]
attribute [local go_sem high] Rc.eqA76
set_option maxHeartbeats 8000000 in
set_option maxRecDepth 1000000 in
theorem rowsT_any {w : World} {B tb n i m : Nat} {es : Es} (q : Int) (h : St w B tb es n i m) (hB : 0 < B) (hm : m ≤ 2000) (hes : es.length ≤ 41) (hq : w.cell? ⟨0, 0, none⟩ = some (.int .i64 q)) {base : Nat} {v : Value} {X : List RR} (hX : OwnR w base v X) (hxr : ∀ R, RowsOf es R → X = R.map toRR) :
    Calls Tryz.prog 28 #[.pointer (some ⟨tb, 0, none⟩), v] w fun e w' => e = .returned (.bool true) ∧ Below w.heap.size w w' := by
  obtain ⟨A, c, rfl⟩ := hX.slice
  obtain ⟨nx, hnx⟩ : ∃ k, X.length = k := ⟨_, rfl⟩
  rw [hnx]
  have hwk : ∀ W, Below w.heap.size w W → Calls Tryz.prog 58 #[.pointer (some ⟨tb, 0, none⟩)] W (WalkPost2 W es) := fun W hb => walk_any2 (h.below hb) hm hes
  have H := Lib.hid h
  have HX := Lib.hid hX
  have HXR := Lib.hid hxr
  have HNX := Lib.hid hnx
  have HQ := Lib.hid hq
  have HWK := Lib.hid hwk
  clear h hX hxr hnx hq hwk
  refine (callsIn_wide (n := 5)).1 ?_
  refine callsIn_of_wp_marks Tryz.func28 rfl trivial ?_ rfl
  simp only [Tryz.ntmps28, List.size_toArray, List.length_cons, List.length_nil, Nat.reduceAdd, Nat.reduceSub, Array.replicate_succ, Array.replicate_zero, List.push_toArray, List.append_toArray, List.nil_append, List.cons_append]
  refine (wpIn_wide (n := 5)).2 ?_
  go_wp2_with fail
  have hbX : Below w.heap.size w ((((w.alloc (Obj.cells #[.pointer (some ⟨tb, 0, none⟩)] 25)).alloc (Obj.cells #[.slice A nx c] 73)).alloc (Obj.cells #[.bool false] 4)).alloc (Obj.cells #[.int .i64 0] 3)) := (((balloc w _).alloc (by simp) _).alloc (by simp; omega) _).alloc (by simp; omega) _
  refine (HWK.out _ hbX).mono ?_
  rintro e w10 ⟨nb, bt, fs, R, rfl, hcb, hwok, hRl, hRof, hb10⟩
  obtain ⟨s0, hs0⟩ : ∃ s0, w.heap.size = s0 := ⟨_, rfl⟩
  obtain ⟨w9, hw9⟩ : ∃ w9, (((w.alloc (Obj.cells #[.pointer (some ⟨tb, 0, none⟩)] 25)).alloc (Obj.cells #[.slice A nx c] 73)).alloc (Obj.cells #[.bool false] 4)).alloc (Obj.cells #[.int .i64 0] 3) = w9 := ⟨_, rfl⟩
  rw [hw9] at hbX hwok hb10
  have hs9 : w9.heap.size = s0 + 4 := by rw [← hw9, ← hs0]; simp
  have c0 : w9.heap[s0]? = some (.cells #[.pointer (some ⟨tb, 0, none⟩)] 25 (0, 0)) := by
    rw [← hw9, ← hs0]
    exact blk_alloc (blk_alloc (blk_alloc (Go.heap_alloc_new w _) _) _) _
  have c1 : w9.heap[s0 + 1]? = some (.cells #[.slice A nx c] 73 (0, 0)) := by
    rw [← hw9, ← hs0]
    have h1 := Go.heap_alloc_new (w.alloc (Obj.cells #[.pointer (some ⟨tb, 0, none⟩)] 25)) (Obj.cells #[.slice A nx c] 73)
    rw [World.size_alloc] at h1
    exact blk_alloc (blk_alloc h1 _) _
  have c2 : w9.heap[s0 + 2]? = some (.cells #[.bool false] 4 (0, 0)) := by
    rw [← hw9, ← hs0]
    have h1 := Go.heap_alloc_new ((w.alloc (Obj.cells #[.pointer (some ⟨tb, 0, none⟩)] 25)).alloc (Obj.cells #[.slice A nx c] 73)) (Obj.cells #[.bool false] 4)
    rw [World.size_alloc, World.size_alloc] at h1
    exact blk_alloc h1 _
  have c3 : w9.heap[s0 + 3]? = some (.cells #[.int .i64 0] 3 (0, 0)) := by
    rw [← hw9, ← hs0]
    have h1 := Go.heap_alloc_new (((w.alloc (Obj.cells #[.pointer (some ⟨tb, 0, none⟩)] 25)).alloc (Obj.cells #[.slice A nx c] 73)).alloc (Obj.cells #[.bool false] 4)) (Obj.cells #[.int .i64 0] 3)
    rw [World.size_alloc, World.size_alloc, World.size_alloc] at h1
    exact h1
  rw [hs9] at hwok
  have C0 := Lib.hid ((hb10.block s0 (by rw [hs9]; omega)).trans c0)
  have C1 := Lib.hid ((hb10.block (s0 + 1) (by rw [hs9]; omega)).trans c1)
  have C2 := Lib.hid ((hb10.block (s0 + 2) (by rw [hs9]; omega)).trans c2)
  have C3 := Lib.hid ((hb10.block (s0 + 3) (by rw [hs9]; omega)).trans c3)
  have HWOK := Lib.hid hwok
  have HCB := Lib.hid hcb
  have HRL := Lib.hid hRl
  have HROF := Lib.hid hRof
  have HBX := Lib.hid (show Below s0 w w10 from hs0 ▸ hbX.trans (hb10.mono (by rw [hs9, ← hs0]; omega)))
  have HSZ := Lib.hid (show s0 + 4 ≤ w10.heap.size by have := hb10.size; rw [hs9] at this; exact this)
  have HS0 := Lib.hid hs0
  have hxl : R.length = nx := by
    have := HXR.out R hRof
    rw [← HNX.out, this, List.length_map]
  have HXL := Lib.hid hxl
  clear hbX hcb hwok hRl hRof hb10 hw9 hs9 c0 c1 c2 c3 hxl
  rw [hs0]
  clear hs0
  go_wp2_with fail
  have hli0 : LI w10 s0 [] w10 := ⟨C3.out, Below.refl _ _⟩
  have hstops := walk_stops (n := 4) HWOK.out HCB.out (X := X1 s0) (fun b hb => by cases hb; omega) hli0.nob
  refine (wpIn_wide (n := 5)).1 ?_
  refine act_name (Φ := fun a => Code.wpIn Fence.wide 5 Tryz.prog _ _ a _) ?_
  intro T hT
  dsimp only at hT ⊢
  refine wpIn_rangeFunc_ownH rfl (by omega) (gf := 86) (lb := #[.pointer (some ⟨bt, 0, none⟩)]) (by rw [hT]; rfl) trivial (enters_of Tryz.func86 (by kernel_rfl) rfl) hstops (fun h k => Kp.trans h k) ?hKb (Below.refl _ _) (fun x => rfl)
    (fun pre W => LI w10 s0 pre W) (fun _ pre _ => ∃ (pre0 : List Row) (x : Row), pre = pre0 ++ [x] ∧ ¬ Good es X pre0.length x) (LI.own HSZ.out) (fun _ _ _ _ _ h _ _ => h) hli0
    (fun x a' W => ∃ b14, w10.heap.size ≤ b14 ∧ W.heap[b14]? = some (.cells #[.bool x.2.dir, .int .i64 x.2.data.length, .int .i64 x.2.k] 121 (0, 0)) ∧ a' = ⟨(((T.setIfInBounds 12 (.string x.1)).setIfInBounds 13 (.agg #[.bool x.2.dir, .int .i64 x.2.data.length, .int .i64 x.2.k])).setIfInBounds 6 (.string x.1)).setIfInBounds 7 (.pointer (some ⟨b14, 0, none⟩)), []⟩) ?hAx ?assign ?body ?done ?stop
  case hKb =>
    intro W l' o o' hl hlo ho hwk
    refine ⟨by simp [World.putObj], fun b ob hb hx hob => ?_, fun b hx hb hn => ?_⟩
    · by_cases e : b = l'
      · subst e
        rw [hlo] at hb
        cases hb
        rw [ho, hwk] at hob
        simp at hob
      · exact (World.putObj_heap_other e).trans hb
    · have hne : b ≠ l' := by
        have := HSZ.out
        cases hx
        omega
      exact nob_heap (World.putObj_heap_other hne) hn
  case hAx =>
    rintro x a' u W W' row ⟨b14, h1, h2, h3⟩ hg hr
    refine ⟨b14, h1, (hg.block b14 (Array.getElem?_eq_some_iff.1 h2).1 (fun e => ?_)).trans h2, h3⟩
    obtain ⟨-, o, ho, hc⟩ := hr b14 e.symm
    rw [h2] at ho
    cases ho
    cases hc
  case assign =>
    intro l' pre x W K hI hK
    have hsem := @Oper.semAt_some
    have hkf := fun a' (h : a' = _) => hK a' _ ((KeepsOthers.alloc W (.cells #[.bool x.2.dir, .int .i64 x.2.data.length, .int .i64 x.2.k] 121)).from _) (Kp.below (balloc W _))
      ((LI.own HSZ.out).alloc _ hI) ⟨W.heap.size, hI.low.size, Go.heap_alloc_new _ _, h⟩
    have HKF := Lib.hid hkf
    have HT := Lib.hid hT
    clear hK hkf
    rw [hT]
    obtain ⟨bd, hbd⟩ : ∃ bd, x.2.dir = bd := ⟨_, rfl⟩
    simp only [encR]
    gi_wp2
    rw [← hbd]
    exact HKF.out _ (by rw [HT.out]; rfl)
  case body =>
    rintro l' pre x a' W hl' hrec hli ⟨b14, hb14, hc14, rfl⟩ hlen
    have hsem := @Oper.semAt_some
    have hlt : pre.length < nx := by rw [← HXL.out]; exact hlen
    obtain ⟨y, hy⟩ : ∃ y, X[pre.length]? = some y := ⟨X[pre.length]'(by rw [HNX.out]; exact hlt), List.getElem?_eq_getElem _⟩
    obtain ⟨qx, cx, e1, -, hqlt, hcx⟩ := HX.out.open (by rw [HNX.out]; omega)
    simp only [Value.slice.injEq] at e1
    obtain ⟨rfl, -, rfl⟩ := e1
    obtain ⟨p0, p1, p2, p3, p4⟩ := hcx _ y hy
    have hbW : Below w.heap.size w W := by rw [HS0.out]; exact HBX.out.trans (hli.low.mono (by omega))
    have pp0 := keepC hbW p0
    have pp1 := keepC hbW p1
    have pp2 := keepC hbW p2
    have pp3 := keepC hbW p3
    have pp4 := keepC hbW p4
    clear p0 p1 p2 p3 p4
    have low := fun b (hb : b < s0 + 3) => hli.low.block b (by have := HSZ.out; exact hb)
    have h0 := (low s0 (by omega)).trans C0.out
    have h1 := (low (s0 + 1) (by omega)).trans C1.out
    have h2 := (low (s0 + 2) (by omega)).trans C2.out
    have h3 := hli.c3
    obtain ⟨k, hk⟩ : ∃ k, pre.length = k := ⟨_, rfl⟩
    rw [hk] at hlt hy pp0 pp1 pp2 pp3 pp4 h3
    have k0 : W.cell? ⟨s0, 0, none⟩ = some (.pointer (some ⟨tb, 0, none⟩)) := blk_cell h0 0
    have k1 : W.cell? ⟨s0 + 1, 0, none⟩ = some (.slice (some ⟨qx, 0, none⟩) nx c) := blk_cell h1 0
    have k2 : W.cell? ⟨s0 + 1 + 1, 0, none⟩ = some (.bool false) := blk_cell h2 0
    have f2 : W.frozen? ⟨s0 + 1 + 1, 0, none⟩ = false := blk_frozen h2 0
    have k3 : W.cell? ⟨s0 + 1 + 1 + 1, 0, none⟩ = some (.int .i64 k) := blk_cell h3 0
    have f3 : W.frozen? ⟨s0 + 1 + 1 + 1, 0, none⟩ = false := blk_frozen h3 0
    have v0 : W.cell? ⟨b14, 0, none⟩ = some (.bool x.2.dir) := blk_cell hc14 0
    have v1 : W.cell? ⟨b14, 1, none⟩ = some (.int .i64 x.2.data.length) := blk_cell hc14 1
    have v2 : W.cell? ⟨b14, 2, none⟩ = some (.int .i64 x.2.k) := blk_cell hc14 2
    have j1 : (k : Int) < nx := by omega
    have j2 : ¬ (nx : Int) ≤ k := by omega
    have j3 : (0 : Int) ≤ (k : Int) := by omega
    have HLI := Lib.hid hli
    have HT := Lib.hid hT
    have HK := Lib.hid hk
    have HY := Lib.hid hy
    have HBW := Lib.hid hbW
    obtain ⟨xt, hxt⟩ : ∃ xt, x.1 = xt := ⟨_, rfl⟩
    obtain ⟨xd, hxd⟩ : ∃ z, x.2.dir = z := ⟨_, rfl⟩
    obtain ⟨xn, hxn⟩ : ∃ z, x.2.data.length = z := ⟨_, rfl⟩
    obtain ⟨xk, hxk⟩ : ∃ z, x.2.k = z := ⟨_, rfl⟩
    have HXT := Lib.hid hxt
    have HXD := Lib.hid hxd
    have HXN := Lib.hid hxn
    have HXK := Lib.hid hxk
    rw [hxd] at v0
    rw [hxn] at v1
    rw [hxk] at v2
    rw [hxt, hxd, hxn, hxk]
    rw [hT]
    simp only [List.setIfInBounds_toArray, List.set_cons_succ, List.set_cons_zero]
    obtain ⟨yp, yd, yz, yk, yb⟩ := y
    dsimp only at pp0 pp1 pp2 pp3 pp4
    have HG := Lib.hid (show Good es X pre.length x → xt = yp ∧ (xd = yd ∧ xn = yz ∧ xk = yk) ∧ (xd = false → xt.size ≤ 256 → (rdE (lk es xt)).2 = 0 → (rdE (lk es xt)).1 = yb) from fun hg => by
      have := hg _ (by rw [hk]; exact hy)
      rw [hxt, hxd, hxn, hxk] at this
      exact this)
    have HX9 := Lib.hid (show ∀ W', Below W.heap.size W W' → LI w10 s0 (pre ++ [x]) (W'.setCell ⟨s0 + 1 + 1 + 1, 0, none⟩ (.int .i64 ((k : Int) + 1))) from fun W' hb => by have := hli.step hb x; rw [hk] at this; exact this)
    have j5 : IntKind.i64.wrap ((k : Int) + 1) = (k : Int) + 1 := by rw [IntKind.wrap_i64]; have := HRL.out; have := HXL.out; omega
    have j6 : ¬ nx ≤ k := by omega
    clear hli hT hlen hrec hl' hc14 hcx hbW low h0 h1 h2 h3 hxt hxd hxn hxk hk hy
    by_cases e1 : xt = yp
    case neg =>
      have he : (xt.toList == yp.toList) = false := by rw [eqB]; exact decide_eq_false e1
      gi_wp2_with fail
      refine Sr.round_quiet (by kernel_rfl) (by kernel_rfl) (by kernel_rfl) ?_
      repeat (quiet_step_in (fail))
      refine wpQuietIn_nil ?_
      intro _ hw9
      obtain ⟨nq, hw9⟩ := hw9
      subst hw9
      gi_wp2
      exact ⟨((ko_below (bdraw W nq)).trans (KeepsOthers.setCell _ _ _)).from _, pre, x, rfl, fun hg => e1 (HG.out hg).1⟩
    case pos =>
      subst e1
      by_cases d1 : xd = yd
      case neg =>
        have hb : (xd == yd) = false := by rw [beq_eq_false_iff_ne]; exact d1
        gi_wp2_with fail
        refine Sr.round_quiet (by kernel_rfl) (by kernel_rfl) (by kernel_rfl) ?_
        repeat (quiet_step_in (fail))
        refine wpQuietIn_nil ?_
        intro _ hw9
        obtain ⟨nq, hw9⟩ := hw9
        subst hw9
        gi_wp2
        exact ⟨((ko_below (bdraw W nq)).trans (KeepsOthers.setCell _ _ _)).from _, pre, x, rfl, fun hg => d1 (HG.out hg).2.1.1⟩
      subst d1
      by_cases d2 : xn = yz
      case neg =>
        have hb : ((xn : Int) == (yz : Int)) = false := by rw [beq_eq_false_iff_ne]; omega
        gi_wp2_with fail
        refine Sr.round_quiet (by kernel_rfl) (by kernel_rfl) (by kernel_rfl) ?_
        repeat (quiet_step_in (fail))
        refine wpQuietIn_nil ?_
        intro _ hw9
        obtain ⟨nq, hw9⟩ := hw9
        subst hw9
        gi_wp2
        exact ⟨((ko_below (bdraw W nq)).trans (KeepsOthers.setCell _ _ _)).from _, pre, x, rfl, fun hg => d2 (HG.out hg).2.1.2.1⟩
      subst d2
      by_cases d3 : xk = yk
      case neg =>
        have hb : ((xk : Int) == (yk : Int)) = false := by rw [beq_eq_false_iff_ne]; omega
        gi_wp2_with fail
        refine Sr.round_quiet (by kernel_rfl) (by kernel_rfl) (by kernel_rfl) ?_
        repeat (quiet_step_in (fail))
        refine wpQuietIn_nil ?_
        intro _ hw9
        obtain ⟨nq, hw9⟩ := hw9
        subst hw9
        gi_wp2
        exact ⟨((ko_below (bdraw W nq)).trans (KeepsOthers.setCell _ _ _)).from _, pre, x, rfl, fun hg => d3 (HG.out hg).2.1.2.2⟩
      case pos =>
        subst d3
        gi_wp2_with fail
        refine Sr.round_quiet (by kernel_rfl) (by kernel_rfl) (by kernel_rfl) ?_
        repeat (quiet_step_in (fail))
        refine wpQuietIn_nil ?_
        intro _ hw9
        obtain ⟨nq, hw9⟩ := hw9
        subst hw9
        cases xd with
        | true =>
          gi_wp2
          exact fin_ok (HX9.out _ (bdraw W nq)) (bdraw W nq)
        | false =>
        have hqW : (W.drewN nq).cell? ⟨0, 0, none⟩ = some (.int .i64 q) := keepC (HBW.out.trans ((bdraw W nq).mono HBW.out.size)) HQ.out
        by_cases e3 : xt.size ≤ 256
        case neg =>
          have e3' : ¬ (xt.size : Int) ≤ 256 := by omega
          gi_wp2
          exact fin_ok (HX9.out _ (bdraw W nq)) (bdraw W nq)
        case pos =>
          have e3' : (xt.size : Int) ≤ 256 := by omega
          have hrd := read_any q xt (H.out.below (HBW.out.trans ((bdraw W nq).mono HBW.out.size))) hqW
          obtain ⟨dl, hdl⟩ : ∃ z, (rdE (lk es xt)).1 = z := ⟨_, rfl⟩
          obtain ⟨E, hE⟩ : ∃ z, (rdE (lk es xt)).2 = z := ⟨_, rfl⟩
          rw [hdl, hE] at hrd
          have HG2 := Lib.hid (show Good es X pre.length x → E = 0 → dl = yb from fun hg h0 => by rw [← hdl]; exact (HG.out hg).2.2 rfl e3 (by rw [hE]; exact h0))
          obtain ⟨ln, hln⟩ : ∃ z, dl.length = z := ⟨_, rfl⟩
          have HLN := Lib.hid hln
          have HRD := Lib.hid hrd
          clear hrd hdl hE hln
          gi_wp2_with fail
          refine ⟨trivial, (CallsIn.inRound l' (callsIn_wide.2 HRD.out)).mono ?_⟩
          rintro e w2 ⟨Ab, cb, rfl, hrb, hb2⟩
          have HB2 := Lib.hid (show Below W.heap.size W w2 from (bdraw W nq).trans (hb2.mono (bdraw W nq).size))
          have HRB := Lib.hid hrb
          have q1 := keepC HB2.out k1
          have q3 := keepC HB2.out k3
          have q3f : w2.frozen? ⟨s0 + 1 + 1 + 1, 0, none⟩ = false := (World.frozen?_of_block (HB2.out.block _ (World.block_lt_of_cell? W _ k3))).trans f3
          have q2 := keepC HB2.out k2
          have q2f : w2.frozen? ⟨s0 + 1 + 1, 0, none⟩ = false := (World.frozen?_of_block (HB2.out.block _ (World.block_lt_of_cell? W _ k2))).trans f2
          have q5 := keepC HB2.out pp4
          have hcv : ∀ n, (convert 33 9 (.slice Ab dl.length cb)).run Tryz.prog (w2.drewN n) = .ok (.string (Qa.tb dl)) (w2.drewN n) := fun n => Rc.rdB_text (HRB.out.below (bdraw w2 n)) cb
          rw [HLN.out] at hcv ⊢
          clear hrb hb2 k0 k1 k2 k3 f2 f3 v0 v1 v2 pp0 pp1 pp2 pp3 pp4 hqW
          have HBN := Lib.hid (fun n => HB2.out.trans ((bdraw w2 n).mono HB2.out.size))
          by_cases cE : E = 0
          case neg =>
            have hbE : (E == 0) = false := by rw [beq_eq_false_iff_ne]; exact cE
            gi_wp2_with fail
            refine Sr.round_quiet (by kernel_rfl) (by kernel_rfl) (by kernel_rfl) ?_
            repeat (quiet_step_in (fail))
            refine wpQuietIn_nil ?_
            intro _ hw9
            obtain ⟨nr, hw9⟩ := hw9
            subst hw9
            gi_wp2
            exact fin_ok (HX9.out _ (HBN.out nr)) (HBN.out nr)
          subst cE
          by_cases cB : dl = yb
          case neg =>
            have he2 : ((Qa.tb dl).toList == (Qa.tb yb).toList) = false := by
              rw [eqB]
              refine decide_eq_false (fun e => cB ?_)
              have := congrArg (fun z : ByteArray => z.data.toList) e
              simpa [tb_data] using this
            gi_wp2_with fail
            refine Sr.round_quiet (by kernel_rfl) (by kernel_rfl) (by kernel_rfl) ?_
            repeat (quiet_step_in (fail))
            refine wpQuietIn_nil ?_
            intro _ hw9
            obtain ⟨nr, hw9⟩ := hw9
            subst hw9
            gi_wp2
            exact ⟨((ko_below (HBN.out nr)).trans (KeepsOthers.setCell _ _ _)).from _, pre, x, rfl, fun hg => cB (HG2.out hg (by trivial))⟩
          case pos =>
            subst cB
            gi_wp2_with fail
            refine Sr.round_quiet (by kernel_rfl) (by kernel_rfl) (by kernel_rfl) ?_
            repeat (quiet_step_in (fail))
            refine wpQuietIn_nil ?_
            intro _ hw9
            obtain ⟨nr, hw9⟩ := hw9
            subst hw9
            gi_wp2
            exact fin_ok (HX9.out _ (HBN.out nr)) (HBN.out nr)
  case stop =>
    rintro D c' pre W _ hsp ⟨pre0, x, rfl, hx⟩ _
    exact absurd (good_of H.out HROF.out (HXR.out R HROF.out) hsp) hx
  case done =>
    rintro D xs W hD rfl hli hdef
    subst hT
    dsimp only
    have hc3 := hli.c3
    rw [HXL.out] at hc3
    have low := fun b (hb : b < s0 + 3) => hli.low.block b (by have := HSZ.out; exact hb)
    have h1 := (low (s0 + 1) (by omega)).trans C1.out
    have h2 := (low (s0 + 2) (by omega)).trans C2.out
    have k1 : W.cell? ⟨s0 + 1, 0, none⟩ = some (.slice A nx c) := blk_cell h1 0
    have k2 : W.cell? ⟨s0 + 1 + 1, 0, none⟩ = some (.bool false) := blk_cell h2 0
    have f2 : W.frozen? ⟨s0 + 1 + 1, 0, none⟩ = false := blk_frozen h2 0
    have k3 : W.cell? ⟨s0 + 1 + 1 + 1, 0, none⟩ = some (.int .i64 nx) := blk_cell hc3 0
    have HW2 := Lib.hid h2
    have HLI := Lib.hid hli
    have HDEF := Lib.hid hdef
    have HDD := Lib.hid hD
    clear hc3 low h1 h2 hli hdef hD
    go_wp2_with fail
    have hDne : D ≠ s0 + 1 + 1 := by have := HDD.out; have := HSZ.out; omega
    have hD13 : (W.setCell ⟨s0 + 1 + 1, 0, none⟩ (.bool true)).heap[D]? = some (.deferred (some [])) := (Below.heap_setCell W ⟨s0 + 1 + 1, 0, none⟩ (.bool true) D hDne).trans HDEF.out
    have hcr : ((W.setCell ⟨s0 + 1 + 1, 0, none⟩ (.bool true)).putObj D (.deferred none)).cell? ⟨s0 + 1 + 1, 0, none⟩ = some (.bool true) :=
      blk_cell ((World.putObj_heap_other (fun e => hDne e.symm)).trans (blk_set HW2.out 0 (.bool true))) 0
    have hlow : Below w.heap.size w ((W.setCell ⟨s0 + 1 + 1, 0, none⟩ (.bool true)).putObj D (.deferred none)) := by
      rw [HS0.out]
      have h1 : Below s0 w W := HBX.out.trans (HLI.out.low.mono (by omega))
      have h3 : Below s0 w (W.setCell ⟨s0 + 1 + 1, 0, none⟩ (.bool true)) := h1.setCell (by show s0 ≤ s0 + 1 + 1; omega) _
      exact h3.grown (grownBy_putObj' _ D (.deferred none)) (by have := HDD.out; have := HSZ.out; have := (Array.getElem?_eq_some_iff.1 hD13).1; omega) (fun k e => by cases e; have := HDD.out; have := HSZ.out; omega)
    exact ⟨by simp, .inl ⟨_, _, rfl, run_takeDeferred hD13, ⟨_, res28 rfl hcr, rfl, hlow⟩⟩⟩
end Go.Proofs.YtpdcjdangnfeiaaGreatDoor.Sj
end
