/- bytes.Equal; maps.EqualFunc of two nil maps; same over one node. -/
import Derived.Test.YtpdcjdangnfeiaaDoorWa
namespace Go.Proofs.YtpdcjdangnfeiaaDoor.Wb
open Go Go.Maps Go.RowKit Go.Proofs.YtpdcjdangnfeiaaDoor.Pb Go.Proofs.YtpdcjdangnfeiaaDoor.PPth Go.Proofs.YtpdcjdangnfeiaaDoorW.PrintWords Go.Proofs.YtpdcjdangnfeiaaDoorW.PrintLast Go.Proofs.YtpdcjdangnfeiaaDoorW.PrintMore Go.Proofs.YtpdcjdangnfeiaaDoor.Ta Go.Proofs.YtpdcjdangnfeiaaDoor.Tb Go.Proofs.YtpdcjdangnfeiaaDoor.Tc Go.Proofs.YtpdcjdangnfeiaaDoor.Te Go.Proofs.YtpdcjdangnfeiaaDoor.Tf Go.Proofs.YtpdcjdangnfeiaaDoor.Qa Go.Proofs.YtpdcjdangnfeiaaDoor.Qb Go.Proofs.YtpdcjdangnfeiaaDoor.Qc Go.Proofs.YtpdcjdangnfeiaaDoor.Qd Go.Proofs.YtpdcjdangnfeiaaDoor.Qe Go.Proofs.YtpdcjdangnfeiaaDoor.Qf Go.Proofs.YtpdcjdangnfeiaaDoor.Ua Go.Proofs.YtpdcjdangnfeiaaDoor.Ub Go.Proofs.YtpdcjdangnfeiaaDoor.Uc Go.Proofs.YtpdcjdangnfeiaaDoor.Ud Go.Proofs.YtpdcjdangnfeiaaDoor.Ue Go.Proofs.YtpdcjdangnfeiaaDoor.Uf Go.Proofs.YtpdcjdangnfeiaaDoor.Ba Go.Proofs.YtpdcjdangnfeiaaDoor.Ug Go.Proofs.YtpdcjdangnfeiaaDoor.Uh Go.Proofs.YtpdcjdangnfeiaaDoor.Ui Go.Proofs.YtpdcjdangnfeiaaDoor.Uj Go.Proofs.YtpdcjdangnfeiaaDoor.Uk Go.Proofs.YtpdcjdangnfeiaaDoor.Ul Go.Proofs.YtpdcjdangnfeiaaDoor.Um Go.Proofs.YtpdcjdangnfeiaaDoor.Un Go.Proofs.YtpdcjdangnfeiaaDoor.Uo Go.Proofs.YtpdcjdangnfeiaaDoor.Up Go.Proofs.YtpdcjdangnfeiaaDoor.Uq Go.Proofs.YtpdcjdangnfeiaaDoor.Ur Go.Proofs.YtpdcjdangnfeiaaDoor.Us Go.Proofs.YtpdcjdangnfeiaaDoor.Ut Go.Proofs.YtpdcjdangnfeiaaDoor.Uu Go.Proofs.YtpdcjdangnfeiaaDoor.Uv Go.Proofs.YtpdcjdangnfeiaaDoor.Uw Go.Proofs.YtpdcjdangnfeiaaDoor.Ux Go.Proofs.YtpdcjdangnfeiaaDoor.Uy Go.Proofs.YtpdcjdangnfeiaaDoor.Uz Go.Proofs.YtpdcjdangnfeiaaDoor.Va Go.Proofs.YtpdcjdangnfeiaaDoor.Vb Go.Proofs.YtpdcjdangnfeiaaDoor.Vc Go.Proofs.YtpdcjdangnfeiaaDoor.Vd Go.Proofs.YtpdcjdangnfeiaaDoor.Ve Go.Proofs.YtpdcjdangnfeiaaDoor.Wa
theorem beq_text (x y : ByteArray) : (x.toList == y.toList) = decide (x = y) := by
  by_cases h : x = y
  · subst h; simp
  · have : ¬ x.toList = y.toList := fun e => h (tl_inj.1 (by rw [ByteArray.toList_eq, ByteArray.toList_eq] at e; exact e))
    simp [h, this]
set_option maxHeartbeats 1000000 in
set_option maxRecDepth 100000 in
theorem equal_bytes (A B : Option Addr) (c d : Nat) (l m : List UInt8) (w : World) (ha : RdB w A l) (hb : RdB w B m) : Calls Tryd.prog 44 #[.slice A l.length c, .slice B m.length d] w fun e w' => e = .returned (.bool (decide (l = m))) ∧ w' = w := by
  have t1 := ha.text c
  have t2 := hb.text d
  have he : (decide (l = m)) = decide (Qa.tb l = Qa.tb m) := by
    by_cases h : l = m
    · subst h; simp
    · have : ¬ Qa.tb l = Qa.tb m := fun e => h (by rw [← tl_tb l, ← tl_tb m, e])
      simp [h, this]
  rw [he]
  obtain ⟨x, hx⟩ : ∃ x, Qa.tb l = x := ⟨_, rfl⟩
  obtain ⟨y, hy⟩ : ∃ y, Qa.tb m = y := ⟨_, rfl⟩
  rw [hx] at t1 ⊢
  rw [hy] at t2 ⊢
  clear he hx hy ha hb
  go_enter Tryd.func44, Tryd.ntmps44
  go_wp2
  go_ret
  exact ⟨by rw [beq_text]; rfl, rfl⟩
set_option maxHeartbeats 1000000 in
set_option maxRecDepth 100000 in
theorem equal_nil (w : World) : Calls Tryd.prog 45 #[.map none, .map none, .func (.func 30) #[] #[]] w fun e w' => e = .returned (.bool true) ∧ w.grownBy w' none := by
  have l1 := fun ty => Maps.len_nil (w := w) Tryd.underlying65 ty
  have r1 := run_range_nilMap w 65 9 56 Tryd.underlying65
  have r2 := fun ty => run_next_nilMap (P := Tryd.prog) w ty 0 0 #[]
  go_enter Tryd.func45, Tryd.ntmps45
  go_wp2_with fail
  go_loopw [18] (fun _ wr => wr = w.alloc (.mapIter none 0 #[] 0)) (fun _ _ => 0)
  case atStart => rfl
  case round =>
    subst hrel
    go_wp2
    go_ret
    exact ⟨rfl, World.grownBy_alloc w _ none⟩
theorem held_of {T : World → Prop} {w W : World} (h : Below w.heap.size w W ∧ T W) : w.grownBy W none := ⟨h.1.os, h.1.tape, h.1.output, h.1.size, fun k hk _ => h.1.block k hk⟩
theorem grown_drew (w : World) (n : Nat) : w.grownBy (w.drewN n) none := held_of (T := fun _ => True) ⟨bdraw w n, trivial⟩
def sameN (eqd : DataW Nat → DataW Nat → Bool) (s1 s2 : Sh) : Bool := decide (s1.dir = s2.dir) && decide (s1.data = s2.data) && (if s1.dir then Lib.equalFuncD eqd s1.D s2.D else true)
theorem kids_file {s : Sh} (h : s.dir = false) : kidsV s = .map none := by unfold kidsV; rw [if_neg (by simp [h])]
theorem kids_dir {s : Sh} (h : s.dir = true) : kidsV s = .map (some s.mb) := by unfold kidsV; rw [if_pos h]
set_option maxHeartbeats 2000000 in
set_option maxRecDepth 100000 in
theorem same_node (eqd : DataW Nat → DataW Nat → Bool) {w : World} {B1 B2 : Nat} {s1 s2 : Sh} (h1 : Nd w B1 s1) (h2 : Nd w B2 s2)
    (heq : s1.dir = true → s2.dir = true → ∀ (W : World) (s : ByteArray) (x y : Value) (xd yd : DataW Nat) (xp yp : List MemPlace), w.grownBy W none → ptrR x = some (xd, xp) → ptrR y = some (yd, yp) → (∀ zd, s1.D.atKey (keyL s) zd = xd) → has s2.D (keyL s) = true → s2.D.atKey (keyL s) .nil = yd →
      Calls Tryd.prog 30 #[x, y] W fun e w' => e = .returned (.bool (eqd xd yd)) ∧ W.grownBy w' none) :
    Calls Tryd.prog 30 #[.pointer (some ⟨s1.nb, 0, none⟩), .pointer (some ⟨s2.nb, 0, none⟩)] w fun e w' => e = .returned (.bool (sameN eqd s1 s2)) ∧ w.grownBy w' none := by
  obtain ⟨dv1, hc1, hv1⟩ := h1.cells
  obtain ⟨dv2, hc2, hv2⟩ := h2.cells
  obtain ⟨A1, k1, rfl, -, hr1⟩ := rd_to hv1
  obtain ⟨A2, k2, rfl, -, hr2⟩ := rd_to hv2
  have a0 : w.cell? ⟨s1.nb, 0, none⟩ = some (.bool s1.dir) := blk_cell hc1 0
  have a1 : w.cell? ⟨s1.nb, 1, none⟩ = some (.slice A1 s1.data.length k1) := blk_cell hc1 1
  have a2 : w.cell? ⟨s1.nb, 2, none⟩ = some (kidsV s1) := blk_cell hc1 2
  have b0 : w.cell? ⟨s2.nb, 0, none⟩ = some (.bool s2.dir) := blk_cell hc2 0
  have b1 : w.cell? ⟨s2.nb, 1, none⟩ = some (.slice A2 s2.data.length k2) := blk_cell hc2 1
  have b2 : w.cell? ⟨s2.nb, 2, none⟩ = some (kidsV s2) := blk_cell hc2 2
  have HEB := Lib.hid (fun W (hb : Below w.heap.size w W) => ((equal_bytes A1 A2 k1 k2 s1.data s2.data W (hr1.below hb) (hr2.below hb)).mono fun e w' h => (show e = .returned (.bool (decide (s1.data = s2.data))) ∧ Below W.heap.size W w' from ⟨h.1, h.2 ▸ Below.refl _ _⟩)))
  obtain ⟨K1, hK1⟩ : ∃ K1, kidsV s1 = K1 := ⟨_, rfl⟩
  obtain ⟨K2, hK2⟩ : ∃ K2, kidsV s2 = K2 := ⟨_, rfl⟩
  rw [hK1] at a2
  rw [hK2] at b2
  by_cases hd : s1.dir = s2.dir
  · by_cases hx : s1.data = s2.data
    · have hq : ∃ r, sameN eqd s1 s2 = r ∧ ∀ W, Below w.heap.size w W → Calls Tryd.prog 45 #[K1, K2, .func (.func 30) #[] #[]] W fun e w' => e = .returned (.bool r) ∧ Below W.heap.size W w' := by
        refine ⟨_, rfl, fun W hW => ?_⟩
        subst hK1
        subst hK2
        refine Calls.mono (R := fun e w' => e = .returned (.bool (sameN eqd s1 s2)) ∧ W.grownBy w' none) ?_ fun e w' h => ⟨h.1, ⟨h.2.os, h.2.tape, h.2.output, h.2.size, fun k hk => h.2.block k hk (by simp)⟩⟩
        unfold sameN
        rw [decide_eq_true hd, decide_eq_true hx, Bool.true_and, Bool.true_and]
        cases h : s1.dir
        · rw [kids_file h, kids_file (hd ▸ h), if_neg (by simp)]
          exact equal_nil W
        · have h' : s2.dir = true := hd ▸ h
          rw [kids_dir h, kids_dir h', if_pos rfl]
          exact equal_maps eqd _ _ _ _ _ _ W ((Nd.below h1 hW).kids h).2 ((Nd.below h2 hW).kids h').2 fun W1 kl x y xd yd xp yp hg => heq h h' W1 kl x y xd yd xp yp (World.grownBy.andThen (a := w) (b' := W) ⟨hW.os, hW.tape, hW.output, hW.size, fun k hk _ => hW.block k hk⟩ hg (fun j hj => by cases hj))
      obtain ⟨r, hr, hq⟩ := hq
      have HQ := Lib.hid hq
      rw [hr]
      rw [← hd] at b0
      have hde : decide (s1.data = s2.data) = true := decide_eq_true hx
      rw [hde] at HEB
      have HS := Lib.hid (show ∀ W, Below w.heap.size w W → (fun W : World => W.cell? ⟨s1.nb, 0, none⟩ = some (.bool s1.dir) ∧ W.cell? ⟨s1.nb, 1, none⟩ = some (.slice A1 s1.data.length k1) ∧ W.cell? ⟨s1.nb, 2, none⟩ = some K1 ∧ W.cell? ⟨s2.nb, 0, none⟩ = some (.bool s1.dir) ∧ W.cell? ⟨s2.nb, 1, none⟩ = some (.slice A2 s2.data.length k2) ∧ W.cell? ⟨s2.nb, 2, none⟩ = some K2) W from fun W hb => ⟨keepC hb a0, keepC hb a1, keepC hb a2, keepC hb b0, keepC hb b1, keepC hb b2⟩)
      clear heq hc1 hc2 hv1 hv2 hr1 hr2 hq hK1 hK2 h1 h2 hde hr hx
      generalize s1.dir = d at *
      clear hd
      go_enter Tryd.func30, Tryd.ntmps30
      go_wp2_with fail
      have HS0 := Lib.hid (kp0 (T := (fun W : World => W.cell? ⟨s1.nb, 0, none⟩ = some (.bool d) ∧ W.cell? ⟨s1.nb, 1, none⟩ = some (.slice A1 s1.data.length k1) ∧ W.cell? ⟨s1.nb, 2, none⟩ = some K1 ∧ W.cell? ⟨s2.nb, 0, none⟩ = some (.bool d) ∧ W.cell? ⟨s2.nb, 1, none⟩ = some (.slice A2 s2.data.length k2) ∧ W.cell? ⟨s2.nb, 2, none⟩ = some K2)) HS.out)
      go_region_held3 (fun W => Below w.heap.size w W ∧ W.cell? ⟨s1.nb, 0, none⟩ = some (.bool d) ∧ W.cell? ⟨s1.nb, 1, none⟩ = some (.slice A1 s1.data.length k1) ∧ W.cell? ⟨s1.nb, 2, none⟩ = some K1 ∧ W.cell? ⟨s2.nb, 0, none⟩ = some (.bool d) ∧ W.cell? ⟨s2.nb, 1, none⟩ = some (.slice A2 s2.data.length k2) ∧ W.cell? ⟨s2.nb, 2, none⟩ = some K2) (first | exact kpC (T := (fun W : World => W.cell? ⟨s1.nb, 0, none⟩ = some (.bool d) ∧ W.cell? ⟨s1.nb, 1, none⟩ = some (.slice A1 s1.data.length k1) ∧ W.cell? ⟨s1.nb, 2, none⟩ = some K1 ∧ W.cell? ⟨s2.nb, 0, none⟩ = some (.bool d) ∧ W.cell? ⟨s2.nb, 1, none⟩ = some (.slice A2 s2.data.length k2) ∧ W.cell? ⟨s2.nb, 2, none⟩ = some K2)) hb (by assumption) HS.out | exact kp1 (T := (fun W : World => W.cell? ⟨s1.nb, 0, none⟩ = some (.bool d) ∧ W.cell? ⟨s1.nb, 1, none⟩ = some (.slice A1 s1.data.length k1) ∧ W.cell? ⟨s1.nb, 2, none⟩ = some K1 ∧ W.cell? ⟨s2.nb, 0, none⟩ = some (.bool d) ∧ W.cell? ⟨s2.nb, 1, none⟩ = some (.slice A2 s2.data.length k2) ∧ W.cell? ⟨s2.nb, 2, none⟩ = some K2)) HS0.out HS.out | exact HS0.out | fail) (first | (go_at_call 44; refine (HEB.out _ (And.left (by assumption))).mono ?_; rintro e w1 ⟨rfl, hb⟩) | (go_at_call 45; refine (HQ.out _ (And.left (by assumption))).mono ?_; rintro e w1 ⟨rfl, hb⟩) | fail)
      have hs := held_of (T := (fun W : World => W.cell? ⟨s1.nb, 0, none⟩ = some (.bool d) ∧ W.cell? ⟨s1.nb, 1, none⟩ = some (.slice A1 s1.data.length k1) ∧ W.cell? ⟨s1.nb, 2, none⟩ = some K1 ∧ W.cell? ⟨s2.nb, 0, none⟩ = some (.bool d) ∧ W.cell? ⟨s2.nb, 1, none⟩ = some (.slice A2 s2.data.length k2) ∧ W.cell? ⟨s2.nb, 2, none⟩ = some K2)) (w := w) (by assumption)
      go_wp2
      go_ret
      exact ⟨rfl, hs⟩
    · have hr : sameN eqd s1 s2 = false := by unfold sameN; rw [decide_eq_false hx, Bool.and_false, Bool.false_and]
      rw [hr]
      rw [← hd] at b0
      have hde : decide (s1.data = s2.data) = false := decide_eq_false hx
      have heb : ∀ k, Calls Tryd.prog 44 #[.slice A1 s1.data.length k1, .slice A2 s2.data.length k2] (w.drewN k) fun e w' => e = .returned (.bool false) ∧ w' = w.drewN k := fun k => hde ▸ equal_bytes A1 A2 k1 k2 s1.data s2.data (w.drewN k) (hr1.below (bdraw _ _)) (hr2.below (bdraw _ _))
      have HEQ := Lib.hid heb
      clear heb heq hc1 hc2 hv1 hv2 hr1 hr2 hK1 hK2 h1 h2 hde hr hx HEB
      generalize s1.dir = d at *
      clear hd
      go_enter Tryd.func30, Tryd.ntmps30
      go_wp2_with fail
      go_quiet (first | (go_at_call 44; refine Calls.quiet_of_same (HEQ.out _)) | fail)
      go_wp2
      go_ret
      exact ⟨rfl, grown_drew _ _⟩
  · have hr : sameN eqd s1 s2 = false := by unfold sameN; rw [decide_eq_false hd, Bool.false_and, Bool.false_and]
    rw [hr]
    clear heq hc1 hc2 hv1 hv2 hr1 hr2 hK1 hK2 h1 h2 hr HEB
    cases h1 : s1.dir
    · have h2 : s2.dir = true := by cases h : s2.dir <;> simp_all
      rw [h1] at a0
      rw [h2] at b0
      clear hd h1 h2
      go_enter Tryd.func30, Tryd.ntmps30
      go_wp2_with fail
      go_quiet (fail)
      go_wp2
      go_ret
      exact ⟨rfl, grown_drew _ _⟩
    · have h2 : s2.dir = false := by cases h : s2.dir <;> simp_all
      rw [h1] at a0
      rw [h2] at b0
      clear hd h1 h2
      go_enter Tryd.func30, Tryd.ntmps30
      go_wp2_with fail
      go_quiet (fail)
      go_wp2
      go_ret
      exact ⟨rfl, grown_drew _ _⟩
end Go.Proofs.YtpdcjdangnfeiaaDoor.Wb
