/- maps.EqualFunc over the trees' own maps. bytes.Equal; maps.EqualFunc of two nil maps; same over one node. Same: whether two trees in memory are alike, told exactly. -/
import Derived.Test.YtpdcjdangnfeiaaGreatDoorYl
import Derived.Lib.SlMapEqual
import Derived.Maps.RangeWalk
import Derived.Maps.OwnSet
import Derived.Shelf.SlMaps.Copy
import Derived.Deep.LoopGhost
section
open Go Go.Maps Go.RowKit Go.Proofs.YtpdcjdangnfeiaaGreatDoor.Pb Go.Proofs.YtpdcjdangnfeiaaGreatDoor.PPth Go.Proofs.YtpdcjdangnfeiaaGreatDoorW.PrintWords Go.Proofs.YtpdcjdangnfeiaaGreatDoorW.PrintLast Go.Proofs.YtpdcjdangnfeiaaGreatDoorW.PrintMore Go.Proofs.YtpdcjdangnfeiaaGreatDoor.Ta Go.Proofs.YtpdcjdangnfeiaaGreatDoor.Tb Go.Proofs.YtpdcjdangnfeiaaGreatDoor.Tc Go.Proofs.YtpdcjdangnfeiaaGreatDoor.Te Go.Proofs.YtpdcjdangnfeiaaGreatDoor.Tf Go.Proofs.YtpdcjdangnfeiaaGreatDoor.Qa Go.Proofs.YtpdcjdangnfeiaaGreatDoor.Qb Go.Proofs.YtpdcjdangnfeiaaGreatDoor.Qc Go.Proofs.YtpdcjdangnfeiaaGreatDoor.Qd Go.Proofs.YtpdcjdangnfeiaaGreatDoor.Qe Go.Proofs.YtpdcjdangnfeiaaGreatDoor.Qf Go.Proofs.YtpdcjdangnfeiaaGreatDoor.Ua Go.Proofs.YtpdcjdangnfeiaaGreatDoor.Ub Go.Proofs.YtpdcjdangnfeiaaGreatDoor.Uc Go.Proofs.YtpdcjdangnfeiaaGreatDoor.Ud Go.Proofs.YtpdcjdangnfeiaaGreatDoor.Ue Go.Proofs.YtpdcjdangnfeiaaGreatDoor.Uf Go.Proofs.YtpdcjdangnfeiaaGreatDoor.Ba Go.Proofs.YtpdcjdangnfeiaaGreatDoor.Ug Go.Proofs.YtpdcjdangnfeiaaGreatDoor.Uh Go.Proofs.YtpdcjdangnfeiaaGreatDoor.Ui Go.Proofs.YtpdcjdangnfeiaaGreatDoor.Uj Go.Proofs.YtpdcjdangnfeiaaGreatDoor.Uk Go.Proofs.YtpdcjdangnfeiaaGreatDoor.Ul Go.Proofs.YtpdcjdangnfeiaaGreatDoor.Um Go.Proofs.YtpdcjdangnfeiaaGreatDoor.Un Go.Proofs.YtpdcjdangnfeiaaGreatDoor.Uo Go.Proofs.YtpdcjdangnfeiaaGreatDoor.Up Go.Proofs.YtpdcjdangnfeiaaGreatDoor.Uq Go.Proofs.YtpdcjdangnfeiaaGreatDoor.Ur Go.Proofs.YtpdcjdangnfeiaaGreatDoor.Us Go.Proofs.YtpdcjdangnfeiaaGreatDoor.Ut Go.Proofs.YtpdcjdangnfeiaaGreatDoor.Uu Go.Proofs.YtpdcjdangnfeiaaGreatDoor.Uv Go.Proofs.YtpdcjdangnfeiaaGreatDoor.Uw Go.Proofs.YtpdcjdangnfeiaaGreatDoor.Ux Go.Proofs.YtpdcjdangnfeiaaGreatDoor.Uy Go.Proofs.YtpdcjdangnfeiaaGreatDoor.Uz Go.Proofs.YtpdcjdangnfeiaaGreatDoor.Va Go.Proofs.YtpdcjdangnfeiaaGreatDoor.Vb Go.Proofs.YtpdcjdangnfeiaaGreatDoor.Vc Go.Proofs.YtpdcjdangnfeiaaGreatDoor.Vd Go.Proofs.YtpdcjdangnfeiaaGreatDoor.Ve
namespace Go.Proofs.YtpdcjdangnfeiaaGreatDoor.Wa
theorem keyS_inv (key : Value) (kl : Lit) (h : keyOf Tryz.prog 9 key = some kl) : ∃ x, key = .string x := by
  cases key <;> simp [keyOf, Tryz.underlying9, mapKey] at h
  exact ⟨_, rfl⟩
theorem keyS_eq {x : ByteArray} {kl : Lit} (h : keyOf Tryz.prog 9 (.string x) = some kl) : kl = keyL x := by
  simp [keyOf, Tryz.underlying9, mapKey] at h
  exact h.2.symm
theorem ptrR_inv1 {v : Value} {y : DataW Nat × List MemPlace} (h : ptrR v = some y) : ∃ o, v = ptrV o := by
  obtain ⟨d, ps⟩ := y
  obtain ⟨o, h1, -⟩ := ptrR_inv h
  exact ⟨o, h1⟩
set_option maxHeartbeats 4000000 in
set_option maxRecDepth 1000000 in
theorem equal_maps (eqd : DataW Nat → DataW Nat → Bool) (b1 b2 n1 n2 : Nat) (D1 D2 : DataW Nat) (w : World) (h1 : w.ownsMap Tryz.prog 9 ptrR b1 n1 D1) (h2 : w.ownsMap Tryz.prog 9 ptrR b2 n2 D2)
    (heq : ∀ (W : World) (s : ByteArray) (x y : Value) (xd yd : DataW Nat) (xp yp : List MemPlace), w.grownBy W none → ptrR x = some (xd, xp) → ptrR y = some (yd, yp) → (∀ zd, D1.atKey (keyL s) zd = xd) → has D2 (keyL s) = true → D2.atKey (keyL s) .nil = yd →
      Calls Tryz.prog 27 #[x, y] W fun e w' => e = .returned (.bool (eqd xd yd)) ∧ W.grownBy w' none) :
    Calls Tryz.prog 57 #[.map (some b1), .map (some b2), .func (.func 27) #[] #[]] w fun e w' => e = .returned (.bool (Lib.equalFuncD eqd D1 D2)) ∧ w.grownBy w' none := by
  have l1 := fun ty => h1.len (t := 83) Tryz.underlying83 ty
  have l2 := fun ty => h2.len (t := 83) Tryz.underlying83 ty
  obtain ⟨es1, rfl, hap, hkeys⟩ := h1.entries law9
  have hb2 := h2.lt
  have HQ := Lib.hid heq
  clear heq
  generalize hres : Lib.equalFuncD eqd (.map es1) D2 = res
  have RES := Lib.hid hres
  clear hres
  by_cases hsz : Maps.size (.map es1 : DataW Nat) = Maps.size D2
  · go_enter Tryz.func57, Tryz.ntmps57
    go_wp2_with (first
      | (at_range; refine wpList_range_own _ rfl _ 83 rfl 9 52 law9 Tryz.underlying83 ptrR b1 n1 _ rfl h1 ?_; intro w0 hrg0 hg0 hs0)
      | go_in)
    go_frame
    go_loopw [18] (fun _ wr => ∃ (left : Lit → Bool) (cnt : Nat), wr.ranges Tryz.prog 9 ptrR b1 w.heap.size n1 (.map es1) left cnt ∧ wr.ownsMap Tryz.prog 9 ptrR b2 n2 D2 ∧ w.grownBy wr none ∧ Hid (GoodAt eqd es1 D2 left))
      (fun _ wr => wr.rangeLeft b1 w.heap.size)
    case atStart => exact ⟨_, _, hrg0, h2.kept hg0 (by simp), hg0, Lib.hid (good_start hkeys D2)⟩
    case round =>
      obtain ⟨left, cnt, hrg, h2r, hgw, G⟩ := hrel
      go_wp2_with (first
        | (at_next; refine wpList_next_ranges _ rfl _ rfl 9 law9 ptrR Value.string ptrV keyS_inv (fun v y h => ptrR_inv1 h) b1 w.heap.size n1 _ _ _ rfl hrg ?_ ?_)
        | go_in)
      · intro _ hl0
        go_wp2
        go_ret
        exact ⟨by rw [← RES.out, all_good G.out hl0 hsz]; rfl, hgw⟩
      · intro x c kl yd yp w1 cnt1 hkey hlx hv hat hrg1 hlt hg1 hs1 hen
        obtain rfl : kl = keyL x := keyS_eq hkey
        have hgw1 : w.grownBy w1 none := hgw.andThen hg1 (fun j hj => by cases hj; exact Or.inl (Nat.le_refl _))
        have h2w1 := h2r.kept hg1 (fun e => by have := Option.some.inj e; omega)
        have HAT := Lib.hid hat
        clear hat
        cases hh : Maps.has D2 (keyL x)
        · have hbad : Lib.goodD eqd D2 (keyL x, yd) = false := by unfold Lib.goodD; rw [hh]; rfl
          go_wp2_with (first
            | (at_lookup; refine wpList_lookup_own_ok _ rfl _ _ 83 rfl 9 52 law9 Tryz.underlying83 ptrR (Tryz.zeroValue52 _) .nil [] rfl b2 n2 D2 rfl h2w1 _ (keyL x) rfl hkey ?_; intro v2 ps2 hv2; rw [hh]; go_frame)
            | go_in)
          go_ret
          exact ⟨by rw [← RES.out, bad_false hap hkeys HAT.out hbad]; rfl, hgw1⟩
        · cases he : eqd yd (D2.atKey (keyL x) .nil)
          · skip
            have hbad : Lib.goodD eqd D2 (keyL x, yd) = false := by unfold Lib.goodD; rw [hh, he]; rfl
            go_wp2_with (first
              | (at_lookup; refine wpList_lookup_own_ok _ rfl _ _ 83 rfl 9 52 law9 Tryz.underlying83 ptrR (Tryz.zeroValue52 _) .nil [] rfl b2 n2 D2 rfl h2w1 _ (keyL x) rfl hkey ?_; intro v2 ps2 hv2; rw [hh]; go_frame; have hc := HQ.out w1 x _ v2 yd _ yp ps2 hgw1 hv hv2 HAT.out hh rfl; rw [he] at hc)
              | fail)
            refine hc.mono ?_
            rintro e w2 ⟨rfl, hg2⟩
            go_wp2
            go_ret
            exact ⟨by rw [← RES.out, bad_false hap hkeys HAT.out hbad]; rfl, hgw1.andThen hg2 (fun j hj => by cases hj)⟩
          · skip
            have hgood : Lib.goodD eqd D2 (keyL x, yd) = true := by unfold Lib.goodD; rw [hh, he]; rfl
            go_wp2_with (first
              | (at_lookup; refine wpList_lookup_own_ok _ rfl _ _ 83 rfl 9 52 law9 Tryz.underlying83 ptrR (Tryz.zeroValue52 _) .nil [] rfl b2 n2 D2 rfl h2w1 _ (keyL x) rfl hkey ?_; intro v2 ps2 hv2; rw [hh]; go_frame; have hc := HQ.out w1 x _ v2 yd _ yp ps2 hgw1 hv hv2 HAT.out hh rfl; rw [he] at hc)
              | fail)
            refine hc.mono ?_
            rintro e w2 ⟨rfl, hg2⟩
            go_wp2
            have hrg2 := hrg1.kept hg2 (by simp) (by simp)
            go_roundw
            case rel => exact ⟨_, cnt1, hrg2, h2w1.kept hg2 (by simp), hgw1.andThen hg2 (fun j hj => by cases hj), Lib.hid (good_step hap hkeys HAT.out G.out hgood)⟩
            case measure => rw [hrg2.left_eq, hrg.left_eq]; exact hlt
  · have hne : ¬ ((Maps.size (.map es1 : DataW Nat) : Int) = (Maps.size D2 : Int)) := fun e => hsz (by exact_mod_cast e)
    go_enter Tryz.func57, Tryz.ntmps57
    go_wp2
    go_ret
    exact ⟨by rw [← RES.out, sizes_false hsz]; rfl, World.grownBy.refl _ _⟩
end Go.Proofs.YtpdcjdangnfeiaaGreatDoor.Wa
open Go.Proofs.YtpdcjdangnfeiaaGreatDoor.Wa
namespace Go.Proofs.YtpdcjdangnfeiaaGreatDoor.Wb
theorem beq_text (x y : ByteArray) : (x.toList == y.toList) = decide (x = y) := by
  by_cases h : x = y
  · subst h; simp
  · have : ¬ x.toList = y.toList := fun e => h (tl_inj.1 (by rw [ByteArray.toList_eq, ByteArray.toList_eq] at e; exact e))
    simp [h, this]
set_option maxHeartbeats 1000000 in
set_option maxRecDepth 100000 in
theorem equal_bytes (A B : Option Addr) (c d : Nat) (l m : List UInt8) (w : World) (ha : RdB w A l) (hb : RdB w B m) : Calls Tryz.prog 56 #[.slice A l.length c, .slice B m.length d] w fun e w' => e = .returned (.bool (decide (l = m))) ∧ w' = w := by
  have t1 := ha.text c
  have t2 := hb.text d
  have he : (decide (l = m)) = decide (Qa.tb l = Qa.tb m) := by
    by_cases h : l = m
    · subst h; simp
    · have : ¬ Qa.tb l = Qa.tb m := fun e => h (by rw [← tl_tb l, ← tl_tb m, e])
      simp [h, this]
  rw [he]
  obtain ⟨x, hx⟩ : ∃ x, Qa.tb l = x := ⟨_, rfl⟩
  obtain ⟨y, hy⟩ : ∃ y, Qa.tb m = y := ⟨_, rfl⟩
  rw [hx] at t1 ⊢
  rw [hy] at t2 ⊢
  clear he hx hy ha hb
  go_enter Tryz.func56, Tryz.ntmps56
  go_wp2
  go_ret
  exact ⟨by rw [beq_text]; rfl, rfl⟩
set_option maxHeartbeats 1000000 in
set_option maxRecDepth 100000 in
theorem equal_nil (w : World) : Calls Tryz.prog 57 #[.map none, .map none, .func (.func 27) #[] #[]] w fun e w' => e = .returned (.bool true) ∧ w.grownBy w' none := by
  have l1 := fun ty => Maps.len_nil (w := w) Tryz.underlying83 ty
  have r1 := run_range_nilMap w 83 9 52 Tryz.underlying83
  have r2 := fun ty => run_next_nilMap (P := Tryz.prog) w ty 0 0 #[]
  go_enter Tryz.func57, Tryz.ntmps57
  go_wp2_with fail
  go_loopw [18] (fun _ wr => wr = w.alloc (.mapIter none 0 #[] 0)) (fun _ _ => 0)
  case atStart => rfl
  case round =>
    subst hrel
    go_wp2
    go_ret
    exact ⟨rfl, World.grownBy_alloc w _ none⟩
theorem held_of {T : World → Prop} {w W : World} (h : Below w.heap.size w W ∧ T W) : w.grownBy W none := ⟨h.1.os, h.1.tape, h.1.output, h.1.size, fun k hk _ => h.1.block k hk⟩
theorem grown_drew (w : World) (n : Nat) : w.grownBy (w.drewN n) none := held_of (T := fun _ => True) ⟨bdraw w n, trivial⟩
def sameN (eqd : DataW Nat → DataW Nat → Bool) (s1 s2 : Sh) : Bool := decide (s1.dir = s2.dir) && decide (s1.data = s2.data) && (if s1.dir then Lib.equalFuncD eqd s1.D s2.D else true)
theorem kids_file {s : Sh} (h : s.dir = false) : kidsV s = .map none := by unfold kidsV; rw [if_neg (by simp [h])]
theorem kids_dir {s : Sh} (h : s.dir = true) : kidsV s = .map (some s.mb) := by unfold kidsV; rw [if_pos h]
set_option maxHeartbeats 2000000 in
set_option maxRecDepth 100000 in
theorem same_node (eqd : DataW Nat → DataW Nat → Bool) {w : World} {B1 B2 : Nat} {s1 s2 : Sh} (h1 : Nd w B1 s1) (h2 : Nd w B2 s2)
    (heq : s1.dir = true → s2.dir = true → ∀ (W : World) (s : ByteArray) (x y : Value) (xd yd : DataW Nat) (xp yp : List MemPlace), w.grownBy W none → ptrR x = some (xd, xp) → ptrR y = some (yd, yp) → (∀ zd, s1.D.atKey (keyL s) zd = xd) → has s2.D (keyL s) = true → s2.D.atKey (keyL s) .nil = yd →
      Calls Tryz.prog 27 #[x, y] W fun e w' => e = .returned (.bool (eqd xd yd)) ∧ W.grownBy w' none) :
    Calls Tryz.prog 27 #[.pointer (some ⟨s1.nb, 0, none⟩), .pointer (some ⟨s2.nb, 0, none⟩)] w fun e w' => e = .returned (.bool (sameN eqd s1 s2)) ∧ w.grownBy w' none := by
  obtain ⟨dv1, hc1, hv1⟩ := h1.cells
  obtain ⟨dv2, hc2, hv2⟩ := h2.cells
  obtain ⟨A1, k1, rfl, -, hr1⟩ := rd_to hv1
  obtain ⟨A2, k2, rfl, -, hr2⟩ := rd_to hv2
  have a0 : w.cell? ⟨s1.nb, 0, none⟩ = some (.bool s1.dir) := blk_cell hc1 0
  have a1 : w.cell? ⟨s1.nb, 1, none⟩ = some (.slice A1 s1.data.length k1) := blk_cell hc1 1
  have a2 : w.cell? ⟨s1.nb, 2, none⟩ = some (kidsV s1) := blk_cell hc1 2
  have b0 : w.cell? ⟨s2.nb, 0, none⟩ = some (.bool s2.dir) := blk_cell hc2 0
  have b1 : w.cell? ⟨s2.nb, 1, none⟩ = some (.slice A2 s2.data.length k2) := blk_cell hc2 1
  have b2 : w.cell? ⟨s2.nb, 2, none⟩ = some (kidsV s2) := blk_cell hc2 2
  have HEB := Lib.hid (fun W (hb : Below w.heap.size w W) => ((equal_bytes A1 A2 k1 k2 s1.data s2.data W (hr1.below hb) (hr2.below hb)).mono fun e w' h => (show e = .returned (.bool (decide (s1.data = s2.data))) ∧ Below W.heap.size W w' from ⟨h.1, h.2 ▸ Below.refl _ _⟩)))
  obtain ⟨K1, hK1⟩ : ∃ K1, kidsV s1 = K1 := ⟨_, rfl⟩
  obtain ⟨K2, hK2⟩ : ∃ K2, kidsV s2 = K2 := ⟨_, rfl⟩
  rw [hK1] at a2
  rw [hK2] at b2
  by_cases hd : s1.dir = s2.dir
  · by_cases hx : s1.data = s2.data
    · have hq : ∃ r, sameN eqd s1 s2 = r ∧ ∀ W, Below w.heap.size w W → Calls Tryz.prog 57 #[K1, K2, .func (.func 27) #[] #[]] W fun e w' => e = .returned (.bool r) ∧ Below W.heap.size W w' := by
        refine ⟨_, rfl, fun W hW => ?_⟩
        subst hK1
        subst hK2
        refine Calls.mono (R := fun e w' => e = .returned (.bool (sameN eqd s1 s2)) ∧ W.grownBy w' none) ?_ fun e w' h => ⟨h.1, ⟨h.2.os, h.2.tape, h.2.output, h.2.size, fun k hk => h.2.block k hk (by simp)⟩⟩
        unfold sameN
        rw [decide_eq_true hd, decide_eq_true hx, Bool.true_and, Bool.true_and]
        cases h : s1.dir
        · rw [kids_file h, kids_file (hd ▸ h), if_neg (by simp)]
          exact equal_nil W
        · have h' : s2.dir = true := hd ▸ h
          rw [kids_dir h, kids_dir h', if_pos rfl]
          exact equal_maps eqd _ _ _ _ _ _ W ((Nd.below h1 hW).kids h).2 ((Nd.below h2 hW).kids h').2 fun W1 kl x y xd yd xp yp hg => heq h h' W1 kl x y xd yd xp yp (World.grownBy.andThen (a := w) (b' := W) ⟨hW.os, hW.tape, hW.output, hW.size, fun k hk _ => hW.block k hk⟩ hg (fun j hj => by cases hj))
      obtain ⟨r, hr, hq⟩ := hq
      have HQ := Lib.hid hq
      rw [hr]
      rw [← hd] at b0
      have hde : decide (s1.data = s2.data) = true := decide_eq_true hx
      rw [hde] at HEB
      have HS := Lib.hid (show ∀ W, Below w.heap.size w W → (fun W : World => W.cell? ⟨s1.nb, 0, none⟩ = some (.bool s1.dir) ∧ W.cell? ⟨s1.nb, 1, none⟩ = some (.slice A1 s1.data.length k1) ∧ W.cell? ⟨s1.nb, 2, none⟩ = some K1 ∧ W.cell? ⟨s2.nb, 0, none⟩ = some (.bool s1.dir) ∧ W.cell? ⟨s2.nb, 1, none⟩ = some (.slice A2 s2.data.length k2) ∧ W.cell? ⟨s2.nb, 2, none⟩ = some K2) W from fun W hb => ⟨keepC hb a0, keepC hb a1, keepC hb a2, keepC hb b0, keepC hb b1, keepC hb b2⟩)
      clear heq hc1 hc2 hv1 hv2 hr1 hr2 hq hK1 hK2 h1 h2 hde hr hx
      generalize s1.dir = d at *
      clear hd
      go_enter Tryz.func27, Tryz.ntmps27
      go_wp2_with fail
      have HS0 := Lib.hid (kp0 (T := (fun W : World => W.cell? ⟨s1.nb, 0, none⟩ = some (.bool d) ∧ W.cell? ⟨s1.nb, 1, none⟩ = some (.slice A1 s1.data.length k1) ∧ W.cell? ⟨s1.nb, 2, none⟩ = some K1 ∧ W.cell? ⟨s2.nb, 0, none⟩ = some (.bool d) ∧ W.cell? ⟨s2.nb, 1, none⟩ = some (.slice A2 s2.data.length k2) ∧ W.cell? ⟨s2.nb, 2, none⟩ = some K2)) HS.out)
      go_region_held3 (fun W => Below w.heap.size w W ∧ W.cell? ⟨s1.nb, 0, none⟩ = some (.bool d) ∧ W.cell? ⟨s1.nb, 1, none⟩ = some (.slice A1 s1.data.length k1) ∧ W.cell? ⟨s1.nb, 2, none⟩ = some K1 ∧ W.cell? ⟨s2.nb, 0, none⟩ = some (.bool d) ∧ W.cell? ⟨s2.nb, 1, none⟩ = some (.slice A2 s2.data.length k2) ∧ W.cell? ⟨s2.nb, 2, none⟩ = some K2) (first | exact kpC (T := (fun W : World => W.cell? ⟨s1.nb, 0, none⟩ = some (.bool d) ∧ W.cell? ⟨s1.nb, 1, none⟩ = some (.slice A1 s1.data.length k1) ∧ W.cell? ⟨s1.nb, 2, none⟩ = some K1 ∧ W.cell? ⟨s2.nb, 0, none⟩ = some (.bool d) ∧ W.cell? ⟨s2.nb, 1, none⟩ = some (.slice A2 s2.data.length k2) ∧ W.cell? ⟨s2.nb, 2, none⟩ = some K2)) hb (by assumption) HS.out | exact kp1 (T := (fun W : World => W.cell? ⟨s1.nb, 0, none⟩ = some (.bool d) ∧ W.cell? ⟨s1.nb, 1, none⟩ = some (.slice A1 s1.data.length k1) ∧ W.cell? ⟨s1.nb, 2, none⟩ = some K1 ∧ W.cell? ⟨s2.nb, 0, none⟩ = some (.bool d) ∧ W.cell? ⟨s2.nb, 1, none⟩ = some (.slice A2 s2.data.length k2) ∧ W.cell? ⟨s2.nb, 2, none⟩ = some K2)) HS0.out HS.out | exact HS0.out | fail) (first | (go_at_call 56; refine (HEB.out _ (And.left (by assumption))).mono ?_; rintro e w1 ⟨rfl, hb⟩) | (go_at_call 57; refine (HQ.out _ (And.left (by assumption))).mono ?_; rintro e w1 ⟨rfl, hb⟩) | fail)
      have hs := held_of (T := (fun W : World => W.cell? ⟨s1.nb, 0, none⟩ = some (.bool d) ∧ W.cell? ⟨s1.nb, 1, none⟩ = some (.slice A1 s1.data.length k1) ∧ W.cell? ⟨s1.nb, 2, none⟩ = some K1 ∧ W.cell? ⟨s2.nb, 0, none⟩ = some (.bool d) ∧ W.cell? ⟨s2.nb, 1, none⟩ = some (.slice A2 s2.data.length k2) ∧ W.cell? ⟨s2.nb, 2, none⟩ = some K2)) (w := w) (by assumption)
      go_wp2
      go_ret
      exact ⟨rfl, hs⟩
    · have hr : sameN eqd s1 s2 = false := by unfold sameN; rw [decide_eq_false hx, Bool.and_false, Bool.false_and]
      rw [hr]
      rw [← hd] at b0
      have hde : decide (s1.data = s2.data) = false := decide_eq_false hx
      have heb : ∀ k, Calls Tryz.prog 56 #[.slice A1 s1.data.length k1, .slice A2 s2.data.length k2] (w.drewN k) fun e w' => e = .returned (.bool false) ∧ w' = w.drewN k := fun k => hde ▸ equal_bytes A1 A2 k1 k2 s1.data s2.data (w.drewN k) (hr1.below (bdraw _ _)) (hr2.below (bdraw _ _))
      have HEQ := Lib.hid heb
      clear heb heq hc1 hc2 hv1 hv2 hr1 hr2 hK1 hK2 h1 h2 hde hr hx HEB
      generalize s1.dir = d at *
      clear hd
      go_enter Tryz.func27, Tryz.ntmps27
      go_wp2_with fail
      go_quiet (first | (go_at_call 56; refine Calls.quiet_of_same (HEQ.out _)) | fail)
      go_wp2
      go_ret
      exact ⟨rfl, grown_drew _ _⟩
  · have hr : sameN eqd s1 s2 = false := by unfold sameN; rw [decide_eq_false hd, Bool.false_and, Bool.false_and]
    rw [hr]
    clear heq hc1 hc2 hv1 hv2 hr1 hr2 hK1 hK2 h1 h2 hr HEB
    cases h1 : s1.dir
    · have h2 : s2.dir = true := by cases h : s2.dir <;> simp_all
      rw [h1] at a0
      rw [h2] at b0
      clear hd h1 h2
      go_enter Tryz.func27, Tryz.ntmps27
      go_wp2_with fail
      go_quiet (fail)
      go_wp2
      go_ret
      exact ⟨rfl, grown_drew _ _⟩
    · have h2 : s2.dir = false := by cases h : s2.dir <;> simp_all
      rw [h1] at a0
      rw [h2] at b0
      clear hd h1 h2
      go_enter Tryz.func27, Tryz.ntmps27
      go_wp2_with fail
      go_quiet (fail)
      go_wp2
      go_ret
      exact ⟨rfl, grown_drew _ _⟩
end Go.Proofs.YtpdcjdangnfeiaaGreatDoor.Wb
open Go.Proofs.YtpdcjdangnfeiaaGreatDoor.Wb
namespace Go.Proofs.YtpdcjdangnfeiaaGreatDoor.Wc
section lists
open Classical
theorem len_le {α : Type} : ∀ (l m : List α), l.Nodup → (∀ x ∈ l, x ∈ m) → l.length ≤ m.length
  | [], _, _, _ => Nat.zero_le _
  | a :: l, m, hn, hs => by
    rw [List.nodup_cons] at hn
    have h1 := len_le l (m.erase a) hn.2 fun x hx => by
      have hne : x ≠ a := fun e => hn.1 (e ▸ hx)
      exact (List.mem_erase_of_ne hne).2 (hs x (List.mem_cons_of_mem _ hx))
    have h2 := List.length_erase_of_mem (hs a (List.mem_cons_self))
    have h3 := List.length_pos_of_mem (hs a (List.mem_cons_self))
    rw [List.length_cons]
    omega
theorem sub_of_len {α : Type} {l m : List α} (hn : l.Nodup) (hs : ∀ x ∈ l, x ∈ m) (hl : m.length ≤ l.length) : ∀ x ∈ m, x ∈ l := by
  intro x hx
  by_cases h : x ∈ l
  · exact h
  · have := len_le (x :: l) m (List.nodup_cons.2 ⟨h, hn⟩) fun y hy => by
      rcases List.mem_cons.1 hy with rfl | hy
      · exact hx
      · exact hs y hy
    rw [List.length_cons] at this
    omega
end lists
theorem mem_has {es : List (Lit × DataW Nat)} {k : Lit} (hk : ∀ p ∈ es, WideAt.IsKeyLit p.1) : has (.map es : DataW Nat) k = true ↔ k ∈ es.map (·.1) := by
  have e : has (.map es : DataW Nat) k = es.any (fun p => p.1.sameKey k) := rfl
  rw [e, List.any_eq_true]
  constructor
  · rintro ⟨p, hp, hs⟩
    exact List.mem_map.2 ⟨p, hp, WideAt.sameKey_eq hs⟩
  · intro h
    obtain ⟨p, hp, rfl⟩ := List.mem_map.1 h
    exact ⟨p, hp, WideAt.sameKey_self (hk p hp)⟩
/-- Keys that are texts. -/
def StrKeys (D : DataW Nat) : Prop := ∀ kl, has D kl = true → ∃ s, kl = keyL s
theorem equal_iff {eqd : DataW Nat → DataW Nat → Bool} {D1 D2 : DataW Nat} (t1 : ∃ es, D1 = .map es ∧ es.Pairwise (fun p q => p.1 ≠ q.1) ∧ ∀ p ∈ es, WideAt.IsKeyLit p.1) (t2 : ∃ es, D2 = .map es ∧ es.Pairwise (fun p q => p.1 ≠ q.1) ∧ ∀ p ∈ es, WideAt.IsKeyLit p.1) (k1 : StrKeys D1) (k2 : StrKeys D2) :
    Lib.equalFuncD eqd D1 D2 = true ↔ ∀ s, has D1 (keyL s) = has D2 (keyL s) ∧ (has D1 (keyL s) = true → eqd (D1.atKey (keyL s) .nil) (D2.atKey (keyL s) .nil) = true) := by
  obtain ⟨es1, rfl, p1, i1⟩ := t1
  obtain ⟨es2, rfl, p2, i2⟩ := t2
  have n1 : (es1.map (·.1)).Nodup := List.pairwise_map.2 p1
  have n2 : (es2.map (·.1)).Nodup := List.pairwise_map.2 p2
  have q1 := fun k => mem_has (k := k) i1
  have q2 := fun k => mem_has (k := k) i2
  unfold Lib.equalFuncD
  rw [Bool.and_eq_true, decide_eq_true_eq, List.all_eq_true]
  have hl : ∀ es : List (Lit × DataW Nat), size (.map es : DataW Nat) = (es.map (·.1)).length := fun es => by rw [List.length_map]; rfl
  rw [hl, hl]
  constructor
  · rintro ⟨hlen, hgood⟩ s
    have hsub : ∀ x ∈ es1.map (·.1), x ∈ es2.map (·.1) := by
      intro x hx
      obtain ⟨p, hp, rfl⟩ := List.mem_map.1 hx
      have := hgood p hp
      unfold Lib.goodD at this
      rw [Bool.and_eq_true] at this
      exact (q2 _).1 this.1
    refine ⟨?_, fun hh => ?_⟩
    · rw [Bool.eq_iff_iff, q1, q2]
      exact ⟨hsub _, sub_of_len n1 hsub (by omega) _⟩
    · obtain ⟨p, hp, he⟩ := List.mem_map.1 ((q1 _).1 hh)
      have := hgood p hp
      unfold Lib.goodD at this
      rw [Bool.and_eq_true, he] at this
      have e : (DataW.map es1).atKey (keyL s) .nil = p.2 := by
        have e1 := WideAt.atKey_mem (d := p.2) .nil (isKey s) p1 (by rw [← he]; exact hp)
        exact e1
      rw [e]
      exact this.2
  · intro h
    have hiff : ∀ x, x ∈ es1.map (·.1) ↔ x ∈ es2.map (·.1) := by
      intro x
      rw [← q1, ← q2]
      constructor
      · intro hx
        obtain ⟨s, rfl⟩ := k1 _ hx
        rw [← (h s).1]; exact hx
      · intro hx
        obtain ⟨s, rfl⟩ := k2 _ hx
        rw [(h s).1]; exact hx
    refine ⟨Nat.le_antisymm (len_le _ _ n1 fun x hx => (hiff x).1 hx) (len_le _ _ n2 fun x hx => (hiff x).2 hx), fun p hp => ?_⟩
    have hm := (q1 _).2 (List.mem_map.2 ⟨p, hp, rfl⟩)
    obtain ⟨s, hs⟩ := k1 _ hm
    rw [hs] at hm
    obtain ⟨h1, h2⟩ := h s
    unfold Lib.goodD
    rw [Bool.and_eq_true, hs, ← h1]
    refine ⟨hm, ?_⟩
    have e : (DataW.map es1).atKey (keyL s) .nil = p.2 := WideAt.atKey_mem .nil (isKey s) p1 (by rw [← hs]; exact hp)
    rw [← e]
    exact h2 hm
theorem own_keys {w : World} {b n : Nat} {D : DataW Nat} (h : w.ownsMap Tryz.prog 9 ptrR b n D) : StrKeys D := by
  obtain ⟨es, clock, _, F, _, rfl⟩ := h
  intro kl hkl
  obtain ⟨p, hp, hs⟩ := List.any_eq_true.1 hkl
  obtain ⟨x, hx, rfl⟩ := List.mem_map.1 (mem_sorted.1 hp)
  obtain ⟨y, hy⟩ := F.reads x hx
  have hk := Go.WideElems.rd_key hy
  have e : (Go.WideElems.rg Tryz.prog 9 ptrR x).1 = y.1 := by rw [Go.WideElems.rg_of hy]
  have e2 : y.1 = kl := e ▸ WideAt.sameKey_eq hs
  rw [e2] at hk
  obtain ⟨t, ht⟩ := keyS_inv _ _ hk
  rw [ht] at hk
  exact ⟨t, keyS_eq hk⟩
theorem own_at {w : World} {b n : Nat} {D : DataW Nat} (h : w.ownsMap Tryz.prog 9 ptrR b n D) (s : ByteArray) (hs : has D (keyL s) = true) : ∃ o, ∀ zd, D.atKey (keyL s) zd = ptrD o := by
  obtain ⟨es, clock, _, F, _, rfl⟩ := h
  obtain ⟨p, hp, hk⟩ := List.any_eq_true.1 hs
  obtain ⟨x, hx, rfl⟩ := List.mem_map.1 (mem_sorted.1 hp)
  obtain ⟨y, hy⟩ := F.reads x hx
  obtain ⟨z, hz, hzd⟩ := Go.WideElems.rd_val hy
  obtain ⟨o, -, ho⟩ := ptrR_inv (d := z.1) (ps := z.2) hz
  refine ⟨o, fun zd => ?_⟩
  have e1 : (Go.WideElems.rg Tryz.prog 9 ptrR x).1 = keyL s := WideAt.sameKey_eq hk
  have e2 : (Go.WideElems.rg Tryz.prog 9 ptrR x).2 = ptrD o := by rw [Go.WideElems.rg_of hy, ← ho]; exact hzd
  refine WideAt.atKey_mem zd (isKey s) ?_ ?_
  · exact ((Go.WideShapes.sorted_perm _).pairwise_iff (fun {_ _} hne => Ne.symm hne)).2 (Maps.fit_apart law9 F)
  · have e3 : Go.WideElems.rg Tryz.prog 9 ptrR x = (keyL s, ptrD o) := Prod.ext e1 e2
    rw [e3] at hp
    exact hp
theorem path_inj : ∀ {es : Es}, ((es.map (·.2)).flatMap blks).Nodup → ∀ {p q : Path} {x y : Sh}, (p, x) ∈ es → (q, y) ∈ es → x.nb = y.nb → p = q
  | [], _, _, _, _, _, hx, _, _ => by cases hx
  | z :: es, h, p, q, x, y, hx, hy, e => by
    rw [List.map_cons, List.flatMap_cons, List.nodup_append] at h
    obtain ⟨-, h2, h3⟩ := h
    rcases List.mem_cons.1 hx with e1 | hx' <;> rcases List.mem_cons.1 hy with e2 | hy'
    · rw [← e2] at e1
      exact congrArg (·.1) e1
    · subst e1
      exact absurd e (h3 _ (nb_mem _) _ (List.mem_flatMap.2 ⟨y, List.mem_map.2 ⟨_, hy', rfl⟩, nb_mem y⟩))
    · subst e2
      exact absurd e.symm (h3 _ (nb_mem _) _ (List.mem_flatMap.2 ⟨x, List.mem_map.2 ⟨_, hx', rfl⟩, nb_mem x⟩))
    · exact path_inj h2 hx' hy' e
/-- What Same looks at. -/
def kd (s : Sh) : Bool × List UInt8 := (s.dir, s.data)
/-- Alike below a path. -/
def SB (a1 a2 : Uc.Fn) (p : Path) : Prop := ∀ r, (a1 (p ++ r)).map kd = (a2 (p ++ r)).map kd
theorem SB_iff {a1 a2 : Uc.Fn} {p : Path} {s1 s2 : Sh} (h1 : a1 p = some s1) (h2 : a2 p = some s2) : SB a1 a2 p ↔ kd s1 = kd s2 ∧ ∀ x, SB a1 a2 (p ++ [x]) := by
  constructor
  · intro h
    refine ⟨?_, fun x r => ?_⟩
    · have := h []
      rw [List.append_nil, h1, h2] at this
      simpa using this
    · have := h (x :: r)
      rwa [List.append_assoc, List.singleton_append]
  · rintro ⟨h, hx⟩ r
    cases r with
    | nil => rw [List.append_nil, h1, h2, Option.map_some, Option.map_some, h]
    | cons x r =>
      have := hx x r
      rwa [List.append_assoc, List.singleton_append] at this
theorem SB_none {a1 a2 : Uc.Fn} {p : Path} (h1 : WfF a1) (h2 : WfF a2) (n1 : a1 p = none) (n2 : a2 p = none) : SB a1 a2 p := by
  have key : ∀ {a : Uc.Fn}, WfF a → a p = none → ∀ r, a (p ++ r) = none := by
    intro a h hn r
    by_cases hr : r = []
    · subst hr; rwa [List.append_nil]
    · exact h.none_under (fun x => h.none_below (fun d hd => by rw [hn] at hd; cases hd) x) r hr
  intro r
  rw [key h1 n1, key h2 n2]
theorem exists_bound (es : Es) : ∃ k, ∀ q s, gp es q = some s → q.length ≤ k := by
  have : ∃ k, ∀ e ∈ es, e.1.length ≤ k := by
    induction es with
    | nil => exact ⟨0, fun e he => by cases he⟩
    | cons e es ih =>
      obtain ⟨k, hk⟩ := ih
      refine ⟨e.1.length + k, fun f hf => ?_⟩
      rcases List.mem_cons.1 hf with rfl | hf
      · omega
      · have := hk f hf; omega
  obtain ⟨k, hk⟩ := this
  exact ⟨k, fun q s h => hk _ (gp_mem h)⟩
theorem grown_below {w w' : World} (h : w.grownBy w' none) : Below w.heap.size w w' := ⟨h.os, h.tape, h.output, h.size, fun k hk => h.block k hk (by simp)⟩
section
open Classical
variable {B1 B2 : Nat} {es1 es2 : Es}
noncomputable def eqN (a1 a2 : Uc.Fn) (p : Path) (xd yd : DataW Nat) : Bool := decide (∃ x s1 s2, a1 (p ++ [x]) = some s1 ∧ a2 (p ++ [x]) = some s2 ∧ xd = ptrD (some s1.nb) ∧ yd = ptrD (some s2.nb) ∧ SB a1 a2 (p ++ [x]))
theorem kid_at {w : World} {B : Nat} {es : Es} (h : Sto Tryz.prog 85 9 w B (es.map (·.2))) (hw : WfF (gp es)) {p : Path} {d : Sh} (hg : gp es p = some d) (hd : d.dir = true) (x : ByteArray) :
    has d.D (keyL x) = (gp es (p ++ [x])).isSome ∧ ∀ s, gp es (p ++ [x]) = some s → ∀ zd, d.D.atKey (keyL x) zd = ptrD (some s.nb) := by
  have hr := hw.dr p d hg hd
  have e1 : has d.D (keyL x) = (gp es (p ++ [x])).isSome := by rw [hr.full, hr.kids]; cases gp es (p ++ [x]) <;> rfl
  refine ⟨e1, fun s hs zd => ?_⟩
  have ho := ((h.ok d (List.mem_map.2 ⟨(p, d), gp_mem hg, rfl⟩)).kids hd).2
  obtain ⟨o, ho⟩ := own_at ho x (by rw [e1, hs]; rfl)
  have := hr.kids x
  rw [kid_of (ho .nil), hs] at this
  rw [ho zd, this]
  rfl
theorem same_step (n1 : ((es1.map (·.2)).flatMap blks).Nodup) (n2 : ((es2.map (·.2)).flatMap blks).Nodup) (f1 : WfF (gp es1)) (f2 : WfF (gp es2)) {p : Path} {s1 s2 : Sh} (g1 : gp es1 p = some s1) (g2 : gp es2 p = some s2) {w : World} (h1 : Sto Tryz.prog 85 9 w B1 (es1.map (·.2))) (h2 : Sto Tryz.prog 85 9 w B2 (es2.map (·.2)))
    (ih : ∀ x t1 t2, gp es1 (p ++ [x]) = some t1 → gp es2 (p ++ [x]) = some t2 → ∀ W, w.grownBy W none → Calls Tryz.prog 27 #[.pointer (some ⟨t1.nb, 0, none⟩), .pointer (some ⟨t2.nb, 0, none⟩)] W fun e w' => e = .returned (.bool (decide (SB (gp es1) (gp es2) (p ++ [x])))) ∧ W.grownBy w' none) :
    Calls Tryz.prog 27 #[.pointer (some ⟨s1.nb, 0, none⟩), .pointer (some ⟨s2.nb, 0, none⟩)] w fun e w' => e = .returned (.bool (decide (SB (gp es1) (gp es2) p))) ∧ w.grownBy w' none := by
  have N1 := h1.ok s1 (List.mem_map.2 ⟨(p, s1), gp_mem g1, rfl⟩)
  have N2 := h2.ok s2 (List.mem_map.2 ⟨(p, s2), gp_mem g2, rfl⟩)
  refine (same_node (eqN (gp es1) (gp es2) p) N1 N2 ?_).mono ?_
  · intro d1 d2 W s x y xd yd xp yp hg hx hy hat hh hat2
    obtain ⟨e1, a1⟩ := kid_at h1 f1 g1 d1 s
    obtain ⟨e2, a2⟩ := kid_at h2 f2 g2 d2 s
    have hh1 : has s1.D (keyL s) = true := has_true_of_atKey hat
    rw [e1] at hh1
    rw [e2] at hh
    obtain ⟨t1, ht1⟩ := Option.isSome_iff_exists.1 hh1
    obtain ⟨t2, ht2⟩ := Option.isSome_iff_exists.1 hh
    have hx1 : xd = ptrD (some t1.nb) := (hat .nil).symm.trans (a1 t1 ht1 .nil)
    have hy1 : yd = ptrD (some t2.nb) := hat2.symm.trans (a2 t2 ht2 .nil)
    obtain ⟨o, rfl, ho⟩ := ptrR_inv hx
    obtain ⟨o2, rfl, ho2⟩ := ptrR_inv hy
    rw [hx1] at ho
    rw [hy1] at ho2
    rw [← ptrD_inj ho, ← ptrD_inj ho2]
    have hq : eqN (gp es1) (gp es2) p xd yd = decide (SB (gp es1) (gp es2) (p ++ [s])) := by
      unfold eqN
      rw [hx1, hy1]
      refine decide_eq_decide.2 ⟨?_, fun h => ⟨s, t1, t2, ht1, ht2, rfl, rfl, h⟩⟩
      rintro ⟨x', u1, u2, hu1, hu2, c1, c2, hSB⟩
      have hn := Option.some.inj (ptrD_inj c1)
      rw [path_inj n1 (gp_mem ht1) (gp_mem hu1) hn]
      exact hSB
    rw [hq]
    exact ih s t1 t2 ht1 ht2 W hg
  · rintro e w' ⟨rfl, hg⟩
    refine ⟨?_, hg⟩
    have key : sameN (eqN (gp es1) (gp es2) p) s1 s2 = decide (SB (gp es1) (gp es2) p) := by
      unfold sameN
      rw [Bool.eq_iff_iff, Bool.and_eq_true, Bool.and_eq_true, decide_eq_true_eq, decide_eq_true_eq, decide_eq_true_eq, SB_iff g1 g2]
      constructor
      · rintro ⟨⟨hd, hdat⟩, hm⟩
        refine ⟨by unfold kd; rw [hd, hdat], fun x => ?_⟩
        by_cases h : s1.dir = true
        · rw [if_pos h] at hm
          have o1 := (N1.kids h).2
          have o2 := (N2.kids (hd ▸ h)).2
          rw [equal_iff (o1.entries law9) (o2.entries law9) (own_keys o1) (own_keys o2)] at hm
          obtain ⟨hh, hm⟩ := hm x
          obtain ⟨e1, a1⟩ := kid_at h1 f1 g1 h x
          obtain ⟨e2, a2⟩ := kid_at h2 f2 g2 (hd ▸ h) x
          rw [e1, e2] at hh
          cases hgx : gp es1 (p ++ [x]) with
          | none =>
            rw [hgx] at hh
            exact SB_none f1 f2 hgx (by cases hq : gp es2 (p ++ [x]) <;> simp_all)
          | some t1 =>
            rw [hgx] at hh
            obtain ⟨t2, ht2⟩ := Option.isSome_iff_exists.1 hh.symm
            have hm := hm (by rw [e1, hgx]; rfl)
            rw [a1 t1 hgx, a2 t2 ht2] at hm
            unfold eqN at hm
            obtain ⟨x', u1, u2, hu1, hu2, c1, c2, hSB⟩ := of_decide_eq_true hm
            rw [path_inj n1 (gp_mem hgx) (gp_mem hu1) (Option.some.inj (ptrD_inj c1))]
            exact hSB
        · have hf : s1.dir = false := by simpa using h
          exact SB_none f1 f2 (f1.none_below (fun d hd2 => by rw [g1] at hd2; cases hd2; exact hf) x) (f2.none_below (fun d hd2 => by rw [g2] at hd2; cases hd2; rw [← hd]; exact hf) x)
      · rintro ⟨hk, hx⟩
        have hd : s1.dir = s2.dir := congrArg Prod.fst hk
        refine ⟨⟨hd, congrArg Prod.snd hk⟩, ?_⟩
        by_cases h : s1.dir = true
        · rw [if_pos h]
          have o1 := (N1.kids h).2
          have o2 := (N2.kids (hd ▸ h)).2
          refine (equal_iff (o1.entries law9) (o2.entries law9) (own_keys o1) (own_keys o2)).2 fun x => ?_
          have hb := hx x []
          rw [List.append_nil] at hb
          obtain ⟨e1, a1⟩ := kid_at h1 f1 g1 h x
          obtain ⟨e2, a2⟩ := kid_at h2 f2 g2 (hd ▸ h) x
          have hs : (gp es1 (p ++ [x])).isSome = (gp es2 (p ++ [x])).isSome := by
            have := congrArg Option.isSome hb
            rwa [Option.isSome_map, Option.isSome_map] at this
          refine ⟨by rw [e1, e2, hs], fun hh => ?_⟩
          rw [e1] at hh
          obtain ⟨t1, ht1⟩ := Option.isSome_iff_exists.1 hh
          rw [hs] at hh
          obtain ⟨t2, ht2⟩ := Option.isSome_iff_exists.1 hh
          unfold eqN
          exact decide_eq_true ⟨x, t1, t2, ht1, ht2, a1 t1 ht1 _, a2 t2 ht2 _, hx x⟩
        · rw [if_neg h]
    rw [key]
theorem same_any (n1 : ((es1.map (·.2)).flatMap blks).Nodup) (n2 : ((es2.map (·.2)).flatMap blks).Nodup) (f1 : WfF (gp es1)) (f2 : WfF (gp es2)) :
    ∀ (k : Nat) (p : Path) (s1 s2 : Sh), gp es1 p = some s1 → gp es2 p = some s2 → (∀ q s, gp es1 q = some s → q.length ≤ p.length + k) → ∀ w, Sto Tryz.prog 85 9 w B1 (es1.map (·.2)) → Sto Tryz.prog 85 9 w B2 (es2.map (·.2)) →
      Calls Tryz.prog 27 #[.pointer (some ⟨s1.nb, 0, none⟩), .pointer (some ⟨s2.nb, 0, none⟩)] w fun e w' => e = .returned (.bool (decide (SB (gp es1) (gp es2) p))) ∧ w.grownBy w' none := by
  intro k
  induction k with
  | zero =>
    intro p s1 s2 g1 g2 hk w h1 h2
    refine same_step n1 n2 f1 f2 g1 g2 h1 h2 fun x t1 t2 ht1 ht2 W hg => ?_
    have := hk _ _ ht1
    rw [List.length_append, List.length_singleton] at this
    omega
  | succ k ih =>
    intro p s1 s2 g1 g2 hk w h1 h2
    refine same_step n1 n2 f1 f2 g1 g2 h1 h2 fun x t1 t2 ht1 ht2 W hg => ?_
    have hb := grown_below hg
    refine ih (p ++ [x]) t1 t2 ht1 ht2 (fun q s hq => ?_) W (h1.below hb) (h2.below hb)
    have := hk q s hq
    rw [List.length_append, List.length_singleton]
    omega
end
end Go.Proofs.YtpdcjdangnfeiaaGreatDoor.Wc
end
