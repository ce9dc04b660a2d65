/- maps.EqualFunc over the trees' own maps. -/
import Derived.Test.YtpdcjdangnfeiaaDoorM9
import Derived.Lib.SlMapEqual
import Derived.Maps.RangeWalk
import Derived.Maps.OwnSet
import Derived.Shelf.SlMaps.Copy
import Derived.Deep.LoopGhost
namespace Go.Proofs.YtpdcjdangnfeiaaDoor.Wa
open Go Go.Maps Go.RowKit Go.Proofs.YtpdcjdangnfeiaaDoor.Pb Go.Proofs.YtpdcjdangnfeiaaDoor.PPth Go.Proofs.YtpdcjdangnfeiaaDoorW.PrintWords Go.Proofs.YtpdcjdangnfeiaaDoorW.PrintLast Go.Proofs.YtpdcjdangnfeiaaDoorW.PrintMore Go.Proofs.YtpdcjdangnfeiaaDoor.Ta Go.Proofs.YtpdcjdangnfeiaaDoor.Tb Go.Proofs.YtpdcjdangnfeiaaDoor.Tc Go.Proofs.YtpdcjdangnfeiaaDoor.Te Go.Proofs.YtpdcjdangnfeiaaDoor.Tf Go.Proofs.YtpdcjdangnfeiaaDoor.Qa Go.Proofs.YtpdcjdangnfeiaaDoor.Qb Go.Proofs.YtpdcjdangnfeiaaDoor.Qc Go.Proofs.YtpdcjdangnfeiaaDoor.Qd Go.Proofs.YtpdcjdangnfeiaaDoor.Qe Go.Proofs.YtpdcjdangnfeiaaDoor.Qf Go.Proofs.YtpdcjdangnfeiaaDoor.Ua Go.Proofs.YtpdcjdangnfeiaaDoor.Ub Go.Proofs.YtpdcjdangnfeiaaDoor.Uc Go.Proofs.YtpdcjdangnfeiaaDoor.Ud Go.Proofs.YtpdcjdangnfeiaaDoor.Ue Go.Proofs.YtpdcjdangnfeiaaDoor.Uf Go.Proofs.YtpdcjdangnfeiaaDoor.Ba Go.Proofs.YtpdcjdangnfeiaaDoor.Ug Go.Proofs.YtpdcjdangnfeiaaDoor.Uh Go.Proofs.YtpdcjdangnfeiaaDoor.Ui Go.Proofs.YtpdcjdangnfeiaaDoor.Uj Go.Proofs.YtpdcjdangnfeiaaDoor.Uk Go.Proofs.YtpdcjdangnfeiaaDoor.Ul Go.Proofs.YtpdcjdangnfeiaaDoor.Um Go.Proofs.YtpdcjdangnfeiaaDoor.Un Go.Proofs.YtpdcjdangnfeiaaDoor.Uo Go.Proofs.YtpdcjdangnfeiaaDoor.Up Go.Proofs.YtpdcjdangnfeiaaDoor.Uq Go.Proofs.YtpdcjdangnfeiaaDoor.Ur Go.Proofs.YtpdcjdangnfeiaaDoor.Us Go.Proofs.YtpdcjdangnfeiaaDoor.Ut Go.Proofs.YtpdcjdangnfeiaaDoor.Uu Go.Proofs.YtpdcjdangnfeiaaDoor.Uv Go.Proofs.YtpdcjdangnfeiaaDoor.Uw Go.Proofs.YtpdcjdangnfeiaaDoor.Ux Go.Proofs.YtpdcjdangnfeiaaDoor.Uy Go.Proofs.YtpdcjdangnfeiaaDoor.Uz Go.Proofs.YtpdcjdangnfeiaaDoor.Va Go.Proofs.YtpdcjdangnfeiaaDoor.Vb Go.Proofs.YtpdcjdangnfeiaaDoor.Vc Go.Proofs.YtpdcjdangnfeiaaDoor.Vd Go.Proofs.YtpdcjdangnfeiaaDoor.Ve
theorem keyS_inv (key : Value) (kl : Lit) (h : keyOf Tryd.prog 9 key = some kl) : ∃ x, key = .string x := by
  cases key <;> simp [keyOf, Tryd.underlying9, mapKey] at h
  exact ⟨_, rfl⟩
theorem keyS_eq {x : ByteArray} {kl : Lit} (h : keyOf Tryd.prog 9 (.string x) = some kl) : kl = keyL x := by
  simp [keyOf, Tryd.underlying9, mapKey] at h
  exact h.2.symm
theorem ptrR_inv1 {v : Value} {y : DataW Nat × List MemPlace} (h : ptrR v = some y) : ∃ o, v = ptrV o := by
  obtain ⟨d, ps⟩ := y
  obtain ⟨o, h1, -⟩ := ptrR_inv h
  exact ⟨o, h1⟩
set_option maxHeartbeats 4000000 in
set_option maxRecDepth 1000000 in
theorem equal_maps (eqd : DataW Nat → DataW Nat → Bool) (b1 b2 n1 n2 : Nat) (D1 D2 : DataW Nat) (w : World) (h1 : w.ownsMap Tryd.prog 9 ptrR b1 n1 D1) (h2 : w.ownsMap Tryd.prog 9 ptrR b2 n2 D2)
    (heq : ∀ (W : World) (s : ByteArray) (x y : Value) (xd yd : DataW Nat) (xp yp : List MemPlace), w.grownBy W none → ptrR x = some (xd, xp) → ptrR y = some (yd, yp) → (∀ zd, D1.atKey (keyL s) zd = xd) → has D2 (keyL s) = true → D2.atKey (keyL s) .nil = yd →
      Calls Tryd.prog 30 #[x, y] W fun e w' => e = .returned (.bool (eqd xd yd)) ∧ W.grownBy w' none) :
    Calls Tryd.prog 45 #[.map (some b1), .map (some b2), .func (.func 30) #[] #[]] w fun e w' => e = .returned (.bool (Lib.equalFuncD eqd D1 D2)) ∧ w.grownBy w' none := by
  have l1 := fun ty => h1.len (t := 65) Tryd.underlying65 ty
  have l2 := fun ty => h2.len (t := 65) Tryd.underlying65 ty
  obtain ⟨es1, rfl, hap, hkeys⟩ := h1.entries law9
  have hb2 := h2.lt
  have HQ := Lib.hid heq
  clear heq
  generalize hres : Lib.equalFuncD eqd (.map es1) D2 = res
  have RES := Lib.hid hres
  clear hres
  by_cases hsz : Maps.size (.map es1 : DataW Nat) = Maps.size D2
  · go_enter Tryd.func45, Tryd.ntmps45
    go_wp2_with (first
      | (at_range; refine wpList_range_own _ rfl _ 65 rfl 9 56 law9 Tryd.underlying65 ptrR b1 n1 _ rfl h1 ?_; intro w0 hrg0 hg0 hs0)
      | go_in)
    go_frame
    go_loopw [18] (fun _ wr => ∃ (left : Lit → Bool) (cnt : Nat), wr.ranges Tryd.prog 9 ptrR b1 w.heap.size n1 (.map es1) left cnt ∧ wr.ownsMap Tryd.prog 9 ptrR b2 n2 D2 ∧ w.grownBy wr none ∧ Hid (GoodAt eqd es1 D2 left))
      (fun _ wr => wr.rangeLeft b1 w.heap.size)
    case atStart => exact ⟨_, _, hrg0, h2.kept hg0 (by simp), hg0, Lib.hid (good_start hkeys D2)⟩
    case round =>
      obtain ⟨left, cnt, hrg, h2r, hgw, G⟩ := hrel
      go_wp2_with (first
        | (at_next; refine wpList_next_ranges _ rfl _ rfl 9 law9 ptrR Value.string ptrV keyS_inv (fun v y h => ptrR_inv1 h) b1 w.heap.size n1 _ _ _ rfl hrg ?_ ?_)
        | go_in)
      · intro _ hl0
        go_wp2
        go_ret
        exact ⟨by rw [← RES.out, all_good G.out hl0 hsz]; rfl, hgw⟩
      · intro x c kl yd yp w1 cnt1 hkey hlx hv hat hrg1 hlt hg1 hs1 hen
        obtain rfl : kl = keyL x := keyS_eq hkey
        have hgw1 : w.grownBy w1 none := hgw.andThen hg1 (fun j hj => by cases hj; exact Or.inl (Nat.le_refl _))
        have h2w1 := h2r.kept hg1 (fun e => by have := Option.some.inj e; omega)
        have HAT := Lib.hid hat
        clear hat
        cases hh : Maps.has D2 (keyL x)
        · have hbad : Lib.goodD eqd D2 (keyL x, yd) = false := by unfold Lib.goodD; rw [hh]; rfl
          go_wp2_with (first
            | (at_lookup; refine wpList_lookup_own_ok _ rfl _ _ 65 rfl 9 56 law9 Tryd.underlying65 ptrR (Tryd.zeroValue56 _) .nil [] rfl b2 n2 D2 rfl h2w1 _ (keyL x) rfl hkey ?_; intro v2 ps2 hv2; rw [hh]; go_frame)
            | go_in)
          go_ret
          exact ⟨by rw [← RES.out, bad_false hap hkeys HAT.out hbad]; rfl, hgw1⟩
        · cases he : eqd yd (D2.atKey (keyL x) .nil)
          · skip
            have hbad : Lib.goodD eqd D2 (keyL x, yd) = false := by unfold Lib.goodD; rw [hh, he]; rfl
            go_wp2_with (first
              | (at_lookup; refine wpList_lookup_own_ok _ rfl _ _ 65 rfl 9 56 law9 Tryd.underlying65 ptrR (Tryd.zeroValue56 _) .nil [] rfl b2 n2 D2 rfl h2w1 _ (keyL x) rfl hkey ?_; intro v2 ps2 hv2; rw [hh]; go_frame; have hc := HQ.out w1 x _ v2 yd _ yp ps2 hgw1 hv hv2 HAT.out hh rfl; rw [he] at hc)
              | fail)
            refine hc.mono ?_
            rintro e w2 ⟨rfl, hg2⟩
            go_wp2
            go_ret
            exact ⟨by rw [← RES.out, bad_false hap hkeys HAT.out hbad]; rfl, hgw1.andThen hg2 (fun j hj => by cases hj)⟩
          · skip
            have hgood : Lib.goodD eqd D2 (keyL x, yd) = true := by unfold Lib.goodD; rw [hh, he]; rfl
            go_wp2_with (first
              | (at_lookup; refine wpList_lookup_own_ok _ rfl _ _ 65 rfl 9 56 law9 Tryd.underlying65 ptrR (Tryd.zeroValue56 _) .nil [] rfl b2 n2 D2 rfl h2w1 _ (keyL x) rfl hkey ?_; intro v2 ps2 hv2; rw [hh]; go_frame; have hc := HQ.out w1 x _ v2 yd _ yp ps2 hgw1 hv hv2 HAT.out hh rfl; rw [he] at hc)
              | fail)
            refine hc.mono ?_
            rintro e w2 ⟨rfl, hg2⟩
            go_wp2
            have hrg2 := hrg1.kept hg2 (by simp) (by simp)
            go_roundw
            case rel => exact ⟨_, cnt1, hrg2, h2w1.kept hg2 (by simp), hgw1.andThen hg2 (fun j hj => by cases hj), Lib.hid (good_step hap hkeys HAT.out G.out hgood)⟩
            case measure => rw [hrg2.left_eq, hrg.left_eq]; exact hlt
  · have hne : ¬ ((Maps.size (.map es1 : DataW Nat) : Int) = (Maps.size D2 : Int)) := fun e => hsz (by exact_mod_cast e)
    go_enter Tryd.func45, Tryd.ntmps45
    go_wp2
    go_ret
    exact ⟨by rw [← RES.out, sizes_false hsz]; rfl, World.grownBy.refl _ _⟩
end Go.Proofs.YtpdcjdangnfeiaaDoor.Wa
