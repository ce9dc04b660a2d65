/- maps.Clone of a tree's map; a node's twin walked. A whole tree's twin. Walk: (*node).walk hands each path below to yield, in order. (*node).walk walked. Walk, and what its function value hands to a loop. -/
import Derived.Test.YtpdcjdangnfeiaaGreatDoorZo
import Derived.Maps.RangeWalk
import Derived.Maps.OwnSet
import Derived.Shelf.SlMaps.Clone
import Derived.Deep.LoopGhost
import Derived.Deep.RegionHeld3
import Derived.RangeFuncNested
import Derived.RangeFuncBound
import Derived.RangeFuncLeaves
import Derived.WalkKit
import Derived.TacticsInMore
import Derived.ControlIn
import Derived.Laws.Concat
section
open Go Go.Maps Go.RowKit Go.Proofs.YtpdcjdangnfeiaaGreatDoor.Pb Go.Proofs.YtpdcjdangnfeiaaGreatDoor.PPth Go.Proofs.YtpdcjdangnfeiaaGreatDoorW.PrintWords Go.Proofs.YtpdcjdangnfeiaaGreatDoorW.PrintLast Go.Proofs.YtpdcjdangnfeiaaGreatDoorW.PrintMore Go.Proofs.YtpdcjdangnfeiaaGreatDoor.Ta Go.Proofs.YtpdcjdangnfeiaaGreatDoor.Tb Go.Proofs.YtpdcjdangnfeiaaGreatDoor.Tc Go.Proofs.YtpdcjdangnfeiaaGreatDoor.Te Go.Proofs.YtpdcjdangnfeiaaGreatDoor.Tf Go.Proofs.YtpdcjdangnfeiaaGreatDoor.Qa Go.Proofs.YtpdcjdangnfeiaaGreatDoor.Qb Go.Proofs.YtpdcjdangnfeiaaGreatDoor.Qc Go.Proofs.YtpdcjdangnfeiaaGreatDoor.Qd Go.Proofs.YtpdcjdangnfeiaaGreatDoor.Qe Go.Proofs.YtpdcjdangnfeiaaGreatDoor.Qf Go.Proofs.YtpdcjdangnfeiaaGreatDoor.Ua Go.Proofs.YtpdcjdangnfeiaaGreatDoor.Ub Go.Proofs.YtpdcjdangnfeiaaGreatDoor.Uc Go.Proofs.YtpdcjdangnfeiaaGreatDoor.Ud Go.Proofs.YtpdcjdangnfeiaaGreatDoor.Ue Go.Proofs.YtpdcjdangnfeiaaGreatDoor.Uf Go.Proofs.YtpdcjdangnfeiaaGreatDoor.Ba Go.Proofs.YtpdcjdangnfeiaaGreatDoor.Ug Go.Proofs.YtpdcjdangnfeiaaGreatDoor.Uh Go.Proofs.YtpdcjdangnfeiaaGreatDoor.Ui Go.Proofs.YtpdcjdangnfeiaaGreatDoor.Uj Go.Proofs.YtpdcjdangnfeiaaGreatDoor.Uk Go.Proofs.YtpdcjdangnfeiaaGreatDoor.Ul Go.Proofs.YtpdcjdangnfeiaaGreatDoor.Um Go.Proofs.YtpdcjdangnfeiaaGreatDoor.Un Go.Proofs.YtpdcjdangnfeiaaGreatDoor.Uo Go.Proofs.YtpdcjdangnfeiaaGreatDoor.Up Go.Proofs.YtpdcjdangnfeiaaGreatDoor.Uq Go.Proofs.YtpdcjdangnfeiaaGreatDoor.Ur Go.Proofs.YtpdcjdangnfeiaaGreatDoor.Us Go.Proofs.YtpdcjdangnfeiaaGreatDoor.Ut Go.Proofs.YtpdcjdangnfeiaaGreatDoor.Uu Go.Proofs.YtpdcjdangnfeiaaGreatDoor.Uv Go.Proofs.YtpdcjdangnfeiaaGreatDoor.Uw Go.Proofs.YtpdcjdangnfeiaaGreatDoor.Ux Go.Proofs.YtpdcjdangnfeiaaGreatDoor.Uy Go.Proofs.YtpdcjdangnfeiaaGreatDoor.Uz Go.Proofs.YtpdcjdangnfeiaaGreatDoor.Va Go.Proofs.YtpdcjdangnfeiaaGreatDoor.Vb Go.Proofs.YtpdcjdangnfeiaaGreatDoor.Vc Go.Proofs.YtpdcjdangnfeiaaGreatDoor.Vd Go.Proofs.YtpdcjdangnfeiaaGreatDoor.Ve Go.Proofs.YtpdcjdangnfeiaaGreatDoor.Wa Go.Proofs.YtpdcjdangnfeiaaGreatDoor.Wb Go.Proofs.YtpdcjdangnfeiaaGreatDoor.Wc Go.Proofs.YtpdcjdangnfeiaaGreatDoor.Wd Go.Proofs.YtpdcjdangnfeiaaGreatDoor.We
namespace Go.Proofs.YtpdcjdangnfeiaaGreatDoor.Wg
theorem call68 {W : World} {b : Nat} {es : Array MapEntry} {clock : Nat} (hW : W.heap[b]? = some (.map es clock)) : (callFunc 85 #[.iface 83 (.map (some b))]).run Tryz.prog W = .ok (.value (.iface 83 (.map (some W.heap.size)))) (W.alloc (.map es clock)) := by
  rw [run_callFunc_extern Tryz.func85 (by kernel_rfl) (by kernel_rfl) (by kernel_rfl) (e := Extern.MapsClone.clone) (by kernel_rfl), run_maps_clone_sl W 83 hW]
  rfl
set_option maxHeartbeats 1000000 in
set_option maxRecDepth 100000 in
theorem clone_map (b n : Nat) (D : DataW Nat) (w : World) (h : w.ownsMap Tryz.prog 9 ptrR b n D) :
    Calls Tryz.prog 55 #[.map (some b)] w fun e w' => e = .returned (.map (some w.heap.size)) ∧ w'.ownsMap Tryz.prog 9 ptrR w.heap.size n D ∧ Below w.heap.size w w' ∧ w'.heap.size = w.heap.size + 1 := by
  obtain ⟨es, clock, hb, F, hs, hD⟩ := h
  have hq := fun w => run_eql_map_nil_sl (P := Tryz.prog) w 83 9 52 (some b) Tryz.underlying83
  have h68 := call68 hb
  have HO := Lib.hid (show (w.alloc (.map es clock)).ownsMap Tryz.prog 9 ptrR w.heap.size n D from ⟨es, clock, (MapKept.heap_alloc w _).1, F, hs, hD⟩)
  have HB := Lib.hid ((Below.refl _ w).alloc (Nat.le_refl _) (.map es clock))
  clear hb F hs hD
  go_enter Tryz.func55, Tryz.ntmps55
  go_wp2
  rw [run_typeAssert_map_sl _ 83 20 9 52 _ Tryz.underlying83]
  simp only [Result.andThen]
  rw [Oper.upon_value]
  go_wp2
  go_ret
  exact ⟨rfl, HO.out, HB.out, by simp⟩
set_option maxHeartbeats 1000000 in
set_option maxRecDepth 100000 in
theorem clone_nilmap (w : World) : Calls Tryz.prog 55 #[.map none] w fun e w' => e = .returned (.map none) ∧ w' = w := by
  have hq := fun w => run_eql_map_nil_sl (P := Tryz.prog) w 83 9 52 none Tryz.underlying83
  go_enter Tryz.func55, Tryz.ntmps55
  go_wp2
  go_ret
  exact ⟨rfl, rfl⟩
/-- What the twin of a node is. -/
def TwPost (w : World) (es : Es) (p : Path) (e : Ending) (w' : World) : Prop := ∃ nb fs, e = .returned (.pointer (some ⟨nb, 0, none⟩)) ∧ Tw w' w.heap.size nb es p fs ∧ Below w.heap.size w w'
section
variable {w : World} {B : Nat} {es : Es} {p : Path} {d : Sh}
set_option maxHeartbeats 4000000 in
set_option maxRecDepth 1000000 in
theorem twin_file (ho : Nd w B d) (hw : WfF (gp es)) (hg : gp es p = some d) (hd : d.dir = false) (hl : d.data.length ≤ 100000000) : Calls Tryz.prog 26 #[.pointer (some ⟨d.nb, 0, none⟩)] w (TwPost w es p) := by
  obtain ⟨dv, hc, hv⟩ := ho.cells
  obtain ⟨A, c, rfl, hcap, hr⟩ := rd_to hv
  have hk : kidsV d = .map none := by unfold kidsV; rw [if_neg (by simp [hd])]
  rw [hk, hd] at hc
  have hlt := ho.lt
  have a0 : w.cell? ⟨d.nb, 0, none⟩ = some (.bool false) := blk_cell hc 0
  have a1 : w.cell? ⟨d.nb, 1, none⟩ = some (.slice A d.data.length c) := blk_cell hc 1
  have a2 : w.cell? ⟨d.nb, 2, none⟩ = some (.map none) := blk_cell hc 2
  have a3 : w.cell? ⟨d.nb, 3, none⟩ = some (.int .i64 d.slots) := blk_cell hc 3
  have r1 := fun w => run_range_nilMap (P := Tryz.prog) w 83 9 52 Tryz.underlying83
  obtain ⟨O1, hO1⟩ : ∃ O1, Obj.cells #[.bool false, .slice A d.data.length c, .map none, .int .i64 d.slots] 85 = O1 := ⟨_, rfl⟩
  have hb1 : Below w.heap.size w (w.alloc O1) := (Below.refl _ w).alloc (Nat.le_refl _) O1
  have HR1 := Lib.hid (hr.below hb1)
  have HB1 := Lib.hid hb1
  have HC := Lib.hid hc
  have HW := Lib.hid hw
  have HG := Lib.hid hg
  have hne : d.nb ≠ w.heap.size := by omega
  have HL := Lib.hid hl
  have HCAP := Lib.hid hcap
  have HNEW := Lib.hid (Go.heap_alloc_new w O1)
  clear hr hb1 hw hg hc hk
  obtain ⟨sl, hsl⟩ : ∃ sl, d.slots = sl := ⟨_, rfl⟩
  rw [hsl] at hO1 a3 HC
  have HSL := Lib.hid hsl
  clear hsl
  go_enter Tryz.func26, Tryz.ntmps26
  go_wp2_with fail
  refine (clone_any A c d.data _ HR1.out HL.out).mono ?_
  rintro e w2 ⟨v, rfl, ho2, hb2⟩
  obtain ⟨A2, c2, rfl, hcap2, hrd2⟩ := rd_to (own_rd ho2)
  have HO2 := Lib.hid (own_rd ho2)
  have HB2 := Lib.hid (HB1.out.trans (hb2.mono (by simp)))
  have hU : w2.heap[w.heap.size]? = some (.cells #[.bool false, .slice A d.data.length c, .map none, .int .i64 sl] 85 (0, 0)) := by
    rw [hb2.block _ (by simp), HNEW.out, ← hO1]
  have b0 := blk_cell hU 0
  have b1 := blk_cell hU 1
  have b2 := blk_cell hU 2
  have b3 := blk_cell hU 3
  have f1 := blk_frozen hU 1
  have f2 := blk_frozen hU 2
  have a2' := keepC HB2.out a2
  have HU := Lib.hid hU
  have HA2 := Lib.hid a2
  clear a0 a1 a2 a3 ho2 hb2 hU hcap2 hrd2
  go_wp2_with fail
  refine (clone_nilmap _).mono ?_
  rintro e w3 ⟨rfl, rfl⟩
  obtain ⟨W3, hW3⟩ : ∃ W3, (w2.setCell ⟨w.heap.size, 1, none⟩ (.slice A2 d.data.length c2)).setCell ⟨w.heap.size, 2, none⟩ (.map none) = W3 := ⟨_, rfl⟩
  have hsz : W3.heap.size = w2.heap.size := by rw [← hW3]; simp
  have r2 := fun ty => run_next_nilMap (P := Tryz.prog) W3 ty 0 0 #[]
  rw [hsz] at r2
  have hb3 : Below w.heap.size w2 W3 := hW3 ▸ ((Below.refl w.heap.size w2).setCell (Nat.le_refl _) _).setCell (Nat.le_refl _) _
  have a3' := keepC (HB2.out.trans hb3) HA2.out
  go_wp2_with fail
  go_loopw [4, 5] (fun _ _ wr => wr = W3.alloc (.mapIter none 0 #[] 0)) (fun _ _ _ => 0)
  case atStart => rfl
  case round =>
    subst hrel
    go_wp2
    go_ret
    have hN : NoB w2 w.heap.size := noB_cells HU.out (by simp)
    have hf : Fr w2 W3 (fun b => b = w.heap.size) := hW3 ▸ Ue.Fr.cell2 _ _ hN
    have hb4 : Below W3.heap.size W3 (W3.alloc (.mapIter none 0 #[] 0)) := (Below.refl _ _).alloc (Nat.le_refl _) _
    have hcl : W3.heap[w.heap.size]? = some (.cells #[.bool false, .slice A2 d.data.length c2, .map none, .int .i64 sl] 85 (0, 0)) := by
      rw [← hW3]
      exact (blk_set (blk_set HU.out 1 _) 2 _).trans rfl
    have hnd : Nd W3 w.heap.size ⟨w.heap.size, false, d.data, 0, sl, .map []⟩ := ⟨Nat.le_refl _, ⟨_, hcl, HO2.out.fr hf⟩, fun h => by cases h⟩
    refine ⟨w.heap.size, _, rfl, tw_file (r := ⟨w.heap.size, false, d.data, 0, sl, .map []⟩) HW.out HG.out hd ⟨rfl, rfl, ?_⟩ rfl (Nd.below hnd hb4), (HB2.out.trans hb3).trans (hb4.mono ?_)⟩
    · exact HSL.out.symm
    · rw [hsz]; exact HB2.out.size
theorem fr_grown {w w' : World} {j : Nat} (h : w.grownBy w' (some j)) (hn : NoB w j) : Fr w w' (fun b => b = j) :=
  ⟨h.size, fun i hi hne => h.block i hi (fun e => hne (Option.some.inj e)), fun i hi _ => by rw [hi]; exact hn⟩
theorem below_some {w w' : World} {base j : Nat} (h : w.grownBy w' (some j)) (hj : base ≤ j) (hb : base ≤ w.heap.size) : Below base w w' :=
  ⟨h.os, h.tape, h.output, h.size, fun k hk => h.block k (by omega) (fun e => by have := Option.some.inj e; omega)⟩
theorem noB_iter {w : World} {P : Program} {k : TypeId} {R : Value → Option (DataW Nat × List MemPlace)} {b r n cnt : Nat} {D : DataW Nat} {left : Lit → Bool} (h : w.ranges P k R b r n D left cnt) : NoB w r := by
  obtain ⟨es, clock, since, seen, c0, hb, _, _, _, hr, _⟩ := h
  intro o y hc
  simp [World.cell?, hr] at hc
theorem sto_fr_lt {w w' : World} {S1 j : Nat} {σ : List Sh} (h : Sto Tryz.prog 85 9 w S1 σ) (hf : Fr w w' (fun b => b = j)) (hj : j < S1) : Sto Tryz.prog 85 9 w' S1 σ :=
  h.fr hf fun i hi s hs hb => by
    have h1 := (Tc.Ok.blk_lt (h.ok s hs) i hb).2.2
    have : i = j := hi
    omega
/-- The twin's loop under way. -/
structure TwLoop (w wr : World) (nb mb : Nat) (es : Es) (p : Path) (d : Sh) (v : Value) (left left' : Lit → Bool) (cnt : Nat) (D' : DataW Nat) (acc : Es) : Prop where
  rg : wr.ranges Tryz.prog 9 ptrR d.mb (mb + 1) (size d.D) d.D left' cnt
  own : wr.ownsMap Tryz.prog 9 ptrR mb (size D') D'
  cell : wr.heap[nb]? = some (.cells #[.bool true, v, .map (some mb), .int .i64 d.slots] 85 (0, 0))
  rd : Rd wr v d.data
  low : Below w.heap.size w wr
  ac : Acc es p d.D D' left acc
  sto : Sto Tryz.prog 85 9 wr (mb + 2) (acc.map (·.2))
section
variable {wr w1 w3 w4 : World} {nb mb cnt cnt1 : Nat} {v : Value} {left left' left2 : Lit → Bool} {D' : DataW Nat} {acc : Es}
theorem TwLoop.next (T : TwLoop w wr nb mb es p d v left left' cnt D' acc) (hnb : w.heap.size ≤ nb) (hmb : nb < mb) (rg : w1.ranges Tryz.prog 9 ptrR d.mb (mb + 1) (size d.D) d.D left2 cnt1) (hg : wr.grownBy w1 (some (mb + 1))) :
    TwLoop w w1 nb mb es p d v left left2 cnt1 D' acc := by
  have hf := fr_grown hg (noB_iter T.rg)
  have hlt : nb < wr.heap.size := (Array.getElem?_eq_some_iff.1 T.cell).1
  exact ⟨rg, T.own.kept hg (by intro e; have := Option.some.inj e; omega), (hf.block nb hlt (by intro e; have : nb = mb + 1 := e; omega)).trans T.cell, T.rd.fr hf, T.low.trans (below_some hg (by omega) T.low.size), T.ac, sto_fr_lt T.sto hf (by omega)⟩
theorem TwLoop.store (T : TwLoop w w1 nb mb es p d v left left2 cnt1 D' acc) (hd : d.mb < w.heap.size) (hnb : w.heap.size ≤ nb) (hmb : nb < mb) {x : ByteArray} {fs : Es} {kb n' : Nat} (hl : left (keyL x) = true) (hD : has d.D (keyL x) = true)
    (hb : Below w1.heap.size w1 w3) (t : Tw w3 w1.heap.size kb es (p ++ [x]) fs) (ho4 : w4.ownsMap Tryz.prog 9 ptrR mb n' (D'.put (keyL x) (ptrD (some kb)))) (hg4 : w3.grownBy w4 (some mb)) :
    TwLoop w w4 nb mb es p d v (fun z => left z && !z.sameKey (keyL x)) left2 cnt1 (D'.put (keyL x) (ptrD (some kb))) (under x fs ++ acc) := by
  have hg3 : w1.grownBy w3 none := ⟨hb.os, hb.tape, hb.output, hb.size, fun k hk _ => hb.block k hk⟩
  have rg3 := T.rg.kept hg3 (by simp) (by simp)
  have own3 := T.own.kept hg3 (by simp)
  have hf := fr_grown hg4 (noB_own own3)
  have hlt : nb < w1.heap.size := (Array.getElem?_eq_some_iff.1 T.cell).1
  have hmb1 := T.rg.lt
  have f3 : Fr w1 w3 (fun _ => False) := Fr.of_below hb _ (fun _ h => h.elim)
  have sacc : Sto Tryz.prog 85 9 w4 (mb + 2) (acc.map (·.2)) := sto_fr_lt (T.sto.below hb) hf (by omega)
  have sfs : Sto Tryz.prog 85 9 w4 w1.heap.size (fs.map (·.2)) := sto_fr_lt t.sto hf (by omega)
  refine ⟨rg3.kept hg4 (by intro e; have := Option.some.inj e; omega) (by intro e; have := Option.some.inj e; omega), own_size ho4, (hf.block nb (by have := hb.size; omega) (by intro e; have : nb = mb := e; omega)).trans ((hb.block nb hlt).trans T.cell), (T.rd.fr f3).fr hf, (T.low.trans (hb.mono T.low.size)).trans (below_some hg4 (by omega) (Nat.le_trans T.low.size hb.size)), T.ac.step hl hD t, ?_⟩
  rw [List.map_append, under_snd]
  refine Sto.append (Sto.low sfs (by omega)) sacc fun s hs s2 hs2 b hb1 hb2 => ?_
  have h1 := (Tc.Ok.blk_lt (sfs.ok s hs) b hb1).2.2
  have h2 := (Tc.Ok.blk_lt ((T.sto).ok s2 hs2) b hb2).1
  omega
theorem TwLoop.done (T : TwLoop w wr nb mb es p d v left left' cnt D' acc) (hw : WfF (gp es)) (hg : gp es p = some d) (hd : d.dir = true) (hnb : w.heap.size ≤ nb) (hmb : nb < mb) (hl : ∀ k, left k = false) : ∃ fs, Tw wr w.heap.size nb es p fs := by
  refine ⟨_, T.ac.done (r := ⟨nb, true, d.data, mb, d.slots, D'⟩) hl hw hg hd ⟨rfl, rfl, rfl, rfl⟩ ?_⟩
  have ho : Nd wr w.heap.size ⟨nb, true, d.data, mb, d.slots, D'⟩ := ⟨hnb, ⟨v, T.cell, T.rd⟩, fun _ => ⟨by show w.heap.size ≤ mb; omega, T.own⟩⟩
  refine (Sto.low T.sto (by omega)).add ho ?_ fun x hx i hi hix => ?_
  · show ([nb, mb] : List Nat).Nodup
    simp
    omega
  · have h1 := (Tc.Ok.blk_lt (T.sto.ok x hx) i hix).2.2
    have h2 : i = nb ∨ i = mb := by simpa [blks] using hi
    omega
end
set_option maxHeartbeats 4000000 in
set_option maxRecDepth 1000000 in
theorem twin_dir (hs : Sto Tryz.prog 85 9 w B (es.map (·.2))) (hw : WfF (gp es)) (hg : gp es p = some d) (hd : d.dir = true) (hl : d.data.length ≤ 100000000) (hz : size d.D ≤ 1000000)
    (ih : ∀ x t, gp es (p ++ [x]) = some t → ∀ W, Sto Tryz.prog 85 9 W B (es.map (·.2)) → Calls Tryz.prog 26 #[.pointer (some ⟨t.nb, 0, none⟩)] W (TwPost W es (p ++ [x]))) :
    Calls Tryz.prog 26 #[.pointer (some ⟨d.nb, 0, none⟩)] w (TwPost w es p) := by
  have ho : Nd w B d := hs.ok d (List.mem_map.2 ⟨(p, d), gp_mem hg, rfl⟩)
  obtain ⟨dv, hc, hv⟩ := ho.cells
  obtain ⟨A, c, rfl, hcap, hr⟩ := rd_to hv
  have hk : kidsV d = .map (some d.mb) := by unfold kidsV; rw [if_pos hd]
  rw [hk, hd] at hc
  have hlt := ho.lt
  have hown := (ho.kids hd).2
  have hmlt := hown.lt
  have a0 : w.cell? ⟨d.nb, 0, none⟩ = some (.bool true) := blk_cell hc 0
  have a1 : w.cell? ⟨d.nb, 1, none⟩ = some (.slice A d.data.length c) := blk_cell hc 1
  have a2 : w.cell? ⟨d.nb, 2, none⟩ = some (.map (some d.mb)) := blk_cell hc 2
  have a3 : w.cell? ⟨d.nb, 3, none⟩ = some (.int .i64 d.slots) := blk_cell hc 3
  obtain ⟨O1, hO1⟩ : ∃ O1, Obj.cells #[.bool true, .slice A d.data.length c, .map (some d.mb), .int .i64 d.slots] 85 = O1 := ⟨_, rfl⟩
  have hb1 : Below w.heap.size w (w.alloc O1) := (Below.refl _ w).alloc (Nat.le_refl _) O1
  have HR1 := Lib.hid (hr.below hb1)
  have HB1 := Lib.hid hb1
  have HW := Lib.hid hw
  have HG := Lib.hid hg
  have HS := Lib.hid hs
  have HOWN := Lib.hid hown
  have HIH := Lib.hid ih
  have hne : d.nb ≠ w.heap.size := by omega
  have HL := Lib.hid hl
  have HNEW := Lib.hid (Go.heap_alloc_new w O1)
  have HDR := Lib.hid (hw.dr p d hg hd)
  clear hr hb1 hw hg hc hk hs ih ho hown hv
  go_enter Tryz.func26, Tryz.ntmps26
  go_wp2_with fail
  refine (clone_any A c d.data _ HR1.out HL.out).mono ?_
  rintro e w2 ⟨v, rfl, ho2, hb2⟩
  obtain ⟨A2, c2, rfl, hcap2, hrd2⟩ := rd_to (own_rd ho2)
  have HO2 := Lib.hid (own_rd ho2)
  have HB2 := Lib.hid (HB1.out.trans (hb2.mono (by simp)))
  have hU : w2.heap[w.heap.size]? = some (.cells #[.bool true, .slice A d.data.length c, .map (some d.mb), .int .i64 d.slots] 85 (0, 0)) := by
    rw [hb2.block _ (by simp), HNEW.out, ← hO1]
  have b1 := blk_cell hU 1
  have f1 := blk_frozen hU 1
  have a2' := keepC HB2.out a2
  have HA2 := Lib.hid a2
  obtain ⟨W3, hW3⟩ : ∃ W3, w2.setCell ⟨w.heap.size, 1, none⟩ (.slice A2 d.data.length c2) = W3 := ⟨_, rfl⟩
  have hsz3 : W3.heap.size = w2.heap.size := by rw [← hW3]; simp
  have hb3 : Below w.heap.size w W3 := HB2.out.trans (hW3 ▸ (Below.refl w.heap.size w2).setCell (Nat.le_refl _) _)
  have HB3 := Lib.hid hb3
  have HU3 := Lib.hid (show W3.heap[w.heap.size]? = some (.cells #[.bool true, .slice A2 d.data.length c2, .map (some d.mb), .int .i64 d.slots] 85 (0, 0)) by rw [← hW3]; exact (blk_set hU 1 _).trans rfl)
  have HF3 := Lib.hid (show Fr w2 W3 (fun b => b = w.heap.size) from hW3 ▸ Fr.cell _ (noB_cells hU (by simp)))
  have a3' := keepC hb3 a2
  have HSZ := Lib.hid hsz3
  have HLT2 := Lib.hid (show w.heap.size < w2.heap.size from (Array.getElem?_eq_some_iff.1 hU).1)
  clear a0 a1 a2 a3 ho2 hb2 hU hcap2 hrd2 hb3 hsz3
  go_wp2_with fail
  refine (clone_map d.mb (size d.D) d.D W3 (own_fr HOWN.out (Fr.of_below HB3.out (fun _ => False) (fun _ h => h.elim)) (fun h => h))).mono ?_
  rw [HSZ.out]
  obtain ⟨mb, hmb⟩ : ∃ mb, w2.heap.size = mb := ⟨_, rfl⟩
  rw [hmb]
  rintro e w4 ⟨rfl, ho4, hb4, hs4⟩
  have hwm : w.heap.size < mb := hmb ▸ HLT2.out
  have hb4' : Below W3.heap.size W3 w4 := by rw [HSZ.out, hmb]; exact hb4
  have hU4 : w4.heap[w.heap.size]? = some (.cells #[.bool true, .slice A2 d.data.length c2, .map (some d.mb), .int .i64 d.slots] 85 (0, 0)) := (hb4.block _ hwm).trans HU3.out
  have q2 := blk_cell hU4 2
  have g2 := blk_frozen hU4 2
  obtain ⟨W5, hW5⟩ : ∃ W5, w4.setCell ⟨w.heap.size, 2, none⟩ (.map (some mb)) = W5 := ⟨_, rfl⟩
  have hsz5 : W5.heap.size = mb + 1 := by rw [← hW5]; simp [hs4]
  have hb5 : Below w.heap.size w W5 := (HB3.out.trans (hb4.mono (Nat.le_of_lt hwm))).trans (hW5 ▸ (Below.refl w.heap.size w4).setCell (Nat.le_refl _) _)
  have HB5 := Lib.hid hb5
  have hN4 : NoB w4 w.heap.size := noB_cells hU4 (by simp)
  have hF5 : Fr w4 W5 (fun b => b = w.heap.size) := hW5 ▸ Fr.cell _ hN4
  have HU5 := Lib.hid (show W5.heap[w.heap.size]? = some (.cells #[.bool true, .slice A2 d.data.length c2, .map (some mb), .int .i64 d.slots] 85 (0, 0)) by rw [← hW5]; exact (blk_set hU4 2 _).trans rfl)
  have HRD5 := Lib.hid (show Rd W5 (.slice A2 d.data.length c2) d.data from (((HO2.out.fr HF3.out).fr (Fr.of_below hb4' (fun _ => False) (fun _ h => h.elim))).fr hF5))
  have HOM := Lib.hid (show W5.ownsMap Tryz.prog 9 ptrR mb (size d.D) d.D from own_fr ho4 hF5 (by intro e; have : mb = w.heap.size := e; omega))
  have HOW := Lib.hid (show W5.ownsMap Tryz.prog 9 ptrR d.mb (size d.D) d.D from own_fr HOWN.out (Fr.of_below hb5 (fun _ => False) (fun _ h => h.elim)) (fun h => h))
  have a5' := keepC hb5 HA2.out
  have HMB := Lib.hid hwm
  clear ho4 hb4 hb4' hs4 hU4 hb5 hN4 hF5
  go_wp2_with (first
    | (at_range; refine wpList_range_own _ rfl _ 83 rfl 9 52 law9 Tryz.underlying83 ptrR d.mb (size d.D) d.D rfl HOW.out ?_; intro w6 hrg6 hg6 hs6)
    | go_in)
  have hg6' : Below W5.heap.size W5 w6 := grown_below hg6
  have HT : Hid (TwLoop w w6 w.heap.size mb es p d (.slice A2 d.data.length c2) (has d.D) (has d.D) (size d.D) d.D []) := by
    rw [hsz5] at hrg6
    refine Lib.hid ⟨hrg6, HOM.out.kept hg6 (by simp), (hg6'.block _ (by rw [hsz5]; omega)).trans HU5.out, HRD5.out.fr (Fr.of_below hg6' (fun _ => False) (fun _ h => h.elim)), HB5.out.trans (hg6'.mono HB5.out.size), Acc.start es p HDR.out, ⟨(fun s hs => by cases hs), List.nodup_nil⟩⟩
  have HSZ5 := Lib.hid hsz5
  clear hrg6 hg6 hs6 hg6' hsz5
  go_frame
  go_loopw [4, 5] (fun _ _ wr => ∃ (left : Lit → Bool) (cnt : Nat) (D' : DataW Nat) (acc : Es), Hid (TwLoop w wr w.heap.size mb es p d (.slice A2 d.data.length c2) left left cnt D' acc)) (fun _ _ wr => wr.rangeLeft d.mb W5.heap.size)
  case atStart => exact ⟨_, _, _, _, HT⟩
  case round =>
    clear HT
    obtain ⟨left, cnt, D', acc, HT⟩ := hrel
    have hrg := HT.out.rg
    rw [← HSZ5.out] at hrg
    go_wp2_with (first
      | (at_next; refine wpList_next_ranges _ rfl _ rfl 9 law9 ptrR Value.string ptrV keyS_inv (fun v y h => ptrR_inv1 h) d.mb W5.heap.size (size d.D) _ _ _ rfl hrg ?_ ?_)
      | go_in)
    · intro _ hl0
      obtain ⟨fs, hfs⟩ := HT.out.done HW.out HG.out hd (Nat.le_refl _) HMB.out hl0
      have HFS := Lib.hid hfs
      clear hfs
      go_wp2
      go_ret
      exact ⟨_, fs, rfl, HFS.out, HT.out.low⟩
    · intro x c kl yd yp w1 cnt1 hkey hlx hv hat hrg1 hlt hg1 hs1 hen
      obtain rfl : kl = keyL x := keyS_eq hkey
      have hh : has d.D (keyL x) = true := has_true_of_atKey hat
      have hD := hh
      obtain ⟨e1, a1⟩ := kid_at HS.out HW.out HG.out hd x
      rw [e1] at hh
      obtain ⟨t, ht⟩ := Option.isSome_iff_exists.1 hh
      have hyd : yd = ptrD (some t.nb) := (hat .nil).symm.trans (a1 t ht .nil)
      rw [ptrR_V] at hv
      obtain rfl : c = some t.nb := ptrD_inj ((Prod.mk.inj (Option.some.inj hv)).1.trans hyd)
      have T1 := Lib.hid (HT.out.next (Nat.le_refl _) HMB.out (by rw [← HSZ5.out]; exact hrg1) (by rw [← HSZ5.out]; exact hg1))
      have HLT := Lib.hid hlt
      have HLX := Lib.hid hlx
      have HD := Lib.hid hD
      have HRG := Lib.hid hrg
      have HKEY := Lib.hid hkey
      have HC := Lib.hid (HIH.out x t ht w1.drew (((HS.out.below T1.out.low)).below ((Below.refl _ _).drew)))
      have HS1 := Lib.hid (show w1.drew.cell? ⟨w.heap.size, 2, none⟩ = some (.map (some mb)) from blk_cell T1.out.cell 2)
      have hn : size D' < maxLen := by rw [T1.out.ac.size]; unfold maxLen; omega
      clear hat hh hD e1 a1 hyd hv hrg1 hg1 hs1 hlt hlx hrg hkey
      go_wp2_with fail
      go_region_held3 (fun W => W.cell? ⟨w.heap.size, 2, none⟩ = some (.map (some mb))) (first | exact HS4.out | exact HS3.out | exact HS1.out | fail) (first | (go_at_call 26; refine HC.out.mono ?_; rintro e w3 ⟨kb, fs, rfl, htw, hb⟩; have HTW := Lib.hid htw; have HBC := Lib.hid (((Below.refl w1.heap.size w1).drew).trans hb); obtain ⟨w4, hrun, ho4, hg4⟩ := Ta.put (T1.out.own.kept (row := none) ⟨HBC.out.os, HBC.out.tape, HBC.out.output, HBC.out.size, fun k hk _ => HBC.out.block k hk⟩ (by simp)) law9 Tryz.underlying83 hn x HKEY.out (some kb); have hrun' : (Instr.mapUpdate 83 (.map (some mb)) (.string x) (.pointer (some ⟨kb, 0, none⟩))).run Tryz.prog w3 = .ok () w4 := hrun; have HO4 := Lib.hid ho4; have HG4 := Lib.hid hg4; have HS3 := Lib.hid (show w3.cell? ⟨w.heap.size, 2, none⟩ = some (.map (some mb)) from keepC hb HS1.out); have HT4 := Lib.hid (T1.out.store hmlt (Nat.le_refl _) HMB.out HLX.out HD.out HBC.out HTW.out ho4 hg4); have HS4 := Lib.hid (show w4.cell? ⟨w.heap.size, 2, none⟩ = some (.map (some mb)) from blk_cell HT4.out.cell 2); clear htw hb hrun ho4 hg4) | fail)
      go_wp2_with fail
      go_roundw
      case rel => exact ⟨_, cnt1, _, _, HT4⟩
      case measure =>
        have h4 := HT4.out.rg
        rw [← HSZ5.out] at h4
        rw [h4.left_eq, HRG.out.left_eq]
        exact HLT.out
end
end Go.Proofs.YtpdcjdangnfeiaaGreatDoor.Wg
open Go.Proofs.YtpdcjdangnfeiaaGreatDoor.Wg
namespace Go.Proofs.YtpdcjdangnfeiaaGreatDoor.Wi
theorem twin_any {B : Nat} {es : Es} (hw : WfF (gp es)) (hl : ∀ p d, gp es p = some d → d.data.length ≤ 100000000 ∧ size d.D ≤ 1000000) : ∀ (k : Nat) (p : Path) (d : Sh), gp es p = some d → (∀ q s, gp es q = some s → q.length ≤ p.length + k) → ∀ W, Sto Tryz.prog 85 9 W B (es.map (·.2)) →
    Calls Tryz.prog 26 #[.pointer (some ⟨d.nb, 0, none⟩)] W (TwPost W es p) := by
  intro k
  induction k with
  | zero =>
    intro p d hg hk W hs
    by_cases hd : d.dir = true
    · refine twin_dir hs hw hg hd (hl p d hg).1 (hl p d hg).2 fun x t ht W2 _ => ?_
      have := hk _ _ ht
      rw [List.length_append, List.length_singleton] at this
      omega
    · exact twin_file (hs.ok d (List.mem_map.2 ⟨(p, d), gp_mem hg, rfl⟩)) hw hg (by simpa using hd) (hl p d hg).1
  | succ k ih =>
    intro p d hg hk W hs
    by_cases hd : d.dir = true
    · refine twin_dir hs hw hg hd (hl p d hg).1 (hl p d hg).2 fun x t ht W2 hs2 => ?_
      refine ih (p ++ [x]) t ht (fun q s hq => ?_) W2 hs2
      have := hk q s hq
      rw [List.length_append, List.length_singleton]
      omega
    · exact twin_file (hs.ok d (List.mem_map.2 ⟨(p, d), gp_mem hg, rfl⟩)) hw hg (by simpa using hd) (hl p d hg).1
theorem Tw.low {w : World} {B B' nb : Nat} {es fs : Es} {p : Path} (h : Tw w B' nb es p fs) (hB : B ≤ B') : Tw w B nb es p fs := ⟨Sto.low h.sto hB, h.nd, h.root, h.same, h.dr, h.file⟩
theorem Tw.below {w w' : World} {B nb : Nat} {es fs : Es} {p : Path} (h : Tw w B nb es p fs) (hb : Below w.heap.size w w') : Tw w' B nb es p fs := ⟨h.sto.below hb, h.nd, h.root, h.same, h.dr, h.file⟩
theorem tw_st {w w1 : World} {B B1 nb tb t2 n i m : Nat} {es fs : Es} (h : St w B tb es n i m) (t : Tw w1 B1 nb es [] fs) (ht : Tre w1 B1 t2 nb n i) : St w1 B1 t2 fs n i m ∧ absE fs = absE es := by
  have same : ∀ r, (gp fs r).map toN = (gp es r).map toN := fun r => by have := t.same r; rwa [List.nil_append] at this
  have to' : ∀ p s, gp fs p = some s → ∃ s0, gp es p = some s0 ∧ toN s0 = toN s := by
    intro p s hs
    have := same p
    rw [hs, Option.map_some] at this
    obtain ⟨s0, h1, h2⟩ := Option.map_eq_some_iff.1 this.symm
    exact ⟨s0, h1, h2⟩
  have from' : ∀ p s, gp es p = some s → ∃ s0, gp fs p = some s0 ∧ toN s0 = toN s := by
    intro p s hs
    have := same p
    rw [hs, Option.map_some] at this
    obtain ⟨s0, h1, h2⟩ := Option.map_eq_some_iff.1 this
    exact ⟨s0, h1, h2⟩
  have dir : ∀ (a b : Sh), toN a = toN b → a.dir = b.dir := fun a b e => congrArg N.dir e
  refine ⟨⟨t.sto, t.nd, ⟨?_, fun p x s hs => ?_, t.dr, fun p s hs => ?_⟩, ?_, fun e he => ?_, h.num⟩, funext same⟩
  · obtain ⟨r, h1, h2⟩ := h.wf.root
    obtain ⟨r0, h3, h4⟩ := from' _ _ h1
    exact ⟨r0, h3, (dir _ _ h4).trans h2⟩
  · obtain ⟨s0, h1, -⟩ := to' _ _ hs
    obtain ⟨d, h2, h3⟩ := h.wf.par p x s0 h1
    obtain ⟨d0, h4, h5⟩ := from' _ _ h2
    exact ⟨d0, h4, (dir _ _ h5).trans h3⟩
  · obtain ⟨s0, h1, -⟩ := to' _ _ hs
    exact h.wf.nm p s0 h1
  · obtain ⟨r, h1, h2⟩ := t.root
    exact ⟨r, h1, h2 ▸ ht⟩
  · obtain ⟨p, s⟩ := e
    have hg := mem_gp t.nd he
    obtain ⟨s0, h1, h2⟩ := to' _ _ hg
    have hl := h.limp h1
    have e1 : s0.slots = s.slots := congrArg N.slots h2
    have e2 : s0.data = s.data := congrArg N.data h2
    refine ⟨by rw [← e1]; exact hl.1, by rw [← e2]; exact hl.2.1, ?_⟩
    by_cases hd : s.dir = true
    · have e3 : (toN s0).k = (toN s).k := by rw [h2]
      unfold toN at e3
      dsimp only at e3
      rw [if_pos hd, if_pos ((dir _ _ h2).trans hd)] at e3
      rw [← e3]; exact hl.2.2
    · have := t.file (p, s) he (by simpa using hd)
      show size s.D ≤ m
      rw [show s.D = .map [] from this]
      exact Nat.zero_le _
section
variable {w : World} {B tb n i m : Nat} {es : Es}
/-- What Twin leaves. -/
def TwinPost (w : World) (es : Es) (n i m : Nat) (e : Ending) (w' : World) : Prop := ∃ t2 fs, e = .returned (.pointer (some ⟨t2, 0, none⟩)) ∧ St w' w.heap.size t2 fs n i m ∧ absE fs = absE es ∧ Below w.heap.size w w'
set_option maxHeartbeats 2000000 in
set_option maxRecDepth 100000 in
/-- (*Tree).Twin -/
theorem twin_st (h : St w B tb es n i m) (hm : m ≤ 2000) : Calls Tryz.prog 11 #[.pointer (some ⟨tb, 0, none⟩)] w (TwinPost w es n i m) := by
  obtain ⟨r, g1, ht⟩ := h.tre
  obtain ⟨k, hk⟩ := exists_bound es
  have hc : ∀ W, Below w.heap.size w W → Calls Tryz.prog 26 #[.pointer (some ⟨r.nb, 0, none⟩)] W fun e w' => ∃ nb fs, e = .returned (.pointer (some ⟨nb, 0, none⟩)) ∧ (Tw w' w.heap.size nb es [] fs ∧ Below w.heap.size w w') ∧ Below W.heap.size W w' := by
    intro W hb
    refine (twin_any h.wf (fun p d hd => by have := h.limp hd; exact ⟨by omega, by omega⟩) k [] r g1 (fun q s h => by have := hk q s h; simpa using this) W (h.sto.below hb)).mono ?_
    rintro e w' ⟨nb, fs, rfl, h1, h2⟩
    exact ⟨nb, fs, rfl, ⟨Tw.low h1 hb.size, hb.trans (h2.mono hb.size)⟩, h2⟩
  have c0 : w.cell? ⟨tb, 0, none⟩ = some (.pointer (some ⟨r.nb, 0, none⟩)) := blk_cell ht.2 0
  have c1 : w.cell? ⟨tb, 1, none⟩ = some (.int .i64 n) := blk_cell ht.2 1
  have c2 : w.cell? ⟨tb, 2, none⟩ = some (.int .i64 i) := blk_cell ht.2 2
  have HC := Lib.hid hc
  have H := Lib.hid h
  have HS := Lib.hid (show ∀ W, Below w.heap.size w W → (fun W : World => W.cell? ⟨tb, 0, none⟩ = some (.pointer (some ⟨r.nb, 0, none⟩)) ∧ W.cell? ⟨tb, 1, none⟩ = some (.int .i64 n) ∧ W.cell? ⟨tb, 2, none⟩ = some (.int .i64 i)) W from fun W hb => ⟨keepC hb c0, keepC hb c1, keepC hb c2⟩)
  clear hc h g1 ht hk
  go_enter Tryz.func11, Tryz.ntmps11
  go_wp2_with fail
  have HS0 := Lib.hid (kp0 (T := fun W : World => W.cell? ⟨tb, 0, none⟩ = some (.pointer (some ⟨r.nb, 0, none⟩)) ∧ W.cell? ⟨tb, 1, none⟩ = some (.int .i64 n) ∧ W.cell? ⟨tb, 2, none⟩ = some (.int .i64 i)) HS.out)
  go_region_held3 (fun W => Below w.heap.size w W ∧ W.cell? ⟨tb, 0, none⟩ = some (.pointer (some ⟨r.nb, 0, none⟩)) ∧ W.cell? ⟨tb, 1, none⟩ = some (.int .i64 n) ∧ W.cell? ⟨tb, 2, none⟩ = some (.int .i64 i)) (first | exact kpC (T := fun W : World => W.cell? ⟨tb, 0, none⟩ = some (.pointer (some ⟨r.nb, 0, none⟩)) ∧ W.cell? ⟨tb, 1, none⟩ = some (.int .i64 n) ∧ W.cell? ⟨tb, 2, none⟩ = some (.int .i64 i)) hb (by assumption) HS.out | exact kp1 (T := fun W : World => W.cell? ⟨tb, 0, none⟩ = some (.pointer (some ⟨r.nb, 0, none⟩)) ∧ W.cell? ⟨tb, 1, none⟩ = some (.int .i64 n) ∧ W.cell? ⟨tb, 2, none⟩ = some (.int .i64 i)) HS0.out HS.out | exact HS0.out | exact kpC (T := fun W : World => W.cell? ⟨tb, 0, none⟩ = some (.pointer (some ⟨r.nb, 0, none⟩)) ∧ W.cell? ⟨tb, 1, none⟩ = some (.int .i64 n) ∧ W.cell? ⟨tb, 2, none⟩ = some (.int .i64 i)) ((Below.refl _ _).alloc (Nat.le_refl _) _) (by assumption) HS.out | fail) (first | (go_at_call 26; refine (HC.out _ (And.left (by assumption))).mono ?_; rintro e w1 ⟨nb, fs, rfl, htw, hb⟩; have HTW := Lib.hid htw; clear htw) | fail)
  have hs2 : Below w.heap.size w (w1.alloc (.cells #[.pointer (some ⟨nb, 0, none⟩), .int .i64 n, .int .i64 i] 55)) := And.left (by assumption)
  have HS2 := Lib.hid hs2
  clear hs2
  go_wp2
  go_ret
  have hb1 := (Below.refl w1.heap.size w1).alloc (Nat.le_refl _) (.cells #[.pointer (some ⟨nb, 0, none⟩), .int .i64 n, .int .i64 i] 55)
  obtain ⟨a1, a2⟩ := tw_st (t2 := w1.heap.size) H.out (Tw.below HTW.out.1 hb1) ⟨HTW.out.2.size, Go.heap_alloc_new _ _⟩
  exact ⟨_, fs, rfl, a1, a2, HS2.out⟩
end
section
variable {w : World} {B tb m : Nat} {q : Int} {s : S}
end
end Go.Proofs.YtpdcjdangnfeiaaGreatDoor.Wi
end
section
open Go Go.Maps Go.RowKit Go.Proofs.YtpdcjdangnfeiaaGreatDoor.Pb Go.Proofs.YtpdcjdangnfeiaaGreatDoor.PPth Go.Proofs.YtpdcjdangnfeiaaGreatDoorW.PrintWords Go.Proofs.YtpdcjdangnfeiaaGreatDoorW.PrintLast Go.Proofs.YtpdcjdangnfeiaaGreatDoorW.PrintMore Go.Proofs.YtpdcjdangnfeiaaGreatDoor.Ta Go.Proofs.YtpdcjdangnfeiaaGreatDoor.Tb Go.Proofs.YtpdcjdangnfeiaaGreatDoor.Tc Go.Proofs.YtpdcjdangnfeiaaGreatDoor.Te Go.Proofs.YtpdcjdangnfeiaaGreatDoor.Tf Go.Proofs.YtpdcjdangnfeiaaGreatDoor.Qa Go.Proofs.YtpdcjdangnfeiaaGreatDoor.Qb Go.Proofs.YtpdcjdangnfeiaaGreatDoor.Qc Go.Proofs.YtpdcjdangnfeiaaGreatDoor.Qd Go.Proofs.YtpdcjdangnfeiaaGreatDoor.Qe Go.Proofs.YtpdcjdangnfeiaaGreatDoor.Qf Go.Proofs.YtpdcjdangnfeiaaGreatDoor.Ua Go.Proofs.YtpdcjdangnfeiaaGreatDoor.Ub Go.Proofs.YtpdcjdangnfeiaaGreatDoor.Uc Go.Proofs.YtpdcjdangnfeiaaGreatDoor.Ud Go.Proofs.YtpdcjdangnfeiaaGreatDoor.Ue Go.Proofs.YtpdcjdangnfeiaaGreatDoor.Uf Go.Proofs.YtpdcjdangnfeiaaGreatDoor.Ba Go.Proofs.YtpdcjdangnfeiaaGreatDoor.Ug Go.Proofs.YtpdcjdangnfeiaaGreatDoor.Uh Go.Proofs.YtpdcjdangnfeiaaGreatDoor.Ui Go.Proofs.YtpdcjdangnfeiaaGreatDoor.Uj Go.Proofs.YtpdcjdangnfeiaaGreatDoor.Uk Go.Proofs.YtpdcjdangnfeiaaGreatDoor.Ul Go.Proofs.YtpdcjdangnfeiaaGreatDoor.Um Go.Proofs.YtpdcjdangnfeiaaGreatDoor.Un Go.Proofs.YtpdcjdangnfeiaaGreatDoor.Uo Go.Proofs.YtpdcjdangnfeiaaGreatDoor.Up Go.Proofs.YtpdcjdangnfeiaaGreatDoor.Uq Go.Proofs.YtpdcjdangnfeiaaGreatDoor.Ur Go.Proofs.YtpdcjdangnfeiaaGreatDoor.Us Go.Proofs.YtpdcjdangnfeiaaGreatDoor.Ut Go.Proofs.YtpdcjdangnfeiaaGreatDoor.Uu Go.Proofs.YtpdcjdangnfeiaaGreatDoor.Uv Go.Proofs.YtpdcjdangnfeiaaGreatDoor.Uw Go.Proofs.YtpdcjdangnfeiaaGreatDoor.Ux Go.Proofs.YtpdcjdangnfeiaaGreatDoor.Uy Go.Proofs.YtpdcjdangnfeiaaGreatDoor.Uz Go.Proofs.YtpdcjdangnfeiaaGreatDoor.Va Go.Proofs.YtpdcjdangnfeiaaGreatDoor.Vb Go.Proofs.YtpdcjdangnfeiaaGreatDoor.Vc Go.Proofs.YtpdcjdangnfeiaaGreatDoor.Vd Go.Proofs.YtpdcjdangnfeiaaGreatDoor.Ve Go.Proofs.YtpdcjdangnfeiaaGreatDoor.Wa Go.Proofs.YtpdcjdangnfeiaaGreatDoor.Wb Go.Proofs.YtpdcjdangnfeiaaGreatDoor.Wc Go.Proofs.YtpdcjdangnfeiaaGreatDoor.Wd Go.Proofs.YtpdcjdangnfeiaaGreatDoor.We Go.Proofs.YtpdcjdangnfeiaaGreatDoor.Wm
namespace Go.Proofs.YtpdcjdangnfeiaaGreatDoor.Wp
/-- What a round keeps: all cells and maps but some blocks; those hold no bytes. -/
structure Kp (X : Nat → Prop) (W W' : World) : Prop where
  size : W.heap.size ≤ W'.heap.size
  keep : ∀ b o, W.heap[b]? = some o → ¬ X b → (o.isCells = true ∨ o.isWalk = true) → W'.heap[b]? = some o
  nob : ∀ b, X b → b < W.heap.size → NoB W b → NoB W' b
section
variable {X : Nat → Prop} {W W1 W2 : World}
theorem Kp.refl (X : Nat → Prop) (W : World) : Kp X W W := ⟨Nat.le_refl _, fun _ _ h _ _ => h, fun _ _ _ h => h⟩
theorem Kp.trans (h : Kp X W W1) (k : Kp X W1 W2) : Kp X W W2 :=
  ⟨Nat.le_trans h.size k.size, fun b o hb hx ho => k.keep b o (h.keep b o hb hx ho) hx ho, fun b hx hb hn => k.nob b hx (Nat.lt_of_lt_of_le hb h.size) (h.nob b hx hb hn)⟩
theorem nob_heap {b : Nat} (e : W1.heap[b]? = W.heap[b]?) (h : NoB W b) : NoB W1 b := by
  intro o y hc
  refine h o y ?_
  rw [← hc]
  exact (World.cell?_of_block (a := ⟨b, o, none⟩) e).symm
theorem Kp.below (h : Below W.heap.size W W1) : Kp X W W1 :=
  ⟨h.size, fun b _ hb _ _ => (h.block b (Array.getElem?_eq_some_iff.1 hb).1).trans hb, fun b _ hb hn => nob_heap (h.block b hb) hn⟩
theorem cells_of_cell {b o : Nat} {v : Value} (h : W.cell? ⟨b, o, none⟩ = some v) : ∃ ob, W.heap[b]? = some ob ∧ ob.isCells = true := by
  cases hb : W.heap[b]? with
  | none => simp [World.cell?, hb] at h
  | some ob =>
    cases ob <;> simp [World.cell?, hb] at h
    exact ⟨_, rfl, rfl⟩
theorem Kp.cell (h : Kp X W W1) {b o : Nat} {v : Value} (hx : ¬ X b) (hc : W.cell? ⟨b, o, none⟩ = some v) : W1.cell? ⟨b, o, none⟩ = some v := by
  obtain ⟨ob, h1, h2⟩ := cells_of_cell hc
  rw [← hc]
  exact World.cell?_of_block (a := ⟨b, o, none⟩) ((h.keep b ob h1 hx (.inl h2)).trans h1.symm)
theorem Kp.sto (h : Kp X W W1) {B : Nat} {σ : List Sh} (hs : Sto Tryz.prog 85 9 W B σ) (hX : ∀ b, X b → b < B) (hn : ∀ b, X b → NoB W b) : Sto Tryz.prog 85 9 W1 B σ := by
  refine hs.fr (X := fun i => ¬ ∃ o, W.heap[i]? = some o ∧ ¬ X i ∧ (o.isCells = true ∨ o.isWalk = true)) ⟨h.size, fun i hi hx => ?_, fun i hx hi => ?_⟩ fun i hx s hs1 hi => ?_
  · obtain ⟨o, h1, h2, h3⟩ := Classical.not_not.1 hx
    rw [h1]
    exact h.keep i o h1 h2 h3
  · intro o y hc
    obtain ⟨ob, h1, h2⟩ := cells_of_cell hc
    by_cases hxi : X i
    · exact hn i hxi o y hc
    · exact hx ⟨ob, h1, hxi, .inl h2⟩
  · have ho := hs.ok s hs1
    have hb := (Tc.Ok.blk_lt ho i hi).2.2
    have hnx : ¬ X i := fun hx2 => by have := hX i hx2; omega
    refine hx ?_
    unfold blks at hi
    obtain ⟨dv, hc, -⟩ := ho.cells
    by_cases hd : s.dir = true
    · rw [if_pos hd] at hi
      rcases List.mem_cons.1 hi with rfl | hi
      · exact ⟨_, hc, hnx, .inl rfl⟩
      · obtain rfl : i = s.mb := by simpa using hi
        obtain ⟨es, clock, he, -⟩ := (ho.kids hd).2
        exact ⟨_, he, hnx, .inr rfl⟩
    · rw [if_neg hd] at hi
      obtain rfl : i = s.nb := by simpa using hi
      exact ⟨_, hc, hnx, .inl rfl⟩
end
/-- The names of a node, a file has none. -/
def nms (s : Sh) : List ByteArray := if s.dir then names s else []
theorem rdS_own2 {w : World} {base : Nat} {v : Value} {xs : List ByteArray} (h : w.ownsRow base 9 1 v xs.length (xs.map Value.string)) : ∃ A c, v = .slice A xs.length c ∧ (xs = [] ∨ ∃ g, base ≤ g ∧ A = some ⟨g, 0, none⟩ ∧ ∀ j x, xs[j]? = some x → w.cell? ⟨g, j, none⟩ = some (.string x)) := by
  obtain ⟨hl, h⟩ := h
  rcases h with ⟨rfl, h0⟩ | ⟨g, cap, cur, rfl, hg, hh, hn, hm, hs, ht⟩
  · obtain rfl := List.length_eq_zero_iff.1 h0
    exact ⟨none, 0, rfl, .inl rfl⟩
  · refine ⟨_, cap, rfl, .inr ⟨g, hg, rfl, fun j x hj => ?_⟩⟩
    have e : w.cell? ⟨g, j, none⟩ = cur[j]? := by simp [World.cell?, hh]
    have hlt : j < xs.length := (List.getElem?_eq_some_iff.1 hj).1
    rw [e, ← Array.getElem?_toList]
    have : (cur.toList.take (xs.length * 1))[j]? = some (.string x) := by rw [ht]; simp [hj]
    rwa [List.getElem?_take_of_lt (by omega)] at this
/-- A row of names in blocks from base on. -/
def RdN (w : World) (base : Nat) (A : Option Addr) (l : List ByteArray) : Prop := l = [] ∨ ∃ g, base ≤ g ∧ A = some ⟨g, 0, none⟩ ∧ ∀ j x, l[j]? = some x → w.cell? ⟨g, j, none⟩ = some (.string x)
def SortPost (w : World) (s : Sh) (e : Ending) (w' : World) : Prop := ∃ A c, e = .returned (.slice A (nms s).length c) ∧ RdN w' w.heap.size A (nms s) ∧ Below w.heap.size w w'
open Go.Sort in
theorem sorted_node {w : World} {B : Nat} {s : Sh} (h : Nd w B s) (hz : size s.D ≤ 100000) : Calls Tryz.prog 33 #[.func (.func 62) #[] #[.pointer (some ⟨w.heap.size, 0, none⟩)]] (w.alloc (.cells #[kidsV s] 83)) (SortPost w s) := by
  by_cases hd : s.dir = true
  · have hk : kidsV s = .map (some s.mb) := by unfold kidsV; rw [if_pos hd]
    have hn : nms s = names s := by unfold nms; rw [if_pos hd]
    rw [hk]
    refine ((callsIn_wide (n := 5)).1 (Tryz.slices_Sorted_keys_33_34 s.mb (size s.D) s.D ptrR w (h.kids hd).2 (by unfold maxLen; omega) (by omega))).mono ?_
    rintro e w' ⟨v, ss, rfl, hp, hrow, hnil, hb⟩
    have e1 : ss.mergeSort (fun x y => decide (x ≤ y)) = namesL s := mergeSort_of_perm hp
    have e2 : ss.length = (namesL s).length := by rw [← e1, List.length_mergeSort]
    rw [e1, e2] at hrow
    have e3 : (namesL s).map encStr = (names s).map Value.string := by unfold names; rw [List.map_map]; rfl
    rw [e3] at hrow
    have e4 : (namesL s).length = (names s).length := by unfold names; rw [List.length_map]
    rw [e4] at hrow
    obtain ⟨A, c, rfl, hr⟩ := rdS_own2 hrow
    refine ⟨A, c, by rw [hn], ?_, ((Below.refl _ _).alloc (Nat.le_refl _) _).trans (hb.mono (by simp))⟩
    rw [hn]
    rcases hr with hr | ⟨g, h1, h2, h3⟩
    · exact .inl hr
    · exact .inr ⟨g, by simp at h1; omega, h2, h3⟩
  · have hk : kidsV s = .map none := by unfold kidsV; rw [if_neg hd]
    have hn : nms s = [] := by unfold nms; rw [if_neg hd]
    rw [hk]
    refine ((callsIn_wide (n := 5)).1 (Tryz.slices_Sorted_keys_nil_33_34 w)).mono ?_
    rintro e w' ⟨v, ss, rfl, hp, hrow, hnil, hb⟩
    obtain rfl := hnil.2 hp
    exact ⟨none, 0, by rw [hn]; rfl, .inl hn, ((Below.refl _ _).alloc (Nat.le_refl _) _).trans (hb.mono (by simp))⟩
theorem RdN.below {w w' : World} {base : Nat} {A : Option Addr} {l : List ByteArray} (h : RdN w base A l) (hb : Below w.heap.size w w') : RdN w' base A l := by
  rcases h with h | ⟨g, h1, h2, h3⟩
  · exact .inl h
  · exact .inr ⟨g, h1, h2, fun j x hj => keepC hb (h3 j x hj)⟩
theorem RdN.kp {w w' : World} {base : Nat} {X : Nat → Prop} {A : Option Addr} {l : List ByteArray} (h : RdN w base A l) (hk : Kp X w w') (hX : ∀ b, X b → b < base) : RdN w' base A l := by
  rcases h with h | ⟨g, h1, h2, h3⟩
  · exact .inl h
  · exact .inr ⟨g, h1, h2, fun j x hj => hk.cell (fun hx => by have := hX g hx; omega) (h3 j x hj)⟩
/-- An element as yield takes it. -/
def encR (x : Row) : Array Value := #[.string x.1, .agg #[.bool x.2.dir, .int .i64 x.2.data.length, .int .i64 x.2.k]]
def YPost (X : Nat → Prop) (J Jx : List Row → World → Prop) (pre : List Row) (x : Row) (W : World) (e : Ending) (W' : World) : Prop :=
  (e = .returned (.bool true) ∧ J (pre ++ [x]) W' ∧ Kp X W W') ∨ (e = .returned (.bool false) ∧ Jx (pre ++ [x]) W')
def WPost (X : Nat → Prop) (J Jx : List Row → World → Prop) (pre R : List Row) (W : World) (e : Ending) (W' : World) : Prop :=
  (e = .returned (.bool true) ∧ J (pre ++ R) W' ∧ Kp X W W') ∨ (e = .returned (.bool false) ∧ ∃ q, q <+: R ∧ Jx (pre ++ q) W')
theorem rows_eq {a : Uc.Fn} (hn : NmOk a) {k : Nat} {p : Path} {s : Sh} (hs : a p = some s) (hk : ∀ q, (a q).isSome = true → q.length ≤ p.length + k) :
    rows a k p = (nms s).flatMap (fun x => rowOf a (p ++ [x]) :: rows a (k - 1) (p ++ [x])) := by
  by_cases hd : s.dir = true
  · have e : nms s = names s := by unfold nms; rw [if_pos hd]
    rw [e]
    cases k with
    | succ k => exact rows_dir hs hd
    | zero =>
      have : names s = [] := by
        refine List.eq_nil_iff_forall_not_mem.2 fun x hx => ?_
        have := hk _ (((hn p s hs hd).2 x).1 hx)
        rw [List.length_append, List.length_singleton] at this
        omega
      rw [this]; rfl
  · have e : nms s = [] := by unfold nms; rw [if_neg hd]
    rw [e, rows_file hs (by simpa using hd)]; rfl
end Go.Proofs.YtpdcjdangnfeiaaGreatDoor.Wp
open Go.Proofs.YtpdcjdangnfeiaaGreatDoor.Wp
namespace Go.Proofs.YtpdcjdangnfeiaaGreatDoor.Wq
section
variable {es : Es} {B l N : Nat} {X : Nat → Prop} {J Jx : List Row → World → Prop}
/-- How the world stands while a walk is under way. -/
structure Wk (B : Nat) (es : Es) (X : Nat → Prop) (W : World) : Prop where
  sto : Sto Tryz.prog 85 9 W B (es.map (·.2))
  nob : ∀ b, X b → NoB W b
  size : B ≤ W.heap.size
theorem Wk.kp {W W1 : World} (h : Wk B es X W) (hX : ∀ b, X b → b < B) (k : Kp X W W1) : Wk B es X W1 :=
  ⟨k.sto h.sto hX h.nob, fun b hx => k.nob b hx (by have := hX b hx; have := h.size; omega) (h.nob b hx), Nat.le_trans h.size k.size⟩
theorem Wk.below {W W1 : World} (h : Wk B es X W) (hX : ∀ b, X b → b < B) (hb : Below W.heap.size W W1) : Wk B es X W1 := h.kp hX (Kp.below hb)
theorem depth_wide (k : Nat) : (Fence.wide.depth.isSome = true → 1 ≤ k) := fun h => by simp [Fence.wide] at h
theorem infoV_row {a : Uc.Fn} {p : Path} {x : ByteArray} {t : Sh} (h : a (p ++ [x]) = some t) : encR (rowOf a (p ++ [x])) = #[.string (tx p ++ ⟨#[47]⟩ ++ x), infoV t] := by
  unfold encR rowOf infoV
  rw [tx_snoc, h]
  rfl
set_option maxHeartbeats 4000000 in
set_option maxRecDepth 1000000 in
theorem walk_step (hw : WfF (gp es)) (hn : NmOk (gp es)) (hX : ∀ b, X b → b < B) (hJ : ∀ pre W W', J pre W → Below W.heap.size W W' → J pre W')
    (hY : ∀ m pre x W, J pre W → pre.length < N → YieldAt Fence.wide m Tryz.prog l (encR x) W (YPost X J Jx pre x W))
    {p : Path} {s : Sh} (hg : gp es p = some s) (hz : size s.D ≤ 100000) (hsz : ∀ x, (gp es (p ++ [x])).isSome = true → x.size ≤ 1000000) (htz : (tx p).size ≤ 1000000) (RR : ByteArray → List Row)
    (ih : ∀ x t, gp es (p ++ [x]) = some t → ∀ pre W, Wk B es X W → J pre W → pre.length + (RR x).length ≤ N → Calls Tryz.prog 87 #[.pointer (some ⟨t.nb, 0, none⟩), .string (tx p ++ ⟨#[47]⟩ ++ x), .func (.yield l) #[] #[]] W (WPost X J Jx pre (RR x) W))
    {pre : List Row} {W : World} (hk : Wk B es X W) (hj : J pre W) (hN : pre.length + ((nms s).flatMap (fun x => rowOf (gp es) (p ++ [x]) :: RR x)).length ≤ N) :
    Calls Tryz.prog 87 #[.pointer (some ⟨s.nb, 0, none⟩), .string (tx p), .func (.yield l) #[] #[]] W (WPost X J Jx pre ((nms s).flatMap (fun x => rowOf (gp es) (p ++ [x]) :: RR x)) W) := by
  have hN0 : Nd W B s := hk.sto.ok s (List.mem_map.2 ⟨(p, s), gp_mem hg, rfl⟩)
  obtain ⟨dv, hc, -⟩ := hN0.cells
  have a2 : W.cell? ⟨s.nb, 2, none⟩ = some (kidsV s) := blk_cell hc 2
  obtain ⟨mbo, hmbo⟩ : ∃ mbo, kidsV s = .map mbo := by unfold kidsV; split <;> exact ⟨_, rfl⟩
  have hsort := sorted_node hN0 hz
  rw [hmbo] at a2 hsort
  obtain ⟨L, hL⟩ : ∃ L, nms s = L := ⟨_, rfl⟩
  obtain ⟨n, hn0⟩ : ∃ n, L.length = n := ⟨_, rfl⟩
  obtain ⟨tp, htp⟩ : ∃ tp, tx p = tp := ⟨_, rfl⟩
  rw [hL] at hN ⊢
  rw [htp] at ih htz ⊢
  obtain ⟨rl, hrl⟩ : ∃ rl : Nat → List Row, ∀ k, (L.take k).flatMap (fun x => rowOf (gp es) (p ++ [x]) :: RR x) = rl k := ⟨fun k => _, fun k => rfl⟩
  have hall : L.flatMap (fun x => rowOf (gp es) (p ++ [x]) :: RR x) = rl n := by rw [← hrl, List.take_of_length_le (by rw [hn0]; exact Nat.le_refl _)]
  rw [hall] at hN ⊢
  have HRL := Lib.hid hrl
  have HALL := Lib.hid hall
  have hnb : n ≤ 100000 := by
    rw [← hn0, ← hL]
    unfold nms
    split
    · rename_i hd
      have := names_len hN0 hd
      unfold names
      rw [List.length_map, this]; exact hz
    · exact Nat.zero_le _
  have HSORT := Lib.hid hsort
  have HJ := Lib.hid hJ
  have HY := Lib.hid hY
  have HK := Lib.hid hk
  have HJ0 := Lib.hid hj
  have HN := Lib.hid hN
  have HIH := Lib.hid ih
  have HA2 := Lib.hid a2
  have HLEN := Lib.hid hn0
  have HG := Lib.hid hg
  have HNM := Lib.hid hn
  have HL := Lib.hid hL
  have HTP := Lib.hid htp
  clear hsort hJ hY hk hj hN ih hc hn0 hn hg hL htp hrl hall
  go_enter Tryz.func87, Tryz.ntmps87
  go_wp2_with fail
  refine (keys_any mbo W).mono ?_
  rintro e w1 ⟨rfl, rfl⟩
  go_wp2_with fail
  refine HSORT.out.mono ?_
  rintro e w1 ⟨A, c, rfl, hr, hb⟩
  rw [HL.out, HLEN.out]
  rw [HL.out] at hr
  have HR := Lib.hid hr
  have HB := Lib.hid hb
  clear hr hb
  go_wp2_with fail
  go_loopw [18] (fun i wr => ∃ k : Nat, i = .int .i64 k ∧ k ≤ n ∧ Hid (J (pre ++ rl k) wr) ∧ Hid (Kp X W wr) ∧ Hid (RdN wr W.heap.size A L)) (fun i _ => n - (intOf i).toNat)
  case atStart =>
    refine ⟨0, rfl, by omega, Lib.hid ?_, Lib.hid (Kp.below HB.out), HR⟩
    have : rl 0 = [] := by rw [← HRL.out]; rfl
    rw [this, List.append_nil]
    exact HJ.out _ _ _ HJ0.out HB.out
  case round =>
    clear HR HB
    obtain ⟨k, rfl, hk, HJK, HKP, HR⟩ := hrel
    by_cases hlt : k < n
    · have i1 : (k : Int) < n := by omega
      obtain ⟨x, hx⟩ : ∃ x, L[k]? = some x := ⟨L[k]'(by rw [HLEN.out]; exact hlt), List.getElem?_eq_getElem _⟩
      have hmem : x ∈ nms s := by rw [HL.out]; exact List.mem_of_getElem? hx
      have hd : s.dir = true := by
        unfold nms at hmem
        split at hmem
        · assumption
        · cases hmem
      have hsome : (gp es (p ++ [x])).isSome = true := by
        unfold nms at hmem
        rw [if_pos hd] at hmem
        exact ((HNM.out p s HG.out hd).2 x).1 hmem
      obtain ⟨t, ht⟩ := Option.isSome_iff_exists.1 hsome
      have hxs := hsz x hsome
      have hstep : rl (k + 1) = rl k ++ rowOf (gp es) (p ++ [x]) :: RR x := by
        rw [← HRL.out, ← HRL.out, List.take_add_one, hx, List.flatMap_append]
        simp
      have hpre : rl (k + 1) <+: rl n := ⟨(L.drop (k + 1)).flatMap (fun x => rowOf (gp es) (p ++ [x]) :: RR x), by rw [← HRL.out, ← HALL.out, ← List.flatMap_append, List.take_append_drop]⟩
      obtain ⟨g, hgb, rfl, hcell⟩ : ∃ g, W.heap.size ≤ g ∧ A = some ⟨g, 0, none⟩ ∧ ∀ j x, L[j]? = some x → wr.cell? ⟨g, j, none⟩ = some (.string x) := by
        rcases HR.out with h | h
        · rw [h] at hx; simp at hx
        · exact h
      have hck := hcell k x hx
      have WK := Lib.hid (HK.out.kp hX HKP.out)
      have hNr : Nd wr B s := WK.out.sto.ok s (List.mem_map.2 ⟨(p, s), gp_mem HG.out, rfl⟩)
      have hnX : ¬ X s.nb := fun hx2 => by have := hX _ hx2; have := hNr.base; omega
      have c2 : wr.cell? ⟨s.nb, 2, none⟩ = some (.map mbo) := HKP.out.cell hnX HA2.out
      have hmb : mbo = some s.mb := by
        unfold kidsV at hmbo
        rw [if_pos hd] at hmbo
        exact (Value.map.inj hmbo).symm
      have hlook : ∀ W, Below wr.heap.size wr W → (Instr.lookup 83 (.map mbo) (.string x) false).run Tryz.prog W = .ok (.pointer (some ⟨t.nb, 0, none⟩)) W := by
        intro W hbW
        have dr := hw.dr p s HG.out hd
        have := Ta.look ((Nd.below hNr hbW).kids hd).2 law9 Tryz.underlying83 (zero56 _) x (key9 x hxs)
        rw [dr.kids, ht] at this
        rw [hmb]
        exact this
      have lk0 := hlook wr (Below.refl _ _)
      have lk1 := hlook wr.drew ((Below.refl _ _).drew)
      have HT := Lib.hid ht
      clear hlook
      have HSTEP := Lib.hid hstep
      have HPRE := Lib.hid hpre
      clear hx hmem hsome ht hstep hpre hcell hmb hNr hnX hd
      go_wp2_with fail
      have hS0 : wr.cell? ⟨s.nb, 2, none⟩ = some (.map mbo) ∧ (Instr.lookup 83 (.map mbo) (.string x) false).run Tryz.prog wr = .ok (.pointer (some ⟨t.nb, 0, none⟩)) wr := ⟨c2, lk0⟩
      have hS1 : wr.drew.cell? ⟨s.nb, 2, none⟩ = some (.map mbo) ∧ (Instr.lookup 83 (.map mbo) (.string x) false).run Tryz.prog wr.drew = .ok (.pointer (some ⟨t.nb, 0, none⟩)) wr.drew := ⟨c2, lk1⟩
      have had1 : ∀ W, (Op.stringOp .add tp ⟨#[47]⟩).run Tryz.prog W = .ok (.string (tp ++ ⟨#[47]⟩)) W := fun W => run_string_add_sum W tp ⟨#[47]⟩ (by have : (⟨#[47]⟩ : ByteArray).size = 1 := rfl; omega)
      have had2 : ∀ W, (Op.stringOp .add (tp ++ ⟨#[47]⟩) x).run Tryz.prog W = .ok (.string (tp ++ ⟨#[47]⟩ ++ x)) W := fun W => run_string_add_sum W (tp ++ ⟨#[47]⟩) x (by have : (tp ++ ⟨#[47]⟩ : ByteArray).size = tp.size + 1 := ByteArray.size_append; omega)
      have HS0 := Lib.hid hS0
      have HS1 := Lib.hid hS1
      clear hS0 hS1 lk0 lk1 c2
      rename_i kf hkf
      go_region_held3 (fun W => W.cell? ⟨s.nb, 2, none⟩ = some (.map mbo) ∧ (Instr.lookup 83 (.map mbo) (.string x) false).run Tryz.prog W = .ok (.pointer (some ⟨t.nb, 0, none⟩)) W) (first | exact HS1.out | exact HS0.out | fail) (fail)
      show kf _ _
      refine hkf _ _ ?_
      clear hkf
      have hNt : Nd wr.drew B t := (WK.out.below hX ((Below.refl _ _).drew)).sto.ok t (List.mem_map.2 ⟨(p ++ [x], t), gp_mem HT.out, rfl⟩)
      have HINF := Lib.hid (info_any hNt)
      obtain ⟨V, hV⟩ : ∃ V, infoV t = V := ⟨_, rfl⟩
      have hrow := infoV_row HT.out
      rw [HTP.out, hV] at hrow
      rw [hV] at HINF
      have HROW := Lib.hid hrow
      have hdd := depth_wide
      have hfn : ∀ f, Fence.wide.fn f := fun _ => trivial
      clear hNt hV hrow
      refine (wpIn_wide (n := 1)).1 ?_
      gi_wp2_with (first
        | (gi_at_call 99; refine (callsIn_wide.2 HINF.out).mono ?_; clear HINF; rintro e w2 ⟨rfl, hb2⟩; have HB2 := Lib.hid (((Below.refl wr.heap.size wr).drew).trans hb2); have HJ2 := Lib.hid (HJ.out _ _ _ HJK.out HB2.out); have hyy := HY.out 0 (pre ++ rl k) (rowOf (gp es) (p ++ [x])) w2 HJ2.out (by have h1 := HN.out; have h2 := HPRE.out.length_le; rw [HSTEP.out, List.length_append, List.length_cons] at h2; rw [List.length_append]; omega); rw [HROW.out] at hyy; obtain ⟨fn, tm, asg, body, hy, hR⟩ := hyy; clear hb2)
        | (refine hR.mono ?_; clear hR; rintro e w3 (⟨rfl, hj3, hk3⟩ | ⟨rfl, hx3⟩))
        | (gi_at_call 87; refine (callsIn_wide.2 (HIH.out x t HT.out (pre ++ rl k ++ [rowOf (gp es) (p ++ [x])]) w3 ((WK.out.below hX HB2.out).kp hX hk3) hj3 (by have h1 := HN.out; have h2 := HPRE.out.length_le; rw [HSTEP.out, List.length_append, List.length_cons] at h2; simp only [List.length_append, List.length_singleton]; omega))).mono ?_; rintro e w4 (⟨rfl, hj4, hk4⟩ | ⟨rfl, q4, hq4, hx4⟩)))
      all_goals first
        | (have hh := hx4
           go_ret
           have h1 := HPRE.out
           rw [HSTEP.out] at h1
           obtain ⟨u, hu⟩ := hq4
           exact .inr ⟨rfl, rl k ++ rowOf (gp es) (p ++ [x]) :: q4, List.IsPrefix.trans ⟨u, by rw [← hu]; simp⟩ h1, by simpa using hx4⟩)
        | (have hh := hx3
           go_ret
           have h1 := HPRE.out
           rw [HSTEP.out] at h1
           exact .inr ⟨rfl, rl k ++ [rowOf (gp es) (p ++ [x])], List.IsPrefix.trans ⟨RR x, by simp⟩ h1, by simpa using hx3⟩)
        | (have hkp := ((HKP.out.trans (Kp.below HB2.out)).trans hk3).trans hk4
           have hrn := (((HR.out.kp (X := X) (Kp.below HB2.out) (fun b hb => by have := hX b hb; have := HK.out.size; omega)).kp hk3 (fun b hb => by have := hX b hb; have := HK.out.size; omega)).kp hk4 (fun b hb => by have := hX b hb; have := HK.out.size; omega))
           have hjn : J (pre ++ rl (k + 1)) w4 := by rw [HSTEP.out]; simpa using hj4
           have H1 := Lib.hid hkp
           have H2 := Lib.hid hrn
           have H3 := Lib.hid hjn
           clear hkp hrn hjn hj3 hk3 hj4 hk4 hy
           go_wp2
           go_roundw
           · exact ⟨k + 1, by go_num, hlt, H3, H1, H2⟩
           · simp [intOf]; omega)
    · have i1 : ¬ (k : Int) < n := by omega
      have hkn : k = n := by omega
      subst hkn
      go_wp2
      go_ret
      exact .inl ⟨rfl, HJK.out, HKP.out⟩
theorem walk_inside (hw : WfF (gp es)) (hn : NmOk (gp es)) (hX : ∀ b, X b → b < B) (hJ : ∀ pre W W', J pre W → Below W.heap.size W W' → J pre W')
    (hY : ∀ m pre x W, J pre W → pre.length < N → YieldAt Fence.wide m Tryz.prog l (encR x) W (YPost X J Jx pre x W))
    (hz : ∀ p s, gp es p = some s → size s.D ≤ 100000 ∧ (tx p).size ≤ 1000000) (hsz : ∀ p x, (gp es (p ++ [x])).isSome = true → x.size ≤ 1000000) :
    ∀ (k : Nat) (p : Path) (s : Sh), gp es p = some s → (∀ q, (gp es q).isSome = true → q.length ≤ p.length + k) → ∀ pre W, Wk B es X W → J pre W → pre.length + (rows (gp es) k p).length ≤ N →
      Calls Tryz.prog 87 #[.pointer (some ⟨s.nb, 0, none⟩), .string (tx p), .func (.yield l) #[] #[]] W (WPost X J Jx pre (rows (gp es) k p) W) := by
  intro k
  induction k with
  | zero =>
    intro p s hg hk pre W hwk hj hN
    rw [rows_eq hn hg hk] at hN ⊢
    refine walk_step hw hn hX hJ hY hg (hz p s hg).1 (hsz p) (hz p s hg).2 (fun x => rows (gp es) (0 - 1) (p ++ [x])) ?_ hwk hj hN
    intro x t ht
    have := hk _ (by rw [ht]; rfl)
    rw [List.length_append, List.length_singleton] at this
    omega
  | succ k ih =>
    intro p s hg hk pre W hwk hj hN
    rw [rows_eq hn hg hk] at hN ⊢
    refine walk_step hw hn hX hJ hY hg (hz p s hg).1 (hsz p) (hz p s hg).2 (fun x => rows (gp es) (k + 1 - 1) (p ++ [x])) ?_ hwk hj hN
    intro x t ht pre2 W2 hwk2 hj2 hN2
    rw [← tx_snoc]
    exact ih (p ++ [x]) t ht (fun q hq => by have := hk q hq; rw [List.length_append, List.length_singleton]; omega) pre2 W2 hwk2 hj2 hN2
end
end Go.Proofs.YtpdcjdangnfeiaaGreatDoor.Wq
open Go.Proofs.YtpdcjdangnfeiaaGreatDoor.Wg Go.Proofs.YtpdcjdangnfeiaaGreatDoor.Wi Go.Proofs.YtpdcjdangnfeiaaGreatDoor.Wq
namespace Go.Proofs.YtpdcjdangnfeiaaGreatDoor.Wr
theorem room_of_none {F : Fence} (hd : F.depth = none) (k : Nat) : F.room k := fun d h => by rw [hd] at h; cases h
theorem round_any {F : Fence} (hd : F.depth = none) {m m' : Nat} {P : Program} {l : Nat} {f : FuncId} {tmps : Array Value} {assign body : Code} {w : World} {R : Ending → World → Prop}
    (h : RoundIn F m P l f tmps assign body w R) : RoundIn F m' P l f tmps assign body w R := ⟨h.1, fun c cs _ => h.2 c cs (room_of_none hd _)⟩
theorem yield_any {F : Fence} (hd : F.depth = none) {m : Nat} (m' : Nat) {P : Program} {l : Nat} {args : Array Value} {W : World} {R : Ending → World → Prop} (h : YieldAt F m P l args W R) : YieldAt F m' P l args W R := by
  obtain ⟨fn, tmps, assign, body, hy, hR⟩ := h
  exact ⟨fn, tmps, assign, body, hy, round_any hd hR⟩
/-- Paths are no deeper than there are nodes. -/
theorem depth_lt {es : Es} (hw : WfF (gp es)) {q : Path} (hq : (gp es q).isSome = true) : q.length + 1 ≤ es.length := by
  have hpre : ∀ j, (gp es (q.take j)).isSome = true := by
    intro j
    have e : q = q.take j ++ q.drop j := (List.take_append_drop j q).symm
    cases hc : gp es (q.take j) with
    | some s => rfl
    | none =>
      by_cases h0 : q.drop j = []
      · rw [h0, List.append_nil] at e
        rw [← e] at hc
        rw [hc] at hq; exact hq
      · have := hw.none_under (fun y => hw.none_below (fun d hd => by rw [hc] at hd; cases hd) y) (q.drop j) h0
        rw [← e] at this
        rw [this] at hq; cases hq
  have h1 : ((List.range (q.length + 1)).map (fun j => q.take j)).Nodup := by
    refine List.pairwise_map.2 ((List.nodup_range).imp_of_mem ?_)
    intro a b ha hb hab e
    have h2 := congrArg List.length e
    rw [List.length_take, List.length_take] at h2
    have := List.mem_range.1 ha
    have := List.mem_range.1 hb
    omega
  have := len_le _ (es.map (·.1)) h1 fun x hx => by
    obtain ⟨j, -, rfl⟩ := List.mem_map.1 hx
    obtain ⟨s, hs⟩ := Option.isSome_iff_exists.1 (hpre j)
    exact List.mem_map.2 ⟨(_, s), gp_mem hs, rfl⟩
  simpa using this
theorem tx_size : ∀ (n : Nat) (p : Path), p.length ≤ n → (∀ x ∈ p, x.size ≤ 48) → (tx p).size ≤ 49 * n := by
  intro n
  induction n with
  | zero =>
    intro p h _
    have : p = [] := List.length_eq_zero_iff.1 (by omega)
    subst this
    show ByteArray.empty.size ≤ _
    exact Nat.le_refl _
  | succ n ih =>
    intro p h hx
    by_cases h0 : p = []
    · subst h0
      have := ih [] (by simp) (by simp)
      omega
    obtain ⟨p', y, rfl⟩ : ∃ p' y, p = p' ++ [y] := ⟨p.dropLast, p.getLast h0, (List.dropLast_concat_getLast h0).symm⟩
    have h1 := ih p' (by simp at h; omega) (fun x hx2 => hx x (by simp [hx2]))
    have h2 := hx y (by simp)
    rw [tx_snoc, ByteArray.size_append, ByteArray.size_append]
    have : (⟨#[47]⟩ : ByteArray).size = 1 := rfl
    omega
theorem nm_size {x : ByteArray} (h : nmL x.data.toList = true) : x.size ≤ 48 := by
  simp only [nmL, Bool.and_eq_true, decide_eq_true_eq] at h
  have := h.1.1.1.2
  rw [Array.length_toList] at this
  exact this
theorem same_len {es fs : Es} (h1 : Nd1 es) (h2 : Nd1 fs) (h : absE fs = absE es) : fs.length = es.length := by
  have key : ∀ {es fs : Es}, Nd1 fs → absE fs = absE es → fs.length ≤ es.length := by
    intro es fs h2 h
    have := len_le (fs.map (·.1)) (es.map (·.1)) (show (fs.map (·.1)).Nodup from h2) fun q hq => by
      obtain ⟨e, he, rfl⟩ := List.mem_map.1 hq
      have h3 := congrFun h e.1
      unfold absE at h3
      rw [mem_gp h2 he] at h3
      obtain ⟨s, hs, -⟩ := Option.map_eq_some_iff.1 h3.symm
      exact List.mem_map.2 ⟨(_, s), gp_mem hs, rfl⟩
    rwa [List.length_map, List.length_map] at this
  exact Nat.le_antisymm (key h2 h) (key h1 h.symm)
/-- What is known of the tree that Walk goes over. -/
structure Wok (w1 : World) (B1 nb : Nat) (fs : Es) (R : List Row) : Prop where
  sto : Sto Tryz.prog 85 9 w1 B1 (fs.map (·.2))
  size : B1 ≤ w1.heap.size
  go : ∀ (l N : Nat) (X : Nat → Prop) (J Jx : List Row → World → Prop), (∀ b, X b → b < B1) → (∀ pre W W', J pre W → Below W.heap.size W W' → J pre W') → (∀ m pre x W, J pre W → pre.length < N → YieldAt Fence.wide m Tryz.prog l (encR x) W (YPost X J Jx pre x W)) →
    ∀ pre W, Wk B1 fs X W → J pre W → pre.length + R.length ≤ N → Calls Tryz.prog 87 #[.pointer (some ⟨nb, 0, none⟩), .string ByteArray.empty, .func (.yield l) #[] #[]] W (WPost X J Jx pre R W)
  apart : ∀ (pre : List Row) (x : Row), pre ++ [x] <+: R → x.1 ≠ Wm.lastT pre
theorem wok_of {w w1 : World} {B B1 tb nb n i m : Nat} {es fs : Es} (h : St w B tb es n i m) (hm : m ≤ 2000) (hes : es.length ≤ 1000) (t : Tw w1 B1 nb es [] fs) (hB : B1 ≤ w1.heap.size) : ∃ R, Wok w1 B1 nb fs R ∧ R.length + 1 = es.length := by
  obtain ⟨O1, hO1⟩ : ∃ O1, Obj.cells #[.pointer (some ⟨nb, 0, none⟩), .int .i64 n, .int .i64 i] 55 = O1 := ⟨_, rfl⟩
  have hb := (Below.refl w1.heap.size w1).alloc (Nat.le_refl _) O1
  obtain ⟨a1, a2⟩ := tw_st (t2 := w1.heap.size) h (Tw.below t hb) ⟨hB, by rw [← hO1]; exact Go.heap_alloc_new _ _⟩
  obtain ⟨k, hk⟩ := exists_bound fs
  obtain ⟨r, hr, hnb⟩ := t.root
  have hlen := same_len h.nd t.nd a2
  have hn := St.nmOk a1
  have hd : ∀ q, (gp fs q).isSome = true → q.length ≤ 1000 := fun q hq => by have := depth_lt a1.wf hq; omega
  have hns : ∀ q, (gp fs q).isSome = true → ∀ x ∈ q, x.size ≤ 48 := fun q hq x hx => by
    obtain ⟨s, hs⟩ := Option.isSome_iff_exists.1 hq
    exact nm_size (a1.wf.nm q s hs x hx)
  refine ⟨rows (gp fs) k [], ⟨t.sto, hB, fun l N X J Jx hX hJ hY pre W hwk hj hN => ?_, fun pre x hp => rows_apart a1.wf hn k hp⟩, ?_⟩
  · have := walk_inside a1.wf hn hX hJ hY (fun p s hs => ⟨by have := (a1.limp hs).2.2; omega, by have h3 := tx_size 1000 p (hd p (by rw [hs]; rfl)) (hns p (by rw [hs]; rfl)); omega⟩) (fun p x hx => by have := hns _ hx x (by simp); omega) k [] r hr (fun q hq => by obtain ⟨s, hs⟩ := Option.isSome_iff_exists.1 hq; have := hk q s hs; simpa using this) pre W hwk hj hN
    rw [hnb] at this
    exact this
  · have := paths_len a1 hk
    unfold rows
    rw [List.length_map, ← hlen, ← this]
set_option maxHeartbeats 1000000 in
set_option maxRecDepth 100000 in
theorem walk_stops {w1 : World} {B1 nb bt n : Nat} {fs : Es} {R : List Row} {X : Nat → Prop} (h : Wok w1 B1 nb fs R) (hc : w1.cell? ⟨bt, 0, none⟩ = some (.pointer (some ⟨nb, 0, none⟩))) (hX : ∀ b, X b → b < B1) (hnob : ∀ b, X b → NoB w1 b) :
    SeqStopsK Fence.wide n Tryz.prog 86 #[.pointer (some ⟨bt, 0, none⟩)] encR (Kp X) (fun xs => xs = R) (fun pre => pre <+: R) R.length w1 := by
  intro l J Jx W hW hJ hJx hY h0
  refine callsIn_wide.2 ?_
  show Calls Tryz.prog 86 #[.func (.yield l) #[] #[], .pointer (some ⟨bt, 0, none⟩)] W _
  have hwk : Wk B1 fs X W := ⟨h.sto.below hW, fun b hb => nob_heap (hW.block b (by have := hX b hb; have := h.size; omega)) (hnob b hb), Nat.le_trans h.size hW.size⟩
  have hcall := h.go l R.length X J Jx hX (fun pre W1 W2 hj hb => hJ pre W1 W2 none hj ⟨hb.os, hb.tape, hb.output, hb.size, fun k hk _ => hb.block k hk⟩ (fun r e => by cases e)) (fun m pre x W1 hj hl => yield_any rfl m (hY pre x W1 hj hl)) [] W hwk h0 (by simp)
  have c0 := keepC hW hc
  have HC := Lib.hid hcall
  clear hcall hY hJ hJx h0 hwk hW hnob
  go_enter Tryz.func86, Tryz.ntmps86
  go_wp2_with fail
  refine HC.out.mono ?_
  rintro e w2 (⟨rfl, hj2, -⟩ | ⟨rfl, q, hq, hx⟩)
  · go_wp2
    go_end0
    exact ⟨⟨_, rfl⟩, .inl ⟨_, rfl, by simpa using hj2⟩⟩
  · go_wp2
    go_end0
    exact ⟨⟨_, rfl⟩, .inr ⟨q, hq, by simpa using hx⟩⟩
/-- What Walk hands back. -/
def WalkPost (w : World) (es : Es) (e : Ending) (w' : World) : Prop := ∃ nb bt fs R, e = .returned (.func (.func 86) #[] #[.pointer (some ⟨bt, 0, none⟩)]) ∧ w'.cell? ⟨bt, 0, none⟩ = some (.pointer (some ⟨nb, 0, none⟩)) ∧ Wok w' w.heap.size nb fs R ∧ R.length + 1 = es.length ∧ Below w.heap.size w w'
section
variable {w : World} {B tb n i m : Nat} {es : Es}
set_option maxHeartbeats 1000000 in
set_option maxRecDepth 100000 in
/-- (*Tree).Walk -/
theorem walk_any (h : St w B tb es n i m) (hm : m ≤ 2000) (hes : es.length ≤ 1000) : Calls Tryz.prog 58 #[.pointer (some ⟨tb, 0, none⟩)] w (WalkPost w es) := by
  obtain ⟨r, g1, ht⟩ := h.tre
  obtain ⟨k, hk⟩ := exists_bound es
  have hc := twin_any h.wf (fun p d hd => by have := h.limp hd; exact ⟨by omega, by omega⟩) k [] r g1 (fun q s h => by have := hk q s h; simpa using this) w h.sto
  have c0 : w.cell? ⟨tb, 0, none⟩ = some (.pointer (some ⟨r.nb, 0, none⟩)) := blk_cell ht.2 0
  have HC := Lib.hid hc
  have H := Lib.hid h
  clear hc h g1 ht hk
  go_enter Tryz.func58, Tryz.ntmps58
  go_wp2_with fail
  refine HC.out.mono ?_
  rintro e w1 ⟨nb, fs, rfl, htw, hb⟩
  have HTW := Lib.hid htw
  have HB := Lib.hid hb
  clear htw hb
  go_wp2_with fail
  go_ret
  have hba := (Below.refl w1.heap.size w1).alloc (Nat.le_refl _) (.cells #[.pointer (some ⟨nb, 0, none⟩)] 52)
  obtain ⟨R, h1, h2⟩ := wok_of H.out hm hes (Tw.below HTW.out hba) (Nat.le_trans HB.out.size hba.size)
  exact ⟨nb, w1.heap.size, fs, R, rfl, blk_cell (Go.heap_alloc_new w1 _) 0, h1, h2, HB.out.trans (hba.mono HB.out.size)⟩
end
end Go.Proofs.YtpdcjdangnfeiaaGreatDoor.Wr
end
