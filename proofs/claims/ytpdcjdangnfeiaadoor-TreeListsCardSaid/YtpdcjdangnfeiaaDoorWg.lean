/- maps.Clone of a tree's map; a node's twin walked. -/
import Derived.Test.YtpdcjdangnfeiaaDoorWe
import Derived.Maps.RangeWalk
import Derived.Maps.OwnSet
import Derived.Shelf.SlMaps.Clone
import Derived.Deep.LoopGhost
import Derived.Deep.RegionHeld3
namespace Go.Proofs.YtpdcjdangnfeiaaDoor.Wg
open Go Go.Maps Go.RowKit Go.Proofs.YtpdcjdangnfeiaaDoor.Pb Go.Proofs.YtpdcjdangnfeiaaDoor.PPth Go.Proofs.YtpdcjdangnfeiaaDoorW.PrintWords Go.Proofs.YtpdcjdangnfeiaaDoorW.PrintLast Go.Proofs.YtpdcjdangnfeiaaDoorW.PrintMore Go.Proofs.YtpdcjdangnfeiaaDoor.Ta Go.Proofs.YtpdcjdangnfeiaaDoor.Tb Go.Proofs.YtpdcjdangnfeiaaDoor.Tc Go.Proofs.YtpdcjdangnfeiaaDoor.Te Go.Proofs.YtpdcjdangnfeiaaDoor.Tf Go.Proofs.YtpdcjdangnfeiaaDoor.Qa Go.Proofs.YtpdcjdangnfeiaaDoor.Qb Go.Proofs.YtpdcjdangnfeiaaDoor.Qc Go.Proofs.YtpdcjdangnfeiaaDoor.Qd Go.Proofs.YtpdcjdangnfeiaaDoor.Qe Go.Proofs.YtpdcjdangnfeiaaDoor.Qf Go.Proofs.YtpdcjdangnfeiaaDoor.Ua Go.Proofs.YtpdcjdangnfeiaaDoor.Ub Go.Proofs.YtpdcjdangnfeiaaDoor.Uc Go.Proofs.YtpdcjdangnfeiaaDoor.Ud Go.Proofs.YtpdcjdangnfeiaaDoor.Ue Go.Proofs.YtpdcjdangnfeiaaDoor.Uf Go.Proofs.YtpdcjdangnfeiaaDoor.Ba Go.Proofs.YtpdcjdangnfeiaaDoor.Ug Go.Proofs.YtpdcjdangnfeiaaDoor.Uh Go.Proofs.YtpdcjdangnfeiaaDoor.Ui Go.Proofs.YtpdcjdangnfeiaaDoor.Uj Go.Proofs.YtpdcjdangnfeiaaDoor.Uk Go.Proofs.YtpdcjdangnfeiaaDoor.Ul Go.Proofs.YtpdcjdangnfeiaaDoor.Um Go.Proofs.YtpdcjdangnfeiaaDoor.Un Go.Proofs.YtpdcjdangnfeiaaDoor.Uo Go.Proofs.YtpdcjdangnfeiaaDoor.Up Go.Proofs.YtpdcjdangnfeiaaDoor.Uq Go.Proofs.YtpdcjdangnfeiaaDoor.Ur Go.Proofs.YtpdcjdangnfeiaaDoor.Us Go.Proofs.YtpdcjdangnfeiaaDoor.Ut Go.Proofs.YtpdcjdangnfeiaaDoor.Uu Go.Proofs.YtpdcjdangnfeiaaDoor.Uv Go.Proofs.YtpdcjdangnfeiaaDoor.Uw Go.Proofs.YtpdcjdangnfeiaaDoor.Ux Go.Proofs.YtpdcjdangnfeiaaDoor.Uy Go.Proofs.YtpdcjdangnfeiaaDoor.Uz Go.Proofs.YtpdcjdangnfeiaaDoor.Va Go.Proofs.YtpdcjdangnfeiaaDoor.Vb Go.Proofs.YtpdcjdangnfeiaaDoor.Vc Go.Proofs.YtpdcjdangnfeiaaDoor.Vd Go.Proofs.YtpdcjdangnfeiaaDoor.Ve Go.Proofs.YtpdcjdangnfeiaaDoor.Wa Go.Proofs.YtpdcjdangnfeiaaDoor.Wb Go.Proofs.YtpdcjdangnfeiaaDoor.Wc Go.Proofs.YtpdcjdangnfeiaaDoor.Wd Go.Proofs.YtpdcjdangnfeiaaDoor.We
theorem call68 {W : World} {b : Nat} {es : Array MapEntry} {clock : Nat} (hW : W.heap[b]? = some (.map es clock)) : (callFunc 68 #[.iface 65 (.map (some b))]).run Tryd.prog W = .ok (.value (.iface 65 (.map (some W.heap.size)))) (W.alloc (.map es clock)) := by
  rw [run_callFunc_extern Tryd.func68 (by kernel_rfl) (by kernel_rfl) (by kernel_rfl) (e := Extern.MapsClone.clone) (by kernel_rfl), run_maps_clone_sl W 65 hW]
  rfl
set_option maxHeartbeats 1000000 in
set_option maxRecDepth 100000 in
theorem clone_map (b n : Nat) (D : DataW Nat) (w : World) (h : w.ownsMap Tryd.prog 9 ptrR b n D) :
    Calls Tryd.prog 43 #[.map (some b)] w fun e w' => e = .returned (.map (some w.heap.size)) ∧ w'.ownsMap Tryd.prog 9 ptrR w.heap.size n D ∧ Below w.heap.size w w' ∧ w'.heap.size = w.heap.size + 1 := by
  obtain ⟨es, clock, hb, F, hs, hD⟩ := h
  have hq := fun w => run_eql_map_nil_sl (P := Tryd.prog) w 65 9 56 (some b) Tryd.underlying65
  have h68 := call68 hb
  have HO := Lib.hid (show (w.alloc (.map es clock)).ownsMap Tryd.prog 9 ptrR w.heap.size n D from ⟨es, clock, (MapKept.heap_alloc w _).1, F, hs, hD⟩)
  have HB := Lib.hid ((Below.refl _ w).alloc (Nat.le_refl _) (.map es clock))
  clear hb F hs hD
  go_enter Tryd.func43, Tryd.ntmps43
  go_wp2
  rw [run_typeAssert_map_sl _ 65 20 9 56 _ Tryd.underlying65]
  simp only [Result.andThen]
  rw [Oper.upon_value]
  go_wp2
  go_ret
  exact ⟨rfl, HO.out, HB.out, by simp⟩
set_option maxHeartbeats 1000000 in
set_option maxRecDepth 100000 in
theorem clone_nilmap (w : World) : Calls Tryd.prog 43 #[.map none] w fun e w' => e = .returned (.map none) ∧ w' = w := by
  have hq := fun w => run_eql_map_nil_sl (P := Tryd.prog) w 65 9 56 none Tryd.underlying65
  go_enter Tryd.func43, Tryd.ntmps43
  go_wp2
  go_ret
  exact ⟨rfl, rfl⟩
/-- What the twin of a node is. -/
def TwPost (w : World) (es : Es) (p : Path) (e : Ending) (w' : World) : Prop := ∃ nb fs, e = .returned (.pointer (some ⟨nb, 0, none⟩)) ∧ Tw w' w.heap.size nb es p fs ∧ Below w.heap.size w w'
section
variable {w : World} {B : Nat} {es : Es} {p : Path} {d : Sh}
set_option maxHeartbeats 4000000 in
set_option maxRecDepth 1000000 in
theorem twin_file (ho : Nd w B d) (hw : WfF (gp es)) (hg : gp es p = some d) (hd : d.dir = false) (hl : d.data.length ≤ 100000000) : Calls Tryd.prog 29 #[.pointer (some ⟨d.nb, 0, none⟩)] w (TwPost w es p) := by
  obtain ⟨dv, hc, hv⟩ := ho.cells
  obtain ⟨A, c, rfl, hcap, hr⟩ := rd_to hv
  have hk : kidsV d = .map none := by unfold kidsV; rw [if_neg (by simp [hd])]
  rw [hk, hd] at hc
  have hlt := ho.lt
  have a0 : w.cell? ⟨d.nb, 0, none⟩ = some (.bool false) := blk_cell hc 0
  have a1 : w.cell? ⟨d.nb, 1, none⟩ = some (.slice A d.data.length c) := blk_cell hc 1
  have a2 : w.cell? ⟨d.nb, 2, none⟩ = some (.map none) := blk_cell hc 2
  have a3 : w.cell? ⟨d.nb, 3, none⟩ = some (.int .i64 d.slots) := blk_cell hc 3
  have r1 := fun w => run_range_nilMap (P := Tryd.prog) w 65 9 56 Tryd.underlying65
  obtain ⟨O1, hO1⟩ : ∃ O1, Obj.cells #[.bool false, .slice A d.data.length c, .map none, .int .i64 d.slots] 67 = O1 := ⟨_, rfl⟩
  have hb1 : Below w.heap.size w (w.alloc O1) := (Below.refl _ w).alloc (Nat.le_refl _) O1
  have HR1 := Lib.hid (hr.below hb1)
  have HB1 := Lib.hid hb1
  have HC := Lib.hid hc
  have HW := Lib.hid hw
  have HG := Lib.hid hg
  have hne : d.nb ≠ w.heap.size := by omega
  have HL := Lib.hid hl
  have HCAP := Lib.hid hcap
  have HNEW := Lib.hid (Go.heap_alloc_new w O1)
  clear hr hb1 hw hg hc hk
  obtain ⟨sl, hsl⟩ : ∃ sl, d.slots = sl := ⟨_, rfl⟩
  rw [hsl] at hO1 a3 HC
  have HSL := Lib.hid hsl
  clear hsl
  go_enter Tryd.func29, Tryd.ntmps29
  go_wp2_with fail
  refine (clone_any A c d.data _ HR1.out HL.out).mono ?_
  rintro e w2 ⟨v, rfl, ho2, hb2⟩
  obtain ⟨A2, c2, rfl, hcap2, hrd2⟩ := rd_to (own_rd ho2)
  have HO2 := Lib.hid (own_rd ho2)
  have HB2 := Lib.hid (HB1.out.trans (hb2.mono (by simp)))
  have hU : w2.heap[w.heap.size]? = some (.cells #[.bool false, .slice A d.data.length c, .map none, .int .i64 sl] 67 (0, 0)) := by
    rw [hb2.block _ (by simp), HNEW.out, ← hO1]
  have b0 := blk_cell hU 0
  have b1 := blk_cell hU 1
  have b2 := blk_cell hU 2
  have b3 := blk_cell hU 3
  have f1 := blk_frozen hU 1
  have f2 := blk_frozen hU 2
  have a2' := keepC HB2.out a2
  have HU := Lib.hid hU
  have HA2 := Lib.hid a2
  clear a0 a1 a2 a3 ho2 hb2 hU hcap2 hrd2
  go_wp2_with fail
  refine (clone_nilmap _).mono ?_
  rintro e w3 ⟨rfl, rfl⟩
  obtain ⟨W3, hW3⟩ : ∃ W3, (w2.setCell ⟨w.heap.size, 1, none⟩ (.slice A2 d.data.length c2)).setCell ⟨w.heap.size, 2, none⟩ (.map none) = W3 := ⟨_, rfl⟩
  have hsz : W3.heap.size = w2.heap.size := by rw [← hW3]; simp
  have r2 := fun ty => run_next_nilMap (P := Tryd.prog) W3 ty 0 0 #[]
  rw [hsz] at r2
  have hb3 : Below w.heap.size w2 W3 := hW3 ▸ ((Below.refl w.heap.size w2).setCell (Nat.le_refl _) _).setCell (Nat.le_refl _) _
  have a3' := keepC (HB2.out.trans hb3) HA2.out
  go_wp2_with fail
  go_loopw [4, 5] (fun _ _ wr => wr = W3.alloc (.mapIter none 0 #[] 0)) (fun _ _ _ => 0)
  case atStart => rfl
  case round =>
    subst hrel
    go_wp2
    go_ret
    have hN : NoB w2 w.heap.size := noB_cells HU.out (by simp)
    have hf : Fr w2 W3 (fun b => b = w.heap.size) := hW3 ▸ Ue.Fr.cell2 _ _ hN
    have hb4 : Below W3.heap.size W3 (W3.alloc (.mapIter none 0 #[] 0)) := (Below.refl _ _).alloc (Nat.le_refl _) _
    have hcl : W3.heap[w.heap.size]? = some (.cells #[.bool false, .slice A2 d.data.length c2, .map none, .int .i64 sl] 67 (0, 0)) := by
      rw [← hW3]
      exact (blk_set (blk_set HU.out 1 _) 2 _).trans rfl
    have hnd : Nd W3 w.heap.size ⟨w.heap.size, false, d.data, 0, sl, .map []⟩ := ⟨Nat.le_refl _, ⟨_, hcl, HO2.out.fr hf⟩, fun h => by cases h⟩
    refine ⟨w.heap.size, _, rfl, tw_file (r := ⟨w.heap.size, false, d.data, 0, sl, .map []⟩) HW.out HG.out hd ⟨rfl, rfl, ?_⟩ rfl (Nd.below hnd hb4), (HB2.out.trans hb3).trans (hb4.mono ?_)⟩
    · exact HSL.out.symm
    · rw [hsz]; exact HB2.out.size
theorem fr_grown {w w' : World} {j : Nat} (h : w.grownBy w' (some j)) (hn : NoB w j) : Fr w w' (fun b => b = j) :=
  ⟨h.size, fun i hi hne => h.block i hi (fun e => hne (Option.some.inj e)), fun i hi _ => by rw [hi]; exact hn⟩
theorem below_some {w w' : World} {base j : Nat} (h : w.grownBy w' (some j)) (hj : base ≤ j) (hb : base ≤ w.heap.size) : Below base w w' :=
  ⟨h.os, h.tape, h.output, h.size, fun k hk => h.block k (by omega) (fun e => by have := Option.some.inj e; omega)⟩
theorem noB_iter {w : World} {P : Program} {k : TypeId} {R : Value → Option (DataW Nat × List MemPlace)} {b r n cnt : Nat} {D : DataW Nat} {left : Lit → Bool} (h : w.ranges P k R b r n D left cnt) : NoB w r := by
  obtain ⟨es, clock, since, seen, c0, hb, _, _, _, hr, _⟩ := h
  intro o y hc
  simp [World.cell?, hr] at hc
theorem sto_fr_lt {w w' : World} {S1 j : Nat} {σ : List Sh} (h : Sto Tryd.prog 67 9 w S1 σ) (hf : Fr w w' (fun b => b = j)) (hj : j < S1) : Sto Tryd.prog 67 9 w' S1 σ :=
  h.fr hf fun i hi s hs hb => by
    have h1 := (Tc.Ok.blk_lt (h.ok s hs) i hb).2.2
    have : i = j := hi
    omega
/-- The twin's loop under way. -/
structure TwLoop (w wr : World) (nb mb : Nat) (es : Es) (p : Path) (d : Sh) (v : Value) (left left' : Lit → Bool) (cnt : Nat) (D' : DataW Nat) (acc : Es) : Prop where
  rg : wr.ranges Tryd.prog 9 ptrR d.mb (mb + 1) (size d.D) d.D left' cnt
  own : wr.ownsMap Tryd.prog 9 ptrR mb (size D') D'
  cell : wr.heap[nb]? = some (.cells #[.bool true, v, .map (some mb), .int .i64 d.slots] 67 (0, 0))
  rd : Rd wr v d.data
  low : Below w.heap.size w wr
  ac : Acc es p d.D D' left acc
  sto : Sto Tryd.prog 67 9 wr (mb + 2) (acc.map (·.2))
section
variable {wr w1 w3 w4 : World} {nb mb cnt cnt1 : Nat} {v : Value} {left left' left2 : Lit → Bool} {D' : DataW Nat} {acc : Es}
theorem TwLoop.next (T : TwLoop w wr nb mb es p d v left left' cnt D' acc) (hnb : w.heap.size ≤ nb) (hmb : nb < mb) (rg : w1.ranges Tryd.prog 9 ptrR d.mb (mb + 1) (size d.D) d.D left2 cnt1) (hg : wr.grownBy w1 (some (mb + 1))) :
    TwLoop w w1 nb mb es p d v left left2 cnt1 D' acc := by
  have hf := fr_grown hg (noB_iter T.rg)
  have hlt : nb < wr.heap.size := (Array.getElem?_eq_some_iff.1 T.cell).1
  exact ⟨rg, T.own.kept hg (by intro e; have := Option.some.inj e; omega), (hf.block nb hlt (by intro e; have : nb = mb + 1 := e; omega)).trans T.cell, T.rd.fr hf, T.low.trans (below_some hg (by omega) T.low.size), T.ac, sto_fr_lt T.sto hf (by omega)⟩
theorem TwLoop.store (T : TwLoop w w1 nb mb es p d v left left2 cnt1 D' acc) (hd : d.mb < w.heap.size) (hnb : w.heap.size ≤ nb) (hmb : nb < mb) {x : ByteArray} {fs : Es} {kb n' : Nat} (hl : left (keyL x) = true) (hD : has d.D (keyL x) = true)
    (hb : Below w1.heap.size w1 w3) (t : Tw w3 w1.heap.size kb es (p ++ [x]) fs) (ho4 : w4.ownsMap Tryd.prog 9 ptrR mb n' (D'.put (keyL x) (ptrD (some kb)))) (hg4 : w3.grownBy w4 (some mb)) :
    TwLoop w w4 nb mb es p d v (fun z => left z && !z.sameKey (keyL x)) left2 cnt1 (D'.put (keyL x) (ptrD (some kb))) (under x fs ++ acc) := by
  have hg3 : w1.grownBy w3 none := ⟨hb.os, hb.tape, hb.output, hb.size, fun k hk _ => hb.block k hk⟩
  have rg3 := T.rg.kept hg3 (by simp) (by simp)
  have own3 := T.own.kept hg3 (by simp)
  have hf := fr_grown hg4 (noB_own own3)
  have hlt : nb < w1.heap.size := (Array.getElem?_eq_some_iff.1 T.cell).1
  have hmb1 := T.rg.lt
  have f3 : Fr w1 w3 (fun _ => False) := Fr.of_below hb _ (fun _ h => h.elim)
  have sacc : Sto Tryd.prog 67 9 w4 (mb + 2) (acc.map (·.2)) := sto_fr_lt (T.sto.below hb) hf (by omega)
  have sfs : Sto Tryd.prog 67 9 w4 w1.heap.size (fs.map (·.2)) := sto_fr_lt t.sto hf (by omega)
  refine ⟨rg3.kept hg4 (by intro e; have := Option.some.inj e; omega) (by intro e; have := Option.some.inj e; omega), own_size ho4, (hf.block nb (by have := hb.size; omega) (by intro e; have : nb = mb := e; omega)).trans ((hb.block nb hlt).trans T.cell), (T.rd.fr f3).fr hf, (T.low.trans (hb.mono T.low.size)).trans (below_some hg4 (by omega) (Nat.le_trans T.low.size hb.size)), T.ac.step hl hD t, ?_⟩
  rw [List.map_append, under_snd]
  refine Sto.append (Sto.low sfs (by omega)) sacc fun s hs s2 hs2 b hb1 hb2 => ?_
  have h1 := (Tc.Ok.blk_lt (sfs.ok s hs) b hb1).2.2
  have h2 := (Tc.Ok.blk_lt ((T.sto).ok s2 hs2) b hb2).1
  omega
theorem TwLoop.done (T : TwLoop w wr nb mb es p d v left left' cnt D' acc) (hw : WfF (gp es)) (hg : gp es p = some d) (hd : d.dir = true) (hnb : w.heap.size ≤ nb) (hmb : nb < mb) (hl : ∀ k, left k = false) : ∃ fs, Tw wr w.heap.size nb es p fs := by
  refine ⟨_, T.ac.done (r := ⟨nb, true, d.data, mb, d.slots, D'⟩) hl hw hg hd ⟨rfl, rfl, rfl, rfl⟩ ?_⟩
  have ho : Nd wr w.heap.size ⟨nb, true, d.data, mb, d.slots, D'⟩ := ⟨hnb, ⟨v, T.cell, T.rd⟩, fun _ => ⟨by show w.heap.size ≤ mb; omega, T.own⟩⟩
  refine (Sto.low T.sto (by omega)).add ho ?_ fun x hx i hi hix => ?_
  · show ([nb, mb] : List Nat).Nodup
    simp
    omega
  · have h1 := (Tc.Ok.blk_lt (T.sto.ok x hx) i hix).2.2
    have h2 : i = nb ∨ i = mb := by simpa [blks] using hi
    omega
end
set_option maxHeartbeats 4000000 in
set_option maxRecDepth 1000000 in
theorem twin_dir (hs : Sto Tryd.prog 67 9 w B (es.map (·.2))) (hw : WfF (gp es)) (hg : gp es p = some d) (hd : d.dir = true) (hl : d.data.length ≤ 100000000) (hz : size d.D ≤ 1000000)
    (ih : ∀ x t, gp es (p ++ [x]) = some t → ∀ W, Sto Tryd.prog 67 9 W B (es.map (·.2)) → Calls Tryd.prog 29 #[.pointer (some ⟨t.nb, 0, none⟩)] W (TwPost W es (p ++ [x]))) :
    Calls Tryd.prog 29 #[.pointer (some ⟨d.nb, 0, none⟩)] w (TwPost w es p) := by
  have ho : Nd w B d := hs.ok d (List.mem_map.2 ⟨(p, d), gp_mem hg, rfl⟩)
  obtain ⟨dv, hc, hv⟩ := ho.cells
  obtain ⟨A, c, rfl, hcap, hr⟩ := rd_to hv
  have hk : kidsV d = .map (some d.mb) := by unfold kidsV; rw [if_pos hd]
  rw [hk, hd] at hc
  have hlt := ho.lt
  have hown := (ho.kids hd).2
  have hmlt := hown.lt
  have a0 : w.cell? ⟨d.nb, 0, none⟩ = some (.bool true) := blk_cell hc 0
  have a1 : w.cell? ⟨d.nb, 1, none⟩ = some (.slice A d.data.length c) := blk_cell hc 1
  have a2 : w.cell? ⟨d.nb, 2, none⟩ = some (.map (some d.mb)) := blk_cell hc 2
  have a3 : w.cell? ⟨d.nb, 3, none⟩ = some (.int .i64 d.slots) := blk_cell hc 3
  obtain ⟨O1, hO1⟩ : ∃ O1, Obj.cells #[.bool true, .slice A d.data.length c, .map (some d.mb), .int .i64 d.slots] 67 = O1 := ⟨_, rfl⟩
  have hb1 : Below w.heap.size w (w.alloc O1) := (Below.refl _ w).alloc (Nat.le_refl _) O1
  have HR1 := Lib.hid (hr.below hb1)
  have HB1 := Lib.hid hb1
  have HW := Lib.hid hw
  have HG := Lib.hid hg
  have HS := Lib.hid hs
  have HOWN := Lib.hid hown
  have HIH := Lib.hid ih
  have hne : d.nb ≠ w.heap.size := by omega
  have HL := Lib.hid hl
  have HNEW := Lib.hid (Go.heap_alloc_new w O1)
  have HDR := Lib.hid (hw.dr p d hg hd)
  clear hr hb1 hw hg hc hk hs ih ho hown hv
  go_enter Tryd.func29, Tryd.ntmps29
  go_wp2_with fail
  refine (clone_any A c d.data _ HR1.out HL.out).mono ?_
  rintro e w2 ⟨v, rfl, ho2, hb2⟩
  obtain ⟨A2, c2, rfl, hcap2, hrd2⟩ := rd_to (own_rd ho2)
  have HO2 := Lib.hid (own_rd ho2)
  have HB2 := Lib.hid (HB1.out.trans (hb2.mono (by simp)))
  have hU : w2.heap[w.heap.size]? = some (.cells #[.bool true, .slice A d.data.length c, .map (some d.mb), .int .i64 d.slots] 67 (0, 0)) := by
    rw [hb2.block _ (by simp), HNEW.out, ← hO1]
  have b1 := blk_cell hU 1
  have f1 := blk_frozen hU 1
  have a2' := keepC HB2.out a2
  have HA2 := Lib.hid a2
  obtain ⟨W3, hW3⟩ : ∃ W3, w2.setCell ⟨w.heap.size, 1, none⟩ (.slice A2 d.data.length c2) = W3 := ⟨_, rfl⟩
  have hsz3 : W3.heap.size = w2.heap.size := by rw [← hW3]; simp
  have hb3 : Below w.heap.size w W3 := HB2.out.trans (hW3 ▸ (Below.refl w.heap.size w2).setCell (Nat.le_refl _) _)
  have HB3 := Lib.hid hb3
  have HU3 := Lib.hid (show W3.heap[w.heap.size]? = some (.cells #[.bool true, .slice A2 d.data.length c2, .map (some d.mb), .int .i64 d.slots] 67 (0, 0)) by rw [← hW3]; exact (blk_set hU 1 _).trans rfl)
  have HF3 := Lib.hid (show Fr w2 W3 (fun b => b = w.heap.size) from hW3 ▸ Fr.cell _ (noB_cells hU (by simp)))
  have a3' := keepC hb3 a2
  have HSZ := Lib.hid hsz3
  have HLT2 := Lib.hid (show w.heap.size < w2.heap.size from (Array.getElem?_eq_some_iff.1 hU).1)
  clear a0 a1 a2 a3 ho2 hb2 hU hcap2 hrd2 hb3 hsz3
  go_wp2_with fail
  refine (clone_map d.mb (size d.D) d.D W3 (own_fr HOWN.out (Fr.of_below HB3.out (fun _ => False) (fun _ h => h.elim)) (fun h => h))).mono ?_
  rw [HSZ.out]
  obtain ⟨mb, hmb⟩ : ∃ mb, w2.heap.size = mb := ⟨_, rfl⟩
  rw [hmb]
  rintro e w4 ⟨rfl, ho4, hb4, hs4⟩
  have hwm : w.heap.size < mb := hmb ▸ HLT2.out
  have hb4' : Below W3.heap.size W3 w4 := by rw [HSZ.out, hmb]; exact hb4
  have hU4 : w4.heap[w.heap.size]? = some (.cells #[.bool true, .slice A2 d.data.length c2, .map (some d.mb), .int .i64 d.slots] 67 (0, 0)) := (hb4.block _ hwm).trans HU3.out
  have q2 := blk_cell hU4 2
  have g2 := blk_frozen hU4 2
  obtain ⟨W5, hW5⟩ : ∃ W5, w4.setCell ⟨w.heap.size, 2, none⟩ (.map (some mb)) = W5 := ⟨_, rfl⟩
  have hsz5 : W5.heap.size = mb + 1 := by rw [← hW5]; simp [hs4]
  have hb5 : Below w.heap.size w W5 := (HB3.out.trans (hb4.mono (Nat.le_of_lt hwm))).trans (hW5 ▸ (Below.refl w.heap.size w4).setCell (Nat.le_refl _) _)
  have HB5 := Lib.hid hb5
  have hN4 : NoB w4 w.heap.size := noB_cells hU4 (by simp)
  have hF5 : Fr w4 W5 (fun b => b = w.heap.size) := hW5 ▸ Fr.cell _ hN4
  have HU5 := Lib.hid (show W5.heap[w.heap.size]? = some (.cells #[.bool true, .slice A2 d.data.length c2, .map (some mb), .int .i64 d.slots] 67 (0, 0)) by rw [← hW5]; exact (blk_set hU4 2 _).trans rfl)
  have HRD5 := Lib.hid (show Rd W5 (.slice A2 d.data.length c2) d.data from (((HO2.out.fr HF3.out).fr (Fr.of_below hb4' (fun _ => False) (fun _ h => h.elim))).fr hF5))
  have HOM := Lib.hid (show W5.ownsMap Tryd.prog 9 ptrR mb (size d.D) d.D from own_fr ho4 hF5 (by intro e; have : mb = w.heap.size := e; omega))
  have HOW := Lib.hid (show W5.ownsMap Tryd.prog 9 ptrR d.mb (size d.D) d.D from own_fr HOWN.out (Fr.of_below hb5 (fun _ => False) (fun _ h => h.elim)) (fun h => h))
  have a5' := keepC hb5 HA2.out
  have HMB := Lib.hid hwm
  clear ho4 hb4 hb4' hs4 hU4 hb5 hN4 hF5
  go_wp2_with (first
    | (at_range; refine wpList_range_own _ rfl _ 65 rfl 9 56 law9 Tryd.underlying65 ptrR d.mb (size d.D) d.D rfl HOW.out ?_; intro w6 hrg6 hg6 hs6)
    | go_in)
  have hg6' : Below W5.heap.size W5 w6 := grown_below hg6
  have HT : Hid (TwLoop w w6 w.heap.size mb es p d (.slice A2 d.data.length c2) (has d.D) (has d.D) (size d.D) d.D []) := by
    rw [hsz5] at hrg6
    refine Lib.hid ⟨hrg6, HOM.out.kept hg6 (by simp), (hg6'.block _ (by rw [hsz5]; omega)).trans HU5.out, HRD5.out.fr (Fr.of_below hg6' (fun _ => False) (fun _ h => h.elim)), HB5.out.trans (hg6'.mono HB5.out.size), Acc.start es p HDR.out, ⟨(fun s hs => by cases hs), List.nodup_nil⟩⟩
  have HSZ5 := Lib.hid hsz5
  clear hrg6 hg6 hs6 hg6' hsz5
  go_frame
  go_loopw [4, 5] (fun _ _ wr => ∃ (left : Lit → Bool) (cnt : Nat) (D' : DataW Nat) (acc : Es), Hid (TwLoop w wr w.heap.size mb es p d (.slice A2 d.data.length c2) left left cnt D' acc)) (fun _ _ wr => wr.rangeLeft d.mb W5.heap.size)
  case atStart => exact ⟨_, _, _, _, HT⟩
  case round =>
    clear HT
    obtain ⟨left, cnt, D', acc, HT⟩ := hrel
    have hrg := HT.out.rg
    rw [← HSZ5.out] at hrg
    go_wp2_with (first
      | (at_next; refine wpList_next_ranges _ rfl _ rfl 9 law9 ptrR Value.string ptrV keyS_inv (fun v y h => ptrR_inv1 h) d.mb W5.heap.size (size d.D) _ _ _ rfl hrg ?_ ?_)
      | go_in)
    · intro _ hl0
      obtain ⟨fs, hfs⟩ := HT.out.done HW.out HG.out hd (Nat.le_refl _) HMB.out hl0
      have HFS := Lib.hid hfs
      clear hfs
      go_wp2
      go_ret
      exact ⟨_, fs, rfl, HFS.out, HT.out.low⟩
    · intro x c kl yd yp w1 cnt1 hkey hlx hv hat hrg1 hlt hg1 hs1 hen
      obtain rfl : kl = keyL x := keyS_eq hkey
      have hh : has d.D (keyL x) = true := has_true_of_atKey hat
      have hD := hh
      obtain ⟨e1, a1⟩ := kid_at HS.out HW.out HG.out hd x
      rw [e1] at hh
      obtain ⟨t, ht⟩ := Option.isSome_iff_exists.1 hh
      have hyd : yd = ptrD (some t.nb) := (hat .nil).symm.trans (a1 t ht .nil)
      rw [ptrR_V] at hv
      obtain rfl : c = some t.nb := ptrD_inj ((Prod.mk.inj (Option.some.inj hv)).1.trans hyd)
      have T1 := Lib.hid (HT.out.next (Nat.le_refl _) HMB.out (by rw [← HSZ5.out]; exact hrg1) (by rw [← HSZ5.out]; exact hg1))
      have HLT := Lib.hid hlt
      have HLX := Lib.hid hlx
      have HD := Lib.hid hD
      have HRG := Lib.hid hrg
      have HKEY := Lib.hid hkey
      have HC := Lib.hid (HIH.out x t ht w1.drew (((HS.out.below T1.out.low)).below ((Below.refl _ _).drew)))
      have HS1 := Lib.hid (show w1.drew.cell? ⟨w.heap.size, 2, none⟩ = some (.map (some mb)) from blk_cell T1.out.cell 2)
      have hn : size D' < maxLen := by rw [T1.out.ac.size]; unfold maxLen; omega
      clear hat hh hD e1 a1 hyd hv hrg1 hg1 hs1 hlt hlx hrg hkey
      go_wp2_with fail
      go_region_held3 (fun W => W.cell? ⟨w.heap.size, 2, none⟩ = some (.map (some mb))) (first | exact HS4.out | exact HS3.out | exact HS1.out | fail) (first | (go_at_call 29; refine HC.out.mono ?_; rintro e w3 ⟨kb, fs, rfl, htw, hb⟩; have HTW := Lib.hid htw; have HBC := Lib.hid (((Below.refl w1.heap.size w1).drew).trans hb); obtain ⟨w4, hrun, ho4, hg4⟩ := Ta.put (T1.out.own.kept (row := none) ⟨HBC.out.os, HBC.out.tape, HBC.out.output, HBC.out.size, fun k hk _ => HBC.out.block k hk⟩ (by simp)) law9 Tryd.underlying65 hn x HKEY.out (some kb); have hrun' : (Instr.mapUpdate 65 (.map (some mb)) (.string x) (.pointer (some ⟨kb, 0, none⟩))).run Tryd.prog w3 = .ok () w4 := hrun; have HO4 := Lib.hid ho4; have HG4 := Lib.hid hg4; have HS3 := Lib.hid (show w3.cell? ⟨w.heap.size, 2, none⟩ = some (.map (some mb)) from keepC hb HS1.out); have HT4 := Lib.hid (T1.out.store hmlt (Nat.le_refl _) HMB.out HLX.out HD.out HBC.out HTW.out ho4 hg4); have HS4 := Lib.hid (show w4.cell? ⟨w.heap.size, 2, none⟩ = some (.map (some mb)) from blk_cell HT4.out.cell 2); clear htw hb hrun ho4 hg4) | fail)
      go_wp2_with fail
      go_roundw
      case rel => exact ⟨_, cnt1, _, _, HT4⟩
      case measure =>
        have h4 := HT4.out.rg
        rw [← HSZ5.out] at h4
        rw [h4.left_eq, HRG.out.left_eq]
        exact HLT.out
end
end Go.Proofs.YtpdcjdangnfeiaaDoor.Wg
