/- Looks: is a tree the document's? Walked, where it is. -/
import Derived.Test.YtpdcjdangnfeiaaGreatDoorZt
section
open Go Go.Maps Go.RowKit Go.Proofs.YtpdcjdangnfeiaaGreatDoor.Pb Go.Proofs.YtpdcjdangnfeiaaGreatDoor.PPth Go.Proofs.YtpdcjdangnfeiaaGreatDoorW.PrintWords Go.Proofs.YtpdcjdangnfeiaaGreatDoorW.PrintLast Go.Proofs.YtpdcjdangnfeiaaGreatDoorW.PrintMore Go.Proofs.YtpdcjdangnfeiaaGreatDoor.Ta Go.Proofs.YtpdcjdangnfeiaaGreatDoor.Tb Go.Proofs.YtpdcjdangnfeiaaGreatDoor.Tc Go.Proofs.YtpdcjdangnfeiaaGreatDoor.Te Go.Proofs.YtpdcjdangnfeiaaGreatDoor.Tf Go.Proofs.YtpdcjdangnfeiaaGreatDoor.Qa Go.Proofs.YtpdcjdangnfeiaaGreatDoor.Qb Go.Proofs.YtpdcjdangnfeiaaGreatDoor.Qc Go.Proofs.YtpdcjdangnfeiaaGreatDoor.Qd Go.Proofs.YtpdcjdangnfeiaaGreatDoor.Qe Go.Proofs.YtpdcjdangnfeiaaGreatDoor.Qf Go.Proofs.YtpdcjdangnfeiaaGreatDoor.Ua Go.Proofs.YtpdcjdangnfeiaaGreatDoor.Ub Go.Proofs.YtpdcjdangnfeiaaGreatDoor.Uc Go.Proofs.YtpdcjdangnfeiaaGreatDoor.Ud Go.Proofs.YtpdcjdangnfeiaaGreatDoor.Ue Go.Proofs.YtpdcjdangnfeiaaGreatDoor.Uf Go.Proofs.YtpdcjdangnfeiaaGreatDoor.Ba Go.Proofs.YtpdcjdangnfeiaaGreatDoor.Ug Go.Proofs.YtpdcjdangnfeiaaGreatDoor.Uh Go.Proofs.YtpdcjdangnfeiaaGreatDoor.Ui Go.Proofs.YtpdcjdangnfeiaaGreatDoor.Uj Go.Proofs.YtpdcjdangnfeiaaGreatDoor.Uk Go.Proofs.YtpdcjdangnfeiaaGreatDoor.Ul Go.Proofs.YtpdcjdangnfeiaaGreatDoor.Um Go.Proofs.YtpdcjdangnfeiaaGreatDoor.Un Go.Proofs.YtpdcjdangnfeiaaGreatDoor.Uo Go.Proofs.YtpdcjdangnfeiaaGreatDoor.Up Go.Proofs.YtpdcjdangnfeiaaGreatDoor.Uq Go.Proofs.YtpdcjdangnfeiaaGreatDoor.Ur Go.Proofs.YtpdcjdangnfeiaaGreatDoor.Us Go.Proofs.YtpdcjdangnfeiaaGreatDoor.Ut Go.Proofs.YtpdcjdangnfeiaaGreatDoor.Uu Go.Proofs.YtpdcjdangnfeiaaGreatDoor.Uv Go.Proofs.YtpdcjdangnfeiaaGreatDoor.Uw Go.Proofs.YtpdcjdangnfeiaaGreatDoor.Ux Go.Proofs.YtpdcjdangnfeiaaGreatDoor.Uy Go.Proofs.YtpdcjdangnfeiaaGreatDoor.Uz Go.Proofs.YtpdcjdangnfeiaaGreatDoor.Va Go.Proofs.YtpdcjdangnfeiaaGreatDoor.Vb Go.Proofs.YtpdcjdangnfeiaaGreatDoor.Vc Go.Proofs.YtpdcjdangnfeiaaGreatDoor.Vd Go.Proofs.YtpdcjdangnfeiaaGreatDoor.Ve Go.Proofs.YtpdcjdangnfeiaaGreatDoor.Wa Go.Proofs.YtpdcjdangnfeiaaGreatDoor.Wb Go.Proofs.YtpdcjdangnfeiaaGreatDoor.Wc Go.Proofs.YtpdcjdangnfeiaaGreatDoor.Wd Go.Proofs.YtpdcjdangnfeiaaGreatDoor.We Go.Proofs.YtpdcjdangnfeiaaGreatDoor.Wg Go.Proofs.YtpdcjdangnfeiaaGreatDoor.Wi Go.Proofs.YtpdcjdangnfeiaaGreatDoor.Wm Go.Proofs.YtpdcjdangnfeiaaGreatDoor.Wp Go.Proofs.YtpdcjdangnfeiaaGreatDoor.Wq Go.Proofs.YtpdcjdangnfeiaaGreatDoor.Wr Go.Proofs.YtpdcjdangnfeiaaGreatDoor.Rd Go.Proofs.YtpdcjdangnfeiaaGreatDoor.Sg Go.Proofs.YtpdcjdangnfeiaaGreatDoor.Si Go.Proofs.YtpdcjdangnfeiaaGreatDoor.Sj
namespace Go.Proofs.YtpdcjdangnfeiaaGreatDoor.Sk
open Go.Proofs.YtpdcjdangnfeiaaGreatDoor.Rc (Rf Rf2 Gb Fz RS Tied Rel RR toRR OwnR rowsR rwalk_any Deep)
theorem x_rows {es : Es} {L : List Rc.T} {ix : Path → Option Nat} (h : Rel L (absE es) ix) : ∀ R, RowsOf es R → rowsR L 41 0 ByteArray.empty = R.map toRR := by
  rintro R ⟨fs, ha, hw, hn, hs, -, rfl⟩
  rw [← ha] at h
  obtain ⟨s, h1, h2, -⟩ := Rc.root_gp h
  have := Rc.rows_eq h hn hs 41 [] s 0 h1 h2 h.root
  rwa [show tx [] = ByteArray.empty from rfl] at this
set_option maxHeartbeats 8000000 in
set_option maxRecDepth 100000 in
theorem looks_any {w : World} {B tb n i m : Nat} {es : Es} (q : Int) (h : St w B tb es n i m) (hB : 0 < B) (hm : m ≤ 2000) (hes : es.length ≤ 41) (hq : w.cell? ⟨0, 0, none⟩ = some (.int .i64 q)) {R g b M : Nat} {r : RS} {ix : Path → Option Nat} (k : Rf w R g b r.L r.n r.m) (ht : Tied r ⟨absE es, n, i⟩ M ix) (hM : M ≤ 40000) :
    Calls Tryz.prog 14 #[.pointer (some ⟨tb, 0, none⟩), .pointer (some ⟨g, 0, none⟩)] w fun e w' => e = .returned (.bool true) ∧ Below w.heap.size w w' := by
  have hn : r.n = (n : Int) := ht.n
  have hi : r.m = (i : Int) := ht.m
  have hd := deep_of ht.rel h.wf ht.wf 41 [] 0 ht.rel.root (by simpa using hes)
  have hl := rows_len ht.rel h hes
  have HWK := Lib.hid (fun W (hb : Below w.heap.size w W) => rwalk_any 41 (k.below hb) ht.wf (by omega) hd (by omega) (by omega))
  have HRT := Lib.hid (fun W (hb : Below w.heap.size w W) base v (hX : OwnR W base v (rowsR r.L 41 0 ByteArray.empty)) => rowsT_any q (h.below hb) hB hm hes (keepC hb hq) hX (x_rows ht.rel))
  obtain ⟨rt, -, htre⟩ := h.tre
  have HFR := Lib.hid (Qf.free_any htre)
  obtain ⟨cap, -, hT⟩ := k.tree
  rw [hn, hi] at hT
  have HT := Lib.hid hT
  clear h hB hm hes hq k ht hn hi hd hl htre hT
  go_enter Tryz.func14, Tryz.ntmps14
  go_wp2_with fail
  refine HFR.out.mono ?_
  rintro e w1 ⟨rfl, hb1⟩
  have HB1 := Lib.hid hb1
  have ht1 := (hb1.block g (Array.getElem?_eq_some_iff.1 HT.out).1).trans HT.out
  have g1 : w1.cell? ⟨g, 1, none⟩ = some (.int .i64 n) := blk_cell ht1 1
  have g2 : w1.cell? ⟨g, 2, none⟩ = some (.int .i64 i) := blk_cell ht1 2
  clear hb1 ht1
  go_wp2_with fail
  refine (HWK.out _ HB1.out).mono ?_
  rintro e w2 ⟨v, rfl, hv, hb2⟩
  have HB2 := Lib.hid (HB1.out.trans (hb2.mono HB1.out.size))
  have HV := Lib.hid hv
  clear hb2 hv
  go_wp2_with fail
  refine (HRT.out _ HB2.out _ _ HV.out).mono ?_
  rintro e w3 ⟨rfl, hb3⟩
  have HB3 := Lib.hid (HB2.out.trans (hb3.mono HB2.out.size))
  clear hb3
  go_wp2
  go_ret
  exact ⟨rfl, HB3.out⟩
end Go.Proofs.YtpdcjdangnfeiaaGreatDoor.Sk
end
