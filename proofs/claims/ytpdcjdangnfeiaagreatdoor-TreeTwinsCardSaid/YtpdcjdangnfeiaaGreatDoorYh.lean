/- cut's act walked. -/
import Derived.Test.YtpdcjdangnfeiaaGreatDoorYg
section
open Go Go.Maps Go.RowKit Go.Proofs.YtpdcjdangnfeiaaGreatDoor.Pb Go.Proofs.YtpdcjdangnfeiaaGreatDoor.PPth Go.Proofs.YtpdcjdangnfeiaaGreatDoorW.PrintWords Go.Proofs.YtpdcjdangnfeiaaGreatDoorW.PrintLast Go.Proofs.YtpdcjdangnfeiaaGreatDoorW.PrintMore Go.Proofs.YtpdcjdangnfeiaaGreatDoor.Ta Go.Proofs.YtpdcjdangnfeiaaGreatDoor.Tb Go.Proofs.YtpdcjdangnfeiaaGreatDoor.Tc Go.Proofs.YtpdcjdangnfeiaaGreatDoor.Te Go.Proofs.YtpdcjdangnfeiaaGreatDoor.Tf Go.Proofs.YtpdcjdangnfeiaaGreatDoor.Qa Go.Proofs.YtpdcjdangnfeiaaGreatDoor.Qb Go.Proofs.YtpdcjdangnfeiaaGreatDoor.Qc Go.Proofs.YtpdcjdangnfeiaaGreatDoor.Qd Go.Proofs.YtpdcjdangnfeiaaGreatDoor.Qe Go.Proofs.YtpdcjdangnfeiaaGreatDoor.Qf Go.Proofs.YtpdcjdangnfeiaaGreatDoor.Ua Go.Proofs.YtpdcjdangnfeiaaGreatDoor.Ub Go.Proofs.YtpdcjdangnfeiaaGreatDoor.Uc Go.Proofs.YtpdcjdangnfeiaaGreatDoor.Ud Go.Proofs.YtpdcjdangnfeiaaGreatDoor.Ue Go.Proofs.YtpdcjdangnfeiaaGreatDoor.Uf Go.Proofs.YtpdcjdangnfeiaaGreatDoor.Ba Go.Proofs.YtpdcjdangnfeiaaGreatDoor.Ug Go.Proofs.YtpdcjdangnfeiaaGreatDoor.Uh Go.Proofs.YtpdcjdangnfeiaaGreatDoor.Ui
namespace Go.Proofs.YtpdcjdangnfeiaaGreatDoor.Uj
theorem cut_meet {w : World} {k : Nat} {a : Addr} {x y : Nat} : ∃ j, (w.drewN k).setCell a (Value.int IntKind.i64 ((x : Int) + (y : Int))) = (w.setCell a (Value.int IntKind.i64 ((x + y : Nat) : Int))).drewN j :=
  ⟨k, by rw [← Int.natCast_add]; rfl⟩
section
variable {w : World} {B tb n i m : Nat} {es : Es} {p : Path} {s : Sh}
set_option maxHeartbeats 4000000 in
set_option maxRecDepth 100000 in
theorem cut_walk {bn bs bt : Nat} (q : Nat) (h : St w B tb es n i m) (hg : gp es p = some s) (hd : s.dir = false) (hm : m ≤ 2000) (hq : q ≤ s.data.length)
    (hne : ∀ b ∈ [bt, bn, bs], ¬ Bk tb es b) (ct : w.cell? ⟨bt, 0, none⟩ = some (.pointer (some ⟨tb, 0, none⟩))) (c0 : w.cell? ⟨bn, 0, none⟩ = some (.pointer (some ⟨s.nb, 0, none⟩))) (cs : w.cell? ⟨bs, 0, none⟩ = some (.int .i64 q)) :
    Calls Tryz.prog 74 #[.pointer (some ⟨bt, 0, none⟩), .pointer (some ⟨bn, 0, none⟩), .pointer (some ⟨bs, 0, none⟩)] w fun e w' => e = .returned (.tuple #[]) ∧
      ∃ k w0 w1 v, w0 = (w.setCell ⟨tb, 1, none⟩ (.int .i64 ((n + (allB s.data.length - allB q) : Nat) : Int))).drewN k ∧ Below w0.heap.size w0 w1 ∧ Rd w1 v (s.data.take q) ∧ w' = w1.setCell ⟨s.nb, 1, none⟩ v := by
  have hN := h.ok hg
  obtain ⟨dv, hc, hrd⟩ := hN.cells
  obtain ⟨A0, c2, rfl, hc2, hr0⟩ := rd_to hrd
  obtain ⟨r, hr, ht⟩ := St.cells h
  have HT := Lib.hid ht
  have hnum := h.num
  have hlim := h.limp hg
  have hbN : blocksN s = allB s.data.length := by unfold blocksN; rw [if_neg (by simp [hd])]
  have hmono := allB_mono hq (by omega)
  have hle := allB_le s.data.length
  have hle2 := allB_le q
  obtain ⟨x, hx⟩ : ∃ x, allB s.data.length = x := ⟨_, rfl⟩
  obtain ⟨y, hy⟩ : ∃ y, allB q = y := ⟨_, rfl⟩
  rw [hx, hy]
  rw [hx, hy] at hmono
  rw [hx] at hle
  rw [hy] at hle2
  have HA := Lib.hid (fun W => hy ▸ all_q q (by omega) W)
  have HBL := Lib.hid (fun W (hW : Nd W B s) => (hbN.trans hx) ▸ blocks_q hW (by omega) (by omega))
  have HN := Lib.hid hN
  have u1 : w.cell? ⟨tb, 1, none⟩ = some (.int .i64 n) := blk_cell ht 1
  have f1 : w.frozen? ⟨tb, 1, none⟩ = false := blk_frozen ht 1
  have wd : IntKind.i64.wrap ((x : Int) - (y : Int)) = ((x - y : Nat) : Int) := by rw [IntKind.wrap_i64]; omega
  have wn : IntKind.i64.wrap ((n : Int) + ((x - y : Nat) : Int)) = ((n + (x - y) : Nat) : Int) := by rw [IntKind.wrap_i64]; omega
  have HC := Lib.hid hc
  have HR0 := Lib.hid hr0
  have HNE := Lib.hid hne
  have HL := Lib.hid h
  have CT := Lib.hid ct
  have C0 := Lib.hid c0
  have CS := Lib.hid cs
  have HQ := Lib.hid hq
  have HC2 := Lib.hid hc2
  have HG := Lib.hid hg
  have hnd : ∀ k, Nd (w.drewN k) B s := fun k => Nd.below hN (bdraw w k)
  have HND := Lib.hid hnd
  clear h hg hrd hr ht hN hne hc hr0 hx hy hbN hq hc2 hnd
  go_enter Tryz.func74, Tryz.ntmps74
  go_upto_region 0 with fail
  go_cut [] (fun wx => ∃ k, wx = (w.setCell ⟨tb, 1, none⟩ (.int .i64 ((n + (x - y) : Nat) : Int))).drewN k)
  case first =>
    go_region_with (first | (go_at_call 71; refine (HBL.out _ ?_).mono ?_; (first | exact HND.out _ | exact Nd.below HN.out (Below.refl _ _).drew); rintro e w1 ⟨rfl, k1, rfl⟩) | (go_at_call 70; refine (HA.out _).mono ?_; rintro e w2 ⟨rfl, k2, rfl⟩) | fail)
    all_goals (go_wp2_with fail; go_meet; exact cut_meet)
  case rest =>
    obtain ⟨k, hwc⟩ := hcut
    have n0 : s.nb ≠ tb := fun e => HL.out.tb s (List.mem_map.2 ⟨(p, s), gp_mem HG.out, rfl⟩) (e ▸ nb_mem s)
    have n1 : bn ≠ tb := fun e => HNE.out bn (by simp) (.inl e)
    have n2 : bs ≠ tb := fun e => HNE.out bs (by simp) (.inl e)
    have n3 : bn ≠ s.nb := fun e => HNE.out bn (by simp) (.inr ⟨s, List.mem_map.2 ⟨(p, s), gp_mem HG.out, rfl⟩, e ▸ nb_mem s⟩)
    have hbk : ∀ b, b ≠ tb → wc.heap[b]? = w.heap[b]? := fun b hb => by rw [hwc]; exact Below.heap_setCell w ⟨tb, 1, none⟩ _ b hb
    have c0 : wc.cell? ⟨bn, 0, none⟩ = some (.pointer (some ⟨s.nb, 0, none⟩)) := (World.cell?_of_block (a := ⟨bn, 0, none⟩) (hbk bn n1)).trans C0.out
    have cs : wc.cell? ⟨bs, 0, none⟩ = some (.int .i64 q) := (World.cell?_of_block (a := ⟨bs, 0, none⟩) (hbk bs n2)).trans CS.out
    have hcn : wc.heap[s.nb]? = _ := (hbk s.nb n0).trans HC.out
    have d1 : wc.cell? ⟨s.nb, 1, none⟩ = some (.slice A0 s.data.length c2) := blk_cell hcn 1
    have hrw : RdB wc A0 s.data := by
      have hN0 := HN.out
      have hfr : Fr w wc (fun b => b = tb) := ⟨by rw [hwc]; simp [World.setCell, World.drewN], fun b _ hb => hbk b hb, fun b hb _ => by
        rw [hb]
        refine noB_cells HT.out ?_
        intro v hv y e
        subst e
        simp at hv⟩
      have h1 := (rd_of HR0.out HC2.out).fr hfr
      obtain ⟨A', c', e, -, h2⟩ := rd_to h1
      cases e
      exact h2
    obtain ⟨t1, t2, t3⟩ := take_of A0 c2 s.data (q : Int) (by omega) (by have := HQ.out; omega) HC2.out
    rw [Int.toNat_natCast] at t1 t2 t3
    have HT2 := Lib.hid t2
    have HWC := Lib.hid hwc
    have HCN := Lib.hid hcn
    have HRW := Lib.hid hrw
    have C0' := Lib.hid c0
    have hlt : (s.data.take q).length ≤ 100000000 := by rw [List.length_take]; omega
    obtain ⟨l, hl⟩ : ∃ l, s.data.take q = l := ⟨_, rfl⟩
    rw [hl] at t1 HT2 hlt
    have HLL := Lib.hid hl
    clear hl
    clear hwc hcn hrw t2 t3 hbk u1 f1 ct c0 cs
    have c0 := C0'.out
    have cs : wc.cell? ⟨bs, 0, none⟩ = some (.int .i64 q) := by rw [HWC.out]; exact (World.cell?_of_block (a := ⟨bs, 0, none⟩) (Below.heap_setCell w ⟨tb, 1, none⟩ _ bs n2)).trans CS.out
    go_wp2_with fail
    go_region_with (first | (go_at_call 32; refine (clone_rd A0 c2 l _ ?_ hlt).mono ?_; exact HT2.out _ (HRW.out.below (Below.refl _ _).drew); rintro e w1 ⟨A3, N3, c3, rfl, ho, hb⟩; have HO := Lib.hid ho; have HB1 := Lib.hid ((Below.refl wc.heap.size wc).drew.trans hb); have hc1 := (HB1.out.block s.nb (World.block_lt_of_cell? _ _ (blk_cell HCN.out 0))).trans HCN.out; have k1 := blk_cell hc1 1; have k2 := blk_frozen hc1 1; have k3 := keepC HB1.out C0'.out; clear ho hb hc1) | fail)
    all_goals
      go_wp2_with fail
      go_end0
      exact ⟨rfl, k, wc, w1, _, HWC.out, HB1.out, by rw [HLL.out]; exact HO.out, rfl⟩
end
end Go.Proofs.YtpdcjdangnfeiaaGreatDoor.Uj
end
