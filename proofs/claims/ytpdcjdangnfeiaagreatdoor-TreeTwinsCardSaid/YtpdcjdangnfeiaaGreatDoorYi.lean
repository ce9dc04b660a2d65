/- cut walked: what is wrong, or the act. give walked; remove's act. remove's act: what it leaves of the tree; remove walked. remove walked: what is wrong, or the act. below walked. move's acts walked. -/
import Derived.Test.YtpdcjdangnfeiaaGreatDoorYh
section
open Go Go.Maps Go.RowKit Go.Proofs.YtpdcjdangnfeiaaGreatDoor.Pb Go.Proofs.YtpdcjdangnfeiaaGreatDoor.PPth Go.Proofs.YtpdcjdangnfeiaaGreatDoorW.PrintWords Go.Proofs.YtpdcjdangnfeiaaGreatDoorW.PrintLast Go.Proofs.YtpdcjdangnfeiaaGreatDoorW.PrintMore Go.Proofs.YtpdcjdangnfeiaaGreatDoor.Ta Go.Proofs.YtpdcjdangnfeiaaGreatDoor.Tb Go.Proofs.YtpdcjdangnfeiaaGreatDoor.Tc Go.Proofs.YtpdcjdangnfeiaaGreatDoor.Te Go.Proofs.YtpdcjdangnfeiaaGreatDoor.Tf Go.Proofs.YtpdcjdangnfeiaaGreatDoor.Qa Go.Proofs.YtpdcjdangnfeiaaGreatDoor.Qb Go.Proofs.YtpdcjdangnfeiaaGreatDoor.Qc Go.Proofs.YtpdcjdangnfeiaaGreatDoor.Qd Go.Proofs.YtpdcjdangnfeiaaGreatDoor.Qe Go.Proofs.YtpdcjdangnfeiaaGreatDoor.Qf Go.Proofs.YtpdcjdangnfeiaaGreatDoor.Ua Go.Proofs.YtpdcjdangnfeiaaGreatDoor.Ub Go.Proofs.YtpdcjdangnfeiaaGreatDoor.Uc Go.Proofs.YtpdcjdangnfeiaaGreatDoor.Ud Go.Proofs.YtpdcjdangnfeiaaGreatDoor.Ue Go.Proofs.YtpdcjdangnfeiaaGreatDoor.Uf Go.Proofs.YtpdcjdangnfeiaaGreatDoor.Ba Go.Proofs.YtpdcjdangnfeiaaGreatDoor.Ug Go.Proofs.YtpdcjdangnfeiaaGreatDoor.Uh Go.Proofs.YtpdcjdangnfeiaaGreatDoor.Ui Go.Proofs.YtpdcjdangnfeiaaGreatDoor.Uj
namespace Go.Proofs.YtpdcjdangnfeiaaGreatDoor.Uk
section
variable {w : World} {B tb n i m : Nat} {es : Es} {p : Path} {s : Sh}
theorem cut_do {bn bs bt : Nat} (q : Nat) (h : St w B tb es n i m) (hg : gp es p = some s) (hd : s.dir = false) (hm : m ≤ 2000) (hq : q ≤ s.data.length)
    (hne : ∀ b ∈ [bt, bn, bs], ¬ Bk tb es b) (ct : w.cell? ⟨bt, 0, none⟩ = some (.pointer (some ⟨tb, 0, none⟩))) (c0 : w.cell? ⟨bn, 0, none⟩ = some (.pointer (some ⟨s.nb, 0, none⟩))) (cs : w.cell? ⟨bs, 0, none⟩ = some (.int .i64 q)) :
    Calls Tryz.prog 74 #[.pointer (some ⟨bt, 0, none⟩), .pointer (some ⟨bn, 0, none⟩), .pointer (some ⟨bs, 0, none⟩)] w (ActPost w B tb es n i m (cutS ⟨absE es, n, i⟩ p q (some (toN s)))) := by
  refine (cut_walk q h hg hd hm hq hne ct c0 cs).mono ?_
  rintro e w' ⟨rfl, k, w0, w1, v, h0, hb1, hrd, rfl⟩
  obtain ⟨r, hr, ht⟩ := h.tre
  have hN := h.ok hg
  obtain ⟨dv, hc, -⟩ := hN.cells
  have htb : tb ≠ s.nb := fun e => h.tb s (List.mem_map.2 ⟨(p, s), gp_mem hg, rfl⟩) (e ▸ nb_mem s)
  have hsz0 : w0.heap.size = w.heap.size := by rw [h0]; simp [World.setCell, World.drewN]
  have hbk : ∀ b, b ≠ tb → w0.heap[b]? = w.heap[b]? := fun b hb => by rw [h0]; exact Below.heap_setCell w ⟨tb, 1, none⟩ _ b hb
  have hlow0 : Below B w w0 := by rw [h0]; exact ((Below.refl B w).setCell ht.1 _).trans ((bdraw _ k).mono (by have := h.base; simpa [World.setCell] using this))
  have ht0 : w0.heap[tb]? = some (.cells #[.pointer (some ⟨r.nb, 0, none⟩), .int .i64 ((n + (allB s.data.length - allB q) : Nat) : Int), .int .i64 i] 55 (0, 0)) := by
    rw [h0]
    exact blk_set ht.2 1 _
  have hlt := hN.lt
  have hltb := Tre.lt ht
  have hc1 : w1.heap[s.nb]? = _ := ((hb1.block s.nb (by omega)).trans (hbk s.nb (fun e => htb e.symm))).trans hc
  have ht1 : w1.heap[tb]? = _ := (hb1.block tb (by omega)).trans ht0
  have hnb : NoB w1 s.nb := by
    obtain ⟨A, c, rfl, -⟩ := (show ∃ A c, dv = .slice A s.data.length c ∧ True from by
      obtain ⟨dv2, hc2, A, c, e, -⟩ := hN.cells
      rw [hc] at hc2
      have e2 : dv = dv2 := by simpa using hc2
      exact ⟨A, c, e2.trans e, trivial⟩)
    refine noB_cells hc1 ?_
    intro u hu y e
    subst e
    unfold kidsV at hu
    split at hu <;> simp at hu
  have hnum := h.num
  have hle := allB_le s.data.length
  refine file_end (r := r) (v := v) (n' := n + (allB s.data.length - allB q)) (l := s.data.take q) h hg hd hr ?_ ?_ ?_ ?_ ?_ ?_ ?_ ?_
  · have := hb1.size; have : (w1.setCell ⟨s.nb, 1, none⟩ v).heap.size = w1.heap.size := by simp [World.setCell]
    omega
  · intro b hb h1 h2
    exact (Below.heap_setCell w1 ⟨s.nb, 1, none⟩ _ b h2).trans ((hb1.block b (by omega)).trans (hbk b h1))
  · exact (hlow0.trans (hb1.mono (by rw [hsz0]; exact h.base))).setCell hN.base _
  · exact blk_set hc1 1 _
  · exact Rd.set (j := 1) (u := v) hrd hnb
  · exact blk_far (p := ⟨s.nb, 1, none⟩) ht1 htb _
  · have := (h.limp hg).2.1
    rw [List.length_take]; omega
  · omega
set_option maxHeartbeats 1000000 in
set_option maxRecDepth 100000 in
theorem cut_nil (N : Int) : Calls Tryz.prog 39 #[.pointer (some ⟨tb, 0, none⟩), .pointer none, .int .i64 N] w (ErrPost w 8) := by
  have hb := bx3_below w (.pointer (some ⟨tb, 0, none⟩)) (.pointer none) (.int .i64 N) 25 52 3
  have HB := Lib.hid hb
  clear hb
  go_enter Tryz.func39, Tryz.ntmps39
  go_wp2_with fail
  refine (isFile_nil _).mono ?_
  rintro e w1 ⟨rfl, rfl⟩
  go_wp2
  go_ret2
  exact ⟨HB.out, _, rfl⟩
set_option maxHeartbeats 1000000 in
set_option maxRecDepth 100000 in
theorem cut_dir (N : Int) (h : St w B tb es n i m) (hg : gp es p = some s) (hd : s.dir = true) : Calls Tryz.prog 39 #[.pointer (some ⟨tb, 0, none⟩), .pointer (some ⟨s.nb, 0, none⟩), .int .i64 N] w (ErrPost w 10) := by
  have hb := bx3_below w (.pointer (some ⟨tb, 0, none⟩)) (.pointer (some ⟨s.nb, 0, none⟩)) (.int .i64 N) 25 52 3
  have HB := Lib.hid hb
  have hN := Nd.below (h.ok hg) hb
  have hf := isFile_any hN
  rw [if_pos hd] at hf
  have HF := Lib.hid hf
  clear hb hN hf h
  go_enter Tryz.func39, Tryz.ntmps39
  go_wp2_with fail
  refine HF.out.mono ?_
  rintro e w1 ⟨rfl, rfl⟩
  go_wp2
  go_ret2
  exact ⟨HB.out, _, rfl⟩
set_option maxHeartbeats 4000000 in
set_option maxRecDepth 100000 in
theorem cut_file (N : Int) (h : St w B tb es n i m) (hg : gp es p = some s) (hd : s.dir = false) (hm : m ≤ 2000) :
    Calls Tryz.prog 39 #[.pointer (some ⟨tb, 0, none⟩), .pointer (some ⟨s.nb, 0, none⟩), .int .i64 N] w (PlanPost w B tb es n i m (cutE N (some (toN s))) (cutS ⟨absE es, n, i⟩ p N.toNat (some (toN s)))) := by
  have hb0 := bx3_below w (.pointer (some ⟨tb, 0, none⟩)) (.pointer (some ⟨s.nb, 0, none⟩)) (.int .i64 N) 25 52 3
  have HB0 := Lib.hid hb0
  have hN := Nd.below (h.ok hg) hb0
  have hf := isFile_any hN
  rw [if_neg (by simp [hd])] at hf
  have HF := Lib.hid hf
  obtain ⟨dv, hc, hrd⟩ := (h.ok hg).cells
  obtain ⟨A0, c2, rfl, hc2, hr0⟩ := rd_to hrd
  have HC := Lib.hid hc
  have H := Lib.hid h
  have hE : cutE N (some (toN s)) = if N < 0 ∨ (s.data.length : Int) < N then 1 else 0 := by
    unfold cutE toN
    simp only [hd]
    rfl
  have HS5 := Lib.hid (keepC hb0 (blk_cell hc 1))
  have HS3 := Lib.hid (blk_cell (bx3_1 w (.pointer (some ⟨tb, 0, none⟩)) (.pointer (some ⟨s.nb, 0, none⟩)) (.int .i64 N) 25 52 3) 0)
  have HS4 := Lib.hid (blk_cell (bx3_2 w (.pointer (some ⟨tb, 0, none⟩)) (.pointer (some ⟨s.nb, 0, none⟩)) (.int .i64 N) 25 52 3) 0)
  rw [hE]
  have v4 : (bx3 w (.pointer (some ⟨tb, 0, none⟩)) (.pointer (some ⟨s.nb, 0, none⟩)) (.int .i64 N) 25 52 3).cell? ⟨w.heap.size + 1 + 1, 0, none⟩ = some (.int .i64 N) := HS4.out
  by_cases k1 : N < 0
  · rw [if_pos (.inl k1)]
    refine Calls.mono (R := ErrPost w 1) ?_ fun _ _ h => ErrPost.plan h (by decide)
    clear hb0 hN hf hrd hr0 hc h hE
    go_enter Tryz.func39, Tryz.ntmps39
    go_wp2_with fail
    refine HF.out.mono ?_
    rintro e w1 ⟨rfl, rfl⟩
    go_wp2_with fail
    go_quiet (fail)
    go_wp2
    go_ret2
    exact ⟨bt HB0.out (bdraw _ _), _, rfl⟩
  · have k1' : decide (N < 0) = false := decide_eq_false k1
    have v5 : (bx3 w (.pointer (some ⟨tb, 0, none⟩)) (.pointer (some ⟨s.nb, 0, none⟩)) (.int .i64 N) 25 52 3).cell? ⟨s.nb, 1, none⟩ = some (.slice A0 s.data.length c2) := HS5.out
    have v3 : (bx3 w (.pointer (some ⟨tb, 0, none⟩)) (.pointer (some ⟨s.nb, 0, none⟩)) (.int .i64 N) 25 52 3).cell? ⟨w.heap.size + 1, 0, none⟩ = some (.pointer (some ⟨s.nb, 0, none⟩)) := HS3.out
    by_cases k2 : (s.data.length : Int) < N
    · rw [if_pos (.inr k2)]
      refine Calls.mono (R := ErrPost w 1) ?_ fun _ _ h => ErrPost.plan h (by decide)
      clear hb0 hN hf hrd hr0 hc h hE
      go_enter Tryz.func39, Tryz.ntmps39
      go_wp2_with fail
      refine HF.out.mono ?_
      rintro e w1 ⟨rfl, rfl⟩
      go_wp2_with fail
      go_quiet (fail)
      go_wp2
      go_ret2
      exact ⟨bt HB0.out (bdraw _ _), _, rfl⟩
    · rw [if_neg (by omega)]
      have hmk : ∀ (fn : Fn) (first cap : Array Value) (w : World), (Instr.makeFunc fn first cap).run Tryz.prog w = .ok (.func fn first cap) w := fun _ _ _ _ => rfl
      obtain ⟨q, hq⟩ : ∃ q : Nat, N = q := ⟨N.toNat, by omega⟩
      have HQ := Lib.hid hq
      clear hb0 hN hf hrd hr0 hc h hE hq
      go_enter Tryz.func39, Tryz.ntmps39
      go_wp2_with fail
      refine HF.out.mono ?_
      rintro e w1 ⟨rfl, rfl⟩
      go_wp2_with fail
      go_quiet (fail)
      go_wp2
      go_ret2
      have hbW := bt HB0.out (bdraw (bx3 w (.pointer (some ⟨tb, 0, none⟩)) (.pointer (some ⟨s.nb, 0, none⟩)) (.int .i64 N) 25 52 3) nq)
      refine ⟨hbW, _, rfl, fun _ => ⟨74, _, rfl, enters_of Tryz.func74 (by kernel_rfl) rfl, ?_⟩⟩
      have hqq := HQ.out
      have e : N.toNat = q := by omega
      rw [e]
      refine cut_do q (H.out.below hbW) hg hd hm (by omega) (fun k hk hb => ?_) (blk_cell (bx3_0 w (.pointer (some ⟨tb, 0, none⟩)) (.pointer (some ⟨s.nb, 0, none⟩)) (.int .i64 N) 25 52 3) 0) HS3.out (by rw [← hqq]; exact HS4.out)
      have h1 := (H.out.bk hb).1
      simp at hk
      omega
end
end Go.Proofs.YtpdcjdangnfeiaaGreatDoor.Uk
open Go.Proofs.YtpdcjdangnfeiaaGreatDoor.Uk
namespace Go.Proofs.YtpdcjdangnfeiaaGreatDoor.Ul
section
variable {w : World} {B tb n i m : Nat} {es : Es} {p : Path} {s d : Sh} {x : ByteArray}
set_option maxHeartbeats 4000000 in
set_option maxRecDepth 100000 in
theorem give_walk {r : Nat} (h : Nd w B s) (ht : Tre w B tb r n i) (hs : s.slots ≤ 100000) (hd : s.data.length ≤ 8458240) (hn : n ≤ 100000000) (hi : i ≤ 100000000) :
    Calls Tryz.prog 76 #[.pointer (some ⟨tb, 0, none⟩), .pointer (some ⟨s.nb, 0, none⟩)] w fun e w' => e = .returned (.tuple #[]) ∧
      ∃ k, w' = ((w.setCell ⟨tb, 1, none⟩ (.int .i64 ((n + blocksN s : Nat) : Int))).drewN k).setCell ⟨tb, 2, none⟩ (.int .i64 ((i + 1 : Nat) : Int)) := by
  have hle : blocksN s ≤ 20000 := by unfold blocksN; split <;> exact allB_le _
  have HBL := Lib.hid (fun W (hW : Nd W B s) => blocks_q hW (by omega) (by omega))
  have HN := Lib.hid h
  have HT := Lib.hid ht.2
  generalize blocksN s = x at hle HBL ⊢
  have u1 : w.cell? ⟨tb, 1, none⟩ = some (.int .i64 n) := blk_cell ht.2 1
  have f1 : w.frozen? ⟨tb, 1, none⟩ = false := blk_frozen ht.2 1
  have wn : IntKind.i64.wrap ((n : Int) + (x : Int)) = ((n + x : Nat) : Int) := by rw [IntKind.wrap_i64]; omega
  have wi : IntKind.i64.wrap ((i : Int) + 1) = ((i + 1 : Nat) : Int) := by rw [IntKind.wrap_i64]; omega
  clear h ht
  go_enter Tryz.func76, Tryz.ntmps76
  go_upto_region 0 with fail
  go_cut [] (fun wx => ∃ k, wx = (w.setCell ⟨tb, 1, none⟩ (.int .i64 ((n + x : Nat) : Int))).drewN k)
  case first =>
    go_region_with (first | (go_at_call 71; refine (HBL.out _ ?_).mono ?_; (first | exact Nd.below HN.out (Below.refl _ _).drew | exact Nd.below HN.out (bdraw _ _)); rintro e w1 ⟨rfl, k1, rfl⟩) | fail)
    all_goals (go_wp2_with fail; go_meet; exact cut_meet)
  case rest =>
    obtain ⟨k, hwc⟩ := hcut
    have ht2 : wc.heap[tb]? = some (.cells #[.pointer (some ⟨r, 0, none⟩), .int .i64 ((n + x : Nat) : Int), .int .i64 i] 55 (0, 0)) := by rw [hwc]; exact blk_set HT.out 1 _
    have u2 := blk_cell ht2 2
    have f2 := blk_frozen ht2 2
    have HWC := Lib.hid hwc
    clear ht2 hwc u1 f1
    go_wp2_with fail
    go_end0
    exact ⟨rfl, k, by rw [HWC.out]; rfl⟩
/-- give -/
theorem give_any {r : Nat} (h : Nd w B s) (ht : Tre w B tb r n i) (hs : s.slots ≤ 100000) (hd : s.data.length ≤ 8458240) (hn : n ≤ 100000000) (hi : i ≤ 100000000) :
    Calls Tryz.prog 76 #[.pointer (some ⟨tb, 0, none⟩), .pointer (some ⟨s.nb, 0, none⟩)] w fun e w' => e = .returned (.tuple #[]) ∧
      Fr w w' (fun b => b = tb) ∧ Below B w w' ∧ Tre w' B tb r (n + blocksN s) (i + 1) := by
  refine (give_walk h ht hs hd hn hi).mono ?_
  rintro e w' ⟨rfl, k, rfl⟩
  refine ⟨rfl, ⟨by simp [World.setCell, World.drewN], fun b _ hb => (Below.heap_setCell _ ⟨tb, 2, none⟩ _ b hb).trans (Below.heap_setCell w ⟨tb, 1, none⟩ _ b hb), fun b e _ => by rw [e]; exact Tre.noB ht⟩, ?_, ht.1, ?_⟩
  · have hB : B ≤ w.heap.size := by have := Tre.lt ht; have := ht.1; omega
    exact (((Below.refl B w).setCell ht.1 _).trans ((bdraw _ k).mono (by simpa [World.setCell] using hB))).setCell ht.1 _
  · exact blk_set (w := (w.setCell ⟨tb, 1, none⟩ _).drewN k) (blk_set ht.2 1 _) 2 _
def takeSh (s : Sh) (name : ByteArray) : Sh := { s with D := s.D.del (keyL name) }
set_option maxHeartbeats 4000000 in
set_option maxRecDepth 100000 in
/-- remove's act: the name goes out of the directory, what the thing took is free again. -/
theorem rem_walk {bs bt r : Nat} (hS : Nd w B s) (hD : Nd w B d) (hd : d.dir = true) (ht : Tre w B tb r n i) (hs : s.slots ≤ 100000) (hl : s.data.length ≤ 8458240) (hn : n ≤ 100000000) (hi : i ≤ 100000000) (hxs : x.size ≤ 1000000)
    (hap : s.nb ∉ blks d) (hmp : s.dir = true → s.mb ∉ blks d) (h1 : bs ∉ blks d) (h2 : bt ∉ blks d)
    (c0 : w.cell? ⟨bs, 0, none⟩ = some (.pointer (some ⟨d.nb, 0, none⟩))) (c1 : w.cell? ⟨bs, 1, none⟩ = some (.string x)) (c2 : w.cell? ⟨bs, 2, none⟩ = some (.pointer (some ⟨s.nb, 0, none⟩))) (ct : w.cell? ⟨bt, 0, none⟩ = some (.pointer (some ⟨tb, 0, none⟩))) :
    Calls Tryz.prog 75 #[.pointer (some ⟨bs, 0, none⟩), .pointer (some ⟨bt, 0, none⟩)] w fun e w' => e = .returned (.tuple #[]) ∧
      ∃ w1, Nd w1 B (takeSh d x) ∧ Fr w w1 (fun b => b ∈ blks d) ∧ Below B w w1 ∧ Fr w1 w' (fun b => b = tb) ∧ Below B w1 w' ∧ Tre w' B tb r (n + blocksN s) (i + 1) := by
  obtain ⟨dv, hc, hrd⟩ := hD.cells
  have d2 : w.cell? ⟨d.nb, 2, none⟩ = some (.map (some d.mb)) := (blk_cell hc 2).trans (by unfold kidsV; rw [if_pos hd]; rfl)
  have HO := Lib.hid (hD.kids hd).2
  have HS := Lib.hid hS
  have HD := Lib.hid hD
  have HT := Lib.hid ht
  have HAP := Lib.hid hap
  have HMP := Lib.hid hmp
  have H1 := Lib.hid h1
  have H2 := Lib.hid h2
  have C2 := Lib.hid c2
  have CT := Lib.hid ct
  have HDD := Lib.hid hd
  clear hS hD ht hap hmp h1 h2 hc hrd c2 ct hd
  go_enter Tryz.func75, Tryz.ntmps75
  go_wp2_with fail
  go_still_tail 7, (by kernel_rfl)
  refine wpList_delete_own _ rfl (.tmp 6) (.tmp 8) 83 9 rfl 52 law9 Tryz.underlying83 ptrR d.mb _ d.D rfl HO.out _ (keyL x) rfl (key9 x hxs) ?_
  intro w1 ho1 ht1
  have hg := ht1.grown
  have hg1 : w.grownBy w1 (some d.mb) := ⟨hg.os, hg.tape, hg.output, hg.size, hg.block⟩
  have hf : Fr w w1 (fun b => b ∈ blks d) := Fr.grow ⟨Nat.le_refl _, fun _ _ _ => rfl, noB_blks HD.out⟩ HDD.out hg1
  have hlow : Below B w w1 := ⟨hg1.os, hg1.tape, hg1.output, hg1.size, fun k hk => hg1.block k (by have := HD.out.base; have := HD.out.lt; omega) (fun e => by injection e with e; have := (HD.out.kids HDD.out).1; omega)⟩
  have HO1 := Lib.hid ho1
  have HF := Lib.hid hf
  have HLOW := Lib.hid hlow
  have HG1 := Lib.hid hg1
  have ht1' : Tre w1 B tb r n i := Tre.keep HT.out (hf.block tb (Tre.lt HT.out) (ne_node HT.out HD.out))
  have hs1 : Nd w1 B s := Tb.Ok.fr HS.out hf HAP.out HMP.out
  have HGV := Lib.hid (give_any hs1 ht1' hs hl hn hi)
  have c2' := cell_fr hf H1.out C2.out
  have ct' := cell_fr hf H2.out CT.out
  clear ho1 ht1 hg hg1 hf hlow ht1' hs1 c0 c1 d2
  go_wp2_with fail
  refine HGV.out.mono ?_
  rintro e w2 ⟨rfl, hf2, hb2, ht2⟩
  have HF2 := Lib.hid hf2
  have HB2 := Lib.hid hb2
  have HT2 := Lib.hid ht2
  clear hf2 hb2 ht2
  go_wp2_with fail
  go_end0
  refine ⟨rfl, w1, ⟨HD.out.base, ?_, fun _ => ⟨(HD.out.kids HDD.out).1, own_size HO1.out⟩⟩, HF.out, HLOW.out, HF2.out, HB2.out, HT2.out⟩
  obtain ⟨dv, hc, hrd⟩ := HD.out.cells
  exact ⟨dv, blk_grown hc HG1.out (fun e => by injection e with e; exact Tb.Ok.ne_map HD.out HO.out e), hrd.fr HF.out⟩
end
end Go.Proofs.YtpdcjdangnfeiaaGreatDoor.Ul
open Go.Proofs.YtpdcjdangnfeiaaGreatDoor.Ul
namespace Go.Proofs.YtpdcjdangnfeiaaGreatDoor.Um
section
variable {w : World} {B tb n i m : Nat} {es : Es} {p : Path} {s d : Sh} {x : ByteArray}
theorem takeSh_take (s : Sh) (x : ByteArray) : Take s (takeSh s x) x := ⟨⟨rfl, rfl, rfl⟩, rfl, rfl⟩
theorem take_toN {d : Sh} {x : ByteArray} (hd : d.dir = true) (ht : Tidy d.D) (hx : has d.D (keyL x) = true) : toN (takeSh d x) = takeA (toN d) := by
  unfold toN takeSh takeA
  simp only [hd, if_true]
  have := size_del (k := keyL x) ht
  rw [hx] at this
  congr 1
  simp at this
  omega
theorem blocks_toN (s : Sh) : blocksA (toN s) = blocksN s := rfl
/-- An empty directory has nothing below it. -/
theorem no_kids (h : WfF (gp es)) {q : Path} (hg : gp es q = some s) (hd : s.dir = true) (h0 : size s.D = 0) (y : ByteArray) : gp es (q ++ [y]) = none := by
  have hdr := h.dr q s hg hd
  have h1 : has s.D (keyL y) = false := by
    have := size_del (k := keyL y) hdr.tidy
    cases e : has s.D (keyL y) with
    | false => rfl
    | true => rw [e] at this; simp at this; omega
  have h2 := hdr.full y
  rw [h1, hdr.kids] at h2
  cases e : gp es (q ++ [y]) with
  | none => rfl
  | some _ => rw [e] at h2; simp at h2
theorem no_kids_file (h : WfF (gp es)) {q : Path} (hg : gp es q = some s) (hd : s.dir = false) (y : ByteArray) : gp es (q ++ [y]) = none :=
  h.none_below (by intro d hd2; rw [hg] at hd2; cases hd2; exact hd) y
theorem sub_del (es : Es) (p : Path) : ((delE es p).map (·.2)).Sublist (es.map (·.2)) := List.filter_sublist.map _
/-- Two nodes at unlike paths have no block in common. -/
theorem nodes_apart (h : St w B tb es n i m) {q1 q2 : Path} {a b : Sh} (h1 : gp es q1 = some a) (h2 : gp es q2 = some b) (hne : q1 ≠ q2) : ∀ k ∈ blks a, k ∉ blks b := by
  obtain ⟨l, r, e1, e2⟩ := turn_split h.nd h1
  have hs := h.sto
  rw [e1] at hs
  have hap := apart hs.nd
  have hb : b ∈ l ++ a :: r := by rw [← e1]; exact List.mem_map.2 ⟨(q2, b), gp_mem h2, rfl⟩
  have hab : a.nb ≠ b.nb ∨ a = b := by
    by_cases e : a.nb = b.nb
    · exact .inr (nb_inj hs.nd (by simp) hb e)
    · exact .inl e
  -- b is not a: their paths differ
  have hin : b ∈ l ∨ b ∈ r := by
    rcases List.mem_append.1 hb with hb | hb
    · exact .inl hb
    · rcases List.mem_cons.1 hb with rfl | hb
      · exfalso
        have hnd : ((es.map (·.2)).flatMap blks).Nodup := h.sto.nd
        -- one node at two paths: it stands twice in the list
        have : ∀ (es : Es), Nd1 es → ((es.map (·.2)).flatMap blks).Nodup → ∀ q1 q2 (x : Sh), (q1, x) ∈ es → (q2, x) ∈ es → q1 = q2 := by
          intro es
          induction es with
          | nil => intro _ _ q1 q2 x h; cases h
          | cons e es ih =>
            intro hn hd q1 q2 x m1 m2
            rw [List.map_cons, List.flatMap_cons, List.nodup_append] at hd
            have hn2 : e.1 ∉ es.map (·.1) ∧ Nd1 es := List.nodup_cons.1 hn
            rcases List.mem_cons.1 m1 with e1 | m1 <;> rcases List.mem_cons.1 m2 with e2 | m2
            · rw [← e1] at e2; exact (congrArg Prod.fst e2).symm
            · exfalso
              rw [← e1] at hd
              exact hd.2.2 _ (nb_mem x) _ (List.mem_flatMap.2 ⟨x, List.mem_map.2 ⟨(q2, x), m2, rfl⟩, nb_mem x⟩) rfl
            · exfalso
              rw [← e2] at hd
              exact hd.2.2 _ (nb_mem x) _ (List.mem_flatMap.2 ⟨x, List.mem_map.2 ⟨(q1, x), m1, rfl⟩, nb_mem x⟩) rfl
            · exact ih hn2.2 hd.2.1 q1 q2 x m1 m2
        exact hne (this es h.nd hnd q1 q2 b (gp_mem h1) (gp_mem h2))
      · exact .inr hb
  exact hap b hin
theorem abs_rem (hw : WfF (gp es)) (hg : gp es p = some d) (hd : d.dir = true) (hx : gp es (p ++ [x]) = some s) :
    absE (delE (turnE es p (fun s => takeSh s x)) (p ++ [x])) = onA (delA (absE es) (p ++ [x])) p takeA := by
  funext q
  unfold absE onA delA
  rw [gp_del, gp_turn]
  have hdr := hw.dr p d hg hd
  have hh : has d.D (keyL x) = true := by rw [hdr.full, hdr.kids, hx]; rfl
  by_cases e : q = p
  · subst e
    rw [if_neg (fun e => snoc_ne _ _ e.symm), if_pos rfl, if_pos rfl, if_neg (fun e => snoc_ne _ _ e.symm), hg]
    simp only [hg, Option.map_some]
    rw [take_toN hd hdr.tidy hh]
  · rw [if_neg e, if_neg e]
    by_cases e2 : q = p ++ [x]
    · rw [if_pos e2, if_pos e2]; rfl
    · rw [if_neg e2, if_neg e2]
theorem rem_do {bs bt : Nat} (h : St w B tb es n i m) (hg : gp es p = some d) (hd : d.dir = true) (hm : m ≤ 2000) (hx : gp es (p ++ [x]) = some s) (hk : ∀ y, gp es (p ++ [x] ++ [y]) = none) (hxs : x.size ≤ 1000000)
    (hne : ∀ b ∈ [bs, bt], ¬ Bk tb es b) (c0 : w.cell? ⟨bs, 0, none⟩ = some (.pointer (some ⟨d.nb, 0, none⟩))) (c1 : w.cell? ⟨bs, 1, none⟩ = some (.string x)) (c2 : w.cell? ⟨bs, 2, none⟩ = some (.pointer (some ⟨s.nb, 0, none⟩)))
    (ct : w.cell? ⟨bt, 0, none⟩ = some (.pointer (some ⟨tb, 0, none⟩))) :
    Calls Tryz.prog 75 #[.pointer (some ⟨bs, 0, none⟩), .pointer (some ⟨bt, 0, none⟩)] w (ActPost w B tb es n i m (remS ⟨absE es, n, i⟩ (p ++ [x]) (some (toN s)))) := by
  obtain ⟨r, hr, ht⟩ := h.tre
  have l1 := h.limp hg
  have l2 := h.limp hx
  have hnum := h.num
  have hap := nodes_apart h hx hg (snoc_ne p x)
  have hin : ∀ b ∈ blks d, Bk tb es b := fun b hb => .inr ⟨d, List.mem_map.2 ⟨(p, d), gp_mem hg, rfl⟩, hb⟩
  refine (rem_walk (h.ok hx) (h.ok hg) hd ht (by omega) (by omega) (by omega) (by omega) hxs (hap _ (nb_mem s)) (fun hsd => hap _ (mb_mem hsd)) (fun hb => hne bs (by simp) (hin _ hb)) (fun hb => hne bt (by simp) (hin _ hb)) c0 c1 c2 ct).mono ?_
  rintro e w' ⟨rfl, w1, hN1, hf1, hb1, hf2, hb2, ht'⟩
  have ht1 : Tre w1 B tb r.nb n i := Tre.keep ht (hf1.block tb (Tre.lt ht) (ne_node ht (h.ok hg)))
  have s1 := sto_turn [] (by simpa using h.sto) h.nd hg (g := fun s => takeSh s x) hf1 hN1 rfl
  have s2 := Sto.sub s1 (show ((delE (turnE es p (fun s => takeSh s x)) (p ++ [x])).map (·.2)).Sublist _ from sub_del _ _)
  have s3 := Sto.keepTb s2 ht1 hf2
  have hg2 : gp (turnE es p (fun s => takeSh s x)) (p ++ [x]) = some s := by rw [gp_turn, if_neg (snoc_ne p x), hx]
  have hlen := len_del (nd_turn h.nd p (fun s => takeSh s x)) hg2
  rw [len_turn] at hlen
  have hwf := h.wf.take hg hd hk (g := fun s => takeSh s x) (takeSh_take d x)
  refine ⟨rfl, delE (turnE es p (fun s => takeSh s x)) (p ++ [x]), n + blocksN s, i + 1, ⟨s3, nd_del (nd_turn h.nd _ _) _, ?_, ?_, ?_, ?_⟩, ?_, ?_, by omega⟩
  · rw [gp_delF, gp_turnF]; exact hwf
  · rw [gp_delF, gp_turnF]
    unfold delF onF
    rw [if_neg (by simp)]
    by_cases e : ([] : Path) = p
    · rw [if_pos e, hr]
      exact ⟨takeSh r x, rfl, ht'⟩
    · rw [if_neg e, hr]
      exact ⟨r, rfl, ht'⟩
  · intro e he
    have he1 := (List.mem_filter.1 he).1
    refine lim_turn (g := fun s => takeSh s x) (Q := fun s => s.slots ≤ m + 1 ∧ s.data.length ≤ 8458240 ∧ size s.D ≤ m + 1) h.nd hg (fun e he => ?_) ⟨?_, ?_, ?_⟩ e he1
    · have := h.lim e he; omega
    · show d.slots ≤ _; omega
    · show d.data.length ≤ _; omega
    · show size (d.D.del (keyL x)) ≤ _
      have := size_del (k := keyL x) (h.wf.dr p d hg hd).tidy
      omega
  · have : blocksN s ≤ 20000 := by unfold blocksN; split <;> exact allB_le _
    omega
  · unfold remS
    rw [abs_rem h.wf hg hd hx]
    have e1 : (p ++ [x]).dropLast = p := by simp
    simp only [e1, blocks_toN]
  · refine Turn.of3 h (Below.refl _ _) hf1 hin hb1 hf2 hb2 fun s' hs' => ?_
    exact .inl (bk_turn (g := fun s => takeSh s x) (fun _ => rfl) ((sub_del _ _).subset hs'))
end
end Go.Proofs.YtpdcjdangnfeiaaGreatDoor.Um
open Go.Proofs.YtpdcjdangnfeiaaGreatDoor.Um
namespace Go.Proofs.YtpdcjdangnfeiaaGreatDoor.Un
def bx2 (w : World) (tb : Nat) (sv : Array Value) : World := (w.alloc (.cells #[.pointer (some ⟨tb, 0, none⟩)] 25)).alloc (.cells sv 91)
section
variable (w : World) (tb : Nat) (sv : Array Value)
theorem bx2_below : Below w.heap.size w (bx2 w tb sv) := ((Below.refl _ _).alloc (Nat.le_refl _) _).alloc (by simp) _
theorem bx2_size : (bx2 w tb sv).heap.size = w.heap.size + 2 := by simp [bx2]
theorem bx2_0 : (bx2 w tb sv).heap[w.heap.size]? = some (.cells #[.pointer (some ⟨tb, 0, none⟩)] 25 (0, 0)) := blk_alloc (Go.heap_alloc_new _ _) _
theorem bx2_1 : (bx2 w tb sv).heap[w.heap.size + 1]? = some (.cells sv 91 (0, 0)) := by
  have := Go.heap_alloc_new (w.alloc (.cells #[.pointer (some ⟨tb, 0, none⟩)] 25)) (.cells sv 91)
  rw [World.size_alloc] at this
  exact this
end
section
variable {w : World} {B tb n i m : Nat} {es : Es} {p : Path} {s d : Sh} {x : ByteArray}
set_option maxHeartbeats 1000000 in
set_option maxRecDepth 100000 in
theorem rem_nil (uv : Option Addr) (nv : ByteArray) (A : Option Addr) (N c : Nat) (dir : Bool) : Calls Tryz.prog 40 #[.pointer (some ⟨tb, 0, none⟩), .agg #[.pointer uv, .string nv, .pointer none, .slice A N c], .bool dir] w (ErrPost w 8) := by
  have hb := bx2_below w tb #[.pointer uv, .string nv, .pointer none, .slice A N c]
  have HB := Lib.hid hb
  clear hb
  go_enter Tryz.func40, Tryz.ntmps40
  go_wp2
  go_ret2
  exact ⟨HB.out, _, rfl⟩
set_option maxHeartbeats 1000000 in
set_option maxRecDepth 100000 in
theorem rem_wrong (uv : Option Addr) (nv : ByteArray) (A : Option Addr) (N c : Nat) (dir : Bool) (hS : Nd w B s) (hd : s.dir = !dir) : Calls Tryz.prog 40 #[.pointer (some ⟨tb, 0, none⟩), .agg #[.pointer uv, .string nv, .pointer (some ⟨s.nb, 0, none⟩), .slice A N c], .bool dir] w (ErrPost w (if dir then 11 else 10)) := by
  have hb := bx2_below w tb #[.pointer uv, .string nv, .pointer (some ⟨s.nb, 0, none⟩), .slice A N c]
  have HB := Lib.hid hb
  obtain ⟨dv, hc, -⟩ := hS.cells
  have c0 := keepC hb (blk_cell hc 0)
  unfold bx2 at c0
  clear hb hc hS
  cases dir
  · replace c0 := c0.trans (show _ = some (Value.bool true) by rw [hd]; rfl)
    clear hd
    rw [if_neg (by decide)]
    go_enter Tryz.func40, Tryz.ntmps40
    go_wp2
    go_ret2
    exact ⟨HB.out, _, rfl⟩
  · replace c0 := c0.trans (show _ = some (Value.bool false) by rw [hd]; rfl)
    clear hd
    rw [if_pos rfl]
    go_enter Tryz.func40, Tryz.ntmps40
    go_wp2
    go_ret2
    exact ⟨HB.out, _, rfl⟩
set_option maxHeartbeats 1000000 in
set_option maxRecDepth 100000 in
theorem rem_root (nv : ByteArray) (A : Option Addr) (N c : Nat) (hS : Nd w B s) (hd : s.dir = true) : Calls Tryz.prog 40 #[.pointer (some ⟨tb, 0, none⟩), .agg #[.pointer none, .string nv, .pointer (some ⟨s.nb, 0, none⟩), .slice A N c], .bool true] w (ErrPost w 13) := by
  have hb := bx2_below w tb #[.pointer none, .string nv, .pointer (some ⟨s.nb, 0, none⟩), .slice A N c]
  have HB := Lib.hid hb
  obtain ⟨dv, hc, -⟩ := hS.cells
  have c0 := (keepC hb (blk_cell hc 0)).trans (show _ = some (Value.bool true) by rw [hd]; rfl)
  unfold bx2 at c0
  clear hb hc hS hd
  go_enter Tryz.func40, Tryz.ntmps40
  go_wp2
  go_ret2
  exact ⟨HB.out, _, rfl⟩
set_option maxHeartbeats 1000000 in
set_option maxRecDepth 100000 in
theorem rem_full (ad : Addr) (nv : ByteArray) (A : Option Addr) (N c : Nat) (hS : Nd w B s) (hd : s.dir = true) (hk : 0 < size s.D) : Calls Tryz.prog 40 #[.pointer (some ⟨tb, 0, none⟩), .agg #[.pointer (some ad), .string nv, .pointer (some ⟨s.nb, 0, none⟩), .slice A N c], .bool true] w (ErrPost w 13) := by
  have hb := bx2_below w tb #[.pointer (some ad), .string nv, .pointer (some ⟨s.nb, 0, none⟩), .slice A N c]
  have HB := Lib.hid hb
  obtain ⟨dv, hc, -⟩ := hS.cells
  have c0 := (keepC hb (blk_cell hc 0)).trans (show _ = some (Value.bool true) by rw [hd]; rfl)
  have c2 := (keepC hb ((blk_cell hc 2).trans (show _ = some (Value.map (some s.mb)) by unfold kidsV; rw [if_pos hd]; rfl)))
  have hlen : ∀ ty, (Builtin.len_ #[83] ty #[.map (some s.mb)]).run Tryz.prog (bx2 w tb #[.pointer (some ad), .string nv, .pointer (some ⟨s.nb, 0, none⟩), .slice A N c]) = .ok (.int .i64 (size s.D)) _ := fun ty =>
    World.ownsMap.len ((Nd.below hS hb).kids hd).2 Tryz.underlying83 ty
  unfold bx2 at c0 c2 hlen
  have k0 : (0 : Int) < (size s.D : Int) := by omega
  clear hb hc hS hd hk
  go_enter Tryz.func40, Tryz.ntmps40
  go_wp2
  go_ret2
  exact ⟨HB.out, _, rfl⟩
set_option maxHeartbeats 1000000 in
set_option maxRecDepth 100000 in
theorem rem_ok (A : Option Addr) (N c : Nat) (h : St w B tb es n i m) (hg : gp es p = some d) (hd : d.dir = true) (hm : m ≤ 2000) (hx : gp es (p ++ [x]) = some s) (h0 : s.dir = true → size s.D = 0) (hxs : x.size ≤ 1000000) :
    Calls Tryz.prog 40 #[.pointer (some ⟨tb, 0, none⟩), .agg #[.pointer (some ⟨d.nb, 0, none⟩), .string x, .pointer (some ⟨s.nb, 0, none⟩), .slice A N c], .bool s.dir] w (PlanPost w B tb es n i m 0 (remS ⟨absE es, n, i⟩ (p ++ [x]) (some (toN s)))) := by
  have hb := bx2_below w tb #[.pointer (some ⟨d.nb, 0, none⟩), .string x, .pointer (some ⟨s.nb, 0, none⟩), .slice A N c]
  have HB := Lib.hid hb
  have hS := h.ok hx
  obtain ⟨dv, hc, -⟩ := hS.cells
  have hk : ∀ y, gp es (p ++ [x] ++ [y]) = none := by
    intro y
    cases hsd : s.dir
    · exact no_kids_file h.wf hx hsd y
    · exact no_kids h.wf hx hsd (h0 hsd) y
  have hdo := rem_do (bs := w.heap.size + 1) (bt := w.heap.size) (h.below hb) hg hd hm hx hk hxs (fun b hb2 hk2 => by
      have := (h.bk hk2).1
      simp at hb2
      omega) (blk_cell (bx2_1 w tb _) 0) (blk_cell (bx2_1 w tb _) 1) (blk_cell (bx2_1 w tb _) 2) (blk_cell (bx2_0 w tb _) 0)
  have HDO := Lib.hid hdo
  have hmk : ∀ (fn : Fn) (first cap : Array Value) (w : World), (Instr.makeFunc fn first cap).run Tryz.prog w = .ok (.func fn first cap) w := fun _ _ _ _ => rfl
  have c0 := keepC hb (blk_cell hc 0)
  cases hsd : s.dir
  · replace c0 := c0.trans (show _ = some (Value.bool false) by rw [hsd]; rfl)
    unfold bx2 at c0
    clear hb hc hS h hk hdo h0
    go_enter Tryz.func40, Tryz.ntmps40
    go_wp2
    go_ret2
    exact ⟨HB.out, _, rfl, fun _ => ⟨75, _, rfl, enters_of Tryz.func75 (by kernel_rfl) rfl, HDO.out⟩⟩
  · replace c0 := c0.trans (show _ = some (Value.bool true) by rw [hsd]; rfl)
    have c2 := (keepC hb ((blk_cell hc 2).trans (show _ = some (Value.map (some s.mb)) by unfold kidsV; rw [if_pos hsd]; rfl)))
    have hlen : ∀ ty, (Builtin.len_ #[83] ty #[.map (some s.mb)]).run Tryz.prog (bx2 w tb #[.pointer (some ⟨d.nb, 0, none⟩), .string x, .pointer (some ⟨s.nb, 0, none⟩), .slice A N c]) = .ok (.int .i64 0) (bx2 w tb #[.pointer (some ⟨d.nb, 0, none⟩), .string x, .pointer (some ⟨s.nb, 0, none⟩), .slice A N c]) := fun ty => by
      have := World.ownsMap.len ((Nd.below hS hb).kids hsd).2 Tryz.underlying83 ty
      rw [h0 hsd] at this
      exact this
    unfold bx2 at c0 c2 hlen
    clear hb hc hS h hk hdo h0
    go_enter Tryz.func40, Tryz.ntmps40
    go_wp2
    go_ret2
    exact ⟨HB.out, _, rfl, fun _ => ⟨75, _, rfl, enters_of Tryz.func75 (by kernel_rfl) rfl, HDO.out⟩⟩
theorem way_up {l : Path} (hw : way es [] (p ++ [x]) = 0) (_ : l = p) : ∃ d, gp es p = some d ∧ d.dir = true := by
  rw [way_snoc] at hw
  by_cases k : way es [] p = 0
  · rw [if_neg (by simp [k])] at hw
    rw [List.nil_append] at hw
    cases hg : gp es p with
    | none => rw [hg] at hw; exact absurd hw (by decide)
    | some d =>
      rw [hg] at hw
      dsimp only at hw
      cases hd : d.dir
      · rw [hd] at hw; exact absurd hw (by decide)
      · exact ⟨d, rfl, hd⟩
  · rw [if_pos k] at hw; exact absurd hw k
theorem path_cases (l : Path) : l = [] ∨ ∃ p x, l = p ++ [x] := by
  by_cases h : l = []
  · exact .inl h
  · exact .inr ⟨l.dropLast, l.getLast h, (List.dropLast_concat_getLast h).symm⟩
theorem spot_root (A : Value) : spotV es [] A = .agg #[.pointer none, .string ByteArray.empty, ptrV ((gp es []).map (·.nb)), A] := rfl
theorem spot_snoc (A : Value) (hg : gp es p = some d) : spotV es (p ++ [x]) A = .agg #[.pointer (some ⟨d.nb, 0, none⟩), .string x, ptrV ((gp es (p ++ [x])).map (·.nb)), A] := by
  unfold spotV upV nmV
  rw [if_neg (by simp), List.dropLast_concat, hg]
  simp [ptrV]
/-- (*Tree).remove -/
theorem remove_any (A : Option Addr) (N c : Nat) (dir : Bool) (l : Path) (h : St w B tb es n i m) (hm : m ≤ 2000) (hw : way es [] l = 0) (hxs : ∀ x ∈ l, x.size ≤ 1000000) :
    Calls Tryz.prog 40 #[.pointer (some ⟨tb, 0, none⟩), spotV es l (.slice A N c), .bool dir] w (PlanPost w B tb es n i m (remE l dir (absE es l)) (remS ⟨absE es, n, i⟩ l (absE es l))) := by
  cases hs : gp es l with
  | none =>
    have ha : absE es l = none := by unfold absE; rw [hs]; rfl
    rw [ha]
    obtain ⟨pu, hpu⟩ := upV_is es l
    unfold spotV nmV
    rw [hs, hpu]
    exact (rem_nil pu _ A N c dir).mono fun _ _ h => ErrPost.plan h (show (8 : Int) ≠ 0 by decide)
  | some s =>
    have ha : absE es l = some (toN s) := by unfold absE; rw [hs]; rfl
    rw [ha]
    by_cases hsd : s.dir = !dir
    · have hE : remE l dir (some (toN s)) = if dir then 11 else 10 := by
        unfold remE toN
        cases dir <;> simp_all
      rw [hE]
      obtain ⟨pu, hpu⟩ := upV_is es l
      unfold spotV nmV
      rw [hs, hpu]
      exact (rem_wrong pu _ A N c dir (h.ok hs) hsd).mono fun _ _ h => ErrPost.plan h (by cases dir <;> decide)
    · have hsd2 : s.dir = dir := by cases hx : s.dir <;> cases dir <;> simp_all
      rcases path_cases l with rfl | ⟨p, x, rfl⟩
      · obtain ⟨r, hr, hrd⟩ := h.wf.root
        rw [hs] at hr
        cases hr
        rw [hrd] at hsd2
        subst hsd2
        have hE : remE [] true (some (toN s)) = 13 := by
          unfold remE toN
          simp [hrd]
        rw [hE, spot_root, hs]
        exact (rem_root _ A N c (h.ok hs) hrd).mono fun _ _ h => ErrPost.plan h (by decide)
      · obtain ⟨d, hg, hd⟩ := way_up (l := p) hw rfl
        rw [spot_snoc _ hg, hs]
        subst hsd2
        by_cases hk : s.dir = true ∧ 0 < size s.D
        · have hE : remE (p ++ [x]) s.dir (some (toN s)) = 13 := by
            unfold remE toN
            simp [hk.1, hk.2]
          rw [hE, hk.1]
          exact (rem_full _ _ A N c (h.ok hs) hk.1 hk.2).mono fun _ _ h => ErrPost.plan h (by decide)
        · have hE : remE (p ++ [x]) s.dir (some (toN s)) = 0 := by
            unfold remE toN
            cases hsd : s.dir
            · simp
            · rw [hsd] at hk
              have : size s.D = 0 := by simpa using hk
              simp [this]
          rw [hE]
          exact rem_ok A N c h hg hd hm hs (fun hsd => by rw [hsd] at hk; simpa using hk) (hxs x (by simp))
/-- (*Tree).make -/
theorem make_any (A : Option Addr) (N c : Nat) (dir : Bool) (l : Path) (h : St w B tb es n i m) (hm : m ≤ 2000) (hw : way es [] l = 0) (hxs : ∀ x ∈ l, x.size ≤ 1000000 ∧ nmL x.data.toList = true) :
    Calls Tryz.prog 37 #[.pointer (some ⟨tb, 0, none⟩), spotV es l (.slice A N c), .bool dir] w (PlanPost w B tb es n i m (makeE ⟨absE es, n, i⟩ l) (makeS ⟨absE es, n, i⟩ l dir)) := by
  cases hs : gp es l with
  | some s =>
    have ha : makeE ⟨absE es, n, i⟩ l = 9 := by unfold makeE absE; simp [hs]
    rw [ha]
    obtain ⟨pu, hpu⟩ := upV_is es l
    unfold spotV nmV
    rw [hs, hpu]
    exact (make_exists _ _ _ _).mono fun _ _ h => ErrPost.plan h (by decide)
  | none =>
    rcases path_cases l with rfl | ⟨p, x, rfl⟩
    · obtain ⟨r, hr, -⟩ := h.wf.root
      rw [hs] at hr; cases hr
    · obtain ⟨d, hg, hd⟩ := way_up (l := p) hw rfl
      rw [spot_snoc _ hg, hs]
      have ha : makeE ⟨absE es, n, i⟩ (p ++ [x]) = if i = 0 ∨ n < growsA (toN d) then 7 else 0 := by
        unfold makeE absE
        simp [hs, hg, wantA]
      rw [ha]
      exact make_none _ h hg hd hm hs (hxs x (by simp)).2 (hxs x (by simp)).1
/-- (*Tree).append -/
theorem append_any (A : Option Addr) (c : Nat) (b : List UInt8) (l : Path) (h : St w B tb es n i m) (hm : m ≤ 2000) (hb : RdB w A b) (hlb : b.length ≤ 1000000) :
    Calls Tryz.prog 38 #[.pointer (some ⟨tb, 0, none⟩), ptrV ((gp es l).map (·.nb)), .slice A b.length c] w (PlanPost w B tb es n i m (appE ⟨absE es, n, i⟩ b.length (absE es l)) (appS ⟨absE es, n, i⟩ l b (absE es l))) := by
  cases hs : gp es l with
  | none =>
    have ha : absE es l = none := by unfold absE; rw [hs]; rfl
    rw [ha]
    exact (app_nil A _ c).mono fun _ _ h => ErrPost.plan h (show (8 : Int) ≠ 0 by decide)
  | some s =>
    have ha : absE es l = some (toN s) := by unfold absE; rw [hs]; rfl
    rw [ha]
    cases hsd : s.dir
    · exact app_file b A c h hs hsd hm hb hlb
    · have hE : appE ⟨absE es, n, i⟩ b.length (some (toN s)) = 10 := by unfold appE toN; simp [hsd]
      rw [hE]
      exact (app_dir A _ c h hs hsd).mono fun _ _ h => ErrPost.plan h (by decide)
/-- (*Tree).cut -/
theorem cut_any (N : Int) (l : Path) (h : St w B tb es n i m) (hm : m ≤ 2000) :
    Calls Tryz.prog 39 #[.pointer (some ⟨tb, 0, none⟩), ptrV ((gp es l).map (·.nb)), .int .i64 N] w (PlanPost w B tb es n i m (cutE N (absE es l)) (cutS ⟨absE es, n, i⟩ l N.toNat (absE es l))) := by
  cases hs : gp es l with
  | none =>
    have ha : absE es l = none := by unfold absE; rw [hs]; rfl
    rw [ha]
    exact (cut_nil N).mono fun _ _ h => ErrPost.plan h (show (8 : Int) ≠ 0 by decide)
  | some s =>
    have ha : absE es l = some (toN s) := by unfold absE; rw [hs]; rfl
    rw [ha]
    cases hsd : s.dir
    · exact cut_file N h hs hsd hm
    · have hE : cutE N (some (toN s)) = 10 := by unfold cutE toN; simp [hsd]
      rw [hE]
      exact (cut_dir N h hs hsd).mono fun _ _ h => ErrPost.plan h (by decide)
end
end Go.Proofs.YtpdcjdangnfeiaaGreatDoor.Un
open Go.Proofs.YtpdcjdangnfeiaaGreatDoor.Un
namespace Go.Proofs.YtpdcjdangnfeiaaGreatDoor.Uo
/-- slices.Equal of two ways. -/
theorem eq_any (A A2 : Option Addr) (c c2 : Nat) (l m : Path) (w : World) (hl : RdS w A l) (hm : RdS w A2 m) (h0 : l ≠ []) (h1 : m ≠ []) (h2 : l.length ≤ 1000) (h3 : m.length ≤ 1000) :
    Calls Tryz.prog 78 #[.slice A l.length c, .slice A2 m.length c2] w fun e w' => e = .returned (.bool (decide (l = m))) ∧ ∃ q, w' = w.drewN q := by
  rcases hl with hl | ⟨b1, o1, rfl, hl⟩
  · exact absurd hl h0
  rcases hm with hm | ⟨b2, o2, rfl, hm⟩
  · exact absurd hm h1
  have := Tryz.slices_Equal_string b1 o1 l.length c b2 o2 m.length c2 l m w (Nat.le_refl _) (Nat.le_refl _) (by omega) (by omega) (fun j hj => hl j _ (by rw [List.getD_eq_getElem?_getD, List.getElem?_eq_getElem hj]; rfl)) (fun j hj => hm j _ (by rw [List.getD_eq_getElem?_getD, List.getElem?_eq_getElem hj]; rfl))
  rw [List.take_length, List.take_length] at this
  exact this
theorem eq_front (A A2 : Option Addr) (c c2 : Nat) (l m : Path) (w : World) (hl : RdS w A l) (hm : RdS w A2 m) (h0 : l ≠ []) (h1 : m ≠ []) (h2 : l.length ≤ 1000) (h3 : l.length ≤ m.length) :
    Calls Tryz.prog 78 #[.slice A l.length c, .slice A2 l.length c2] w fun e w' => e = .returned (.bool (decide (l = m.take l.length))) ∧ ∃ q, w' = w.drewN q := by
  rcases hl with hl | ⟨b1, o1, rfl, hl⟩
  · exact absurd hl h0
  rcases hm with hm | ⟨b2, o2, rfl, hm⟩
  · exact absurd hm h1
  have := Tryz.slices_Equal_string b1 o1 l.length c b2 o2 l.length c2 l m w (Nat.le_refl _) h3 (by omega) (by omega) (fun j hj => hl j _ (by rw [List.getD_eq_getElem?_getD, List.getElem?_eq_getElem hj]; rfl)) (fun j hj => hm j _ (by rw [List.getD_eq_getElem?_getD, List.getElem?_eq_getElem hj]; rfl))
  rw [List.take_length] at this
  exact this
theorem front_iff (l m : Path) : (l <+: m ∧ l ≠ m) ↔ (l.length < m.length ∧ l = m.take l.length) := by
  constructor
  · rintro ⟨h1, h2⟩
    have h3 := List.prefix_iff_eq_take.1 h1
    refine ⟨?_, h3⟩
    rcases Nat.lt_or_ge l.length m.length with h | h
    · exact h
    · exact absurd (h3.trans (List.take_of_length_le h)) h2
  · rintro ⟨h1, h2⟩
    exact ⟨List.prefix_iff_eq_take.2 h2, fun e => by rw [e] at h1; omega⟩
set_option maxHeartbeats 1000000 in
set_option maxRecDepth 100000 in
/-- below -/
theorem below_any (A A2 : Option Addr) (c c2 : Nat) (l m : Path) (w : World) (hl : RdS w A l) (hm : RdS w A2 m) (h0 : l ≠ []) (h1 : m ≠ []) (h2 : l.length ≤ 1000) (h3 : m.length ≤ 1000) (hc2 : m.length ≤ c2) :
    Calls Tryz.prog 77 #[.slice A l.length c, .slice A2 m.length c2] w fun e w' => e = .returned (.bool (decide (l <+: m ∧ l ≠ m))) ∧ ∃ q, w' = w.drewN q := by
  obtain ⟨b2, o2, rfl⟩ : ∃ b o, A2 = some ⟨b, o, none⟩ := by
    rcases hm with hm | ⟨b2, o2, rfl, -⟩
    · exact absurd hm h1
    · exact ⟨b2, o2, rfl⟩
  have HL := Lib.hid hl
  have HM := Lib.hid hm
  obtain ⟨R, HR⟩ : ∃ R, Hid (decide (l <+: m ∧ l ≠ m) = R) := ⟨_, Lib.hid rfl⟩
  rw [HR.out]
  by_cases k : l.length < m.length
  · have HE := Lib.hid (fun W (hW1 : RdS W A l) (hW2 : RdS W (some ⟨b2, o2, none⟩) m) c2 => eq_front A (some ⟨b2, o2, none⟩) c c2 l m W hW1 hW2 h0 h1 h2 (by omega))
    have HX : Hid (R = decide (l = m.take l.length)) := Lib.hid (by
      rw [← HR.out]
      refine decide_eq_decide.2 ((front_iff l m).trans ⟨fun h => h.2, fun h => ⟨k, h⟩⟩))
    have i1 : (l.length : Int) < (m.length : Int) := by omega
    have i2 : (l.length : Int) ≤ (c2 : Int) := by omega
    have i3 : l.length ≤ c2 := by omega
    obtain ⟨X, hX⟩ : ∃ X, decide (l = m.take l.length) = X := ⟨_, rfl⟩
    rw [hX] at HE HX
    clear hl hm h0 h1 HR hX
    go_enter Tryz.func77, Tryz.ntmps77
    go_wp2_with fail
    refine (HE.out _ HL.out HM.out _).mono ?_
    rintro e w1 ⟨rfl, q, rfl⟩
    go_wp2
    go_ret
    exact ⟨by rw [HX.out]; rfl, q, rfl⟩
  · have HX : Hid (R = false) := Lib.hid (by
      rw [← HR.out]
      exact decide_eq_false fun h => k ((front_iff l m).1 h).1)
    have i1 : ¬ (l.length : Int) < (m.length : Int) := by omega
    clear hl hm h0 h1 HR k
    go_enter Tryz.func77, Tryz.ntmps77
    go_wp2
    go_ret
    exact ⟨by rw [HX.out]; try rfl, 0, rfl⟩
end Go.Proofs.YtpdcjdangnfeiaaGreatDoor.Uo
open Go.Proofs.YtpdcjdangnfeiaaGreatDoor.Uo
namespace Go.Proofs.YtpdcjdangnfeiaaGreatDoor.Up
section
variable {w : World} {B tb n i m : Nat} {s df dt1 : Sh} {fx tx : ByteArray}
/-- delete's world. -/
theorem del_end {w w1 : World} {d : Sh} {x : ByteArray} (hD : Nd w B d) (hd : d.dir = true) (ho1 : w1.ownsMap Tryz.prog 9 ptrR d.mb (size d.D) (d.D.del (keyL x))) (hg1 : w.grownBy w1 (some d.mb)) :
    Nd w1 B (takeSh d x) ∧ Fr w w1 (fun b => b ∈ blks d) ∧ Below B w w1 := by
  have hf : Fr w w1 (fun b => b ∈ blks d) := Fr.grow ⟨Nat.le_refl _, fun _ _ _ => rfl, noB_blks hD⟩ hd hg1
  refine ⟨⟨hD.base, ?_, fun _ => ⟨(hD.kids hd).1, own_size ho1⟩⟩, hf, ⟨hg1.os, hg1.tape, hg1.output, hg1.size, fun k hk => hg1.block k (by have := hD.base; have := hD.lt; omega) (fun e => by injection e with e; have := (hD.kids hd).1; omega)⟩⟩
  obtain ⟨dv, hc, hrd⟩ := hD.cells
  exact ⟨dv, blk_grown hc hg1 (fun e => by injection e with e; exact Tb.Ok.ne_map hD (hD.kids hd).2 e), hrd.fr hf⟩
theorem grow_drew {w w1 : World} {b : Option Nat} (hg : w.drew.grownBy w1 b) : w.grownBy w1 b := ⟨hg.os, hg.tape, hg.output, hg.size, hg.block⟩
set_option maxHeartbeats 4000000 in
set_option maxRecDepth 100000 in
theorem mv_walk {bs bx bt bm sn tn r : Nat} (more : Nat) (hF : Nd w B df) (hfd : df.dir = true) (ht : Tre w B tb r n i) (hfx : fx.size ≤ 1000000) (htx : tx.size ≤ 1000000)
    (hdt : ∀ w1, Nd w1 B (takeSh df fx) → Fr w w1 (fun b => b ∈ blks df) → Nd w1 B dt1) (htn : dt1.nb = tn) (hd1 : dt1.dir = true) (l1 : dt1.slots ≤ 90000) (l2 : dt1.data.length ≤ 1000000000) (l3 : size dt1.D ≤ 1000000)
    (hne1 : ∀ b ∈ [bs, bx, bt, bm, tb], b ∉ blks df) (hne2 : ∀ b ∈ [bs, bx, bt, bm, tb], b ∉ blks dt1) (hne3 : ∀ b ∈ [bt, bm], b ≠ tb)
    (c0 : w.cell? ⟨bs, 0, none⟩ = some (.pointer (some ⟨df.nb, 0, none⟩))) (c1 : w.cell? ⟨bs, 1, none⟩ = some (.string fx)) (c2 : w.cell? ⟨bs, 2, none⟩ = some (.pointer (some ⟨sn, 0, none⟩)))
    (x0 : w.cell? ⟨bx, 0, none⟩ = some (.pointer (some ⟨tn, 0, none⟩))) (x1 : w.cell? ⟨bx, 1, none⟩ = some (.string tx))
    (ct : w.cell? ⟨bt, 0, none⟩ = some (.pointer (some ⟨tb, 0, none⟩))) (cm : w.cell? ⟨bm, 0, none⟩ = some (.int .i64 more)) (hn : more ≤ n) (hn2 : n ≤ 100000000) :
    Calls Tryz.prog 81 #[.pointer (some ⟨bs, 0, none⟩), .pointer (some ⟨bx, 0, none⟩), .pointer (some ⟨bt, 0, none⟩), .pointer (some ⟨bm, 0, none⟩)] w fun e w' => e = .returned (.tuple #[]) ∧
      ∃ w1 w2, Nd w1 B (takeSh df fx) ∧ Fr w w1 (fun b => b ∈ blks df) ∧ Below B w w1 ∧ Nd w2 B (putSh dt1 tx sn) ∧ Fr w1 w2 (fun b => b ∈ blks dt1) ∧ Below B w1 w2 ∧ Fr w2 w' (fun b => b = tb) ∧ Below B w2 w' ∧ Tre w2 B tb r n i ∧ Tre w' B tb r (n - more) i := by
  subst htn
  obtain ⟨dv, hc, hrd⟩ := hF.cells
  have d2 : w.cell? ⟨df.nb, 2, none⟩ = some (.map (some df.mb)) := (blk_cell hc 2).trans (by unfold kidsV; rw [if_pos hfd]; rfl)
  have HO := Lib.hid (hF.kids hfd).2
  have HFN := Lib.hid hF
  have HT := Lib.hid ht
  have HDT := Lib.hid hdt
  have HN1 := Lib.hid hne1
  have HN2 := Lib.hid hne2
  have HN3 := Lib.hid hne3
  have C2 := Lib.hid c2
  have X0 := Lib.hid x0
  have X1 := Lib.hid x1
  have CT := Lib.hid ct
  have CM := Lib.hid cm
  have HFD := Lib.hid hfd
  have wn : IntKind.i64.wrap ((n : Int) - (more : Int)) = (n : Int) - more := by rw [IntKind.wrap_i64]; omega
  clear hF ht hdt hne1 hne2 hne3 c2 x0 x1 ct cm hc hrd hfd
  go_enter Tryz.func81, Tryz.ntmps81
  go_wp2_with fail
  go_still_tail 7, (by kernel_rfl)
  refine wpList_delete_own _ rfl (.tmp 8) (.tmp 10) 83 9 rfl 52 law9 Tryz.underlying83 ptrR df.mb _ df.D rfl HO.out _ (keyL fx) rfl (key9 fx hfx) ?_
  intro w1 ho1 ht1
  obtain ⟨e1, e2, e3⟩ := del_end HFN.out HFD.out ho1 (grow_drew ht1.grown)
  have E1 := Lib.hid e1
  have E2 := Lib.hid e2
  have E3 := Lib.hid e3
  have hT1 := e2.block tb (Tre.lt HT.out) (HN1.out tb (by simp))
  have HT1 := Lib.hid (Tre.keep HT.out hT1)
  have y2 := cell_fr e2 (HN1.out bs (by simp)) C2.out
  have y0 := cell_fr e2 (HN1.out bx (by simp)) X0.out
  have y1 := cell_fr e2 (HN1.out bx (by simp)) X1.out
  have Y3 := Lib.hid (cell_fr e2 (HN1.out bt (by simp)) CT.out)
  have Y4 := Lib.hid (cell_fr e2 (HN1.out bm (by simp)) CM.out)
  have HD1 := Lib.hid (HDT.out w1 e1 e2)
  clear ho1 ht1 e1 e2 e3 hT1 c0 c1 d2
  go_wp2_with fail
  refine (put_any tx sn HD1.out hd1 l1 l2 l3 htx).mono ?_
  rintro e w2 ⟨rfl, p1, p2, p3⟩
  have P1 := Lib.hid p1
  have P2 := Lib.hid p2
  have P3 := Lib.hid p3
  have hT2 : Tre w2 B tb r n i := Tre.keep HT1.out (p2.block tb (Tre.lt HT1.out) (HN2.out tb (by simp)))
  have HT2 := Lib.hid hT2
  have z3 := cell_fr p2 (HN2.out bt (by simp)) Y3.out
  have z4 := cell_fr p2 (HN2.out bm (by simp)) Y4.out
  have u1 : w2.cell? ⟨tb, 1, none⟩ = some (.int .i64 n) := blk_cell hT2.2 1
  have f1 : w2.frozen? ⟨tb, 1, none⟩ = false := blk_frozen hT2.2 1
  clear p1 p2 p3 hT2 y0 y1 y2
  go_wp2_with fail
  go_region
  go_wp2_with fail
  go_end0
  refine ⟨rfl, w1, w2, E1.out, E2.out, E3.out, P1.out, P2.out, P3.out, Fr.drew (Fr.cell _ (Tre.noB HT2.out)), ((Below.refl B w2).setCell HT2.out.1 _).drew, HT2.out, HT2.out.1, ?_⟩
  refine (blk_set HT2.out.2 1 _).trans ?_
  have e : (n : Int) - (more : Int) = ((n - more : Nat) : Int) := by omega
  rw [e]
  rfl
end
end Go.Proofs.YtpdcjdangnfeiaaGreatDoor.Up
end
