/- TreeLists walked. -/
import Derived.Test.YtpdcjdangnfeiaaDoorWk
import Derived.Test.YtpdcjdangnfeiaaDoorWr
import Derived.Laws.Cover1
import Derived.Sort.Walk0
namespace Go.Proofs.YtpdcjdangnfeiaaDoor.Ws
open Go Go.Maps Go.RowKit Go.Proofs.YtpdcjdangnfeiaaDoor.Pb Go.Proofs.YtpdcjdangnfeiaaDoor.PPth Go.Proofs.YtpdcjdangnfeiaaDoorW.PrintWords Go.Proofs.YtpdcjdangnfeiaaDoorW.PrintLast Go.Proofs.YtpdcjdangnfeiaaDoorW.PrintMore Go.Proofs.YtpdcjdangnfeiaaDoor.Ta Go.Proofs.YtpdcjdangnfeiaaDoor.Tb Go.Proofs.YtpdcjdangnfeiaaDoor.Tc Go.Proofs.YtpdcjdangnfeiaaDoor.Te Go.Proofs.YtpdcjdangnfeiaaDoor.Tf Go.Proofs.YtpdcjdangnfeiaaDoor.Qa Go.Proofs.YtpdcjdangnfeiaaDoor.Qb Go.Proofs.YtpdcjdangnfeiaaDoor.Qc Go.Proofs.YtpdcjdangnfeiaaDoor.Qd Go.Proofs.YtpdcjdangnfeiaaDoor.Qe Go.Proofs.YtpdcjdangnfeiaaDoor.Qf Go.Proofs.YtpdcjdangnfeiaaDoor.Ua Go.Proofs.YtpdcjdangnfeiaaDoor.Ub Go.Proofs.YtpdcjdangnfeiaaDoor.Uc Go.Proofs.YtpdcjdangnfeiaaDoor.Ud Go.Proofs.YtpdcjdangnfeiaaDoor.Ue Go.Proofs.YtpdcjdangnfeiaaDoor.Uf Go.Proofs.YtpdcjdangnfeiaaDoor.Ba Go.Proofs.YtpdcjdangnfeiaaDoor.Ug Go.Proofs.YtpdcjdangnfeiaaDoor.Uh Go.Proofs.YtpdcjdangnfeiaaDoor.Ui Go.Proofs.YtpdcjdangnfeiaaDoor.Uj Go.Proofs.YtpdcjdangnfeiaaDoor.Uk Go.Proofs.YtpdcjdangnfeiaaDoor.Ul Go.Proofs.YtpdcjdangnfeiaaDoor.Um Go.Proofs.YtpdcjdangnfeiaaDoor.Un Go.Proofs.YtpdcjdangnfeiaaDoor.Uo Go.Proofs.YtpdcjdangnfeiaaDoor.Up Go.Proofs.YtpdcjdangnfeiaaDoor.Uq Go.Proofs.YtpdcjdangnfeiaaDoor.Ur Go.Proofs.YtpdcjdangnfeiaaDoor.Us Go.Proofs.YtpdcjdangnfeiaaDoor.Ut Go.Proofs.YtpdcjdangnfeiaaDoor.Uu Go.Proofs.YtpdcjdangnfeiaaDoor.Uv Go.Proofs.YtpdcjdangnfeiaaDoor.Uw Go.Proofs.YtpdcjdangnfeiaaDoor.Ux Go.Proofs.YtpdcjdangnfeiaaDoor.Uy Go.Proofs.YtpdcjdangnfeiaaDoor.Uz Go.Proofs.YtpdcjdangnfeiaaDoor.Va Go.Proofs.YtpdcjdangnfeiaaDoor.Vb Go.Proofs.YtpdcjdangnfeiaaDoor.Vc Go.Proofs.YtpdcjdangnfeiaaDoor.Vd Go.Proofs.YtpdcjdangnfeiaaDoor.Ve Go.Proofs.YtpdcjdangnfeiaaDoor.Wa Go.Proofs.YtpdcjdangnfeiaaDoor.Wb Go.Proofs.YtpdcjdangnfeiaaDoor.Wc Go.Proofs.YtpdcjdangnfeiaaDoor.Wd Go.Proofs.YtpdcjdangnfeiaaDoor.We Go.Proofs.YtpdcjdangnfeiaaDoor.Wg Go.Proofs.YtpdcjdangnfeiaaDoor.Wh Go.Proofs.YtpdcjdangnfeiaaDoor.Wi Go.Proofs.YtpdcjdangnfeiaaDoor.Wk Go.Proofs.YtpdcjdangnfeiaaDoor.Wm Go.Proofs.YtpdcjdangnfeiaaDoor.Wp Go.Proofs.YtpdcjdangnfeiaaDoor.Wq Go.Proofs.YtpdcjdangnfeiaaDoor.Wr
/-- How a tree lies in memory, and how many inodes it was made with. -/
structure AtL (w : World) (B tb : Nat) (q : Int) (es : Es) (n i m : Nat) : Prop where
  pos : 0 < B
  q : w.cell? ⟨0, 0, none⟩ = some (.int .i64 q)
  st : St w B tb es n i m
  sum : es.length + i = 80
theorem AtL.of {w : World} {B tb : Nat} {q : Int} (h : At w B tb q ⟨rootA, 300, 79⟩ 0) : ∃ es n i, AtL w B tb q es n i 0 := by
  obtain ⟨h0, hq, es, n, i, h1, h2⟩ := h
  refine ⟨es, n, i, h0, hq, h1, ?_⟩
  have e1 : absE es = rootA := congrArg S.a h2
  have e2 : i = 79 := congrArg S.inodes h2
  have h3 : Nd1 [(([] : Path), freshSh true 0)] := by
    show ([([] : Path)]).Nodup
    simp
  have h4 := same_len h3 h1.nd (by
    rw [e1]
    funext p
    unfold absE rootA
    rw [gp_cons]
    by_cases e : p = []
    · rw [if_pos e, if_pos e.symm]; rfl
    · rw [if_neg e, if_neg (fun h => e h.symm)]; rfl)
  rw [h4, e2]; rfl
theorem lk_root {w : World} {B tb n i m : Nat} {es : Es} (h : St w B tb es n i m) : ∃ r, lk es ⟨#[47]⟩ = (some r, 0) ∧ gp es [] = some r ∧ r.dir = true := by
  obtain ⟨r, h1, h2⟩ := h.wf.root
  have hs : splitP ⟨#[47]⟩ = ([], 0) := by decide +kernel
  refine ⟨r, ?_, h1, h2⟩
  unfold lk
  simp only [hs]
  rw [h1]
  rfl
theorem balloc (w : World) (o : Obj) : Below w.heap.size w (w.alloc o) := (Below.refl _ _).alloc (Nat.le_refl _) _
theorem res8 {W : World} {tmps : Array Value} {b : Nat} {v : Bool} (h : tmps[2]? = some (.pointer (some ⟨b, 0, none⟩))) (hc : W.cell? ⟨b, 0, none⟩ = some (.bool v)) : (results Tryd.f8 tmps).run Tryd.prog W = .ok (.bool v) W := by
  simp [results, Tryd.results8, h, go_sem, hc]
theorem leave8 {W : World} {tmps : Array Value} {R : Ending → World → Prop} {b : Nat} {v : Bool} (h : tmps[2]? = some (.pointer (some ⟨b, 0, none⟩))) (hc : W.cell? ⟨b, 0, none⟩ = some (.bool v)) (hR : R (.returned (.bool v)) W) : bodyPostM Fence.wide 5 Tryd.prog Tryd.f8 R .ret { tmps := tmps, defers := [] } W :=
  ⟨_, res8 h hc, hR⟩
theorem act_name {Φ : Act → Prop} {a : Act} (h : ∀ T, T = a.tmps → Φ ⟨T, a.defers⟩) : Φ a := h _ rfl
/-- The loop's variables between two rounds. -/
structure LI (w10 : World) (s0 d f : Nat) (pre : List Row) (W : World) : Prop where
  sum : d + f = pre.length
  c10 : W.heap[s0]? = some (.cells #[.int .i64 d] 3 (0, 0))
  c11 : W.heap[s0 + 1]? = some (.cells #[.int .i64 f] 3 (0, 0))
  c12 : W.heap[s0 + 2]? = some (.cells #[.string (Wm.lastT pre)] 9 (0, 0))
  low : Below s0 w10 W
theorem LI.own {w10 : World} {s0 B : Nat} (hB : s0 + 3 ≤ B) : OwnFrom B (fun pre W => ∃ d f, LI w10 s0 d f pre W) := by
  rintro pre W W' row ⟨d, f, h⟩ hg hr
  have key : ∀ b o, W.heap[b]? = some o → b < B → W'.heap[b]? = some o := fun b _ hb hlt =>
    (hg.block b (Array.getElem?_eq_some_iff.1 hb).1 (fun e => by have h1 := (hr b e.symm).1; omega)).trans hb
  refine ⟨d, f, h.sum, key _ _ h.c10 (by omega), key _ _ h.c11 (by omega), key _ _ h.c12 (by omega), h.low.trans ⟨hg.os, hg.tape, hg.output, hg.size, fun b hb => hg.block b (Nat.lt_of_lt_of_le hb ?_) (fun e => by obtain ⟨h1, -⟩ := hr b e.symm; omega)⟩⟩
  have := (Array.getElem?_eq_some_iff.1 h.c10).1
  omega
/-- The three variables' blocks. -/
def X3 (s0 b : Nat) : Prop := b = s0 ∨ b = s0 + 1 ∨ b = s0 + 2
theorem LI.nob {w10 W : World} {s0 d f : Nat} {pre : List Row} (h : LI w10 s0 d f pre W) : ∀ b, X3 s0 b → NoB W b := by
  rintro b (rfl | rfl | rfl)
  · exact noB_cells h.c10 (by simp)
  · exact noB_cells h.c11 (by simp)
  · exact noB_cells h.c12 (by simp)
theorem LI.kp {w10 W W' : World} {s0 d f : Nat} {pre : List Row} (h : LI w10 s0 d f pre W') (hs : W.heap.size ≤ W'.heap.size) (hk : ∀ b, b < W.heap.size → ¬ X3 s0 b → W'.heap[b]? = W.heap[b]?) : Kp (X3 s0) W W' :=
  ⟨hs, fun b o hb hx _ => (hk b (Array.getElem?_eq_some_iff.1 hb).1 hx).trans hb, fun b hx _ _ => h.nob b hx⟩
theorem set_two {W : World} {a b : Nat} (hne : a ≠ b) {t u : TypeId} {x y x' y' : Value} (ha : W.heap[a]? = some (.cells #[x] t (0, 0))) (hb : W.heap[b]? = some (.cells #[y] u (0, 0))) :
    ((W.setCell ⟨a, 0, none⟩ x').setCell ⟨b, 0, none⟩ y').heap[a]? = some (.cells #[x'] t (0, 0)) ∧ ((W.setCell ⟨a, 0, none⟩ x').setCell ⟨b, 0, none⟩ y').heap[b]? = some (.cells #[y'] u (0, 0)) ∧ ∀ k, k ≠ a → k ≠ b → ((W.setCell ⟨a, 0, none⟩ x').setCell ⟨b, 0, none⟩ y').heap[k]? = W.heap[k]? := by
  have h1 : (W.setCell ⟨a, 0, none⟩ x').heap[a]? = some (.cells #[x'] t (0, 0)) := (blk_set ha 0 x').trans rfl
  have h2 : (W.setCell ⟨a, 0, none⟩ x').heap[b]? = some (.cells #[y] u (0, 0)) := (Below.heap_setCell W ⟨a, 0, none⟩ x' b (fun e => hne e.symm)).trans hb
  refine ⟨(Below.heap_setCell _ ⟨b, 0, none⟩ y' a hne).trans h1, (blk_set h2 0 y').trans rfl, fun k hk1 hk2 => (Below.heap_setCell _ ⟨b, 0, none⟩ y' k hk2).trans (Below.heap_setCell W ⟨a, 0, none⟩ x' k hk1)⟩
theorem LI.step {w10 W : World} {s0 d f : Nat} {pre : List Row} (h : LI w10 s0 d f pre W) (x : Row) :
    LI w10 s0 (d + 1) f (pre ++ [x]) ((W.setCell ⟨s0 + 1 + 1, 0, none⟩ (.string x.1)).setCell ⟨s0, 0, none⟩ (.int .i64 ((d : Int) + 1))) ∧
    LI w10 s0 d (f + 1) (pre ++ [x]) ((W.setCell ⟨s0 + 1 + 1, 0, none⟩ (.string x.1)).setCell ⟨s0 + 1, 0, none⟩ (.int .i64 ((f : Int) + 1))) := by
  have hl : Wm.lastT (pre ++ [x]) = x.1 := lastT_snoc pre x
  have hlen : (pre ++ [x]).length = pre.length + 1 := by simp
  have hs := h.sum
  constructor
  · obtain ⟨a1, a2, a3⟩ := set_two (x' := .string x.1) (y' := .int .i64 ((d : Int) + 1)) (show s0 + 1 + 1 ≠ s0 by omega) h.c12 h.c10
    exact ⟨by omega, a2, (a3 (s0 + 1) (by omega) (by omega)).trans h.c11, by rw [hl]; exact a1, (h.low.setCell (by show s0 ≤ s0 + 1 + 1; omega) _).setCell (Nat.le_refl _) _⟩
  · obtain ⟨a1, a2, a3⟩ := set_two (x' := .string x.1) (y' := .int .i64 ((f : Int) + 1)) (show s0 + 1 + 1 ≠ s0 + 1 by omega) h.c12 h.c11
    exact ⟨by omega, (a3 s0 (by omega) (by omega)).trans h.c10, a2, by rw [hl]; exact a1, (h.low.setCell (by show s0 ≤ s0 + 1 + 1; omega) _).setCell (by show s0 ≤ s0 + 1; omega) _⟩
theorem heap_two {W : World} {a b k : Nat} {x' y' : Value} (h1 : k ≠ a) (h2 : k ≠ b) : ((W.setCell ⟨a, 0, none⟩ x').setCell ⟨b, 0, none⟩ y').heap[k]? = W.heap[k]? :=
  (Below.heap_setCell _ ⟨b, 0, none⟩ y' k h2).trans (Below.heap_setCell W ⟨a, 0, none⟩ x' k h1)
set_option maxHeartbeats 4000000 in
set_option maxRecDepth 1000000 in
theorem lists_walk (A : Option Addr) (c : Nat) (l : List O) (q : Int) (W0 : World) (hq : W0.cell? ⟨0, 0, none⟩ = some (.int .i64 q)) (hl : RdO W0 A l) : Calls Tryd.prog 8 #[.slice A l.length c] W0 fun e w' => e = .returned (.bool true) ∧ Below W0.heap.size W0 w' := by
  have HKN := Lib.hid (fun W (hb : Below W0.heap.size W0 W) => known_any W q (keepC hb hq))
  have HFEW := Lib.hid (fun W (hb : Below W0.heap.size W0 W) => few_any A c l W (hl.below hb))
  have HN := Lib.hid (fun W (hb : Below W0.heap.size W0 W) => (show Calls Tryd.prog 11 #[.int .i64 300, .int .i64 80] W fun e w' => ∃ tb', e = .returned (.tuple #[.pointer (some ⟨tb', 0, none⟩), .int .i64 0]) ∧ At w' W.heap.size tb' q ⟨rootA, 300, 79⟩ 0 ∧ Below W.heap.size W w' from new_at (w := W) (q := q) (n := 300) (i := 79) (keepC hb hq) (by omega) (by omega)))
  have HL := Lib.hid hl
  obtain ⟨n, hn⟩ : ∃ n, l.length = n := ⟨_, rfl⟩
  rw [hn] at HFEW ⊢
  have HLEN := Lib.hid hn
  clear hq hl hn
  refine (callsIn_wide (n := 5)).1 ?_
  refine callsIn_of_wp_marks Tryd.func8 rfl trivial ?_ rfl
  simp only [Tryd.ntmps8, List.size_toArray, List.length_cons, List.length_nil, Nat.reduceAdd, Nat.reduceSub, Array.replicate_succ, Array.replicate_zero, List.push_toArray, List.append_toArray, List.nil_append, List.cons_append]
  refine (wpIn_wide (n := 5)).2 ?_
  have hz := balloc W0 (.cells #[.bool false] 4)
  have HZ := Lib.hid hz
  have HZ1 := Lib.hid (Go.heap_alloc_new W0 (.cells #[.bool false] 4))
  clear hz
  go_wp2_with fail
  refine (HKN.out _ HZ.out).mono ?_
  rintro e w1 ⟨rfl, hb⟩
  have HB1 := Lib.hid (HZ.out.trans (hb.mono HZ.out.size))
  have hu1 : w1.heap[W0.heap.size]? = some (.cells #[.bool false] 4 (0, 0)) := (hb.block _ (by simp)).trans HZ1.out
  have HU1 := Lib.hid hu1
  clear hb hu1
  go_wp2_with fail
  refine (HFEW.out _ HB1.out).mono ?_
  rintro e w2 ⟨r, rfl, hb, hP⟩
  have hu2 : w2.heap[W0.heap.size]? = some (.cells #[.bool false] 4 (0, 0)) := (hb.block _ (Array.getElem?_eq_some_iff.1 HU1.out).1).trans HU1.out
  have HB2 := Lib.hid (bt HB1.out hb)
  have HP := Lib.hid hP
  have HU2 := Lib.hid hu2
  have r2 := blk_cell hu2 0
  have fr2 := blk_frozen hu2 0
  clear hb hP hu2
  cases r
  · go_wp2
    exact leave8 rfl (blk_cell (blk_set HU2.out 0 (.bool true)) 0) ⟨rfl, HB2.out.trans ((Below.refl W0.heap.size w2).setCell (Nat.le_refl _) _)⟩
  have HF := Lib.hid (HP.out rfl)
  clear r2 fr2
  go_wp2_with fail
  refine (HN.out _ HB2.out).mono ?_
  rintro e w3 ⟨tb', rfl, ha, hb⟩
  obtain ⟨es0, n0, i0, ha0⟩ := AtL.of ha
  have HA := Lib.hid ha0
  have HB3 := Lib.hid hb
  have HL2 := Lib.hid (HL.out.below HB2.out)
  clear ha ha0 hb
  go_wp2_with fail
  go_loopw [5] (fun i wr => ∃ (k : Nat) (es : Es) (n1 i1 : Nat), i = .int .i64 k ∧ k ≤ n ∧ Hid (AtL wr w2.heap.size tb' q es n1 i1 k) ∧ Hid (Below w2.heap.size w2 wr)) (fun i _ => n - (intOf i).toNat)
  case atStart => exact ⟨0, es0, n0, i0, rfl, by omega, HA, HB3⟩
  case round =>
    clear HA
    obtain ⟨k, es, n1, i1, rfl, hk, HA, HW⟩ := hrel
    have hn150 : n ≤ 150 := by have := HF.out.1; rw [HLEN.out] at this; omega
    by_cases hlt : k < n
    · have j1 : (k : Int) < n := by omega
      obtain ⟨x, hx⟩ : ∃ x, l[k]? = some x := ⟨l[k]'(by rw [HLEN.out]; exact hlt), List.getElem?_eq_getElem _⟩
      obtain ⟨b, o, rfl, hop⟩ := rdO_at HL2.out hx
      have HDL := Lib.hid (HF.out.2 x (List.mem_of_getElem? hx))
      obtain ⟨g0, g1, g2, ⟨D, dc, g3, hrd⟩, g4⟩ := hop.below HW.out
      have hdo := do_any q x D dc HA.out.st (by omega) HA.out.q hrd (by have := HDL.out; omega)
      unfold opV at hdo
      have HDO := Lib.hid hdo
      clear hrd hdo hx hop
      go_wp2_with fail
      refine HDO.out.mono ?_
      rintro e w6 ⟨rfl, es', n', i', a1, a2, a3, a4, a5⟩
      have HA6 := Lib.hid (show AtL w6 w2.heap.size tb' q es' n' i' (k + 1) from ⟨HA.out.pos, (a3.low.cell (p := ⟨0, 0, none⟩) HA.out.pos).trans HA.out.q, a1, by rw [a4]; exact HA.out.sum⟩)
      have HB6 := Lib.hid (HW.out.trans a3.low)
      clear a1 a2 a3 a4 a5
      go_wp2_with fail
      go_roundw
      · exact ⟨k + 1, es', n', i', by go_num, hlt, HA6, HB6⟩
      · simp [intOf]; omega
    · have j1 : ¬ (k : Int) < n := by omega
      obtain ⟨rt, hlk, hrt, hrd⟩ := lk_root HA.out.st
      have hls := list_any q ⟨#[47]⟩ HA.out.st (by omega) HA.out.q
      rw [hlk] at hls
      have hN := HA.out.st.ok hrt
      have hnl := names_len hN hrd
      have hls2 : lsE (some rt, 0) = (namesL rt, 0) := by unfold lsE; simp [hrd]
      rw [hls2] at hls
      obtain ⟨NL, hNL⟩ : ∃ NL, namesL rt = NL := ⟨_, rfl⟩
      have hpw := (names_facts hN hrd).2.2
      rw [hNL] at hls hnl hpw
      obtain ⟨z, hz⟩ : ∃ z, NL.length = z := ⟨_, rfl⟩
      have hst := fun W (hb : Below wr.heap.size wr W) => stat_any q ⟨#[47]⟩ (HA.out.st.below hb) (keepC hb HA.out.q)
      rw [hlk] at hst
      have hinf : (stE (some rt, 0)) = (.agg #[.bool true, .int .i64 rt.data.length, .int .i64 z], 0) := by unfold stE infoV kidsN; simp [hrd, ← hnl, hz]
      rw [hinf] at hst
      have HLS := Lib.hid hls
      have HST := Lib.hid hst
      have HPW := Lib.hid hpw
      have HZL := Lib.hid hz
      have hzb : z ≤ 10000 := by rw [← hz, hnl]; have := (HA.out.st.limp hrt).2.2; omega
      clear hls hst hpw hlk hN hnl hls2 hinf hNL
      go_wp2_with fail
      refine HLS.out.mono ?_
      rintro e w7 ⟨AL, cL, rfl, hrs, hb⟩
      rw [HZL.out]
      have HRS := Lib.hid hrs
      have HB7 := Lib.hid hb
      clear hrs hb
      go_wp2_with fail
      refine (HST.out _ HB7.out).mono ?_
      rintro e w8 ⟨rfl, hb⟩
      have HB8 := Lib.hid (HB7.out.trans (hb.mono HB7.out.size))
      have HRS8 := Lib.hid (HRS.out.below hb)
      clear hb
      go_wp2_with fail
      have hwk : ∀ W, Below w8.heap.size w8 W → Calls Tryd.prog 20 #[.pointer (some ⟨tb', 0, none⟩)] W (WalkPost W es) := fun W hb => walk_any (HA.out.st.below (HB8.out.trans (hb.mono HB8.out.size))) (by omega) (by have := HA.out.sum; omega)
      have hbX : Below w8.heap.size w8 ((((w8.alloc (.cells #[.bool true, .int .i64 rt.data.length, .int .i64 z] 40)).alloc (.cells #[.int .i64 0] 3)).alloc (.cells #[.int .i64 0] 3)).alloc (.cells #[.string ⟨#[]⟩] 9)) := (((balloc w8 _).alloc (by simp) _).alloc (by simp; omega) _).alloc (by simp; omega) _
      refine (hwk _ hbX).mono ?_
      rintro e w10 ⟨nb, bt, fs, R, rfl, hcb, hwok, hRl, hb10⟩
      obtain ⟨w9, hw9⟩ : ∃ w9, (((w8.alloc (.cells #[.bool true, .int .i64 rt.data.length, .int .i64 z] 40)).alloc (.cells #[.int .i64 0] 3)).alloc (.cells #[.int .i64 0] 3)).alloc (.cells #[.string ⟨#[]⟩] 9) = w9 := ⟨_, rfl⟩
      obtain ⟨s0, hs0⟩ : ∃ s0, w8.heap.size + 1 = s0 := ⟨_, rfl⟩
      rw [hw9] at hbX hwok hb10
      have hs9 : w9.heap.size = s0 + 3 := by rw [← hw9, ← hs0]; simp
      have c10 : w9.heap[s0]? = some (.cells #[.int .i64 0] 3 (0, 0)) := by
        rw [← hw9]
        have h1 := Go.heap_alloc_new (w8.alloc (.cells #[.bool true, .int .i64 rt.data.length, .int .i64 z] 40)) (.cells #[.int .i64 0] 3)
        rw [World.size_alloc, hs0] at h1
        exact blk_alloc (blk_alloc h1 _) _
      have c11 : w9.heap[s0 + 1]? = some (.cells #[.int .i64 0] 3 (0, 0)) := by
        rw [← hw9]
        have h1 := Go.heap_alloc_new ((w8.alloc (.cells #[.bool true, .int .i64 rt.data.length, .int .i64 z] 40)).alloc (.cells #[.int .i64 0] 3)) (.cells #[.int .i64 0] 3)
        rw [World.size_alloc, World.size_alloc, hs0] at h1
        exact blk_alloc h1 _
      have c12 : w9.heap[s0 + 2]? = some (.cells #[.string ⟨#[]⟩] 9 (0, 0)) := by
        rw [← hw9]
        have h1 := Go.heap_alloc_new (((w8.alloc (.cells #[.bool true, .int .i64 rt.data.length, .int .i64 z] 40)).alloc (.cells #[.int .i64 0] 3)).alloc (.cells #[.int .i64 0] 3)) (.cells #[.string ⟨#[]⟩] 9)
        rw [World.size_alloc, World.size_alloc, World.size_alloc, hs0] at h1
        exact h1
      rw [hs9] at hwok
      have C10 := Lib.hid ((hb10.block s0 (by rw [hs9]; omega)).trans c10)
      have C11 := Lib.hid ((hb10.block (s0 + 1) (by rw [hs9]; omega)).trans c11)
      have C12 := Lib.hid ((hb10.block (s0 + 2) (by rw [hs9]; omega)).trans c12)
      have HWOK := Lib.hid hwok
      have HCB := Lib.hid hcb
      have HRL := Lib.hid hRl
      have HBX := Lib.hid (hbX.trans (hb10.mono (by rw [hs9, ← hs0]; omega)))
      have HSZ := Lib.hid (show s0 + 3 ≤ w10.heap.size by have := hb10.size; rw [hs9] at this; exact this)
      clear hwk hbX hcb hwok hRl hb10 hw9 hs9 c10 c11 c12
      go_wp2_with fail
      have hR80 : R.length ≤ 80 := by have := HRL.out; have := HA.out.sum; omega
      have hli0 : LI w10 s0 0 0 [] w10 := ⟨rfl, C10.out, C11.out, C12.out, Below.refl _ _⟩
      have hstops := walk_stops (n := 4) HWOK.out HCB.out (X := X3 s0) (fun b hb => by rcases hb with rfl | rfl | rfl <;> omega) hli0.nob
      have hb2s : W0.heap.size < s0 := by
        have h1 := (Array.getElem?_eq_some_iff.1 HU2.out).1
        have h2 := HW.out.size
        have h3 := HB8.out.size
        omega
      have hu10 : w10.heap[W0.heap.size]? = some (.cells #[.bool false] 4 (0, 0)) := by
        have h1 := (Array.getElem?_eq_some_iff.1 HU2.out).1
        have h2 := HW.out.size
        have h3 := HB8.out.size
        exact (HBX.out.block _ (by omega)).trans ((HB8.out.block _ (by omega)).trans ((HW.out.block _ h1).trans HU2.out))
      have HB2S := Lib.hid hb2s
      have HU10 := Lib.hid hu10
      clear hu10 hb2s
      refine (wpIn_wide (n := 5)).1 ?_
      refine act_name (Φ := fun a => Code.wpIn Fence.wide 5 Tryd.prog _ _ a _) ?_
      intro T hT
      dsimp only at hT ⊢
      refine wpIn_rangeFunc_ownH rfl (by omega) (gf := 31) (lb := #[.pointer (some ⟨bt, 0, none⟩)]) (by rw [hT]; rfl) trivial (enters_of Tryd.func31 (by kernel_rfl) rfl) hstops (fun h k => Kp.trans h k) ?hKb (Below.refl _ _) (fun x => rfl)
        (fun pre W => ∃ d f, LI w10 s0 d f pre W) (fun _ pre _ => ∃ (pre0 : List Row) (x : Row), pre = pre0 ++ [x] ∧ x.1 = Wm.lastT pre0) (LI.own HSZ.out) (fun _ _ _ _ _ h _ _ => h) ⟨0, 0, hli0⟩
        (fun x a' W => ∃ b14, w10.heap.size ≤ b14 ∧ W.heap[b14]? = some (.cells #[.bool x.2.dir, .int .i64 x.2.data.length, .int .i64 x.2.k] 40 (0, 0)) ∧ a' = ⟨(((T.setIfInBounds 69 (.string x.1)).setIfInBounds 70 (.agg #[.bool x.2.dir, .int .i64 x.2.data.length, .int .i64 x.2.k])).setIfInBounds 13 (.string x.1)).setIfInBounds 14 (.pointer (some ⟨b14, 0, none⟩)), []⟩) ?hAx ?assign ?body ?done ?stop
      case hKb =>
        intro W l' o o' hl hlo ho hwk
        refine ⟨by simp [World.putObj], fun b ob hb hx hob => ?_, fun b hx hb hn => ?_⟩
        · by_cases e : b = l'
          · subst e
            rw [hlo] at hb
            cases hb
            rw [ho, hwk] at hob
            simp at hob
          · exact (World.putObj_heap_other e).trans hb
        · have hne : b ≠ l' := by
            have := HSZ.out
            rcases hx with rfl | rfl | rfl <;> omega
          exact nob_heap (World.putObj_heap_other hne) hn
      case hAx =>
        rintro x a' u W W' row ⟨b14, h1, h2, h3⟩ hg hr
        refine ⟨b14, h1, (hg.block b14 (Array.getElem?_eq_some_iff.1 h2).1 (fun e => ?_)).trans h2, h3⟩
        obtain ⟨-, o, ho, hc⟩ := hr b14 e.symm
        rw [h2] at ho
        cases ho
        cases hc
      case assign =>
        intro l' pre x W K hI hK
        have hsem := @Oper.semAt_some
        have hkf := fun a' (h : a' = _) => hK a' _ ((KeepsOthers.alloc W (.cells #[.bool x.2.dir, .int .i64 x.2.data.length, .int .i64 x.2.k] 40)).from _) (Kp.below (balloc W _))
          ((LI.own HSZ.out).alloc _ hI) ⟨W.heap.size, by obtain ⟨d, f, h⟩ := hI; exact h.low.size, Go.heap_alloc_new _ _, h⟩
        have HKF := Lib.hid hkf
        have HT := Lib.hid hT
        clear hK hkf
        rw [hT]
        obtain ⟨bd, hbd⟩ : ∃ bd, x.2.dir = bd := ⟨_, rfl⟩
        simp only [encR]
        gi_wp2
        rw [← hbd]
        exact HKF.out _ (by rw [HT.out]; rfl)
      case body =>
        rintro l' pre x a' W hl' hrec ⟨d, f, hli⟩ ⟨b14, hb14, hc14, rfl⟩ hlen
        have hsem := @Oper.semAt_some
        have hlt : pre.length < R.length := hlen
        have hd80 : d ≤ 80 ∧ f ≤ 80 := by have := hli.sum; omega
        have HLI := Lib.hid hli
        have k12 : W.cell? ⟨s0 + 1 + 1, 0, none⟩ = some (.string (Wm.lastT pre)) := blk_cell hli.c12 0
        have k10 : W.cell? ⟨s0, 0, none⟩ = some (.int .i64 d) := blk_cell hli.c10 0
        have k11 : W.cell? ⟨s0 + 1, 0, none⟩ = some (.int .i64 f) := blk_cell hli.c11 0
        have f12 : W.frozen? ⟨s0 + 1 + 1, 0, none⟩ = false := blk_frozen hli.c12 0
        have f10 : W.frozen? ⟨s0, 0, none⟩ = false := blk_frozen hli.c10 0
        have f11 : W.frozen? ⟨s0 + 1, 0, none⟩ = false := blk_frozen hli.c11 0
        have hu : W.heap[W0.heap.size]? = some (.cells #[.bool false] 4 (0, 0)) := (hli.low.block _ HB2S.out).trans HU10.out
        have kr : W.cell? ⟨W0.heap.size, 0, none⟩ = some (.bool false) := blk_cell hu 0
        have fr : W.frozen? ⟨W0.heap.size, 0, none⟩ = false := blk_frozen hu 0
        have k14 : W.cell? ⟨b14, 0, none⟩ = some (.bool x.2.dir) := blk_cell hc14 0
        have n14 : b14 ≠ s0 + 1 + 1 := by have := HSZ.out; omega
        have HT := Lib.hid hT
        obtain ⟨lt, hlt'⟩ : ∃ lt, Wm.lastT pre = lt := ⟨_, rfl⟩
        rw [hlt'] at k12
        obtain ⟨xt, hxt⟩ : ∃ xt, x.1 = xt := ⟨_, rfl⟩
        rw [hxt]
        have HE := Lib.hid (show x.1 = xt ∧ Wm.lastT pre = lt from ⟨hxt, hlt'⟩)
        rw [hT]
        simp only [List.setIfInBounds_toArray, List.set_cons_succ, List.set_cons_zero]
        clear hli hu hlt' hxt hT hlen hrec hl'
        by_cases he : xt = lt
        · subst he
          gi_wp2
          exact ⟨(KeepsOthers.setCell _ _ _).from _, pre, x, rfl, by rw [HE.out.1, HE.out.2]⟩
        · have he' : (xt.toList == lt.toList) = false := by rw [beq_text]; exact decide_eq_false he
          obtain ⟨bd, hbd⟩ : ∃ bd, x.2.dir = bd := ⟨_, rfl⟩
          rw [hbd] at k14
          clear hbd hc14
          obtain ⟨p1, p2⟩ := HLI.out.step x
          rw [HE.out.1] at p1 p2
          have P1 := Lib.hid p1
          have P2 := Lib.hid p2
          clear p1 p2
          cases bd
          · gi_wp2
            exact ⟨((KeepsOthers.setCell _ _ _).trans (KeepsOthers.setCell _ _ _)).from _, P2.out.kp (by simp [World.setCell]) (fun b _ hx => heap_two (fun e => hx (.inr (.inr e))) (fun e => hx (.inr (.inl e)))), d, f + 1, P2.out⟩
          · gi_wp2
            exact ⟨((KeepsOthers.setCell _ _ _).trans (KeepsOthers.setCell _ _ _)).from _, P1.out.kp (by simp [World.setCell]) (fun b _ hx => heap_two (fun e => hx (.inr (.inr e))) (fun e => hx (.inl e))), d + 1, f, P1.out⟩
      case stop =>
        rintro D c' pre W _ hsp ⟨pre0, x, rfl, hx⟩ _
        exact absurd hx (HWOK.out.apart pre0 x hsp)
      case done =>
        rintro D xs W hD rfl ⟨d, f, hli⟩ hdef
        subst hT
        dsimp only
        have HLI := Lib.hid hli
        have HDEF := Lib.hid hdef
        have hW8 : Below w8.heap.size w8 W := HBX.out.trans (hli.low.mono (by omega))
        have HW8 := Lib.hid hW8
        have HRSW := Lib.hid (HRS8.out.below hW8)
        clear hli hdef hW8
        go_wp2_with fail
        go_loopw [15] (fun i wr2 => ∃ j : Nat, i = .int .i64 ((j : Int) + 1) ∧ (j = 0 ∨ j < z) ∧ Hid (Below W.heap.size W wr2)) (fun i _ => z - (intOf i).toNat)
        case atStart => exact ⟨0, by go_num, .inl rfl, Lib.hid (Below.refl _ _)⟩
        case round =>
          obtain ⟨j, rfl, hj, HWR⟩ := hrel
          by_cases hlt2 : j + 1 < z
          · have j2 : (j : Int) + 1 < z := by omega
            have hpair : ∃ a b, NL[j]? = some a ∧ NL[j + 1]? = some b ∧ a < b := by
              have h1 : j < NL.length := by rw [HZL.out]; omega
              have h2 : j + 1 < NL.length := by rw [HZL.out]; omega
              exact ⟨NL[j], NL[j + 1], List.getElem?_eq_getElem h1, List.getElem?_eq_getElem h2, List.pairwise_iff_getElem.1 HPW.out j (j + 1) h1 h2 (by omega)⟩
            obtain ⟨a, b, ha, hb, hab⟩ := hpair
            obtain ⟨g, o, rfl, hcell⟩ : ∃ g o, AL = some ⟨g, o, none⟩ ∧ ∀ k x, (NL.map Qa.tb)[k]? = some x → W.cell? ⟨g, o + k, none⟩ = some (.string x) := by
              rcases HRSW.out with h | h
              · have : NL = [] := List.map_eq_nil_iff.1 h
                rw [this] at ha; simp at ha
              · exact h
            have k1 := keepC HWR.out (hcell j (Qa.tb a) (by rw [List.getElem?_map, ha]; rfl))
            have k2 := keepC HWR.out (hcell (j + 1) (Qa.tb b) (by rw [List.getElem?_map, hb]; rfl))
            have hless : Op.bytesLess (Qa.tb a).toList (Qa.tb b).toList = true := by
              rw [bytesLess_eq, ByteArray.toList_eq, ByteArray.toList_eq, tb_data, tb_data]
              exact decide_eq_true hab
            have ws : IntKind.i64.wrap ((j : Int) + 1 - 1) = (j : Int) := by rw [IntKind.wrap_i64]; omega
            have jz : (j : Int) < z := by omega
            have ws2 : IntKind.i64.wrap (j : Int) = (j : Int) := by rw [IntKind.wrap_i64]; omega
            have jp : (0 : Int) ≤ (j : Int) + 1 := by omega
            have jt : ((j : Int) + 1).toNat = j + 1 := by omega
            clear ha hb hab hcell
            go_wp2_with fail
            have hS0 : wr.cell? ⟨g, o + j, none⟩ = some (.string (Qa.tb a)) ∧ wr.cell? ⟨g, o + (j + 1), none⟩ = some (.string (Qa.tb b)) := ⟨k1, k2⟩
            have hS1 : wr.drew.cell? ⟨g, o + j, none⟩ = some (.string (Qa.tb a)) ∧ wr.drew.cell? ⟨g, o + (j + 1), none⟩ = some (.string (Qa.tb b)) := ⟨k1, k2⟩
            have HS0 := Lib.hid hS0
            have HS1 := Lib.hid hS1
            clear hS0 hS1 k1 k2
            go_region_held3 (fun W' => W'.cell? ⟨g, o + j, none⟩ = some (.string (Qa.tb a)) ∧ W'.cell? ⟨g, o + (j + 1), none⟩ = some (.string (Qa.tb b))) (first | exact HS1.out | exact HS0.out | fail) (fail)
            go_wp2_with fail
            go_roundw
            · exact ⟨j + 1, by go_num, .inr hlt2, Lib.hid (HWR.out.trans ((Below.refl _ _).drew))⟩
            · simp [intOf]; omega
          · have j2 : ¬ (j : Int) + 1 < z := by omega
            have hst := (HA.out.st.below (HB8.out.trans (HW8.out.mono HB8.out.size))).below HWR.out
            obtain ⟨rt2, -, htre⟩ := hst.tre
            have HFR := Lib.hid (Qf.free_any htre)
            have hsum := HLI.out.sum
            have hi1 : (i1 : Int) = 79 - (d : Int) - (f : Int) := by have := HA.out.sum; have := HRL.out; omega
            have hR : d ≤ 80 ∧ f ≤ 80 := by omega
            rw [hi1] at HFR
            clear hst htre hi1
            go_wp2_with fail
            refine HFR.out.mono ?_
            rintro e w13 ⟨rfl, hb13⟩
            have hbW : Below W.heap.size W w13 := HWR.out.trans (hb13.mono HWR.out.size)
            have HBW := Lib.hid hbW
            have k10 : w13.cell? ⟨s0, 0, none⟩ = some (.int .i64 d) := blk_cell ((hbW.block _ (Array.getElem?_eq_some_iff.1 HLI.out.c10).1).trans HLI.out.c10) 0
            have k11 : w13.cell? ⟨s0 + 1, 0, none⟩ = some (.int .i64 f) := blk_cell ((hbW.block _ (Array.getElem?_eq_some_iff.1 HLI.out.c11).1).trans HLI.out.c11) 0
            have huW : W.heap[W0.heap.size]? = some (.cells #[.bool false] 4 (0, 0)) := (HLI.out.low.block _ HB2S.out).trans HU10.out
            have hu13 : w13.heap[W0.heap.size]? = some (.cells #[.bool false] 4 (0, 0)) := (hbW.block _ (Array.getElem?_eq_some_iff.1 huW).1).trans huW
            have kr : w13.cell? ⟨W0.heap.size, 0, none⟩ = some (.bool false) := blk_cell hu13 0
            have fr : w13.frozen? ⟨W0.heap.size, 0, none⟩ = false := blk_frozen hu13 0
            have HU13 := Lib.hid hu13
            have w1' : IntKind.i64.wrap (79 - (d : Int)) = 79 - (d : Int) := by rw [IntKind.wrap_i64]; omega
            have w2' : IntKind.i64.wrap (79 - (d : Int) - (f : Int)) = 79 - (d : Int) - (f : Int) := by rw [IntKind.wrap_i64]; omega
            clear hb13 hbW huW hu13
            go_wp2_with fail
            have hDlt : D < W.heap.size := (Array.getElem?_eq_some_iff.1 HDEF.out).1
            have hDne : D ≠ W0.heap.size := by have := HB2S.out; have := HSZ.out; omega
            have hD13 : (w13.setCell ⟨W0.heap.size, 0, none⟩ (.bool true)).heap[D]? = some (.deferred (some [])) := (Below.heap_setCell w13 ⟨W0.heap.size, 0, none⟩ (.bool true) D hDne).trans ((HBW.out.block _ hDlt).trans HDEF.out)
            have hcr : ((w13.setCell ⟨W0.heap.size, 0, none⟩ (.bool true)).putObj D (.deferred none)).cell? ⟨W0.heap.size, 0, none⟩ = some (.bool true) :=
              blk_cell ((World.putObj_heap_other (fun e => hDne e.symm)).trans (blk_set HU13.out 0 (.bool true))) 0
            have hlow : Below W0.heap.size W0 ((w13.setCell ⟨W0.heap.size, 0, none⟩ (.bool true)).putObj D (.deferred none)) := by
              have h1 : Below W0.heap.size W0 W := ((((HB2.out.trans (HW.out.mono HB2.out.size)).trans (HB8.out.mono (by have := HB2.out.size; have := HW.out.size; omega))).trans (HBX.out.mono (by have := HB2.out.size; have := HW.out.size; have := HB8.out.size; omega)))).trans (HLI.out.low.mono (by have := HB2S.out; omega))
              have h2 := h1.trans (HBW.out.mono h1.size)
              have h3 : Below W0.heap.size W0 (w13.setCell ⟨W0.heap.size, 0, none⟩ (.bool true)) := h2.setCell (Nat.le_refl _) _
              exact h3.grown (grownBy_putObj' _ D (.deferred none)) (by have := HB2S.out; have := HSZ.out; have := (Array.getElem?_eq_some_iff.1 hD13).1; omega) (fun k e => by cases e; have := HB2S.out; have := HSZ.out; omega)
            exact ⟨by simp, .inl ⟨_, _, rfl, run_takeDeferred hD13, ⟨_, res8 rfl hcr, rfl, hlow⟩⟩⟩
end Go.Proofs.YtpdcjdangnfeiaaDoor.Ws
