/- A whole tree's twin. -/
import Derived.Test.YtpdcjdangnfeiaaDoorWg
namespace Go.Proofs.YtpdcjdangnfeiaaDoor.Wi
open Go Go.Maps Go.RowKit Go.Proofs.YtpdcjdangnfeiaaDoor.Pb Go.Proofs.YtpdcjdangnfeiaaDoor.PPth Go.Proofs.YtpdcjdangnfeiaaDoorW.PrintWords Go.Proofs.YtpdcjdangnfeiaaDoorW.PrintLast Go.Proofs.YtpdcjdangnfeiaaDoorW.PrintMore Go.Proofs.YtpdcjdangnfeiaaDoor.Ta Go.Proofs.YtpdcjdangnfeiaaDoor.Tb Go.Proofs.YtpdcjdangnfeiaaDoor.Tc Go.Proofs.YtpdcjdangnfeiaaDoor.Te Go.Proofs.YtpdcjdangnfeiaaDoor.Tf Go.Proofs.YtpdcjdangnfeiaaDoor.Qa Go.Proofs.YtpdcjdangnfeiaaDoor.Qb Go.Proofs.YtpdcjdangnfeiaaDoor.Qc Go.Proofs.YtpdcjdangnfeiaaDoor.Qd Go.Proofs.YtpdcjdangnfeiaaDoor.Qe Go.Proofs.YtpdcjdangnfeiaaDoor.Qf Go.Proofs.YtpdcjdangnfeiaaDoor.Ua Go.Proofs.YtpdcjdangnfeiaaDoor.Ub Go.Proofs.YtpdcjdangnfeiaaDoor.Uc Go.Proofs.YtpdcjdangnfeiaaDoor.Ud Go.Proofs.YtpdcjdangnfeiaaDoor.Ue Go.Proofs.YtpdcjdangnfeiaaDoor.Uf Go.Proofs.YtpdcjdangnfeiaaDoor.Ba Go.Proofs.YtpdcjdangnfeiaaDoor.Ug Go.Proofs.YtpdcjdangnfeiaaDoor.Uh Go.Proofs.YtpdcjdangnfeiaaDoor.Ui Go.Proofs.YtpdcjdangnfeiaaDoor.Uj Go.Proofs.YtpdcjdangnfeiaaDoor.Uk Go.Proofs.YtpdcjdangnfeiaaDoor.Ul Go.Proofs.YtpdcjdangnfeiaaDoor.Um Go.Proofs.YtpdcjdangnfeiaaDoor.Un Go.Proofs.YtpdcjdangnfeiaaDoor.Uo Go.Proofs.YtpdcjdangnfeiaaDoor.Up Go.Proofs.YtpdcjdangnfeiaaDoor.Uq Go.Proofs.YtpdcjdangnfeiaaDoor.Ur Go.Proofs.YtpdcjdangnfeiaaDoor.Us Go.Proofs.YtpdcjdangnfeiaaDoor.Ut Go.Proofs.YtpdcjdangnfeiaaDoor.Uu Go.Proofs.YtpdcjdangnfeiaaDoor.Uv Go.Proofs.YtpdcjdangnfeiaaDoor.Uw Go.Proofs.YtpdcjdangnfeiaaDoor.Ux Go.Proofs.YtpdcjdangnfeiaaDoor.Uy Go.Proofs.YtpdcjdangnfeiaaDoor.Uz Go.Proofs.YtpdcjdangnfeiaaDoor.Va Go.Proofs.YtpdcjdangnfeiaaDoor.Vb Go.Proofs.YtpdcjdangnfeiaaDoor.Vc Go.Proofs.YtpdcjdangnfeiaaDoor.Vd Go.Proofs.YtpdcjdangnfeiaaDoor.Ve Go.Proofs.YtpdcjdangnfeiaaDoor.Wa Go.Proofs.YtpdcjdangnfeiaaDoor.Wb Go.Proofs.YtpdcjdangnfeiaaDoor.Wc Go.Proofs.YtpdcjdangnfeiaaDoor.Wd Go.Proofs.YtpdcjdangnfeiaaDoor.We Go.Proofs.YtpdcjdangnfeiaaDoor.Wg
theorem twin_any {B : Nat} {es : Es} (hw : WfF (gp es)) (hl : ∀ p d, gp es p = some d → d.data.length ≤ 100000000 ∧ size d.D ≤ 1000000) : ∀ (k : Nat) (p : Path) (d : Sh), gp es p = some d → (∀ q s, gp es q = some s → q.length ≤ p.length + k) → ∀ W, Sto Tryd.prog 67 9 W B (es.map (·.2)) →
    Calls Tryd.prog 29 #[.pointer (some ⟨d.nb, 0, none⟩)] W (TwPost W es p) := by
  intro k
  induction k with
  | zero =>
    intro p d hg hk W hs
    by_cases hd : d.dir = true
    · refine twin_dir hs hw hg hd (hl p d hg).1 (hl p d hg).2 fun x t ht W2 _ => ?_
      have := hk _ _ ht
      rw [List.length_append, List.length_singleton] at this
      omega
    · exact twin_file (hs.ok d (List.mem_map.2 ⟨(p, d), gp_mem hg, rfl⟩)) hw hg (by simpa using hd) (hl p d hg).1
  | succ k ih =>
    intro p d hg hk W hs
    by_cases hd : d.dir = true
    · refine twin_dir hs hw hg hd (hl p d hg).1 (hl p d hg).2 fun x t ht W2 hs2 => ?_
      refine ih (p ++ [x]) t ht (fun q s hq => ?_) W2 hs2
      have := hk q s hq
      rw [List.length_append, List.length_singleton]
      omega
    · exact twin_file (hs.ok d (List.mem_map.2 ⟨(p, d), gp_mem hg, rfl⟩)) hw hg (by simpa using hd) (hl p d hg).1
theorem Tw.low {w : World} {B B' nb : Nat} {es fs : Es} {p : Path} (h : Tw w B' nb es p fs) (hB : B ≤ B') : Tw w B nb es p fs := ⟨Sto.low h.sto hB, h.nd, h.root, h.same, h.dr, h.file⟩
theorem Tw.below {w w' : World} {B nb : Nat} {es fs : Es} {p : Path} (h : Tw w B nb es p fs) (hb : Below w.heap.size w w') : Tw w' B nb es p fs := ⟨h.sto.below hb, h.nd, h.root, h.same, h.dr, h.file⟩
theorem tw_st {w w1 : World} {B B1 nb tb t2 n i m : Nat} {es fs : Es} (h : St w B tb es n i m) (t : Tw w1 B1 nb es [] fs) (ht : Tre w1 B1 t2 nb n i) : St w1 B1 t2 fs n i m ∧ absE fs = absE es := by
  have same : ∀ r, (gp fs r).map toN = (gp es r).map toN := fun r => by have := t.same r; rwa [List.nil_append] at this
  have to' : ∀ p s, gp fs p = some s → ∃ s0, gp es p = some s0 ∧ toN s0 = toN s := by
    intro p s hs
    have := same p
    rw [hs, Option.map_some] at this
    obtain ⟨s0, h1, h2⟩ := Option.map_eq_some_iff.1 this.symm
    exact ⟨s0, h1, h2⟩
  have from' : ∀ p s, gp es p = some s → ∃ s0, gp fs p = some s0 ∧ toN s0 = toN s := by
    intro p s hs
    have := same p
    rw [hs, Option.map_some] at this
    obtain ⟨s0, h1, h2⟩ := Option.map_eq_some_iff.1 this
    exact ⟨s0, h1, h2⟩
  have dir : ∀ (a b : Sh), toN a = toN b → a.dir = b.dir := fun a b e => congrArg N.dir e
  refine ⟨⟨t.sto, t.nd, ⟨?_, fun p x s hs => ?_, t.dr, fun p s hs => ?_⟩, ?_, fun e he => ?_, h.num⟩, funext same⟩
  · obtain ⟨r, h1, h2⟩ := h.wf.root
    obtain ⟨r0, h3, h4⟩ := from' _ _ h1
    exact ⟨r0, h3, (dir _ _ h4).trans h2⟩
  · obtain ⟨s0, h1, -⟩ := to' _ _ hs
    obtain ⟨d, h2, h3⟩ := h.wf.par p x s0 h1
    obtain ⟨d0, h4, h5⟩ := from' _ _ h2
    exact ⟨d0, h4, (dir _ _ h5).trans h3⟩
  · obtain ⟨s0, h1, -⟩ := to' _ _ hs
    exact h.wf.nm p s0 h1
  · obtain ⟨r, h1, h2⟩ := t.root
    exact ⟨r, h1, h2 ▸ ht⟩
  · obtain ⟨p, s⟩ := e
    have hg := mem_gp t.nd he
    obtain ⟨s0, h1, h2⟩ := to' _ _ hg
    have hl := h.limp h1
    have e1 : s0.slots = s.slots := congrArg N.slots h2
    have e2 : s0.data = s.data := congrArg N.data h2
    refine ⟨by rw [← e1]; exact hl.1, by rw [← e2]; exact hl.2.1, ?_⟩
    by_cases hd : s.dir = true
    · have e3 : (toN s0).k = (toN s).k := by rw [h2]
      unfold toN at e3
      dsimp only at e3
      rw [if_pos hd, if_pos ((dir _ _ h2).trans hd)] at e3
      rw [← e3]; exact hl.2.2
    · have := t.file (p, s) he (by simpa using hd)
      show size s.D ≤ m
      rw [show s.D = .map [] from this]
      exact Nat.zero_le _
section
variable {w : World} {B tb n i m : Nat} {es : Es}
/-- What Twin leaves. -/
def TwinPost (w : World) (es : Es) (n i m : Nat) (e : Ending) (w' : World) : Prop := ∃ t2 fs, e = .returned (.pointer (some ⟨t2, 0, none⟩)) ∧ St w' w.heap.size t2 fs n i m ∧ absE fs = absE es ∧ Below w.heap.size w w'
set_option maxHeartbeats 2000000 in
set_option maxRecDepth 100000 in
/-- (*Tree).Twin -/
theorem twin_st (h : St w B tb es n i m) (hm : m ≤ 2000) : Calls Tryd.prog 18 #[.pointer (some ⟨tb, 0, none⟩)] w (TwinPost w es n i m) := by
  obtain ⟨r, g1, ht⟩ := h.tre
  obtain ⟨k, hk⟩ := exists_bound es
  have hc : ∀ W, Below w.heap.size w W → Calls Tryd.prog 29 #[.pointer (some ⟨r.nb, 0, none⟩)] W fun e w' => ∃ nb fs, e = .returned (.pointer (some ⟨nb, 0, none⟩)) ∧ (Tw w' w.heap.size nb es [] fs ∧ Below w.heap.size w w') ∧ Below W.heap.size W w' := by
    intro W hb
    refine (twin_any h.wf (fun p d hd => by have := h.limp hd; exact ⟨by omega, by omega⟩) k [] r g1 (fun q s h => by have := hk q s h; simpa using this) W (h.sto.below hb)).mono ?_
    rintro e w' ⟨nb, fs, rfl, h1, h2⟩
    exact ⟨nb, fs, rfl, ⟨Tw.low h1 hb.size, hb.trans (h2.mono hb.size)⟩, h2⟩
  have c0 : w.cell? ⟨tb, 0, none⟩ = some (.pointer (some ⟨r.nb, 0, none⟩)) := blk_cell ht.2 0
  have c1 : w.cell? ⟨tb, 1, none⟩ = some (.int .i64 n) := blk_cell ht.2 1
  have c2 : w.cell? ⟨tb, 2, none⟩ = some (.int .i64 i) := blk_cell ht.2 2
  have HC := Lib.hid hc
  have H := Lib.hid h
  have HS := Lib.hid (show ∀ W, Below w.heap.size w W → (fun W : World => W.cell? ⟨tb, 0, none⟩ = some (.pointer (some ⟨r.nb, 0, none⟩)) ∧ W.cell? ⟨tb, 1, none⟩ = some (.int .i64 n) ∧ W.cell? ⟨tb, 2, none⟩ = some (.int .i64 i)) W from fun W hb => ⟨keepC hb c0, keepC hb c1, keepC hb c2⟩)
  clear hc h g1 ht hk
  go_enter Tryd.func18, Tryd.ntmps18
  go_wp2_with fail
  have HS0 := Lib.hid (kp0 (T := fun W : World => W.cell? ⟨tb, 0, none⟩ = some (.pointer (some ⟨r.nb, 0, none⟩)) ∧ W.cell? ⟨tb, 1, none⟩ = some (.int .i64 n) ∧ W.cell? ⟨tb, 2, none⟩ = some (.int .i64 i)) HS.out)
  go_region_held3 (fun W => Below w.heap.size w W ∧ W.cell? ⟨tb, 0, none⟩ = some (.pointer (some ⟨r.nb, 0, none⟩)) ∧ W.cell? ⟨tb, 1, none⟩ = some (.int .i64 n) ∧ W.cell? ⟨tb, 2, none⟩ = some (.int .i64 i)) (first | exact kpC (T := fun W : World => W.cell? ⟨tb, 0, none⟩ = some (.pointer (some ⟨r.nb, 0, none⟩)) ∧ W.cell? ⟨tb, 1, none⟩ = some (.int .i64 n) ∧ W.cell? ⟨tb, 2, none⟩ = some (.int .i64 i)) hb (by assumption) HS.out | exact kp1 (T := fun W : World => W.cell? ⟨tb, 0, none⟩ = some (.pointer (some ⟨r.nb, 0, none⟩)) ∧ W.cell? ⟨tb, 1, none⟩ = some (.int .i64 n) ∧ W.cell? ⟨tb, 2, none⟩ = some (.int .i64 i)) HS0.out HS.out | exact HS0.out | exact kpC (T := fun W : World => W.cell? ⟨tb, 0, none⟩ = some (.pointer (some ⟨r.nb, 0, none⟩)) ∧ W.cell? ⟨tb, 1, none⟩ = some (.int .i64 n) ∧ W.cell? ⟨tb, 2, none⟩ = some (.int .i64 i)) ((Below.refl _ _).alloc (Nat.le_refl _) _) (by assumption) HS.out | fail) (first | (go_at_call 29; refine (HC.out _ (And.left (by assumption))).mono ?_; rintro e w1 ⟨nb, fs, rfl, htw, hb⟩; have HTW := Lib.hid htw; clear htw) | fail)
  have hs2 : Below w.heap.size w (w1.alloc (.cells #[.pointer (some ⟨nb, 0, none⟩), .int .i64 n, .int .i64 i] 59)) := And.left (by assumption)
  have HS2 := Lib.hid hs2
  clear hs2
  go_wp2
  go_ret
  have hb1 := (Below.refl w1.heap.size w1).alloc (Nat.le_refl _) (.cells #[.pointer (some ⟨nb, 0, none⟩), .int .i64 n, .int .i64 i] 59)
  obtain ⟨a1, a2⟩ := tw_st (t2 := w1.heap.size) H.out (Tw.below HTW.out.1 hb1) ⟨HTW.out.2.size, Go.heap_alloc_new _ _⟩
  exact ⟨_, fs, rfl, a1, a2, HS2.out⟩
end
section
variable {w : World} {B tb m : Nat} {q : Int} {s : S}
/-- Twin, by plain trees. -/
theorem twin_at (h : At w B tb q s m) (hm : m ≤ 2000) : Calls Tryd.prog 18 #[.pointer (some ⟨tb, 0, none⟩)] w fun e w' => ∃ t2, e = .returned (.pointer (some ⟨t2, 0, none⟩)) ∧ At2 w' B tb s m w.heap.size t2 s m q ∧ Below w.heap.size w w' := by
  have hB := h.base
  obtain ⟨h0, hq, es, n, i, h1, rfl⟩ := h
  refine (twin_st h1 hm).mono ?_
  rintro e w' ⟨t2, fs, rfl, a1, a2, hb⟩
  refine ⟨t2, rfl, ⟨h0, by omega, keepC hb hq, es, n, i, fs, n, i, h1.below hb, rfl, a1, by rw [a2], fun b hb1 hb2 => ?_⟩, hb⟩
  have := (h1.bk hb1).1
  have := (a1.bk hb2).2.2
  omega
end
end Go.Proofs.YtpdcjdangnfeiaaDoor.Wi
