/- Two trees in memory, apart from each other: what Do, Same make of them. -/
import Derived.Test.YtpdcjdangnfeiaaDoorWd
namespace Go.Proofs.YtpdcjdangnfeiaaDoor.We
open Go Go.Maps Go.RowKit Go.Proofs.YtpdcjdangnfeiaaDoor.Pb Go.Proofs.YtpdcjdangnfeiaaDoor.PPth Go.Proofs.YtpdcjdangnfeiaaDoorW.PrintWords Go.Proofs.YtpdcjdangnfeiaaDoorW.PrintLast Go.Proofs.YtpdcjdangnfeiaaDoorW.PrintMore Go.Proofs.YtpdcjdangnfeiaaDoor.Ta Go.Proofs.YtpdcjdangnfeiaaDoor.Tb Go.Proofs.YtpdcjdangnfeiaaDoor.Tc Go.Proofs.YtpdcjdangnfeiaaDoor.Te Go.Proofs.YtpdcjdangnfeiaaDoor.Tf Go.Proofs.YtpdcjdangnfeiaaDoor.Qa Go.Proofs.YtpdcjdangnfeiaaDoor.Qb Go.Proofs.YtpdcjdangnfeiaaDoor.Qc Go.Proofs.YtpdcjdangnfeiaaDoor.Qd Go.Proofs.YtpdcjdangnfeiaaDoor.Qe Go.Proofs.YtpdcjdangnfeiaaDoor.Qf Go.Proofs.YtpdcjdangnfeiaaDoor.Ua Go.Proofs.YtpdcjdangnfeiaaDoor.Ub Go.Proofs.YtpdcjdangnfeiaaDoor.Uc Go.Proofs.YtpdcjdangnfeiaaDoor.Ud Go.Proofs.YtpdcjdangnfeiaaDoor.Ue Go.Proofs.YtpdcjdangnfeiaaDoor.Uf Go.Proofs.YtpdcjdangnfeiaaDoor.Ba Go.Proofs.YtpdcjdangnfeiaaDoor.Ug Go.Proofs.YtpdcjdangnfeiaaDoor.Uh Go.Proofs.YtpdcjdangnfeiaaDoor.Ui Go.Proofs.YtpdcjdangnfeiaaDoor.Uj Go.Proofs.YtpdcjdangnfeiaaDoor.Uk Go.Proofs.YtpdcjdangnfeiaaDoor.Ul Go.Proofs.YtpdcjdangnfeiaaDoor.Um Go.Proofs.YtpdcjdangnfeiaaDoor.Un Go.Proofs.YtpdcjdangnfeiaaDoor.Uo Go.Proofs.YtpdcjdangnfeiaaDoor.Up Go.Proofs.YtpdcjdangnfeiaaDoor.Uq Go.Proofs.YtpdcjdangnfeiaaDoor.Ur Go.Proofs.YtpdcjdangnfeiaaDoor.Us Go.Proofs.YtpdcjdangnfeiaaDoor.Ut Go.Proofs.YtpdcjdangnfeiaaDoor.Uu Go.Proofs.YtpdcjdangnfeiaaDoor.Uv Go.Proofs.YtpdcjdangnfeiaaDoor.Uw Go.Proofs.YtpdcjdangnfeiaaDoor.Ux Go.Proofs.YtpdcjdangnfeiaaDoor.Uy Go.Proofs.YtpdcjdangnfeiaaDoor.Uz Go.Proofs.YtpdcjdangnfeiaaDoor.Va Go.Proofs.YtpdcjdangnfeiaaDoor.Vb Go.Proofs.YtpdcjdangnfeiaaDoor.Vc Go.Proofs.YtpdcjdangnfeiaaDoor.Vd Go.Proofs.YtpdcjdangnfeiaaDoor.Ve Go.Proofs.YtpdcjdangnfeiaaDoor.Wa Go.Proofs.YtpdcjdangnfeiaaDoor.Wb Go.Proofs.YtpdcjdangnfeiaaDoor.Wc Go.Proofs.YtpdcjdangnfeiaaDoor.Wd
theorem st_other {w w' : World} {B tb n i m : Nat} {es : Es} {X : Nat → Prop} (h : St w B tb es n i m) (hf : Fr w w' X) (hX : ∀ b, X b → ¬ Bk tb es b) : St w' B tb es n i m := by
  obtain ⟨r, h1, h2⟩ := h.tre
  exact ⟨h.sto.fr hf (fun i hx s hs hb => hX i hx (.inr ⟨s, hs, hb⟩)), h.nd, h.wf, ⟨r, h1, Tre.keep h2 (hf.block tb (Tre.lt h2) (fun hx => hX tb hx (.inl rfl)))⟩, h.lim, h.num⟩
/-- Two trees, apart. -/
def At2 (w : World) (B1 t1 : Nat) (s1 : S) (m1 B2 t2 : Nat) (s2 : S) (m2 : Nat) (q : Int) : Prop :=
  0 < B1 ∧ 0 < B2 ∧ w.cell? ⟨0, 0, none⟩ = some (.int .i64 q) ∧ ∃ es1 n1 i1 es2 n2 i2, St w B1 t1 es1 n1 i1 m1 ∧ (⟨absE es1, n1, i1⟩ : S) = s1 ∧ St w B2 t2 es2 n2 i2 m2 ∧ (⟨absE es2, n2, i2⟩ : S) = s2 ∧ ∀ b, Bk t1 es1 b → ¬ Bk t2 es2 b
section
variable {w : World} {B1 t1 m1 B2 t2 m2 : Nat} {s1 s2 : S} {q : Int}
theorem At2.left (h : At2 w B1 t1 s1 m1 B2 t2 s2 m2 q) : At w B1 t1 q s1 m1 := by
  obtain ⟨p1, p2, hq, es1, n1, i1, es2, n2, i2, h1, e1, h2, e2, -⟩ := h
  exact ⟨p1, hq, es1, n1, i1, h1, e1⟩
theorem At2.symm (h : At2 w B1 t1 s1 m1 B2 t2 s2 m2 q) : At2 w B2 t2 s2 m2 B1 t1 s1 m1 q := by
  obtain ⟨p1, p2, hq, es1, n1, i1, es2, n2, i2, h1, e1, h2, e2, hd⟩ := h
  exact ⟨p2, p1, hq, es2, n2, i2, es1, n1, i1, h2, e2, h1, e1, fun b hb hb2 => hd b hb2 hb⟩
theorem At2.right (h : At2 w B1 t1 s1 m1 B2 t2 s2 m2 q) : At w B2 t2 q s2 m2 := h.symm.left
theorem At2.below {w' : World} (h : At2 w B1 t1 s1 m1 B2 t2 s2 m2 q) (hb : Below w.heap.size w w') : At2 w' B1 t1 s1 m1 B2 t2 s2 m2 q := by
  obtain ⟨p1, p2, hq, es1, n1, i1, es2, n2, i2, h1, e1, h2, e2, hd⟩ := h
  exact ⟨p1, p2, keepC hb hq, es1, n1, i1, es2, n2, i2, h1.below hb, e1, h2.below hb, e2, hd⟩
/-- Do on the one leaves the other. -/
theorem do_at2 (o : O) (D : Option Addr) (dc : Nat) (h : At2 w B1 t1 s1 m1 B2 t2 s2 m2 q) (hm : m1 ≤ 2000) (hD : RdB w D o.data) (hl : o.data.length ≤ 1000000) :
    Calls Tryd.prog 12 #[.pointer (some ⟨t1, 0, none⟩), opV o D dc] w fun e w' => e = .returned (.int .i64 (doE s1 o)) ∧ At2 w' B1 t1 (doS s1 o) (m1 + 1) B2 t2 s2 m2 q ∧ Below B1 w w' := by
  obtain ⟨p1, p2, hq, es1, n1, i1, es2, n2, i2, h1, rfl, h2, e2, hd⟩ := h
  refine (do_any q o D dc h1 hm hq hD hl).mono ?_
  rintro e w' ⟨rfl, es', n', i', a1, a2, a3, -, -⟩
  refine ⟨rfl, ⟨p1, p2, (a3.low.cell (p := ⟨0, 0, none⟩) p1).trans hq, es', n', i', es2, n2, i2, a1, a2, st_other h2 a3.fr hd, e2, fun b hb hb2 => ?_⟩, a3.low⟩
  rcases a3.new b hb with h3 | h3
  · exact hd b h3 hb2
  · have := (h2.bk hb2).1
    omega
end
def kdN (n : N) : Bool × List UInt8 := (n.dir, n.data)
/-- Alike. -/
def SA (a1 a2 : Path → Option N) : Prop := ∀ r, (a1 r).map kdN = (a2 r).map kdN
theorem SB_SA (es1 es2 : Es) : SB (gp es1) (gp es2) [] ↔ SA (absE es1) (absE es2) := by
  have e : ∀ (es : Es) r, (absE es r).map kdN = (gp es r).map kd := fun es r => by
    unfold absE
    rw [Option.map_map]; rfl
  unfold SB SA
  constructor
  · intro h r
    rw [e, e]
    exact h r
  · intro h r
    have := h r
    rw [e, e] at this
    exact this
section
open Classical
variable {w : World} {B1 t1 m1 B2 t2 m2 : Nat} {s1 s2 : S} {q : Int}
set_option maxHeartbeats 1000000 in
set_option maxRecDepth 100000 in
/-- Same. -/
theorem same_at2 (h : At2 w B1 t1 s1 m1 B2 t2 s2 m2 q) : Calls Tryd.prog 19 #[.pointer (some ⟨t1, 0, none⟩), .pointer (some ⟨t2, 0, none⟩)] w fun e w' => e = .returned (.bool (decide (SA s1.a s2.a))) ∧ At2 w' B1 t1 s1 m1 B2 t2 s2 m2 q ∧ Below w.heap.size w w' := by
  have H := Lib.hid h
  obtain ⟨p1, p2, hq, es1, n1, i1, es2, n2, i2, h1, rfl, h2, rfl, hd⟩ := h
  obtain ⟨r1, g1, T1⟩ := h1.tre
  obtain ⟨r2, g2, T2⟩ := h2.tre
  obtain ⟨k, hk⟩ := exists_bound es1
  have hc : ∀ W, Below w.heap.size w W → Calls Tryd.prog 30 #[.pointer (some ⟨r1.nb, 0, none⟩), .pointer (some ⟨r2.nb, 0, none⟩)] W fun e w' => e = .returned (.bool (decide (SA (absE es1) (absE es2)))) ∧ Below W.heap.size W w' := by
    intro W hb
    refine (same_any h1.sto.nd h2.sto.nd h1.wf h2.wf k [] r1 r2 g1 g2 (fun q s h => by have := hk q s h; simpa using this) W (h1.sto.below hb) (h2.sto.below hb)).mono ?_
    rintro e w' ⟨rfl, hg⟩
    refine ⟨?_, grown_below hg⟩
    rw [decide_eq_decide.2 (SB_SA es1 es2)]
  have c1 : w.cell? ⟨t1, 0, none⟩ = some (.pointer (some ⟨r1.nb, 0, none⟩)) := blk_cell T1.2 0
  have c2 : w.cell? ⟨t2, 0, none⟩ = some (.pointer (some ⟨r2.nb, 0, none⟩)) := blk_cell T2.2 0
  have HC := Lib.hid hc
  dsimp only at H ⊢
  generalize decide (SA (absE es1) (absE es2)) = R at HC ⊢
  clear hc hq h1 h2 hd g1 g2 T1 T2 hk
  go_enter Tryd.func19, Tryd.ntmps19
  go_wp2_with fail
  have HS := Lib.hid (show ∀ W, Below w.heap.size w W → (fun W : World => W.cell? ⟨t1, 0, none⟩ = some (.pointer (some ⟨r1.nb, 0, none⟩)) ∧ W.cell? ⟨t2, 0, none⟩ = some (.pointer (some ⟨r2.nb, 0, none⟩))) W from fun W hb => ⟨keepC hb c1, keepC hb c2⟩)
  have HS0 := Lib.hid (kp0 (T := fun W : World => W.cell? ⟨t1, 0, none⟩ = some (.pointer (some ⟨r1.nb, 0, none⟩)) ∧ W.cell? ⟨t2, 0, none⟩ = some (.pointer (some ⟨r2.nb, 0, none⟩))) HS.out)
  go_region_held3 (fun W => Below w.heap.size w W ∧ W.cell? ⟨t1, 0, none⟩ = some (.pointer (some ⟨r1.nb, 0, none⟩)) ∧ W.cell? ⟨t2, 0, none⟩ = some (.pointer (some ⟨r2.nb, 0, none⟩))) (first | exact kpC (T := fun W : World => W.cell? ⟨t1, 0, none⟩ = some (.pointer (some ⟨r1.nb, 0, none⟩)) ∧ W.cell? ⟨t2, 0, none⟩ = some (.pointer (some ⟨r2.nb, 0, none⟩))) hb (by assumption) HS.out | exact kp1 (T := fun W : World => W.cell? ⟨t1, 0, none⟩ = some (.pointer (some ⟨r1.nb, 0, none⟩)) ∧ W.cell? ⟨t2, 0, none⟩ = some (.pointer (some ⟨r2.nb, 0, none⟩))) HS0.out HS.out | exact HS0.out | fail) (first | (go_at_call 30; refine (HC.out _ (And.left (by assumption))).mono ?_; rintro e w1 ⟨rfl, hb⟩) | fail)
  have hs : Below w.heap.size w w1 := And.left (by assumption)
  have HB := Lib.hid hs
  clear hs
  go_wp2
  go_ret
  exact ⟨rfl, H.out.below HB.out, HB.out⟩
theorem same_true (h : At2 w B1 t1 s1 m1 B2 t2 s2 m2 q) (hs : SA s1.a s2.a) : Calls Tryd.prog 19 #[.pointer (some ⟨t1, 0, none⟩), .pointer (some ⟨t2, 0, none⟩)] w fun e w' => e = .returned (.bool true) ∧ At2 w' B1 t1 s1 m1 B2 t2 s2 m2 q ∧ Below w.heap.size w w' := by
  have := same_at2 h
  rwa [decide_eq_true hs] at this
theorem same_false (h : At2 w B1 t1 s1 m1 B2 t2 s2 m2 q) (hs : ¬ SA s1.a s2.a) : Calls Tryd.prog 19 #[.pointer (some ⟨t1, 0, none⟩), .pointer (some ⟨t2, 0, none⟩)] w fun e w' => e = .returned (.bool false) ∧ At2 w' B1 t1 s1 m1 B2 t2 s2 m2 q ∧ Below w.heap.size w w' := by
  have := same_at2 h
  rwa [decide_eq_false hs] at this
end
end Go.Proofs.YtpdcjdangnfeiaaDoor.We
