/- A worker of a crew. -/
import Derived.Test.YtidadgibhmiojaaFb
import Derived.Test.YtidadgibhmiojaaFd
import Derived.Test.YtidadgibhmiojaaGu
set_option linter.unusedSimpArgs false
set_option linter.unusedVariables false
namespace Go.Proofs.Ytidadgibhmiojaa
open Go.Conc Go.RowKit Go.Conc.Lib Go.ConcR.Gen Go.ConcN.Gen Go.Farm
open Go.ConcR (DC0)
variable {Post : Value → World → Prop}
noncomputable def bot : Frame := { (default : Frame) with fn := Try.prog.funcs.size, defers := [], mode := .panicking [goexitEntry] }
/-- the body of the loop -/
def loopOf : Code → Option Code
  | .seq x y => (loopOf x).or (loopOf y)
  | .block _ x => loopOf x
  | .loop x => some x
  | _ => none
/-- one of a crew at work -/
abbrev wcx (κ : Crew) (O Z : AS) (lb : Nat) (J : Nat → Prop) : Cx := ⟨O, none3, Z, none, some (κ, .m0, lb, J), 0⟩
/-- what a worker may rely on -/
structure Env (κ : Crew) (R : Nat) (xb nb db ob : Addr) (dv : Value) (Zc : List (Addr × Value)) (O Z : AS) (w : World) : Prop where
  zx : Z xb ∧ w.cell? xb = some (.pointer (some ⟨κ.Cn, 0, none⟩))
  zn : Z nb ∧ w.cell? nb = some (.int .i64 (κ.n : Int))
  zd : Z db ∧ w.cell? db = some dv
  zo : Z ob ∧ w.cell? ob = some (.slice (some ⟨R, 0, none⟩) κ.n κ.n)
  zc : ∀ p ∈ Zc, Z p.1 ∧ w.cell? p.1 = some p.2
  oz : ∀ a, Z a → ¬ O a
  low : ∀ a, O a ∨ Z a → a.block < w.heap.size
  cn : ∀ a, O a ∨ Z a → a ≠ κ.cn
  rl : R < w.heap.size
  cl : κ.Cn < w.heap.size
  rc : R ≠ κ.Cn
  row : ∀ i, i < κ.n → (∃ u, w.cell? ⟨R, i, none⟩ = some u) ∧ w.frozen? ⟨R, i, none⟩ = false
variable {κ : Crew} {R : Nat} {xb nb db ob : Addr} {dv : Value} {Zc : List (Addr × Value)} {O Z : AS} {w w' : World} {lb : Nat} {J : Nat → Prop}
theorem Env.neat (h : Env κ R xb nb db ob dv Zc O Z w) : (wcx κ O Z lb J).Neat := ⟨fun _ _ h => h, fun a ha => ⟨h.oz a ha, fun h => h⟩⟩
theorem Env.lowc (h : Env κ R xb nb db ob dv Zc O Z w) : (wcx κ O Z lb J).Low w := fun a ha => h.low a (by rcases ha with h | h | h; exact .inl h; exact h.elim; exact .inr h)
theorem Env.hold (h : Env κ R xb nb db ob dv Zc O Z w) (r : Hold (wcx κ O Z lb J) w w') : Env κ R xb nb db ob dv Zc O Z w' :=
  have hz : ∀ a, Z a → w'.cell? a = w.cell? a := fun a ha => (r.cell a (.inr (.inr ha))).1
  ⟨⟨h.zx.1, (hz _ h.zx.1).trans h.zx.2⟩, ⟨h.zn.1, (hz _ h.zn.1).trans h.zn.2⟩, ⟨h.zd.1, (hz _ h.zd.1).trans h.zd.2⟩, ⟨h.zo.1, (hz _ h.zo.1).trans h.zo.2⟩, fun p hp => ⟨(h.zc p hp).1, (hz _ (h.zc p hp).1).trans (h.zc p hp).2⟩, h.oz,
    fun a ha => Nat.lt_of_lt_of_le (h.low a ha) r.size, h.cn, Nat.lt_of_lt_of_le h.rl r.size, Nat.lt_of_lt_of_le h.cl r.size, h.rc, fun i hi => ⟨let ⟨u, hu⟩ := (h.row i hi).1; r.grow.ex _ u hu, (r.grow.frz _ h.rl).trans (h.row i hi).2⟩⟩
/-- with a cell of the row, with new cells -/
theorem Env.more (h : Env κ R xb nb db ob dv Zc O Z w) {X : AS} (hX : ∀ a, X a → ¬ Z a ∧ a.block < w.heap.size ∧ a ≠ κ.cn) : Env κ R xb nb db ob dv Zc (fun a => O a ∨ X a) Z w :=
  ⟨h.zx, h.zn, h.zd, h.zo, h.zc, fun a hz ho => ho.elim (h.oz a hz) (fun x => (hX a x).1 hz), fun a ha => by
      rcases ha with (x | x) | x
      · exact h.low a (.inl x)
      · exact (hX a x).2.1
      · exact h.low a (.inr x), fun a ha => by
      rcases ha with (x | x) | x
      · exact h.cn a (.inl x)
      · exact (hX a x).2.2
      · exact h.cn a (.inr x), h.rl, h.cl, h.rc, h.row⟩
theorem Env.set (h : Env κ R xb nb db ob dv Zc O Z w) {A : Addr} (hA : O A) (v : Value) : Env κ R xb nb db ob dv Zc O Z (w.setCell A v) :=
  have hz : ∀ a, Z a → (w.setCell A v).cell? a = w.cell? a := fun a ha => World.cell?_setCell_other _ _ _ _ (fun e => h.oz a ha (e ▸ hA))
  have hs : (w.setCell A v).heap.size = w.heap.size := World.size_setCell _ _ _
  ⟨⟨h.zx.1, (hz _ h.zx.1).trans h.zx.2⟩, ⟨h.zn.1, (hz _ h.zn.1).trans h.zn.2⟩, ⟨h.zd.1, (hz _ h.zd.1).trans h.zd.2⟩, ⟨h.zo.1, (hz _ h.zo.1).trans h.zo.2⟩, fun p hp => ⟨(h.zc p hp).1, (hz _ (h.zc p hp).1).trans (h.zc p hp).2⟩, h.oz,
    fun a ha => by rw [hs]; exact h.low a ha, h.cn, by rw [hs]; exact h.rl, by rw [hs]; exact h.cl, h.rc, fun i hi => ⟨let ⟨u, hu⟩ := (h.row i hi).1; (Grow.set w A v).ex _ u hu, (World.frozen?_setCell _ _ _ _).trans (h.row i hi).2⟩⟩
/-- the tasks that a worker has taken: all but j done -/
def Taken (κ : Crew) (R : Nat) (V : Nat → AS → Value → World → Prop) (O : AS) (J : Nat → Prop) (j : Nat) (w : World) : Prop :=
  ∀ i, J i → i < κ.n ∧ (i ≠ j → ∃ Y : AS, (∀ a, Y a → O a) ∧ ¬ Y ⟨R, j, none⟩ ∧ doneAt (fun i => ⟨R, i, none⟩) V i Y w)
theorem _root_.Go.Farm.doneAt.stable {cell : Nat → Addr} {V : Nat → AS → Value → World → Prop} (hV : VStable V) {i : Nat} {Y : AS} (h : doneAt cell V i Y w) (hw : ∀ a, Y a → w'.cell? a = w.cell? a ∧ w'.frozen? a = w.frozen? a) : doneAt cell V i Y w' := by
  obtain ⟨h1, v, h2, h3⟩ := h
  exact ⟨h1, v, (hw _ h1).1.trans h2, hV i Y v w w' hw h3⟩
theorem _root_.Go.Farm.doneAt.mono {cell : Nat → Addr} {V : Nat → AS → Value → World → Prop} (hV : VMono V) {i : Nat} {Y Y' : AS} (h : doneAt cell V i Y w) (hw : ∀ a, Y a → Y' a) : doneAt cell V i Y' w := by
  obtain ⟨h1, v, h2, h3⟩ := h
  exact ⟨hw _ h1, v, h2, hV i Y Y' v w hw h3⟩
theorem Taken.hold {V : Nat → AS → Value → World → Prop} (hV : VStable V) {j : Nat} (h : Taken κ R V O J j w) (r : ∀ a, O a → w'.cell? a = w.cell? a ∧ w'.frozen? a = w.frozen? a) : Taken κ R V O J j w' := fun i hi =>
  ⟨(h i hi).1, fun hij => let ⟨Y, y1, y2, y3⟩ := (h i hi).2 hij; ⟨Y, y1, y2, y3.stable hV (fun a ha => r a (y1 a ha))⟩⟩
theorem Taken.grow {V : Nat → AS → Value → World → Prop} {O' : AS} {j : Nat} (h : Taken κ R V O J j w) (r : ∀ a, O a → O' a) : Taken κ R V O' J j w := fun i hi =>
  ⟨(h i hi).1, fun hij => let ⟨Y, y1, y2, y3⟩ := (h i hi).2 hij; ⟨Y, fun a ha => r a (y1 a ha), y2, y3⟩⟩
/-- the task j is done, another is drawn -/
theorem Taken.next {V : Nat → AS → Value → World → Prop} (hVs : VStable V) (hVm : VMono V) {j : Nat} (hE : Env κ R xb nb db ob dv Zc O Z w) (h : Taken κ R V O J j w) (hOj : O ⟨R, j, none⟩) (hj : j < κ.n) {w1 : World} {X : AS} {v : Value} (r : Hold (wcx κ O Z lb J) w w1)
    (hX : ∀ a, X a → w.heap.size ≤ a.block ∧ a.block < w1.heap.size) (hv : V j X v w1) {j' : Nat} (hO' : ¬ O ⟨R, j', none⟩) {J' : Nat → Prop} (hJ' : ∀ i, J' i → i < κ.n ∧ (i ≠ j' → J i)) {O' : AS} (hOO : ∀ a, O a ∨ X a → O' a) : Taken κ R V O' J' j' (w1.setCell ⟨R, j, none⟩ v) := fun i hi => by
  obtain ⟨h1, h2⟩ := hJ' i hi
  refine ⟨h1, fun hij => ?_⟩
  have hnX : ∀ x, ¬ X ⟨R, x, none⟩ := fun x hx => by have := (hX _ hx).1; have := hE.rl; simp at *; omega
  have hce : ∃ u, w1.cell? ⟨R, j, none⟩ = some u := let ⟨u, hu⟩ := (hE.row j hj).1; ⟨u, (r.cell _ (.inl hOj)).1.trans hu⟩
  by_cases e : i = j
  · subst e
    refine ⟨fun a => X a ∨ a = ⟨R, i, none⟩, fun a ha => hOO a (ha.elim .inr (fun e => .inl (e ▸ hOj))), fun hy => hy.elim (hnX _) (fun e => by injection e with _ e; exact hij e.symm), ?_⟩
    obtain ⟨u, hu⟩ := hce
    refine ⟨.inr rfl, v, World.cell?_setCell_same _ _ _ hu, hVm _ X _ v _ (fun a ha => .inl ha) (hVs _ X v w1 _ (fun a ha => ?_) hv)⟩
    exact ⟨World.cell?_setCell_other _ _ _ _ (fun e => hnX i (e ▸ ha)), World.frozen?_setCell _ _ _ _⟩
  · obtain ⟨Y, y1, y2, y3⟩ := (h i (h2 hij)).2 e
    refine ⟨Y, fun a ha => hOO a (.inl (y1 a ha)), fun hy => hO' (y1 _ hy), y3.stable hVs (fun a ha => ?_)⟩
    have := r.cell a (.inl (y1 a ha))
    exact ⟨(World.cell?_setCell_other _ _ _ _ (fun e => y2 (by rw [e]; exact ha))).trans this.1, (World.frozen?_setCell _ _ _ _).trans this.2⟩
noncomputable def lbBool : Code := (loopOf (Try.f31.body.getD .skip)).getD .skip
set_option maxRecDepth 100000 in
set_option maxHeartbeats 4000000 in
theorem quitsBool (Tt : Array Value) : QuitsD Try.prog 2 0 (G { (baseD 31).at ⟨Tt, []⟩ [] with mode := .returning } [bot]) := by
  refine QuitsD.ctl (g' := G bot []) rfl (fun w => ?_) ?_
  · simp [G, stepG, unwind, doReturn, results, Frame.at, baseD, bot, Try.func31, Try.f31, seen, GStep.after, goexitEntry]
  refine QuitsD.ctl (g' := { G bot [] with status := .finished }) rfl (fun w => ?_) ⟨rfl, rfl⟩
  simp [G, stepG, unwind, bot, goexitEntry, Frame.catches]
  rfl
set_option maxRecDepth 100000 in
set_option maxHeartbeats 16000000 in
/-- a worker, ahead of its test -/
theorem loopBool {d0 : FuncId} {caps : Array Value} {V : Nat → AS → Value → World → Prop} {FD : Nat} (hdo : TaskOk Try.prog Post d0 caps Zc V FD)
    (hfn : ∃ fn c, Try.prog.funcs[d0]? = some fn ∧ (fn.name == "runtime.NumGoroutine") = false ∧ fn.body = some c) (hVt : ∀ j X v w, V j X v w → (fun v => ∃ b, v = .bool b) v) (hVs : VStable V) (hVm : VMono V)
    (hcell : κ.cell = fun j => ⟨R, j, none⟩) (hD : κ.D = doneAt κ.cell V) (hn4 : κ.n ≤ 4096) (hdv : dv = .func (.func d0) #[] caps) : ∀ (dd : Nat) (j : Nat) (J : Nat → Prop) (O Z : AS) (w : World) (v6 v7 v8 v9 v10 v11 v12 v13 v14 v15 v16 v17 v18 v19 v20 : Value), κ.n - j ≤ dd → Env κ R xb nb db ob dv Zc O Z w → j ≤ 4194304 → (j < κ.n → O ⟨R, j, none⟩) → (∀ i, j < i → i < κ.n → ¬ O ⟨R, i, none⟩ ∧ ¬ Z ⟨R, i, none⟩) →
      Taken κ R V O J j w → (κ.n ≤ j → ∀ i, J i → i ≠ j) → (∀ i, κ.n ≤ i → ¬ O ⟨R, i, none⟩) → T Try.prog Post (1000 + (FD + 300) * (dd + 1)) false (wcx κ O Z (j + 1) J) (G ((baseD 31).at ⟨#[.pointer (some ⟨κ.Wg, 0, none⟩), .pointer (some xb), .pointer (some nb), .pointer (some db), .pointer (some ob), .int .i64 (j : Int), v6, v7, v8, v9, v10, v11, v12, v13, v14, v15, v16, v17, v18, v19, v20], [dcall 28 #[.pointer (some ⟨κ.Wg, 0, none⟩)]]⟩ [.code lbBool, .inLoop lbBool, .inBlock 0]) [bot]) w := by
  intro dd
  induction dd with
  | zero =>
    intro j J O Z w v6 v7 v8 v9 v10 v11 v12 v13 v14 v15 v16 v17 v18 v19 v20 hdd hE hjb hOj hx hJ hJn hnR
    have hge : κ.n ≤ j := by omega
    have hlt : ¬ (j : Int) < (κ.n : Int) := by omega
    have hn : (wcx κ O Z (j + 1) J).Neat := hE.neat
    obtain ⟨zn1, zn2⟩ := hE.zn
    generalize hfu : 1000 + (FD + 300) * (0 + 1) = fu
    refine T.le (m := 850 + 40) (by omega) ?_
    simp only [lbBool, Try.f31, loopOf, Option.getD_some, Option.none_or, Option.some_or, Option.or_none]
    refine T.goes1 hn rfl (fun _ _ _ => ?_); rw [stepG_seq]; simp only [goes_go]; refine ⟨by u_nil, ?_⟩
    refine T.goes1 hn rfl (fun _ _ _ => ?_); rw [stepG_seq]; simp only [goes_go]; refine ⟨by u_nil, ?_⟩
    refine T.goes1 hn rfl (fun _ _ _ => ?_); rw [stepG_region]; simp only [goes_go, List.size_toArray, List.length_cons, List.length_nil, Nat.reduceAdd, Nat.zero_add, List.range, List.range.loop]; refine ⟨by u_nil, ?_⟩
    refine T.goes1 hn rfl (fun _ _ _ => ?_); refine goes_oper_k rfl rfl (by k_ne) (fun K hK => ?_); go_simp; refine hK _ _ ⟨?_, ?_⟩; (u_none; intro e he; have hm := mem_listed he; simp [go_sem, *] at hm); clear hK K; try walk_nrm
    refine T.quiet hn rfl rfl (by k_ne) (fun w₁ hF hL K hK => ?_); have fc := (hF.cell _ (.inr (.inr zn1))).1.trans zn2; go_simp; refine hK _ ?_ ?_; (intro e he; simp [go_sem, *] at he; subst he; exact EvOk.rd false (.inr zn1)); clear hK K fc; try walk_nrm
    refine T.goes1 hn rfl (fun _ _ _ => ?_); refine goes_oper_k rfl rfl (by k_ne) (fun K hK => ?_); go_simp; refine hK _ _ ⟨?_, ?_⟩; (u_none; intro e he; have hm := mem_listed he; simp [go_sem, *] at hm); clear hK K; try walk_nrm
    refine T.goes1 hn rfl (fun _ _ _ => ?_); rw [stepG_region_end]; simp only [goes_go]; refine ⟨by u_nil, ?_⟩
    refine T.goes1 hn rfl (fun _ _ _ => ?_); rw [stepG_cond (t := false) rfl]; simp only [goes_go, if_true, if_false, Bool.false_eq_true, ↓reduceIte]; refine ⟨by u_nil, ?_⟩
    refine T.goes1 hn rfl (fun _ _ _ => ?_); refine goes_exit rfl ?_; refine ⟨by u_nil, ?_⟩
    refine T.goes1 hn rfl (fun _ _ _ => ?_); rw [stepG_end]; simp only [goes_go]; refine ⟨by u_nil, ?_⟩
    refine T.goes1 hn rfl (fun _ _ _ => ?_); rw [stepG_unwind_enter rfl Try.func28 (by kernel_rfl) rfl]; simp only [goes_go]; refine ⟨by u_nil, ?_⟩; walk_nrmf Try.f28
    refine T.le (m := 2 + 700) (by omega) (done_walk wgLib hn rfl rfl rfl (by show κ.n < j + 1; omega) (fun w1 r i hi => ?_) rfl (quitsBool _))
    obtain ⟨Y, y1, y2, y3⟩ := (hJ i hi).2 (hJn hge i hi)
    rw [hD, hcell]
    exact (y3.stable hVs (fun a ha => r.cell a (.inl (y1 a ha)))).mono hVm (fun a ha => .inl (y1 a ha))
  | succ dd ih =>
    intro j J O Z w v6 v7 v8 v9 v10 v11 v12 v13 v14 v15 v16 v17 v18 v19 v20 hdd hE hjb hOj hx hJ hJn hnR
    have hn : (wcx κ O Z (j + 1) J).Neat := hE.neat
    obtain ⟨zn1, zn2⟩ := hE.zn
    generalize hfu : 1000 + (FD + 300) * (dd + 1 + 1) = fu
    have hfu2 : 1000 + (FD + 300) * (dd + 1) + FD + 300 ≤ fu := by rw [← hfu, Nat.mul_add (FD + 300) (dd + 1) 1]; omega
    by_cases hge : κ.n ≤ j
    · have hlt : ¬ (j : Int) < (κ.n : Int) := by omega
      refine T.le (m := 850 + 40) (by omega) ?_
      clear ih
      simp only [lbBool, Try.f31, loopOf, Option.getD_some, Option.none_or, Option.some_or, Option.or_none]
      refine T.goes1 hn rfl (fun _ _ _ => ?_); rw [stepG_seq]; simp only [goes_go]; refine ⟨by u_nil, ?_⟩
      refine T.goes1 hn rfl (fun _ _ _ => ?_); rw [stepG_seq]; simp only [goes_go]; refine ⟨by u_nil, ?_⟩
      refine T.goes1 hn rfl (fun _ _ _ => ?_); rw [stepG_region]; simp only [goes_go, List.size_toArray, List.length_cons, List.length_nil, Nat.reduceAdd, Nat.zero_add, List.range, List.range.loop]; refine ⟨by u_nil, ?_⟩
      refine T.goes1 hn rfl (fun _ _ _ => ?_); refine goes_oper_k rfl rfl (by k_ne) (fun K hK => ?_); go_simp; refine hK _ _ ⟨?_, ?_⟩; (u_none; intro e he; have hm := mem_listed he; simp [go_sem, *] at hm); clear hK K; try walk_nrm
      refine T.quiet hn rfl rfl (by k_ne) (fun w₁ hF hL K hK => ?_); have fc := (hF.cell _ (.inr (.inr zn1))).1.trans zn2; go_simp; refine hK _ ?_ ?_; (intro e he; simp [go_sem, *] at he; subst he; exact EvOk.rd false (.inr zn1)); clear hK K fc; try walk_nrm
      refine T.goes1 hn rfl (fun _ _ _ => ?_); refine goes_oper_k rfl rfl (by k_ne) (fun K hK => ?_); go_simp; refine hK _ _ ⟨?_, ?_⟩; (u_none; intro e he; have hm := mem_listed he; simp [go_sem, *] at hm); clear hK K; try walk_nrm
      refine T.goes1 hn rfl (fun _ _ _ => ?_); rw [stepG_region_end]; simp only [goes_go]; refine ⟨by u_nil, ?_⟩
      refine T.goes1 hn rfl (fun _ _ _ => ?_); rw [stepG_cond (t := false) rfl]; simp only [goes_go, if_true, if_false, Bool.false_eq_true, ↓reduceIte]; refine ⟨by u_nil, ?_⟩
      refine T.goes1 hn rfl (fun _ _ _ => ?_); refine goes_exit rfl ?_; refine ⟨by u_nil, ?_⟩
      refine T.goes1 hn rfl (fun _ _ _ => ?_); rw [stepG_end]; simp only [goes_go]; refine ⟨by u_nil, ?_⟩
      refine T.goes1 hn rfl (fun _ _ _ => ?_); rw [stepG_unwind_enter rfl Try.func28 (by kernel_rfl) rfl]; simp only [goes_go]; refine ⟨by u_nil, ?_⟩; walk_nrmf Try.f28
      refine T.le (m := 2 + 700) (by omega) (done_walk wgLib hn rfl rfl rfl (by show κ.n < j + 1; omega) (fun w1 r i hi => ?_) rfl (quitsBool _))
      obtain ⟨Y, y1, y2, y3⟩ := (hJ i hi).2 (hJn hge i hi)
      rw [hD, hcell]
      exact (y3.stable hVs (fun a ha => r.cell a (.inl (y1 a ha)))).mono hVm (fun a ha => .inl (y1 a ha))
    have hjn : j < κ.n := by omega
    have hlt : (j : Int) < (κ.n : Int) := by omega
    refine T.le (m := (1000 + (FD + 300) * (dd + 1) + FD + 200) + 40) (by omega) ?_
    simp only [lbBool, Try.f31, loopOf, Option.getD_some, Option.none_or, Option.some_or, Option.or_none] at ih ⊢
    refine T.goes1 hn rfl (fun _ _ _ => ?_); rw [stepG_seq]; simp only [goes_go]; refine ⟨by u_nil, ?_⟩
    refine T.goes1 hn rfl (fun _ _ _ => ?_); rw [stepG_seq]; simp only [goes_go]; refine ⟨by u_nil, ?_⟩
    refine T.goes1 hn rfl (fun _ _ _ => ?_); rw [stepG_region]; simp only [goes_go, List.size_toArray, List.length_cons, List.length_nil, Nat.reduceAdd, Nat.zero_add, List.range, List.range.loop]; refine ⟨by u_nil, ?_⟩
    refine T.goes1 hn rfl (fun _ _ _ => ?_); refine goes_oper_k rfl rfl (by k_ne) (fun K hK => ?_); go_simp; refine hK _ _ ⟨?_, ?_⟩; (u_none; intro e he; have hm := mem_listed he; simp [go_sem, *] at hm); clear hK K; try walk_nrm
    refine T.quiet hn rfl rfl (by k_ne) (fun w₁ hF hL K hK => ?_); have fc := (hF.cell _ (.inr (.inr zn1))).1.trans zn2; go_simp; refine hK _ ?_ ?_; (intro e he; simp [go_sem, *] at he; subst he; exact EvOk.rd false (.inr zn1)); clear hK K fc; try walk_nrm
    refine T.goes1 hn rfl (fun _ _ _ => ?_); refine goes_oper_k rfl rfl (by k_ne) (fun K hK => ?_); go_simp; refine hK _ _ ⟨?_, ?_⟩; (u_none; intro e he; have hm := mem_listed he; simp [go_sem, *] at hm); clear hK K; try walk_nrm
    refine T.goes1 hn rfl (fun _ _ _ => ?_); rw [stepG_region_end]; simp only [goes_go]; refine ⟨by u_nil, ?_⟩
    refine T.goes1 hn rfl (fun _ _ _ => ?_); rw [stepG_cond (t := true) rfl]; simp only [goes_go, if_true, if_false, Bool.false_eq_true, ↓reduceIte]; refine ⟨by u_nil, ?_⟩
    refine T.goes1 hn rfl (fun _ _ _ => ?_); rw [stepG_skip]; simp only [goes_go]; refine ⟨by u_nil, ?_⟩
    refine T.goes1 hn rfl (fun _ _ _ => ?_); rw [stepG_seq]; simp only [goes_go]; refine ⟨by u_nil, ?_⟩
    refine T.goes1 hn rfl (fun _ _ _ => ?_); rw [stepG_block]; simp only [goes_go]; refine ⟨by u_nil, ?_⟩
    have hOj := hOj hjn
    obtain ⟨zd1, zd2⟩ := hE.zd
    obtain ⟨zo1, zo2⟩ := hE.zo
    have hRow := hE.row j hjn
    refine T.le (m := (1000 + (FD + 300) * (dd + 1) + 150) + FD + 20) (by omega) (task_gen regionBool hdo hfn mix hVt (n := κ.n) (R := R) (db := db) (ob := ob) hn hE.lowc rfl rfl rfl hE.zc ⟨zd1, by rw [← hdv]; exact zd2⟩ ⟨zo1, zo2⟩ hjn (by omega) hOj hRow.1 hRow.2 (by k_ne) (fun w1 X vv r hX hv => ?_))
    have hE1 : Env κ R xb nb db ob dv Zc (fun a => O a ∨ X a) Z w1 := (hE.hold r).more (fun a ha => ⟨fun hz => by have h1 := hE.low a (.inr hz); have h2 := (hX a ha).1; omega, (hX a ha).2, fun e => by have h1 := hE.cl; have h2 := (hX a ha).1; rw [e] at h2; exact absurd h2 (by show ¬ w.heap.size ≤ κ.Cn; omega)⟩)
    have hE2 := hE1.set (A := ⟨R, j, none⟩) (.inl hOj) vv
    have hnX : ∀ x, ¬ X ⟨R, x, none⟩ := fun x hx => by have h1 := (hX _ hx).1; have h2 := hE.rl; exact absurd h1 (by show ¬ w.heap.size ≤ R; omega)
    have hx2 : ∀ i, j < i → i < κ.n → ¬ (O ⟨R, i, none⟩ ∨ X ⟨R, i, none⟩) ∧ ¬ Z ⟨R, i, none⟩ := fun i h1 h2 => ⟨fun h => h.elim (hx i h1 h2).1 (hnX i), (hx i h1 h2).2⟩
    have hnext := fun (j' : Nat) (hO' : ¬ O ⟨R, j', none⟩) (J' : Nat → Prop) (hJ' : ∀ i, J' i → i < κ.n ∧ (i ≠ j' → J i)) (O' : AS) hOO => Taken.next hVs hVm hE hJ hOj hjn r hX hv (j' := j') hO' hJ' (O' := O') hOO
    have hJ0 : ∀ i, J i → i < κ.n := fun i hi => (hJ i hi).1
    generalize w1.setCell ⟨R, j, none⟩ vv = w2 at hE2 hnext ⊢
    replace hn : (wcx κ (fun a => O a ∨ X a) Z (j + 1) J).Neat := hE2.neat
    clear hRow zd1 zd2 zo1 zo2 zn1 zn2
    obtain ⟨zx1, zx2⟩ := hE2.zx
    refine T.le (m := (1000 + (FD + 300) * (dd + 1) + 120) + 20) (by omega) ?_
    refine T.goes1 hn rfl (fun _ _ _ => ?_); rw [stepG_region_end]; simp only [goes_go]; refine ⟨by u_nil, ?_⟩
    refine T.goes1 hn rfl (fun _ _ _ => ?_); rw [stepG_inBlock]; simp only [goes_go]; refine ⟨by u_nil, ?_⟩
    refine T.goes1 hn rfl (fun _ _ _ => ?_); rw [stepG_region]; simp only [goes_go, List.size_toArray, List.length_cons, List.length_nil, Nat.reduceAdd, Nat.zero_add, List.range, List.range.loop]; refine ⟨by u_nil, ?_⟩
    refine T.quiet hn rfl rfl (by k_ne) (fun w₁ hF hL K hK => ?_); have fc := (hF.cell _ (.inr (.inr zx1))).1.trans zx2; go_simp; refine hK _ ?_ ?_; (intro e he; simp [go_sem, *] at he; subst he; exact EvOk.rd false (.inr zx1)); clear hK K fc; try walk_nrm
    refine T.goes1 hn rfl (fun _ _ _ => ?_); refine goes_call rfl rfl (by k_ne) rfl Try.func10 (by kernel_rfl) rfl ⟨by u_nil, ?_⟩; walk_nrmf Try.f10
    have hcl : ∀ i, κ.cell i = ⟨R, i, none⟩ := fun i => by rw [hcell]
    refine T.le (m := (1000 + (FD + 300) * (dd + 1) + 20) + 60) (by omega) (tick_walk hn rfl rfl (by omega) (fun a ha => hE2.cn a (by rcases ha with h | h | h; exact .inl h; exact h.elim; exact .inr h)) (fun i h1 h2 => by rw [hcl]; exact hx2 i (by omega) h2) (fun w3 j' r3 h1 h2 => ?_) (fun w3 j' r3 h1 h2 => ?_))
    · obtain ⟨Vv, hVv⟩ : ∃ Vv : Int, ((j' + 1 : Nat) : Int) = Vv := ⟨_, rfl⟩
      have hsub : IntKind.i64.wrap (Vv - 1) = (j' : Int) := by rw [← hVv, IntKind.wrap_i64]; omega
      rw [hVv, hcl j']
      clear hVv
      have hless : Less ⟨fun a => O a ∨ X a, fun a => none3 a ∨ a = ⟨R, j', none⟩, Z, none, some (κ, .m0, j' + 1, fun i => J i ∨ i = j'), 0⟩ (wcx κ (fun a => (O a ∨ X a) ∨ a = ⟨R, j', none⟩) Z (j' + 1) (fun i => J i ∨ i = j')) :=
        ⟨fun a ha => ha.elim (fun h => h.elim .inl (fun e => .inr (.inr e))) (fun h => h.elim), fun a h => h.elim, fun _ _ h => h, fun a hz => ⟨fun h => h.elim (hE2.oz a hz) (fun e => (hx2 j' (by omega) h2).2 (e ▸ hz)), fun h => h⟩, fun a hz => .inl hz, rfl, rfl, rfl, fun κ' ms lb J' h => by injection h with e; injection e with _ e; injection e with e _; exact e.symm⟩
      walk_nrm
      refine T.turn hless rfl (fun _ _ _ => ?_); refine goes_oper_k rfl rfl (by k_ne) (fun K hK => ?_); go_simp; refine hK _ _ ⟨?_, ?_⟩; (u_none; intro e he; have hm := mem_listed he; simp [go_sem, *] at hm); clear hK K; try walk_nrm
      have hE3 : Env κ R xb nb db ob dv Zc (fun a => (O a ∨ X a) ∨ a = ⟨R, j', none⟩) Z w3 := (hE2.hold r3).more (fun a e => by rw [e]; exact ⟨(hx2 j' (by omega) h2).2, Nat.lt_of_lt_of_le hE2.rl r3.size, fun e => by have := congrArg Addr.block e; exact hE.rc this⟩)
      replace hn : (wcx κ (fun a => (O a ∨ X a) ∨ a = ⟨R, j', none⟩) Z (j' + 1) (fun i => J i ∨ i = j')).Neat := hE3.neat
      refine T.goes1 hn rfl (fun _ _ _ => ?_); refine goes_oper_k rfl rfl (by k_ne) (fun K hK => ?_); go_simp; refine hK _ _ ⟨?_, ?_⟩; (u_none; intro e he; have hm := mem_listed he; simp [go_sem, *] at hm); clear hK K; try walk_nrm
      refine T.goes1 hn rfl (fun _ _ _ => ?_); rw [stepG_region_end]; simp only [goes_go]; refine ⟨by u_nil, ?_⟩
      refine T.goes1 hn rfl (fun _ _ _ => ?_); rw [stepG_inLoop]; simp only [goes_go]; refine ⟨by u_nil, ?_⟩
      refine T.le (m := 1000 + (FD + 300) * (dd + 1)) (by omega) (ih j' _ _ Z w3 _ _ _ _ _ _ _ _ _ _ _ _ _ _ _ (by omega) hE3 (by omega) (fun _ => .inr rfl) (fun i h3 h4 => ⟨fun h => h.elim (hx2 i (by omega) h4).1 (fun e => by injection e with _ e; omega), (hx2 i (by omega) h4).2⟩) ?_ (fun h => by omega) (fun i h3 h => h.elim (fun h => h.elim (hnR i h3) (hnX i)) (fun e => by injection e with _ e; omega)))
      exact ((hnext j' (hx j' (by omega) h2).1 _ (fun i hi => hi.elim (fun h => ⟨hJ0 i h, fun _ => h⟩) (fun e => ⟨by omega, fun h => absurd e h⟩)) _ (fun a ha => ha)).hold hVs (fun a ha => r3.cell a (.inl ha))).grow (fun a ha => .inl ha)
    · obtain ⟨Vv, hVv⟩ : ∃ Vv : Int, ((j' + 1 : Nat) : Int) = Vv := ⟨_, rfl⟩
      have hsub : IntKind.i64.wrap (Vv - 1) = (j' : Int) := by rw [← hVv, IntKind.wrap_i64]; omega
      rw [hVv]
      clear hVv
      have hE3 : Env κ R xb nb db ob dv Zc (fun a => O a ∨ X a) Z w3 := hE2.hold r3
      replace hn : (wcx κ (fun a => O a ∨ X a) Z (j' + 1) J).Neat := hE3.neat
      walk_nrm
      refine T.goes1 hn rfl (fun _ _ _ => ?_); refine goes_oper_k rfl rfl (by k_ne) (fun K hK => ?_); go_simp; refine hK _ _ ⟨?_, ?_⟩; (u_none; intro e he; have hm := mem_listed he; simp [go_sem, *] at hm); clear hK K; try walk_nrm
      refine T.goes1 hn rfl (fun _ _ _ => ?_); refine goes_oper_k rfl rfl (by k_ne) (fun K hK => ?_); go_simp; refine hK _ _ ⟨?_, ?_⟩; (u_none; intro e he; have hm := mem_listed he; simp [go_sem, *] at hm); clear hK K; try walk_nrm
      refine T.goes1 hn rfl (fun _ _ _ => ?_); rw [stepG_region_end]; simp only [goes_go]; refine ⟨by u_nil, ?_⟩
      refine T.goes1 hn rfl (fun _ _ _ => ?_); rw [stepG_inLoop]; simp only [goes_go]; refine ⟨by u_nil, ?_⟩
      refine T.le (m := 1000 + (FD + 300) * (dd + 1)) (by omega) (ih j' _ _ Z w3 _ _ _ _ _ _ _ _ _ _ _ _ _ _ _ (by omega) hE3 h2 (fun h => by omega) (fun i h3 h4 => by omega) ?_ (fun _ i hi e => by have := hJ0 i hi; omega) (fun i h3 h => h.elim (hnR i h3) (hnX i)))
      exact (hnext j' (fun h => hnR j' h1 h) _ (fun i hi => ⟨hJ0 i hi, fun _ => hi⟩) _ (fun a ha => ha)).hold hVs (fun a ha => r3.cell a (.inl ha))
set_option maxRecDepth 100000 in
set_option maxHeartbeats 4000000 in
theorem bornBool (a0 a1 a2 a3 a4 : Value) (w : World) : stepG Try.prog false (born Try.prog { target := .fn (.func 31) #[a0, a1, a2, a3, a4], args := #[] }) w =
    .go (G ((baseD 31).at ⟨#[a0, a1, a2, a3, a4, undef, undef, undef, undef, undef, undef, undef, undef, undef, undef, undef, undef, undef, undef, undef, undef], []⟩ [.code (Try.f31.body.getD .skip)]) [bot]) w #[] := by
  simp [born, stepG, unwind, callDeferred, invoke, callFunc, Try.func31, Try.f31, seen, GStep.after, G, Frame.enter, Frame.at, baseD, bot]
set_option maxRecDepth 100000 in
set_option maxHeartbeats 16000000 in
/-- ████ a worker ████ -/
theorem workBool {d0 : FuncId} {caps : Array Value} {V : Nat → AS → Value → World → Prop} {FD : Nat} (hdo : TaskOk Try.prog Post d0 caps Zc V FD)
    (hfn : ∃ fn c, Try.prog.funcs[d0]? = some fn ∧ (fn.name == "runtime.NumGoroutine") = false ∧ fn.body = some c) (hVt : ∀ j X v w, V j X v w → (fun v => ∃ b, v = .bool b) v) (hVs : VStable V) (hVm : VMono V)
    (hcell : κ.cell = fun j => ⟨R, j, none⟩) (hD : κ.D = doneAt κ.cell V) (hn4 : κ.n ≤ 4096) (hdv : dv = .func (.func d0) #[] caps) (hE : Env κ R xb nb db ob dv Zc none3 Z w) (hxZ : ∀ i, i < κ.n → ¬ Z ⟨R, i, none⟩) :
    T Try.prog Post (1000 + (FD + 300) * (κ.n + 1) + 200) false (wcx κ none3 Z 0 (fun _ => False)) (born Try.prog { target := .fn (.func 31) #[.pointer (some ⟨κ.Wg, 0, none⟩), .pointer (some xb), .pointer (some nb), .pointer (some db), .pointer (some ob)], args := #[] }) w := by
  have hn : (wcx κ none3 Z 0 (fun _ => False)).Neat := hE.neat
  have hloop := @loopBool Post κ R xb nb db ob dv Zc d0 caps V FD hdo hfn hVt hVs hVm hcell hD hn4 hdv κ.n
  refine T.le (m := (1000 + (FD + 300) * (κ.n + 1) + 120) + 40) (by omega) ?_
  refine T.goes1 hn rfl (fun _ _ _ => ?_); rw [bornBool]; simp only [goes_go]; refine ⟨by u_nil, ?_⟩
  simp only [lbBool, Try.f31, loopOf, Option.getD_some, Option.none_or, Option.some_or, Option.or_none] at hloop ⊢
  obtain ⟨zx1, zx2⟩ := hE.zx
  refine T.goes1 hn rfl (fun _ _ _ => ?_); rw [stepG_seq]; simp only [goes_go]; refine ⟨by u_nil, ?_⟩
  refine T.goes1 hn rfl (fun _ _ _ => ?_); rw [stepG_region]; simp only [goes_go, List.size_toArray, List.length_cons, List.length_nil, Nat.reduceAdd, Nat.zero_add, List.range, List.range.loop]; refine ⟨by u_nil, ?_⟩
  refine T.goes1 hn rfl (fun _ _ _ => ?_); rw [stepG_defer rfl rfl (by k_ne) rfl]; simp only [goes_go]; refine ⟨by u_nil, ?_⟩; walk_nrm
  refine T.goes1 hn rfl (fun _ _ _ => ?_); rw [stepG_region_end]; simp only [goes_go]; refine ⟨by u_nil, ?_⟩
  refine T.goes1 hn rfl (fun _ _ _ => ?_); rw [stepG_seq]; simp only [goes_go]; refine ⟨by u_nil, ?_⟩
  refine T.goes1 hn rfl (fun _ _ _ => ?_); rw [stepG_region]; simp only [goes_go, List.size_toArray, List.length_cons, List.length_nil, Nat.reduceAdd, Nat.zero_add, List.range, List.range.loop]; refine ⟨by u_nil, ?_⟩
  refine T.quiet hn rfl rfl (by k_ne) (fun w₁ hF hL K hK => ?_); have fc := (hF.cell _ (.inr (.inr zx1))).1.trans zx2; go_simp; refine hK _ ?_ ?_; (intro e he; simp [go_sem, *] at he; subst he; exact EvOk.rd false (.inr zx1)); clear hK K fc; try walk_nrm
  refine T.goes1 hn rfl (fun _ _ _ => ?_); refine goes_call rfl rfl (by k_ne) rfl Try.func10 (by kernel_rfl) rfl ⟨by u_nil, ?_⟩; walk_nrmf Try.f10
  have hcl : ∀ i, κ.cell i = ⟨R, i, none⟩ := fun i => by rw [hcell]
  refine T.le (m := (1000 + (FD + 300) * (κ.n + 1) + 20) + 60) (by omega) (tick_walk hn rfl rfl (Nat.zero_le _) (fun a ha => hE.cn a (by rcases ha with h | h | h; exact .inl h; exact h.elim; exact .inr h)) (fun i h1 h2 => by rw [hcl]; exact ⟨fun h => h, hxZ i h2⟩) (fun w3 j' r3 h1 h2 => ?_) (fun w3 j' r3 h1 h2 => ?_))
  · obtain ⟨Vv, hVv⟩ : ∃ Vv : Int, ((j' + 1 : Nat) : Int) = Vv := ⟨_, rfl⟩
    have hsub : IntKind.i64.wrap (Vv - 1) = (j' : Int) := by rw [← hVv, IntKind.wrap_i64]; omega
    rw [hVv, hcl j']
    clear hVv
    have hless : Less ⟨none3, fun a => none3 a ∨ a = ⟨R, j', none⟩, Z, none, some (κ, .m0, j' + 1, fun i => False ∨ i = j'), 0⟩ (wcx κ (fun a => a = ⟨R, j', none⟩) Z (j' + 1) (fun i => False ∨ i = j')) :=
      ⟨fun a ha => ha.elim (fun e => .inr (.inr e)) (fun h => h.elim), fun a h => h.elim, fun _ _ h => h, fun a hz => ⟨fun e => hxZ j' h2 (e ▸ hz), fun h => h⟩, fun a hz => .inl hz, rfl, rfl, rfl, fun κ' ms lb J' h => by injection h with e; injection e with _ e; injection e with e _; exact e.symm⟩
    walk_nrm
    refine T.turn hless rfl (fun _ _ _ => ?_); refine goes_oper_k rfl rfl (by k_ne) (fun K hK => ?_); go_simp; refine hK _ _ ⟨?_, ?_⟩; (u_none; intro e he; have hm := mem_listed he; simp [go_sem, *] at hm); clear hK K; try walk_nrm
    have hE3 : Env κ R xb nb db ob dv Zc (fun a => a = ⟨R, j', none⟩) Z w3 := by
      have h0 := (hE.hold r3).more (X := fun a => a = ⟨R, j', none⟩) (fun a e => by rw [e]; exact ⟨hxZ j' h2, Nat.lt_of_lt_of_le hE.rl r3.size, fun e => by have := congrArg Addr.block e; exact hE.rc this⟩)
      have e : (fun a => none3 a ∨ a = (⟨R, j', none⟩ : Addr)) = (fun a => a = ⟨R, j', none⟩) := by funext a; exact propext ⟨fun h => h.elim (fun h => h.elim) id, .inr⟩
      rw [e] at h0; exact h0
    replace hn : (wcx κ (fun a => a = ⟨R, j', none⟩) Z (j' + 1) (fun i => False ∨ i = j')).Neat := hE3.neat
    refine T.goes1 hn rfl (fun _ _ _ => ?_); refine goes_oper_k rfl rfl (by k_ne) (fun K hK => ?_); go_simp; refine hK _ _ ⟨?_, ?_⟩; (u_none; intro e he; have hm := mem_listed he; simp [go_sem, *] at hm); clear hK K; try walk_nrm
    refine T.goes1 hn rfl (fun _ _ _ => ?_); rw [stepG_region_end]; simp only [goes_go]; refine ⟨by u_nil, ?_⟩
    refine T.goes1 hn rfl (fun _ _ _ => ?_); rw [stepG_block]; simp only [goes_go]; refine ⟨by u_nil, ?_⟩
    refine T.goes1 hn rfl (fun _ _ _ => ?_); rw [stepG_loop]; simp only [goes_go]; refine ⟨by u_nil, ?_⟩
    refine T.le (m := 1000 + (FD + 300) * (κ.n + 1)) (by omega) (hloop j' _ _ Z w3 _ _ _ _ _ _ _ _ _ _ _ _ _ _ _ (by omega) hE3 (by omega) (fun _ => rfl) (fun i h3 h4 => ⟨fun e => by injection e with _ e; omega, hxZ i h4⟩) ?_ (fun h => by omega) (fun i h3 e => by injection e with _ e; omega))
    exact fun i hi => ⟨by rcases hi with hi | hi; exact hi.elim; omega, fun h => (hi.elim (fun x => x.elim) (fun e => absurd e h))⟩
  · obtain ⟨Vv, hVv⟩ : ∃ Vv : Int, ((j' + 1 : Nat) : Int) = Vv := ⟨_, rfl⟩
    have hsub : IntKind.i64.wrap (Vv - 1) = (j' : Int) := by rw [← hVv, IntKind.wrap_i64]; omega
    rw [hVv]
    clear hVv
    have hE3 : Env κ R xb nb db ob dv Zc none3 Z w3 := hE.hold r3
    replace hn : (wcx κ none3 Z (j' + 1) (fun _ => False)).Neat := hE3.neat
    walk_nrm
    refine T.goes1 hn rfl (fun _ _ _ => ?_); refine goes_oper_k rfl rfl (by k_ne) (fun K hK => ?_); go_simp; refine hK _ _ ⟨?_, ?_⟩; (u_none; intro e he; have hm := mem_listed he; simp [go_sem, *] at hm); clear hK K; try walk_nrm
    refine T.goes1 hn rfl (fun _ _ _ => ?_); refine goes_oper_k rfl rfl (by k_ne) (fun K hK => ?_); go_simp; refine hK _ _ ⟨?_, ?_⟩; (u_none; intro e he; have hm := mem_listed he; simp [go_sem, *] at hm); clear hK K; try walk_nrm
    refine T.goes1 hn rfl (fun _ _ _ => ?_); rw [stepG_region_end]; simp only [goes_go]; refine ⟨by u_nil, ?_⟩
    refine T.goes1 hn rfl (fun _ _ _ => ?_); rw [stepG_block]; simp only [goes_go]; refine ⟨by u_nil, ?_⟩
    refine T.goes1 hn rfl (fun _ _ _ => ?_); rw [stepG_loop]; simp only [goes_go]; refine ⟨by u_nil, ?_⟩
    exact T.le (m := 1000 + (FD + 300) * (κ.n + 1)) (by omega) (hloop j' _ _ Z w3 _ _ _ _ _ _ _ _ _ _ _ _ _ _ _ (by omega) hE3 h2 (fun h => by omega) (fun i h3 h4 => by omega) (fun i hi => hi.elim) (fun _ i hi => hi.elim) (fun i _ h => h))
noncomputable def lbInt : Code := (loopOf (Try.f27.body.getD .skip)).getD .skip
set_option maxRecDepth 100000 in
set_option maxHeartbeats 4000000 in
theorem quitsInt (Tt : Array Value) : QuitsD Try.prog 2 0 (G { (baseD 27).at ⟨Tt, []⟩ [] with mode := .returning } [bot]) := by
  refine QuitsD.ctl (g' := G bot []) rfl (fun w => ?_) ?_
  · simp [G, stepG, unwind, doReturn, results, Frame.at, baseD, bot, Try.func27, Try.f27, seen, GStep.after, goexitEntry]
  refine QuitsD.ctl (g' := { G bot [] with status := .finished }) rfl (fun w => ?_) ⟨rfl, rfl⟩
  simp [G, stepG, unwind, bot, goexitEntry, Frame.catches]
  rfl
set_option maxRecDepth 100000 in
set_option maxHeartbeats 16000000 in
/-- a worker, ahead of its test -/
theorem loopInt {d0 : FuncId} {caps : Array Value} {V : Nat → AS → Value → World → Prop} {FD : Nat} (hdo : TaskOk Try.prog Post d0 caps Zc V FD)
    (hfn : ∃ fn c, Try.prog.funcs[d0]? = some fn ∧ (fn.name == "runtime.NumGoroutine") = false ∧ fn.body = some c) (hVt : ∀ j X v w, V j X v w → (fun v => ∃ z, v = .int .i64 z) v) (hVs : VStable V) (hVm : VMono V)
    (hcell : κ.cell = fun j => ⟨R, j, none⟩) (hD : κ.D = doneAt κ.cell V) (hn4 : κ.n ≤ 4096) (hdv : dv = .func (.func d0) #[] caps) : ∀ (dd : Nat) (j : Nat) (J : Nat → Prop) (O Z : AS) (w : World) (v6 v7 v8 v9 v10 v11 v12 v13 v14 v15 v16 v17 v18 v19 v20 : Value), κ.n - j ≤ dd → Env κ R xb nb db ob dv Zc O Z w → j ≤ 4194304 → (j < κ.n → O ⟨R, j, none⟩) → (∀ i, j < i → i < κ.n → ¬ O ⟨R, i, none⟩ ∧ ¬ Z ⟨R, i, none⟩) →
      Taken κ R V O J j w → (κ.n ≤ j → ∀ i, J i → i ≠ j) → (∀ i, κ.n ≤ i → ¬ O ⟨R, i, none⟩) → T Try.prog Post (1000 + (FD + 300) * (dd + 1)) false (wcx κ O Z (j + 1) J) (G ((baseD 27).at ⟨#[.pointer (some ⟨κ.Wg, 0, none⟩), .pointer (some xb), .pointer (some nb), .pointer (some db), .pointer (some ob), .int .i64 (j : Int), v6, v7, v8, v9, v10, v11, v12, v13, v14, v15, v16, v17, v18, v19, v20], [dcall 28 #[.pointer (some ⟨κ.Wg, 0, none⟩)]]⟩ [.code lbInt, .inLoop lbInt, .inBlock 0]) [bot]) w := by
  intro dd
  induction dd with
  | zero =>
    intro j J O Z w v6 v7 v8 v9 v10 v11 v12 v13 v14 v15 v16 v17 v18 v19 v20 hdd hE hjb hOj hx hJ hJn hnR
    have hge : κ.n ≤ j := by omega
    have hlt : ¬ (j : Int) < (κ.n : Int) := by omega
    have hn : (wcx κ O Z (j + 1) J).Neat := hE.neat
    obtain ⟨zn1, zn2⟩ := hE.zn
    generalize hfu : 1000 + (FD + 300) * (0 + 1) = fu
    refine T.le (m := 850 + 40) (by omega) ?_
    simp only [lbInt, Try.f27, loopOf, Option.getD_some, Option.none_or, Option.some_or, Option.or_none]
    refine T.goes1 hn rfl (fun _ _ _ => ?_); rw [stepG_seq]; simp only [goes_go]; refine ⟨by u_nil, ?_⟩
    refine T.goes1 hn rfl (fun _ _ _ => ?_); rw [stepG_seq]; simp only [goes_go]; refine ⟨by u_nil, ?_⟩
    refine T.goes1 hn rfl (fun _ _ _ => ?_); rw [stepG_region]; simp only [goes_go, List.size_toArray, List.length_cons, List.length_nil, Nat.reduceAdd, Nat.zero_add, List.range, List.range.loop]; refine ⟨by u_nil, ?_⟩
    refine T.goes1 hn rfl (fun _ _ _ => ?_); refine goes_oper_k rfl rfl (by k_ne) (fun K hK => ?_); go_simp; refine hK _ _ ⟨?_, ?_⟩; (u_none; intro e he; have hm := mem_listed he; simp [go_sem, *] at hm); clear hK K; try walk_nrm
    refine T.quiet hn rfl rfl (by k_ne) (fun w₁ hF hL K hK => ?_); have fc := (hF.cell _ (.inr (.inr zn1))).1.trans zn2; go_simp; refine hK _ ?_ ?_; (intro e he; simp [go_sem, *] at he; subst he; exact EvOk.rd false (.inr zn1)); clear hK K fc; try walk_nrm
    refine T.goes1 hn rfl (fun _ _ _ => ?_); refine goes_oper_k rfl rfl (by k_ne) (fun K hK => ?_); go_simp; refine hK _ _ ⟨?_, ?_⟩; (u_none; intro e he; have hm := mem_listed he; simp [go_sem, *] at hm); clear hK K; try walk_nrm
    refine T.goes1 hn rfl (fun _ _ _ => ?_); rw [stepG_region_end]; simp only [goes_go]; refine ⟨by u_nil, ?_⟩
    refine T.goes1 hn rfl (fun _ _ _ => ?_); rw [stepG_cond (t := false) rfl]; simp only [goes_go, if_true, if_false, Bool.false_eq_true, ↓reduceIte]; refine ⟨by u_nil, ?_⟩
    refine T.goes1 hn rfl (fun _ _ _ => ?_); refine goes_exit rfl ?_; refine ⟨by u_nil, ?_⟩
    refine T.goes1 hn rfl (fun _ _ _ => ?_); rw [stepG_end]; simp only [goes_go]; refine ⟨by u_nil, ?_⟩
    refine T.goes1 hn rfl (fun _ _ _ => ?_); rw [stepG_unwind_enter rfl Try.func28 (by kernel_rfl) rfl]; simp only [goes_go]; refine ⟨by u_nil, ?_⟩; walk_nrmf Try.f28
    refine T.le (m := 2 + 700) (by omega) (done_walk wgLib hn rfl rfl rfl (by show κ.n < j + 1; omega) (fun w1 r i hi => ?_) rfl (quitsInt _))
    obtain ⟨Y, y1, y2, y3⟩ := (hJ i hi).2 (hJn hge i hi)
    rw [hD, hcell]
    exact (y3.stable hVs (fun a ha => r.cell a (.inl (y1 a ha)))).mono hVm (fun a ha => .inl (y1 a ha))
  | succ dd ih =>
    intro j J O Z w v6 v7 v8 v9 v10 v11 v12 v13 v14 v15 v16 v17 v18 v19 v20 hdd hE hjb hOj hx hJ hJn hnR
    have hn : (wcx κ O Z (j + 1) J).Neat := hE.neat
    obtain ⟨zn1, zn2⟩ := hE.zn
    generalize hfu : 1000 + (FD + 300) * (dd + 1 + 1) = fu
    have hfu2 : 1000 + (FD + 300) * (dd + 1) + FD + 300 ≤ fu := by rw [← hfu, Nat.mul_add (FD + 300) (dd + 1) 1]; omega
    by_cases hge : κ.n ≤ j
    · have hlt : ¬ (j : Int) < (κ.n : Int) := by omega
      refine T.le (m := 850 + 40) (by omega) ?_
      clear ih
      simp only [lbInt, Try.f27, loopOf, Option.getD_some, Option.none_or, Option.some_or, Option.or_none]
      refine T.goes1 hn rfl (fun _ _ _ => ?_); rw [stepG_seq]; simp only [goes_go]; refine ⟨by u_nil, ?_⟩
      refine T.goes1 hn rfl (fun _ _ _ => ?_); rw [stepG_seq]; simp only [goes_go]; refine ⟨by u_nil, ?_⟩
      refine T.goes1 hn rfl (fun _ _ _ => ?_); rw [stepG_region]; simp only [goes_go, List.size_toArray, List.length_cons, List.length_nil, Nat.reduceAdd, Nat.zero_add, List.range, List.range.loop]; refine ⟨by u_nil, ?_⟩
      refine T.goes1 hn rfl (fun _ _ _ => ?_); refine goes_oper_k rfl rfl (by k_ne) (fun K hK => ?_); go_simp; refine hK _ _ ⟨?_, ?_⟩; (u_none; intro e he; have hm := mem_listed he; simp [go_sem, *] at hm); clear hK K; try walk_nrm
      refine T.quiet hn rfl rfl (by k_ne) (fun w₁ hF hL K hK => ?_); have fc := (hF.cell _ (.inr (.inr zn1))).1.trans zn2; go_simp; refine hK _ ?_ ?_; (intro e he; simp [go_sem, *] at he; subst he; exact EvOk.rd false (.inr zn1)); clear hK K fc; try walk_nrm
      refine T.goes1 hn rfl (fun _ _ _ => ?_); refine goes_oper_k rfl rfl (by k_ne) (fun K hK => ?_); go_simp; refine hK _ _ ⟨?_, ?_⟩; (u_none; intro e he; have hm := mem_listed he; simp [go_sem, *] at hm); clear hK K; try walk_nrm
      refine T.goes1 hn rfl (fun _ _ _ => ?_); rw [stepG_region_end]; simp only [goes_go]; refine ⟨by u_nil, ?_⟩
      refine T.goes1 hn rfl (fun _ _ _ => ?_); rw [stepG_cond (t := false) rfl]; simp only [goes_go, if_true, if_false, Bool.false_eq_true, ↓reduceIte]; refine ⟨by u_nil, ?_⟩
      refine T.goes1 hn rfl (fun _ _ _ => ?_); refine goes_exit rfl ?_; refine ⟨by u_nil, ?_⟩
      refine T.goes1 hn rfl (fun _ _ _ => ?_); rw [stepG_end]; simp only [goes_go]; refine ⟨by u_nil, ?_⟩
      refine T.goes1 hn rfl (fun _ _ _ => ?_); rw [stepG_unwind_enter rfl Try.func28 (by kernel_rfl) rfl]; simp only [goes_go]; refine ⟨by u_nil, ?_⟩; walk_nrmf Try.f28
      refine T.le (m := 2 + 700) (by omega) (done_walk wgLib hn rfl rfl rfl (by show κ.n < j + 1; omega) (fun w1 r i hi => ?_) rfl (quitsInt _))
      obtain ⟨Y, y1, y2, y3⟩ := (hJ i hi).2 (hJn hge i hi)
      rw [hD, hcell]
      exact (y3.stable hVs (fun a ha => r.cell a (.inl (y1 a ha)))).mono hVm (fun a ha => .inl (y1 a ha))
    have hjn : j < κ.n := by omega
    have hlt : (j : Int) < (κ.n : Int) := by omega
    refine T.le (m := (1000 + (FD + 300) * (dd + 1) + FD + 200) + 40) (by omega) ?_
    simp only [lbInt, Try.f27, loopOf, Option.getD_some, Option.none_or, Option.some_or, Option.or_none] at ih ⊢
    refine T.goes1 hn rfl (fun _ _ _ => ?_); rw [stepG_seq]; simp only [goes_go]; refine ⟨by u_nil, ?_⟩
    refine T.goes1 hn rfl (fun _ _ _ => ?_); rw [stepG_seq]; simp only [goes_go]; refine ⟨by u_nil, ?_⟩
    refine T.goes1 hn rfl (fun _ _ _ => ?_); rw [stepG_region]; simp only [goes_go, List.size_toArray, List.length_cons, List.length_nil, Nat.reduceAdd, Nat.zero_add, List.range, List.range.loop]; refine ⟨by u_nil, ?_⟩
    refine T.goes1 hn rfl (fun _ _ _ => ?_); refine goes_oper_k rfl rfl (by k_ne) (fun K hK => ?_); go_simp; refine hK _ _ ⟨?_, ?_⟩; (u_none; intro e he; have hm := mem_listed he; simp [go_sem, *] at hm); clear hK K; try walk_nrm
    refine T.quiet hn rfl rfl (by k_ne) (fun w₁ hF hL K hK => ?_); have fc := (hF.cell _ (.inr (.inr zn1))).1.trans zn2; go_simp; refine hK _ ?_ ?_; (intro e he; simp [go_sem, *] at he; subst he; exact EvOk.rd false (.inr zn1)); clear hK K fc; try walk_nrm
    refine T.goes1 hn rfl (fun _ _ _ => ?_); refine goes_oper_k rfl rfl (by k_ne) (fun K hK => ?_); go_simp; refine hK _ _ ⟨?_, ?_⟩; (u_none; intro e he; have hm := mem_listed he; simp [go_sem, *] at hm); clear hK K; try walk_nrm
    refine T.goes1 hn rfl (fun _ _ _ => ?_); rw [stepG_region_end]; simp only [goes_go]; refine ⟨by u_nil, ?_⟩
    refine T.goes1 hn rfl (fun _ _ _ => ?_); rw [stepG_cond (t := true) rfl]; simp only [goes_go, if_true, if_false, Bool.false_eq_true, ↓reduceIte]; refine ⟨by u_nil, ?_⟩
    refine T.goes1 hn rfl (fun _ _ _ => ?_); rw [stepG_skip]; simp only [goes_go]; refine ⟨by u_nil, ?_⟩
    refine T.goes1 hn rfl (fun _ _ _ => ?_); rw [stepG_seq]; simp only [goes_go]; refine ⟨by u_nil, ?_⟩
    refine T.goes1 hn rfl (fun _ _ _ => ?_); rw [stepG_block]; simp only [goes_go]; refine ⟨by u_nil, ?_⟩
    have hOj := hOj hjn
    obtain ⟨zd1, zd2⟩ := hE.zd
    obtain ⟨zo1, zo2⟩ := hE.zo
    have hRow := hE.row j hjn
    refine T.le (m := (1000 + (FD + 300) * (dd + 1) + 150) + FD + 20) (by omega) (task_gen regionInt hdo hfn mix hVt (n := κ.n) (R := R) (db := db) (ob := ob) hn hE.lowc rfl rfl rfl hE.zc ⟨zd1, by rw [← hdv]; exact zd2⟩ ⟨zo1, zo2⟩ hjn (by omega) hOj hRow.1 hRow.2 (by k_ne) (fun w1 X vv r hX hv => ?_))
    have hE1 : Env κ R xb nb db ob dv Zc (fun a => O a ∨ X a) Z w1 := (hE.hold r).more (fun a ha => ⟨fun hz => by have h1 := hE.low a (.inr hz); have h2 := (hX a ha).1; omega, (hX a ha).2, fun e => by have h1 := hE.cl; have h2 := (hX a ha).1; rw [e] at h2; exact absurd h2 (by show ¬ w.heap.size ≤ κ.Cn; omega)⟩)
    have hE2 := hE1.set (A := ⟨R, j, none⟩) (.inl hOj) vv
    have hnX : ∀ x, ¬ X ⟨R, x, none⟩ := fun x hx => by have h1 := (hX _ hx).1; have h2 := hE.rl; exact absurd h1 (by show ¬ w.heap.size ≤ R; omega)
    have hx2 : ∀ i, j < i → i < κ.n → ¬ (O ⟨R, i, none⟩ ∨ X ⟨R, i, none⟩) ∧ ¬ Z ⟨R, i, none⟩ := fun i h1 h2 => ⟨fun h => h.elim (hx i h1 h2).1 (hnX i), (hx i h1 h2).2⟩
    have hnext := fun (j' : Nat) (hO' : ¬ O ⟨R, j', none⟩) (J' : Nat → Prop) (hJ' : ∀ i, J' i → i < κ.n ∧ (i ≠ j' → J i)) (O' : AS) hOO => Taken.next hVs hVm hE hJ hOj hjn r hX hv (j' := j') hO' hJ' (O' := O') hOO
    have hJ0 : ∀ i, J i → i < κ.n := fun i hi => (hJ i hi).1
    generalize w1.setCell ⟨R, j, none⟩ vv = w2 at hE2 hnext ⊢
    replace hn : (wcx κ (fun a => O a ∨ X a) Z (j + 1) J).Neat := hE2.neat
    clear hRow zd1 zd2 zo1 zo2 zn1 zn2
    obtain ⟨zx1, zx2⟩ := hE2.zx
    refine T.le (m := (1000 + (FD + 300) * (dd + 1) + 120) + 20) (by omega) ?_
    refine T.goes1 hn rfl (fun _ _ _ => ?_); rw [stepG_region_end]; simp only [goes_go]; refine ⟨by u_nil, ?_⟩
    refine T.goes1 hn rfl (fun _ _ _ => ?_); rw [stepG_inBlock]; simp only [goes_go]; refine ⟨by u_nil, ?_⟩
    refine T.goes1 hn rfl (fun _ _ _ => ?_); rw [stepG_region]; simp only [goes_go, List.size_toArray, List.length_cons, List.length_nil, Nat.reduceAdd, Nat.zero_add, List.range, List.range.loop]; refine ⟨by u_nil, ?_⟩
    refine T.quiet hn rfl rfl (by k_ne) (fun w₁ hF hL K hK => ?_); have fc := (hF.cell _ (.inr (.inr zx1))).1.trans zx2; go_simp; refine hK _ ?_ ?_; (intro e he; simp [go_sem, *] at he; subst he; exact EvOk.rd false (.inr zx1)); clear hK K fc; try walk_nrm
    refine T.goes1 hn rfl (fun _ _ _ => ?_); refine goes_call rfl rfl (by k_ne) rfl Try.func10 (by kernel_rfl) rfl ⟨by u_nil, ?_⟩; walk_nrmf Try.f10
    have hcl : ∀ i, κ.cell i = ⟨R, i, none⟩ := fun i => by rw [hcell]
    refine T.le (m := (1000 + (FD + 300) * (dd + 1) + 20) + 60) (by omega) (tick_walk hn rfl rfl (by omega) (fun a ha => hE2.cn a (by rcases ha with h | h | h; exact .inl h; exact h.elim; exact .inr h)) (fun i h1 h2 => by rw [hcl]; exact hx2 i (by omega) h2) (fun w3 j' r3 h1 h2 => ?_) (fun w3 j' r3 h1 h2 => ?_))
    · obtain ⟨Vv, hVv⟩ : ∃ Vv : Int, ((j' + 1 : Nat) : Int) = Vv := ⟨_, rfl⟩
      have hsub : IntKind.i64.wrap (Vv - 1) = (j' : Int) := by rw [← hVv, IntKind.wrap_i64]; omega
      rw [hVv, hcl j']
      clear hVv
      have hless : Less ⟨fun a => O a ∨ X a, fun a => none3 a ∨ a = ⟨R, j', none⟩, Z, none, some (κ, .m0, j' + 1, fun i => J i ∨ i = j'), 0⟩ (wcx κ (fun a => (O a ∨ X a) ∨ a = ⟨R, j', none⟩) Z (j' + 1) (fun i => J i ∨ i = j')) :=
        ⟨fun a ha => ha.elim (fun h => h.elim .inl (fun e => .inr (.inr e))) (fun h => h.elim), fun a h => h.elim, fun _ _ h => h, fun a hz => ⟨fun h => h.elim (hE2.oz a hz) (fun e => (hx2 j' (by omega) h2).2 (e ▸ hz)), fun h => h⟩, fun a hz => .inl hz, rfl, rfl, rfl, fun κ' ms lb J' h => by injection h with e; injection e with _ e; injection e with e _; exact e.symm⟩
      walk_nrm
      refine T.turn hless rfl (fun _ _ _ => ?_); refine goes_oper_k rfl rfl (by k_ne) (fun K hK => ?_); go_simp; refine hK _ _ ⟨?_, ?_⟩; (u_none; intro e he; have hm := mem_listed he; simp [go_sem, *] at hm); clear hK K; try walk_nrm
      have hE3 : Env κ R xb nb db ob dv Zc (fun a => (O a ∨ X a) ∨ a = ⟨R, j', none⟩) Z w3 := (hE2.hold r3).more (fun a e => by rw [e]; exact ⟨(hx2 j' (by omega) h2).2, Nat.lt_of_lt_of_le hE2.rl r3.size, fun e => by have := congrArg Addr.block e; exact hE.rc this⟩)
      replace hn : (wcx κ (fun a => (O a ∨ X a) ∨ a = ⟨R, j', none⟩) Z (j' + 1) (fun i => J i ∨ i = j')).Neat := hE3.neat
      refine T.goes1 hn rfl (fun _ _ _ => ?_); refine goes_oper_k rfl rfl (by k_ne) (fun K hK => ?_); go_simp; refine hK _ _ ⟨?_, ?_⟩; (u_none; intro e he; have hm := mem_listed he; simp [go_sem, *] at hm); clear hK K; try walk_nrm
      refine T.goes1 hn rfl (fun _ _ _ => ?_); rw [stepG_region_end]; simp only [goes_go]; refine ⟨by u_nil, ?_⟩
      refine T.goes1 hn rfl (fun _ _ _ => ?_); rw [stepG_inLoop]; simp only [goes_go]; refine ⟨by u_nil, ?_⟩
      refine T.le (m := 1000 + (FD + 300) * (dd + 1)) (by omega) (ih j' _ _ Z w3 _ _ _ _ _ _ _ _ _ _ _ _ _ _ _ (by omega) hE3 (by omega) (fun _ => .inr rfl) (fun i h3 h4 => ⟨fun h => h.elim (hx2 i (by omega) h4).1 (fun e => by injection e with _ e; omega), (hx2 i (by omega) h4).2⟩) ?_ (fun h => by omega) (fun i h3 h => h.elim (fun h => h.elim (hnR i h3) (hnX i)) (fun e => by injection e with _ e; omega)))
      exact ((hnext j' (hx j' (by omega) h2).1 _ (fun i hi => hi.elim (fun h => ⟨hJ0 i h, fun _ => h⟩) (fun e => ⟨by omega, fun h => absurd e h⟩)) _ (fun a ha => ha)).hold hVs (fun a ha => r3.cell a (.inl ha))).grow (fun a ha => .inl ha)
    · obtain ⟨Vv, hVv⟩ : ∃ Vv : Int, ((j' + 1 : Nat) : Int) = Vv := ⟨_, rfl⟩
      have hsub : IntKind.i64.wrap (Vv - 1) = (j' : Int) := by rw [← hVv, IntKind.wrap_i64]; omega
      rw [hVv]
      clear hVv
      have hE3 : Env κ R xb nb db ob dv Zc (fun a => O a ∨ X a) Z w3 := hE2.hold r3
      replace hn : (wcx κ (fun a => O a ∨ X a) Z (j' + 1) J).Neat := hE3.neat
      walk_nrm
      refine T.goes1 hn rfl (fun _ _ _ => ?_); refine goes_oper_k rfl rfl (by k_ne) (fun K hK => ?_); go_simp; refine hK _ _ ⟨?_, ?_⟩; (u_none; intro e he; have hm := mem_listed he; simp [go_sem, *] at hm); clear hK K; try walk_nrm
      refine T.goes1 hn rfl (fun _ _ _ => ?_); refine goes_oper_k rfl rfl (by k_ne) (fun K hK => ?_); go_simp; refine hK _ _ ⟨?_, ?_⟩; (u_none; intro e he; have hm := mem_listed he; simp [go_sem, *] at hm); clear hK K; try walk_nrm
      refine T.goes1 hn rfl (fun _ _ _ => ?_); rw [stepG_region_end]; simp only [goes_go]; refine ⟨by u_nil, ?_⟩
      refine T.goes1 hn rfl (fun _ _ _ => ?_); rw [stepG_inLoop]; simp only [goes_go]; refine ⟨by u_nil, ?_⟩
      refine T.le (m := 1000 + (FD + 300) * (dd + 1)) (by omega) (ih j' _ _ Z w3 _ _ _ _ _ _ _ _ _ _ _ _ _ _ _ (by omega) hE3 h2 (fun h => by omega) (fun i h3 h4 => by omega) ?_ (fun _ i hi e => by have := hJ0 i hi; omega) (fun i h3 h => h.elim (hnR i h3) (hnX i)))
      exact (hnext j' (fun h => hnR j' h1 h) _ (fun i hi => ⟨hJ0 i hi, fun _ => hi⟩) _ (fun a ha => ha)).hold hVs (fun a ha => r3.cell a (.inl ha))
set_option maxRecDepth 100000 in
set_option maxHeartbeats 4000000 in
theorem bornInt (a0 a1 a2 a3 a4 : Value) (w : World) : stepG Try.prog false (born Try.prog { target := .fn (.func 27) #[a0, a1, a2, a3, a4], args := #[] }) w =
    .go (G ((baseD 27).at ⟨#[a0, a1, a2, a3, a4, undef, undef, undef, undef, undef, undef, undef, undef, undef, undef, undef, undef, undef, undef, undef, undef], []⟩ [.code (Try.f27.body.getD .skip)]) [bot]) w #[] := by
  simp [born, stepG, unwind, callDeferred, invoke, callFunc, Try.func27, Try.f27, seen, GStep.after, G, Frame.enter, Frame.at, baseD, bot]
set_option maxRecDepth 100000 in
set_option maxHeartbeats 16000000 in
/-- ████ a worker ████ -/
theorem workInt {d0 : FuncId} {caps : Array Value} {V : Nat → AS → Value → World → Prop} {FD : Nat} (hdo : TaskOk Try.prog Post d0 caps Zc V FD)
    (hfn : ∃ fn c, Try.prog.funcs[d0]? = some fn ∧ (fn.name == "runtime.NumGoroutine") = false ∧ fn.body = some c) (hVt : ∀ j X v w, V j X v w → (fun v => ∃ z, v = .int .i64 z) v) (hVs : VStable V) (hVm : VMono V)
    (hcell : κ.cell = fun j => ⟨R, j, none⟩) (hD : κ.D = doneAt κ.cell V) (hn4 : κ.n ≤ 4096) (hdv : dv = .func (.func d0) #[] caps) (hE : Env κ R xb nb db ob dv Zc none3 Z w) (hxZ : ∀ i, i < κ.n → ¬ Z ⟨R, i, none⟩) :
    T Try.prog Post (1000 + (FD + 300) * (κ.n + 1) + 200) false (wcx κ none3 Z 0 (fun _ => False)) (born Try.prog { target := .fn (.func 27) #[.pointer (some ⟨κ.Wg, 0, none⟩), .pointer (some xb), .pointer (some nb), .pointer (some db), .pointer (some ob)], args := #[] }) w := by
  have hn : (wcx κ none3 Z 0 (fun _ => False)).Neat := hE.neat
  have hloop := @loopInt Post κ R xb nb db ob dv Zc d0 caps V FD hdo hfn hVt hVs hVm hcell hD hn4 hdv κ.n
  refine T.le (m := (1000 + (FD + 300) * (κ.n + 1) + 120) + 40) (by omega) ?_
  refine T.goes1 hn rfl (fun _ _ _ => ?_); rw [bornInt]; simp only [goes_go]; refine ⟨by u_nil, ?_⟩
  simp only [lbInt, Try.f27, loopOf, Option.getD_some, Option.none_or, Option.some_or, Option.or_none] at hloop ⊢
  obtain ⟨zx1, zx2⟩ := hE.zx
  refine T.goes1 hn rfl (fun _ _ _ => ?_); rw [stepG_seq]; simp only [goes_go]; refine ⟨by u_nil, ?_⟩
  refine T.goes1 hn rfl (fun _ _ _ => ?_); rw [stepG_region]; simp only [goes_go, List.size_toArray, List.length_cons, List.length_nil, Nat.reduceAdd, Nat.zero_add, List.range, List.range.loop]; refine ⟨by u_nil, ?_⟩
  refine T.goes1 hn rfl (fun _ _ _ => ?_); rw [stepG_defer rfl rfl (by k_ne) rfl]; simp only [goes_go]; refine ⟨by u_nil, ?_⟩; walk_nrm
  refine T.goes1 hn rfl (fun _ _ _ => ?_); rw [stepG_region_end]; simp only [goes_go]; refine ⟨by u_nil, ?_⟩
  refine T.goes1 hn rfl (fun _ _ _ => ?_); rw [stepG_seq]; simp only [goes_go]; refine ⟨by u_nil, ?_⟩
  refine T.goes1 hn rfl (fun _ _ _ => ?_); rw [stepG_region]; simp only [goes_go, List.size_toArray, List.length_cons, List.length_nil, Nat.reduceAdd, Nat.zero_add, List.range, List.range.loop]; refine ⟨by u_nil, ?_⟩
  refine T.quiet hn rfl rfl (by k_ne) (fun w₁ hF hL K hK => ?_); have fc := (hF.cell _ (.inr (.inr zx1))).1.trans zx2; go_simp; refine hK _ ?_ ?_; (intro e he; simp [go_sem, *] at he; subst he; exact EvOk.rd false (.inr zx1)); clear hK K fc; try walk_nrm
  refine T.goes1 hn rfl (fun _ _ _ => ?_); refine goes_call rfl rfl (by k_ne) rfl Try.func10 (by kernel_rfl) rfl ⟨by u_nil, ?_⟩; walk_nrmf Try.f10
  have hcl : ∀ i, κ.cell i = ⟨R, i, none⟩ := fun i => by rw [hcell]
  refine T.le (m := (1000 + (FD + 300) * (κ.n + 1) + 20) + 60) (by omega) (tick_walk hn rfl rfl (Nat.zero_le _) (fun a ha => hE.cn a (by rcases ha with h | h | h; exact .inl h; exact h.elim; exact .inr h)) (fun i h1 h2 => by rw [hcl]; exact ⟨fun h => h, hxZ i h2⟩) (fun w3 j' r3 h1 h2 => ?_) (fun w3 j' r3 h1 h2 => ?_))
  · obtain ⟨Vv, hVv⟩ : ∃ Vv : Int, ((j' + 1 : Nat) : Int) = Vv := ⟨_, rfl⟩
    have hsub : IntKind.i64.wrap (Vv - 1) = (j' : Int) := by rw [← hVv, IntKind.wrap_i64]; omega
    rw [hVv, hcl j']
    clear hVv
    have hless : Less ⟨none3, fun a => none3 a ∨ a = ⟨R, j', none⟩, Z, none, some (κ, .m0, j' + 1, fun i => False ∨ i = j'), 0⟩ (wcx κ (fun a => a = ⟨R, j', none⟩) Z (j' + 1) (fun i => False ∨ i = j')) :=
      ⟨fun a ha => ha.elim (fun e => .inr (.inr e)) (fun h => h.elim), fun a h => h.elim, fun _ _ h => h, fun a hz => ⟨fun e => hxZ j' h2 (e ▸ hz), fun h => h⟩, fun a hz => .inl hz, rfl, rfl, rfl, fun κ' ms lb J' h => by injection h with e; injection e with _ e; injection e with e _; exact e.symm⟩
    walk_nrm
    refine T.turn hless rfl (fun _ _ _ => ?_); refine goes_oper_k rfl rfl (by k_ne) (fun K hK => ?_); go_simp; refine hK _ _ ⟨?_, ?_⟩; (u_none; intro e he; have hm := mem_listed he; simp [go_sem, *] at hm); clear hK K; try walk_nrm
    have hE3 : Env κ R xb nb db ob dv Zc (fun a => a = ⟨R, j', none⟩) Z w3 := by
      have h0 := (hE.hold r3).more (X := fun a => a = ⟨R, j', none⟩) (fun a e => by rw [e]; exact ⟨hxZ j' h2, Nat.lt_of_lt_of_le hE.rl r3.size, fun e => by have := congrArg Addr.block e; exact hE.rc this⟩)
      have e : (fun a => none3 a ∨ a = (⟨R, j', none⟩ : Addr)) = (fun a => a = ⟨R, j', none⟩) := by funext a; exact propext ⟨fun h => h.elim (fun h => h.elim) id, .inr⟩
      rw [e] at h0; exact h0
    replace hn : (wcx κ (fun a => a = ⟨R, j', none⟩) Z (j' + 1) (fun i => False ∨ i = j')).Neat := hE3.neat
    refine T.goes1 hn rfl (fun _ _ _ => ?_); refine goes_oper_k rfl rfl (by k_ne) (fun K hK => ?_); go_simp; refine hK _ _ ⟨?_, ?_⟩; (u_none; intro e he; have hm := mem_listed he; simp [go_sem, *] at hm); clear hK K; try walk_nrm
    refine T.goes1 hn rfl (fun _ _ _ => ?_); rw [stepG_region_end]; simp only [goes_go]; refine ⟨by u_nil, ?_⟩
    refine T.goes1 hn rfl (fun _ _ _ => ?_); rw [stepG_block]; simp only [goes_go]; refine ⟨by u_nil, ?_⟩
    refine T.goes1 hn rfl (fun _ _ _ => ?_); rw [stepG_loop]; simp only [goes_go]; refine ⟨by u_nil, ?_⟩
    refine T.le (m := 1000 + (FD + 300) * (κ.n + 1)) (by omega) (hloop j' _ _ Z w3 _ _ _ _ _ _ _ _ _ _ _ _ _ _ _ (by omega) hE3 (by omega) (fun _ => rfl) (fun i h3 h4 => ⟨fun e => by injection e with _ e; omega, hxZ i h4⟩) ?_ (fun h => by omega) (fun i h3 e => by injection e with _ e; omega))
    exact fun i hi => ⟨by rcases hi with hi | hi; exact hi.elim; omega, fun h => (hi.elim (fun x => x.elim) (fun e => absurd e h))⟩
  · obtain ⟨Vv, hVv⟩ : ∃ Vv : Int, ((j' + 1 : Nat) : Int) = Vv := ⟨_, rfl⟩
    have hsub : IntKind.i64.wrap (Vv - 1) = (j' : Int) := by rw [← hVv, IntKind.wrap_i64]; omega
    rw [hVv]
    clear hVv
    have hE3 : Env κ R xb nb db ob dv Zc none3 Z w3 := hE.hold r3
    replace hn : (wcx κ none3 Z (j' + 1) (fun _ => False)).Neat := hE3.neat
    walk_nrm
    refine T.goes1 hn rfl (fun _ _ _ => ?_); refine goes_oper_k rfl rfl (by k_ne) (fun K hK => ?_); go_simp; refine hK _ _ ⟨?_, ?_⟩; (u_none; intro e he; have hm := mem_listed he; simp [go_sem, *] at hm); clear hK K; try walk_nrm
    refine T.goes1 hn rfl (fun _ _ _ => ?_); refine goes_oper_k rfl rfl (by k_ne) (fun K hK => ?_); go_simp; refine hK _ _ ⟨?_, ?_⟩; (u_none; intro e he; have hm := mem_listed he; simp [go_sem, *] at hm); clear hK K; try walk_nrm
    refine T.goes1 hn rfl (fun _ _ _ => ?_); rw [stepG_region_end]; simp only [goes_go]; refine ⟨by u_nil, ?_⟩
    refine T.goes1 hn rfl (fun _ _ _ => ?_); rw [stepG_block]; simp only [goes_go]; refine ⟨by u_nil, ?_⟩
    refine T.goes1 hn rfl (fun _ _ _ => ?_); rw [stepG_loop]; simp only [goes_go]; refine ⟨by u_nil, ?_⟩
    exact T.le (m := 1000 + (FD + 300) * (κ.n + 1)) (by omega) (hloop j' _ _ Z w3 _ _ _ _ _ _ _ _ _ _ _ _ _ _ _ (by omega) hE3 h2 (fun h => by omega) (fun i h3 h4 => by omega) (fun i hi => hi.elim) (fun _ i hi => hi.elim) (fun i _ h => h))
noncomputable def lbInts : Code := (loopOf (Try.f32.body.getD .skip)).getD .skip
set_option maxRecDepth 100000 in
set_option maxHeartbeats 4000000 in
theorem quitsInts (Tt : Array Value) : QuitsD Try.prog 2 0 (G { (baseD 32).at ⟨Tt, []⟩ [] with mode := .returning } [bot]) := by
  refine QuitsD.ctl (g' := G bot []) rfl (fun w => ?_) ?_
  · simp [G, stepG, unwind, doReturn, results, Frame.at, baseD, bot, Try.func32, Try.f32, seen, GStep.after, goexitEntry]
  refine QuitsD.ctl (g' := { G bot [] with status := .finished }) rfl (fun w => ?_) ⟨rfl, rfl⟩
  simp [G, stepG, unwind, bot, goexitEntry, Frame.catches]
  rfl
set_option maxRecDepth 100000 in
set_option maxHeartbeats 16000000 in
/-- a worker, ahead of its test -/
theorem loopInts {d0 : FuncId} {caps : Array Value} {V : Nat → AS → Value → World → Prop} {FD : Nat} (hdo : TaskOk Try.prog Post d0 caps Zc V FD)
    (hfn : ∃ fn c, Try.prog.funcs[d0]? = some fn ∧ (fn.name == "runtime.NumGoroutine") = false ∧ fn.body = some c) (hVt : ∀ j X v w, V j X v w → (fun v => ∃ a l m, v = .slice a l m) v) (hVs : VStable V) (hVm : VMono V)
    (hcell : κ.cell = fun j => ⟨R, j, none⟩) (hD : κ.D = doneAt κ.cell V) (hn4 : κ.n ≤ 4096) (hdv : dv = .func (.func d0) #[] caps) : ∀ (dd : Nat) (j : Nat) (J : Nat → Prop) (O Z : AS) (w : World) (v6 v7 v8 v9 v10 v11 v12 v13 v14 v15 v16 v17 v18 v19 v20 : Value), κ.n - j ≤ dd → Env κ R xb nb db ob dv Zc O Z w → j ≤ 4194304 → (j < κ.n → O ⟨R, j, none⟩) → (∀ i, j < i → i < κ.n → ¬ O ⟨R, i, none⟩ ∧ ¬ Z ⟨R, i, none⟩) →
      Taken κ R V O J j w → (κ.n ≤ j → ∀ i, J i → i ≠ j) → (∀ i, κ.n ≤ i → ¬ O ⟨R, i, none⟩) → T Try.prog Post (1000 + (FD + 300) * (dd + 1)) false (wcx κ O Z (j + 1) J) (G ((baseD 32).at ⟨#[.pointer (some ⟨κ.Wg, 0, none⟩), .pointer (some xb), .pointer (some nb), .pointer (some db), .pointer (some ob), .int .i64 (j : Int), v6, v7, v8, v9, v10, v11, v12, v13, v14, v15, v16, v17, v18, v19, v20], [dcall 28 #[.pointer (some ⟨κ.Wg, 0, none⟩)]]⟩ [.code lbInts, .inLoop lbInts, .inBlock 0]) [bot]) w := by
  intro dd
  induction dd with
  | zero =>
    intro j J O Z w v6 v7 v8 v9 v10 v11 v12 v13 v14 v15 v16 v17 v18 v19 v20 hdd hE hjb hOj hx hJ hJn hnR
    have hge : κ.n ≤ j := by omega
    have hlt : ¬ (j : Int) < (κ.n : Int) := by omega
    have hn : (wcx κ O Z (j + 1) J).Neat := hE.neat
    obtain ⟨zn1, zn2⟩ := hE.zn
    generalize hfu : 1000 + (FD + 300) * (0 + 1) = fu
    refine T.le (m := 850 + 40) (by omega) ?_
    simp only [lbInts, Try.f32, loopOf, Option.getD_some, Option.none_or, Option.some_or, Option.or_none]
    refine T.goes1 hn rfl (fun _ _ _ => ?_); rw [stepG_seq]; simp only [goes_go]; refine ⟨by u_nil, ?_⟩
    refine T.goes1 hn rfl (fun _ _ _ => ?_); rw [stepG_seq]; simp only [goes_go]; refine ⟨by u_nil, ?_⟩
    refine T.goes1 hn rfl (fun _ _ _ => ?_); rw [stepG_region]; simp only [goes_go, List.size_toArray, List.length_cons, List.length_nil, Nat.reduceAdd, Nat.zero_add, List.range, List.range.loop]; refine ⟨by u_nil, ?_⟩
    refine T.goes1 hn rfl (fun _ _ _ => ?_); refine goes_oper_k rfl rfl (by k_ne) (fun K hK => ?_); go_simp; refine hK _ _ ⟨?_, ?_⟩; (u_none; intro e he; have hm := mem_listed he; simp [go_sem, *] at hm); clear hK K; try walk_nrm
    refine T.quiet hn rfl rfl (by k_ne) (fun w₁ hF hL K hK => ?_); have fc := (hF.cell _ (.inr (.inr zn1))).1.trans zn2; go_simp; refine hK _ ?_ ?_; (intro e he; simp [go_sem, *] at he; subst he; exact EvOk.rd false (.inr zn1)); clear hK K fc; try walk_nrm
    refine T.goes1 hn rfl (fun _ _ _ => ?_); refine goes_oper_k rfl rfl (by k_ne) (fun K hK => ?_); go_simp; refine hK _ _ ⟨?_, ?_⟩; (u_none; intro e he; have hm := mem_listed he; simp [go_sem, *] at hm); clear hK K; try walk_nrm
    refine T.goes1 hn rfl (fun _ _ _ => ?_); rw [stepG_region_end]; simp only [goes_go]; refine ⟨by u_nil, ?_⟩
    refine T.goes1 hn rfl (fun _ _ _ => ?_); rw [stepG_cond (t := false) rfl]; simp only [goes_go, if_true, if_false, Bool.false_eq_true, ↓reduceIte]; refine ⟨by u_nil, ?_⟩
    refine T.goes1 hn rfl (fun _ _ _ => ?_); refine goes_exit rfl ?_; refine ⟨by u_nil, ?_⟩
    refine T.goes1 hn rfl (fun _ _ _ => ?_); rw [stepG_end]; simp only [goes_go]; refine ⟨by u_nil, ?_⟩
    refine T.goes1 hn rfl (fun _ _ _ => ?_); rw [stepG_unwind_enter rfl Try.func28 (by kernel_rfl) rfl]; simp only [goes_go]; refine ⟨by u_nil, ?_⟩; walk_nrmf Try.f28
    refine T.le (m := 2 + 700) (by omega) (done_walk wgLib hn rfl rfl rfl (by show κ.n < j + 1; omega) (fun w1 r i hi => ?_) rfl (quitsInts _))
    obtain ⟨Y, y1, y2, y3⟩ := (hJ i hi).2 (hJn hge i hi)
    rw [hD, hcell]
    exact (y3.stable hVs (fun a ha => r.cell a (.inl (y1 a ha)))).mono hVm (fun a ha => .inl (y1 a ha))
  | succ dd ih =>
    intro j J O Z w v6 v7 v8 v9 v10 v11 v12 v13 v14 v15 v16 v17 v18 v19 v20 hdd hE hjb hOj hx hJ hJn hnR
    have hn : (wcx κ O Z (j + 1) J).Neat := hE.neat
    obtain ⟨zn1, zn2⟩ := hE.zn
    generalize hfu : 1000 + (FD + 300) * (dd + 1 + 1) = fu
    have hfu2 : 1000 + (FD + 300) * (dd + 1) + FD + 300 ≤ fu := by rw [← hfu, Nat.mul_add (FD + 300) (dd + 1) 1]; omega
    by_cases hge : κ.n ≤ j
    · have hlt : ¬ (j : Int) < (κ.n : Int) := by omega
      refine T.le (m := 850 + 40) (by omega) ?_
      clear ih
      simp only [lbInts, Try.f32, loopOf, Option.getD_some, Option.none_or, Option.some_or, Option.or_none]
      refine T.goes1 hn rfl (fun _ _ _ => ?_); rw [stepG_seq]; simp only [goes_go]; refine ⟨by u_nil, ?_⟩
      refine T.goes1 hn rfl (fun _ _ _ => ?_); rw [stepG_seq]; simp only [goes_go]; refine ⟨by u_nil, ?_⟩
      refine T.goes1 hn rfl (fun _ _ _ => ?_); rw [stepG_region]; simp only [goes_go, List.size_toArray, List.length_cons, List.length_nil, Nat.reduceAdd, Nat.zero_add, List.range, List.range.loop]; refine ⟨by u_nil, ?_⟩
      refine T.goes1 hn rfl (fun _ _ _ => ?_); refine goes_oper_k rfl rfl (by k_ne) (fun K hK => ?_); go_simp; refine hK _ _ ⟨?_, ?_⟩; (u_none; intro e he; have hm := mem_listed he; simp [go_sem, *] at hm); clear hK K; try walk_nrm
      refine T.quiet hn rfl rfl (by k_ne) (fun w₁ hF hL K hK => ?_); have fc := (hF.cell _ (.inr (.inr zn1))).1.trans zn2; go_simp; refine hK _ ?_ ?_; (intro e he; simp [go_sem, *] at he; subst he; exact EvOk.rd false (.inr zn1)); clear hK K fc; try walk_nrm
      refine T.goes1 hn rfl (fun _ _ _ => ?_); refine goes_oper_k rfl rfl (by k_ne) (fun K hK => ?_); go_simp; refine hK _ _ ⟨?_, ?_⟩; (u_none; intro e he; have hm := mem_listed he; simp [go_sem, *] at hm); clear hK K; try walk_nrm
      refine T.goes1 hn rfl (fun _ _ _ => ?_); rw [stepG_region_end]; simp only [goes_go]; refine ⟨by u_nil, ?_⟩
      refine T.goes1 hn rfl (fun _ _ _ => ?_); rw [stepG_cond (t := false) rfl]; simp only [goes_go, if_true, if_false, Bool.false_eq_true, ↓reduceIte]; refine ⟨by u_nil, ?_⟩
      refine T.goes1 hn rfl (fun _ _ _ => ?_); refine goes_exit rfl ?_; refine ⟨by u_nil, ?_⟩
      refine T.goes1 hn rfl (fun _ _ _ => ?_); rw [stepG_end]; simp only [goes_go]; refine ⟨by u_nil, ?_⟩
      refine T.goes1 hn rfl (fun _ _ _ => ?_); rw [stepG_unwind_enter rfl Try.func28 (by kernel_rfl) rfl]; simp only [goes_go]; refine ⟨by u_nil, ?_⟩; walk_nrmf Try.f28
      refine T.le (m := 2 + 700) (by omega) (done_walk wgLib hn rfl rfl rfl (by show κ.n < j + 1; omega) (fun w1 r i hi => ?_) rfl (quitsInts _))
      obtain ⟨Y, y1, y2, y3⟩ := (hJ i hi).2 (hJn hge i hi)
      rw [hD, hcell]
      exact (y3.stable hVs (fun a ha => r.cell a (.inl (y1 a ha)))).mono hVm (fun a ha => .inl (y1 a ha))
    have hjn : j < κ.n := by omega
    have hlt : (j : Int) < (κ.n : Int) := by omega
    refine T.le (m := (1000 + (FD + 300) * (dd + 1) + FD + 200) + 40) (by omega) ?_
    simp only [lbInts, Try.f32, loopOf, Option.getD_some, Option.none_or, Option.some_or, Option.or_none] at ih ⊢
    refine T.goes1 hn rfl (fun _ _ _ => ?_); rw [stepG_seq]; simp only [goes_go]; refine ⟨by u_nil, ?_⟩
    refine T.goes1 hn rfl (fun _ _ _ => ?_); rw [stepG_seq]; simp only [goes_go]; refine ⟨by u_nil, ?_⟩
    refine T.goes1 hn rfl (fun _ _ _ => ?_); rw [stepG_region]; simp only [goes_go, List.size_toArray, List.length_cons, List.length_nil, Nat.reduceAdd, Nat.zero_add, List.range, List.range.loop]; refine ⟨by u_nil, ?_⟩
    refine T.goes1 hn rfl (fun _ _ _ => ?_); refine goes_oper_k rfl rfl (by k_ne) (fun K hK => ?_); go_simp; refine hK _ _ ⟨?_, ?_⟩; (u_none; intro e he; have hm := mem_listed he; simp [go_sem, *] at hm); clear hK K; try walk_nrm
    refine T.quiet hn rfl rfl (by k_ne) (fun w₁ hF hL K hK => ?_); have fc := (hF.cell _ (.inr (.inr zn1))).1.trans zn2; go_simp; refine hK _ ?_ ?_; (intro e he; simp [go_sem, *] at he; subst he; exact EvOk.rd false (.inr zn1)); clear hK K fc; try walk_nrm
    refine T.goes1 hn rfl (fun _ _ _ => ?_); refine goes_oper_k rfl rfl (by k_ne) (fun K hK => ?_); go_simp; refine hK _ _ ⟨?_, ?_⟩; (u_none; intro e he; have hm := mem_listed he; simp [go_sem, *] at hm); clear hK K; try walk_nrm
    refine T.goes1 hn rfl (fun _ _ _ => ?_); rw [stepG_region_end]; simp only [goes_go]; refine ⟨by u_nil, ?_⟩
    refine T.goes1 hn rfl (fun _ _ _ => ?_); rw [stepG_cond (t := true) rfl]; simp only [goes_go, if_true, if_false, Bool.false_eq_true, ↓reduceIte]; refine ⟨by u_nil, ?_⟩
    refine T.goes1 hn rfl (fun _ _ _ => ?_); rw [stepG_skip]; simp only [goes_go]; refine ⟨by u_nil, ?_⟩
    refine T.goes1 hn rfl (fun _ _ _ => ?_); rw [stepG_seq]; simp only [goes_go]; refine ⟨by u_nil, ?_⟩
    refine T.goes1 hn rfl (fun _ _ _ => ?_); rw [stepG_block]; simp only [goes_go]; refine ⟨by u_nil, ?_⟩
    have hOj := hOj hjn
    obtain ⟨zd1, zd2⟩ := hE.zd
    obtain ⟨zo1, zo2⟩ := hE.zo
    have hRow := hE.row j hjn
    refine T.le (m := (1000 + (FD + 300) * (dd + 1) + 150) + FD + 20) (by omega) (task_gen regionInts hdo hfn mix hVt (n := κ.n) (R := R) (db := db) (ob := ob) hn hE.lowc rfl rfl rfl hE.zc ⟨zd1, by rw [← hdv]; exact zd2⟩ ⟨zo1, zo2⟩ hjn (by omega) hOj hRow.1 hRow.2 (by k_ne) (fun w1 X vv r hX hv => ?_))
    have hE1 : Env κ R xb nb db ob dv Zc (fun a => O a ∨ X a) Z w1 := (hE.hold r).more (fun a ha => ⟨fun hz => by have h1 := hE.low a (.inr hz); have h2 := (hX a ha).1; omega, (hX a ha).2, fun e => by have h1 := hE.cl; have h2 := (hX a ha).1; rw [e] at h2; exact absurd h2 (by show ¬ w.heap.size ≤ κ.Cn; omega)⟩)
    have hE2 := hE1.set (A := ⟨R, j, none⟩) (.inl hOj) vv
    have hnX : ∀ x, ¬ X ⟨R, x, none⟩ := fun x hx => by have h1 := (hX _ hx).1; have h2 := hE.rl; exact absurd h1 (by show ¬ w.heap.size ≤ R; omega)
    have hx2 : ∀ i, j < i → i < κ.n → ¬ (O ⟨R, i, none⟩ ∨ X ⟨R, i, none⟩) ∧ ¬ Z ⟨R, i, none⟩ := fun i h1 h2 => ⟨fun h => h.elim (hx i h1 h2).1 (hnX i), (hx i h1 h2).2⟩
    have hnext := fun (j' : Nat) (hO' : ¬ O ⟨R, j', none⟩) (J' : Nat → Prop) (hJ' : ∀ i, J' i → i < κ.n ∧ (i ≠ j' → J i)) (O' : AS) hOO => Taken.next hVs hVm hE hJ hOj hjn r hX hv (j' := j') hO' hJ' (O' := O') hOO
    have hJ0 : ∀ i, J i → i < κ.n := fun i hi => (hJ i hi).1
    generalize w1.setCell ⟨R, j, none⟩ vv = w2 at hE2 hnext ⊢
    replace hn : (wcx κ (fun a => O a ∨ X a) Z (j + 1) J).Neat := hE2.neat
    clear hRow zd1 zd2 zo1 zo2 zn1 zn2
    obtain ⟨zx1, zx2⟩ := hE2.zx
    refine T.le (m := (1000 + (FD + 300) * (dd + 1) + 120) + 20) (by omega) ?_
    refine T.goes1 hn rfl (fun _ _ _ => ?_); rw [stepG_region_end]; simp only [goes_go]; refine ⟨by u_nil, ?_⟩
    refine T.goes1 hn rfl (fun _ _ _ => ?_); rw [stepG_inBlock]; simp only [goes_go]; refine ⟨by u_nil, ?_⟩
    refine T.goes1 hn rfl (fun _ _ _ => ?_); rw [stepG_region]; simp only [goes_go, List.size_toArray, List.length_cons, List.length_nil, Nat.reduceAdd, Nat.zero_add, List.range, List.range.loop]; refine ⟨by u_nil, ?_⟩
    refine T.quiet hn rfl rfl (by k_ne) (fun w₁ hF hL K hK => ?_); have fc := (hF.cell _ (.inr (.inr zx1))).1.trans zx2; go_simp; refine hK _ ?_ ?_; (intro e he; simp [go_sem, *] at he; subst he; exact EvOk.rd false (.inr zx1)); clear hK K fc; try walk_nrm
    refine T.goes1 hn rfl (fun _ _ _ => ?_); refine goes_call rfl rfl (by k_ne) rfl Try.func10 (by kernel_rfl) rfl ⟨by u_nil, ?_⟩; walk_nrmf Try.f10
    have hcl : ∀ i, κ.cell i = ⟨R, i, none⟩ := fun i => by rw [hcell]
    refine T.le (m := (1000 + (FD + 300) * (dd + 1) + 20) + 60) (by omega) (tick_walk hn rfl rfl (by omega) (fun a ha => hE2.cn a (by rcases ha with h | h | h; exact .inl h; exact h.elim; exact .inr h)) (fun i h1 h2 => by rw [hcl]; exact hx2 i (by omega) h2) (fun w3 j' r3 h1 h2 => ?_) (fun w3 j' r3 h1 h2 => ?_))
    · obtain ⟨Vv, hVv⟩ : ∃ Vv : Int, ((j' + 1 : Nat) : Int) = Vv := ⟨_, rfl⟩
      have hsub : IntKind.i64.wrap (Vv - 1) = (j' : Int) := by rw [← hVv, IntKind.wrap_i64]; omega
      rw [hVv, hcl j']
      clear hVv
      have hless : Less ⟨fun a => O a ∨ X a, fun a => none3 a ∨ a = ⟨R, j', none⟩, Z, none, some (κ, .m0, j' + 1, fun i => J i ∨ i = j'), 0⟩ (wcx κ (fun a => (O a ∨ X a) ∨ a = ⟨R, j', none⟩) Z (j' + 1) (fun i => J i ∨ i = j')) :=
        ⟨fun a ha => ha.elim (fun h => h.elim .inl (fun e => .inr (.inr e))) (fun h => h.elim), fun a h => h.elim, fun _ _ h => h, fun a hz => ⟨fun h => h.elim (hE2.oz a hz) (fun e => (hx2 j' (by omega) h2).2 (e ▸ hz)), fun h => h⟩, fun a hz => .inl hz, rfl, rfl, rfl, fun κ' ms lb J' h => by injection h with e; injection e with _ e; injection e with e _; exact e.symm⟩
      walk_nrm
      refine T.turn hless rfl (fun _ _ _ => ?_); refine goes_oper_k rfl rfl (by k_ne) (fun K hK => ?_); go_simp; refine hK _ _ ⟨?_, ?_⟩; (u_none; intro e he; have hm := mem_listed he; simp [go_sem, *] at hm); clear hK K; try walk_nrm
      have hE3 : Env κ R xb nb db ob dv Zc (fun a => (O a ∨ X a) ∨ a = ⟨R, j', none⟩) Z w3 := (hE2.hold r3).more (fun a e => by rw [e]; exact ⟨(hx2 j' (by omega) h2).2, Nat.lt_of_lt_of_le hE2.rl r3.size, fun e => by have := congrArg Addr.block e; exact hE.rc this⟩)
      replace hn : (wcx κ (fun a => (O a ∨ X a) ∨ a = ⟨R, j', none⟩) Z (j' + 1) (fun i => J i ∨ i = j')).Neat := hE3.neat
      refine T.goes1 hn rfl (fun _ _ _ => ?_); refine goes_oper_k rfl rfl (by k_ne) (fun K hK => ?_); go_simp; refine hK _ _ ⟨?_, ?_⟩; (u_none; intro e he; have hm := mem_listed he; simp [go_sem, *] at hm); clear hK K; try walk_nrm
      refine T.goes1 hn rfl (fun _ _ _ => ?_); rw [stepG_region_end]; simp only [goes_go]; refine ⟨by u_nil, ?_⟩
      refine T.goes1 hn rfl (fun _ _ _ => ?_); rw [stepG_inLoop]; simp only [goes_go]; refine ⟨by u_nil, ?_⟩
      refine T.le (m := 1000 + (FD + 300) * (dd + 1)) (by omega) (ih j' _ _ Z w3 _ _ _ _ _ _ _ _ _ _ _ _ _ _ _ (by omega) hE3 (by omega) (fun _ => .inr rfl) (fun i h3 h4 => ⟨fun h => h.elim (hx2 i (by omega) h4).1 (fun e => by injection e with _ e; omega), (hx2 i (by omega) h4).2⟩) ?_ (fun h => by omega) (fun i h3 h => h.elim (fun h => h.elim (hnR i h3) (hnX i)) (fun e => by injection e with _ e; omega)))
      exact ((hnext j' (hx j' (by omega) h2).1 _ (fun i hi => hi.elim (fun h => ⟨hJ0 i h, fun _ => h⟩) (fun e => ⟨by omega, fun h => absurd e h⟩)) _ (fun a ha => ha)).hold hVs (fun a ha => r3.cell a (.inl ha))).grow (fun a ha => .inl ha)
    · obtain ⟨Vv, hVv⟩ : ∃ Vv : Int, ((j' + 1 : Nat) : Int) = Vv := ⟨_, rfl⟩
      have hsub : IntKind.i64.wrap (Vv - 1) = (j' : Int) := by rw [← hVv, IntKind.wrap_i64]; omega
      rw [hVv]
      clear hVv
      have hE3 : Env κ R xb nb db ob dv Zc (fun a => O a ∨ X a) Z w3 := hE2.hold r3
      replace hn : (wcx κ (fun a => O a ∨ X a) Z (j' + 1) J).Neat := hE3.neat
      walk_nrm
      refine T.goes1 hn rfl (fun _ _ _ => ?_); refine goes_oper_k rfl rfl (by k_ne) (fun K hK => ?_); go_simp; refine hK _ _ ⟨?_, ?_⟩; (u_none; intro e he; have hm := mem_listed he; simp [go_sem, *] at hm); clear hK K; try walk_nrm
      refine T.goes1 hn rfl (fun _ _ _ => ?_); refine goes_oper_k rfl rfl (by k_ne) (fun K hK => ?_); go_simp; refine hK _ _ ⟨?_, ?_⟩; (u_none; intro e he; have hm := mem_listed he; simp [go_sem, *] at hm); clear hK K; try walk_nrm
      refine T.goes1 hn rfl (fun _ _ _ => ?_); rw [stepG_region_end]; simp only [goes_go]; refine ⟨by u_nil, ?_⟩
      refine T.goes1 hn rfl (fun _ _ _ => ?_); rw [stepG_inLoop]; simp only [goes_go]; refine ⟨by u_nil, ?_⟩
      refine T.le (m := 1000 + (FD + 300) * (dd + 1)) (by omega) (ih j' _ _ Z w3 _ _ _ _ _ _ _ _ _ _ _ _ _ _ _ (by omega) hE3 h2 (fun h => by omega) (fun i h3 h4 => by omega) ?_ (fun _ i hi e => by have := hJ0 i hi; omega) (fun i h3 h => h.elim (hnR i h3) (hnX i)))
      exact (hnext j' (fun h => hnR j' h1 h) _ (fun i hi => ⟨hJ0 i hi, fun _ => hi⟩) _ (fun a ha => ha)).hold hVs (fun a ha => r3.cell a (.inl ha))
set_option maxRecDepth 100000 in
set_option maxHeartbeats 4000000 in
theorem bornInts (a0 a1 a2 a3 a4 : Value) (w : World) : stepG Try.prog false (born Try.prog { target := .fn (.func 32) #[a0, a1, a2, a3, a4], args := #[] }) w =
    .go (G ((baseD 32).at ⟨#[a0, a1, a2, a3, a4, undef, undef, undef, undef, undef, undef, undef, undef, undef, undef, undef, undef, undef, undef, undef, undef], []⟩ [.code (Try.f32.body.getD .skip)]) [bot]) w #[] := by
  simp [born, stepG, unwind, callDeferred, invoke, callFunc, Try.func32, Try.f32, seen, GStep.after, G, Frame.enter, Frame.at, baseD, bot]
set_option maxRecDepth 100000 in
set_option maxHeartbeats 16000000 in
/-- ████ a worker ████ -/
theorem workInts {d0 : FuncId} {caps : Array Value} {V : Nat → AS → Value → World → Prop} {FD : Nat} (hdo : TaskOk Try.prog Post d0 caps Zc V FD)
    (hfn : ∃ fn c, Try.prog.funcs[d0]? = some fn ∧ (fn.name == "runtime.NumGoroutine") = false ∧ fn.body = some c) (hVt : ∀ j X v w, V j X v w → (fun v => ∃ a l m, v = .slice a l m) v) (hVs : VStable V) (hVm : VMono V)
    (hcell : κ.cell = fun j => ⟨R, j, none⟩) (hD : κ.D = doneAt κ.cell V) (hn4 : κ.n ≤ 4096) (hdv : dv = .func (.func d0) #[] caps) (hE : Env κ R xb nb db ob dv Zc none3 Z w) (hxZ : ∀ i, i < κ.n → ¬ Z ⟨R, i, none⟩) :
    T Try.prog Post (1000 + (FD + 300) * (κ.n + 1) + 200) false (wcx κ none3 Z 0 (fun _ => False)) (born Try.prog { target := .fn (.func 32) #[.pointer (some ⟨κ.Wg, 0, none⟩), .pointer (some xb), .pointer (some nb), .pointer (some db), .pointer (some ob)], args := #[] }) w := by
  have hn : (wcx κ none3 Z 0 (fun _ => False)).Neat := hE.neat
  have hloop := @loopInts Post κ R xb nb db ob dv Zc d0 caps V FD hdo hfn hVt hVs hVm hcell hD hn4 hdv κ.n
  refine T.le (m := (1000 + (FD + 300) * (κ.n + 1) + 120) + 40) (by omega) ?_
  refine T.goes1 hn rfl (fun _ _ _ => ?_); rw [bornInts]; simp only [goes_go]; refine ⟨by u_nil, ?_⟩
  simp only [lbInts, Try.f32, loopOf, Option.getD_some, Option.none_or, Option.some_or, Option.or_none] at hloop ⊢
  obtain ⟨zx1, zx2⟩ := hE.zx
  refine T.goes1 hn rfl (fun _ _ _ => ?_); rw [stepG_seq]; simp only [goes_go]; refine ⟨by u_nil, ?_⟩
  refine T.goes1 hn rfl (fun _ _ _ => ?_); rw [stepG_region]; simp only [goes_go, List.size_toArray, List.length_cons, List.length_nil, Nat.reduceAdd, Nat.zero_add, List.range, List.range.loop]; refine ⟨by u_nil, ?_⟩
  refine T.goes1 hn rfl (fun _ _ _ => ?_); rw [stepG_defer rfl rfl (by k_ne) rfl]; simp only [goes_go]; refine ⟨by u_nil, ?_⟩; walk_nrm
  refine T.goes1 hn rfl (fun _ _ _ => ?_); rw [stepG_region_end]; simp only [goes_go]; refine ⟨by u_nil, ?_⟩
  refine T.goes1 hn rfl (fun _ _ _ => ?_); rw [stepG_seq]; simp only [goes_go]; refine ⟨by u_nil, ?_⟩
  refine T.goes1 hn rfl (fun _ _ _ => ?_); rw [stepG_region]; simp only [goes_go, List.size_toArray, List.length_cons, List.length_nil, Nat.reduceAdd, Nat.zero_add, List.range, List.range.loop]; refine ⟨by u_nil, ?_⟩
  refine T.quiet hn rfl rfl (by k_ne) (fun w₁ hF hL K hK => ?_); have fc := (hF.cell _ (.inr (.inr zx1))).1.trans zx2; go_simp; refine hK _ ?_ ?_; (intro e he; simp [go_sem, *] at he; subst he; exact EvOk.rd false (.inr zx1)); clear hK K fc; try walk_nrm
  refine T.goes1 hn rfl (fun _ _ _ => ?_); refine goes_call rfl rfl (by k_ne) rfl Try.func10 (by kernel_rfl) rfl ⟨by u_nil, ?_⟩; walk_nrmf Try.f10
  have hcl : ∀ i, κ.cell i = ⟨R, i, none⟩ := fun i => by rw [hcell]
  refine T.le (m := (1000 + (FD + 300) * (κ.n + 1) + 20) + 60) (by omega) (tick_walk hn rfl rfl (Nat.zero_le _) (fun a ha => hE.cn a (by rcases ha with h | h | h; exact .inl h; exact h.elim; exact .inr h)) (fun i h1 h2 => by rw [hcl]; exact ⟨fun h => h, hxZ i h2⟩) (fun w3 j' r3 h1 h2 => ?_) (fun w3 j' r3 h1 h2 => ?_))
  · obtain ⟨Vv, hVv⟩ : ∃ Vv : Int, ((j' + 1 : Nat) : Int) = Vv := ⟨_, rfl⟩
    have hsub : IntKind.i64.wrap (Vv - 1) = (j' : Int) := by rw [← hVv, IntKind.wrap_i64]; omega
    rw [hVv, hcl j']
    clear hVv
    have hless : Less ⟨none3, fun a => none3 a ∨ a = ⟨R, j', none⟩, Z, none, some (κ, .m0, j' + 1, fun i => False ∨ i = j'), 0⟩ (wcx κ (fun a => a = ⟨R, j', none⟩) Z (j' + 1) (fun i => False ∨ i = j')) :=
      ⟨fun a ha => ha.elim (fun e => .inr (.inr e)) (fun h => h.elim), fun a h => h.elim, fun _ _ h => h, fun a hz => ⟨fun e => hxZ j' h2 (e ▸ hz), fun h => h⟩, fun a hz => .inl hz, rfl, rfl, rfl, fun κ' ms lb J' h => by injection h with e; injection e with _ e; injection e with e _; exact e.symm⟩
    walk_nrm
    refine T.turn hless rfl (fun _ _ _ => ?_); refine goes_oper_k rfl rfl (by k_ne) (fun K hK => ?_); go_simp; refine hK _ _ ⟨?_, ?_⟩; (u_none; intro e he; have hm := mem_listed he; simp [go_sem, *] at hm); clear hK K; try walk_nrm
    have hE3 : Env κ R xb nb db ob dv Zc (fun a => a = ⟨R, j', none⟩) Z w3 := by
      have h0 := (hE.hold r3).more (X := fun a => a = ⟨R, j', none⟩) (fun a e => by rw [e]; exact ⟨hxZ j' h2, Nat.lt_of_lt_of_le hE.rl r3.size, fun e => by have := congrArg Addr.block e; exact hE.rc this⟩)
      have e : (fun a => none3 a ∨ a = (⟨R, j', none⟩ : Addr)) = (fun a => a = ⟨R, j', none⟩) := by funext a; exact propext ⟨fun h => h.elim (fun h => h.elim) id, .inr⟩
      rw [e] at h0; exact h0
    replace hn : (wcx κ (fun a => a = ⟨R, j', none⟩) Z (j' + 1) (fun i => False ∨ i = j')).Neat := hE3.neat
    refine T.goes1 hn rfl (fun _ _ _ => ?_); refine goes_oper_k rfl rfl (by k_ne) (fun K hK => ?_); go_simp; refine hK _ _ ⟨?_, ?_⟩; (u_none; intro e he; have hm := mem_listed he; simp [go_sem, *] at hm); clear hK K; try walk_nrm
    refine T.goes1 hn rfl (fun _ _ _ => ?_); rw [stepG_region_end]; simp only [goes_go]; refine ⟨by u_nil, ?_⟩
    refine T.goes1 hn rfl (fun _ _ _ => ?_); rw [stepG_block]; simp only [goes_go]; refine ⟨by u_nil, ?_⟩
    refine T.goes1 hn rfl (fun _ _ _ => ?_); rw [stepG_loop]; simp only [goes_go]; refine ⟨by u_nil, ?_⟩
    refine T.le (m := 1000 + (FD + 300) * (κ.n + 1)) (by omega) (hloop j' _ _ Z w3 _ _ _ _ _ _ _ _ _ _ _ _ _ _ _ (by omega) hE3 (by omega) (fun _ => rfl) (fun i h3 h4 => ⟨fun e => by injection e with _ e; omega, hxZ i h4⟩) ?_ (fun h => by omega) (fun i h3 e => by injection e with _ e; omega))
    exact fun i hi => ⟨by rcases hi with hi | hi; exact hi.elim; omega, fun h => (hi.elim (fun x => x.elim) (fun e => absurd e h))⟩
  · obtain ⟨Vv, hVv⟩ : ∃ Vv : Int, ((j' + 1 : Nat) : Int) = Vv := ⟨_, rfl⟩
    have hsub : IntKind.i64.wrap (Vv - 1) = (j' : Int) := by rw [← hVv, IntKind.wrap_i64]; omega
    rw [hVv]
    clear hVv
    have hE3 : Env κ R xb nb db ob dv Zc none3 Z w3 := hE.hold r3
    replace hn : (wcx κ none3 Z (j' + 1) (fun _ => False)).Neat := hE3.neat
    walk_nrm
    refine T.goes1 hn rfl (fun _ _ _ => ?_); refine goes_oper_k rfl rfl (by k_ne) (fun K hK => ?_); go_simp; refine hK _ _ ⟨?_, ?_⟩; (u_none; intro e he; have hm := mem_listed he; simp [go_sem, *] at hm); clear hK K; try walk_nrm
    refine T.goes1 hn rfl (fun _ _ _ => ?_); refine goes_oper_k rfl rfl (by k_ne) (fun K hK => ?_); go_simp; refine hK _ _ ⟨?_, ?_⟩; (u_none; intro e he; have hm := mem_listed he; simp [go_sem, *] at hm); clear hK K; try walk_nrm
    refine T.goes1 hn rfl (fun _ _ _ => ?_); rw [stepG_region_end]; simp only [goes_go]; refine ⟨by u_nil, ?_⟩
    refine T.goes1 hn rfl (fun _ _ _ => ?_); rw [stepG_block]; simp only [goes_go]; refine ⟨by u_nil, ?_⟩
    refine T.goes1 hn rfl (fun _ _ _ => ?_); rw [stepG_loop]; simp only [goes_go]; refine ⟨by u_nil, ?_⟩
    exact T.le (m := 1000 + (FD + 300) * (κ.n + 1)) (by omega) (hloop j' _ _ Z w3 _ _ _ _ _ _ _ _ _ _ _ _ _ _ _ (by omega) hE3 h2 (fun h => by omega) (fun i h3 h4 => by omega) (fun i hi => hi.elim) (fun _ i hi => hi.elim) (fun i _ h => h))
end Go.Proofs.Ytidadgibhmiojaa
