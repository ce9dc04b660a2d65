/- All: the rows of zeros, the counter, the crew. -/
import Derived.Test.YtidadgibhmiojaaGz
import Derived.Test.YtidadgibhmiojaaGr
import Derived.Test.YtidadgibhmiojaaGv
import Derived.Test.YtidadgibhmiojaaFe
set_option linter.unusedSimpArgs false
set_option linter.unusedVariables false
namespace Go.Proofs.Ytidadgibhmiojaa
open Go.Conc Go.RowKit Go.Conc.Lib Go.ConcR.Gen Go.ConcN.Gen Go.Farm
open Go.ConcR (DC0)
variable {Post : Value → World → Prop}
theorem bd52 (w : World) : (Instr.build 52 #[]).run Try.prog w = .ok (.agg #[.int .i64 0]) w := run_build w 52 #[] #[.int .i64 0] (by kernel_rfl)
theorem bd52e (w : World) : (Instr.build 52 #[]).events Try.prog w #[] = #[] := by kernel_rfl
set_option maxRecDepth 100000 in
set_option maxHeartbeats 4000000 in
/-- NewCounter -/
theorem new_walk (t : Bool) {bb : Bool} {c : Cx} {w : World} {mT : Nat} {b₀ : Frame} {a₀ : Go.Act} {ops₀ : Array Oper} {i₀ : Nat} {rest₀ : List Nat} {k₀ : List Item} {cs : List Frame} (hn : c.Neat) (hb : c.Low w) (hmm : ∀ κ ms lb J, c.mem = some (κ, ms, lb, J) → ms = .m0)
    (hT : ∀ w' M, w.heap.size ≤ M → M < w'.heap.size → (c.with t M).Neat → (c.with t M).Low w' → (∀ L, Facts L c w → Facts L (c.with t M) w') → (w'.cell? ⟨M, 0, none⟩ = some (.int .i64 0) ∧ w'.frozen? ⟨M, 0, none⟩ = false) → Hold c w w' →
      T Try.prog Post mT bb (c.with t M) (G (b₀.at (a₀.put ((ops₀[i₀]?).bind (·.dst)) (.pointer (some ⟨M, 0, none⟩))) (.inRegion ops₀ rest₀ :: k₀)) cs) w') : T Try.prog Post (mT + 20) bb c (G ((base 7).at ⟨#[undef, undef, undef], []⟩ [.code (Try.f7.body.getD .skip)]) (b₀.at a₀ (.inRegion ops₀ (i₀ :: rest₀) :: k₀) :: cs)) w := by
  simp only [Try.f7, Option.getD_some]
  refine T.goes1 hn rfl (fun _ _ _ => ?_); rw [stepG_seq]; simp only [goes_go]; refine ⟨by u_nil, ?_⟩
  refine T.goes1 hn rfl (fun _ _ _ => ?_); rw [stepG_region]; simp only [goes_go, List.size_toArray, List.length_cons, List.length_nil, Nat.reduceAdd, Nat.zero_add, List.range, List.range.loop]; refine ⟨by u_nil, ?_⟩
  refine T.goes1 hn rfl (fun _ _ _ => ?_); refine goes_oper_k rfl rfl (by k_ne) (fun K hK => ?_); go_simp; refine hK _ _ ⟨?_, ?_⟩; (u_none; intro e he; have hm := mem_listed he; simp [go_sem, *] at hm); clear hK K; try walk_nrm
  refine T.goes1 hn rfl (fun _ _ _ => ?_); rw [stepG_region_end]; simp only [goes_go]; refine ⟨by u_nil, ?_⟩
  refine T.goes1 hn rfl (fun _ _ _ => ?_); rw [stepG_seq]; simp only [goes_go]; refine ⟨by u_nil, ?_⟩
  refine T.goes1 hn rfl (fun _ _ _ => ?_); rw [stepG_region]; simp only [goes_go, List.size_toArray, List.length_cons, List.length_nil, Nat.reduceAdd, Nat.zero_add, List.range, List.range.loop]; refine ⟨by u_nil, ?_⟩
  refine T.val hn (.agg #[.int .i64 0]) rfl rfl (by k_ne) (fun w1 _ => ⟨by have hx := bd52 w1; go_simp, fun e he => by simp [go_sem, bd52e] at he⟩) ?_
  walk_nrm
  refine T.alloc1 t hn hb hmm rfl rfl (by k_ne) (fun N => .pointer (some ⟨N, 0, none⟩)) #[.int .i64 0] 52 (fun w1 => ⟨by go_simp, by simp [go_sem]⟩) (fun w' M g1 l1 hn1 hb1 fx nw ho => ?_)
  replace hT := hT w' M g1 l1 hn1 hb1 fx (nw 0 _ rfl) ho
  clear fx nw hb1
  replace hn := hn1
  walk_nrm
  refine T.goes1 hn rfl (fun _ _ _ => ?_); refine goes_oper_k rfl rfl (by k_ne) (fun K hK => ?_); go_simp; refine hK _ _ ⟨?_, ?_⟩; (u_none; intro e he; have hm := mem_listed he; simp [go_sem, *] at hm); clear hK K; try walk_nrm
  refine T.goes1 hn rfl (fun _ _ _ => ?_); rw [stepG_region_end]; simp only [goes_go]; refine ⟨by u_nil, ?_⟩
  refine T.goes1 hn rfl (fun _ _ _ => ?_); rw [stepG_ret']; simp only [goes_go]; refine ⟨by u_nil, ?_⟩
  refine T.goes1 hn rfl (fun _ _ _ => ?_); refine goes_leave1 rfl rfl Try.func7 rfl ⟨by u_nil, ?_⟩; walk_nrm
  exact T.le (by omega) hT
noncomputable def laBool : Code := (loopOf (Try.f14.body.getD .skip)).getD .skip
theorem mkBool (w : World) (n : Nat) (hn4 : n ≤ 4096) : (Instr.makeSlice 35 (.int .i64 (n : Int)) (.int .i64 (n : Int))).run Try.prog w = .ok (.slice (some ⟨w.heap.size, 0, none⟩) n n) (w.alloc (.cells (Array.replicate n (.bool false)) 4)) ∧ (Instr.makeSlice 35 (.int .i64 (n : Int)) (.int .i64 (n : Int))).events Try.prog w #[] = #[] := by
  have h : (Try.prog.info? 4).map (fun i => (i.zero, i.size, i.bytes)) = some (some (.bool false), 1, 1) := by kernel_rfl
  obtain ⟨i, hi, h2⟩ := Option.map_eq_some_iff.1 h
  simp only [Prod.mk.injEq] at h2
  exact mk_gen w 35 4 i (.bool false) Try.underlying35 hi h2.1 rfl h2.2.1 (by omega) n hn4
set_option maxRecDepth 100000 in
set_option maxHeartbeats 16000000 in
/-- ████ All ████ -/
theorem allBool {d0 : FuncId} {caps : Array Value} {Zc : List (Addr × Value)} {V : Nat → AS → Value → World → Prop} {FD : Nat} (hdo : TaskOk Try.prog Post d0 caps Zc V FD)
    (hfn : ∃ fn c, Try.prog.funcs[d0]? = some fn ∧ (fn.name == "runtime.NumGoroutine") = false ∧ fn.body = some c) (hVt : ∀ j X v w, V j X v w → (fun v => ∃ b, v = .bool b) v) (hVs : VStable V) (hVm : VMono V) {bb : Bool} {c : Cx} {w : World} (hn0 : c.Neat) (hb0 : c.Low w) (hp : c.par = none) (hl : c.lk = 0) (hmm : ∀ κ ms lb J, c.mem = some (κ, ms, lb, J) → ms = .m0) (hZc : Has Zc c w)
    {a n M mT : Nat} (hM1 : 1048576 ≤ M) (hM2 : M ≤ 2097152) (ha1 : 1 ≤ a) (ha8 : a ≤ 8) (hn4 : n ≤ 4096) {b₀ : Frame} {a₀ : Go.Act} {ops₀ : Array Oper} {i₀ : Nat} {rest₀ : List Nat} {k₀ : List Item} {cs : List Frame}
    (hT : ∀ w' (X : AS) (R : Nat), Hold c w w' → w.heap.size ≤ R → (∀ a, X a → a.block < w'.heap.size) → (∀ a, X a → ¬ c.O a ∧ ¬ c.U a ∧ ¬ c.Z a) → (∀ j, j < n → ∃ Y : AS, (∀ a, Y a → X a) ∧ doneAt (fun j => ⟨R, j, none⟩) V j Y w') →
      T Try.prog Post mT bb { c with O := fun a => c.O a ∨ X a } (G (b₀.at (a₀.put ((ops₀[i₀]?).bind (·.dst)) (.tuple #[.slice (some ⟨R, 0, none⟩) n n, .int .i64 0])) (.inRegion ops₀ rest₀ :: k₀)) cs) w') :
    T Try.prog Post (mT + 400 * (M + 4) + (FD + 300) * (n + 1) + 9000) bb c (G ((base 14).at ⟨#[.int .i64 (a : Int), .int .i64 (n : Int), .func (.func d0) #[] caps, undef, undef, undef, undef, undef, undef, undef, undef, undef, undef, undef, undef, undef, undef, undef, undef, undef, undef, undef, undef, undef, undef, undef, undef, undef, undef, undef, undef, undef, undef, undef, undef, undef], []⟩ [.code (Try.f14.body.getD .skip)]) (b₀.at a₀ (.inRegion ops₀ (i₀ :: rest₀) :: k₀) :: cs)) w := by
  obtain ⟨F0, hF0⟩ : ∃ F0, F0 = mT + 400 * (M + 4) + (FD + 300) * (n + 1) + 1300 := ⟨_, rfl⟩
  have q1 : ¬ ((a : Int) < 1) := by omega
  have q2 : ¬ (8 < (a : Int)) := by omega
  have q3 : ¬ ((n : Int) < 0) := by omega
  have q4 : ¬ (4096 < (n : Int)) := by omega
  have hn := hn0
  have hlow : ∀ N, w.heap.size ≤ N → ∀ a, c.O a ∨ c.U a ∨ c.Z a → a.block ≠ N := fun N hN a ha e => by have := hb0 a ha; omega
  refine T.le (m := F0 + 7000) (by omega) ?_
  simp only [Try.f14, Option.getD_some]
  refine T.goes1 hn rfl (fun _ _ _ => ?_); rw [stepG_seq]; simp only [goes_go]; refine ⟨by u_nil, ?_⟩
  refine T.goes1 hn rfl (fun _ _ _ => ?_); rw [stepG_region]; simp only [goes_go, List.size_toArray, List.length_cons, List.length_nil, Nat.reduceAdd, Nat.zero_add, List.range, List.range.loop]; refine ⟨by u_nil, ?_⟩
  refine T.alloc1 true hn hb0 hmm rfl rfl (by k_ne) (fun N => .pointer (some ⟨N, 0, none⟩)) #[.int .i64 (n : Int)] 3 (fun w1 => ⟨by go_simp, by simp [go_sem]⟩) (fun w1 N1 g1 l1 hn1 hb1 fx1 nw1 ho1 => ?_)
  have hf1 := (fx1 [] (Facts.nil _ _)).cons (A := ⟨N1, 0, none⟩) (v := .int .i64 (n : Int)) (.inl (.inr rfl)) (nw1 0 _ rfl).1 (nw1 0 _ rfl).2
  clear fx1 nw1
  walk_nrm
  refine T.alloc1 true hn1 hb1 hmm rfl rfl (by k_ne) (fun N => .pointer (some ⟨N, 0, none⟩)) #[.func (.func d0) #[] caps] 38 (fun w1 => ⟨by go_simp, by simp [go_sem]⟩) (fun w2 N2 g2 l2 hn2 hb2 fx2 nw2 ho2 => ?_)
  have hf2 := (fx2 _ hf1).cons (A := ⟨N2, 0, none⟩) (v := .func (.func d0) #[] caps) (.inl (.inr rfl)) (nw2 0 _ rfl).1 (nw2 0 _ rfl).2
  have hH2 : Hold c w w2 := ho1.trans (ho2.sub (fun a ha => Cx.with_cells ha))
  have hs2 := hH2.size
  have ho1s := ho1.size
  clear fx2 nw2 ho2 hf1 ho1
  have hA : Less ((c.with true N1).with true N2) { c with Z := fun a => c.Z a ∨ a.block = N1 ∨ a.block = N2 } := ⟨fun a ha => ha.elim (fun h => .inl (.inl (.inl h))) .inr, fun a h => h, hn0.ou, fun a hz => by
      have g3 : w.heap.size ≤ N2 := Nat.le_trans ho1s g2
      rcases hz with h | h | h
      · exact hn0.oz a h
      · exact ⟨fun x => hlow N1 g1 a (.inl x) h, fun x => hlow N1 g1 a (.inr (.inl x)) h⟩
      · exact ⟨fun x => hlow N2 g3 a (.inl x) h, fun x => hlow N2 g3 a (.inr (.inl x)) h⟩, fun a hz => by
      rcases hz with h | h | h
      · exact .inl h
      · exact .inr (.inl (.inl (.inr h)))
      · exact .inr (.inl (.inr h)), rfl, rfl, rfl, hmm⟩
  walk_nrm
  refine T.turn hA rfl (fun _ _ _ => ?_); refine goes_oper_k rfl rfl (by k_ne) (fun K hK => ?_); go_simp; refine hK _ _ ⟨?_, ?_⟩; (u_none; intro e he; have hm := mem_listed he; simp [go_sem, *] at hm); clear hK K; try walk_nrm
  replace hn := hA.neat
  have hbA : Cx.Low { c with Z := fun a => c.Z a ∨ a.block = N1 ∨ a.block = N2 } w2 := fun a ha => hb2 a (hA.cells ha)
  have hfA := hf2.turn (c' := { c with Z := fun a => c.Z a ∨ a.block = N1 ∨ a.block = N2 }) (fun a ha => by
    rcases ha with ((h | h) | h) | h | h
    · exact .inl h
    · exact .inr (.inr (.inr (.inl h)))
    · exact .inr (.inr (.inr (.inr h)))
    · exact .inr (.inl h)
    · exact .inr (.inr (.inl h)))
  clear hf2 hn1 hb1 hn2 hb2
  have vN := (hfA (⟨N1, 0, none⟩, .int .i64 (n : Int)) (by simp)).2.1
  refine T.goes1 hn rfl (fun _ _ _ => ?_); refine goes_oper_k rfl rfl (by k_ne) (fun K hK => ?_); go_simp; refine hK _ _ ⟨?_, ?_⟩; (u_none; intro e he; have hm := mem_listed he; simp [go_sem, *] at hm); clear hK K; try walk_nrm
  refine T.goes1 hn rfl (fun _ _ _ => ?_); rw [stepG_region_end]; simp only [goes_go]; refine ⟨by u_nil, ?_⟩
  refine T.goes1 hn rfl (fun _ _ _ => ?_); rw [stepG_seq]; simp only [goes_go]; refine ⟨by u_nil, ?_⟩
  refine T.goes1 hn rfl (fun _ _ _ => ?_); rw [stepG_seq]; simp only [goes_go]; refine ⟨by u_nil, ?_⟩
  refine T.goes1 hn rfl (fun _ _ _ => ?_); rw [stepG_region]; simp only [goes_go, List.size_toArray, List.length_cons, List.length_nil, Nat.reduceAdd, Nat.zero_add, List.range, List.range.loop]; refine ⟨by u_nil, ?_⟩
  refine T.goes1 hn rfl (fun _ _ _ => ?_); refine goes_oper_k rfl rfl (by k_ne) (fun K hK => ?_); go_simp; refine hK _ _ ⟨?_, ?_⟩; (u_none; intro e he; have hm := mem_listed he; simp [go_sem, *] at hm); clear hK K; try walk_nrm
  refine T.goes1 hn rfl (fun _ _ _ => ?_); refine goes_oper_k rfl rfl (by k_ne) (fun K hK => ?_); go_simp; refine hK _ _ ⟨?_, ?_⟩; (u_none; intro e he; have hm := mem_listed he; simp [go_sem, *] at hm); clear hK K; try walk_nrm
  refine T.goes1 hn rfl (fun _ _ _ => ?_); refine goes_oper_k rfl rfl (by k_ne) (fun K hK => ?_); go_simp; refine hK _ _ ⟨?_, ?_⟩; (u_none; intro e he; have hm := mem_listed he; simp [go_sem, *] at hm); clear hK K; try walk_nrm
  refine T.goes1 hn rfl (fun _ _ _ => ?_); refine goes_oper_k rfl rfl (by k_ne) (fun K hK => ?_); go_simp; refine hK _ _ ⟨?_, ?_⟩; (u_none; intro e he; have hm := mem_listed he; simp [go_sem, *] at hm); clear hK K; try walk_nrm
  refine T.goes1 hn rfl (fun _ _ _ => ?_); refine goes_oper_k rfl rfl (by k_ne) (fun K hK => ?_); go_simp; refine hK _ _ ⟨?_, ?_⟩; (u_none; intro e he; have hm := mem_listed he; simp [go_sem, *] at hm); clear hK K; try walk_nrm
  refine T.goes1 hn rfl (fun _ _ _ => ?_); refine goes_oper_k rfl rfl (by k_ne) (fun K hK => ?_); go_simp; refine hK _ _ ⟨?_, ?_⟩; (u_none; intro e he; have hm := mem_listed he; simp [go_sem, *] at hm); clear hK K; try walk_nrm
  refine T.goes1 hn rfl (fun _ _ _ => ?_); refine goes_oper_k rfl rfl (by k_ne) (fun K hK => ?_); go_simp; refine hK _ _ ⟨?_, ?_⟩; (u_none; intro e he; have hm := mem_listed he; simp [go_sem, *] at hm); clear hK K; try walk_nrm
  refine T.quiet hn rfl rfl (by k_ne) (fun w₁ hF hL K hK => ?_); have fc := (hF.cell _ (.inr (.inr (.inr (.inl rfl))))).1.trans (vN); go_simp; refine hK _ ?_ ?_; (intro e he; simp [go_sem, *] at he; subst he; exact EvOk.rd false (.inr (.inr (.inl rfl)))); clear hK K fc; try walk_nrm
  refine T.goes1 hn rfl (fun _ _ _ => ?_); refine goes_oper_k rfl rfl (by k_ne) (fun K hK => ?_); go_simp; refine hK _ _ ⟨?_, ?_⟩; (u_none; intro e he; have hm := mem_listed he; simp [go_sem, *] at hm); clear hK K; try walk_nrm
  refine T.goes1 hn rfl (fun _ _ _ => ?_); refine goes_oper_k rfl rfl (by k_ne) (fun K hK => ?_); go_simp; refine hK _ _ ⟨?_, ?_⟩; (u_none; intro e he; have hm := mem_listed he; simp [go_sem, *] at hm); clear hK K; try walk_nrm
  refine T.goes1 hn rfl (fun _ _ _ => ?_); refine goes_oper_k rfl rfl (by k_ne) (fun K hK => ?_); go_simp; refine hK _ _ ⟨?_, ?_⟩; (u_none; intro e he; have hm := mem_listed he; simp [go_sem, *] at hm); clear hK K; try walk_nrm
  refine T.quiet hn rfl rfl (by k_ne) (fun w₁ hF hL K hK => ?_); have fc := (hF.cell _ (.inr (.inr (.inr (.inl rfl))))).1.trans (vN); go_simp; refine hK _ ?_ ?_; (intro e he; simp [go_sem, *] at he; subst he; exact EvOk.rd false (.inr (.inr (.inl rfl)))); clear hK K fc; try walk_nrm
  refine T.goes1 hn rfl (fun _ _ _ => ?_); refine goes_oper_k rfl rfl (by k_ne) (fun K hK => ?_); go_simp; refine hK _ _ ⟨?_, ?_⟩; (u_none; intro e he; have hm := mem_listed he; simp [go_sem, *] at hm); clear hK K; try walk_nrm
  refine T.goes1 hn rfl (fun _ _ _ => ?_); refine goes_oper_k rfl rfl (by k_ne) (fun K hK => ?_); go_simp; refine hK _ _ ⟨?_, ?_⟩; (u_none; intro e he; have hm := mem_listed he; simp [go_sem, *] at hm); clear hK K; try walk_nrm
  refine T.goes1 hn rfl (fun _ _ _ => ?_); rw [stepG_region_end]; simp only [goes_go]; refine ⟨by u_nil, ?_⟩
  refine T.goes1 hn rfl (fun _ _ _ => ?_); rw [stepG_cond (t := false) rfl]; simp only [goes_go, if_true, if_false, Bool.false_eq_true, ↓reduceIte]; refine ⟨by u_nil, ?_⟩
  refine T.goes1 hn rfl (fun _ _ _ => ?_); rw [stepG_skip]; simp only [goes_go]; refine ⟨by u_nil, ?_⟩
  refine T.goes1 hn rfl (fun _ _ _ => ?_); rw [stepG_seq]; simp only [goes_go]; refine ⟨by u_nil, ?_⟩
  refine T.goes1 hn rfl (fun _ _ _ => ?_); rw [stepG_region]; simp only [goes_go, List.size_toArray, List.length_cons, List.length_nil, Nat.reduceAdd, Nat.zero_add, List.range, List.range.loop]; refine ⟨by u_nil, ?_⟩
  refine T.quiet hn rfl rfl (by k_ne) (fun w₁ hF hL K hK => ?_); have fc := (hF.cell _ (.inr (.inr (.inr (.inl rfl))))).1.trans (vN); go_simp; refine hK _ ?_ ?_; (intro e he; simp [go_sem, *] at he; subst he; exact EvOk.rd false (.inr (.inr (.inl rfl)))); clear hK K fc; try walk_nrm
  refine T.alloc1 false hn hbA hmm rfl rfl (by k_ne) (fun N => .slice (some ⟨N, 0, none⟩) n n) (Array.replicate n (.bool false)) 4 (fun w1 => ⟨by have hm := (mkBool w1 n hn4).1; go_simp, by have hm := mkBool w1 n hn4; simp [go_sem, hm.1, hm.2]⟩) (fun w3 N3 g3 l3 hn3 hb3 fx3 nw3 ho3 => ?_)
  have hf3 := fx3 _ hfA
  have hR3 : Facts ((List.range n).map fun i => ((⟨N3, i, none⟩ : Addr), (.bool false : Value))) (Cx.with { c with Z := fun a => c.Z a ∨ a.block = N1 ∨ a.block = N2 } false N3) w3 := fun p hp => by
    obtain ⟨i, hi, rfl⟩ := List.mem_map.1 hp
    have hi := List.mem_range.1 hi
    have := nw3 i (.bool false) (by simp [hi])
    exact ⟨.inr (.inl (.inr rfl)), this.1, this.2⟩
  have hH3 : Hold c w w3 := hH2.trans (ho3.sub (fun a ha => ha.imp id (fun h => h.imp id .inl)))
  have hs3 := hH3.size
  clear fx3 nw3 ho3 hfA vN
  walk_nrm
  refine T.alloc1 true hn3 hb3 hmm rfl rfl (by k_ne) (fun N => .pointer (some ⟨N, 0, none⟩)) #[.slice none 0 0] 35 (fun w1 => ⟨by go_simp, by simp [go_sem]⟩) (fun w4 N4 g4 l4 hn4' hb4 fx4 nw4 ho4 => ?_)
  have hf4 := fx4 _ hf3
  have hR4 := fx4 _ hR3
  have hH4 : Hold c w w4 := hH3.trans (ho4.sub (fun a ha => ha.imp id (fun h => h.imp (fun h => .inl h) .inl)))
  have hs4 := hH4.size
  walk_nrm
  refine T.store hn4' (A := ⟨N4, 0, none⟩) (.inr rfl) (v := .slice (some ⟨N3, 0, none⟩) n n) (nw4 0 _ rfl).1 (nw4 0 _ rfl).2 rfl rfl (by k_ne) (fun w1 h1 h2 => ⟨by unfold execOp; simp [go_sem, stored, h1, h2], by unfold execOp; simp [go_sem]; rw [events_store _ _ _ _ _ _ rfl]; simp [h1, h2]⟩) ?_
  have hne4 : ∀ a : Addr, a.block < w3.heap.size → a ≠ ⟨N4, 0, none⟩ := fun a h e => by rw [e] at h; exact absurd h (by show ¬ N4 < w3.heap.size; omega)
  have hl4 := hb4
  have hf5 := (hf4.set (A := ⟨N4, 0, none⟩) (fun p hp => hne4 _ (hf3.low hb3 hp)) (.slice (some ⟨N3, 0, none⟩) n n)).cons (A := ⟨N4, 0, none⟩) (.inl (.inr rfl)) (World.cell?_setCell_same _ _ _ (nw4 0 _ rfl).1) ((World.frozen?_setCell _ _ _ _).trans (nw4 0 _ rfl).2)
  have hR5 := hR4.set (A := ⟨N4, 0, none⟩) (fun p hp => hne4 _ (hR3.low hb3 hp)) (.slice (some ⟨N3, 0, none⟩) n n)
  have hH5 : Hold c w (w4.setCell ⟨N4, 0, none⟩ (.slice (some ⟨N3, 0, none⟩) n n)) := hH4.put (fun z hz e => hlow N4 (by omega) z hz (by rw [e]))
  have hb5 : (Cx.with (Cx.with { c with Z := fun a => c.Z a ∨ a.block = N1 ∨ a.block = N2 } false N3) true N4).Low (w4.setCell ⟨N4, 0, none⟩ (.slice (some ⟨N3, 0, none⟩) n n)) := fun a ha => by rw [World.size_setCell]; exact hb4 a ha
  have hs5 : (w4.setCell ⟨N4, 0, none⟩ (.slice (some ⟨N3, 0, none⟩) n n)).heap.size = w4.heap.size := World.size_setCell _ _ _
  clear fx4 nw4 hf4 hR4 hf3 hR3 hH4 ho4 hb4
  generalize w4.setCell ⟨N4, 0, none⟩ (.slice (some ⟨N3, 0, none⟩) n n) = w5 at hf5 hR5 hH5 hb5 hs5 ⊢
  have hB : Less (Cx.with (Cx.with { c with Z := fun a => c.Z a ∨ a.block = N1 ∨ a.block = N2 } false N3) true N4) { c with U := fun a => c.U a ∨ a.block = N3, Z := fun a => (c.Z a ∨ a.block = N1 ∨ a.block = N2) ∨ a.block = N4 } := ⟨fun a ha => ha.elim (fun h => .inl (.inl h)) (fun h => .inr h), fun a h => h, fun a h hu => hn4'.ou a (.inl h) hu, fun a hz => by
      rcases hz with h | h
      · exact ⟨fun x => (hn4'.oz a h).1 (.inl x), (hn4'.oz a h).2⟩
      · exact ⟨fun x => hlow N4 (by omega) a (.inl x) h, fun x => hn4'.ou a (.inr h) x⟩, fun a hz => by
      rcases hz with h | h
      · exact .inl h
      · exact .inr (.inl (.inr h)), rfl, rfl, rfl, hmm⟩
  walk_nrm
  refine T.turn hB rfl (fun _ _ _ => ?_); rw [stepG_region_end]; simp only [goes_go]; refine ⟨by u_nil, ?_⟩
  replace hn := hB.neat
  have hbB : Cx.Low { c with U := fun a => c.U a ∨ a.block = N3, Z := fun a => (c.Z a ∨ a.block = N1 ∨ a.block = N2) ∨ a.block = N4 } w5 := fun a ha => hb5 a (hB.cells ha)
  have cellsB : ∀ a, (Cx.with (Cx.with { c with Z := fun a => c.Z a ∨ a.block = N1 ∨ a.block = N2 } false N3) true N4).O a ∨ (Cx.with (Cx.with { c with Z := fun a => c.Z a ∨ a.block = N1 ∨ a.block = N2 } false N3) true N4).U a ∨ (Cx.with (Cx.with { c with Z := fun a => c.Z a ∨ a.block = N1 ∨ a.block = N2 } false N3) true N4).Z a → ({ c with U := fun a => c.U a ∨ a.block = N3, Z := fun a => (c.Z a ∨ a.block = N1 ∨ a.block = N2) ∨ a.block = N4 } : Cx).O a ∨ ({ c with U := fun a => c.U a ∨ a.block = N3, Z := fun a => (c.Z a ∨ a.block = N1 ∨ a.block = N2) ∨ a.block = N4 } : Cx).U a ∨ ({ c with U := fun a => c.U a ∨ a.block = N3, Z := fun a => (c.Z a ∨ a.block = N1 ∨ a.block = N2) ∨ a.block = N4 } : Cx).Z a := fun a ha => by
    rcases ha with (h | h) | h | h
    · exact .inl h
    · exact .inr (.inr (.inr h))
    · exact .inr (.inl h)
    · exact .inr (.inr (.inl h))
  replace hf5 := hf5.turn (c' := { c with U := fun a => c.U a ∨ a.block = N3, Z := fun a => (c.Z a ∨ a.block = N1 ∨ a.block = N2) ∨ a.block = N4 }) cellsB
  replace hR5 := hR5.turn (c' := { c with U := fun a => c.U a ∨ a.block = N3, Z := fun a => (c.Z a ∨ a.block = N1 ∨ a.block = N2) ∨ a.block = N4 }) cellsB
  clear cellsB hn3 hb3 hn4' hb5 hl4
  refine T.goes1 hn rfl (fun _ _ _ => ?_); rw [stepG_seq]; simp only [goes_go]; refine ⟨by u_nil, ?_⟩
  refine T.goes1 hn rfl (fun _ _ _ => ?_); rw [stepG_region]; simp only [goes_go, List.size_toArray, List.length_cons, List.length_nil, Nat.reduceAdd, Nat.zero_add, List.range, List.range.loop]; refine ⟨by u_nil, ?_⟩
  refine T.goes1 hn rfl (fun _ _ _ => ?_); refine goes_call rfl rfl (by k_ne) rfl Try.func7 (by kernel_rfl) rfl ⟨by u_nil, ?_⟩; walk_nrmf Try.f7
  refine T.le (m := (F0 + 6000) + 20) (by omega) (new_walk false hn hbB hmm (fun w6 N5 g5 l5 hn5 hb5 fx5 nw5 ho5 => ?_))
  have hf6 := (fx5 _ hf5).cons (A := ⟨N5, 0, none⟩) (.inr (.inl (.inr rfl))) nw5.1 nw5.2
  have hR6 := fx5 _ hR5
  have hH6 : Hold c w w6 := hH5.trans (ho5.sub (fun a ha => ha.imp id (fun h => h.imp .inl (fun h => .inl (.inl h)))))
  have hs6 := hH6.size
  clear fx5 nw5 ho5 hf5 hR5
  walk_nrm
  refine T.alloc1 true hn5 hb5 hmm rfl rfl (by k_ne) (fun N => .pointer (some ⟨N, 0, none⟩)) #[.pointer none] 23 (fun w1 => ⟨by go_simp, by simp [go_sem]⟩) (fun w7 N6 g6 l6 hn6 hb6 fx6 nw6 ho6 => ?_)
  have hf7 := fx6 _ hf6
  have hR7 := fx6 _ hR6
  have hH7 : Hold c w w7 := hH6.trans (ho6.sub (fun a ha => ha.imp id (fun h => h.imp (fun h => .inl (.inl h)) (fun h => .inl (.inl h)))))
  have hs7 := hH7.size
  walk_nrm
  refine T.store hn6 (A := ⟨N6, 0, none⟩) (.inr rfl) (v := .pointer (some ⟨N5, 0, none⟩)) (nw6 0 _ rfl).1 (nw6 0 _ rfl).2 rfl rfl (by k_ne) (fun w1 h1 h2 => ⟨by unfold execOp; simp [go_sem, stored, h1, h2], by unfold execOp; simp [go_sem]; rw [events_store _ _ _ _ _ _ rfl]; simp [h1, h2]⟩) ?_
  have hne6 : ∀ a : Addr, a.block < w6.heap.size → a ≠ ⟨N6, 0, none⟩ := fun a h e => by rw [e] at h; exact absurd h (by show ¬ N6 < w6.heap.size; omega)
  have hf8 := (hf7.set (A := ⟨N6, 0, none⟩) (fun p hp => hne6 _ (hf6.low hb5 hp)) (.pointer (some ⟨N5, 0, none⟩))).cons (A := ⟨N6, 0, none⟩) (.inl (.inr rfl)) (World.cell?_setCell_same _ _ _ (nw6 0 _ rfl).1) ((World.frozen?_setCell _ _ _ _).trans (nw6 0 _ rfl).2)
  have hR8 := hR7.set (A := ⟨N6, 0, none⟩) (fun p hp => hne6 _ (hR6.low hb5 hp)) (.pointer (some ⟨N5, 0, none⟩))
  have hH8 : Hold c w (w7.setCell ⟨N6, 0, none⟩ (.pointer (some ⟨N5, 0, none⟩))) := hH7.put (fun z hz e => hlow N6 (by omega) z hz (by rw [e]))
  have hb8 : (Cx.with (Cx.with { c with U := fun a => c.U a ∨ a.block = N3, Z := fun a => (c.Z a ∨ a.block = N1 ∨ a.block = N2) ∨ a.block = N4 } false N5) true N6).Low (w7.setCell ⟨N6, 0, none⟩ (.pointer (some ⟨N5, 0, none⟩))) := fun a ha => by rw [World.size_setCell]; exact hb6 a ha
  have hs8 : (w7.setCell ⟨N6, 0, none⟩ (.pointer (some ⟨N5, 0, none⟩))).heap.size = w7.heap.size := World.size_setCell _ _ _
  clear fx6 nw6 hf7 hR7 hf6 hR6 hH7 ho6 hb6
  generalize w7.setCell ⟨N6, 0, none⟩ (.pointer (some ⟨N5, 0, none⟩)) = w8 at hf8 hR8 hH8 hb8 hs8 ⊢
  have hC : Less (Cx.with (Cx.with { c with U := fun a => c.U a ∨ a.block = N3, Z := fun a => (c.Z a ∨ a.block = N1 ∨ a.block = N2) ∨ a.block = N4 } false N5) true N6) { c with U := fun a => (c.U a ∨ a.block = N3) ∨ a.block = N5, Z := fun a => ((c.Z a ∨ a.block = N1 ∨ a.block = N2) ∨ a.block = N4) ∨ a.block = N6 } := ⟨fun a ha => ha.elim (fun h => .inl (.inl h)) (fun h => .inr h), fun a h => h, fun a h hu => hn6.ou a (.inl h) hu, fun a hz => by
      rcases hz with h | h
      · exact ⟨fun x => (hn6.oz a h).1 (.inl x), (hn6.oz a h).2⟩
      · exact ⟨fun x => hlow N6 (by omega) a (.inl x) h, fun x => hn6.ou a (.inr h) x⟩, fun a hz => by
      rcases hz with h | h
      · exact .inl h
      · exact .inr (.inl (.inr h)), rfl, rfl, rfl, hmm⟩
  walk_nrm
  refine T.turn hC rfl (fun _ _ _ => ?_); rw [stepG_region_end]; simp only [goes_go]; refine ⟨by u_nil, ?_⟩
  replace hn := hC.neat
  have hbC : Cx.Low { c with U := fun a => (c.U a ∨ a.block = N3) ∨ a.block = N5, Z := fun a => ((c.Z a ∨ a.block = N1 ∨ a.block = N2) ∨ a.block = N4) ∨ a.block = N6 } w8 := fun a ha => hb8 a (hC.cells ha)
  have cellsC : ∀ a, (Cx.with (Cx.with { c with U := fun a => c.U a ∨ a.block = N3, Z := fun a => (c.Z a ∨ a.block = N1 ∨ a.block = N2) ∨ a.block = N4 } false N5) true N6).O a ∨ (Cx.with (Cx.with { c with U := fun a => c.U a ∨ a.block = N3, Z := fun a => (c.Z a ∨ a.block = N1 ∨ a.block = N2) ∨ a.block = N4 } false N5) true N6).U a ∨ (Cx.with (Cx.with { c with U := fun a => c.U a ∨ a.block = N3, Z := fun a => (c.Z a ∨ a.block = N1 ∨ a.block = N2) ∨ a.block = N4 } false N5) true N6).Z a → ({ c with U := fun a => (c.U a ∨ a.block = N3) ∨ a.block = N5, Z := fun a => ((c.Z a ∨ a.block = N1 ∨ a.block = N2) ∨ a.block = N4) ∨ a.block = N6 } : Cx).O a ∨ ({ c with U := fun a => (c.U a ∨ a.block = N3) ∨ a.block = N5, Z := fun a => ((c.Z a ∨ a.block = N1 ∨ a.block = N2) ∨ a.block = N4) ∨ a.block = N6 } : Cx).U a ∨ ({ c with U := fun a => (c.U a ∨ a.block = N3) ∨ a.block = N5, Z := fun a => ((c.Z a ∨ a.block = N1 ∨ a.block = N2) ∨ a.block = N4) ∨ a.block = N6 } : Cx).Z a := fun a ha => by
    rcases ha with (h | h) | h | h
    · exact .inl h
    · exact .inr (.inr (.inr h))
    · exact .inr (.inl h)
    · exact .inr (.inr (.inl h))
  replace hf8 := hf8.turn (c' := { c with U := fun a => (c.U a ∨ a.block = N3) ∨ a.block = N5, Z := fun a => ((c.Z a ∨ a.block = N1 ∨ a.block = N2) ∨ a.block = N4) ∨ a.block = N6 }) cellsC
  replace hR8 := hR8.turn (c' := { c with U := fun a => (c.U a ∨ a.block = N3) ∨ a.block = N5, Z := fun a => ((c.Z a ∨ a.block = N1 ∨ a.block = N2) ∨ a.block = N4) ∨ a.block = N6 }) cellsC
  clear cellsC hn5 hb5 hn6 hb8
  refine T.goes1 hn rfl (fun _ _ _ => ?_); rw [stepG_seq]; simp only [goes_go]; refine ⟨by u_nil, ?_⟩
  refine T.goes1 hn rfl (fun _ _ _ => ?_); rw [stepG_region]; simp only [goes_go, List.size_toArray, List.length_cons, List.length_nil, Nat.reduceAdd, Nat.zero_add, List.range, List.range.loop]; refine ⟨by u_nil, ?_⟩
  refine T.alloc1 false hn hbC hmm rfl rfl (by k_ne) (fun N => .pointer (some ⟨N, 0, none⟩)) #[.int .u64 0, .int .u32 0] 69 (fun w1 => ⟨by go_simp, by simp [go_sem]⟩) (fun w9 N7 g7 l7 hn7 hb7 fx7 nw7 ho7 => ?_)
  have hf9 := ((fx7 _ hf8).cons (A := ⟨N7, 0, none⟩) (.inr (.inl (.inr rfl))) (nw7 0 _ rfl).1 (nw7 0 _ rfl).2).cons (A := ⟨N7, 1, none⟩) (.inr (.inl (.inr rfl))) (nw7 1 _ rfl).1 (nw7 1 _ rfl).2
  have hR9 := fx7 _ hR8
  have hH9 : Hold c w w9 := hH8.trans (ho7.sub (fun a ha => ha.imp id (fun h => h.imp (fun h => .inl (.inl h)) (fun h => .inl (.inl (.inl h))))))
  have hs9 := hH9.size
  clear fx7 nw7 ho7 hf8 hR8
  replace hn := hn7
  walk_nrm
  refine T.goes1 hn rfl (fun _ _ _ => ?_); rw [stepG_region_end]; simp only [goes_go]; refine ⟨by u_nil, ?_⟩
  refine T.goes1 hn rfl (fun _ _ _ => ?_); rw [stepG_seq]; simp only [goes_go]; refine ⟨by u_nil, ?_⟩
  refine T.goes1 hn rfl (fun _ _ _ => ?_); rw [stepG_seq]; simp only [goes_go]; refine ⟨by u_nil, ?_⟩
  refine T.goes1 hn rfl (fun _ _ _ => ?_); rw [stepG_region]; simp only [goes_go, List.size_toArray, List.length_cons, List.length_nil, Nat.reduceAdd, Nat.zero_add, List.range, List.range.loop]; refine ⟨by u_nil, ?_⟩
  refine T.goes1 hn rfl (fun _ _ _ => ?_); refine goes_oper_k rfl rfl (by k_ne) (fun K hK => ?_); go_simp; refine hK _ _ ⟨?_, ?_⟩; (u_none; intro e he; have hm := mem_listed he; simp [go_sem, *] at hm); clear hK K; try walk_nrm
  refine T.goes1 hn rfl (fun _ _ _ => ?_); refine goes_oper_k rfl rfl (by k_ne) (fun K hK => ?_); go_simp; refine hK _ _ ⟨?_, ?_⟩; (u_none; intro e he; have hm := mem_listed he; simp [go_sem, *] at hm); clear hK K; try walk_nrm
  obtain ⟨κ, hκ⟩ : ∃ κ : Crew, κ = (⟨N7, N5, n, fun j => ⟨N3, j, none⟩, doneAt (fun j => ⟨N3, j, none⟩) V⟩ : Crew) := ⟨_, rfl⟩
  have hOp : ∀ w1, Hold (Cx.with { c with U := fun a => (c.U a ∨ a.block = N3) ∨ a.block = N5, Z := fun a => ((c.Z a ∨ a.block = N1 ∨ a.block = N2) ∨ a.block = N4) ∨ a.block = N6 } false N7) w9 w1 → Opens (Cx.with { c with U := fun a => (c.U a ∨ a.block = N3) ∨ a.block = N5, Z := fun a => ((c.Z a ∨ a.block = N1 ∨ a.block = N2) ∨ a.block = N4) ∨ a.block = N6 } false N7) κ w1 ({ c with Z := fun a => ((c.Z a ∨ a.block = N1 ∨ a.block = N2) ∨ a.block = N4) ∨ a.block = N6, par := some (κ, .p0, 0) }) := fun w1 r1 => by
    have hf := hf9.hold r1
    have k1 := hf (⟨N7, 0, none⟩, .int .u64 0) (by simp)
    have k2 := hf (⟨N7, 1, none⟩, .int .u32 0) (by simp)
    have k3 := hf (⟨N5, 0, none⟩, .int .i64 0) (by simp)
    subst hκ
    refine ⟨hp, hl, rfl, rfl, rfl, rfl, fun x hx => ⟨.inl (.inl (.inl hx)), ?_, ?_, ?_, fun j hj => ?_⟩, .inr rfl, .inr rfl, .inl (.inr rfl), fun j hj => .inl (.inl (.inr rfl)), fun i j _ _ e => by injection e with _ e, fun j hj => ⟨?_, ?_, ?_⟩, ?_, k1.2.1, k2.2.1, k3.2.1, k1.2.2, k2.2.2, k3.2.2, by show n < 1048576; omega, fun j X w0 w1 h1 h2 => Go.Farm.doneAt.stable (cell := fun j => ⟨N3, j, none⟩) hVs h2 h1⟩
    · exact fun e => hlow N7 (by omega) x (.inr (.inl hx)) (congrArg Addr.block e)
    · exact fun e => hlow N7 (by omega) x (.inr (.inl hx)) (congrArg Addr.block e)
    · exact fun e => hlow N5 (by omega) x (.inr (.inl hx)) (congrArg Addr.block e)
    · exact fun e => hlow N3 (by omega) x (.inr (.inl hx)) (congrArg Addr.block e)
    · exact fun e => absurd (congrArg Addr.block e) (by show N3 ≠ N7; omega)
    · exact fun e => absurd (congrArg Addr.block e) (by show N3 ≠ N7; omega)
    · exact fun e => absurd (congrArg Addr.block e) (by show N3 ≠ N5; omega)
    · show N5 ≠ N7; omega
  refine T.open (κ := κ) (c' := { c with Z := fun a => ((c.Z a ∨ a.block = N1 ∨ a.block = N2) ∨ a.block = N4) ∨ a.block = N6, par := some (κ, .p0, 0) }) rfl hOp (fun _ _ _ => ?_); rw [stepG_region_end]; simp only [goes_go]; refine ⟨by u_nil, ?_⟩
  have hnE : ∀ st, Cx.Neat ({ c with Z := fun a => ((c.Z a ∨ a.block = N1 ∨ a.block = N2) ∨ a.block = N4) ∨ a.block = N6, par := some (κ, st) }) := fun st => ⟨fun x hx hu => hn0.ou x hx hu, fun x hz => ⟨fun hx => (hn.oz x hz).1 hx, fun hx => (hn.oz x hz).2 (.inl (.inl (.inl hx)))⟩⟩
  have hfE := hf9
  have hz : ∀ st, ∀ x, (({ c with Z := fun a => ((c.Z a ∨ a.block = N1 ∨ a.block = N2) ∨ a.block = N4) ∨ a.block = N6, par := some (κ, st) }) : Cx).O x ∨ (({ c with Z := fun a => ((c.Z a ∨ a.block = N1 ∨ a.block = N2) ∨ a.block = N4) ∨ a.block = N6, par := some (κ, st) }) : Cx).U x ∨ (({ c with Z := fun a => ((c.Z a ∨ a.block = N1 ∨ a.block = N2) ∨ a.block = N4) ∨ a.block = N6, par := some (κ, st) }) : Cx).Z x → x ≠ κ.st ∧ x ≠ κ.sm := fun st x hx => by
    subst hκ
    have hb : x.block ≠ N7 := fun e => by
      rcases hx with h | h | h
      · exact hlow N7 (by omega) x (.inl h) e
      · exact hlow N7 (by omega) x (.inr (.inl h)) e
      · have := (hn.oz x h).2; exact this (.inr e)
    exact ⟨fun e => hb (congrArg Addr.block e), fun e => hb (congrArg Addr.block e)⟩
  have hrow : ∀ i, i < n → ∃ u, w9.cell? ⟨N3, i, none⟩ = some u := fun i hi => ⟨_, (hR9 (⟨N3, i, none⟩, .bool false) (List.mem_map.2 ⟨i, List.mem_range.2 hi, rfl⟩)).2.1⟩
  have hrowf : ∀ i, i < n → w9.frozen? ⟨N3, i, none⟩ = false := fun i hi => (hR9 (⟨N3, i, none⟩, .bool false) (List.mem_map.2 ⟨i, List.mem_range.2 hi, rfl⟩)).2.2
  have zz : ∀ x, x.block = N1 ∨ x.block = N2 ∨ x.block = N4 ∨ x.block = N6 → (fun a => ((c.Z a ∨ a.block = N1 ∨ a.block = N2) ∨ a.block = N4) ∨ a.block = N6) x := fun x h => by
    rcases h with h | h | h | h
    · exact .inl (.inl (.inr (.inl h)))
    · exact .inl (.inl (.inr (.inr h)))
    · exact .inl (.inr h)
    · exact .inr h
  have cN := (hf9 (⟨N1, 0, none⟩, .int .i64 (n : Int)) (by simp)).2.1
  have cD := (hf9 (⟨N2, 0, none⟩, .func (.func d0) #[] caps) (by simp)).2.1
  have cO := (hf9 (⟨N4, 0, none⟩, .slice (some ⟨N3, 0, none⟩) n n) (by simp)).2.1
  have cX := (hf9 (⟨N6, 0, none⟩, .pointer (some ⟨N5, 0, none⟩)) (by simp)).2.1
  have hn0z : ∀ i : Nat, (fun a => ((c.Z a ∨ a.block = N1 ∨ a.block = N2) ∨ a.block = N4) ∨ a.block = N6) ⟨N3, i, none⟩ → ¬ True := fun i h => absurd (hn.oz _ h).2 (fun x => x (.inl (.inl (.inr rfl))))
  have hlowE : ∀ x, c.O x ∨ c.U x ∨ (fun a => ((c.Z a ∨ a.block = N1 ∨ a.block = N2) ∨ a.block = N4) ∨ a.block = N6) x → x.block < w9.heap.size := fun x h => hb7 x (by
    rcases h with h | h | h
    · exact .inl h
    · exact .inr (.inl (.inl (.inl (.inl h))))
    · exact .inr (.inr h))
  have hEnv : ∀ w1, Hold ({ c with Z := fun a => ((c.Z a ∨ a.block = N1 ∨ a.block = N2) ∨ a.block = N4) ∨ a.block = N6, par := some (κ, .p0, 0) }) w9 w1 → Env κ N3 ⟨N6, 0, none⟩ ⟨N1, 0, none⟩ ⟨N2, 0, none⟩ ⟨N4, 0, none⟩ (.func (.func d0) #[] caps) Zc none3 (fun a => ((c.Z a ∨ a.block = N1 ∨ a.block = N2) ∨ a.block = N4) ∨ a.block = N6) w1 := fun w1 r1 => by
    subst hκ
    have hc1 : ∀ x, (fun a => ((c.Z a ∨ a.block = N1 ∨ a.block = N2) ∨ a.block = N4) ∨ a.block = N6) x → w1.cell? x = w9.cell? x := fun x hx => (r1.cell x (.inr (.inr hx))).1
    refine ⟨⟨zz _ (.inr (.inr (.inr rfl))), (hc1 _ (zz _ (.inr (.inr (.inr rfl))))).trans cX⟩, ⟨zz _ (.inl rfl), (hc1 _ (zz _ (.inl rfl))).trans cN⟩, ⟨zz _ (.inr (.inl rfl)), (hc1 _ (zz _ (.inr (.inl rfl)))).trans cD⟩, ⟨zz _ (.inr (.inr (.inl rfl))), (hc1 _ (zz _ (.inr (.inr (.inl rfl))))).trans cO⟩, fun p hp => ?_, fun x _ h => h, fun x hx => ?_, fun x hx e => ?_, ?_, ?_, ?_, fun i hi => ⟨?_, ?_⟩⟩
    · have h1 := hZc.hold hH9 p hp
      have h2 : (fun a => ((c.Z a ∨ a.block = N1 ∨ a.block = N2) ∨ a.block = N4) ∨ a.block = N6) p.1 := .inl (.inl (.inl h1.1))
      exact ⟨h2, (hc1 _ h2).trans h1.2⟩
    · exact Nat.lt_of_lt_of_le (hlowE x (hx.elim (fun h => h.elim) (fun h => .inr (.inr h)))) r1.size
    · rcases hx with hx | hx
      · exact hx.elim
      · exact (hn.oz x hx).2 (.inl (.inr (congrArg Addr.block e)))
    · show N3 < w1.heap.size; have := r1.size; omega
    · show N5 < w1.heap.size; have := r1.size; omega
    · show N3 ≠ N5; omega
    · obtain ⟨u, hu⟩ := hrow i hi; exact r1.grow.ex _ u hu
    · exact (r1.grow.frz _ (by show N3 < w9.heap.size; omega)).trans (hrowf i hi)
  clear hf9 hR9 hn7 hfE
  have hloop : ∀ (kk : List Item) (x3 x11 x12 x13 x14 x15 x16 x17 x18 x19 x20 x21 x22 x23 x24 x34 x35 : Value),
      (∀ w1 (x31 x32 x33 : Value), Hold ({ c with Z := fun a => ((c.Z a ∨ a.block = N1 ∨ a.block = N2) ∨ a.block = N4) ∨ a.block = N6, par := some (κ, .p0, 0) }) w9 w1 → T Try.prog Post (F0 + 200) bb ({ c with Z := fun a => ((c.Z a ∨ a.block = N1 ∨ a.block = N2) ∨ a.block = N4) ∨ a.block = N6, par := some (κ, .p0, a) }) (G ((base 14).at ⟨#[.int .i64 (a : Int), .int .i64 (n : Int), .func (.func d0) #[] caps, x3, .pointer (some ⟨N1, 0, none⟩), .pointer (some ⟨N2, 0, none⟩), .slice none 0 0, .int .i64 0, .pointer (some ⟨N4, 0, none⟩), .pointer (some ⟨N6, 0, none⟩), .pointer (some ⟨κ.Wg, 0, none⟩), x11, x12, x13, x14, x15, x16, x17, x18, x19, x20, x21, x22, x23, x24, .int .i64 (n : Int), .slice (some ⟨N3, 0, none⟩) n n, .pointer (some ⟨N5, 0, none⟩), .int .i64 (a : Int), .int .i64 (a : Int), .bool false, x31, x32, x33, x34, x35], []⟩ kk) (b₀.at a₀ (.inRegion ops₀ (i₀ :: rest₀) :: k₀) :: cs)) w1) →
      ∀ (k i : Nat), i + k = a → ∀ (w1 : World) (x30 x31 x32 x33 : Value), Hold ({ c with Z := fun a => ((c.Z a ∨ a.block = N1 ∨ a.block = N2) ∨ a.block = N4) ∨ a.block = N6, par := some (κ, .p0, 0) }) w9 w1 →
        T Try.prog Post (F0 + 600 * k + 300) bb ({ c with Z := fun a => ((c.Z a ∨ a.block = N1 ∨ a.block = N2) ∨ a.block = N4) ∨ a.block = N6, par := some (κ, .p0, i) }) (G ((base 14).at ⟨#[.int .i64 (a : Int), .int .i64 (n : Int), .func (.func d0) #[] caps, x3, .pointer (some ⟨N1, 0, none⟩), .pointer (some ⟨N2, 0, none⟩), .slice none 0 0, .int .i64 0, .pointer (some ⟨N4, 0, none⟩), .pointer (some ⟨N6, 0, none⟩), .pointer (some ⟨κ.Wg, 0, none⟩), x11, x12, x13, x14, x15, x16, x17, x18, x19, x20, x21, x22, x23, x24, .int .i64 (n : Int), .slice (some ⟨N3, 0, none⟩) n n, .pointer (some ⟨N5, 0, none⟩), .int .i64 (a : Int), .int .i64 (i : Int), x30, x31, x32, x33, x34, x35], []⟩ (.code laBool :: .inLoop laBool :: .inBlock 0 :: kk)) (b₀.at a₀ (.inRegion ops₀ (i₀ :: rest₀) :: k₀) :: cs)) w1 := by
    have hkn : κ.n = n := by rw [hκ]
    have hkc : κ.cell = fun j => ⟨N3, j, none⟩ := by rw [hκ]
    have hkD : κ.D = doneAt κ.cell V := by rw [hκ]
    clear hκ
    intro kk x3 x11 x12 x13 x14 x15 x16 x17 x18 x19 x20 x21 x22 x23 x24 x34 x35 hex k
    induction k with
    | zero =>
      intro i hi w1 x30 x31 x32 x33 r1
      obtain rfl : i = a := by omega
      have hn := hnE (.p0, i)
      have hlt : ¬ (i : Int) < (i : Int) := by omega
      refine T.le (m := F0 + 200 + 20) (by omega) ?_
      simp only [laBool, Try.f14, loopOf, Option.getD_some, Option.none_or, Option.some_or, Option.or_none]
      refine T.goes1 hn rfl (fun _ _ _ => ?_); rw [stepG_seq]; simp only [goes_go]; refine ⟨by u_nil, ?_⟩
      refine T.goes1 hn rfl (fun _ _ _ => ?_); rw [stepG_region]; simp only [goes_go, List.size_toArray, List.length_cons, List.length_nil, Nat.reduceAdd, Nat.zero_add, List.range, List.range.loop]; refine ⟨by u_nil, ?_⟩
      refine T.goes1 hn rfl (fun _ _ _ => ?_); refine goes_oper_k rfl rfl (by k_ne) (fun K hK => ?_); go_simp; refine hK _ _ ⟨?_, ?_⟩; (u_none; intro e he; have hm := mem_listed he; simp [go_sem, *] at hm); clear hK K; try walk_nrm
      refine T.goes1 hn rfl (fun _ _ _ => ?_); rw [stepG_region_end]; simp only [goes_go]; refine ⟨by u_nil, ?_⟩
      refine T.goes1 hn rfl (fun _ _ _ => ?_); rw [stepG_seq]; simp only [goes_go]; refine ⟨by u_nil, ?_⟩
      refine T.goes1 hn rfl (fun _ _ _ => ?_); rw [stepG_cond (t := false) rfl]; simp only [goes_go, if_true, if_false, Bool.false_eq_true, ↓reduceIte]; refine ⟨by u_nil, ?_⟩
      refine T.goes1 hn rfl (fun _ _ _ => ?_); refine goes_exit rfl ?_; refine ⟨by u_nil, ?_⟩
      exact T.le (m := F0 + 200) (by omega) (hex w1 _ _ _ r1)
    | succ k ih =>
      intro i hi w1 x30 x31 x32 x33 r1
      have hn := hnE (.p0, i)
      have hlt : (i : Int) < (a : Int) := by omega
      have hinc : IntKind.i64.wrap ((i : Int) + 1) = ((i + 1 : Nat) : Int) := by rw [IntKind.wrap_i64]; omega
      refine T.le (m := F0 + 600 * k + 300 + 400 + 100) (by omega) ?_
      replace ih := fun w' x30 x31 x32 x33 r => ih (i + 1) (by omega) w' x30 x31 x32 x33 r
      simp only [laBool, Try.f14, loopOf, Option.getD_some, Option.none_or, Option.some_or, Option.or_none] at ih ⊢
      refine T.goes1 hn rfl (fun _ _ _ => ?_); rw [stepG_seq]; simp only [goes_go]; refine ⟨by u_nil, ?_⟩
      refine T.goes1 hn rfl (fun _ _ _ => ?_); rw [stepG_region]; simp only [goes_go, List.size_toArray, List.length_cons, List.length_nil, Nat.reduceAdd, Nat.zero_add, List.range, List.range.loop]; refine ⟨by u_nil, ?_⟩
      refine T.goes1 hn rfl (fun _ _ _ => ?_); refine goes_oper_k rfl rfl (by k_ne) (fun K hK => ?_); go_simp; refine hK _ _ ⟨?_, ?_⟩; (u_none; intro e he; have hm := mem_listed he; simp [go_sem, *] at hm); clear hK K; try walk_nrm
      refine T.goes1 hn rfl (fun _ _ _ => ?_); rw [stepG_region_end]; simp only [goes_go]; refine ⟨by u_nil, ?_⟩
      refine T.goes1 hn rfl (fun _ _ _ => ?_); rw [stepG_seq]; simp only [goes_go]; refine ⟨by u_nil, ?_⟩
      refine T.goes1 hn rfl (fun _ _ _ => ?_); rw [stepG_cond (t := true) rfl]; simp only [goes_go, if_true, if_false, Bool.false_eq_true, ↓reduceIte]; refine ⟨by u_nil, ?_⟩
      refine T.goes1 hn rfl (fun _ _ _ => ?_); rw [stepG_skip]; simp only [goes_go]; refine ⟨by u_nil, ?_⟩
      refine T.goes1 hn rfl (fun _ _ _ => ?_); rw [stepG_seq]; simp only [goes_go]; refine ⟨by u_nil, ?_⟩
      refine T.goes1 hn rfl (fun _ _ _ => ?_); rw [stepG_block]; simp only [goes_go]; refine ⟨by u_nil, ?_⟩
      refine T.goes1 hn rfl (fun _ _ _ => ?_); rw [stepG_seq]; simp only [goes_go]; refine ⟨by u_nil, ?_⟩
      refine T.goes2 hn rfl (fun wl rl hlive => ?_); rw [stepG_region]; simp only [goes_go, List.size_toArray, List.length_cons, List.length_nil, Nat.reduceAdd, Nat.zero_add, List.range, List.range.loop]; refine ⟨by u_nil, ?_⟩
      have r2 : Hold ({ c with Z := fun a => ((c.Z a ∨ a.block = N1 ∨ a.block = N2) ∨ a.block = N4) ∨ a.block = N6, par := some (κ, .p0, 0) }) w9 wl := r1.trans ⟨rl.size, rl.cell, rl.grow⟩
      have hzi := hz (.p0, i)
      refine T.goes1 hn rfl (fun _ _ _ => ?_); refine goes_call rfl rfl (by k_ne) rfl wgLib.f_add (nm_add link) (c := body_add link) rfl ⟨by u_nil, ?_⟩; walk_nrmf addFn
      refine T.le (m := (F0 + 600 * k + 300 + 60) + 300) (by omega) (add_walk wgLib (κ := κ) (sp := i) hn rfl hlive hzi ?_)
      have hn := hnE (.p3, i)
      walk_nrm
      refine T.goes1 hn rfl (fun _ _ _ => ?_); rw [stepG_region_end]; simp only [goes_go]; refine ⟨by u_nil, ?_⟩
      refine T.goes1 hn rfl (fun _ _ _ => ?_); rw [stepG_region]; simp only [goes_go, List.size_toArray, List.length_cons, List.length_nil, Nat.reduceAdd, Nat.zero_add, List.range, List.range.loop]; refine ⟨by u_nil, ?_⟩
      refine T.val hn (.func (.func 31) #[] #[.pointer (some ⟨κ.Wg, 0, none⟩), .pointer (some ⟨N6, 0, none⟩), .pointer (some ⟨N1, 0, none⟩), .pointer (some ⟨N2, 0, none⟩), .pointer (some ⟨N4, 0, none⟩)]) rfl rfl (by k_ne) (fun w1 _ => ⟨by unfold execOp; simp [go_sem, run_mkf], fun e he => by simp [go_sem, events_mkf] at he⟩) ?_
      walk_nrm
      refine T.spawn (κ := κ) (sp := i) rfl (by omega) rfl rfl (by k_ne) (d := { target := .fn (.func 31) #[.pointer (some ⟨κ.Wg, 0, none⟩), .pointer (some ⟨N6, 0, none⟩), .pointer (some ⟨N1, 0, none⟩), .pointer (some ⟨N2, 0, none⟩), .pointer (some ⟨N4, 0, none⟩)], args := #[] }) rfl (fun w1 => ⟨by go_simp, by simp [go_sem]⟩) ?_ (fun w3 r3 => ?_)
      rotate_left
      · have hE3 := hEnv w3 (r2.trans ⟨r3.size, r3.cell, r3.grow⟩)
        have hwk := @workBool Post κ N3 ⟨N6, 0, none⟩ ⟨N1, 0, none⟩ ⟨N2, 0, none⟩ ⟨N4, 0, none⟩ (.func (.func d0) #[] caps) Zc (fun a => ((c.Z a ∨ a.block = N1 ∨ a.block = N2) ∨ a.block = N4) ∨ a.block = N6) w3 d0 caps V FD hdo hfn hVt hVs hVm hkc hkD (by rw [hkn]; exact hn4) rfl hE3 (fun i hi h => ?_)
        · exact T.le (by rw [hkn]; omega) hwk
        · exact hn0z _ h trivial
      have hn := hnE (.p0, i + 1)
      walk_nrm
      refine T.goes1 hn rfl (fun _ _ _ => ?_); rw [stepG_region_end]; simp only [goes_go]; refine ⟨by u_nil, ?_⟩
      refine T.goes1 hn rfl (fun _ _ _ => ?_); rw [stepG_inBlock]; simp only [goes_go]; refine ⟨by u_nil, ?_⟩
      refine T.goes1 hn rfl (fun _ _ _ => ?_); rw [stepG_region]; simp only [goes_go, List.size_toArray, List.length_cons, List.length_nil, Nat.reduceAdd, Nat.zero_add, List.range, List.range.loop]; refine ⟨by u_nil, ?_⟩
      refine T.goes1 hn rfl (fun _ _ _ => ?_); refine goes_oper_k rfl rfl (by k_ne) (fun K hK => ?_); go_simp; refine hK _ _ ⟨?_, ?_⟩; (u_none; intro e he; have hm := mem_listed he; simp [go_sem, *] at hm); clear hK K; try walk_nrm
      refine T.goes1 hn rfl (fun _ _ _ => ?_); refine goes_oper_k rfl rfl (by k_ne) (fun K hK => ?_); go_simp; refine hK _ _ ⟨?_, ?_⟩; (u_none; intro e he; have hm := mem_listed he; simp [go_sem, *] at hm); clear hK K; try walk_nrm
      refine T.goes1 hn rfl (fun _ _ _ => ?_); rw [stepG_region_end]; simp only [goes_go]; refine ⟨by u_nil, ?_⟩
      refine T.goes1 hn rfl (fun _ _ _ => ?_); rw [stepG_inLoop]; simp only [goes_go]; refine ⟨by u_nil, ?_⟩
      exact T.le (by omega) (ih wl _ _ _ _ r2)
  have hWg : κ.Wg = N7 := by rw [hκ]
  have hkc : κ.cell = fun j => ⟨N3, j, none⟩ := by rw [hκ]
  have hkD : κ.D = doneAt (fun j => ⟨N3, j, none⟩) V := by rw [hκ]
  have hkn : κ.n = n := by rw [hκ]
  rw [hWg] at hloop
  clear hκ hOp
  replace hn := hnE (.p0, 0)
  simp only [laBool, Try.f14, loopOf, Option.getD_some, Option.none_or, Option.some_or, Option.or_none] at hloop
  refine T.goes1 hn rfl (fun _ _ _ => ?_); rw [stepG_block]; simp only [goes_go]; refine ⟨by u_nil, ?_⟩
  refine T.goes1 hn rfl (fun _ _ _ => ?_); rw [stepG_loop]; simp only [goes_go]; refine ⟨by u_nil, ?_⟩
  refine T.le (m := F0 + 600 * a + 300) (by omega) (hloop _ _ _ _ _ _ _ _ _ _ _ _ _ _ _ _ _ _ (fun w1 x31 x32 x33 r1 => ?_) a 0 (by omega) w9 _ _ _ _ (Hold.refl _ _))
  clear hloop
  replace hn := hnE (.p0, a)
  refine T.goes1 hn rfl (fun _ _ _ => ?_); rw [stepG_seq]; simp only [goes_go]; refine ⟨by u_nil, ?_⟩
  refine T.goes1 hn rfl (fun _ _ _ => ?_); rw [stepG_region]; simp only [goes_go, List.size_toArray, List.length_cons, List.length_nil, Nat.reduceAdd, Nat.zero_add, List.range, List.range.loop]; refine ⟨by u_nil, ?_⟩
  refine T.goes1 hn rfl (fun _ _ _ => ?_); refine goes_call rfl rfl (by k_ne) rfl wgLib.f_wait (nm_wait link) (c := body_wait link) rfl ⟨by u_nil, ?_⟩; walk_nrmf waitFn
  rw [← hWg]
  refine T.le (m := (mT + 60) + 400 * (M + 4)) (by omega) (T.hold (w := w1) (wait_walk wgLib (κ := κ) (sp := a) hn hM1 hM2 rfl (by omega) (hz (.p0, a)) (fun w2 X r2 x1 x2 x3 => ?_)) (Hold.refl _ _))
  have hHf : Hold c w w2 := hH9.trans (((r1.trans ⟨r2.size, r2.cell, r2.grow⟩).sub (c := c) (fun x hx => hx.imp id (fun h => h.imp id (fun h => .inl (.inl (.inl h)))))))
  have hXn : ∀ x, X x → ¬ c.O x ∧ ¬ c.U x ∧ ¬ c.Z x := fun x hx => ⟨(x2 x hx).1, (x2 x hx).2.1, fun h => (x2 x hx).2.2 (.inl (.inl (.inl h)))⟩
  replace hT := hT w2 X N3 hHf (by omega) x1 hXn (fun j hj => by
    obtain ⟨Y, y1, y2⟩ := x3 j (by rw [hkn]; exact hj)
    rw [hkD] at y2
    exact ⟨Y, y1, y2⟩)
  have vO : w2.cell? ⟨N4, 0, none⟩ = some (.slice (some ⟨N3, 0, none⟩) n n) := (r2.cell _ (.inr (.inr (zz _ (.inr (.inr (.inl rfl))))))).1.trans ((r1.cell _ (.inr (.inr (zz _ (.inr (.inr (.inl rfl))))))).1.trans cO)
  have hn5 : Cx.Neat { c with O := fun x => c.O x ∨ X x, Z := fun a => ((c.Z a ∨ a.block = N1 ∨ a.block = N2) ∨ a.block = N4) ∨ a.block = N6, par := none, lk := 0 } := ⟨fun x hx hu => hx.elim (fun h => hn0.ou x h hu) (fun h => (x2 x h).2.1 hu), fun x hzx => ⟨fun hx => hx.elim (fun h => (hn.oz x hzx).1 h) (fun h => (x2 x h).2.2 hzx), (hn.oz x hzx).2⟩⟩
  have hLs : Less { c with O := fun x => c.O x ∨ X x, Z := fun a => ((c.Z a ∨ a.block = N1 ∨ a.block = N2) ∨ a.block = N4) ∨ a.block = N6, par := none, lk := 0 } { c with O := fun x => c.O x ∨ X x } := ⟨fun x h => h, fun x h => h, hn5.ou, fun x hzx => hn5.oz x (.inl (.inl (.inl hzx))), fun x hzx => .inl (.inl (.inl (.inl hzx))), hp, rfl, hl, hmm⟩
  replace hn := hn5
  clear x1 x2 x3 hXn r2 hEnv
  walk_nrm
  refine T.goes1 hn rfl (fun _ _ _ => ?_); rw [stepG_region_end]; simp only [goes_go]; refine ⟨by u_nil, ?_⟩
  refine T.goes1 hn rfl (fun _ _ _ => ?_); rw [stepG_seq]; simp only [goes_go]; refine ⟨by u_nil, ?_⟩
  refine T.goes1 hn rfl (fun _ _ _ => ?_); rw [stepG_region]; simp only [goes_go, List.size_toArray, List.length_cons, List.length_nil, Nat.reduceAdd, Nat.zero_add, List.range, List.range.loop]; refine ⟨by u_nil, ?_⟩
  refine T.quiet hn rfl rfl (by k_ne) (fun w₁ hF hL K hK => ?_); have fc := (hF.cell _ (.inr (.inr (zz _ (.inr (.inr (.inl rfl))))))).1.trans (vO); go_simp; refine hK _ ?_ ?_; (intro e he; simp [go_sem, *] at he; subst he; exact EvOk.rd false (.inr (zz _ (.inr (.inr (.inl rfl)))))); clear hK K fc; try walk_nrm
  refine T.goes1 hn rfl (fun _ _ _ => ?_); refine goes_oper_k rfl rfl (by k_ne) (fun K hK => ?_); go_simp; refine hK _ _ ⟨?_, ?_⟩; (u_none; intro e he; have hm := mem_listed he; simp [go_sem, *] at hm); clear hK K; try walk_nrm
  refine T.goes1 hn rfl (fun _ _ _ => ?_); refine goes_oper_k rfl rfl (by k_ne) (fun K hK => ?_); go_simp; refine hK _ _ ⟨?_, ?_⟩; (u_none; intro e he; have hm := mem_listed he; simp [go_sem, *] at hm); clear hK K; try walk_nrm
  refine T.goes1 hn rfl (fun _ _ _ => ?_); rw [stepG_region_end]; simp only [goes_go]; refine ⟨by u_nil, ?_⟩
  refine T.goes1 hn rfl (fun _ _ _ => ?_); rw [stepG_ret']; simp only [goes_go]; refine ⟨by u_nil, ?_⟩
  refine T.turn hLs rfl (fun _ _ _ => ?_); refine goes_leave2 rfl rfl Try.func14 rfl ⟨by u_nil, ?_⟩; walk_nrm
  exact T.le (by omega) hT
noncomputable def laInt : Code := (loopOf (Try.f11.body.getD .skip)).getD .skip
theorem mkInt (w : World) (n : Nat) (hn4 : n ≤ 4096) : (Instr.makeSlice 29 (.int .i64 (n : Int)) (.int .i64 (n : Int))).run Try.prog w = .ok (.slice (some ⟨w.heap.size, 0, none⟩) n n) (w.alloc (.cells (Array.replicate n (.int .i64 0)) 3)) ∧ (Instr.makeSlice 29 (.int .i64 (n : Int)) (.int .i64 (n : Int))).events Try.prog w #[] = #[] := by
  have h : (Try.prog.info? 3).map (fun i => (i.zero, i.size, i.bytes)) = some (some (.int .i64 0), 1, 8) := by kernel_rfl
  obtain ⟨i, hi, h2⟩ := Option.map_eq_some_iff.1 h
  simp only [Prod.mk.injEq] at h2
  exact mk_gen w 29 3 i (.int .i64 0) Try.underlying29 hi h2.1 rfl h2.2.1 (by omega) n hn4
set_option maxRecDepth 100000 in
set_option maxHeartbeats 16000000 in
/-- ████ All ████ -/
theorem allInt {d0 : FuncId} {caps : Array Value} {Zc : List (Addr × Value)} {V : Nat → AS → Value → World → Prop} {FD : Nat} (hdo : TaskOk Try.prog Post d0 caps Zc V FD)
    (hfn : ∃ fn c, Try.prog.funcs[d0]? = some fn ∧ (fn.name == "runtime.NumGoroutine") = false ∧ fn.body = some c) (hVt : ∀ j X v w, V j X v w → (fun v => ∃ z, v = .int .i64 z) v) (hVs : VStable V) (hVm : VMono V) {bb : Bool} {c : Cx} {w : World} (hn0 : c.Neat) (hb0 : c.Low w) (hp : c.par = none) (hl : c.lk = 0) (hmm : ∀ κ ms lb J, c.mem = some (κ, ms, lb, J) → ms = .m0) (hZc : Has Zc c w)
    {a n M mT : Nat} (hM1 : 1048576 ≤ M) (hM2 : M ≤ 2097152) (ha1 : 1 ≤ a) (ha8 : a ≤ 8) (hn4 : n ≤ 4096) {b₀ : Frame} {a₀ : Go.Act} {ops₀ : Array Oper} {i₀ : Nat} {rest₀ : List Nat} {k₀ : List Item} {cs : List Frame}
    (hT : ∀ w' (X : AS) (R : Nat), Hold c w w' → w.heap.size ≤ R → (∀ a, X a → a.block < w'.heap.size) → (∀ a, X a → ¬ c.O a ∧ ¬ c.U a ∧ ¬ c.Z a) → (∀ j, j < n → ∃ Y : AS, (∀ a, Y a → X a) ∧ doneAt (fun j => ⟨R, j, none⟩) V j Y w') →
      T Try.prog Post mT bb { c with O := fun a => c.O a ∨ X a } (G (b₀.at (a₀.put ((ops₀[i₀]?).bind (·.dst)) (.tuple #[.slice (some ⟨R, 0, none⟩) n n, .int .i64 0])) (.inRegion ops₀ rest₀ :: k₀)) cs) w') :
    T Try.prog Post (mT + 400 * (M + 4) + (FD + 300) * (n + 1) + 9000) bb c (G ((base 11).at ⟨#[.int .i64 (a : Int), .int .i64 (n : Int), .func (.func d0) #[] caps, undef, undef, undef, undef, undef, undef, undef, undef, undef, undef, undef, undef, undef, undef, undef, undef, undef, undef, undef, undef, undef, undef, undef, undef, undef, undef, undef, undef, undef, undef, undef, undef, undef], []⟩ [.code (Try.f11.body.getD .skip)]) (b₀.at a₀ (.inRegion ops₀ (i₀ :: rest₀) :: k₀) :: cs)) w := by
  obtain ⟨F0, hF0⟩ : ∃ F0, F0 = mT + 400 * (M + 4) + (FD + 300) * (n + 1) + 1300 := ⟨_, rfl⟩
  have q1 : ¬ ((a : Int) < 1) := by omega
  have q2 : ¬ (8 < (a : Int)) := by omega
  have q3 : ¬ ((n : Int) < 0) := by omega
  have q4 : ¬ (4096 < (n : Int)) := by omega
  have hn := hn0
  have hlow : ∀ N, w.heap.size ≤ N → ∀ a, c.O a ∨ c.U a ∨ c.Z a → a.block ≠ N := fun N hN a ha e => by have := hb0 a ha; omega
  refine T.le (m := F0 + 7000) (by omega) ?_
  simp only [Try.f11, Option.getD_some]
  refine T.goes1 hn rfl (fun _ _ _ => ?_); rw [stepG_seq]; simp only [goes_go]; refine ⟨by u_nil, ?_⟩
  refine T.goes1 hn rfl (fun _ _ _ => ?_); rw [stepG_region]; simp only [goes_go, List.size_toArray, List.length_cons, List.length_nil, Nat.reduceAdd, Nat.zero_add, List.range, List.range.loop]; refine ⟨by u_nil, ?_⟩
  refine T.alloc1 true hn hb0 hmm rfl rfl (by k_ne) (fun N => .pointer (some ⟨N, 0, none⟩)) #[.int .i64 (n : Int)] 3 (fun w1 => ⟨by go_simp, by simp [go_sem]⟩) (fun w1 N1 g1 l1 hn1 hb1 fx1 nw1 ho1 => ?_)
  have hf1 := (fx1 [] (Facts.nil _ _)).cons (A := ⟨N1, 0, none⟩) (v := .int .i64 (n : Int)) (.inl (.inr rfl)) (nw1 0 _ rfl).1 (nw1 0 _ rfl).2
  clear fx1 nw1
  walk_nrm
  refine T.alloc1 true hn1 hb1 hmm rfl rfl (by k_ne) (fun N => .pointer (some ⟨N, 0, none⟩)) #[.func (.func d0) #[] caps] 27 (fun w1 => ⟨by go_simp, by simp [go_sem]⟩) (fun w2 N2 g2 l2 hn2 hb2 fx2 nw2 ho2 => ?_)
  have hf2 := (fx2 _ hf1).cons (A := ⟨N2, 0, none⟩) (v := .func (.func d0) #[] caps) (.inl (.inr rfl)) (nw2 0 _ rfl).1 (nw2 0 _ rfl).2
  have hH2 : Hold c w w2 := ho1.trans (ho2.sub (fun a ha => Cx.with_cells ha))
  have hs2 := hH2.size
  have ho1s := ho1.size
  clear fx2 nw2 ho2 hf1 ho1
  have hA : Less ((c.with true N1).with true N2) { c with Z := fun a => c.Z a ∨ a.block = N1 ∨ a.block = N2 } := ⟨fun a ha => ha.elim (fun h => .inl (.inl (.inl h))) .inr, fun a h => h, hn0.ou, fun a hz => by
      have g3 : w.heap.size ≤ N2 := Nat.le_trans ho1s g2
      rcases hz with h | h | h
      · exact hn0.oz a h
      · exact ⟨fun x => hlow N1 g1 a (.inl x) h, fun x => hlow N1 g1 a (.inr (.inl x)) h⟩
      · exact ⟨fun x => hlow N2 g3 a (.inl x) h, fun x => hlow N2 g3 a (.inr (.inl x)) h⟩, fun a hz => by
      rcases hz with h | h | h
      · exact .inl h
      · exact .inr (.inl (.inl (.inr h)))
      · exact .inr (.inl (.inr h)), rfl, rfl, rfl, hmm⟩
  walk_nrm
  refine T.turn hA rfl (fun _ _ _ => ?_); refine goes_oper_k rfl rfl (by k_ne) (fun K hK => ?_); go_simp; refine hK _ _ ⟨?_, ?_⟩; (u_none; intro e he; have hm := mem_listed he; simp [go_sem, *] at hm); clear hK K; try walk_nrm
  replace hn := hA.neat
  have hbA : Cx.Low { c with Z := fun a => c.Z a ∨ a.block = N1 ∨ a.block = N2 } w2 := fun a ha => hb2 a (hA.cells ha)
  have hfA := hf2.turn (c' := { c with Z := fun a => c.Z a ∨ a.block = N1 ∨ a.block = N2 }) (fun a ha => by
    rcases ha with ((h | h) | h) | h | h
    · exact .inl h
    · exact .inr (.inr (.inr (.inl h)))
    · exact .inr (.inr (.inr (.inr h)))
    · exact .inr (.inl h)
    · exact .inr (.inr (.inl h)))
  clear hf2 hn1 hb1 hn2 hb2
  have vN := (hfA (⟨N1, 0, none⟩, .int .i64 (n : Int)) (by simp)).2.1
  refine T.goes1 hn rfl (fun _ _ _ => ?_); refine goes_oper_k rfl rfl (by k_ne) (fun K hK => ?_); go_simp; refine hK _ _ ⟨?_, ?_⟩; (u_none; intro e he; have hm := mem_listed he; simp [go_sem, *] at hm); clear hK K; try walk_nrm
  refine T.goes1 hn rfl (fun _ _ _ => ?_); rw [stepG_region_end]; simp only [goes_go]; refine ⟨by u_nil, ?_⟩
  refine T.goes1 hn rfl (fun _ _ _ => ?_); rw [stepG_seq]; simp only [goes_go]; refine ⟨by u_nil, ?_⟩
  refine T.goes1 hn rfl (fun _ _ _ => ?_); rw [stepG_seq]; simp only [goes_go]; refine ⟨by u_nil, ?_⟩
  refine T.goes1 hn rfl (fun _ _ _ => ?_); rw [stepG_region]; simp only [goes_go, List.size_toArray, List.length_cons, List.length_nil, Nat.reduceAdd, Nat.zero_add, List.range, List.range.loop]; refine ⟨by u_nil, ?_⟩
  refine T.goes1 hn rfl (fun _ _ _ => ?_); refine goes_oper_k rfl rfl (by k_ne) (fun K hK => ?_); go_simp; refine hK _ _ ⟨?_, ?_⟩; (u_none; intro e he; have hm := mem_listed he; simp [go_sem, *] at hm); clear hK K; try walk_nrm
  refine T.goes1 hn rfl (fun _ _ _ => ?_); refine goes_oper_k rfl rfl (by k_ne) (fun K hK => ?_); go_simp; refine hK _ _ ⟨?_, ?_⟩; (u_none; intro e he; have hm := mem_listed he; simp [go_sem, *] at hm); clear hK K; try walk_nrm
  refine T.goes1 hn rfl (fun _ _ _ => ?_); refine goes_oper_k rfl rfl (by k_ne) (fun K hK => ?_); go_simp; refine hK _ _ ⟨?_, ?_⟩; (u_none; intro e he; have hm := mem_listed he; simp [go_sem, *] at hm); clear hK K; try walk_nrm
  refine T.goes1 hn rfl (fun _ _ _ => ?_); refine goes_oper_k rfl rfl (by k_ne) (fun K hK => ?_); go_simp; refine hK _ _ ⟨?_, ?_⟩; (u_none; intro e he; have hm := mem_listed he; simp [go_sem, *] at hm); clear hK K; try walk_nrm
  refine T.goes1 hn rfl (fun _ _ _ => ?_); refine goes_oper_k rfl rfl (by k_ne) (fun K hK => ?_); go_simp; refine hK _ _ ⟨?_, ?_⟩; (u_none; intro e he; have hm := mem_listed he; simp [go_sem, *] at hm); clear hK K; try walk_nrm
  refine T.goes1 hn rfl (fun _ _ _ => ?_); refine goes_oper_k rfl rfl (by k_ne) (fun K hK => ?_); go_simp; refine hK _ _ ⟨?_, ?_⟩; (u_none; intro e he; have hm := mem_listed he; simp [go_sem, *] at hm); clear hK K; try walk_nrm
  refine T.goes1 hn rfl (fun _ _ _ => ?_); refine goes_oper_k rfl rfl (by k_ne) (fun K hK => ?_); go_simp; refine hK _ _ ⟨?_, ?_⟩; (u_none; intro e he; have hm := mem_listed he; simp [go_sem, *] at hm); clear hK K; try walk_nrm
  refine T.quiet hn rfl rfl (by k_ne) (fun w₁ hF hL K hK => ?_); have fc := (hF.cell _ (.inr (.inr (.inr (.inl rfl))))).1.trans (vN); go_simp; refine hK _ ?_ ?_; (intro e he; simp [go_sem, *] at he; subst he; exact EvOk.rd false (.inr (.inr (.inl rfl)))); clear hK K fc; try walk_nrm
  refine T.goes1 hn rfl (fun _ _ _ => ?_); refine goes_oper_k rfl rfl (by k_ne) (fun K hK => ?_); go_simp; refine hK _ _ ⟨?_, ?_⟩; (u_none; intro e he; have hm := mem_listed he; simp [go_sem, *] at hm); clear hK K; try walk_nrm
  refine T.goes1 hn rfl (fun _ _ _ => ?_); refine goes_oper_k rfl rfl (by k_ne) (fun K hK => ?_); go_simp; refine hK _ _ ⟨?_, ?_⟩; (u_none; intro e he; have hm := mem_listed he; simp [go_sem, *] at hm); clear hK K; try walk_nrm
  refine T.goes1 hn rfl (fun _ _ _ => ?_); refine goes_oper_k rfl rfl (by k_ne) (fun K hK => ?_); go_simp; refine hK _ _ ⟨?_, ?_⟩; (u_none; intro e he; have hm := mem_listed he; simp [go_sem, *] at hm); clear hK K; try walk_nrm
  refine T.quiet hn rfl rfl (by k_ne) (fun w₁ hF hL K hK => ?_); have fc := (hF.cell _ (.inr (.inr (.inr (.inl rfl))))).1.trans (vN); go_simp; refine hK _ ?_ ?_; (intro e he; simp [go_sem, *] at he; subst he; exact EvOk.rd false (.inr (.inr (.inl rfl)))); clear hK K fc; try walk_nrm
  refine T.goes1 hn rfl (fun _ _ _ => ?_); refine goes_oper_k rfl rfl (by k_ne) (fun K hK => ?_); go_simp; refine hK _ _ ⟨?_, ?_⟩; (u_none; intro e he; have hm := mem_listed he; simp [go_sem, *] at hm); clear hK K; try walk_nrm
  refine T.goes1 hn rfl (fun _ _ _ => ?_); refine goes_oper_k rfl rfl (by k_ne) (fun K hK => ?_); go_simp; refine hK _ _ ⟨?_, ?_⟩; (u_none; intro e he; have hm := mem_listed he; simp [go_sem, *] at hm); clear hK K; try walk_nrm
  refine T.goes1 hn rfl (fun _ _ _ => ?_); rw [stepG_region_end]; simp only [goes_go]; refine ⟨by u_nil, ?_⟩
  refine T.goes1 hn rfl (fun _ _ _ => ?_); rw [stepG_cond (t := false) rfl]; simp only [goes_go, if_true, if_false, Bool.false_eq_true, ↓reduceIte]; refine ⟨by u_nil, ?_⟩
  refine T.goes1 hn rfl (fun _ _ _ => ?_); rw [stepG_skip]; simp only [goes_go]; refine ⟨by u_nil, ?_⟩
  refine T.goes1 hn rfl (fun _ _ _ => ?_); rw [stepG_seq]; simp only [goes_go]; refine ⟨by u_nil, ?_⟩
  refine T.goes1 hn rfl (fun _ _ _ => ?_); rw [stepG_region]; simp only [goes_go, List.size_toArray, List.length_cons, List.length_nil, Nat.reduceAdd, Nat.zero_add, List.range, List.range.loop]; refine ⟨by u_nil, ?_⟩
  refine T.quiet hn rfl rfl (by k_ne) (fun w₁ hF hL K hK => ?_); have fc := (hF.cell _ (.inr (.inr (.inr (.inl rfl))))).1.trans (vN); go_simp; refine hK _ ?_ ?_; (intro e he; simp [go_sem, *] at he; subst he; exact EvOk.rd false (.inr (.inr (.inl rfl)))); clear hK K fc; try walk_nrm
  refine T.alloc1 false hn hbA hmm rfl rfl (by k_ne) (fun N => .slice (some ⟨N, 0, none⟩) n n) (Array.replicate n (.int .i64 0)) 3 (fun w1 => ⟨by have hm := (mkInt w1 n hn4).1; go_simp, by have hm := mkInt w1 n hn4; simp [go_sem, hm.1, hm.2]⟩) (fun w3 N3 g3 l3 hn3 hb3 fx3 nw3 ho3 => ?_)
  have hf3 := fx3 _ hfA
  have hR3 : Facts ((List.range n).map fun i => ((⟨N3, i, none⟩ : Addr), (.int .i64 0 : Value))) (Cx.with { c with Z := fun a => c.Z a ∨ a.block = N1 ∨ a.block = N2 } false N3) w3 := fun p hp => by
    obtain ⟨i, hi, rfl⟩ := List.mem_map.1 hp
    have hi := List.mem_range.1 hi
    have := nw3 i (.int .i64 0) (by simp [hi])
    exact ⟨.inr (.inl (.inr rfl)), this.1, this.2⟩
  have hH3 : Hold c w w3 := hH2.trans (ho3.sub (fun a ha => ha.imp id (fun h => h.imp id .inl)))
  have hs3 := hH3.size
  clear fx3 nw3 ho3 hfA vN
  walk_nrm
  refine T.alloc1 true hn3 hb3 hmm rfl rfl (by k_ne) (fun N => .pointer (some ⟨N, 0, none⟩)) #[.slice none 0 0] 29 (fun w1 => ⟨by go_simp, by simp [go_sem]⟩) (fun w4 N4 g4 l4 hn4' hb4 fx4 nw4 ho4 => ?_)
  have hf4 := fx4 _ hf3
  have hR4 := fx4 _ hR3
  have hH4 : Hold c w w4 := hH3.trans (ho4.sub (fun a ha => ha.imp id (fun h => h.imp (fun h => .inl h) .inl)))
  have hs4 := hH4.size
  walk_nrm
  refine T.store hn4' (A := ⟨N4, 0, none⟩) (.inr rfl) (v := .slice (some ⟨N3, 0, none⟩) n n) (nw4 0 _ rfl).1 (nw4 0 _ rfl).2 rfl rfl (by k_ne) (fun w1 h1 h2 => ⟨by unfold execOp; simp [go_sem, stored, h1, h2], by unfold execOp; simp [go_sem]; rw [events_store _ _ _ _ _ _ rfl]; simp [h1, h2]⟩) ?_
  have hne4 : ∀ a : Addr, a.block < w3.heap.size → a ≠ ⟨N4, 0, none⟩ := fun a h e => by rw [e] at h; exact absurd h (by show ¬ N4 < w3.heap.size; omega)
  have hl4 := hb4
  have hf5 := (hf4.set (A := ⟨N4, 0, none⟩) (fun p hp => hne4 _ (hf3.low hb3 hp)) (.slice (some ⟨N3, 0, none⟩) n n)).cons (A := ⟨N4, 0, none⟩) (.inl (.inr rfl)) (World.cell?_setCell_same _ _ _ (nw4 0 _ rfl).1) ((World.frozen?_setCell _ _ _ _).trans (nw4 0 _ rfl).2)
  have hR5 := hR4.set (A := ⟨N4, 0, none⟩) (fun p hp => hne4 _ (hR3.low hb3 hp)) (.slice (some ⟨N3, 0, none⟩) n n)
  have hH5 : Hold c w (w4.setCell ⟨N4, 0, none⟩ (.slice (some ⟨N3, 0, none⟩) n n)) := hH4.put (fun z hz e => hlow N4 (by omega) z hz (by rw [e]))
  have hb5 : (Cx.with (Cx.with { c with Z := fun a => c.Z a ∨ a.block = N1 ∨ a.block = N2 } false N3) true N4).Low (w4.setCell ⟨N4, 0, none⟩ (.slice (some ⟨N3, 0, none⟩) n n)) := fun a ha => by rw [World.size_setCell]; exact hb4 a ha
  have hs5 : (w4.setCell ⟨N4, 0, none⟩ (.slice (some ⟨N3, 0, none⟩) n n)).heap.size = w4.heap.size := World.size_setCell _ _ _
  clear fx4 nw4 hf4 hR4 hf3 hR3 hH4 ho4 hb4
  generalize w4.setCell ⟨N4, 0, none⟩ (.slice (some ⟨N3, 0, none⟩) n n) = w5 at hf5 hR5 hH5 hb5 hs5 ⊢
  have hB : Less (Cx.with (Cx.with { c with Z := fun a => c.Z a ∨ a.block = N1 ∨ a.block = N2 } false N3) true N4) { c with U := fun a => c.U a ∨ a.block = N3, Z := fun a => (c.Z a ∨ a.block = N1 ∨ a.block = N2) ∨ a.block = N4 } := ⟨fun a ha => ha.elim (fun h => .inl (.inl h)) (fun h => .inr h), fun a h => h, fun a h hu => hn4'.ou a (.inl h) hu, fun a hz => by
      rcases hz with h | h
      · exact ⟨fun x => (hn4'.oz a h).1 (.inl x), (hn4'.oz a h).2⟩
      · exact ⟨fun x => hlow N4 (by omega) a (.inl x) h, fun x => hn4'.ou a (.inr h) x⟩, fun a hz => by
      rcases hz with h | h
      · exact .inl h
      · exact .inr (.inl (.inr h)), rfl, rfl, rfl, hmm⟩
  walk_nrm
  refine T.turn hB rfl (fun _ _ _ => ?_); rw [stepG_region_end]; simp only [goes_go]; refine ⟨by u_nil, ?_⟩
  replace hn := hB.neat
  have hbB : Cx.Low { c with U := fun a => c.U a ∨ a.block = N3, Z := fun a => (c.Z a ∨ a.block = N1 ∨ a.block = N2) ∨ a.block = N4 } w5 := fun a ha => hb5 a (hB.cells ha)
  have cellsB : ∀ a, (Cx.with (Cx.with { c with Z := fun a => c.Z a ∨ a.block = N1 ∨ a.block = N2 } false N3) true N4).O a ∨ (Cx.with (Cx.with { c with Z := fun a => c.Z a ∨ a.block = N1 ∨ a.block = N2 } false N3) true N4).U a ∨ (Cx.with (Cx.with { c with Z := fun a => c.Z a ∨ a.block = N1 ∨ a.block = N2 } false N3) true N4).Z a → ({ c with U := fun a => c.U a ∨ a.block = N3, Z := fun a => (c.Z a ∨ a.block = N1 ∨ a.block = N2) ∨ a.block = N4 } : Cx).O a ∨ ({ c with U := fun a => c.U a ∨ a.block = N3, Z := fun a => (c.Z a ∨ a.block = N1 ∨ a.block = N2) ∨ a.block = N4 } : Cx).U a ∨ ({ c with U := fun a => c.U a ∨ a.block = N3, Z := fun a => (c.Z a ∨ a.block = N1 ∨ a.block = N2) ∨ a.block = N4 } : Cx).Z a := fun a ha => by
    rcases ha with (h | h) | h | h
    · exact .inl h
    · exact .inr (.inr (.inr h))
    · exact .inr (.inl h)
    · exact .inr (.inr (.inl h))
  replace hf5 := hf5.turn (c' := { c with U := fun a => c.U a ∨ a.block = N3, Z := fun a => (c.Z a ∨ a.block = N1 ∨ a.block = N2) ∨ a.block = N4 }) cellsB
  replace hR5 := hR5.turn (c' := { c with U := fun a => c.U a ∨ a.block = N3, Z := fun a => (c.Z a ∨ a.block = N1 ∨ a.block = N2) ∨ a.block = N4 }) cellsB
  clear cellsB hn3 hb3 hn4' hb5 hl4
  refine T.goes1 hn rfl (fun _ _ _ => ?_); rw [stepG_seq]; simp only [goes_go]; refine ⟨by u_nil, ?_⟩
  refine T.goes1 hn rfl (fun _ _ _ => ?_); rw [stepG_region]; simp only [goes_go, List.size_toArray, List.length_cons, List.length_nil, Nat.reduceAdd, Nat.zero_add, List.range, List.range.loop]; refine ⟨by u_nil, ?_⟩
  refine T.goes1 hn rfl (fun _ _ _ => ?_); refine goes_call rfl rfl (by k_ne) rfl Try.func7 (by kernel_rfl) rfl ⟨by u_nil, ?_⟩; walk_nrmf Try.f7
  refine T.le (m := (F0 + 6000) + 20) (by omega) (new_walk false hn hbB hmm (fun w6 N5 g5 l5 hn5 hb5 fx5 nw5 ho5 => ?_))
  have hf6 := (fx5 _ hf5).cons (A := ⟨N5, 0, none⟩) (.inr (.inl (.inr rfl))) nw5.1 nw5.2
  have hR6 := fx5 _ hR5
  have hH6 : Hold c w w6 := hH5.trans (ho5.sub (fun a ha => ha.imp id (fun h => h.imp .inl (fun h => .inl (.inl h)))))
  have hs6 := hH6.size
  clear fx5 nw5 ho5 hf5 hR5
  walk_nrm
  refine T.alloc1 true hn5 hb5 hmm rfl rfl (by k_ne) (fun N => .pointer (some ⟨N, 0, none⟩)) #[.pointer none] 23 (fun w1 => ⟨by go_simp, by simp [go_sem]⟩) (fun w7 N6 g6 l6 hn6 hb6 fx6 nw6 ho6 => ?_)
  have hf7 := fx6 _ hf6
  have hR7 := fx6 _ hR6
  have hH7 : Hold c w w7 := hH6.trans (ho6.sub (fun a ha => ha.imp id (fun h => h.imp (fun h => .inl (.inl h)) (fun h => .inl (.inl h)))))
  have hs7 := hH7.size
  walk_nrm
  refine T.store hn6 (A := ⟨N6, 0, none⟩) (.inr rfl) (v := .pointer (some ⟨N5, 0, none⟩)) (nw6 0 _ rfl).1 (nw6 0 _ rfl).2 rfl rfl (by k_ne) (fun w1 h1 h2 => ⟨by unfold execOp; simp [go_sem, stored, h1, h2], by unfold execOp; simp [go_sem]; rw [events_store _ _ _ _ _ _ rfl]; simp [h1, h2]⟩) ?_
  have hne6 : ∀ a : Addr, a.block < w6.heap.size → a ≠ ⟨N6, 0, none⟩ := fun a h e => by rw [e] at h; exact absurd h (by show ¬ N6 < w6.heap.size; omega)
  have hf8 := (hf7.set (A := ⟨N6, 0, none⟩) (fun p hp => hne6 _ (hf6.low hb5 hp)) (.pointer (some ⟨N5, 0, none⟩))).cons (A := ⟨N6, 0, none⟩) (.inl (.inr rfl)) (World.cell?_setCell_same _ _ _ (nw6 0 _ rfl).1) ((World.frozen?_setCell _ _ _ _).trans (nw6 0 _ rfl).2)
  have hR8 := hR7.set (A := ⟨N6, 0, none⟩) (fun p hp => hne6 _ (hR6.low hb5 hp)) (.pointer (some ⟨N5, 0, none⟩))
  have hH8 : Hold c w (w7.setCell ⟨N6, 0, none⟩ (.pointer (some ⟨N5, 0, none⟩))) := hH7.put (fun z hz e => hlow N6 (by omega) z hz (by rw [e]))
  have hb8 : (Cx.with (Cx.with { c with U := fun a => c.U a ∨ a.block = N3, Z := fun a => (c.Z a ∨ a.block = N1 ∨ a.block = N2) ∨ a.block = N4 } false N5) true N6).Low (w7.setCell ⟨N6, 0, none⟩ (.pointer (some ⟨N5, 0, none⟩))) := fun a ha => by rw [World.size_setCell]; exact hb6 a ha
  have hs8 : (w7.setCell ⟨N6, 0, none⟩ (.pointer (some ⟨N5, 0, none⟩))).heap.size = w7.heap.size := World.size_setCell _ _ _
  clear fx6 nw6 hf7 hR7 hf6 hR6 hH7 ho6 hb6
  generalize w7.setCell ⟨N6, 0, none⟩ (.pointer (some ⟨N5, 0, none⟩)) = w8 at hf8 hR8 hH8 hb8 hs8 ⊢
  have hC : Less (Cx.with (Cx.with { c with U := fun a => c.U a ∨ a.block = N3, Z := fun a => (c.Z a ∨ a.block = N1 ∨ a.block = N2) ∨ a.block = N4 } false N5) true N6) { c with U := fun a => (c.U a ∨ a.block = N3) ∨ a.block = N5, Z := fun a => ((c.Z a ∨ a.block = N1 ∨ a.block = N2) ∨ a.block = N4) ∨ a.block = N6 } := ⟨fun a ha => ha.elim (fun h => .inl (.inl h)) (fun h => .inr h), fun a h => h, fun a h hu => hn6.ou a (.inl h) hu, fun a hz => by
      rcases hz with h | h
      · exact ⟨fun x => (hn6.oz a h).1 (.inl x), (hn6.oz a h).2⟩
      · exact ⟨fun x => hlow N6 (by omega) a (.inl x) h, fun x => hn6.ou a (.inr h) x⟩, fun a hz => by
      rcases hz with h | h
      · exact .inl h
      · exact .inr (.inl (.inr h)), rfl, rfl, rfl, hmm⟩
  walk_nrm
  refine T.turn hC rfl (fun _ _ _ => ?_); rw [stepG_region_end]; simp only [goes_go]; refine ⟨by u_nil, ?_⟩
  replace hn := hC.neat
  have hbC : Cx.Low { c with U := fun a => (c.U a ∨ a.block = N3) ∨ a.block = N5, Z := fun a => ((c.Z a ∨ a.block = N1 ∨ a.block = N2) ∨ a.block = N4) ∨ a.block = N6 } w8 := fun a ha => hb8 a (hC.cells ha)
  have cellsC : ∀ a, (Cx.with (Cx.with { c with U := fun a => c.U a ∨ a.block = N3, Z := fun a => (c.Z a ∨ a.block = N1 ∨ a.block = N2) ∨ a.block = N4 } false N5) true N6).O a ∨ (Cx.with (Cx.with { c with U := fun a => c.U a ∨ a.block = N3, Z := fun a => (c.Z a ∨ a.block = N1 ∨ a.block = N2) ∨ a.block = N4 } false N5) true N6).U a ∨ (Cx.with (Cx.with { c with U := fun a => c.U a ∨ a.block = N3, Z := fun a => (c.Z a ∨ a.block = N1 ∨ a.block = N2) ∨ a.block = N4 } false N5) true N6).Z a → ({ c with U := fun a => (c.U a ∨ a.block = N3) ∨ a.block = N5, Z := fun a => ((c.Z a ∨ a.block = N1 ∨ a.block = N2) ∨ a.block = N4) ∨ a.block = N6 } : Cx).O a ∨ ({ c with U := fun a => (c.U a ∨ a.block = N3) ∨ a.block = N5, Z := fun a => ((c.Z a ∨ a.block = N1 ∨ a.block = N2) ∨ a.block = N4) ∨ a.block = N6 } : Cx).U a ∨ ({ c with U := fun a => (c.U a ∨ a.block = N3) ∨ a.block = N5, Z := fun a => ((c.Z a ∨ a.block = N1 ∨ a.block = N2) ∨ a.block = N4) ∨ a.block = N6 } : Cx).Z a := fun a ha => by
    rcases ha with (h | h) | h | h
    · exact .inl h
    · exact .inr (.inr (.inr h))
    · exact .inr (.inl h)
    · exact .inr (.inr (.inl h))
  replace hf8 := hf8.turn (c' := { c with U := fun a => (c.U a ∨ a.block = N3) ∨ a.block = N5, Z := fun a => ((c.Z a ∨ a.block = N1 ∨ a.block = N2) ∨ a.block = N4) ∨ a.block = N6 }) cellsC
  replace hR8 := hR8.turn (c' := { c with U := fun a => (c.U a ∨ a.block = N3) ∨ a.block = N5, Z := fun a => ((c.Z a ∨ a.block = N1 ∨ a.block = N2) ∨ a.block = N4) ∨ a.block = N6 }) cellsC
  clear cellsC hn5 hb5 hn6 hb8
  refine T.goes1 hn rfl (fun _ _ _ => ?_); rw [stepG_seq]; simp only [goes_go]; refine ⟨by u_nil, ?_⟩
  refine T.goes1 hn rfl (fun _ _ _ => ?_); rw [stepG_region]; simp only [goes_go, List.size_toArray, List.length_cons, List.length_nil, Nat.reduceAdd, Nat.zero_add, List.range, List.range.loop]; refine ⟨by u_nil, ?_⟩
  refine T.alloc1 false hn hbC hmm rfl rfl (by k_ne) (fun N => .pointer (some ⟨N, 0, none⟩)) #[.int .u64 0, .int .u32 0] 69 (fun w1 => ⟨by go_simp, by simp [go_sem]⟩) (fun w9 N7 g7 l7 hn7 hb7 fx7 nw7 ho7 => ?_)
  have hf9 := ((fx7 _ hf8).cons (A := ⟨N7, 0, none⟩) (.inr (.inl (.inr rfl))) (nw7 0 _ rfl).1 (nw7 0 _ rfl).2).cons (A := ⟨N7, 1, none⟩) (.inr (.inl (.inr rfl))) (nw7 1 _ rfl).1 (nw7 1 _ rfl).2
  have hR9 := fx7 _ hR8
  have hH9 : Hold c w w9 := hH8.trans (ho7.sub (fun a ha => ha.imp id (fun h => h.imp (fun h => .inl (.inl h)) (fun h => .inl (.inl (.inl h))))))
  have hs9 := hH9.size
  clear fx7 nw7 ho7 hf8 hR8
  replace hn := hn7
  walk_nrm
  refine T.goes1 hn rfl (fun _ _ _ => ?_); rw [stepG_region_end]; simp only [goes_go]; refine ⟨by u_nil, ?_⟩
  refine T.goes1 hn rfl (fun _ _ _ => ?_); rw [stepG_seq]; simp only [goes_go]; refine ⟨by u_nil, ?_⟩
  refine T.goes1 hn rfl (fun _ _ _ => ?_); rw [stepG_seq]; simp only [goes_go]; refine ⟨by u_nil, ?_⟩
  refine T.goes1 hn rfl (fun _ _ _ => ?_); rw [stepG_region]; simp only [goes_go, List.size_toArray, List.length_cons, List.length_nil, Nat.reduceAdd, Nat.zero_add, List.range, List.range.loop]; refine ⟨by u_nil, ?_⟩
  refine T.goes1 hn rfl (fun _ _ _ => ?_); refine goes_oper_k rfl rfl (by k_ne) (fun K hK => ?_); go_simp; refine hK _ _ ⟨?_, ?_⟩; (u_none; intro e he; have hm := mem_listed he; simp [go_sem, *] at hm); clear hK K; try walk_nrm
  refine T.goes1 hn rfl (fun _ _ _ => ?_); refine goes_oper_k rfl rfl (by k_ne) (fun K hK => ?_); go_simp; refine hK _ _ ⟨?_, ?_⟩; (u_none; intro e he; have hm := mem_listed he; simp [go_sem, *] at hm); clear hK K; try walk_nrm
  obtain ⟨κ, hκ⟩ : ∃ κ : Crew, κ = (⟨N7, N5, n, fun j => ⟨N3, j, none⟩, doneAt (fun j => ⟨N3, j, none⟩) V⟩ : Crew) := ⟨_, rfl⟩
  have hOp : ∀ w1, Hold (Cx.with { c with U := fun a => (c.U a ∨ a.block = N3) ∨ a.block = N5, Z := fun a => ((c.Z a ∨ a.block = N1 ∨ a.block = N2) ∨ a.block = N4) ∨ a.block = N6 } false N7) w9 w1 → Opens (Cx.with { c with U := fun a => (c.U a ∨ a.block = N3) ∨ a.block = N5, Z := fun a => ((c.Z a ∨ a.block = N1 ∨ a.block = N2) ∨ a.block = N4) ∨ a.block = N6 } false N7) κ w1 ({ c with Z := fun a => ((c.Z a ∨ a.block = N1 ∨ a.block = N2) ∨ a.block = N4) ∨ a.block = N6, par := some (κ, .p0, 0) }) := fun w1 r1 => by
    have hf := hf9.hold r1
    have k1 := hf (⟨N7, 0, none⟩, .int .u64 0) (by simp)
    have k2 := hf (⟨N7, 1, none⟩, .int .u32 0) (by simp)
    have k3 := hf (⟨N5, 0, none⟩, .int .i64 0) (by simp)
    subst hκ
    refine ⟨hp, hl, rfl, rfl, rfl, rfl, fun x hx => ⟨.inl (.inl (.inl hx)), ?_, ?_, ?_, fun j hj => ?_⟩, .inr rfl, .inr rfl, .inl (.inr rfl), fun j hj => .inl (.inl (.inr rfl)), fun i j _ _ e => by injection e with _ e, fun j hj => ⟨?_, ?_, ?_⟩, ?_, k1.2.1, k2.2.1, k3.2.1, k1.2.2, k2.2.2, k3.2.2, by show n < 1048576; omega, fun j X w0 w1 h1 h2 => Go.Farm.doneAt.stable (cell := fun j => ⟨N3, j, none⟩) hVs h2 h1⟩
    · exact fun e => hlow N7 (by omega) x (.inr (.inl hx)) (congrArg Addr.block e)
    · exact fun e => hlow N7 (by omega) x (.inr (.inl hx)) (congrArg Addr.block e)
    · exact fun e => hlow N5 (by omega) x (.inr (.inl hx)) (congrArg Addr.block e)
    · exact fun e => hlow N3 (by omega) x (.inr (.inl hx)) (congrArg Addr.block e)
    · exact fun e => absurd (congrArg Addr.block e) (by show N3 ≠ N7; omega)
    · exact fun e => absurd (congrArg Addr.block e) (by show N3 ≠ N7; omega)
    · exact fun e => absurd (congrArg Addr.block e) (by show N3 ≠ N5; omega)
    · show N5 ≠ N7; omega
  refine T.open (κ := κ) (c' := { c with Z := fun a => ((c.Z a ∨ a.block = N1 ∨ a.block = N2) ∨ a.block = N4) ∨ a.block = N6, par := some (κ, .p0, 0) }) rfl hOp (fun _ _ _ => ?_); rw [stepG_region_end]; simp only [goes_go]; refine ⟨by u_nil, ?_⟩
  have hnE : ∀ st, Cx.Neat ({ c with Z := fun a => ((c.Z a ∨ a.block = N1 ∨ a.block = N2) ∨ a.block = N4) ∨ a.block = N6, par := some (κ, st) }) := fun st => ⟨fun x hx hu => hn0.ou x hx hu, fun x hz => ⟨fun hx => (hn.oz x hz).1 hx, fun hx => (hn.oz x hz).2 (.inl (.inl (.inl hx)))⟩⟩
  have hfE := hf9
  have hz : ∀ st, ∀ x, (({ c with Z := fun a => ((c.Z a ∨ a.block = N1 ∨ a.block = N2) ∨ a.block = N4) ∨ a.block = N6, par := some (κ, st) }) : Cx).O x ∨ (({ c with Z := fun a => ((c.Z a ∨ a.block = N1 ∨ a.block = N2) ∨ a.block = N4) ∨ a.block = N6, par := some (κ, st) }) : Cx).U x ∨ (({ c with Z := fun a => ((c.Z a ∨ a.block = N1 ∨ a.block = N2) ∨ a.block = N4) ∨ a.block = N6, par := some (κ, st) }) : Cx).Z x → x ≠ κ.st ∧ x ≠ κ.sm := fun st x hx => by
    subst hκ
    have hb : x.block ≠ N7 := fun e => by
      rcases hx with h | h | h
      · exact hlow N7 (by omega) x (.inl h) e
      · exact hlow N7 (by omega) x (.inr (.inl h)) e
      · have := (hn.oz x h).2; exact this (.inr e)
    exact ⟨fun e => hb (congrArg Addr.block e), fun e => hb (congrArg Addr.block e)⟩
  have hrow : ∀ i, i < n → ∃ u, w9.cell? ⟨N3, i, none⟩ = some u := fun i hi => ⟨_, (hR9 (⟨N3, i, none⟩, .int .i64 0) (List.mem_map.2 ⟨i, List.mem_range.2 hi, rfl⟩)).2.1⟩
  have hrowf : ∀ i, i < n → w9.frozen? ⟨N3, i, none⟩ = false := fun i hi => (hR9 (⟨N3, i, none⟩, .int .i64 0) (List.mem_map.2 ⟨i, List.mem_range.2 hi, rfl⟩)).2.2
  have zz : ∀ x, x.block = N1 ∨ x.block = N2 ∨ x.block = N4 ∨ x.block = N6 → (fun a => ((c.Z a ∨ a.block = N1 ∨ a.block = N2) ∨ a.block = N4) ∨ a.block = N6) x := fun x h => by
    rcases h with h | h | h | h
    · exact .inl (.inl (.inr (.inl h)))
    · exact .inl (.inl (.inr (.inr h)))
    · exact .inl (.inr h)
    · exact .inr h
  have cN := (hf9 (⟨N1, 0, none⟩, .int .i64 (n : Int)) (by simp)).2.1
  have cD := (hf9 (⟨N2, 0, none⟩, .func (.func d0) #[] caps) (by simp)).2.1
  have cO := (hf9 (⟨N4, 0, none⟩, .slice (some ⟨N3, 0, none⟩) n n) (by simp)).2.1
  have cX := (hf9 (⟨N6, 0, none⟩, .pointer (some ⟨N5, 0, none⟩)) (by simp)).2.1
  have hn0z : ∀ i : Nat, (fun a => ((c.Z a ∨ a.block = N1 ∨ a.block = N2) ∨ a.block = N4) ∨ a.block = N6) ⟨N3, i, none⟩ → ¬ True := fun i h => absurd (hn.oz _ h).2 (fun x => x (.inl (.inl (.inr rfl))))
  have hlowE : ∀ x, c.O x ∨ c.U x ∨ (fun a => ((c.Z a ∨ a.block = N1 ∨ a.block = N2) ∨ a.block = N4) ∨ a.block = N6) x → x.block < w9.heap.size := fun x h => hb7 x (by
    rcases h with h | h | h
    · exact .inl h
    · exact .inr (.inl (.inl (.inl (.inl h))))
    · exact .inr (.inr h))
  have hEnv : ∀ w1, Hold ({ c with Z := fun a => ((c.Z a ∨ a.block = N1 ∨ a.block = N2) ∨ a.block = N4) ∨ a.block = N6, par := some (κ, .p0, 0) }) w9 w1 → Env κ N3 ⟨N6, 0, none⟩ ⟨N1, 0, none⟩ ⟨N2, 0, none⟩ ⟨N4, 0, none⟩ (.func (.func d0) #[] caps) Zc none3 (fun a => ((c.Z a ∨ a.block = N1 ∨ a.block = N2) ∨ a.block = N4) ∨ a.block = N6) w1 := fun w1 r1 => by
    subst hκ
    have hc1 : ∀ x, (fun a => ((c.Z a ∨ a.block = N1 ∨ a.block = N2) ∨ a.block = N4) ∨ a.block = N6) x → w1.cell? x = w9.cell? x := fun x hx => (r1.cell x (.inr (.inr hx))).1
    refine ⟨⟨zz _ (.inr (.inr (.inr rfl))), (hc1 _ (zz _ (.inr (.inr (.inr rfl))))).trans cX⟩, ⟨zz _ (.inl rfl), (hc1 _ (zz _ (.inl rfl))).trans cN⟩, ⟨zz _ (.inr (.inl rfl)), (hc1 _ (zz _ (.inr (.inl rfl)))).trans cD⟩, ⟨zz _ (.inr (.inr (.inl rfl))), (hc1 _ (zz _ (.inr (.inr (.inl rfl))))).trans cO⟩, fun p hp => ?_, fun x _ h => h, fun x hx => ?_, fun x hx e => ?_, ?_, ?_, ?_, fun i hi => ⟨?_, ?_⟩⟩
    · have h1 := hZc.hold hH9 p hp
      have h2 : (fun a => ((c.Z a ∨ a.block = N1 ∨ a.block = N2) ∨ a.block = N4) ∨ a.block = N6) p.1 := .inl (.inl (.inl h1.1))
      exact ⟨h2, (hc1 _ h2).trans h1.2⟩
    · exact Nat.lt_of_lt_of_le (hlowE x (hx.elim (fun h => h.elim) (fun h => .inr (.inr h)))) r1.size
    · rcases hx with hx | hx
      · exact hx.elim
      · exact (hn.oz x hx).2 (.inl (.inr (congrArg Addr.block e)))
    · show N3 < w1.heap.size; have := r1.size; omega
    · show N5 < w1.heap.size; have := r1.size; omega
    · show N3 ≠ N5; omega
    · obtain ⟨u, hu⟩ := hrow i hi; exact r1.grow.ex _ u hu
    · exact (r1.grow.frz _ (by show N3 < w9.heap.size; omega)).trans (hrowf i hi)
  clear hf9 hR9 hn7 hfE
  have hloop : ∀ (kk : List Item) (x3 x11 x12 x13 x14 x15 x16 x17 x18 x19 x20 x21 x22 x23 x24 x34 x35 : Value),
      (∀ w1 (x31 x32 x33 : Value), Hold ({ c with Z := fun a => ((c.Z a ∨ a.block = N1 ∨ a.block = N2) ∨ a.block = N4) ∨ a.block = N6, par := some (κ, .p0, 0) }) w9 w1 → T Try.prog Post (F0 + 200) bb ({ c with Z := fun a => ((c.Z a ∨ a.block = N1 ∨ a.block = N2) ∨ a.block = N4) ∨ a.block = N6, par := some (κ, .p0, a) }) (G ((base 11).at ⟨#[.int .i64 (a : Int), .int .i64 (n : Int), .func (.func d0) #[] caps, x3, .pointer (some ⟨N1, 0, none⟩), .pointer (some ⟨N2, 0, none⟩), .slice none 0 0, .int .i64 0, .pointer (some ⟨N4, 0, none⟩), .pointer (some ⟨N6, 0, none⟩), .pointer (some ⟨κ.Wg, 0, none⟩), x11, x12, x13, x14, x15, x16, x17, x18, x19, x20, x21, x22, x23, x24, .int .i64 (n : Int), .slice (some ⟨N3, 0, none⟩) n n, .pointer (some ⟨N5, 0, none⟩), .int .i64 (a : Int), .int .i64 (a : Int), .bool false, x31, x32, x33, x34, x35], []⟩ kk) (b₀.at a₀ (.inRegion ops₀ (i₀ :: rest₀) :: k₀) :: cs)) w1) →
      ∀ (k i : Nat), i + k = a → ∀ (w1 : World) (x30 x31 x32 x33 : Value), Hold ({ c with Z := fun a => ((c.Z a ∨ a.block = N1 ∨ a.block = N2) ∨ a.block = N4) ∨ a.block = N6, par := some (κ, .p0, 0) }) w9 w1 →
        T Try.prog Post (F0 + 600 * k + 300) bb ({ c with Z := fun a => ((c.Z a ∨ a.block = N1 ∨ a.block = N2) ∨ a.block = N4) ∨ a.block = N6, par := some (κ, .p0, i) }) (G ((base 11).at ⟨#[.int .i64 (a : Int), .int .i64 (n : Int), .func (.func d0) #[] caps, x3, .pointer (some ⟨N1, 0, none⟩), .pointer (some ⟨N2, 0, none⟩), .slice none 0 0, .int .i64 0, .pointer (some ⟨N4, 0, none⟩), .pointer (some ⟨N6, 0, none⟩), .pointer (some ⟨κ.Wg, 0, none⟩), x11, x12, x13, x14, x15, x16, x17, x18, x19, x20, x21, x22, x23, x24, .int .i64 (n : Int), .slice (some ⟨N3, 0, none⟩) n n, .pointer (some ⟨N5, 0, none⟩), .int .i64 (a : Int), .int .i64 (i : Int), x30, x31, x32, x33, x34, x35], []⟩ (.code laInt :: .inLoop laInt :: .inBlock 0 :: kk)) (b₀.at a₀ (.inRegion ops₀ (i₀ :: rest₀) :: k₀) :: cs)) w1 := by
    have hkn : κ.n = n := by rw [hκ]
    have hkc : κ.cell = fun j => ⟨N3, j, none⟩ := by rw [hκ]
    have hkD : κ.D = doneAt κ.cell V := by rw [hκ]
    clear hκ
    intro kk x3 x11 x12 x13 x14 x15 x16 x17 x18 x19 x20 x21 x22 x23 x24 x34 x35 hex k
    induction k with
    | zero =>
      intro i hi w1 x30 x31 x32 x33 r1
      obtain rfl : i = a := by omega
      have hn := hnE (.p0, i)
      have hlt : ¬ (i : Int) < (i : Int) := by omega
      refine T.le (m := F0 + 200 + 20) (by omega) ?_
      simp only [laInt, Try.f11, loopOf, Option.getD_some, Option.none_or, Option.some_or, Option.or_none]
      refine T.goes1 hn rfl (fun _ _ _ => ?_); rw [stepG_seq]; simp only [goes_go]; refine ⟨by u_nil, ?_⟩
      refine T.goes1 hn rfl (fun _ _ _ => ?_); rw [stepG_region]; simp only [goes_go, List.size_toArray, List.length_cons, List.length_nil, Nat.reduceAdd, Nat.zero_add, List.range, List.range.loop]; refine ⟨by u_nil, ?_⟩
      refine T.goes1 hn rfl (fun _ _ _ => ?_); refine goes_oper_k rfl rfl (by k_ne) (fun K hK => ?_); go_simp; refine hK _ _ ⟨?_, ?_⟩; (u_none; intro e he; have hm := mem_listed he; simp [go_sem, *] at hm); clear hK K; try walk_nrm
      refine T.goes1 hn rfl (fun _ _ _ => ?_); rw [stepG_region_end]; simp only [goes_go]; refine ⟨by u_nil, ?_⟩
      refine T.goes1 hn rfl (fun _ _ _ => ?_); rw [stepG_seq]; simp only [goes_go]; refine ⟨by u_nil, ?_⟩
      refine T.goes1 hn rfl (fun _ _ _ => ?_); rw [stepG_cond (t := false) rfl]; simp only [goes_go, if_true, if_false, Bool.false_eq_true, ↓reduceIte]; refine ⟨by u_nil, ?_⟩
      refine T.goes1 hn rfl (fun _ _ _ => ?_); refine goes_exit rfl ?_; refine ⟨by u_nil, ?_⟩
      exact T.le (m := F0 + 200) (by omega) (hex w1 _ _ _ r1)
    | succ k ih =>
      intro i hi w1 x30 x31 x32 x33 r1
      have hn := hnE (.p0, i)
      have hlt : (i : Int) < (a : Int) := by omega
      have hinc : IntKind.i64.wrap ((i : Int) + 1) = ((i + 1 : Nat) : Int) := by rw [IntKind.wrap_i64]; omega
      refine T.le (m := F0 + 600 * k + 300 + 400 + 100) (by omega) ?_
      replace ih := fun w' x30 x31 x32 x33 r => ih (i + 1) (by omega) w' x30 x31 x32 x33 r
      simp only [laInt, Try.f11, loopOf, Option.getD_some, Option.none_or, Option.some_or, Option.or_none] at ih ⊢
      refine T.goes1 hn rfl (fun _ _ _ => ?_); rw [stepG_seq]; simp only [goes_go]; refine ⟨by u_nil, ?_⟩
      refine T.goes1 hn rfl (fun _ _ _ => ?_); rw [stepG_region]; simp only [goes_go, List.size_toArray, List.length_cons, List.length_nil, Nat.reduceAdd, Nat.zero_add, List.range, List.range.loop]; refine ⟨by u_nil, ?_⟩
      refine T.goes1 hn rfl (fun _ _ _ => ?_); refine goes_oper_k rfl rfl (by k_ne) (fun K hK => ?_); go_simp; refine hK _ _ ⟨?_, ?_⟩; (u_none; intro e he; have hm := mem_listed he; simp [go_sem, *] at hm); clear hK K; try walk_nrm
      refine T.goes1 hn rfl (fun _ _ _ => ?_); rw [stepG_region_end]; simp only [goes_go]; refine ⟨by u_nil, ?_⟩
      refine T.goes1 hn rfl (fun _ _ _ => ?_); rw [stepG_seq]; simp only [goes_go]; refine ⟨by u_nil, ?_⟩
      refine T.goes1 hn rfl (fun _ _ _ => ?_); rw [stepG_cond (t := true) rfl]; simp only [goes_go, if_true, if_false, Bool.false_eq_true, ↓reduceIte]; refine ⟨by u_nil, ?_⟩
      refine T.goes1 hn rfl (fun _ _ _ => ?_); rw [stepG_skip]; simp only [goes_go]; refine ⟨by u_nil, ?_⟩
      refine T.goes1 hn rfl (fun _ _ _ => ?_); rw [stepG_seq]; simp only [goes_go]; refine ⟨by u_nil, ?_⟩
      refine T.goes1 hn rfl (fun _ _ _ => ?_); rw [stepG_block]; simp only [goes_go]; refine ⟨by u_nil, ?_⟩
      refine T.goes1 hn rfl (fun _ _ _ => ?_); rw [stepG_seq]; simp only [goes_go]; refine ⟨by u_nil, ?_⟩
      refine T.goes2 hn rfl (fun wl rl hlive => ?_); rw [stepG_region]; simp only [goes_go, List.size_toArray, List.length_cons, List.length_nil, Nat.reduceAdd, Nat.zero_add, List.range, List.range.loop]; refine ⟨by u_nil, ?_⟩
      have r2 : Hold ({ c with Z := fun a => ((c.Z a ∨ a.block = N1 ∨ a.block = N2) ∨ a.block = N4) ∨ a.block = N6, par := some (κ, .p0, 0) }) w9 wl := r1.trans ⟨rl.size, rl.cell, rl.grow⟩
      have hzi := hz (.p0, i)
      refine T.goes1 hn rfl (fun _ _ _ => ?_); refine goes_call rfl rfl (by k_ne) rfl wgLib.f_add (nm_add link) (c := body_add link) rfl ⟨by u_nil, ?_⟩; walk_nrmf addFn
      refine T.le (m := (F0 + 600 * k + 300 + 60) + 300) (by omega) (add_walk wgLib (κ := κ) (sp := i) hn rfl hlive hzi ?_)
      have hn := hnE (.p3, i)
      walk_nrm
      refine T.goes1 hn rfl (fun _ _ _ => ?_); rw [stepG_region_end]; simp only [goes_go]; refine ⟨by u_nil, ?_⟩
      refine T.goes1 hn rfl (fun _ _ _ => ?_); rw [stepG_region]; simp only [goes_go, List.size_toArray, List.length_cons, List.length_nil, Nat.reduceAdd, Nat.zero_add, List.range, List.range.loop]; refine ⟨by u_nil, ?_⟩
      refine T.val hn (.func (.func 27) #[] #[.pointer (some ⟨κ.Wg, 0, none⟩), .pointer (some ⟨N6, 0, none⟩), .pointer (some ⟨N1, 0, none⟩), .pointer (some ⟨N2, 0, none⟩), .pointer (some ⟨N4, 0, none⟩)]) rfl rfl (by k_ne) (fun w1 _ => ⟨by unfold execOp; simp [go_sem, run_mkf], fun e he => by simp [go_sem, events_mkf] at he⟩) ?_
      walk_nrm
      refine T.spawn (κ := κ) (sp := i) rfl (by omega) rfl rfl (by k_ne) (d := { target := .fn (.func 27) #[.pointer (some ⟨κ.Wg, 0, none⟩), .pointer (some ⟨N6, 0, none⟩), .pointer (some ⟨N1, 0, none⟩), .pointer (some ⟨N2, 0, none⟩), .pointer (some ⟨N4, 0, none⟩)], args := #[] }) rfl (fun w1 => ⟨by go_simp, by simp [go_sem]⟩) ?_ (fun w3 r3 => ?_)
      rotate_left
      · have hE3 := hEnv w3 (r2.trans ⟨r3.size, r3.cell, r3.grow⟩)
        have hwk := @workInt Post κ N3 ⟨N6, 0, none⟩ ⟨N1, 0, none⟩ ⟨N2, 0, none⟩ ⟨N4, 0, none⟩ (.func (.func d0) #[] caps) Zc (fun a => ((c.Z a ∨ a.block = N1 ∨ a.block = N2) ∨ a.block = N4) ∨ a.block = N6) w3 d0 caps V FD hdo hfn hVt hVs hVm hkc hkD (by rw [hkn]; exact hn4) rfl hE3 (fun i hi h => ?_)
        · exact T.le (by rw [hkn]; omega) hwk
        · exact hn0z _ h trivial
      have hn := hnE (.p0, i + 1)
      walk_nrm
      refine T.goes1 hn rfl (fun _ _ _ => ?_); rw [stepG_region_end]; simp only [goes_go]; refine ⟨by u_nil, ?_⟩
      refine T.goes1 hn rfl (fun _ _ _ => ?_); rw [stepG_inBlock]; simp only [goes_go]; refine ⟨by u_nil, ?_⟩
      refine T.goes1 hn rfl (fun _ _ _ => ?_); rw [stepG_region]; simp only [goes_go, List.size_toArray, List.length_cons, List.length_nil, Nat.reduceAdd, Nat.zero_add, List.range, List.range.loop]; refine ⟨by u_nil, ?_⟩
      refine T.goes1 hn rfl (fun _ _ _ => ?_); refine goes_oper_k rfl rfl (by k_ne) (fun K hK => ?_); go_simp; refine hK _ _ ⟨?_, ?_⟩; (u_none; intro e he; have hm := mem_listed he; simp [go_sem, *] at hm); clear hK K; try walk_nrm
      refine T.goes1 hn rfl (fun _ _ _ => ?_); refine goes_oper_k rfl rfl (by k_ne) (fun K hK => ?_); go_simp; refine hK _ _ ⟨?_, ?_⟩; (u_none; intro e he; have hm := mem_listed he; simp [go_sem, *] at hm); clear hK K; try walk_nrm
      refine T.goes1 hn rfl (fun _ _ _ => ?_); rw [stepG_region_end]; simp only [goes_go]; refine ⟨by u_nil, ?_⟩
      refine T.goes1 hn rfl (fun _ _ _ => ?_); rw [stepG_inLoop]; simp only [goes_go]; refine ⟨by u_nil, ?_⟩
      exact T.le (by omega) (ih wl _ _ _ _ r2)
  have hWg : κ.Wg = N7 := by rw [hκ]
  have hkc : κ.cell = fun j => ⟨N3, j, none⟩ := by rw [hκ]
  have hkD : κ.D = doneAt (fun j => ⟨N3, j, none⟩) V := by rw [hκ]
  have hkn : κ.n = n := by rw [hκ]
  rw [hWg] at hloop
  clear hκ hOp
  replace hn := hnE (.p0, 0)
  simp only [laInt, Try.f11, loopOf, Option.getD_some, Option.none_or, Option.some_or, Option.or_none] at hloop
  refine T.goes1 hn rfl (fun _ _ _ => ?_); rw [stepG_block]; simp only [goes_go]; refine ⟨by u_nil, ?_⟩
  refine T.goes1 hn rfl (fun _ _ _ => ?_); rw [stepG_loop]; simp only [goes_go]; refine ⟨by u_nil, ?_⟩
  refine T.le (m := F0 + 600 * a + 300) (by omega) (hloop _ _ _ _ _ _ _ _ _ _ _ _ _ _ _ _ _ _ (fun w1 x31 x32 x33 r1 => ?_) a 0 (by omega) w9 _ _ _ _ (Hold.refl _ _))
  clear hloop
  replace hn := hnE (.p0, a)
  refine T.goes1 hn rfl (fun _ _ _ => ?_); rw [stepG_seq]; simp only [goes_go]; refine ⟨by u_nil, ?_⟩
  refine T.goes1 hn rfl (fun _ _ _ => ?_); rw [stepG_region]; simp only [goes_go, List.size_toArray, List.length_cons, List.length_nil, Nat.reduceAdd, Nat.zero_add, List.range, List.range.loop]; refine ⟨by u_nil, ?_⟩
  refine T.goes1 hn rfl (fun _ _ _ => ?_); refine goes_call rfl rfl (by k_ne) rfl wgLib.f_wait (nm_wait link) (c := body_wait link) rfl ⟨by u_nil, ?_⟩; walk_nrmf waitFn
  rw [← hWg]
  refine T.le (m := (mT + 60) + 400 * (M + 4)) (by omega) (T.hold (w := w1) (wait_walk wgLib (κ := κ) (sp := a) hn hM1 hM2 rfl (by omega) (hz (.p0, a)) (fun w2 X r2 x1 x2 x3 => ?_)) (Hold.refl _ _))
  have hHf : Hold c w w2 := hH9.trans (((r1.trans ⟨r2.size, r2.cell, r2.grow⟩).sub (c := c) (fun x hx => hx.imp id (fun h => h.imp id (fun h => .inl (.inl (.inl h)))))))
  have hXn : ∀ x, X x → ¬ c.O x ∧ ¬ c.U x ∧ ¬ c.Z x := fun x hx => ⟨(x2 x hx).1, (x2 x hx).2.1, fun h => (x2 x hx).2.2 (.inl (.inl (.inl h)))⟩
  replace hT := hT w2 X N3 hHf (by omega) x1 hXn (fun j hj => by
    obtain ⟨Y, y1, y2⟩ := x3 j (by rw [hkn]; exact hj)
    rw [hkD] at y2
    exact ⟨Y, y1, y2⟩)
  have vO : w2.cell? ⟨N4, 0, none⟩ = some (.slice (some ⟨N3, 0, none⟩) n n) := (r2.cell _ (.inr (.inr (zz _ (.inr (.inr (.inl rfl))))))).1.trans ((r1.cell _ (.inr (.inr (zz _ (.inr (.inr (.inl rfl))))))).1.trans cO)
  have hn5 : Cx.Neat { c with O := fun x => c.O x ∨ X x, Z := fun a => ((c.Z a ∨ a.block = N1 ∨ a.block = N2) ∨ a.block = N4) ∨ a.block = N6, par := none, lk := 0 } := ⟨fun x hx hu => hx.elim (fun h => hn0.ou x h hu) (fun h => (x2 x h).2.1 hu), fun x hzx => ⟨fun hx => hx.elim (fun h => (hn.oz x hzx).1 h) (fun h => (x2 x h).2.2 hzx), (hn.oz x hzx).2⟩⟩
  have hLs : Less { c with O := fun x => c.O x ∨ X x, Z := fun a => ((c.Z a ∨ a.block = N1 ∨ a.block = N2) ∨ a.block = N4) ∨ a.block = N6, par := none, lk := 0 } { c with O := fun x => c.O x ∨ X x } := ⟨fun x h => h, fun x h => h, hn5.ou, fun x hzx => hn5.oz x (.inl (.inl (.inl hzx))), fun x hzx => .inl (.inl (.inl (.inl hzx))), hp, rfl, hl, hmm⟩
  replace hn := hn5
  clear x1 x2 x3 hXn r2 hEnv
  walk_nrm
  refine T.goes1 hn rfl (fun _ _ _ => ?_); rw [stepG_region_end]; simp only [goes_go]; refine ⟨by u_nil, ?_⟩
  refine T.goes1 hn rfl (fun _ _ _ => ?_); rw [stepG_seq]; simp only [goes_go]; refine ⟨by u_nil, ?_⟩
  refine T.goes1 hn rfl (fun _ _ _ => ?_); rw [stepG_region]; simp only [goes_go, List.size_toArray, List.length_cons, List.length_nil, Nat.reduceAdd, Nat.zero_add, List.range, List.range.loop]; refine ⟨by u_nil, ?_⟩
  refine T.quiet hn rfl rfl (by k_ne) (fun w₁ hF hL K hK => ?_); have fc := (hF.cell _ (.inr (.inr (zz _ (.inr (.inr (.inl rfl))))))).1.trans (vO); go_simp; refine hK _ ?_ ?_; (intro e he; simp [go_sem, *] at he; subst he; exact EvOk.rd false (.inr (zz _ (.inr (.inr (.inl rfl)))))); clear hK K fc; try walk_nrm
  refine T.goes1 hn rfl (fun _ _ _ => ?_); refine goes_oper_k rfl rfl (by k_ne) (fun K hK => ?_); go_simp; refine hK _ _ ⟨?_, ?_⟩; (u_none; intro e he; have hm := mem_listed he; simp [go_sem, *] at hm); clear hK K; try walk_nrm
  refine T.goes1 hn rfl (fun _ _ _ => ?_); refine goes_oper_k rfl rfl (by k_ne) (fun K hK => ?_); go_simp; refine hK _ _ ⟨?_, ?_⟩; (u_none; intro e he; have hm := mem_listed he; simp [go_sem, *] at hm); clear hK K; try walk_nrm
  refine T.goes1 hn rfl (fun _ _ _ => ?_); rw [stepG_region_end]; simp only [goes_go]; refine ⟨by u_nil, ?_⟩
  refine T.goes1 hn rfl (fun _ _ _ => ?_); rw [stepG_ret']; simp only [goes_go]; refine ⟨by u_nil, ?_⟩
  refine T.turn hLs rfl (fun _ _ _ => ?_); refine goes_leave2 rfl rfl Try.func11 rfl ⟨by u_nil, ?_⟩; walk_nrm
  exact T.le (by omega) hT
noncomputable def laInts : Code := (loopOf (Try.f16.body.getD .skip)).getD .skip
theorem mkInts (w : World) (n : Nat) (hn4 : n ≤ 4096) : (Instr.makeSlice 40 (.int .i64 (n : Int)) (.int .i64 (n : Int))).run Try.prog w = .ok (.slice (some ⟨w.heap.size, 0, none⟩) n n) (w.alloc (.cells (Array.replicate n (.slice none 0 0)) 29)) ∧ (Instr.makeSlice 40 (.int .i64 (n : Int)) (.int .i64 (n : Int))).events Try.prog w #[] = #[] := by
  have h : (Try.prog.info? 29).map (fun i => (i.zero, i.size, i.bytes)) = some (some (.slice none 0 0), 1, 24) := by kernel_rfl
  obtain ⟨i, hi, h2⟩ := Option.map_eq_some_iff.1 h
  simp only [Prod.mk.injEq] at h2
  exact mk_gen w 40 29 i (.slice none 0 0) Try.underlying40 hi h2.1 rfl h2.2.1 (by omega) n hn4
set_option maxRecDepth 100000 in
set_option maxHeartbeats 16000000 in
/-- ████ All ████ -/
theorem allInts {d0 : FuncId} {caps : Array Value} {Zc : List (Addr × Value)} {V : Nat → AS → Value → World → Prop} {FD : Nat} (hdo : TaskOk Try.prog Post d0 caps Zc V FD)
    (hfn : ∃ fn c, Try.prog.funcs[d0]? = some fn ∧ (fn.name == "runtime.NumGoroutine") = false ∧ fn.body = some c) (hVt : ∀ j X v w, V j X v w → (fun v => ∃ a l m, v = .slice a l m) v) (hVs : VStable V) (hVm : VMono V) {bb : Bool} {c : Cx} {w : World} (hn0 : c.Neat) (hb0 : c.Low w) (hp : c.par = none) (hl : c.lk = 0) (hmm : ∀ κ ms lb J, c.mem = some (κ, ms, lb, J) → ms = .m0) (hZc : Has Zc c w)
    {a n M mT : Nat} (hM1 : 1048576 ≤ M) (hM2 : M ≤ 2097152) (ha1 : 1 ≤ a) (ha8 : a ≤ 8) (hn4 : n ≤ 4096) {b₀ : Frame} {a₀ : Go.Act} {ops₀ : Array Oper} {i₀ : Nat} {rest₀ : List Nat} {k₀ : List Item} {cs : List Frame}
    (hT : ∀ w' (X : AS) (R : Nat), Hold c w w' → w.heap.size ≤ R → (∀ a, X a → a.block < w'.heap.size) → (∀ a, X a → ¬ c.O a ∧ ¬ c.U a ∧ ¬ c.Z a) → (∀ j, j < n → ∃ Y : AS, (∀ a, Y a → X a) ∧ doneAt (fun j => ⟨R, j, none⟩) V j Y w') →
      T Try.prog Post mT bb { c with O := fun a => c.O a ∨ X a } (G (b₀.at (a₀.put ((ops₀[i₀]?).bind (·.dst)) (.tuple #[.slice (some ⟨R, 0, none⟩) n n, .int .i64 0])) (.inRegion ops₀ rest₀ :: k₀)) cs) w') :
    T Try.prog Post (mT + 400 * (M + 4) + (FD + 300) * (n + 1) + 9000) bb c (G ((base 16).at ⟨#[.int .i64 (a : Int), .int .i64 (n : Int), .func (.func d0) #[] caps, undef, undef, undef, undef, undef, undef, undef, undef, undef, undef, undef, undef, undef, undef, undef, undef, undef, undef, undef, undef, undef, undef, undef, undef, undef, undef, undef, undef, undef, undef, undef, undef, undef], []⟩ [.code (Try.f16.body.getD .skip)]) (b₀.at a₀ (.inRegion ops₀ (i₀ :: rest₀) :: k₀) :: cs)) w := by
  obtain ⟨F0, hF0⟩ : ∃ F0, F0 = mT + 400 * (M + 4) + (FD + 300) * (n + 1) + 1300 := ⟨_, rfl⟩
  have q1 : ¬ ((a : Int) < 1) := by omega
  have q2 : ¬ (8 < (a : Int)) := by omega
  have q3 : ¬ ((n : Int) < 0) := by omega
  have q4 : ¬ (4096 < (n : Int)) := by omega
  have hn := hn0
  have hlow : ∀ N, w.heap.size ≤ N → ∀ a, c.O a ∨ c.U a ∨ c.Z a → a.block ≠ N := fun N hN a ha e => by have := hb0 a ha; omega
  refine T.le (m := F0 + 7000) (by omega) ?_
  simp only [Try.f16, Option.getD_some]
  refine T.goes1 hn rfl (fun _ _ _ => ?_); rw [stepG_seq]; simp only [goes_go]; refine ⟨by u_nil, ?_⟩
  refine T.goes1 hn rfl (fun _ _ _ => ?_); rw [stepG_region]; simp only [goes_go, List.size_toArray, List.length_cons, List.length_nil, Nat.reduceAdd, Nat.zero_add, List.range, List.range.loop]; refine ⟨by u_nil, ?_⟩
  refine T.alloc1 true hn hb0 hmm rfl rfl (by k_ne) (fun N => .pointer (some ⟨N, 0, none⟩)) #[.int .i64 (n : Int)] 3 (fun w1 => ⟨by go_simp, by simp [go_sem]⟩) (fun w1 N1 g1 l1 hn1 hb1 fx1 nw1 ho1 => ?_)
  have hf1 := (fx1 [] (Facts.nil _ _)).cons (A := ⟨N1, 0, none⟩) (v := .int .i64 (n : Int)) (.inl (.inr rfl)) (nw1 0 _ rfl).1 (nw1 0 _ rfl).2
  clear fx1 nw1
  walk_nrm
  refine T.alloc1 true hn1 hb1 hmm rfl rfl (by k_ne) (fun N => .pointer (some ⟨N, 0, none⟩)) #[.func (.func d0) #[] caps] 43 (fun w1 => ⟨by go_simp, by simp [go_sem]⟩) (fun w2 N2 g2 l2 hn2 hb2 fx2 nw2 ho2 => ?_)
  have hf2 := (fx2 _ hf1).cons (A := ⟨N2, 0, none⟩) (v := .func (.func d0) #[] caps) (.inl (.inr rfl)) (nw2 0 _ rfl).1 (nw2 0 _ rfl).2
  have hH2 : Hold c w w2 := ho1.trans (ho2.sub (fun a ha => Cx.with_cells ha))
  have hs2 := hH2.size
  have ho1s := ho1.size
  clear fx2 nw2 ho2 hf1 ho1
  have hA : Less ((c.with true N1).with true N2) { c with Z := fun a => c.Z a ∨ a.block = N1 ∨ a.block = N2 } := ⟨fun a ha => ha.elim (fun h => .inl (.inl (.inl h))) .inr, fun a h => h, hn0.ou, fun a hz => by
      have g3 : w.heap.size ≤ N2 := Nat.le_trans ho1s g2
      rcases hz with h | h | h
      · exact hn0.oz a h
      · exact ⟨fun x => hlow N1 g1 a (.inl x) h, fun x => hlow N1 g1 a (.inr (.inl x)) h⟩
      · exact ⟨fun x => hlow N2 g3 a (.inl x) h, fun x => hlow N2 g3 a (.inr (.inl x)) h⟩, fun a hz => by
      rcases hz with h | h | h
      · exact .inl h
      · exact .inr (.inl (.inl (.inr h)))
      · exact .inr (.inl (.inr h)), rfl, rfl, rfl, hmm⟩
  walk_nrm
  refine T.turn hA rfl (fun _ _ _ => ?_); refine goes_oper_k rfl rfl (by k_ne) (fun K hK => ?_); go_simp; refine hK _ _ ⟨?_, ?_⟩; (u_none; intro e he; have hm := mem_listed he; simp [go_sem, *] at hm); clear hK K; try walk_nrm
  replace hn := hA.neat
  have hbA : Cx.Low { c with Z := fun a => c.Z a ∨ a.block = N1 ∨ a.block = N2 } w2 := fun a ha => hb2 a (hA.cells ha)
  have hfA := hf2.turn (c' := { c with Z := fun a => c.Z a ∨ a.block = N1 ∨ a.block = N2 }) (fun a ha => by
    rcases ha with ((h | h) | h) | h | h
    · exact .inl h
    · exact .inr (.inr (.inr (.inl h)))
    · exact .inr (.inr (.inr (.inr h)))
    · exact .inr (.inl h)
    · exact .inr (.inr (.inl h)))
  clear hf2 hn1 hb1 hn2 hb2
  have vN := (hfA (⟨N1, 0, none⟩, .int .i64 (n : Int)) (by simp)).2.1
  refine T.goes1 hn rfl (fun _ _ _ => ?_); refine goes_oper_k rfl rfl (by k_ne) (fun K hK => ?_); go_simp; refine hK _ _ ⟨?_, ?_⟩; (u_none; intro e he; have hm := mem_listed he; simp [go_sem, *] at hm); clear hK K; try walk_nrm
  refine T.goes1 hn rfl (fun _ _ _ => ?_); rw [stepG_region_end]; simp only [goes_go]; refine ⟨by u_nil, ?_⟩
  refine T.goes1 hn rfl (fun _ _ _ => ?_); rw [stepG_seq]; simp only [goes_go]; refine ⟨by u_nil, ?_⟩
  refine T.goes1 hn rfl (fun _ _ _ => ?_); rw [stepG_seq]; simp only [goes_go]; refine ⟨by u_nil, ?_⟩
  refine T.goes1 hn rfl (fun _ _ _ => ?_); rw [stepG_region]; simp only [goes_go, List.size_toArray, List.length_cons, List.length_nil, Nat.reduceAdd, Nat.zero_add, List.range, List.range.loop]; refine ⟨by u_nil, ?_⟩
  refine T.goes1 hn rfl (fun _ _ _ => ?_); refine goes_oper_k rfl rfl (by k_ne) (fun K hK => ?_); go_simp; refine hK _ _ ⟨?_, ?_⟩; (u_none; intro e he; have hm := mem_listed he; simp [go_sem, *] at hm); clear hK K; try walk_nrm
  refine T.goes1 hn rfl (fun _ _ _ => ?_); refine goes_oper_k rfl rfl (by k_ne) (fun K hK => ?_); go_simp; refine hK _ _ ⟨?_, ?_⟩; (u_none; intro e he; have hm := mem_listed he; simp [go_sem, *] at hm); clear hK K; try walk_nrm
  refine T.goes1 hn rfl (fun _ _ _ => ?_); refine goes_oper_k rfl rfl (by k_ne) (fun K hK => ?_); go_simp; refine hK _ _ ⟨?_, ?_⟩; (u_none; intro e he; have hm := mem_listed he; simp [go_sem, *] at hm); clear hK K; try walk_nrm
  refine T.goes1 hn rfl (fun _ _ _ => ?_); refine goes_oper_k rfl rfl (by k_ne) (fun K hK => ?_); go_simp; refine hK _ _ ⟨?_, ?_⟩; (u_none; intro e he; have hm := mem_listed he; simp [go_sem, *] at hm); clear hK K; try walk_nrm
  refine T.goes1 hn rfl (fun _ _ _ => ?_); refine goes_oper_k rfl rfl (by k_ne) (fun K hK => ?_); go_simp; refine hK _ _ ⟨?_, ?_⟩; (u_none; intro e he; have hm := mem_listed he; simp [go_sem, *] at hm); clear hK K; try walk_nrm
  refine T.goes1 hn rfl (fun _ _ _ => ?_); refine goes_oper_k rfl rfl (by k_ne) (fun K hK => ?_); go_simp; refine hK _ _ ⟨?_, ?_⟩; (u_none; intro e he; have hm := mem_listed he; simp [go_sem, *] at hm); clear hK K; try walk_nrm
  refine T.goes1 hn rfl (fun _ _ _ => ?_); refine goes_oper_k rfl rfl (by k_ne) (fun K hK => ?_); go_simp; refine hK _ _ ⟨?_, ?_⟩; (u_none; intro e he; have hm := mem_listed he; simp [go_sem, *] at hm); clear hK K; try walk_nrm
  refine T.quiet hn rfl rfl (by k_ne) (fun w₁ hF hL K hK => ?_); have fc := (hF.cell _ (.inr (.inr (.inr (.inl rfl))))).1.trans (vN); go_simp; refine hK _ ?_ ?_; (intro e he; simp [go_sem, *] at he; subst he; exact EvOk.rd false (.inr (.inr (.inl rfl)))); clear hK K fc; try walk_nrm
  refine T.goes1 hn rfl (fun _ _ _ => ?_); refine goes_oper_k rfl rfl (by k_ne) (fun K hK => ?_); go_simp; refine hK _ _ ⟨?_, ?_⟩; (u_none; intro e he; have hm := mem_listed he; simp [go_sem, *] at hm); clear hK K; try walk_nrm
  refine T.goes1 hn rfl (fun _ _ _ => ?_); refine goes_oper_k rfl rfl (by k_ne) (fun K hK => ?_); go_simp; refine hK _ _ ⟨?_, ?_⟩; (u_none; intro e he; have hm := mem_listed he; simp [go_sem, *] at hm); clear hK K; try walk_nrm
  refine T.goes1 hn rfl (fun _ _ _ => ?_); refine goes_oper_k rfl rfl (by k_ne) (fun K hK => ?_); go_simp; refine hK _ _ ⟨?_, ?_⟩; (u_none; intro e he; have hm := mem_listed he; simp [go_sem, *] at hm); clear hK K; try walk_nrm
  refine T.quiet hn rfl rfl (by k_ne) (fun w₁ hF hL K hK => ?_); have fc := (hF.cell _ (.inr (.inr (.inr (.inl rfl))))).1.trans (vN); go_simp; refine hK _ ?_ ?_; (intro e he; simp [go_sem, *] at he; subst he; exact EvOk.rd false (.inr (.inr (.inl rfl)))); clear hK K fc; try walk_nrm
  refine T.goes1 hn rfl (fun _ _ _ => ?_); refine goes_oper_k rfl rfl (by k_ne) (fun K hK => ?_); go_simp; refine hK _ _ ⟨?_, ?_⟩; (u_none; intro e he; have hm := mem_listed he; simp [go_sem, *] at hm); clear hK K; try walk_nrm
  refine T.goes1 hn rfl (fun _ _ _ => ?_); refine goes_oper_k rfl rfl (by k_ne) (fun K hK => ?_); go_simp; refine hK _ _ ⟨?_, ?_⟩; (u_none; intro e he; have hm := mem_listed he; simp [go_sem, *] at hm); clear hK K; try walk_nrm
  refine T.goes1 hn rfl (fun _ _ _ => ?_); rw [stepG_region_end]; simp only [goes_go]; refine ⟨by u_nil, ?_⟩
  refine T.goes1 hn rfl (fun _ _ _ => ?_); rw [stepG_cond (t := false) rfl]; simp only [goes_go, if_true, if_false, Bool.false_eq_true, ↓reduceIte]; refine ⟨by u_nil, ?_⟩
  refine T.goes1 hn rfl (fun _ _ _ => ?_); rw [stepG_skip]; simp only [goes_go]; refine ⟨by u_nil, ?_⟩
  refine T.goes1 hn rfl (fun _ _ _ => ?_); rw [stepG_seq]; simp only [goes_go]; refine ⟨by u_nil, ?_⟩
  refine T.goes1 hn rfl (fun _ _ _ => ?_); rw [stepG_region]; simp only [goes_go, List.size_toArray, List.length_cons, List.length_nil, Nat.reduceAdd, Nat.zero_add, List.range, List.range.loop]; refine ⟨by u_nil, ?_⟩
  refine T.quiet hn rfl rfl (by k_ne) (fun w₁ hF hL K hK => ?_); have fc := (hF.cell _ (.inr (.inr (.inr (.inl rfl))))).1.trans (vN); go_simp; refine hK _ ?_ ?_; (intro e he; simp [go_sem, *] at he; subst he; exact EvOk.rd false (.inr (.inr (.inl rfl)))); clear hK K fc; try walk_nrm
  refine T.alloc1 false hn hbA hmm rfl rfl (by k_ne) (fun N => .slice (some ⟨N, 0, none⟩) n n) (Array.replicate n (.slice none 0 0)) 29 (fun w1 => ⟨by have hm := (mkInts w1 n hn4).1; go_simp, by have hm := mkInts w1 n hn4; simp [go_sem, hm.1, hm.2]⟩) (fun w3 N3 g3 l3 hn3 hb3 fx3 nw3 ho3 => ?_)
  have hf3 := fx3 _ hfA
  have hR3 : Facts ((List.range n).map fun i => ((⟨N3, i, none⟩ : Addr), (.slice none 0 0 : Value))) (Cx.with { c with Z := fun a => c.Z a ∨ a.block = N1 ∨ a.block = N2 } false N3) w3 := fun p hp => by
    obtain ⟨i, hi, rfl⟩ := List.mem_map.1 hp
    have hi := List.mem_range.1 hi
    have := nw3 i (.slice none 0 0) (by simp [hi])
    exact ⟨.inr (.inl (.inr rfl)), this.1, this.2⟩
  have hH3 : Hold c w w3 := hH2.trans (ho3.sub (fun a ha => ha.imp id (fun h => h.imp id .inl)))
  have hs3 := hH3.size
  clear fx3 nw3 ho3 hfA vN
  walk_nrm
  refine T.alloc1 true hn3 hb3 hmm rfl rfl (by k_ne) (fun N => .pointer (some ⟨N, 0, none⟩)) #[.slice none 0 0] 40 (fun w1 => ⟨by go_simp, by simp [go_sem]⟩) (fun w4 N4 g4 l4 hn4' hb4 fx4 nw4 ho4 => ?_)
  have hf4 := fx4 _ hf3
  have hR4 := fx4 _ hR3
  have hH4 : Hold c w w4 := hH3.trans (ho4.sub (fun a ha => ha.imp id (fun h => h.imp (fun h => .inl h) .inl)))
  have hs4 := hH4.size
  walk_nrm
  refine T.store hn4' (A := ⟨N4, 0, none⟩) (.inr rfl) (v := .slice (some ⟨N3, 0, none⟩) n n) (nw4 0 _ rfl).1 (nw4 0 _ rfl).2 rfl rfl (by k_ne) (fun w1 h1 h2 => ⟨by unfold execOp; simp [go_sem, stored, h1, h2], by unfold execOp; simp [go_sem]; rw [events_store _ _ _ _ _ _ rfl]; simp [h1, h2]⟩) ?_
  have hne4 : ∀ a : Addr, a.block < w3.heap.size → a ≠ ⟨N4, 0, none⟩ := fun a h e => by rw [e] at h; exact absurd h (by show ¬ N4 < w3.heap.size; omega)
  have hl4 := hb4
  have hf5 := (hf4.set (A := ⟨N4, 0, none⟩) (fun p hp => hne4 _ (hf3.low hb3 hp)) (.slice (some ⟨N3, 0, none⟩) n n)).cons (A := ⟨N4, 0, none⟩) (.inl (.inr rfl)) (World.cell?_setCell_same _ _ _ (nw4 0 _ rfl).1) ((World.frozen?_setCell _ _ _ _).trans (nw4 0 _ rfl).2)
  have hR5 := hR4.set (A := ⟨N4, 0, none⟩) (fun p hp => hne4 _ (hR3.low hb3 hp)) (.slice (some ⟨N3, 0, none⟩) n n)
  have hH5 : Hold c w (w4.setCell ⟨N4, 0, none⟩ (.slice (some ⟨N3, 0, none⟩) n n)) := hH4.put (fun z hz e => hlow N4 (by omega) z hz (by rw [e]))
  have hb5 : (Cx.with (Cx.with { c with Z := fun a => c.Z a ∨ a.block = N1 ∨ a.block = N2 } false N3) true N4).Low (w4.setCell ⟨N4, 0, none⟩ (.slice (some ⟨N3, 0, none⟩) n n)) := fun a ha => by rw [World.size_setCell]; exact hb4 a ha
  have hs5 : (w4.setCell ⟨N4, 0, none⟩ (.slice (some ⟨N3, 0, none⟩) n n)).heap.size = w4.heap.size := World.size_setCell _ _ _
  clear fx4 nw4 hf4 hR4 hf3 hR3 hH4 ho4 hb4
  generalize w4.setCell ⟨N4, 0, none⟩ (.slice (some ⟨N3, 0, none⟩) n n) = w5 at hf5 hR5 hH5 hb5 hs5 ⊢
  have hB : Less (Cx.with (Cx.with { c with Z := fun a => c.Z a ∨ a.block = N1 ∨ a.block = N2 } false N3) true N4) { c with U := fun a => c.U a ∨ a.block = N3, Z := fun a => (c.Z a ∨ a.block = N1 ∨ a.block = N2) ∨ a.block = N4 } := ⟨fun a ha => ha.elim (fun h => .inl (.inl h)) (fun h => .inr h), fun a h => h, fun a h hu => hn4'.ou a (.inl h) hu, fun a hz => by
      rcases hz with h | h
      · exact ⟨fun x => (hn4'.oz a h).1 (.inl x), (hn4'.oz a h).2⟩
      · exact ⟨fun x => hlow N4 (by omega) a (.inl x) h, fun x => hn4'.ou a (.inr h) x⟩, fun a hz => by
      rcases hz with h | h
      · exact .inl h
      · exact .inr (.inl (.inr h)), rfl, rfl, rfl, hmm⟩
  walk_nrm
  refine T.turn hB rfl (fun _ _ _ => ?_); rw [stepG_region_end]; simp only [goes_go]; refine ⟨by u_nil, ?_⟩
  replace hn := hB.neat
  have hbB : Cx.Low { c with U := fun a => c.U a ∨ a.block = N3, Z := fun a => (c.Z a ∨ a.block = N1 ∨ a.block = N2) ∨ a.block = N4 } w5 := fun a ha => hb5 a (hB.cells ha)
  have cellsB : ∀ a, (Cx.with (Cx.with { c with Z := fun a => c.Z a ∨ a.block = N1 ∨ a.block = N2 } false N3) true N4).O a ∨ (Cx.with (Cx.with { c with Z := fun a => c.Z a ∨ a.block = N1 ∨ a.block = N2 } false N3) true N4).U a ∨ (Cx.with (Cx.with { c with Z := fun a => c.Z a ∨ a.block = N1 ∨ a.block = N2 } false N3) true N4).Z a → ({ c with U := fun a => c.U a ∨ a.block = N3, Z := fun a => (c.Z a ∨ a.block = N1 ∨ a.block = N2) ∨ a.block = N4 } : Cx).O a ∨ ({ c with U := fun a => c.U a ∨ a.block = N3, Z := fun a => (c.Z a ∨ a.block = N1 ∨ a.block = N2) ∨ a.block = N4 } : Cx).U a ∨ ({ c with U := fun a => c.U a ∨ a.block = N3, Z := fun a => (c.Z a ∨ a.block = N1 ∨ a.block = N2) ∨ a.block = N4 } : Cx).Z a := fun a ha => by
    rcases ha with (h | h) | h | h
    · exact .inl h
    · exact .inr (.inr (.inr h))
    · exact .inr (.inl h)
    · exact .inr (.inr (.inl h))
  replace hf5 := hf5.turn (c' := { c with U := fun a => c.U a ∨ a.block = N3, Z := fun a => (c.Z a ∨ a.block = N1 ∨ a.block = N2) ∨ a.block = N4 }) cellsB
  replace hR5 := hR5.turn (c' := { c with U := fun a => c.U a ∨ a.block = N3, Z := fun a => (c.Z a ∨ a.block = N1 ∨ a.block = N2) ∨ a.block = N4 }) cellsB
  clear cellsB hn3 hb3 hn4' hb5 hl4
  refine T.goes1 hn rfl (fun _ _ _ => ?_); rw [stepG_seq]; simp only [goes_go]; refine ⟨by u_nil, ?_⟩
  refine T.goes1 hn rfl (fun _ _ _ => ?_); rw [stepG_region]; simp only [goes_go, List.size_toArray, List.length_cons, List.length_nil, Nat.reduceAdd, Nat.zero_add, List.range, List.range.loop]; refine ⟨by u_nil, ?_⟩
  refine T.goes1 hn rfl (fun _ _ _ => ?_); refine goes_call rfl rfl (by k_ne) rfl Try.func7 (by kernel_rfl) rfl ⟨by u_nil, ?_⟩; walk_nrmf Try.f7
  refine T.le (m := (F0 + 6000) + 20) (by omega) (new_walk false hn hbB hmm (fun w6 N5 g5 l5 hn5 hb5 fx5 nw5 ho5 => ?_))
  have hf6 := (fx5 _ hf5).cons (A := ⟨N5, 0, none⟩) (.inr (.inl (.inr rfl))) nw5.1 nw5.2
  have hR6 := fx5 _ hR5
  have hH6 : Hold c w w6 := hH5.trans (ho5.sub (fun a ha => ha.imp id (fun h => h.imp .inl (fun h => .inl (.inl h)))))
  have hs6 := hH6.size
  clear fx5 nw5 ho5 hf5 hR5
  walk_nrm
  refine T.alloc1 true hn5 hb5 hmm rfl rfl (by k_ne) (fun N => .pointer (some ⟨N, 0, none⟩)) #[.pointer none] 23 (fun w1 => ⟨by go_simp, by simp [go_sem]⟩) (fun w7 N6 g6 l6 hn6 hb6 fx6 nw6 ho6 => ?_)
  have hf7 := fx6 _ hf6
  have hR7 := fx6 _ hR6
  have hH7 : Hold c w w7 := hH6.trans (ho6.sub (fun a ha => ha.imp id (fun h => h.imp (fun h => .inl (.inl h)) (fun h => .inl (.inl h)))))
  have hs7 := hH7.size
  walk_nrm
  refine T.store hn6 (A := ⟨N6, 0, none⟩) (.inr rfl) (v := .pointer (some ⟨N5, 0, none⟩)) (nw6 0 _ rfl).1 (nw6 0 _ rfl).2 rfl rfl (by k_ne) (fun w1 h1 h2 => ⟨by unfold execOp; simp [go_sem, stored, h1, h2], by unfold execOp; simp [go_sem]; rw [events_store _ _ _ _ _ _ rfl]; simp [h1, h2]⟩) ?_
  have hne6 : ∀ a : Addr, a.block < w6.heap.size → a ≠ ⟨N6, 0, none⟩ := fun a h e => by rw [e] at h; exact absurd h (by show ¬ N6 < w6.heap.size; omega)
  have hf8 := (hf7.set (A := ⟨N6, 0, none⟩) (fun p hp => hne6 _ (hf6.low hb5 hp)) (.pointer (some ⟨N5, 0, none⟩))).cons (A := ⟨N6, 0, none⟩) (.inl (.inr rfl)) (World.cell?_setCell_same _ _ _ (nw6 0 _ rfl).1) ((World.frozen?_setCell _ _ _ _).trans (nw6 0 _ rfl).2)
  have hR8 := hR7.set (A := ⟨N6, 0, none⟩) (fun p hp => hne6 _ (hR6.low hb5 hp)) (.pointer (some ⟨N5, 0, none⟩))
  have hH8 : Hold c w (w7.setCell ⟨N6, 0, none⟩ (.pointer (some ⟨N5, 0, none⟩))) := hH7.put (fun z hz e => hlow N6 (by omega) z hz (by rw [e]))
  have hb8 : (Cx.with (Cx.with { c with U := fun a => c.U a ∨ a.block = N3, Z := fun a => (c.Z a ∨ a.block = N1 ∨ a.block = N2) ∨ a.block = N4 } false N5) true N6).Low (w7.setCell ⟨N6, 0, none⟩ (.pointer (some ⟨N5, 0, none⟩))) := fun a ha => by rw [World.size_setCell]; exact hb6 a ha
  have hs8 : (w7.setCell ⟨N6, 0, none⟩ (.pointer (some ⟨N5, 0, none⟩))).heap.size = w7.heap.size := World.size_setCell _ _ _
  clear fx6 nw6 hf7 hR7 hf6 hR6 hH7 ho6 hb6
  generalize w7.setCell ⟨N6, 0, none⟩ (.pointer (some ⟨N5, 0, none⟩)) = w8 at hf8 hR8 hH8 hb8 hs8 ⊢
  have hC : Less (Cx.with (Cx.with { c with U := fun a => c.U a ∨ a.block = N3, Z := fun a => (c.Z a ∨ a.block = N1 ∨ a.block = N2) ∨ a.block = N4 } false N5) true N6) { c with U := fun a => (c.U a ∨ a.block = N3) ∨ a.block = N5, Z := fun a => ((c.Z a ∨ a.block = N1 ∨ a.block = N2) ∨ a.block = N4) ∨ a.block = N6 } := ⟨fun a ha => ha.elim (fun h => .inl (.inl h)) (fun h => .inr h), fun a h => h, fun a h hu => hn6.ou a (.inl h) hu, fun a hz => by
      rcases hz with h | h
      · exact ⟨fun x => (hn6.oz a h).1 (.inl x), (hn6.oz a h).2⟩
      · exact ⟨fun x => hlow N6 (by omega) a (.inl x) h, fun x => hn6.ou a (.inr h) x⟩, fun a hz => by
      rcases hz with h | h
      · exact .inl h
      · exact .inr (.inl (.inr h)), rfl, rfl, rfl, hmm⟩
  walk_nrm
  refine T.turn hC rfl (fun _ _ _ => ?_); rw [stepG_region_end]; simp only [goes_go]; refine ⟨by u_nil, ?_⟩
  replace hn := hC.neat
  have hbC : Cx.Low { c with U := fun a => (c.U a ∨ a.block = N3) ∨ a.block = N5, Z := fun a => ((c.Z a ∨ a.block = N1 ∨ a.block = N2) ∨ a.block = N4) ∨ a.block = N6 } w8 := fun a ha => hb8 a (hC.cells ha)
  have cellsC : ∀ a, (Cx.with (Cx.with { c with U := fun a => c.U a ∨ a.block = N3, Z := fun a => (c.Z a ∨ a.block = N1 ∨ a.block = N2) ∨ a.block = N4 } false N5) true N6).O a ∨ (Cx.with (Cx.with { c with U := fun a => c.U a ∨ a.block = N3, Z := fun a => (c.Z a ∨ a.block = N1 ∨ a.block = N2) ∨ a.block = N4 } false N5) true N6).U a ∨ (Cx.with (Cx.with { c with U := fun a => c.U a ∨ a.block = N3, Z := fun a => (c.Z a ∨ a.block = N1 ∨ a.block = N2) ∨ a.block = N4 } false N5) true N6).Z a → ({ c with U := fun a => (c.U a ∨ a.block = N3) ∨ a.block = N5, Z := fun a => ((c.Z a ∨ a.block = N1 ∨ a.block = N2) ∨ a.block = N4) ∨ a.block = N6 } : Cx).O a ∨ ({ c with U := fun a => (c.U a ∨ a.block = N3) ∨ a.block = N5, Z := fun a => ((c.Z a ∨ a.block = N1 ∨ a.block = N2) ∨ a.block = N4) ∨ a.block = N6 } : Cx).U a ∨ ({ c with U := fun a => (c.U a ∨ a.block = N3) ∨ a.block = N5, Z := fun a => ((c.Z a ∨ a.block = N1 ∨ a.block = N2) ∨ a.block = N4) ∨ a.block = N6 } : Cx).Z a := fun a ha => by
    rcases ha with (h | h) | h | h
    · exact .inl h
    · exact .inr (.inr (.inr h))
    · exact .inr (.inl h)
    · exact .inr (.inr (.inl h))
  replace hf8 := hf8.turn (c' := { c with U := fun a => (c.U a ∨ a.block = N3) ∨ a.block = N5, Z := fun a => ((c.Z a ∨ a.block = N1 ∨ a.block = N2) ∨ a.block = N4) ∨ a.block = N6 }) cellsC
  replace hR8 := hR8.turn (c' := { c with U := fun a => (c.U a ∨ a.block = N3) ∨ a.block = N5, Z := fun a => ((c.Z a ∨ a.block = N1 ∨ a.block = N2) ∨ a.block = N4) ∨ a.block = N6 }) cellsC
  clear cellsC hn5 hb5 hn6 hb8
  refine T.goes1 hn rfl (fun _ _ _ => ?_); rw [stepG_seq]; simp only [goes_go]; refine ⟨by u_nil, ?_⟩
  refine T.goes1 hn rfl (fun _ _ _ => ?_); rw [stepG_region]; simp only [goes_go, List.size_toArray, List.length_cons, List.length_nil, Nat.reduceAdd, Nat.zero_add, List.range, List.range.loop]; refine ⟨by u_nil, ?_⟩
  refine T.alloc1 false hn hbC hmm rfl rfl (by k_ne) (fun N => .pointer (some ⟨N, 0, none⟩)) #[.int .u64 0, .int .u32 0] 69 (fun w1 => ⟨by go_simp, by simp [go_sem]⟩) (fun w9 N7 g7 l7 hn7 hb7 fx7 nw7 ho7 => ?_)
  have hf9 := ((fx7 _ hf8).cons (A := ⟨N7, 0, none⟩) (.inr (.inl (.inr rfl))) (nw7 0 _ rfl).1 (nw7 0 _ rfl).2).cons (A := ⟨N7, 1, none⟩) (.inr (.inl (.inr rfl))) (nw7 1 _ rfl).1 (nw7 1 _ rfl).2
  have hR9 := fx7 _ hR8
  have hH9 : Hold c w w9 := hH8.trans (ho7.sub (fun a ha => ha.imp id (fun h => h.imp (fun h => .inl (.inl h)) (fun h => .inl (.inl (.inl h))))))
  have hs9 := hH9.size
  clear fx7 nw7 ho7 hf8 hR8
  replace hn := hn7
  walk_nrm
  refine T.goes1 hn rfl (fun _ _ _ => ?_); rw [stepG_region_end]; simp only [goes_go]; refine ⟨by u_nil, ?_⟩
  refine T.goes1 hn rfl (fun _ _ _ => ?_); rw [stepG_seq]; simp only [goes_go]; refine ⟨by u_nil, ?_⟩
  refine T.goes1 hn rfl (fun _ _ _ => ?_); rw [stepG_seq]; simp only [goes_go]; refine ⟨by u_nil, ?_⟩
  refine T.goes1 hn rfl (fun _ _ _ => ?_); rw [stepG_region]; simp only [goes_go, List.size_toArray, List.length_cons, List.length_nil, Nat.reduceAdd, Nat.zero_add, List.range, List.range.loop]; refine ⟨by u_nil, ?_⟩
  refine T.goes1 hn rfl (fun _ _ _ => ?_); refine goes_oper_k rfl rfl (by k_ne) (fun K hK => ?_); go_simp; refine hK _ _ ⟨?_, ?_⟩; (u_none; intro e he; have hm := mem_listed he; simp [go_sem, *] at hm); clear hK K; try walk_nrm
  refine T.goes1 hn rfl (fun _ _ _ => ?_); refine goes_oper_k rfl rfl (by k_ne) (fun K hK => ?_); go_simp; refine hK _ _ ⟨?_, ?_⟩; (u_none; intro e he; have hm := mem_listed he; simp [go_sem, *] at hm); clear hK K; try walk_nrm
  obtain ⟨κ, hκ⟩ : ∃ κ : Crew, κ = (⟨N7, N5, n, fun j => ⟨N3, j, none⟩, doneAt (fun j => ⟨N3, j, none⟩) V⟩ : Crew) := ⟨_, rfl⟩
  have hOp : ∀ w1, Hold (Cx.with { c with U := fun a => (c.U a ∨ a.block = N3) ∨ a.block = N5, Z := fun a => ((c.Z a ∨ a.block = N1 ∨ a.block = N2) ∨ a.block = N4) ∨ a.block = N6 } false N7) w9 w1 → Opens (Cx.with { c with U := fun a => (c.U a ∨ a.block = N3) ∨ a.block = N5, Z := fun a => ((c.Z a ∨ a.block = N1 ∨ a.block = N2) ∨ a.block = N4) ∨ a.block = N6 } false N7) κ w1 ({ c with Z := fun a => ((c.Z a ∨ a.block = N1 ∨ a.block = N2) ∨ a.block = N4) ∨ a.block = N6, par := some (κ, .p0, 0) }) := fun w1 r1 => by
    have hf := hf9.hold r1
    have k1 := hf (⟨N7, 0, none⟩, .int .u64 0) (by simp)
    have k2 := hf (⟨N7, 1, none⟩, .int .u32 0) (by simp)
    have k3 := hf (⟨N5, 0, none⟩, .int .i64 0) (by simp)
    subst hκ
    refine ⟨hp, hl, rfl, rfl, rfl, rfl, fun x hx => ⟨.inl (.inl (.inl hx)), ?_, ?_, ?_, fun j hj => ?_⟩, .inr rfl, .inr rfl, .inl (.inr rfl), fun j hj => .inl (.inl (.inr rfl)), fun i j _ _ e => by injection e with _ e, fun j hj => ⟨?_, ?_, ?_⟩, ?_, k1.2.1, k2.2.1, k3.2.1, k1.2.2, k2.2.2, k3.2.2, by show n < 1048576; omega, fun j X w0 w1 h1 h2 => Go.Farm.doneAt.stable (cell := fun j => ⟨N3, j, none⟩) hVs h2 h1⟩
    · exact fun e => hlow N7 (by omega) x (.inr (.inl hx)) (congrArg Addr.block e)
    · exact fun e => hlow N7 (by omega) x (.inr (.inl hx)) (congrArg Addr.block e)
    · exact fun e => hlow N5 (by omega) x (.inr (.inl hx)) (congrArg Addr.block e)
    · exact fun e => hlow N3 (by omega) x (.inr (.inl hx)) (congrArg Addr.block e)
    · exact fun e => absurd (congrArg Addr.block e) (by show N3 ≠ N7; omega)
    · exact fun e => absurd (congrArg Addr.block e) (by show N3 ≠ N7; omega)
    · exact fun e => absurd (congrArg Addr.block e) (by show N3 ≠ N5; omega)
    · show N5 ≠ N7; omega
  refine T.open (κ := κ) (c' := { c with Z := fun a => ((c.Z a ∨ a.block = N1 ∨ a.block = N2) ∨ a.block = N4) ∨ a.block = N6, par := some (κ, .p0, 0) }) rfl hOp (fun _ _ _ => ?_); rw [stepG_region_end]; simp only [goes_go]; refine ⟨by u_nil, ?_⟩
  have hnE : ∀ st, Cx.Neat ({ c with Z := fun a => ((c.Z a ∨ a.block = N1 ∨ a.block = N2) ∨ a.block = N4) ∨ a.block = N6, par := some (κ, st) }) := fun st => ⟨fun x hx hu => hn0.ou x hx hu, fun x hz => ⟨fun hx => (hn.oz x hz).1 hx, fun hx => (hn.oz x hz).2 (.inl (.inl (.inl hx)))⟩⟩
  have hfE := hf9
  have hz : ∀ st, ∀ x, (({ c with Z := fun a => ((c.Z a ∨ a.block = N1 ∨ a.block = N2) ∨ a.block = N4) ∨ a.block = N6, par := some (κ, st) }) : Cx).O x ∨ (({ c with Z := fun a => ((c.Z a ∨ a.block = N1 ∨ a.block = N2) ∨ a.block = N4) ∨ a.block = N6, par := some (κ, st) }) : Cx).U x ∨ (({ c with Z := fun a => ((c.Z a ∨ a.block = N1 ∨ a.block = N2) ∨ a.block = N4) ∨ a.block = N6, par := some (κ, st) }) : Cx).Z x → x ≠ κ.st ∧ x ≠ κ.sm := fun st x hx => by
    subst hκ
    have hb : x.block ≠ N7 := fun e => by
      rcases hx with h | h | h
      · exact hlow N7 (by omega) x (.inl h) e
      · exact hlow N7 (by omega) x (.inr (.inl h)) e
      · have := (hn.oz x h).2; exact this (.inr e)
    exact ⟨fun e => hb (congrArg Addr.block e), fun e => hb (congrArg Addr.block e)⟩
  have hrow : ∀ i, i < n → ∃ u, w9.cell? ⟨N3, i, none⟩ = some u := fun i hi => ⟨_, (hR9 (⟨N3, i, none⟩, .slice none 0 0) (List.mem_map.2 ⟨i, List.mem_range.2 hi, rfl⟩)).2.1⟩
  have hrowf : ∀ i, i < n → w9.frozen? ⟨N3, i, none⟩ = false := fun i hi => (hR9 (⟨N3, i, none⟩, .slice none 0 0) (List.mem_map.2 ⟨i, List.mem_range.2 hi, rfl⟩)).2.2
  have zz : ∀ x, x.block = N1 ∨ x.block = N2 ∨ x.block = N4 ∨ x.block = N6 → (fun a => ((c.Z a ∨ a.block = N1 ∨ a.block = N2) ∨ a.block = N4) ∨ a.block = N6) x := fun x h => by
    rcases h with h | h | h | h
    · exact .inl (.inl (.inr (.inl h)))
    · exact .inl (.inl (.inr (.inr h)))
    · exact .inl (.inr h)
    · exact .inr h
  have cN := (hf9 (⟨N1, 0, none⟩, .int .i64 (n : Int)) (by simp)).2.1
  have cD := (hf9 (⟨N2, 0, none⟩, .func (.func d0) #[] caps) (by simp)).2.1
  have cO := (hf9 (⟨N4, 0, none⟩, .slice (some ⟨N3, 0, none⟩) n n) (by simp)).2.1
  have cX := (hf9 (⟨N6, 0, none⟩, .pointer (some ⟨N5, 0, none⟩)) (by simp)).2.1
  have hn0z : ∀ i : Nat, (fun a => ((c.Z a ∨ a.block = N1 ∨ a.block = N2) ∨ a.block = N4) ∨ a.block = N6) ⟨N3, i, none⟩ → ¬ True := fun i h => absurd (hn.oz _ h).2 (fun x => x (.inl (.inl (.inr rfl))))
  have hlowE : ∀ x, c.O x ∨ c.U x ∨ (fun a => ((c.Z a ∨ a.block = N1 ∨ a.block = N2) ∨ a.block = N4) ∨ a.block = N6) x → x.block < w9.heap.size := fun x h => hb7 x (by
    rcases h with h | h | h
    · exact .inl h
    · exact .inr (.inl (.inl (.inl (.inl h))))
    · exact .inr (.inr h))
  have hEnv : ∀ w1, Hold ({ c with Z := fun a => ((c.Z a ∨ a.block = N1 ∨ a.block = N2) ∨ a.block = N4) ∨ a.block = N6, par := some (κ, .p0, 0) }) w9 w1 → Env κ N3 ⟨N6, 0, none⟩ ⟨N1, 0, none⟩ ⟨N2, 0, none⟩ ⟨N4, 0, none⟩ (.func (.func d0) #[] caps) Zc none3 (fun a => ((c.Z a ∨ a.block = N1 ∨ a.block = N2) ∨ a.block = N4) ∨ a.block = N6) w1 := fun w1 r1 => by
    subst hκ
    have hc1 : ∀ x, (fun a => ((c.Z a ∨ a.block = N1 ∨ a.block = N2) ∨ a.block = N4) ∨ a.block = N6) x → w1.cell? x = w9.cell? x := fun x hx => (r1.cell x (.inr (.inr hx))).1
    refine ⟨⟨zz _ (.inr (.inr (.inr rfl))), (hc1 _ (zz _ (.inr (.inr (.inr rfl))))).trans cX⟩, ⟨zz _ (.inl rfl), (hc1 _ (zz _ (.inl rfl))).trans cN⟩, ⟨zz _ (.inr (.inl rfl)), (hc1 _ (zz _ (.inr (.inl rfl)))).trans cD⟩, ⟨zz _ (.inr (.inr (.inl rfl))), (hc1 _ (zz _ (.inr (.inr (.inl rfl))))).trans cO⟩, fun p hp => ?_, fun x _ h => h, fun x hx => ?_, fun x hx e => ?_, ?_, ?_, ?_, fun i hi => ⟨?_, ?_⟩⟩
    · have h1 := hZc.hold hH9 p hp
      have h2 : (fun a => ((c.Z a ∨ a.block = N1 ∨ a.block = N2) ∨ a.block = N4) ∨ a.block = N6) p.1 := .inl (.inl (.inl h1.1))
      exact ⟨h2, (hc1 _ h2).trans h1.2⟩
    · exact Nat.lt_of_lt_of_le (hlowE x (hx.elim (fun h => h.elim) (fun h => .inr (.inr h)))) r1.size
    · rcases hx with hx | hx
      · exact hx.elim
      · exact (hn.oz x hx).2 (.inl (.inr (congrArg Addr.block e)))
    · show N3 < w1.heap.size; have := r1.size; omega
    · show N5 < w1.heap.size; have := r1.size; omega
    · show N3 ≠ N5; omega
    · obtain ⟨u, hu⟩ := hrow i hi; exact r1.grow.ex _ u hu
    · exact (r1.grow.frz _ (by show N3 < w9.heap.size; omega)).trans (hrowf i hi)
  clear hf9 hR9 hn7 hfE
  have hloop : ∀ (kk : List Item) (x3 x11 x12 x13 x14 x15 x16 x17 x18 x19 x20 x21 x22 x23 x24 x34 x35 : Value),
      (∀ w1 (x31 x32 x33 : Value), Hold ({ c with Z := fun a => ((c.Z a ∨ a.block = N1 ∨ a.block = N2) ∨ a.block = N4) ∨ a.block = N6, par := some (κ, .p0, 0) }) w9 w1 → T Try.prog Post (F0 + 200) bb ({ c with Z := fun a => ((c.Z a ∨ a.block = N1 ∨ a.block = N2) ∨ a.block = N4) ∨ a.block = N6, par := some (κ, .p0, a) }) (G ((base 16).at ⟨#[.int .i64 (a : Int), .int .i64 (n : Int), .func (.func d0) #[] caps, x3, .pointer (some ⟨N1, 0, none⟩), .pointer (some ⟨N2, 0, none⟩), .slice none 0 0, .int .i64 0, .pointer (some ⟨N4, 0, none⟩), .pointer (some ⟨N6, 0, none⟩), .pointer (some ⟨κ.Wg, 0, none⟩), x11, x12, x13, x14, x15, x16, x17, x18, x19, x20, x21, x22, x23, x24, .int .i64 (n : Int), .slice (some ⟨N3, 0, none⟩) n n, .pointer (some ⟨N5, 0, none⟩), .int .i64 (a : Int), .int .i64 (a : Int), .bool false, x31, x32, x33, x34, x35], []⟩ kk) (b₀.at a₀ (.inRegion ops₀ (i₀ :: rest₀) :: k₀) :: cs)) w1) →
      ∀ (k i : Nat), i + k = a → ∀ (w1 : World) (x30 x31 x32 x33 : Value), Hold ({ c with Z := fun a => ((c.Z a ∨ a.block = N1 ∨ a.block = N2) ∨ a.block = N4) ∨ a.block = N6, par := some (κ, .p0, 0) }) w9 w1 →
        T Try.prog Post (F0 + 600 * k + 300) bb ({ c with Z := fun a => ((c.Z a ∨ a.block = N1 ∨ a.block = N2) ∨ a.block = N4) ∨ a.block = N6, par := some (κ, .p0, i) }) (G ((base 16).at ⟨#[.int .i64 (a : Int), .int .i64 (n : Int), .func (.func d0) #[] caps, x3, .pointer (some ⟨N1, 0, none⟩), .pointer (some ⟨N2, 0, none⟩), .slice none 0 0, .int .i64 0, .pointer (some ⟨N4, 0, none⟩), .pointer (some ⟨N6, 0, none⟩), .pointer (some ⟨κ.Wg, 0, none⟩), x11, x12, x13, x14, x15, x16, x17, x18, x19, x20, x21, x22, x23, x24, .int .i64 (n : Int), .slice (some ⟨N3, 0, none⟩) n n, .pointer (some ⟨N5, 0, none⟩), .int .i64 (a : Int), .int .i64 (i : Int), x30, x31, x32, x33, x34, x35], []⟩ (.code laInts :: .inLoop laInts :: .inBlock 0 :: kk)) (b₀.at a₀ (.inRegion ops₀ (i₀ :: rest₀) :: k₀) :: cs)) w1 := by
    have hkn : κ.n = n := by rw [hκ]
    have hkc : κ.cell = fun j => ⟨N3, j, none⟩ := by rw [hκ]
    have hkD : κ.D = doneAt κ.cell V := by rw [hκ]
    clear hκ
    intro kk x3 x11 x12 x13 x14 x15 x16 x17 x18 x19 x20 x21 x22 x23 x24 x34 x35 hex k
    induction k with
    | zero =>
      intro i hi w1 x30 x31 x32 x33 r1
      obtain rfl : i = a := by omega
      have hn := hnE (.p0, i)
      have hlt : ¬ (i : Int) < (i : Int) := by omega
      refine T.le (m := F0 + 200 + 20) (by omega) ?_
      simp only [laInts, Try.f16, loopOf, Option.getD_some, Option.none_or, Option.some_or, Option.or_none]
      refine T.goes1 hn rfl (fun _ _ _ => ?_); rw [stepG_seq]; simp only [goes_go]; refine ⟨by u_nil, ?_⟩
      refine T.goes1 hn rfl (fun _ _ _ => ?_); rw [stepG_region]; simp only [goes_go, List.size_toArray, List.length_cons, List.length_nil, Nat.reduceAdd, Nat.zero_add, List.range, List.range.loop]; refine ⟨by u_nil, ?_⟩
      refine T.goes1 hn rfl (fun _ _ _ => ?_); refine goes_oper_k rfl rfl (by k_ne) (fun K hK => ?_); go_simp; refine hK _ _ ⟨?_, ?_⟩; (u_none; intro e he; have hm := mem_listed he; simp [go_sem, *] at hm); clear hK K; try walk_nrm
      refine T.goes1 hn rfl (fun _ _ _ => ?_); rw [stepG_region_end]; simp only [goes_go]; refine ⟨by u_nil, ?_⟩
      refine T.goes1 hn rfl (fun _ _ _ => ?_); rw [stepG_seq]; simp only [goes_go]; refine ⟨by u_nil, ?_⟩
      refine T.goes1 hn rfl (fun _ _ _ => ?_); rw [stepG_cond (t := false) rfl]; simp only [goes_go, if_true, if_false, Bool.false_eq_true, ↓reduceIte]; refine ⟨by u_nil, ?_⟩
      refine T.goes1 hn rfl (fun _ _ _ => ?_); refine goes_exit rfl ?_; refine ⟨by u_nil, ?_⟩
      exact T.le (m := F0 + 200) (by omega) (hex w1 _ _ _ r1)
    | succ k ih =>
      intro i hi w1 x30 x31 x32 x33 r1
      have hn := hnE (.p0, i)
      have hlt : (i : Int) < (a : Int) := by omega
      have hinc : IntKind.i64.wrap ((i : Int) + 1) = ((i + 1 : Nat) : Int) := by rw [IntKind.wrap_i64]; omega
      refine T.le (m := F0 + 600 * k + 300 + 400 + 100) (by omega) ?_
      replace ih := fun w' x30 x31 x32 x33 r => ih (i + 1) (by omega) w' x30 x31 x32 x33 r
      simp only [laInts, Try.f16, loopOf, Option.getD_some, Option.none_or, Option.some_or, Option.or_none] at ih ⊢
      refine T.goes1 hn rfl (fun _ _ _ => ?_); rw [stepG_seq]; simp only [goes_go]; refine ⟨by u_nil, ?_⟩
      refine T.goes1 hn rfl (fun _ _ _ => ?_); rw [stepG_region]; simp only [goes_go, List.size_toArray, List.length_cons, List.length_nil, Nat.reduceAdd, Nat.zero_add, List.range, List.range.loop]; refine ⟨by u_nil, ?_⟩
      refine T.goes1 hn rfl (fun _ _ _ => ?_); refine goes_oper_k rfl rfl (by k_ne) (fun K hK => ?_); go_simp; refine hK _ _ ⟨?_, ?_⟩; (u_none; intro e he; have hm := mem_listed he; simp [go_sem, *] at hm); clear hK K; try walk_nrm
      refine T.goes1 hn rfl (fun _ _ _ => ?_); rw [stepG_region_end]; simp only [goes_go]; refine ⟨by u_nil, ?_⟩
      refine T.goes1 hn rfl (fun _ _ _ => ?_); rw [stepG_seq]; simp only [goes_go]; refine ⟨by u_nil, ?_⟩
      refine T.goes1 hn rfl (fun _ _ _ => ?_); rw [stepG_cond (t := true) rfl]; simp only [goes_go, if_true, if_false, Bool.false_eq_true, ↓reduceIte]; refine ⟨by u_nil, ?_⟩
      refine T.goes1 hn rfl (fun _ _ _ => ?_); rw [stepG_skip]; simp only [goes_go]; refine ⟨by u_nil, ?_⟩
      refine T.goes1 hn rfl (fun _ _ _ => ?_); rw [stepG_seq]; simp only [goes_go]; refine ⟨by u_nil, ?_⟩
      refine T.goes1 hn rfl (fun _ _ _ => ?_); rw [stepG_block]; simp only [goes_go]; refine ⟨by u_nil, ?_⟩
      refine T.goes1 hn rfl (fun _ _ _ => ?_); rw [stepG_seq]; simp only [goes_go]; refine ⟨by u_nil, ?_⟩
      refine T.goes2 hn rfl (fun wl rl hlive => ?_); rw [stepG_region]; simp only [goes_go, List.size_toArray, List.length_cons, List.length_nil, Nat.reduceAdd, Nat.zero_add, List.range, List.range.loop]; refine ⟨by u_nil, ?_⟩
      have r2 : Hold ({ c with Z := fun a => ((c.Z a ∨ a.block = N1 ∨ a.block = N2) ∨ a.block = N4) ∨ a.block = N6, par := some (κ, .p0, 0) }) w9 wl := r1.trans ⟨rl.size, rl.cell, rl.grow⟩
      have hzi := hz (.p0, i)
      refine T.goes1 hn rfl (fun _ _ _ => ?_); refine goes_call rfl rfl (by k_ne) rfl wgLib.f_add (nm_add link) (c := body_add link) rfl ⟨by u_nil, ?_⟩; walk_nrmf addFn
      refine T.le (m := (F0 + 600 * k + 300 + 60) + 300) (by omega) (add_walk wgLib (κ := κ) (sp := i) hn rfl hlive hzi ?_)
      have hn := hnE (.p3, i)
      walk_nrm
      refine T.goes1 hn rfl (fun _ _ _ => ?_); rw [stepG_region_end]; simp only [goes_go]; refine ⟨by u_nil, ?_⟩
      refine T.goes1 hn rfl (fun _ _ _ => ?_); rw [stepG_region]; simp only [goes_go, List.size_toArray, List.length_cons, List.length_nil, Nat.reduceAdd, Nat.zero_add, List.range, List.range.loop]; refine ⟨by u_nil, ?_⟩
      refine T.val hn (.func (.func 32) #[] #[.pointer (some ⟨κ.Wg, 0, none⟩), .pointer (some ⟨N6, 0, none⟩), .pointer (some ⟨N1, 0, none⟩), .pointer (some ⟨N2, 0, none⟩), .pointer (some ⟨N4, 0, none⟩)]) rfl rfl (by k_ne) (fun w1 _ => ⟨by unfold execOp; simp [go_sem, run_mkf], fun e he => by simp [go_sem, events_mkf] at he⟩) ?_
      walk_nrm
      refine T.spawn (κ := κ) (sp := i) rfl (by omega) rfl rfl (by k_ne) (d := { target := .fn (.func 32) #[.pointer (some ⟨κ.Wg, 0, none⟩), .pointer (some ⟨N6, 0, none⟩), .pointer (some ⟨N1, 0, none⟩), .pointer (some ⟨N2, 0, none⟩), .pointer (some ⟨N4, 0, none⟩)], args := #[] }) rfl (fun w1 => ⟨by go_simp, by simp [go_sem]⟩) ?_ (fun w3 r3 => ?_)
      rotate_left
      · have hE3 := hEnv w3 (r2.trans ⟨r3.size, r3.cell, r3.grow⟩)
        have hwk := @workInts Post κ N3 ⟨N6, 0, none⟩ ⟨N1, 0, none⟩ ⟨N2, 0, none⟩ ⟨N4, 0, none⟩ (.func (.func d0) #[] caps) Zc (fun a => ((c.Z a ∨ a.block = N1 ∨ a.block = N2) ∨ a.block = N4) ∨ a.block = N6) w3 d0 caps V FD hdo hfn hVt hVs hVm hkc hkD (by rw [hkn]; exact hn4) rfl hE3 (fun i hi h => ?_)
        · exact T.le (by rw [hkn]; omega) hwk
        · exact hn0z _ h trivial
      have hn := hnE (.p0, i + 1)
      walk_nrm
      refine T.goes1 hn rfl (fun _ _ _ => ?_); rw [stepG_region_end]; simp only [goes_go]; refine ⟨by u_nil, ?_⟩
      refine T.goes1 hn rfl (fun _ _ _ => ?_); rw [stepG_inBlock]; simp only [goes_go]; refine ⟨by u_nil, ?_⟩
      refine T.goes1 hn rfl (fun _ _ _ => ?_); rw [stepG_region]; simp only [goes_go, List.size_toArray, List.length_cons, List.length_nil, Nat.reduceAdd, Nat.zero_add, List.range, List.range.loop]; refine ⟨by u_nil, ?_⟩
      refine T.goes1 hn rfl (fun _ _ _ => ?_); refine goes_oper_k rfl rfl (by k_ne) (fun K hK => ?_); go_simp; refine hK _ _ ⟨?_, ?_⟩; (u_none; intro e he; have hm := mem_listed he; simp [go_sem, *] at hm); clear hK K; try walk_nrm
      refine T.goes1 hn rfl (fun _ _ _ => ?_); refine goes_oper_k rfl rfl (by k_ne) (fun K hK => ?_); go_simp; refine hK _ _ ⟨?_, ?_⟩; (u_none; intro e he; have hm := mem_listed he; simp [go_sem, *] at hm); clear hK K; try walk_nrm
      refine T.goes1 hn rfl (fun _ _ _ => ?_); rw [stepG_region_end]; simp only [goes_go]; refine ⟨by u_nil, ?_⟩
      refine T.goes1 hn rfl (fun _ _ _ => ?_); rw [stepG_inLoop]; simp only [goes_go]; refine ⟨by u_nil, ?_⟩
      exact T.le (by omega) (ih wl _ _ _ _ r2)
  have hWg : κ.Wg = N7 := by rw [hκ]
  have hkc : κ.cell = fun j => ⟨N3, j, none⟩ := by rw [hκ]
  have hkD : κ.D = doneAt (fun j => ⟨N3, j, none⟩) V := by rw [hκ]
  have hkn : κ.n = n := by rw [hκ]
  rw [hWg] at hloop
  clear hκ hOp
  replace hn := hnE (.p0, 0)
  simp only [laInts, Try.f16, loopOf, Option.getD_some, Option.none_or, Option.some_or, Option.or_none] at hloop
  refine T.goes1 hn rfl (fun _ _ _ => ?_); rw [stepG_block]; simp only [goes_go]; refine ⟨by u_nil, ?_⟩
  refine T.goes1 hn rfl (fun _ _ _ => ?_); rw [stepG_loop]; simp only [goes_go]; refine ⟨by u_nil, ?_⟩
  refine T.le (m := F0 + 600 * a + 300) (by omega) (hloop _ _ _ _ _ _ _ _ _ _ _ _ _ _ _ _ _ _ (fun w1 x31 x32 x33 r1 => ?_) a 0 (by omega) w9 _ _ _ _ (Hold.refl _ _))
  clear hloop
  replace hn := hnE (.p0, a)
  refine T.goes1 hn rfl (fun _ _ _ => ?_); rw [stepG_seq]; simp only [goes_go]; refine ⟨by u_nil, ?_⟩
  refine T.goes1 hn rfl (fun _ _ _ => ?_); rw [stepG_region]; simp only [goes_go, List.size_toArray, List.length_cons, List.length_nil, Nat.reduceAdd, Nat.zero_add, List.range, List.range.loop]; refine ⟨by u_nil, ?_⟩
  refine T.goes1 hn rfl (fun _ _ _ => ?_); refine goes_call rfl rfl (by k_ne) rfl wgLib.f_wait (nm_wait link) (c := body_wait link) rfl ⟨by u_nil, ?_⟩; walk_nrmf waitFn
  rw [← hWg]
  refine T.le (m := (mT + 60) + 400 * (M + 4)) (by omega) (T.hold (w := w1) (wait_walk wgLib (κ := κ) (sp := a) hn hM1 hM2 rfl (by omega) (hz (.p0, a)) (fun w2 X r2 x1 x2 x3 => ?_)) (Hold.refl _ _))
  have hHf : Hold c w w2 := hH9.trans (((r1.trans ⟨r2.size, r2.cell, r2.grow⟩).sub (c := c) (fun x hx => hx.imp id (fun h => h.imp id (fun h => .inl (.inl (.inl h)))))))
  have hXn : ∀ x, X x → ¬ c.O x ∧ ¬ c.U x ∧ ¬ c.Z x := fun x hx => ⟨(x2 x hx).1, (x2 x hx).2.1, fun h => (x2 x hx).2.2 (.inl (.inl (.inl h)))⟩
  replace hT := hT w2 X N3 hHf (by omega) x1 hXn (fun j hj => by
    obtain ⟨Y, y1, y2⟩ := x3 j (by rw [hkn]; exact hj)
    rw [hkD] at y2
    exact ⟨Y, y1, y2⟩)
  have vO : w2.cell? ⟨N4, 0, none⟩ = some (.slice (some ⟨N3, 0, none⟩) n n) := (r2.cell _ (.inr (.inr (zz _ (.inr (.inr (.inl rfl))))))).1.trans ((r1.cell _ (.inr (.inr (zz _ (.inr (.inr (.inl rfl))))))).1.trans cO)
  have hn5 : Cx.Neat { c with O := fun x => c.O x ∨ X x, Z := fun a => ((c.Z a ∨ a.block = N1 ∨ a.block = N2) ∨ a.block = N4) ∨ a.block = N6, par := none, lk := 0 } := ⟨fun x hx hu => hx.elim (fun h => hn0.ou x h hu) (fun h => (x2 x h).2.1 hu), fun x hzx => ⟨fun hx => hx.elim (fun h => (hn.oz x hzx).1 h) (fun h => (x2 x h).2.2 hzx), (hn.oz x hzx).2⟩⟩
  have hLs : Less { c with O := fun x => c.O x ∨ X x, Z := fun a => ((c.Z a ∨ a.block = N1 ∨ a.block = N2) ∨ a.block = N4) ∨ a.block = N6, par := none, lk := 0 } { c with O := fun x => c.O x ∨ X x } := ⟨fun x h => h, fun x h => h, hn5.ou, fun x hzx => hn5.oz x (.inl (.inl (.inl hzx))), fun x hzx => .inl (.inl (.inl (.inl hzx))), hp, rfl, hl, hmm⟩
  replace hn := hn5
  clear x1 x2 x3 hXn r2 hEnv
  walk_nrm
  refine T.goes1 hn rfl (fun _ _ _ => ?_); rw [stepG_region_end]; simp only [goes_go]; refine ⟨by u_nil, ?_⟩
  refine T.goes1 hn rfl (fun _ _ _ => ?_); rw [stepG_seq]; simp only [goes_go]; refine ⟨by u_nil, ?_⟩
  refine T.goes1 hn rfl (fun _ _ _ => ?_); rw [stepG_region]; simp only [goes_go, List.size_toArray, List.length_cons, List.length_nil, Nat.reduceAdd, Nat.zero_add, List.range, List.range.loop]; refine ⟨by u_nil, ?_⟩
  refine T.quiet hn rfl rfl (by k_ne) (fun w₁ hF hL K hK => ?_); have fc := (hF.cell _ (.inr (.inr (zz _ (.inr (.inr (.inl rfl))))))).1.trans (vO); go_simp; refine hK _ ?_ ?_; (intro e he; simp [go_sem, *] at he; subst he; exact EvOk.rd false (.inr (zz _ (.inr (.inr (.inl rfl)))))); clear hK K fc; try walk_nrm
  refine T.goes1 hn rfl (fun _ _ _ => ?_); refine goes_oper_k rfl rfl (by k_ne) (fun K hK => ?_); go_simp; refine hK _ _ ⟨?_, ?_⟩; (u_none; intro e he; have hm := mem_listed he; simp [go_sem, *] at hm); clear hK K; try walk_nrm
  refine T.goes1 hn rfl (fun _ _ _ => ?_); refine goes_oper_k rfl rfl (by k_ne) (fun K hK => ?_); go_simp; refine hK _ _ ⟨?_, ?_⟩; (u_none; intro e he; have hm := mem_listed he; simp [go_sem, *] at hm); clear hK K; try walk_nrm
  refine T.goes1 hn rfl (fun _ _ _ => ?_); rw [stepG_region_end]; simp only [goes_go]; refine ⟨by u_nil, ?_⟩
  refine T.goes1 hn rfl (fun _ _ _ => ?_); rw [stepG_ret']; simp only [goes_go]; refine ⟨by u_nil, ?_⟩
  refine T.turn hLs rfl (fun _ _ _ => ?_); refine goes_leave2 rfl rfl Try.func16 rfl ⟨by u_nil, ?_⟩; walk_nrm
  exact T.le (by omega) hT
end Go.Proofs.Ytidadgibhmiojaa
