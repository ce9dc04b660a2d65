/- FarmNested: the walk of the whole. -/
import Derived.Test.YtidadgibhmiojaaFo
set_option linter.unusedSimpArgs false
set_option linter.unusedVariables false
namespace Go.Proofs.Ytidadgibhmiojaa
open Go.Conc Go.RowKit Go.Conc.Lib Go.ConcR.Gen Go.ConcN.Gen Go.Farm
open Go.ConcR (DC0)
set_option maxRecDepth 100000 in
set_option maxHeartbeats 32000000 in
/-- ████ FarmNested ████ -/
theorem nested_main (a b n m : Int) (M : Nat) (hM1 : 1048576 ≤ M) (hM2 : M ≤ 2097152) (W : World) : T Try.prog PT (800 * (M + 4) + (400 * (M + 4) + (40 + 300) * (m.toNat + 1) + 9200 + 300) * (n.toNat + 1) + (60 * m.toNat + 200) * n.toNat + 60000) true ⟨none3, none3, none3, none, none, 0⟩ (G (Frame.enter Try.prog 5 #[.int .i64 a, .int .i64 b, .int .i64 n, .int .i64 m] .normal) []) W := by
  have hn : (⟨none3, none3, none3, none, none, 0⟩ : Cx).Neat := ⟨fun _ h => h.elim, fun _ h => h.elim⟩
  have hb : ∀ w, (⟨none3, none3, none3, none, none, 0⟩ : Cx).Low w := fun w x h => by rcases h with h | h | h <;> exact h.elim
  have hmm : ∀ κ ms lb J, (⟨none3, none3, none3, none, none, 0⟩ : Cx).mem = some (κ, ms, lb, J) → ms = .m0 := fun κ ms lb J h => by cases h
  obtain ⟨F0, hF0⟩ : ∃ F0, F0 = 400 * (M + 4) + (400 * (M + 4) + (40 + 300) * (m.toNat + 1) + 9200 + 300) * (n.toNat + 1) + (60 * m.toNat + 200) * n.toNat + 20000 := ⟨_, rfl⟩
  refine T.le (m := F0 + 400 * (M + 4) + 38000) (by omega) ?_
  rw [enter_at _ Try.func5 rfl]
  walk_nrmf Try.f5
  refine T.goes1 hn rfl (fun _ _ _ => ?_); rw [stepG_seq]; simp only [goes_go]; refine ⟨by u_nil, ?_⟩
  refine T.goes1 hn rfl (fun _ _ _ => ?_); rw [stepG_region]; simp only [goes_go, List.size_toArray, List.length_cons, List.length_nil, Nat.reduceAdd, Nat.zero_add, List.range, List.range.loop]; refine ⟨by u_nil, ?_⟩
  refine T.alloc1 true hn (hb W) hmm rfl rfl (by k_ne) (fun N => .pointer (some ⟨N, 0, none⟩)) #[.int .i64 b] 3 (fun w1 => ⟨by go_simp, by simp [go_sem]⟩) (fun w1 Nb g1 l1 hn1 hb1 fx1 nw1 ho1 => ?_)
  have hf1 := (fx1 [] (Facts.nil _ _)).cons (A := ⟨Nb, 0, none⟩) (v := .int .i64 b) (.inl (.inr rfl)) (nw1 0 _ rfl).1 (nw1 0 _ rfl).2
  clear fx1 nw1
  walk_nrm
  refine T.alloc1 true hn1 hb1 hmm rfl rfl (by k_ne) (fun N => .pointer (some ⟨N, 0, none⟩)) #[.int .i64 m] 3 (fun w1 => ⟨by go_simp, by simp [go_sem]⟩) (fun w2 Nm g2 l2 hn2 hb2 fx2 nw2 ho2 => ?_)
  have hf2 := (fx2 _ hf1).cons (A := ⟨Nm, 0, none⟩) (v := .int .i64 m) (.inl (.inr rfl)) (nw2 0 _ rfl).1 (nw2 0 _ rfl).2
  have vb0 := (hf2 (⟨Nb, 0, none⟩, .int .i64 b) (by simp)).2.1
  have vm0 := (hf2 (⟨Nm, 0, none⟩, .int .i64 m) (by simp)).2.1
  clear fx2 nw2 ho2 hf1 ho1 hf2
  have hA : Less (((⟨none3, none3, none3, none, none, 0⟩ : Cx).with true Nb).with true Nm) (⟨none3, none3, zA Nb Nm, none, none, 0⟩ : Cx) := ⟨fun x h => h.elim (fun h => h.elim) (fun h => h.elim), fun x h => h, fun x h => h.elim, fun x _ => ⟨fun h => h, fun h => h⟩, fun x h => .inr (.inl (h.elim (fun h => .inl (.inr h)) .inr)), rfl, rfl, rfl, hmm⟩
  have hbA : Cx.Low (⟨none3, none3, zA Nb Nm, none, none, 0⟩ : Cx) w2 := fun x h => hb2 x (hA.cells h)
  walk_nrm
  refine T.turn hA rfl (fun _ _ _ => ?_); refine goes_oper_k rfl rfl (by k_ne) (fun K hK => ?_); go_simp; refine hK _ _ ⟨?_, ?_⟩; (u_none; intro e he; have hm := mem_listed he; simp [go_sem, *] at hm); clear hK K; try walk_nrm
  replace hn := hA.neat
  clear hn1 hb1 hn2 hb2
  refine T.goes1 hn rfl (fun _ _ _ => ?_); rw [stepG_region_end]; simp only [goes_go]; refine ⟨by u_nil, ?_⟩
  refine T.goes1 hn rfl (fun _ _ _ => ?_); rw [stepG_seq]; simp only [goes_go]; refine ⟨by u_nil, ?_⟩
  refine T.goes1 hn rfl (fun _ _ _ => ?_); rw [stepG_seq]; simp only [goes_go]; refine ⟨by u_nil, ?_⟩
  refine T.goes1 hn rfl (fun _ _ _ => ?_); rw [stepG_region]; simp only [goes_go, List.size_toArray, List.length_cons, List.length_nil, Nat.reduceAdd, Nat.zero_add, List.range, List.range.loop]; refine ⟨by u_nil, ?_⟩
  refine T.goes1 hn rfl (fun _ _ _ => ?_); refine goes_call rfl rfl (by k_ne) rfl Try.func6 (by kernel_rfl) rfl ⟨by u_nil, ?_⟩; walk_nrmf Try.f6
  refine T.le (m := (F0 + 20000) + 400 * (M + 4) + 17000) (by omega) (known_walk hM1 hM2 hn hbA rfl rfl rfl (fun w hw => ?_))
  have vb : w.cell? ⟨Nb, 0, none⟩ = some (.int .i64 b) := (hw.cell _ (.inr (.inr (.inl rfl)))).1.trans vb0
  have vm : w.cell? ⟨Nm, 0, none⟩ = some (.int .i64 m) := (hw.cell _ (.inr (.inr (.inr rfl)))).1.trans vm0
  have hbw := hbA.hold hw
  clear vb0 vm0 hw hbA
  walk_nrm
  refine T.goes1 hn rfl (fun _ _ _ => ?_); refine goes_oper_k rfl rfl (by k_ne) (fun K hK => ?_); go_simp; refine hK _ _ ⟨?_, ?_⟩; (u_none; intro e he; have hm := mem_listed he; simp [go_sem, *] at hm); clear hK K; try walk_nrm
  refine T.goes1 hn rfl (fun _ _ _ => ?_); rw [stepG_region_end]; simp only [goes_go]; refine ⟨by u_nil, ?_⟩
  refine T.goes1 hn rfl (fun _ _ _ => ?_); rw [stepG_cond (t := false) rfl]; simp only [goes_go, if_true, if_false, Bool.false_eq_true, ↓reduceIte]; refine ⟨by u_nil, ?_⟩
  refine T.goes1 hn rfl (fun _ _ _ => ?_); rw [stepG_skip]; simp only [goes_go]; refine ⟨by u_nil, ?_⟩
  refine T.goes1 hn rfl (fun _ _ _ => ?_); rw [stepG_seq]; simp only [goes_go]; refine ⟨by u_nil, ?_⟩
  refine T.goes1 hn rfl (fun _ _ _ => ?_); rw [stepG_seq]; simp only [goes_go]; refine ⟨by u_nil, ?_⟩
  refine T.goes1 hn rfl (fun _ _ _ => ?_); rw [stepG_region]; simp only [goes_go, List.size_toArray, List.length_cons, List.length_nil, Nat.reduceAdd, Nat.zero_add, List.range, List.range.loop]; refine ⟨by u_nil, ?_⟩
  by_cases k0 : a < 1
  · have e0 : (a < 1) := by omega
    refine T.goes1 hn rfl (fun _ _ _ => ?_); refine goes_oper_k rfl rfl (by k_ne) (fun K hK => ?_); go_simp; refine hK _ _ ⟨?_, ?_⟩; (u_none; intro e he; have hm := mem_listed he; simp [go_sem, *] at hm); clear hK K; try walk_nrm
    refine T.goes1 hn rfl (fun _ _ _ => ?_); refine goes_oper_k rfl rfl (by k_ne) (fun K hK => ?_); go_simp; refine hK _ _ ⟨?_, ?_⟩; (u_none; intro e he; have hm := mem_listed he; simp [go_sem, *] at hm); clear hK K; try walk_nrm
    refine T.goes1 hn rfl (fun _ _ _ => ?_); refine goes_oper_k rfl rfl (by k_ne) (fun K hK => ?_); go_simp; refine hK _ _ ⟨?_, ?_⟩; (u_none; intro e he; have hm := mem_listed he; simp [go_sem, *] at hm); clear hK K; try walk_nrm
    refine T.goes1 hn rfl (fun _ _ _ => ?_); rw [stepG_unwanted rfl rfl]; simp only [goes_go]; refine ⟨by u_nil, ?_⟩; walk_nrm
    refine T.goes1 hn rfl (fun _ _ _ => ?_); rw [stepG_unwanted rfl rfl]; simp only [goes_go]; refine ⟨by u_nil, ?_⟩; walk_nrm
    refine T.goes1 hn rfl (fun _ _ _ => ?_); refine goes_oper_k rfl rfl (by k_ne) (fun K hK => ?_); go_simp; refine hK _ _ ⟨?_, ?_⟩; (u_none; intro e he; have hm := mem_listed he; simp [go_sem, *] at hm); clear hK K; try walk_nrm
    refine T.goes1 hn rfl (fun _ _ _ => ?_); refine goes_oper_k rfl rfl (by k_ne) (fun K hK => ?_); go_simp; refine hK _ _ ⟨?_, ?_⟩; (u_none; intro e he; have hm := mem_listed he; simp [go_sem, *] at hm); clear hK K; try walk_nrm
    refine T.goes1 hn rfl (fun _ _ _ => ?_); rw [stepG_unwanted rfl rfl]; simp only [goes_go]; refine ⟨by u_nil, ?_⟩; walk_nrm
    refine T.goes1 hn rfl (fun _ _ _ => ?_); rw [stepG_unwanted rfl rfl]; simp only [goes_go]; refine ⟨by u_nil, ?_⟩; walk_nrm
    refine T.goes1 hn rfl (fun _ _ _ => ?_); refine goes_oper_k rfl rfl (by k_ne) (fun K hK => ?_); go_simp; refine hK _ _ ⟨?_, ?_⟩; (u_none; intro e he; have hm := mem_listed he; simp [go_sem, *] at hm); clear hK K; try walk_nrm
    refine T.goes1 hn rfl (fun _ _ _ => ?_); refine goes_oper_k rfl rfl (by k_ne) (fun K hK => ?_); go_simp; refine hK _ _ ⟨?_, ?_⟩; (u_none; intro e he; have hm := mem_listed he; simp [go_sem, *] at hm); clear hK K; try walk_nrm
    refine T.goes1 hn rfl (fun _ _ _ => ?_); rw [stepG_unwanted rfl rfl]; simp only [goes_go]; refine ⟨by u_nil, ?_⟩; walk_nrm
    refine T.goes1 hn rfl (fun _ _ _ => ?_); rw [stepG_unwanted rfl rfl]; simp only [goes_go]; refine ⟨by u_nil, ?_⟩; walk_nrm
    refine T.goes1 hn rfl (fun _ _ _ => ?_); refine goes_oper_k rfl rfl (by k_ne) (fun K hK => ?_); go_simp; refine hK _ _ ⟨?_, ?_⟩; (u_none; intro e he; have hm := mem_listed he; simp [go_sem, *] at hm); clear hK K; try walk_nrm
    refine T.goes1 hn rfl (fun _ _ _ => ?_); refine goes_oper_k rfl rfl (by k_ne) (fun K hK => ?_); go_simp; refine hK _ _ ⟨?_, ?_⟩; (u_none; intro e he; have hm := mem_listed he; simp [go_sem, *] at hm); clear hK K; try walk_nrm
    refine T.goes1 hn rfl (fun _ _ _ => ?_); rw [stepG_unwanted rfl rfl]; simp only [goes_go]; refine ⟨by u_nil, ?_⟩; walk_nrm
    refine T.goes1 hn rfl (fun _ _ _ => ?_); rw [stepG_unwanted rfl rfl]; simp only [goes_go]; refine ⟨by u_nil, ?_⟩; walk_nrm
    refine T.goes1 hn rfl (fun _ _ _ => ?_); refine goes_oper_k rfl rfl (by k_ne) (fun K hK => ?_); go_simp; refine hK _ _ ⟨?_, ?_⟩; (u_none; intro e he; have hm := mem_listed he; simp [go_sem, *] at hm); clear hK K; try walk_nrm
    refine T.goes1 hn rfl (fun _ _ _ => ?_); refine goes_oper_k rfl rfl (by k_ne) (fun K hK => ?_); go_simp; refine hK _ _ ⟨?_, ?_⟩; (u_none; intro e he; have hm := mem_listed he; simp [go_sem, *] at hm); clear hK K; try walk_nrm
    refine T.goes1 hn rfl (fun _ _ _ => ?_); rw [stepG_unwanted rfl rfl]; simp only [goes_go]; refine ⟨by u_nil, ?_⟩; walk_nrm
    refine T.goes1 hn rfl (fun _ _ _ => ?_); rw [stepG_unwanted rfl rfl]; simp only [goes_go]; refine ⟨by u_nil, ?_⟩; walk_nrm
    refine T.goes1 hn rfl (fun _ _ _ => ?_); refine goes_oper_k rfl rfl (by k_ne) (fun K hK => ?_); go_simp; refine hK _ _ ⟨?_, ?_⟩; (u_none; intro e he; have hm := mem_listed he; simp [go_sem, *] at hm); clear hK K; try walk_nrm
    refine T.goes1 hn rfl (fun _ _ _ => ?_); refine goes_oper_k rfl rfl (by k_ne) (fun K hK => ?_); go_simp; refine hK _ _ ⟨?_, ?_⟩; (u_none; intro e he; have hm := mem_listed he; simp [go_sem, *] at hm); clear hK K; try walk_nrm
    refine T.goes1 hn rfl (fun _ _ _ => ?_); rw [stepG_unwanted rfl rfl]; simp only [goes_go]; refine ⟨by u_nil, ?_⟩; walk_nrm
    refine T.goes1 hn rfl (fun _ _ _ => ?_); rw [stepG_unwanted rfl rfl]; simp only [goes_go]; refine ⟨by u_nil, ?_⟩; walk_nrm
    refine T.goes1 hn rfl (fun _ _ _ => ?_); refine goes_oper_k rfl rfl (by k_ne) (fun K hK => ?_); go_simp; refine hK _ _ ⟨?_, ?_⟩; (u_none; intro e he; have hm := mem_listed he; simp [go_sem, *] at hm); clear hK K; try walk_nrm
    refine T.goes1 hn rfl (fun _ _ _ => ?_); refine goes_oper_k rfl rfl (by k_ne) (fun K hK => ?_); go_simp; refine hK _ _ ⟨?_, ?_⟩; (u_none; intro e he; have hm := mem_listed he; simp [go_sem, *] at hm); clear hK K; try walk_nrm
    refine T.goes1 hn rfl (fun _ _ _ => ?_); rw [stepG_unwanted rfl rfl]; simp only [goes_go]; refine ⟨by u_nil, ?_⟩; walk_nrm
    refine T.goes1 hn rfl (fun _ _ _ => ?_); rw [stepG_unwanted rfl rfl]; simp only [goes_go]; refine ⟨by u_nil, ?_⟩; walk_nrm
    refine T.goes1 hn rfl (fun _ _ _ => ?_); refine goes_oper_k rfl rfl (by k_ne) (fun K hK => ?_); go_simp; refine hK _ _ ⟨?_, ?_⟩; (u_none; intro e he; have hm := mem_listed he; simp [go_sem, *] at hm); clear hK K; try walk_nrm
    refine T.goes1 hn rfl (fun _ _ _ => ?_); rw [stepG_region_end]; simp only [goes_go]; refine ⟨by u_nil, ?_⟩
    refine T.goes1 hn rfl (fun _ _ _ => ?_); rw [stepG_cond (t := true) rfl]; simp only [goes_go, if_true, if_false, Bool.false_eq_true, ↓reduceIte]; refine ⟨by u_nil, ?_⟩
    refine T.goes1 hn rfl (fun _ _ _ => ?_); rw [stepG_seq]; simp only [goes_go]; refine ⟨by u_nil, ?_⟩
    refine T.goes1 hn rfl (fun _ _ _ => ?_); rw [stepG_region]; simp only [goes_go, List.size_toArray, List.length_cons, List.length_nil, Nat.reduceAdd, Nat.zero_add, List.range, List.range.loop]; refine ⟨by u_nil, ?_⟩
    refine T.goes1 hn rfl (fun _ _ _ => ?_); refine goes_oper_k rfl rfl (by k_ne) (fun K hK => ?_); go_simp; refine hK _ _ ⟨?_, ?_⟩; (u_none; intro e he; have hm := mem_listed he; simp [go_sem, *] at hm); clear hK K; try walk_nrm
    refine T.goes1 hn rfl (fun _ _ _ => ?_); rw [stepG_region_end]; simp only [goes_go]; refine ⟨by u_nil, ?_⟩
    refine T.goes1 hn rfl (fun _ _ _ => ?_); rw [stepG_ret']; simp only [goes_go]; refine ⟨by u_nil, ?_⟩
    refine T.le (m := 1) (by omega) (T.done rfl rfl rfl Try.func5 rfl (by kernel_rfl) (fun w1 => rfl))
  by_cases k1 : (8 : Int) < a
  · have e0 : ¬ (a < 1) := by omega
    have e1 : ((8 : Int) < a) := by omega
    refine T.goes1 hn rfl (fun _ _ _ => ?_); refine goes_oper_k rfl rfl (by k_ne) (fun K hK => ?_); go_simp; refine hK _ _ ⟨?_, ?_⟩; (u_none; intro e he; have hm := mem_listed he; simp [go_sem, *] at hm); clear hK K; try walk_nrm
    refine T.goes1 hn rfl (fun _ _ _ => ?_); refine goes_oper_k rfl rfl (by k_ne) (fun K hK => ?_); go_simp; refine hK _ _ ⟨?_, ?_⟩; (u_none; intro e he; have hm := mem_listed he; simp [go_sem, *] at hm); clear hK K; try walk_nrm
    refine T.goes1 hn rfl (fun _ _ _ => ?_); refine goes_oper_k rfl rfl (by k_ne) (fun K hK => ?_); go_simp; refine hK _ _ ⟨?_, ?_⟩; (u_none; intro e he; have hm := mem_listed he; simp [go_sem, *] at hm); clear hK K; try walk_nrm
    refine T.goes1 hn rfl (fun _ _ _ => ?_); refine goes_oper_k rfl rfl (by k_ne) (fun K hK => ?_); go_simp; refine hK _ _ ⟨?_, ?_⟩; (u_none; intro e he; have hm := mem_listed he; simp [go_sem, *] at hm); clear hK K; try walk_nrm
    refine T.goes1 hn rfl (fun _ _ _ => ?_); refine goes_oper_k rfl rfl (by k_ne) (fun K hK => ?_); go_simp; refine hK _ _ ⟨?_, ?_⟩; (u_none; intro e he; have hm := mem_listed he; simp [go_sem, *] at hm); clear hK K; try walk_nrm
    refine T.goes1 hn rfl (fun _ _ _ => ?_); refine goes_oper_k rfl rfl (by k_ne) (fun K hK => ?_); go_simp; refine hK _ _ ⟨?_, ?_⟩; (u_none; intro e he; have hm := mem_listed he; simp [go_sem, *] at hm); clear hK K; try walk_nrm
    refine T.goes1 hn rfl (fun _ _ _ => ?_); refine goes_oper_k rfl rfl (by k_ne) (fun K hK => ?_); go_simp; refine hK _ _ ⟨?_, ?_⟩; (u_none; intro e he; have hm := mem_listed he; simp [go_sem, *] at hm); clear hK K; try walk_nrm
    refine T.goes1 hn rfl (fun _ _ _ => ?_); rw [stepG_unwanted rfl rfl]; simp only [goes_go]; refine ⟨by u_nil, ?_⟩; walk_nrm
    refine T.goes1 hn rfl (fun _ _ _ => ?_); rw [stepG_unwanted rfl rfl]; simp only [goes_go]; refine ⟨by u_nil, ?_⟩; walk_nrm
    refine T.goes1 hn rfl (fun _ _ _ => ?_); refine goes_oper_k rfl rfl (by k_ne) (fun K hK => ?_); go_simp; refine hK _ _ ⟨?_, ?_⟩; (u_none; intro e he; have hm := mem_listed he; simp [go_sem, *] at hm); clear hK K; try walk_nrm
    refine T.goes1 hn rfl (fun _ _ _ => ?_); refine goes_oper_k rfl rfl (by k_ne) (fun K hK => ?_); go_simp; refine hK _ _ ⟨?_, ?_⟩; (u_none; intro e he; have hm := mem_listed he; simp [go_sem, *] at hm); clear hK K; try walk_nrm
    refine T.goes1 hn rfl (fun _ _ _ => ?_); rw [stepG_unwanted rfl rfl]; simp only [goes_go]; refine ⟨by u_nil, ?_⟩; walk_nrm
    refine T.goes1 hn rfl (fun _ _ _ => ?_); rw [stepG_unwanted rfl rfl]; simp only [goes_go]; refine ⟨by u_nil, ?_⟩; walk_nrm
    refine T.goes1 hn rfl (fun _ _ _ => ?_); refine goes_oper_k rfl rfl (by k_ne) (fun K hK => ?_); go_simp; refine hK _ _ ⟨?_, ?_⟩; (u_none; intro e he; have hm := mem_listed he; simp [go_sem, *] at hm); clear hK K; try walk_nrm
    refine T.goes1 hn rfl (fun _ _ _ => ?_); refine goes_oper_k rfl rfl (by k_ne) (fun K hK => ?_); go_simp; refine hK _ _ ⟨?_, ?_⟩; (u_none; intro e he; have hm := mem_listed he; simp [go_sem, *] at hm); clear hK K; try walk_nrm
    refine T.goes1 hn rfl (fun _ _ _ => ?_); rw [stepG_unwanted rfl rfl]; simp only [goes_go]; refine ⟨by u_nil, ?_⟩; walk_nrm
    refine T.goes1 hn rfl (fun _ _ _ => ?_); rw [stepG_unwanted rfl rfl]; simp only [goes_go]; refine ⟨by u_nil, ?_⟩; walk_nrm
    refine T.goes1 hn rfl (fun _ _ _ => ?_); refine goes_oper_k rfl rfl (by k_ne) (fun K hK => ?_); go_simp; refine hK _ _ ⟨?_, ?_⟩; (u_none; intro e he; have hm := mem_listed he; simp [go_sem, *] at hm); clear hK K; try walk_nrm
    refine T.goes1 hn rfl (fun _ _ _ => ?_); refine goes_oper_k rfl rfl (by k_ne) (fun K hK => ?_); go_simp; refine hK _ _ ⟨?_, ?_⟩; (u_none; intro e he; have hm := mem_listed he; simp [go_sem, *] at hm); clear hK K; try walk_nrm
    refine T.goes1 hn rfl (fun _ _ _ => ?_); rw [stepG_unwanted rfl rfl]; simp only [goes_go]; refine ⟨by u_nil, ?_⟩; walk_nrm
    refine T.goes1 hn rfl (fun _ _ _ => ?_); rw [stepG_unwanted rfl rfl]; simp only [goes_go]; refine ⟨by u_nil, ?_⟩; walk_nrm
    refine T.goes1 hn rfl (fun _ _ _ => ?_); refine goes_oper_k rfl rfl (by k_ne) (fun K hK => ?_); go_simp; refine hK _ _ ⟨?_, ?_⟩; (u_none; intro e he; have hm := mem_listed he; simp [go_sem, *] at hm); clear hK K; try walk_nrm
    refine T.goes1 hn rfl (fun _ _ _ => ?_); refine goes_oper_k rfl rfl (by k_ne) (fun K hK => ?_); go_simp; refine hK _ _ ⟨?_, ?_⟩; (u_none; intro e he; have hm := mem_listed he; simp [go_sem, *] at hm); clear hK K; try walk_nrm
    refine T.goes1 hn rfl (fun _ _ _ => ?_); rw [stepG_unwanted rfl rfl]; simp only [goes_go]; refine ⟨by u_nil, ?_⟩; walk_nrm
    refine T.goes1 hn rfl (fun _ _ _ => ?_); rw [stepG_unwanted rfl rfl]; simp only [goes_go]; refine ⟨by u_nil, ?_⟩; walk_nrm
    refine T.goes1 hn rfl (fun _ _ _ => ?_); refine goes_oper_k rfl rfl (by k_ne) (fun K hK => ?_); go_simp; refine hK _ _ ⟨?_, ?_⟩; (u_none; intro e he; have hm := mem_listed he; simp [go_sem, *] at hm); clear hK K; try walk_nrm
    refine T.goes1 hn rfl (fun _ _ _ => ?_); refine goes_oper_k rfl rfl (by k_ne) (fun K hK => ?_); go_simp; refine hK _ _ ⟨?_, ?_⟩; (u_none; intro e he; have hm := mem_listed he; simp [go_sem, *] at hm); clear hK K; try walk_nrm
    refine T.goes1 hn rfl (fun _ _ _ => ?_); rw [stepG_unwanted rfl rfl]; simp only [goes_go]; refine ⟨by u_nil, ?_⟩; walk_nrm
    refine T.goes1 hn rfl (fun _ _ _ => ?_); rw [stepG_unwanted rfl rfl]; simp only [goes_go]; refine ⟨by u_nil, ?_⟩; walk_nrm
    refine T.goes1 hn rfl (fun _ _ _ => ?_); refine goes_oper_k rfl rfl (by k_ne) (fun K hK => ?_); go_simp; refine hK _ _ ⟨?_, ?_⟩; (u_none; intro e he; have hm := mem_listed he; simp [go_sem, *] at hm); clear hK K; try walk_nrm
    refine T.goes1 hn rfl (fun _ _ _ => ?_); rw [stepG_region_end]; simp only [goes_go]; refine ⟨by u_nil, ?_⟩
    refine T.goes1 hn rfl (fun _ _ _ => ?_); rw [stepG_cond (t := true) rfl]; simp only [goes_go, if_true, if_false, Bool.false_eq_true, ↓reduceIte]; refine ⟨by u_nil, ?_⟩
    refine T.goes1 hn rfl (fun _ _ _ => ?_); rw [stepG_seq]; simp only [goes_go]; refine ⟨by u_nil, ?_⟩
    refine T.goes1 hn rfl (fun _ _ _ => ?_); rw [stepG_region]; simp only [goes_go, List.size_toArray, List.length_cons, List.length_nil, Nat.reduceAdd, Nat.zero_add, List.range, List.range.loop]; refine ⟨by u_nil, ?_⟩
    refine T.goes1 hn rfl (fun _ _ _ => ?_); refine goes_oper_k rfl rfl (by k_ne) (fun K hK => ?_); go_simp; refine hK _ _ ⟨?_, ?_⟩; (u_none; intro e he; have hm := mem_listed he; simp [go_sem, *] at hm); clear hK K; try walk_nrm
    refine T.goes1 hn rfl (fun _ _ _ => ?_); rw [stepG_region_end]; simp only [goes_go]; refine ⟨by u_nil, ?_⟩
    refine T.goes1 hn rfl (fun _ _ _ => ?_); rw [stepG_ret']; simp only [goes_go]; refine ⟨by u_nil, ?_⟩
    refine T.le (m := 1) (by omega) (T.done rfl rfl rfl Try.func5 rfl (by kernel_rfl) (fun w1 => rfl))
  by_cases k2 : b < 1
  · have e0 : ¬ (a < 1) := by omega
    have e1 : ¬ ((8 : Int) < a) := by omega
    have e2 : (b < 1) := by omega
    refine T.goes1 hn rfl (fun _ _ _ => ?_); refine goes_oper_k rfl rfl (by k_ne) (fun K hK => ?_); go_simp; refine hK _ _ ⟨?_, ?_⟩; (u_none; intro e he; have hm := mem_listed he; simp [go_sem, *] at hm); clear hK K; try walk_nrm
    refine T.goes1 hn rfl (fun _ _ _ => ?_); refine goes_oper_k rfl rfl (by k_ne) (fun K hK => ?_); go_simp; refine hK _ _ ⟨?_, ?_⟩; (u_none; intro e he; have hm := mem_listed he; simp [go_sem, *] at hm); clear hK K; try walk_nrm
    refine T.goes1 hn rfl (fun _ _ _ => ?_); refine goes_oper_k rfl rfl (by k_ne) (fun K hK => ?_); go_simp; refine hK _ _ ⟨?_, ?_⟩; (u_none; intro e he; have hm := mem_listed he; simp [go_sem, *] at hm); clear hK K; try walk_nrm
    refine T.goes1 hn rfl (fun _ _ _ => ?_); refine goes_oper_k rfl rfl (by k_ne) (fun K hK => ?_); go_simp; refine hK _ _ ⟨?_, ?_⟩; (u_none; intro e he; have hm := mem_listed he; simp [go_sem, *] at hm); clear hK K; try walk_nrm
    refine T.goes1 hn rfl (fun _ _ _ => ?_); refine goes_oper_k rfl rfl (by k_ne) (fun K hK => ?_); go_simp; refine hK _ _ ⟨?_, ?_⟩; (u_none; intro e he; have hm := mem_listed he; simp [go_sem, *] at hm); clear hK K; try walk_nrm
    refine T.goes1 hn rfl (fun _ _ _ => ?_); refine goes_oper_k rfl rfl (by k_ne) (fun K hK => ?_); go_simp; refine hK _ _ ⟨?_, ?_⟩; (u_none; intro e he; have hm := mem_listed he; simp [go_sem, *] at hm); clear hK K; try walk_nrm
    refine T.goes1 hn rfl (fun _ _ _ => ?_); refine goes_oper_k rfl rfl (by k_ne) (fun K hK => ?_); go_simp; refine hK _ _ ⟨?_, ?_⟩; (u_none; intro e he; have hm := mem_listed he; simp [go_sem, *] at hm); clear hK K; try walk_nrm
    refine T.quiet hn rfl rfl (by k_ne) (fun w₁ hF hL K hK => ?_); have fc := (hF.cell _ (.inr (.inr (.inl rfl)))).1.trans (vb); go_simp; refine hK _ ?_ ?_; (intro e he; simp [go_sem, *] at he; subst he; exact EvOk.rd false (.inr (.inl rfl))); clear hK K fc; try walk_nrm
    refine T.goes1 hn rfl (fun _ _ _ => ?_); refine goes_oper_k rfl rfl (by k_ne) (fun K hK => ?_); go_simp; refine hK _ _ ⟨?_, ?_⟩; (u_none; intro e he; have hm := mem_listed he; simp [go_sem, *] at hm); clear hK K; try walk_nrm
    refine T.goes1 hn rfl (fun _ _ _ => ?_); refine goes_oper_k rfl rfl (by k_ne) (fun K hK => ?_); go_simp; refine hK _ _ ⟨?_, ?_⟩; (u_none; intro e he; have hm := mem_listed he; simp [go_sem, *] at hm); clear hK K; try walk_nrm
    refine T.goes1 hn rfl (fun _ _ _ => ?_); refine goes_oper_k rfl rfl (by k_ne) (fun K hK => ?_); go_simp; refine hK _ _ ⟨?_, ?_⟩; (u_none; intro e he; have hm := mem_listed he; simp [go_sem, *] at hm); clear hK K; try walk_nrm
    refine T.goes1 hn rfl (fun _ _ _ => ?_); rw [stepG_unwanted rfl rfl]; simp only [goes_go]; refine ⟨by u_nil, ?_⟩; walk_nrm
    refine T.goes1 hn rfl (fun _ _ _ => ?_); rw [stepG_unwanted rfl rfl]; simp only [goes_go]; refine ⟨by u_nil, ?_⟩; walk_nrm
    refine T.goes1 hn rfl (fun _ _ _ => ?_); refine goes_oper_k rfl rfl (by k_ne) (fun K hK => ?_); go_simp; refine hK _ _ ⟨?_, ?_⟩; (u_none; intro e he; have hm := mem_listed he; simp [go_sem, *] at hm); clear hK K; try walk_nrm
    refine T.goes1 hn rfl (fun _ _ _ => ?_); refine goes_oper_k rfl rfl (by k_ne) (fun K hK => ?_); go_simp; refine hK _ _ ⟨?_, ?_⟩; (u_none; intro e he; have hm := mem_listed he; simp [go_sem, *] at hm); clear hK K; try walk_nrm
    refine T.goes1 hn rfl (fun _ _ _ => ?_); rw [stepG_unwanted rfl rfl]; simp only [goes_go]; refine ⟨by u_nil, ?_⟩; walk_nrm
    refine T.goes1 hn rfl (fun _ _ _ => ?_); rw [stepG_unwanted rfl rfl]; simp only [goes_go]; refine ⟨by u_nil, ?_⟩; walk_nrm
    refine T.goes1 hn rfl (fun _ _ _ => ?_); refine goes_oper_k rfl rfl (by k_ne) (fun K hK => ?_); go_simp; refine hK _ _ ⟨?_, ?_⟩; (u_none; intro e he; have hm := mem_listed he; simp [go_sem, *] at hm); clear hK K; try walk_nrm
    refine T.goes1 hn rfl (fun _ _ _ => ?_); refine goes_oper_k rfl rfl (by k_ne) (fun K hK => ?_); go_simp; refine hK _ _ ⟨?_, ?_⟩; (u_none; intro e he; have hm := mem_listed he; simp [go_sem, *] at hm); clear hK K; try walk_nrm
    refine T.goes1 hn rfl (fun _ _ _ => ?_); rw [stepG_unwanted rfl rfl]; simp only [goes_go]; refine ⟨by u_nil, ?_⟩; walk_nrm
    refine T.goes1 hn rfl (fun _ _ _ => ?_); rw [stepG_unwanted rfl rfl]; simp only [goes_go]; refine ⟨by u_nil, ?_⟩; walk_nrm
    refine T.goes1 hn rfl (fun _ _ _ => ?_); refine goes_oper_k rfl rfl (by k_ne) (fun K hK => ?_); go_simp; refine hK _ _ ⟨?_, ?_⟩; (u_none; intro e he; have hm := mem_listed he; simp [go_sem, *] at hm); clear hK K; try walk_nrm
    refine T.goes1 hn rfl (fun _ _ _ => ?_); refine goes_oper_k rfl rfl (by k_ne) (fun K hK => ?_); go_simp; refine hK _ _ ⟨?_, ?_⟩; (u_none; intro e he; have hm := mem_listed he; simp [go_sem, *] at hm); clear hK K; try walk_nrm
    refine T.goes1 hn rfl (fun _ _ _ => ?_); rw [stepG_unwanted rfl rfl]; simp only [goes_go]; refine ⟨by u_nil, ?_⟩; walk_nrm
    refine T.goes1 hn rfl (fun _ _ _ => ?_); rw [stepG_unwanted rfl rfl]; simp only [goes_go]; refine ⟨by u_nil, ?_⟩; walk_nrm
    refine T.goes1 hn rfl (fun _ _ _ => ?_); refine goes_oper_k rfl rfl (by k_ne) (fun K hK => ?_); go_simp; refine hK _ _ ⟨?_, ?_⟩; (u_none; intro e he; have hm := mem_listed he; simp [go_sem, *] at hm); clear hK K; try walk_nrm
    refine T.goes1 hn rfl (fun _ _ _ => ?_); refine goes_oper_k rfl rfl (by k_ne) (fun K hK => ?_); go_simp; refine hK _ _ ⟨?_, ?_⟩; (u_none; intro e he; have hm := mem_listed he; simp [go_sem, *] at hm); clear hK K; try walk_nrm
    refine T.goes1 hn rfl (fun _ _ _ => ?_); rw [stepG_unwanted rfl rfl]; simp only [goes_go]; refine ⟨by u_nil, ?_⟩; walk_nrm
    refine T.goes1 hn rfl (fun _ _ _ => ?_); rw [stepG_unwanted rfl rfl]; simp only [goes_go]; refine ⟨by u_nil, ?_⟩; walk_nrm
    refine T.goes1 hn rfl (fun _ _ _ => ?_); refine goes_oper_k rfl rfl (by k_ne) (fun K hK => ?_); go_simp; refine hK _ _ ⟨?_, ?_⟩; (u_none; intro e he; have hm := mem_listed he; simp [go_sem, *] at hm); clear hK K; try walk_nrm
    refine T.goes1 hn rfl (fun _ _ _ => ?_); rw [stepG_region_end]; simp only [goes_go]; refine ⟨by u_nil, ?_⟩
    refine T.goes1 hn rfl (fun _ _ _ => ?_); rw [stepG_cond (t := true) rfl]; simp only [goes_go, if_true, if_false, Bool.false_eq_true, ↓reduceIte]; refine ⟨by u_nil, ?_⟩
    refine T.goes1 hn rfl (fun _ _ _ => ?_); rw [stepG_seq]; simp only [goes_go]; refine ⟨by u_nil, ?_⟩
    refine T.goes1 hn rfl (fun _ _ _ => ?_); rw [stepG_region]; simp only [goes_go, List.size_toArray, List.length_cons, List.length_nil, Nat.reduceAdd, Nat.zero_add, List.range, List.range.loop]; refine ⟨by u_nil, ?_⟩
    refine T.goes1 hn rfl (fun _ _ _ => ?_); refine goes_oper_k rfl rfl (by k_ne) (fun K hK => ?_); go_simp; refine hK _ _ ⟨?_, ?_⟩; (u_none; intro e he; have hm := mem_listed he; simp [go_sem, *] at hm); clear hK K; try walk_nrm
    refine T.goes1 hn rfl (fun _ _ _ => ?_); rw [stepG_region_end]; simp only [goes_go]; refine ⟨by u_nil, ?_⟩
    refine T.goes1 hn rfl (fun _ _ _ => ?_); rw [stepG_ret']; simp only [goes_go]; refine ⟨by u_nil, ?_⟩
    refine T.le (m := 1) (by omega) (T.done rfl rfl rfl Try.func5 rfl (by kernel_rfl) (fun w1 => rfl))
  by_cases k3 : (8 : Int) < b
  · have e0 : ¬ (a < 1) := by omega
    have e1 : ¬ ((8 : Int) < a) := by omega
    have e2 : ¬ (b < 1) := by omega
    have e3 : ((8 : Int) < b) := by omega
    refine T.goes1 hn rfl (fun _ _ _ => ?_); refine goes_oper_k rfl rfl (by k_ne) (fun K hK => ?_); go_simp; refine hK _ _ ⟨?_, ?_⟩; (u_none; intro e he; have hm := mem_listed he; simp [go_sem, *] at hm); clear hK K; try walk_nrm
    refine T.goes1 hn rfl (fun _ _ _ => ?_); refine goes_oper_k rfl rfl (by k_ne) (fun K hK => ?_); go_simp; refine hK _ _ ⟨?_, ?_⟩; (u_none; intro e he; have hm := mem_listed he; simp [go_sem, *] at hm); clear hK K; try walk_nrm
    refine T.goes1 hn rfl (fun _ _ _ => ?_); refine goes_oper_k rfl rfl (by k_ne) (fun K hK => ?_); go_simp; refine hK _ _ ⟨?_, ?_⟩; (u_none; intro e he; have hm := mem_listed he; simp [go_sem, *] at hm); clear hK K; try walk_nrm
    refine T.goes1 hn rfl (fun _ _ _ => ?_); refine goes_oper_k rfl rfl (by k_ne) (fun K hK => ?_); go_simp; refine hK _ _ ⟨?_, ?_⟩; (u_none; intro e he; have hm := mem_listed he; simp [go_sem, *] at hm); clear hK K; try walk_nrm
    refine T.goes1 hn rfl (fun _ _ _ => ?_); refine goes_oper_k rfl rfl (by k_ne) (fun K hK => ?_); go_simp; refine hK _ _ ⟨?_, ?_⟩; (u_none; intro e he; have hm := mem_listed he; simp [go_sem, *] at hm); clear hK K; try walk_nrm
    refine T.goes1 hn rfl (fun _ _ _ => ?_); refine goes_oper_k rfl rfl (by k_ne) (fun K hK => ?_); go_simp; refine hK _ _ ⟨?_, ?_⟩; (u_none; intro e he; have hm := mem_listed he; simp [go_sem, *] at hm); clear hK K; try walk_nrm
    refine T.goes1 hn rfl (fun _ _ _ => ?_); refine goes_oper_k rfl rfl (by k_ne) (fun K hK => ?_); go_simp; refine hK _ _ ⟨?_, ?_⟩; (u_none; intro e he; have hm := mem_listed he; simp [go_sem, *] at hm); clear hK K; try walk_nrm
    refine T.quiet hn rfl rfl (by k_ne) (fun w₁ hF hL K hK => ?_); have fc := (hF.cell _ (.inr (.inr (.inl rfl)))).1.trans (vb); go_simp; refine hK _ ?_ ?_; (intro e he; simp [go_sem, *] at he; subst he; exact EvOk.rd false (.inr (.inl rfl))); clear hK K fc; try walk_nrm
    refine T.goes1 hn rfl (fun _ _ _ => ?_); refine goes_oper_k rfl rfl (by k_ne) (fun K hK => ?_); go_simp; refine hK _ _ ⟨?_, ?_⟩; (u_none; intro e he; have hm := mem_listed he; simp [go_sem, *] at hm); clear hK K; try walk_nrm
    refine T.goes1 hn rfl (fun _ _ _ => ?_); refine goes_oper_k rfl rfl (by k_ne) (fun K hK => ?_); go_simp; refine hK _ _ ⟨?_, ?_⟩; (u_none; intro e he; have hm := mem_listed he; simp [go_sem, *] at hm); clear hK K; try walk_nrm
    refine T.goes1 hn rfl (fun _ _ _ => ?_); refine goes_oper_k rfl rfl (by k_ne) (fun K hK => ?_); go_simp; refine hK _ _ ⟨?_, ?_⟩; (u_none; intro e he; have hm := mem_listed he; simp [go_sem, *] at hm); clear hK K; try walk_nrm
    refine T.quiet hn rfl rfl (by k_ne) (fun w₁ hF hL K hK => ?_); have fc := (hF.cell _ (.inr (.inr (.inl rfl)))).1.trans (vb); go_simp; refine hK _ ?_ ?_; (intro e he; simp [go_sem, *] at he; subst he; exact EvOk.rd false (.inr (.inl rfl))); clear hK K fc; try walk_nrm
    refine T.goes1 hn rfl (fun _ _ _ => ?_); refine goes_oper_k rfl rfl (by k_ne) (fun K hK => ?_); go_simp; refine hK _ _ ⟨?_, ?_⟩; (u_none; intro e he; have hm := mem_listed he; simp [go_sem, *] at hm); clear hK K; try walk_nrm
    refine T.goes1 hn rfl (fun _ _ _ => ?_); refine goes_oper_k rfl rfl (by k_ne) (fun K hK => ?_); go_simp; refine hK _ _ ⟨?_, ?_⟩; (u_none; intro e he; have hm := mem_listed he; simp [go_sem, *] at hm); clear hK K; try walk_nrm
    refine T.goes1 hn rfl (fun _ _ _ => ?_); refine goes_oper_k rfl rfl (by k_ne) (fun K hK => ?_); go_simp; refine hK _ _ ⟨?_, ?_⟩; (u_none; intro e he; have hm := mem_listed he; simp [go_sem, *] at hm); clear hK K; try walk_nrm
    refine T.goes1 hn rfl (fun _ _ _ => ?_); rw [stepG_unwanted rfl rfl]; simp only [goes_go]; refine ⟨by u_nil, ?_⟩; walk_nrm
    refine T.goes1 hn rfl (fun _ _ _ => ?_); rw [stepG_unwanted rfl rfl]; simp only [goes_go]; refine ⟨by u_nil, ?_⟩; walk_nrm
    refine T.goes1 hn rfl (fun _ _ _ => ?_); refine goes_oper_k rfl rfl (by k_ne) (fun K hK => ?_); go_simp; refine hK _ _ ⟨?_, ?_⟩; (u_none; intro e he; have hm := mem_listed he; simp [go_sem, *] at hm); clear hK K; try walk_nrm
    refine T.goes1 hn rfl (fun _ _ _ => ?_); refine goes_oper_k rfl rfl (by k_ne) (fun K hK => ?_); go_simp; refine hK _ _ ⟨?_, ?_⟩; (u_none; intro e he; have hm := mem_listed he; simp [go_sem, *] at hm); clear hK K; try walk_nrm
    refine T.goes1 hn rfl (fun _ _ _ => ?_); rw [stepG_unwanted rfl rfl]; simp only [goes_go]; refine ⟨by u_nil, ?_⟩; walk_nrm
    refine T.goes1 hn rfl (fun _ _ _ => ?_); rw [stepG_unwanted rfl rfl]; simp only [goes_go]; refine ⟨by u_nil, ?_⟩; walk_nrm
    refine T.goes1 hn rfl (fun _ _ _ => ?_); refine goes_oper_k rfl rfl (by k_ne) (fun K hK => ?_); go_simp; refine hK _ _ ⟨?_, ?_⟩; (u_none; intro e he; have hm := mem_listed he; simp [go_sem, *] at hm); clear hK K; try walk_nrm
    refine T.goes1 hn rfl (fun _ _ _ => ?_); refine goes_oper_k rfl rfl (by k_ne) (fun K hK => ?_); go_simp; refine hK _ _ ⟨?_, ?_⟩; (u_none; intro e he; have hm := mem_listed he; simp [go_sem, *] at hm); clear hK K; try walk_nrm
    refine T.goes1 hn rfl (fun _ _ _ => ?_); rw [stepG_unwanted rfl rfl]; simp only [goes_go]; refine ⟨by u_nil, ?_⟩; walk_nrm
    refine T.goes1 hn rfl (fun _ _ _ => ?_); rw [stepG_unwanted rfl rfl]; simp only [goes_go]; refine ⟨by u_nil, ?_⟩; walk_nrm
    refine T.goes1 hn rfl (fun _ _ _ => ?_); refine goes_oper_k rfl rfl (by k_ne) (fun K hK => ?_); go_simp; refine hK _ _ ⟨?_, ?_⟩; (u_none; intro e he; have hm := mem_listed he; simp [go_sem, *] at hm); clear hK K; try walk_nrm
    refine T.goes1 hn rfl (fun _ _ _ => ?_); refine goes_oper_k rfl rfl (by k_ne) (fun K hK => ?_); go_simp; refine hK _ _ ⟨?_, ?_⟩; (u_none; intro e he; have hm := mem_listed he; simp [go_sem, *] at hm); clear hK K; try walk_nrm
    refine T.goes1 hn rfl (fun _ _ _ => ?_); rw [stepG_unwanted rfl rfl]; simp only [goes_go]; refine ⟨by u_nil, ?_⟩; walk_nrm
    refine T.goes1 hn rfl (fun _ _ _ => ?_); rw [stepG_unwanted rfl rfl]; simp only [goes_go]; refine ⟨by u_nil, ?_⟩; walk_nrm
    refine T.goes1 hn rfl (fun _ _ _ => ?_); refine goes_oper_k rfl rfl (by k_ne) (fun K hK => ?_); go_simp; refine hK _ _ ⟨?_, ?_⟩; (u_none; intro e he; have hm := mem_listed he; simp [go_sem, *] at hm); clear hK K; try walk_nrm
    refine T.goes1 hn rfl (fun _ _ _ => ?_); rw [stepG_region_end]; simp only [goes_go]; refine ⟨by u_nil, ?_⟩
    refine T.goes1 hn rfl (fun _ _ _ => ?_); rw [stepG_cond (t := true) rfl]; simp only [goes_go, if_true, if_false, Bool.false_eq_true, ↓reduceIte]; refine ⟨by u_nil, ?_⟩
    refine T.goes1 hn rfl (fun _ _ _ => ?_); rw [stepG_seq]; simp only [goes_go]; refine ⟨by u_nil, ?_⟩
    refine T.goes1 hn rfl (fun _ _ _ => ?_); rw [stepG_region]; simp only [goes_go, List.size_toArray, List.length_cons, List.length_nil, Nat.reduceAdd, Nat.zero_add, List.range, List.range.loop]; refine ⟨by u_nil, ?_⟩
    refine T.goes1 hn rfl (fun _ _ _ => ?_); refine goes_oper_k rfl rfl (by k_ne) (fun K hK => ?_); go_simp; refine hK _ _ ⟨?_, ?_⟩; (u_none; intro e he; have hm := mem_listed he; simp [go_sem, *] at hm); clear hK K; try walk_nrm
    refine T.goes1 hn rfl (fun _ _ _ => ?_); rw [stepG_region_end]; simp only [goes_go]; refine ⟨by u_nil, ?_⟩
    refine T.goes1 hn rfl (fun _ _ _ => ?_); rw [stepG_ret']; simp only [goes_go]; refine ⟨by u_nil, ?_⟩
    refine T.le (m := 1) (by omega) (T.done rfl rfl rfl Try.func5 rfl (by kernel_rfl) (fun w1 => rfl))
  by_cases k4 : n < 0
  · have e0 : ¬ (a < 1) := by omega
    have e1 : ¬ ((8 : Int) < a) := by omega
    have e2 : ¬ (b < 1) := by omega
    have e3 : ¬ ((8 : Int) < b) := by omega
    have e4 : (n < 0) := by omega
    refine T.goes1 hn rfl (fun _ _ _ => ?_); refine goes_oper_k rfl rfl (by k_ne) (fun K hK => ?_); go_simp; refine hK _ _ ⟨?_, ?_⟩; (u_none; intro e he; have hm := mem_listed he; simp [go_sem, *] at hm); clear hK K; try walk_nrm
    refine T.goes1 hn rfl (fun _ _ _ => ?_); refine goes_oper_k rfl rfl (by k_ne) (fun K hK => ?_); go_simp; refine hK _ _ ⟨?_, ?_⟩; (u_none; intro e he; have hm := mem_listed he; simp [go_sem, *] at hm); clear hK K; try walk_nrm
    refine T.goes1 hn rfl (fun _ _ _ => ?_); refine goes_oper_k rfl rfl (by k_ne) (fun K hK => ?_); go_simp; refine hK _ _ ⟨?_, ?_⟩; (u_none; intro e he; have hm := mem_listed he; simp [go_sem, *] at hm); clear hK K; try walk_nrm
    refine T.goes1 hn rfl (fun _ _ _ => ?_); refine goes_oper_k rfl rfl (by k_ne) (fun K hK => ?_); go_simp; refine hK _ _ ⟨?_, ?_⟩; (u_none; intro e he; have hm := mem_listed he; simp [go_sem, *] at hm); clear hK K; try walk_nrm
    refine T.goes1 hn rfl (fun _ _ _ => ?_); refine goes_oper_k rfl rfl (by k_ne) (fun K hK => ?_); go_simp; refine hK _ _ ⟨?_, ?_⟩; (u_none; intro e he; have hm := mem_listed he; simp [go_sem, *] at hm); clear hK K; try walk_nrm
    refine T.goes1 hn rfl (fun _ _ _ => ?_); refine goes_oper_k rfl rfl (by k_ne) (fun K hK => ?_); go_simp; refine hK _ _ ⟨?_, ?_⟩; (u_none; intro e he; have hm := mem_listed he; simp [go_sem, *] at hm); clear hK K; try walk_nrm
    refine T.goes1 hn rfl (fun _ _ _ => ?_); refine goes_oper_k rfl rfl (by k_ne) (fun K hK => ?_); go_simp; refine hK _ _ ⟨?_, ?_⟩; (u_none; intro e he; have hm := mem_listed he; simp [go_sem, *] at hm); clear hK K; try walk_nrm
    refine T.quiet hn rfl rfl (by k_ne) (fun w₁ hF hL K hK => ?_); have fc := (hF.cell _ (.inr (.inr (.inl rfl)))).1.trans (vb); go_simp; refine hK _ ?_ ?_; (intro e he; simp [go_sem, *] at he; subst he; exact EvOk.rd false (.inr (.inl rfl))); clear hK K fc; try walk_nrm
    refine T.goes1 hn rfl (fun _ _ _ => ?_); refine goes_oper_k rfl rfl (by k_ne) (fun K hK => ?_); go_simp; refine hK _ _ ⟨?_, ?_⟩; (u_none; intro e he; have hm := mem_listed he; simp [go_sem, *] at hm); clear hK K; try walk_nrm
    refine T.goes1 hn rfl (fun _ _ _ => ?_); refine goes_oper_k rfl rfl (by k_ne) (fun K hK => ?_); go_simp; refine hK _ _ ⟨?_, ?_⟩; (u_none; intro e he; have hm := mem_listed he; simp [go_sem, *] at hm); clear hK K; try walk_nrm
    refine T.goes1 hn rfl (fun _ _ _ => ?_); refine goes_oper_k rfl rfl (by k_ne) (fun K hK => ?_); go_simp; refine hK _ _ ⟨?_, ?_⟩; (u_none; intro e he; have hm := mem_listed he; simp [go_sem, *] at hm); clear hK K; try walk_nrm
    refine T.quiet hn rfl rfl (by k_ne) (fun w₁ hF hL K hK => ?_); have fc := (hF.cell _ (.inr (.inr (.inl rfl)))).1.trans (vb); go_simp; refine hK _ ?_ ?_; (intro e he; simp [go_sem, *] at he; subst he; exact EvOk.rd false (.inr (.inl rfl))); clear hK K fc; try walk_nrm
    refine T.goes1 hn rfl (fun _ _ _ => ?_); refine goes_oper_k rfl rfl (by k_ne) (fun K hK => ?_); go_simp; refine hK _ _ ⟨?_, ?_⟩; (u_none; intro e he; have hm := mem_listed he; simp [go_sem, *] at hm); clear hK K; try walk_nrm
    refine T.goes1 hn rfl (fun _ _ _ => ?_); refine goes_oper_k rfl rfl (by k_ne) (fun K hK => ?_); go_simp; refine hK _ _ ⟨?_, ?_⟩; (u_none; intro e he; have hm := mem_listed he; simp [go_sem, *] at hm); clear hK K; try walk_nrm
    refine T.goes1 hn rfl (fun _ _ _ => ?_); refine goes_oper_k rfl rfl (by k_ne) (fun K hK => ?_); go_simp; refine hK _ _ ⟨?_, ?_⟩; (u_none; intro e he; have hm := mem_listed he; simp [go_sem, *] at hm); clear hK K; try walk_nrm
    refine T.goes1 hn rfl (fun _ _ _ => ?_); refine goes_oper_k rfl rfl (by k_ne) (fun K hK => ?_); go_simp; refine hK _ _ ⟨?_, ?_⟩; (u_none; intro e he; have hm := mem_listed he; simp [go_sem, *] at hm); clear hK K; try walk_nrm
    refine T.goes1 hn rfl (fun _ _ _ => ?_); refine goes_oper_k rfl rfl (by k_ne) (fun K hK => ?_); go_simp; refine hK _ _ ⟨?_, ?_⟩; (u_none; intro e he; have hm := mem_listed he; simp [go_sem, *] at hm); clear hK K; try walk_nrm
    refine T.goes1 hn rfl (fun _ _ _ => ?_); refine goes_oper_k rfl rfl (by k_ne) (fun K hK => ?_); go_simp; refine hK _ _ ⟨?_, ?_⟩; (u_none; intro e he; have hm := mem_listed he; simp [go_sem, *] at hm); clear hK K; try walk_nrm
    refine T.goes1 hn rfl (fun _ _ _ => ?_); refine goes_oper_k rfl rfl (by k_ne) (fun K hK => ?_); go_simp; refine hK _ _ ⟨?_, ?_⟩; (u_none; intro e he; have hm := mem_listed he; simp [go_sem, *] at hm); clear hK K; try walk_nrm
    refine T.goes1 hn rfl (fun _ _ _ => ?_); rw [stepG_unwanted rfl rfl]; simp only [goes_go]; refine ⟨by u_nil, ?_⟩; walk_nrm
    refine T.goes1 hn rfl (fun _ _ _ => ?_); rw [stepG_unwanted rfl rfl]; simp only [goes_go]; refine ⟨by u_nil, ?_⟩; walk_nrm
    refine T.goes1 hn rfl (fun _ _ _ => ?_); refine goes_oper_k rfl rfl (by k_ne) (fun K hK => ?_); go_simp; refine hK _ _ ⟨?_, ?_⟩; (u_none; intro e he; have hm := mem_listed he; simp [go_sem, *] at hm); clear hK K; try walk_nrm
    refine T.goes1 hn rfl (fun _ _ _ => ?_); refine goes_oper_k rfl rfl (by k_ne) (fun K hK => ?_); go_simp; refine hK _ _ ⟨?_, ?_⟩; (u_none; intro e he; have hm := mem_listed he; simp [go_sem, *] at hm); clear hK K; try walk_nrm
    refine T.goes1 hn rfl (fun _ _ _ => ?_); rw [stepG_unwanted rfl rfl]; simp only [goes_go]; refine ⟨by u_nil, ?_⟩; walk_nrm
    refine T.goes1 hn rfl (fun _ _ _ => ?_); rw [stepG_unwanted rfl rfl]; simp only [goes_go]; refine ⟨by u_nil, ?_⟩; walk_nrm
    refine T.goes1 hn rfl (fun _ _ _ => ?_); refine goes_oper_k rfl rfl (by k_ne) (fun K hK => ?_); go_simp; refine hK _ _ ⟨?_, ?_⟩; (u_none; intro e he; have hm := mem_listed he; simp [go_sem, *] at hm); clear hK K; try walk_nrm
    refine T.goes1 hn rfl (fun _ _ _ => ?_); refine goes_oper_k rfl rfl (by k_ne) (fun K hK => ?_); go_simp; refine hK _ _ ⟨?_, ?_⟩; (u_none; intro e he; have hm := mem_listed he; simp [go_sem, *] at hm); clear hK K; try walk_nrm
    refine T.goes1 hn rfl (fun _ _ _ => ?_); rw [stepG_unwanted rfl rfl]; simp only [goes_go]; refine ⟨by u_nil, ?_⟩; walk_nrm
    refine T.goes1 hn rfl (fun _ _ _ => ?_); rw [stepG_unwanted rfl rfl]; simp only [goes_go]; refine ⟨by u_nil, ?_⟩; walk_nrm
    refine T.goes1 hn rfl (fun _ _ _ => ?_); refine goes_oper_k rfl rfl (by k_ne) (fun K hK => ?_); go_simp; refine hK _ _ ⟨?_, ?_⟩; (u_none; intro e he; have hm := mem_listed he; simp [go_sem, *] at hm); clear hK K; try walk_nrm
    refine T.goes1 hn rfl (fun _ _ _ => ?_); rw [stepG_region_end]; simp only [goes_go]; refine ⟨by u_nil, ?_⟩
    refine T.goes1 hn rfl (fun _ _ _ => ?_); rw [stepG_cond (t := true) rfl]; simp only [goes_go, if_true, if_false, Bool.false_eq_true, ↓reduceIte]; refine ⟨by u_nil, ?_⟩
    refine T.goes1 hn rfl (fun _ _ _ => ?_); rw [stepG_seq]; simp only [goes_go]; refine ⟨by u_nil, ?_⟩
    refine T.goes1 hn rfl (fun _ _ _ => ?_); rw [stepG_region]; simp only [goes_go, List.size_toArray, List.length_cons, List.length_nil, Nat.reduceAdd, Nat.zero_add, List.range, List.range.loop]; refine ⟨by u_nil, ?_⟩
    refine T.goes1 hn rfl (fun _ _ _ => ?_); refine goes_oper_k rfl rfl (by k_ne) (fun K hK => ?_); go_simp; refine hK _ _ ⟨?_, ?_⟩; (u_none; intro e he; have hm := mem_listed he; simp [go_sem, *] at hm); clear hK K; try walk_nrm
    refine T.goes1 hn rfl (fun _ _ _ => ?_); rw [stepG_region_end]; simp only [goes_go]; refine ⟨by u_nil, ?_⟩
    refine T.goes1 hn rfl (fun _ _ _ => ?_); rw [stepG_ret']; simp only [goes_go]; refine ⟨by u_nil, ?_⟩
    refine T.le (m := 1) (by omega) (T.done rfl rfl rfl Try.func5 rfl (by kernel_rfl) (fun w1 => rfl))
  by_cases k5 : (20 : Int) < n
  · have e0 : ¬ (a < 1) := by omega
    have e1 : ¬ ((8 : Int) < a) := by omega
    have e2 : ¬ (b < 1) := by omega
    have e3 : ¬ ((8 : Int) < b) := by omega
    have e4 : ¬ (n < 0) := by omega
    have e5 : ((20 : Int) < n) := by omega
    refine T.goes1 hn rfl (fun _ _ _ => ?_); refine goes_oper_k rfl rfl (by k_ne) (fun K hK => ?_); go_simp; refine hK _ _ ⟨?_, ?_⟩; (u_none; intro e he; have hm := mem_listed he; simp [go_sem, *] at hm); clear hK K; try walk_nrm
    refine T.goes1 hn rfl (fun _ _ _ => ?_); refine goes_oper_k rfl rfl (by k_ne) (fun K hK => ?_); go_simp; refine hK _ _ ⟨?_, ?_⟩; (u_none; intro e he; have hm := mem_listed he; simp [go_sem, *] at hm); clear hK K; try walk_nrm
    refine T.goes1 hn rfl (fun _ _ _ => ?_); refine goes_oper_k rfl rfl (by k_ne) (fun K hK => ?_); go_simp; refine hK _ _ ⟨?_, ?_⟩; (u_none; intro e he; have hm := mem_listed he; simp [go_sem, *] at hm); clear hK K; try walk_nrm
    refine T.goes1 hn rfl (fun _ _ _ => ?_); refine goes_oper_k rfl rfl (by k_ne) (fun K hK => ?_); go_simp; refine hK _ _ ⟨?_, ?_⟩; (u_none; intro e he; have hm := mem_listed he; simp [go_sem, *] at hm); clear hK K; try walk_nrm
    refine T.goes1 hn rfl (fun _ _ _ => ?_); refine goes_oper_k rfl rfl (by k_ne) (fun K hK => ?_); go_simp; refine hK _ _ ⟨?_, ?_⟩; (u_none; intro e he; have hm := mem_listed he; simp [go_sem, *] at hm); clear hK K; try walk_nrm
    refine T.goes1 hn rfl (fun _ _ _ => ?_); refine goes_oper_k rfl rfl (by k_ne) (fun K hK => ?_); go_simp; refine hK _ _ ⟨?_, ?_⟩; (u_none; intro e he; have hm := mem_listed he; simp [go_sem, *] at hm); clear hK K; try walk_nrm
    refine T.goes1 hn rfl (fun _ _ _ => ?_); refine goes_oper_k rfl rfl (by k_ne) (fun K hK => ?_); go_simp; refine hK _ _ ⟨?_, ?_⟩; (u_none; intro e he; have hm := mem_listed he; simp [go_sem, *] at hm); clear hK K; try walk_nrm
    refine T.quiet hn rfl rfl (by k_ne) (fun w₁ hF hL K hK => ?_); have fc := (hF.cell _ (.inr (.inr (.inl rfl)))).1.trans (vb); go_simp; refine hK _ ?_ ?_; (intro e he; simp [go_sem, *] at he; subst he; exact EvOk.rd false (.inr (.inl rfl))); clear hK K fc; try walk_nrm
    refine T.goes1 hn rfl (fun _ _ _ => ?_); refine goes_oper_k rfl rfl (by k_ne) (fun K hK => ?_); go_simp; refine hK _ _ ⟨?_, ?_⟩; (u_none; intro e he; have hm := mem_listed he; simp [go_sem, *] at hm); clear hK K; try walk_nrm
    refine T.goes1 hn rfl (fun _ _ _ => ?_); refine goes_oper_k rfl rfl (by k_ne) (fun K hK => ?_); go_simp; refine hK _ _ ⟨?_, ?_⟩; (u_none; intro e he; have hm := mem_listed he; simp [go_sem, *] at hm); clear hK K; try walk_nrm
    refine T.goes1 hn rfl (fun _ _ _ => ?_); refine goes_oper_k rfl rfl (by k_ne) (fun K hK => ?_); go_simp; refine hK _ _ ⟨?_, ?_⟩; (u_none; intro e he; have hm := mem_listed he; simp [go_sem, *] at hm); clear hK K; try walk_nrm
    refine T.quiet hn rfl rfl (by k_ne) (fun w₁ hF hL K hK => ?_); have fc := (hF.cell _ (.inr (.inr (.inl rfl)))).1.trans (vb); go_simp; refine hK _ ?_ ?_; (intro e he; simp [go_sem, *] at he; subst he; exact EvOk.rd false (.inr (.inl rfl))); clear hK K fc; try walk_nrm
    refine T.goes1 hn rfl (fun _ _ _ => ?_); refine goes_oper_k rfl rfl (by k_ne) (fun K hK => ?_); go_simp; refine hK _ _ ⟨?_, ?_⟩; (u_none; intro e he; have hm := mem_listed he; simp [go_sem, *] at hm); clear hK K; try walk_nrm
    refine T.goes1 hn rfl (fun _ _ _ => ?_); refine goes_oper_k rfl rfl (by k_ne) (fun K hK => ?_); go_simp; refine hK _ _ ⟨?_, ?_⟩; (u_none; intro e he; have hm := mem_listed he; simp [go_sem, *] at hm); clear hK K; try walk_nrm
    refine T.goes1 hn rfl (fun _ _ _ => ?_); refine goes_oper_k rfl rfl (by k_ne) (fun K hK => ?_); go_simp; refine hK _ _ ⟨?_, ?_⟩; (u_none; intro e he; have hm := mem_listed he; simp [go_sem, *] at hm); clear hK K; try walk_nrm
    refine T.goes1 hn rfl (fun _ _ _ => ?_); refine goes_oper_k rfl rfl (by k_ne) (fun K hK => ?_); go_simp; refine hK _ _ ⟨?_, ?_⟩; (u_none; intro e he; have hm := mem_listed he; simp [go_sem, *] at hm); clear hK K; try walk_nrm
    refine T.goes1 hn rfl (fun _ _ _ => ?_); refine goes_oper_k rfl rfl (by k_ne) (fun K hK => ?_); go_simp; refine hK _ _ ⟨?_, ?_⟩; (u_none; intro e he; have hm := mem_listed he; simp [go_sem, *] at hm); clear hK K; try walk_nrm
    refine T.goes1 hn rfl (fun _ _ _ => ?_); refine goes_oper_k rfl rfl (by k_ne) (fun K hK => ?_); go_simp; refine hK _ _ ⟨?_, ?_⟩; (u_none; intro e he; have hm := mem_listed he; simp [go_sem, *] at hm); clear hK K; try walk_nrm
    refine T.goes1 hn rfl (fun _ _ _ => ?_); refine goes_oper_k rfl rfl (by k_ne) (fun K hK => ?_); go_simp; refine hK _ _ ⟨?_, ?_⟩; (u_none; intro e he; have hm := mem_listed he; simp [go_sem, *] at hm); clear hK K; try walk_nrm
    refine T.goes1 hn rfl (fun _ _ _ => ?_); refine goes_oper_k rfl rfl (by k_ne) (fun K hK => ?_); go_simp; refine hK _ _ ⟨?_, ?_⟩; (u_none; intro e he; have hm := mem_listed he; simp [go_sem, *] at hm); clear hK K; try walk_nrm
    refine T.goes1 hn rfl (fun _ _ _ => ?_); refine goes_oper_k rfl rfl (by k_ne) (fun K hK => ?_); go_simp; refine hK _ _ ⟨?_, ?_⟩; (u_none; intro e he; have hm := mem_listed he; simp [go_sem, *] at hm); clear hK K; try walk_nrm
    refine T.goes1 hn rfl (fun _ _ _ => ?_); refine goes_oper_k rfl rfl (by k_ne) (fun K hK => ?_); go_simp; refine hK _ _ ⟨?_, ?_⟩; (u_none; intro e he; have hm := mem_listed he; simp [go_sem, *] at hm); clear hK K; try walk_nrm
    refine T.goes1 hn rfl (fun _ _ _ => ?_); refine goes_oper_k rfl rfl (by k_ne) (fun K hK => ?_); go_simp; refine hK _ _ ⟨?_, ?_⟩; (u_none; intro e he; have hm := mem_listed he; simp [go_sem, *] at hm); clear hK K; try walk_nrm
    refine T.goes1 hn rfl (fun _ _ _ => ?_); rw [stepG_unwanted rfl rfl]; simp only [goes_go]; refine ⟨by u_nil, ?_⟩; walk_nrm
    refine T.goes1 hn rfl (fun _ _ _ => ?_); rw [stepG_unwanted rfl rfl]; simp only [goes_go]; refine ⟨by u_nil, ?_⟩; walk_nrm
    refine T.goes1 hn rfl (fun _ _ _ => ?_); refine goes_oper_k rfl rfl (by k_ne) (fun K hK => ?_); go_simp; refine hK _ _ ⟨?_, ?_⟩; (u_none; intro e he; have hm := mem_listed he; simp [go_sem, *] at hm); clear hK K; try walk_nrm
    refine T.goes1 hn rfl (fun _ _ _ => ?_); refine goes_oper_k rfl rfl (by k_ne) (fun K hK => ?_); go_simp; refine hK _ _ ⟨?_, ?_⟩; (u_none; intro e he; have hm := mem_listed he; simp [go_sem, *] at hm); clear hK K; try walk_nrm
    refine T.goes1 hn rfl (fun _ _ _ => ?_); rw [stepG_unwanted rfl rfl]; simp only [goes_go]; refine ⟨by u_nil, ?_⟩; walk_nrm
    refine T.goes1 hn rfl (fun _ _ _ => ?_); rw [stepG_unwanted rfl rfl]; simp only [goes_go]; refine ⟨by u_nil, ?_⟩; walk_nrm
    refine T.goes1 hn rfl (fun _ _ _ => ?_); refine goes_oper_k rfl rfl (by k_ne) (fun K hK => ?_); go_simp; refine hK _ _ ⟨?_, ?_⟩; (u_none; intro e he; have hm := mem_listed he; simp [go_sem, *] at hm); clear hK K; try walk_nrm
    refine T.goes1 hn rfl (fun _ _ _ => ?_); rw [stepG_region_end]; simp only [goes_go]; refine ⟨by u_nil, ?_⟩
    refine T.goes1 hn rfl (fun _ _ _ => ?_); rw [stepG_cond (t := true) rfl]; simp only [goes_go, if_true, if_false, Bool.false_eq_true, ↓reduceIte]; refine ⟨by u_nil, ?_⟩
    refine T.goes1 hn rfl (fun _ _ _ => ?_); rw [stepG_seq]; simp only [goes_go]; refine ⟨by u_nil, ?_⟩
    refine T.goes1 hn rfl (fun _ _ _ => ?_); rw [stepG_region]; simp only [goes_go, List.size_toArray, List.length_cons, List.length_nil, Nat.reduceAdd, Nat.zero_add, List.range, List.range.loop]; refine ⟨by u_nil, ?_⟩
    refine T.goes1 hn rfl (fun _ _ _ => ?_); refine goes_oper_k rfl rfl (by k_ne) (fun K hK => ?_); go_simp; refine hK _ _ ⟨?_, ?_⟩; (u_none; intro e he; have hm := mem_listed he; simp [go_sem, *] at hm); clear hK K; try walk_nrm
    refine T.goes1 hn rfl (fun _ _ _ => ?_); rw [stepG_region_end]; simp only [goes_go]; refine ⟨by u_nil, ?_⟩
    refine T.goes1 hn rfl (fun _ _ _ => ?_); rw [stepG_ret']; simp only [goes_go]; refine ⟨by u_nil, ?_⟩
    refine T.le (m := 1) (by omega) (T.done rfl rfl rfl Try.func5 rfl (by kernel_rfl) (fun w1 => rfl))
  by_cases k6 : m < 0
  · have e0 : ¬ (a < 1) := by omega
    have e1 : ¬ ((8 : Int) < a) := by omega
    have e2 : ¬ (b < 1) := by omega
    have e3 : ¬ ((8 : Int) < b) := by omega
    have e4 : ¬ (n < 0) := by omega
    have e5 : ¬ ((20 : Int) < n) := by omega
    have e6 : (m < 0) := by omega
    refine T.goes1 hn rfl (fun _ _ _ => ?_); refine goes_oper_k rfl rfl (by k_ne) (fun K hK => ?_); go_simp; refine hK _ _ ⟨?_, ?_⟩; (u_none; intro e he; have hm := mem_listed he; simp [go_sem, *] at hm); clear hK K; try walk_nrm
    refine T.goes1 hn rfl (fun _ _ _ => ?_); refine goes_oper_k rfl rfl (by k_ne) (fun K hK => ?_); go_simp; refine hK _ _ ⟨?_, ?_⟩; (u_none; intro e he; have hm := mem_listed he; simp [go_sem, *] at hm); clear hK K; try walk_nrm
    refine T.goes1 hn rfl (fun _ _ _ => ?_); refine goes_oper_k rfl rfl (by k_ne) (fun K hK => ?_); go_simp; refine hK _ _ ⟨?_, ?_⟩; (u_none; intro e he; have hm := mem_listed he; simp [go_sem, *] at hm); clear hK K; try walk_nrm
    refine T.goes1 hn rfl (fun _ _ _ => ?_); refine goes_oper_k rfl rfl (by k_ne) (fun K hK => ?_); go_simp; refine hK _ _ ⟨?_, ?_⟩; (u_none; intro e he; have hm := mem_listed he; simp [go_sem, *] at hm); clear hK K; try walk_nrm
    refine T.goes1 hn rfl (fun _ _ _ => ?_); refine goes_oper_k rfl rfl (by k_ne) (fun K hK => ?_); go_simp; refine hK _ _ ⟨?_, ?_⟩; (u_none; intro e he; have hm := mem_listed he; simp [go_sem, *] at hm); clear hK K; try walk_nrm
    refine T.goes1 hn rfl (fun _ _ _ => ?_); refine goes_oper_k rfl rfl (by k_ne) (fun K hK => ?_); go_simp; refine hK _ _ ⟨?_, ?_⟩; (u_none; intro e he; have hm := mem_listed he; simp [go_sem, *] at hm); clear hK K; try walk_nrm
    refine T.goes1 hn rfl (fun _ _ _ => ?_); refine goes_oper_k rfl rfl (by k_ne) (fun K hK => ?_); go_simp; refine hK _ _ ⟨?_, ?_⟩; (u_none; intro e he; have hm := mem_listed he; simp [go_sem, *] at hm); clear hK K; try walk_nrm
    refine T.quiet hn rfl rfl (by k_ne) (fun w₁ hF hL K hK => ?_); have fc := (hF.cell _ (.inr (.inr (.inl rfl)))).1.trans (vb); go_simp; refine hK _ ?_ ?_; (intro e he; simp [go_sem, *] at he; subst he; exact EvOk.rd false (.inr (.inl rfl))); clear hK K fc; try walk_nrm
    refine T.goes1 hn rfl (fun _ _ _ => ?_); refine goes_oper_k rfl rfl (by k_ne) (fun K hK => ?_); go_simp; refine hK _ _ ⟨?_, ?_⟩; (u_none; intro e he; have hm := mem_listed he; simp [go_sem, *] at hm); clear hK K; try walk_nrm
    refine T.goes1 hn rfl (fun _ _ _ => ?_); refine goes_oper_k rfl rfl (by k_ne) (fun K hK => ?_); go_simp; refine hK _ _ ⟨?_, ?_⟩; (u_none; intro e he; have hm := mem_listed he; simp [go_sem, *] at hm); clear hK K; try walk_nrm
    refine T.goes1 hn rfl (fun _ _ _ => ?_); refine goes_oper_k rfl rfl (by k_ne) (fun K hK => ?_); go_simp; refine hK _ _ ⟨?_, ?_⟩; (u_none; intro e he; have hm := mem_listed he; simp [go_sem, *] at hm); clear hK K; try walk_nrm
    refine T.quiet hn rfl rfl (by k_ne) (fun w₁ hF hL K hK => ?_); have fc := (hF.cell _ (.inr (.inr (.inl rfl)))).1.trans (vb); go_simp; refine hK _ ?_ ?_; (intro e he; simp [go_sem, *] at he; subst he; exact EvOk.rd false (.inr (.inl rfl))); clear hK K fc; try walk_nrm
    refine T.goes1 hn rfl (fun _ _ _ => ?_); refine goes_oper_k rfl rfl (by k_ne) (fun K hK => ?_); go_simp; refine hK _ _ ⟨?_, ?_⟩; (u_none; intro e he; have hm := mem_listed he; simp [go_sem, *] at hm); clear hK K; try walk_nrm
    refine T.goes1 hn rfl (fun _ _ _ => ?_); refine goes_oper_k rfl rfl (by k_ne) (fun K hK => ?_); go_simp; refine hK _ _ ⟨?_, ?_⟩; (u_none; intro e he; have hm := mem_listed he; simp [go_sem, *] at hm); clear hK K; try walk_nrm
    refine T.goes1 hn rfl (fun _ _ _ => ?_); refine goes_oper_k rfl rfl (by k_ne) (fun K hK => ?_); go_simp; refine hK _ _ ⟨?_, ?_⟩; (u_none; intro e he; have hm := mem_listed he; simp [go_sem, *] at hm); clear hK K; try walk_nrm
    refine T.goes1 hn rfl (fun _ _ _ => ?_); refine goes_oper_k rfl rfl (by k_ne) (fun K hK => ?_); go_simp; refine hK _ _ ⟨?_, ?_⟩; (u_none; intro e he; have hm := mem_listed he; simp [go_sem, *] at hm); clear hK K; try walk_nrm
    refine T.goes1 hn rfl (fun _ _ _ => ?_); refine goes_oper_k rfl rfl (by k_ne) (fun K hK => ?_); go_simp; refine hK _ _ ⟨?_, ?_⟩; (u_none; intro e he; have hm := mem_listed he; simp [go_sem, *] at hm); clear hK K; try walk_nrm
    refine T.goes1 hn rfl (fun _ _ _ => ?_); refine goes_oper_k rfl rfl (by k_ne) (fun K hK => ?_); go_simp; refine hK _ _ ⟨?_, ?_⟩; (u_none; intro e he; have hm := mem_listed he; simp [go_sem, *] at hm); clear hK K; try walk_nrm
    refine T.goes1 hn rfl (fun _ _ _ => ?_); refine goes_oper_k rfl rfl (by k_ne) (fun K hK => ?_); go_simp; refine hK _ _ ⟨?_, ?_⟩; (u_none; intro e he; have hm := mem_listed he; simp [go_sem, *] at hm); clear hK K; try walk_nrm
    refine T.goes1 hn rfl (fun _ _ _ => ?_); refine goes_oper_k rfl rfl (by k_ne) (fun K hK => ?_); go_simp; refine hK _ _ ⟨?_, ?_⟩; (u_none; intro e he; have hm := mem_listed he; simp [go_sem, *] at hm); clear hK K; try walk_nrm
    refine T.goes1 hn rfl (fun _ _ _ => ?_); refine goes_oper_k rfl rfl (by k_ne) (fun K hK => ?_); go_simp; refine hK _ _ ⟨?_, ?_⟩; (u_none; intro e he; have hm := mem_listed he; simp [go_sem, *] at hm); clear hK K; try walk_nrm
    refine T.goes1 hn rfl (fun _ _ _ => ?_); refine goes_oper_k rfl rfl (by k_ne) (fun K hK => ?_); go_simp; refine hK _ _ ⟨?_, ?_⟩; (u_none; intro e he; have hm := mem_listed he; simp [go_sem, *] at hm); clear hK K; try walk_nrm
    refine T.goes1 hn rfl (fun _ _ _ => ?_); refine goes_oper_k rfl rfl (by k_ne) (fun K hK => ?_); go_simp; refine hK _ _ ⟨?_, ?_⟩; (u_none; intro e he; have hm := mem_listed he; simp [go_sem, *] at hm); clear hK K; try walk_nrm
    refine T.quiet hn rfl rfl (by k_ne) (fun w₁ hF hL K hK => ?_); have fc := (hF.cell _ (.inr (.inr (.inr rfl)))).1.trans (vm); go_simp; refine hK _ ?_ ?_; (intro e he; simp [go_sem, *] at he; subst he; exact EvOk.rd false (.inr (.inr rfl))); clear hK K fc; try walk_nrm
    refine T.goes1 hn rfl (fun _ _ _ => ?_); refine goes_oper_k rfl rfl (by k_ne) (fun K hK => ?_); go_simp; refine hK _ _ ⟨?_, ?_⟩; (u_none; intro e he; have hm := mem_listed he; simp [go_sem, *] at hm); clear hK K; try walk_nrm
    refine T.goes1 hn rfl (fun _ _ _ => ?_); refine goes_oper_k rfl rfl (by k_ne) (fun K hK => ?_); go_simp; refine hK _ _ ⟨?_, ?_⟩; (u_none; intro e he; have hm := mem_listed he; simp [go_sem, *] at hm); clear hK K; try walk_nrm
    refine T.goes1 hn rfl (fun _ _ _ => ?_); refine goes_oper_k rfl rfl (by k_ne) (fun K hK => ?_); go_simp; refine hK _ _ ⟨?_, ?_⟩; (u_none; intro e he; have hm := mem_listed he; simp [go_sem, *] at hm); clear hK K; try walk_nrm
    refine T.goes1 hn rfl (fun _ _ _ => ?_); rw [stepG_unwanted rfl rfl]; simp only [goes_go]; refine ⟨by u_nil, ?_⟩; walk_nrm
    refine T.goes1 hn rfl (fun _ _ _ => ?_); rw [stepG_unwanted rfl rfl]; simp only [goes_go]; refine ⟨by u_nil, ?_⟩; walk_nrm
    refine T.goes1 hn rfl (fun _ _ _ => ?_); refine goes_oper_k rfl rfl (by k_ne) (fun K hK => ?_); go_simp; refine hK _ _ ⟨?_, ?_⟩; (u_none; intro e he; have hm := mem_listed he; simp [go_sem, *] at hm); clear hK K; try walk_nrm
    refine T.goes1 hn rfl (fun _ _ _ => ?_); rw [stepG_region_end]; simp only [goes_go]; refine ⟨by u_nil, ?_⟩
    refine T.goes1 hn rfl (fun _ _ _ => ?_); rw [stepG_cond (t := true) rfl]; simp only [goes_go, if_true, if_false, Bool.false_eq_true, ↓reduceIte]; refine ⟨by u_nil, ?_⟩
    refine T.goes1 hn rfl (fun _ _ _ => ?_); rw [stepG_seq]; simp only [goes_go]; refine ⟨by u_nil, ?_⟩
    refine T.goes1 hn rfl (fun _ _ _ => ?_); rw [stepG_region]; simp only [goes_go, List.size_toArray, List.length_cons, List.length_nil, Nat.reduceAdd, Nat.zero_add, List.range, List.range.loop]; refine ⟨by u_nil, ?_⟩
    refine T.goes1 hn rfl (fun _ _ _ => ?_); refine goes_oper_k rfl rfl (by k_ne) (fun K hK => ?_); go_simp; refine hK _ _ ⟨?_, ?_⟩; (u_none; intro e he; have hm := mem_listed he; simp [go_sem, *] at hm); clear hK K; try walk_nrm
    refine T.goes1 hn rfl (fun _ _ _ => ?_); rw [stepG_region_end]; simp only [goes_go]; refine ⟨by u_nil, ?_⟩
    refine T.goes1 hn rfl (fun _ _ _ => ?_); rw [stepG_ret']; simp only [goes_go]; refine ⟨by u_nil, ?_⟩
    refine T.le (m := 1) (by omega) (T.done rfl rfl rfl Try.func5 rfl (by kernel_rfl) (fun w1 => rfl))
  by_cases k7 : (20 : Int) < m
  · have e0 : ¬ (a < 1) := by omega
    have e1 : ¬ ((8 : Int) < a) := by omega
    have e2 : ¬ (b < 1) := by omega
    have e3 : ¬ ((8 : Int) < b) := by omega
    have e4 : ¬ (n < 0) := by omega
    have e5 : ¬ ((20 : Int) < n) := by omega
    have e6 : ¬ (m < 0) := by omega
    have e7 : ((20 : Int) < m) := by omega
    refine T.goes1 hn rfl (fun _ _ _ => ?_); refine goes_oper_k rfl rfl (by k_ne) (fun K hK => ?_); go_simp; refine hK _ _ ⟨?_, ?_⟩; (u_none; intro e he; have hm := mem_listed he; simp [go_sem, *] at hm); clear hK K; try walk_nrm
    refine T.goes1 hn rfl (fun _ _ _ => ?_); refine goes_oper_k rfl rfl (by k_ne) (fun K hK => ?_); go_simp; refine hK _ _ ⟨?_, ?_⟩; (u_none; intro e he; have hm := mem_listed he; simp [go_sem, *] at hm); clear hK K; try walk_nrm
    refine T.goes1 hn rfl (fun _ _ _ => ?_); refine goes_oper_k rfl rfl (by k_ne) (fun K hK => ?_); go_simp; refine hK _ _ ⟨?_, ?_⟩; (u_none; intro e he; have hm := mem_listed he; simp [go_sem, *] at hm); clear hK K; try walk_nrm
    refine T.goes1 hn rfl (fun _ _ _ => ?_); refine goes_oper_k rfl rfl (by k_ne) (fun K hK => ?_); go_simp; refine hK _ _ ⟨?_, ?_⟩; (u_none; intro e he; have hm := mem_listed he; simp [go_sem, *] at hm); clear hK K; try walk_nrm
    refine T.goes1 hn rfl (fun _ _ _ => ?_); refine goes_oper_k rfl rfl (by k_ne) (fun K hK => ?_); go_simp; refine hK _ _ ⟨?_, ?_⟩; (u_none; intro e he; have hm := mem_listed he; simp [go_sem, *] at hm); clear hK K; try walk_nrm
    refine T.goes1 hn rfl (fun _ _ _ => ?_); refine goes_oper_k rfl rfl (by k_ne) (fun K hK => ?_); go_simp; refine hK _ _ ⟨?_, ?_⟩; (u_none; intro e he; have hm := mem_listed he; simp [go_sem, *] at hm); clear hK K; try walk_nrm
    refine T.goes1 hn rfl (fun _ _ _ => ?_); refine goes_oper_k rfl rfl (by k_ne) (fun K hK => ?_); go_simp; refine hK _ _ ⟨?_, ?_⟩; (u_none; intro e he; have hm := mem_listed he; simp [go_sem, *] at hm); clear hK K; try walk_nrm
    refine T.quiet hn rfl rfl (by k_ne) (fun w₁ hF hL K hK => ?_); have fc := (hF.cell _ (.inr (.inr (.inl rfl)))).1.trans (vb); go_simp; refine hK _ ?_ ?_; (intro e he; simp [go_sem, *] at he; subst he; exact EvOk.rd false (.inr (.inl rfl))); clear hK K fc; try walk_nrm
    refine T.goes1 hn rfl (fun _ _ _ => ?_); refine goes_oper_k rfl rfl (by k_ne) (fun K hK => ?_); go_simp; refine hK _ _ ⟨?_, ?_⟩; (u_none; intro e he; have hm := mem_listed he; simp [go_sem, *] at hm); clear hK K; try walk_nrm
    refine T.goes1 hn rfl (fun _ _ _ => ?_); refine goes_oper_k rfl rfl (by k_ne) (fun K hK => ?_); go_simp; refine hK _ _ ⟨?_, ?_⟩; (u_none; intro e he; have hm := mem_listed he; simp [go_sem, *] at hm); clear hK K; try walk_nrm
    refine T.goes1 hn rfl (fun _ _ _ => ?_); refine goes_oper_k rfl rfl (by k_ne) (fun K hK => ?_); go_simp; refine hK _ _ ⟨?_, ?_⟩; (u_none; intro e he; have hm := mem_listed he; simp [go_sem, *] at hm); clear hK K; try walk_nrm
    refine T.quiet hn rfl rfl (by k_ne) (fun w₁ hF hL K hK => ?_); have fc := (hF.cell _ (.inr (.inr (.inl rfl)))).1.trans (vb); go_simp; refine hK _ ?_ ?_; (intro e he; simp [go_sem, *] at he; subst he; exact EvOk.rd false (.inr (.inl rfl))); clear hK K fc; try walk_nrm
    refine T.goes1 hn rfl (fun _ _ _ => ?_); refine goes_oper_k rfl rfl (by k_ne) (fun K hK => ?_); go_simp; refine hK _ _ ⟨?_, ?_⟩; (u_none; intro e he; have hm := mem_listed he; simp [go_sem, *] at hm); clear hK K; try walk_nrm
    refine T.goes1 hn rfl (fun _ _ _ => ?_); refine goes_oper_k rfl rfl (by k_ne) (fun K hK => ?_); go_simp; refine hK _ _ ⟨?_, ?_⟩; (u_none; intro e he; have hm := mem_listed he; simp [go_sem, *] at hm); clear hK K; try walk_nrm
    refine T.goes1 hn rfl (fun _ _ _ => ?_); refine goes_oper_k rfl rfl (by k_ne) (fun K hK => ?_); go_simp; refine hK _ _ ⟨?_, ?_⟩; (u_none; intro e he; have hm := mem_listed he; simp [go_sem, *] at hm); clear hK K; try walk_nrm
    refine T.goes1 hn rfl (fun _ _ _ => ?_); refine goes_oper_k rfl rfl (by k_ne) (fun K hK => ?_); go_simp; refine hK _ _ ⟨?_, ?_⟩; (u_none; intro e he; have hm := mem_listed he; simp [go_sem, *] at hm); clear hK K; try walk_nrm
    refine T.goes1 hn rfl (fun _ _ _ => ?_); refine goes_oper_k rfl rfl (by k_ne) (fun K hK => ?_); go_simp; refine hK _ _ ⟨?_, ?_⟩; (u_none; intro e he; have hm := mem_listed he; simp [go_sem, *] at hm); clear hK K; try walk_nrm
    refine T.goes1 hn rfl (fun _ _ _ => ?_); refine goes_oper_k rfl rfl (by k_ne) (fun K hK => ?_); go_simp; refine hK _ _ ⟨?_, ?_⟩; (u_none; intro e he; have hm := mem_listed he; simp [go_sem, *] at hm); clear hK K; try walk_nrm
    refine T.goes1 hn rfl (fun _ _ _ => ?_); refine goes_oper_k rfl rfl (by k_ne) (fun K hK => ?_); go_simp; refine hK _ _ ⟨?_, ?_⟩; (u_none; intro e he; have hm := mem_listed he; simp [go_sem, *] at hm); clear hK K; try walk_nrm
    refine T.goes1 hn rfl (fun _ _ _ => ?_); refine goes_oper_k rfl rfl (by k_ne) (fun K hK => ?_); go_simp; refine hK _ _ ⟨?_, ?_⟩; (u_none; intro e he; have hm := mem_listed he; simp [go_sem, *] at hm); clear hK K; try walk_nrm
    refine T.goes1 hn rfl (fun _ _ _ => ?_); refine goes_oper_k rfl rfl (by k_ne) (fun K hK => ?_); go_simp; refine hK _ _ ⟨?_, ?_⟩; (u_none; intro e he; have hm := mem_listed he; simp [go_sem, *] at hm); clear hK K; try walk_nrm
    refine T.goes1 hn rfl (fun _ _ _ => ?_); refine goes_oper_k rfl rfl (by k_ne) (fun K hK => ?_); go_simp; refine hK _ _ ⟨?_, ?_⟩; (u_none; intro e he; have hm := mem_listed he; simp [go_sem, *] at hm); clear hK K; try walk_nrm
    refine T.goes1 hn rfl (fun _ _ _ => ?_); refine goes_oper_k rfl rfl (by k_ne) (fun K hK => ?_); go_simp; refine hK _ _ ⟨?_, ?_⟩; (u_none; intro e he; have hm := mem_listed he; simp [go_sem, *] at hm); clear hK K; try walk_nrm
    refine T.quiet hn rfl rfl (by k_ne) (fun w₁ hF hL K hK => ?_); have fc := (hF.cell _ (.inr (.inr (.inr rfl)))).1.trans (vm); go_simp; refine hK _ ?_ ?_; (intro e he; simp [go_sem, *] at he; subst he; exact EvOk.rd false (.inr (.inr rfl))); clear hK K fc; try walk_nrm
    refine T.goes1 hn rfl (fun _ _ _ => ?_); refine goes_oper_k rfl rfl (by k_ne) (fun K hK => ?_); go_simp; refine hK _ _ ⟨?_, ?_⟩; (u_none; intro e he; have hm := mem_listed he; simp [go_sem, *] at hm); clear hK K; try walk_nrm
    refine T.goes1 hn rfl (fun _ _ _ => ?_); refine goes_oper_k rfl rfl (by k_ne) (fun K hK => ?_); go_simp; refine hK _ _ ⟨?_, ?_⟩; (u_none; intro e he; have hm := mem_listed he; simp [go_sem, *] at hm); clear hK K; try walk_nrm
    refine T.goes1 hn rfl (fun _ _ _ => ?_); refine goes_oper_k rfl rfl (by k_ne) (fun K hK => ?_); go_simp; refine hK _ _ ⟨?_, ?_⟩; (u_none; intro e he; have hm := mem_listed he; simp [go_sem, *] at hm); clear hK K; try walk_nrm
    refine T.quiet hn rfl rfl (by k_ne) (fun w₁ hF hL K hK => ?_); have fc := (hF.cell _ (.inr (.inr (.inr rfl)))).1.trans (vm); go_simp; refine hK _ ?_ ?_; (intro e he; simp [go_sem, *] at he; subst he; exact EvOk.rd false (.inr (.inr rfl))); clear hK K fc; try walk_nrm
    refine T.goes1 hn rfl (fun _ _ _ => ?_); refine goes_oper_k rfl rfl (by k_ne) (fun K hK => ?_); go_simp; refine hK _ _ ⟨?_, ?_⟩; (u_none; intro e he; have hm := mem_listed he; simp [go_sem, *] at hm); clear hK K; try walk_nrm
    refine T.goes1 hn rfl (fun _ _ _ => ?_); refine goes_oper_k rfl rfl (by k_ne) (fun K hK => ?_); go_simp; refine hK _ _ ⟨?_, ?_⟩; (u_none; intro e he; have hm := mem_listed he; simp [go_sem, *] at hm); clear hK K; try walk_nrm
    refine T.goes1 hn rfl (fun _ _ _ => ?_); rw [stepG_region_end]; simp only [goes_go]; refine ⟨by u_nil, ?_⟩
    refine T.goes1 hn rfl (fun _ _ _ => ?_); rw [stepG_cond (t := true) rfl]; simp only [goes_go, if_true, if_false, Bool.false_eq_true, ↓reduceIte]; refine ⟨by u_nil, ?_⟩
    refine T.goes1 hn rfl (fun _ _ _ => ?_); rw [stepG_seq]; simp only [goes_go]; refine ⟨by u_nil, ?_⟩
    refine T.goes1 hn rfl (fun _ _ _ => ?_); rw [stepG_region]; simp only [goes_go, List.size_toArray, List.length_cons, List.length_nil, Nat.reduceAdd, Nat.zero_add, List.range, List.range.loop]; refine ⟨by u_nil, ?_⟩
    refine T.goes1 hn rfl (fun _ _ _ => ?_); refine goes_oper_k rfl rfl (by k_ne) (fun K hK => ?_); go_simp; refine hK _ _ ⟨?_, ?_⟩; (u_none; intro e he; have hm := mem_listed he; simp [go_sem, *] at hm); clear hK K; try walk_nrm
    refine T.goes1 hn rfl (fun _ _ _ => ?_); rw [stepG_region_end]; simp only [goes_go]; refine ⟨by u_nil, ?_⟩
    refine T.goes1 hn rfl (fun _ _ _ => ?_); rw [stepG_ret']; simp only [goes_go]; refine ⟨by u_nil, ?_⟩
    refine T.le (m := 1) (by omega) (T.done rfl rfl rfl Try.func5 rfl (by kernel_rfl) (fun w1 => rfl))
  obtain ⟨a', rfl⟩ : ∃ k : Nat, a = (k : Int) := ⟨a.toNat, by omega⟩
  obtain ⟨b', rfl⟩ : ∃ k : Nat, b = (k : Int) := ⟨b.toNat, by omega⟩
  obtain ⟨n', rfl⟩ : ∃ k : Nat, n = (k : Int) := ⟨n.toNat, by omega⟩
  obtain ⟨m', rfl⟩ : ∃ k : Nat, m = (k : Int) := ⟨m.toNat, by omega⟩
  simp only [Int.toNat_natCast] at hF0
  have hn4 : n' ≤ 4096 := by omega
  have hm4 : m' ≤ 4096 := by omega
  have e0 : ¬ ((a' : Int) < 1) := by omega
  have e1 : ¬ ((8 : Int) < (a' : Int)) := by omega
  have e2 : ¬ ((b' : Int) < 1) := by omega
  have e3 : ¬ ((8 : Int) < (b' : Int)) := by omega
  have e4 : ¬ ((n' : Int) < 0) := by omega
  have e5 : ¬ ((20 : Int) < (n' : Int)) := by omega
  have e6 : ¬ ((m' : Int) < 0) := by omega
  have e7 : ¬ ((20 : Int) < (m' : Int)) := by omega
  refine T.goes1 hn rfl (fun _ _ _ => ?_); refine goes_oper_k rfl rfl (by k_ne) (fun K hK => ?_); go_simp; refine hK _ _ ⟨?_, ?_⟩; (u_none; intro e he; have hm := mem_listed he; simp [go_sem, *] at hm); clear hK K; try walk_nrm
  refine T.goes1 hn rfl (fun _ _ _ => ?_); refine goes_oper_k rfl rfl (by k_ne) (fun K hK => ?_); go_simp; refine hK _ _ ⟨?_, ?_⟩; (u_none; intro e he; have hm := mem_listed he; simp [go_sem, *] at hm); clear hK K; try walk_nrm
  refine T.goes1 hn rfl (fun _ _ _ => ?_); refine goes_oper_k rfl rfl (by k_ne) (fun K hK => ?_); go_simp; refine hK _ _ ⟨?_, ?_⟩; (u_none; intro e he; have hm := mem_listed he; simp [go_sem, *] at hm); clear hK K; try walk_nrm
  refine T.goes1 hn rfl (fun _ _ _ => ?_); refine goes_oper_k rfl rfl (by k_ne) (fun K hK => ?_); go_simp; refine hK _ _ ⟨?_, ?_⟩; (u_none; intro e he; have hm := mem_listed he; simp [go_sem, *] at hm); clear hK K; try walk_nrm
  refine T.goes1 hn rfl (fun _ _ _ => ?_); refine goes_oper_k rfl rfl (by k_ne) (fun K hK => ?_); go_simp; refine hK _ _ ⟨?_, ?_⟩; (u_none; intro e he; have hm := mem_listed he; simp [go_sem, *] at hm); clear hK K; try walk_nrm
  refine T.goes1 hn rfl (fun _ _ _ => ?_); refine goes_oper_k rfl rfl (by k_ne) (fun K hK => ?_); go_simp; refine hK _ _ ⟨?_, ?_⟩; (u_none; intro e he; have hm := mem_listed he; simp [go_sem, *] at hm); clear hK K; try walk_nrm
  refine T.goes1 hn rfl (fun _ _ _ => ?_); refine goes_oper_k rfl rfl (by k_ne) (fun K hK => ?_); go_simp; refine hK _ _ ⟨?_, ?_⟩; (u_none; intro e he; have hm := mem_listed he; simp [go_sem, *] at hm); clear hK K; try walk_nrm
  refine T.quiet hn rfl rfl (by k_ne) (fun w₁ hF hL K hK => ?_); have fc := (hF.cell _ (.inr (.inr (.inl rfl)))).1.trans (vb); go_simp; refine hK _ ?_ ?_; (intro e he; simp [go_sem, *] at he; subst he; exact EvOk.rd false (.inr (.inl rfl))); clear hK K fc; try walk_nrm
  refine T.goes1 hn rfl (fun _ _ _ => ?_); refine goes_oper_k rfl rfl (by k_ne) (fun K hK => ?_); go_simp; refine hK _ _ ⟨?_, ?_⟩; (u_none; intro e he; have hm := mem_listed he; simp [go_sem, *] at hm); clear hK K; try walk_nrm
  refine T.goes1 hn rfl (fun _ _ _ => ?_); refine goes_oper_k rfl rfl (by k_ne) (fun K hK => ?_); go_simp; refine hK _ _ ⟨?_, ?_⟩; (u_none; intro e he; have hm := mem_listed he; simp [go_sem, *] at hm); clear hK K; try walk_nrm
  refine T.goes1 hn rfl (fun _ _ _ => ?_); refine goes_oper_k rfl rfl (by k_ne) (fun K hK => ?_); go_simp; refine hK _ _ ⟨?_, ?_⟩; (u_none; intro e he; have hm := mem_listed he; simp [go_sem, *] at hm); clear hK K; try walk_nrm
  refine T.quiet hn rfl rfl (by k_ne) (fun w₁ hF hL K hK => ?_); have fc := (hF.cell _ (.inr (.inr (.inl rfl)))).1.trans (vb); go_simp; refine hK _ ?_ ?_; (intro e he; simp [go_sem, *] at he; subst he; exact EvOk.rd false (.inr (.inl rfl))); clear hK K fc; try walk_nrm
  refine T.goes1 hn rfl (fun _ _ _ => ?_); refine goes_oper_k rfl rfl (by k_ne) (fun K hK => ?_); go_simp; refine hK _ _ ⟨?_, ?_⟩; (u_none; intro e he; have hm := mem_listed he; simp [go_sem, *] at hm); clear hK K; try walk_nrm
  refine T.goes1 hn rfl (fun _ _ _ => ?_); refine goes_oper_k rfl rfl (by k_ne) (fun K hK => ?_); go_simp; refine hK _ _ ⟨?_, ?_⟩; (u_none; intro e he; have hm := mem_listed he; simp [go_sem, *] at hm); clear hK K; try walk_nrm
  refine T.goes1 hn rfl (fun _ _ _ => ?_); refine goes_oper_k rfl rfl (by k_ne) (fun K hK => ?_); go_simp; refine hK _ _ ⟨?_, ?_⟩; (u_none; intro e he; have hm := mem_listed he; simp [go_sem, *] at hm); clear hK K; try walk_nrm
  refine T.goes1 hn rfl (fun _ _ _ => ?_); refine goes_oper_k rfl rfl (by k_ne) (fun K hK => ?_); go_simp; refine hK _ _ ⟨?_, ?_⟩; (u_none; intro e he; have hm := mem_listed he; simp [go_sem, *] at hm); clear hK K; try walk_nrm
  refine T.goes1 hn rfl (fun _ _ _ => ?_); refine goes_oper_k rfl rfl (by k_ne) (fun K hK => ?_); go_simp; refine hK _ _ ⟨?_, ?_⟩; (u_none; intro e he; have hm := mem_listed he; simp [go_sem, *] at hm); clear hK K; try walk_nrm
  refine T.goes1 hn rfl (fun _ _ _ => ?_); refine goes_oper_k rfl rfl (by k_ne) (fun K hK => ?_); go_simp; refine hK _ _ ⟨?_, ?_⟩; (u_none; intro e he; have hm := mem_listed he; simp [go_sem, *] at hm); clear hK K; try walk_nrm
  refine T.goes1 hn rfl (fun _ _ _ => ?_); refine goes_oper_k rfl rfl (by k_ne) (fun K hK => ?_); go_simp; refine hK _ _ ⟨?_, ?_⟩; (u_none; intro e he; have hm := mem_listed he; simp [go_sem, *] at hm); clear hK K; try walk_nrm
  refine T.goes1 hn rfl (fun _ _ _ => ?_); refine goes_oper_k rfl rfl (by k_ne) (fun K hK => ?_); go_simp; refine hK _ _ ⟨?_, ?_⟩; (u_none; intro e he; have hm := mem_listed he; simp [go_sem, *] at hm); clear hK K; try walk_nrm
  refine T.goes1 hn rfl (fun _ _ _ => ?_); refine goes_oper_k rfl rfl (by k_ne) (fun K hK => ?_); go_simp; refine hK _ _ ⟨?_, ?_⟩; (u_none; intro e he; have hm := mem_listed he; simp [go_sem, *] at hm); clear hK K; try walk_nrm
  refine T.goes1 hn rfl (fun _ _ _ => ?_); refine goes_oper_k rfl rfl (by k_ne) (fun K hK => ?_); go_simp; refine hK _ _ ⟨?_, ?_⟩; (u_none; intro e he; have hm := mem_listed he; simp [go_sem, *] at hm); clear hK K; try walk_nrm
  refine T.goes1 hn rfl (fun _ _ _ => ?_); refine goes_oper_k rfl rfl (by k_ne) (fun K hK => ?_); go_simp; refine hK _ _ ⟨?_, ?_⟩; (u_none; intro e he; have hm := mem_listed he; simp [go_sem, *] at hm); clear hK K; try walk_nrm
  refine T.quiet hn rfl rfl (by k_ne) (fun w₁ hF hL K hK => ?_); have fc := (hF.cell _ (.inr (.inr (.inr rfl)))).1.trans (vm); go_simp; refine hK _ ?_ ?_; (intro e he; simp [go_sem, *] at he; subst he; exact EvOk.rd false (.inr (.inr rfl))); clear hK K fc; try walk_nrm
  refine T.goes1 hn rfl (fun _ _ _ => ?_); refine goes_oper_k rfl rfl (by k_ne) (fun K hK => ?_); go_simp; refine hK _ _ ⟨?_, ?_⟩; (u_none; intro e he; have hm := mem_listed he; simp [go_sem, *] at hm); clear hK K; try walk_nrm
  refine T.goes1 hn rfl (fun _ _ _ => ?_); refine goes_oper_k rfl rfl (by k_ne) (fun K hK => ?_); go_simp; refine hK _ _ ⟨?_, ?_⟩; (u_none; intro e he; have hm := mem_listed he; simp [go_sem, *] at hm); clear hK K; try walk_nrm
  refine T.goes1 hn rfl (fun _ _ _ => ?_); refine goes_oper_k rfl rfl (by k_ne) (fun K hK => ?_); go_simp; refine hK _ _ ⟨?_, ?_⟩; (u_none; intro e he; have hm := mem_listed he; simp [go_sem, *] at hm); clear hK K; try walk_nrm
  refine T.quiet hn rfl rfl (by k_ne) (fun w₁ hF hL K hK => ?_); have fc := (hF.cell _ (.inr (.inr (.inr rfl)))).1.trans (vm); go_simp; refine hK _ ?_ ?_; (intro e he; simp [go_sem, *] at he; subst he; exact EvOk.rd false (.inr (.inr rfl))); clear hK K fc; try walk_nrm
  refine T.goes1 hn rfl (fun _ _ _ => ?_); refine goes_oper_k rfl rfl (by k_ne) (fun K hK => ?_); go_simp; refine hK _ _ ⟨?_, ?_⟩; (u_none; intro e he; have hm := mem_listed he; simp [go_sem, *] at hm); clear hK K; try walk_nrm
  refine T.goes1 hn rfl (fun _ _ _ => ?_); refine goes_oper_k rfl rfl (by k_ne) (fun K hK => ?_); go_simp; refine hK _ _ ⟨?_, ?_⟩; (u_none; intro e he; have hm := mem_listed he; simp [go_sem, *] at hm); clear hK K; try walk_nrm
  refine T.goes1 hn rfl (fun _ _ _ => ?_); rw [stepG_region_end]; simp only [goes_go]; refine ⟨by u_nil, ?_⟩
  refine T.goes1 hn rfl (fun _ _ _ => ?_); rw [stepG_cond (t := false) rfl]; simp only [goes_go, if_true, if_false, Bool.false_eq_true, ↓reduceIte]; refine ⟨by u_nil, ?_⟩
  refine T.goes1 hn rfl (fun _ _ _ => ?_); rw [stepG_skip]; simp only [goes_go]; refine ⟨by u_nil, ?_⟩
  refine T.goes1 hn rfl (fun _ _ _ => ?_); rw [stepG_seq]; simp only [goes_go]; refine ⟨by u_nil, ?_⟩
  refine T.goes1 hn rfl (fun _ _ _ => ?_); rw [stepG_region]; simp only [goes_go, List.size_toArray, List.length_cons, List.length_nil, Nat.reduceAdd, Nat.zero_add, List.range, List.range.loop]; refine ⟨by u_nil, ?_⟩
  refine T.goes1 hn rfl (fun _ _ _ => ?_); refine goes_oper_k rfl rfl (by k_ne) (fun K hK => ?_); go_simp; refine hK _ _ ⟨?_, ?_⟩; (u_none; intro e he; have hm := mem_listed he; simp [go_sem, *] at hm); clear hK K; try walk_nrm
  refine T.goes1 hn rfl (fun _ _ _ => ?_); refine goes_oper_k rfl rfl (by k_ne) (fun K hK => ?_); go_simp; refine hK _ _ ⟨?_, ?_⟩; (u_none; intro e he; have hm := mem_listed he; simp [go_sem, *] at hm); clear hK K; try walk_nrm
  refine T.val hn (.func (.func 17) #[] #[.pointer (some ⟨Nb, 0, none⟩), .pointer (some ⟨Nm, 0, none⟩)]) rfl rfl (by k_ne) (fun w1 _ => ⟨by unfold execOp; simp [go_sem, run_mkf], fun e he => by simp [go_sem, events_mkf] at he⟩) ?_
  walk_nrm
  refine T.goes1 hn rfl (fun _ _ _ => ?_); refine goes_call rfl rfl (by k_ne) rfl Try.func16 (by kernel_rfl) rfl ⟨by u_nil, ?_⟩; walk_nrmf Try.f16
  have hall := @allInts PT 17 #[.pointer (some ⟨Nb, 0, none⟩), .pointer (some ⟨Nm, 0, none⟩)] [(⟨Nb, 0, none⟩, .int .i64 (b' : Int)), (⟨Nm, 0, none⟩, .int .i64 (m' : Int))] (Vrow m') (400 * (M + 4) + (40 + 300) * (m' + 1) + 9200) (out_task (B := 0) hM1 hM2 (by omega) (by omega) hm4) ⟨Try.f17, _, Try.func17, by kernel_rfl, rfl⟩ (fun j X v w h => by obtain ⟨R, h1, _⟩ := h; exact ⟨_, _, _, h1⟩) (vrow_stable m') (vrow_mono m') true (⟨none3, none3, zA Nb Nm, none, none, 0⟩ : Cx) w hn hbw rfl rfl (fun κ ms lb J h => by cases h) (fun p hp => by
      simp only [List.mem_cons, List.not_mem_nil, or_false] at hp
      rcases hp with rfl | rfl
      · exact ⟨.inl rfl, vb⟩
      · exact ⟨.inr rfl, vm⟩) a' n' M ((60 * m' + 200) * n' + 500) hM1 hM2 (by omega) (by omega) hn4
  simp only [Try.f16, Option.getD_some] at hall
  refine T.le (m := ((60 * m' + 200) * n' + 500) + 400 * (M + 4) + (400 * (M + 4) + (40 + 300) * (m' + 1) + 9200 + 300) * (n' + 1) + 9000) (by omega) (hall (fun w10 X R r10 hR hXb hXn hD => ?_))
  clear hall hF0
  have hn7 : Cx.Neat (⟨X, none3, zA Nb Nm, none, none, 0⟩ : Cx) := ⟨fun x hx hu => hu.elim, fun x hz => ⟨fun hx => (hXn x hx).2.2 hz, fun h => h⟩⟩
  have hls : Less { (⟨none3, none3, zA Nb Nm, none, none, 0⟩ : Cx) with O := fun a => (⟨none3, none3, zA Nb Nm, none, none, 0⟩ : Cx).O a ∨ X a } (⟨X, none3, zA Nb Nm, none, none, 0⟩ : Cx) := ⟨fun x h => h.elim (fun h => .inl (.inr h)) .inr, fun x h => h, hn7.ou, hn7.oz, fun x h => .inl h, rfl, rfl, rfl, fun κ ms lb J h => by cases h⟩
  have vm' : w10.cell? ⟨Nm, 0, none⟩ = some (.int .i64 (m' : Int)) := (r10.cell _ (.inr (.inr (.inr rfl)))).1.trans vm
  have hv : ∀ i, i < n' → X ⟨R, i, none⟩ ∧ ∃ R' : Nat, w10.cell? ⟨R, i, none⟩ = some (.slice (some ⟨R', 0, none⟩) m' m') ∧ ∀ k, k < m' → X ⟨R', k, none⟩ ∧ w10.cell? ⟨R', k, none⟩ = some (.int .i64 (val i k)) := fun i hi => by
    obtain ⟨Y, y1, y2, v, y3, R', y4, y5⟩ := hD i hi
    exact ⟨y1 _ y2, R', by rw [← y4]; exact y3, fun k hk => ⟨y1 _ (y5 k hk).1, (y5 k hk).2⟩⟩
  have hout := @outer_loop a' b' n' m' Nb Nm R X w10 hn7 hn4 hm4 vm' hv n' 0 (by omega)
  simp only [la5, lb5, q5, o11, opsOf, Try.f5, loopOf, rest4b, Option.getD_some, Option.none_or, Option.some_or, Option.or_none, reduceIte, Nat.reduceEqDiff] at hout
  clear hv hD vm vm' vb
  obtain ⟨f0, hf0⟩ : ∃ f0, f0 = (60 * m' + 200) * n' + 40 := ⟨_, rfl⟩
  rw [← hf0] at hout
  refine T.le (m := f0 + 400) (by omega) ?_
  walk_nrm
  refine T.turn hls rfl (fun _ _ _ => ?_); refine goes_oper_k rfl rfl (by k_ne) (fun K hK => ?_); go_simp; refine hK _ _ ⟨?_, ?_⟩; (u_none; intro e he; have hm := mem_listed he; simp [go_sem, *] at hm); clear hK K; try walk_nrm
  replace hn := hn7
  refine T.goes1 hn rfl (fun _ _ _ => ?_); refine goes_oper_k rfl rfl (by k_ne) (fun K hK => ?_); go_simp; refine hK _ _ ⟨?_, ?_⟩; (u_none; intro e he; have hm := mem_listed he; simp [go_sem, *] at hm); clear hK K; try walk_nrm
  refine T.goes1 hn rfl (fun _ _ _ => ?_); refine goes_oper_k rfl rfl (by k_ne) (fun K hK => ?_); go_simp; refine hK _ _ ⟨?_, ?_⟩; (u_none; intro e he; have hm := mem_listed he; simp [go_sem, *] at hm); clear hK K; try walk_nrm
  refine T.goes1 hn rfl (fun _ _ _ => ?_); refine goes_oper_k rfl rfl (by k_ne) (fun K hK => ?_); go_simp; refine hK _ _ ⟨?_, ?_⟩; (u_none; intro e he; have hm := mem_listed he; simp [go_sem, *] at hm); clear hK K; try walk_nrm
  refine T.goes1 hn rfl (fun _ _ _ => ?_); refine goes_oper_k rfl rfl (by k_ne) (fun K hK => ?_); go_simp; refine hK _ _ ⟨?_, ?_⟩; (u_none; intro e he; have hm := mem_listed he; simp [go_sem, *] at hm); clear hK K; try walk_nrm
  refine T.goes1 hn rfl (fun _ _ _ => ?_); rw [stepG_region_end]; simp only [goes_go]; refine ⟨by u_nil, ?_⟩
  refine T.goes1 hn rfl (fun _ _ _ => ?_); rw [stepG_seq]; simp only [goes_go]; refine ⟨by u_nil, ?_⟩
  refine T.goes1 hn rfl (fun _ _ _ => ?_); rw [stepG_seq]; simp only [goes_go]; refine ⟨by u_nil, ?_⟩
  refine T.goes1 hn rfl (fun _ _ _ => ?_); rw [stepG_region]; simp only [goes_go, List.size_toArray, List.length_cons, List.length_nil, Nat.reduceAdd, Nat.zero_add, List.range, List.range.loop]; refine ⟨by u_nil, ?_⟩
  refine T.goes1 hn rfl (fun _ _ _ => ?_); refine goes_oper_k rfl rfl (by k_ne) (fun K hK => ?_); go_simp; refine hK _ _ ⟨?_, ?_⟩; (u_none; intro e he; have hm := mem_listed he; simp [go_sem, *] at hm); clear hK K; try walk_nrm
  refine T.goes1 hn rfl (fun _ _ _ => ?_); refine goes_oper_k rfl rfl (by k_ne) (fun K hK => ?_); go_simp; refine hK _ _ ⟨?_, ?_⟩; (u_none; intro e he; have hm := mem_listed he; simp [go_sem, *] at hm); clear hK K; try walk_nrm
  refine T.goes1 hn rfl (fun _ _ _ => ?_); refine goes_oper_k rfl rfl (by k_ne) (fun K hK => ?_); go_simp; refine hK _ _ ⟨?_, ?_⟩; (u_none; intro e he; have hm := mem_listed he; simp [go_sem, *] at hm); clear hK K; try walk_nrm
  refine T.goes1 hn rfl (fun _ _ _ => ?_); refine goes_oper_k rfl rfl (by k_ne) (fun K hK => ?_); go_simp; refine hK _ _ ⟨?_, ?_⟩; (u_none; intro e he; have hm := mem_listed he; simp [go_sem, *] at hm); clear hK K; try walk_nrm
  refine T.goes1 hn rfl (fun _ _ _ => ?_); refine goes_oper_k rfl rfl (by k_ne) (fun K hK => ?_); go_simp; refine hK _ _ ⟨?_, ?_⟩; (u_none; intro e he; have hm := mem_listed he; simp [go_sem, *] at hm); clear hK K; try walk_nrm
  refine T.goes1 hn rfl (fun _ _ _ => ?_); refine goes_oper_k rfl rfl (by k_ne) (fun K hK => ?_); go_simp; refine hK _ _ ⟨?_, ?_⟩; (u_none; intro e he; have hm := mem_listed he; simp [go_sem, *] at hm); clear hK K; try walk_nrm
  refine T.goes1 hn rfl (fun _ _ _ => ?_); refine goes_oper_k rfl rfl (by k_ne) (fun K hK => ?_); go_simp; refine hK _ _ ⟨?_, ?_⟩; (u_none; intro e he; have hm := mem_listed he; simp [go_sem, *] at hm); clear hK K; try walk_nrm
  refine T.goes1 hn rfl (fun _ _ _ => ?_); refine goes_oper_k rfl rfl (by k_ne) (fun K hK => ?_); go_simp; refine hK _ _ ⟨?_, ?_⟩; (u_none; intro e he; have hm := mem_listed he; simp [go_sem, *] at hm); clear hK K; try walk_nrm
  refine T.goes1 hn rfl (fun _ _ _ => ?_); rw [stepG_region_end]; simp only [goes_go]; refine ⟨by u_nil, ?_⟩
  refine T.goes1 hn rfl (fun _ _ _ => ?_); rw [stepG_cond (t := false) rfl]; simp only [goes_go, if_true, if_false, Bool.false_eq_true, ↓reduceIte]; refine ⟨by u_nil, ?_⟩
  refine T.goes1 hn rfl (fun _ _ _ => ?_); rw [stepG_skip]; simp only [goes_go]; refine ⟨by u_nil, ?_⟩
  refine T.goes1 hn rfl (fun _ _ _ => ?_); rw [stepG_seq]; simp only [goes_go]; refine ⟨by u_nil, ?_⟩
  refine T.goes1 hn rfl (fun _ _ _ => ?_); rw [stepG_seq]; simp only [goes_go]; refine ⟨by u_nil, ?_⟩
  refine T.goes1 hn rfl (fun _ _ _ => ?_); rw [stepG_region]; simp only [goes_go, List.size_toArray, List.length_cons, List.length_nil, Nat.reduceAdd, Nat.zero_add, List.range, List.range.loop]; refine ⟨by u_nil, ?_⟩
  refine T.goes1 hn rfl (fun _ _ _ => ?_); refine goes_oper_k rfl rfl (by k_ne) (fun K hK => ?_); go_simp; refine hK _ _ ⟨?_, ?_⟩; (u_none; intro e he; have hm := mem_listed he; simp [go_sem, *] at hm); clear hK K; try walk_nrm
  refine T.goes1 hn rfl (fun _ _ _ => ?_); rw [stepG_region_end]; simp only [goes_go]; refine ⟨by u_nil, ?_⟩
  refine T.goes1 hn rfl (fun _ _ _ => ?_); rw [stepG_block]; simp only [goes_go]; refine ⟨by u_nil, ?_⟩
  refine T.goes1 hn rfl (fun _ _ _ => ?_); rw [stepG_loop]; simp only [goes_go]; refine ⟨by u_nil, ?_⟩
  exact T.le (by omega) hout
end Go.Proofs.Ytidadgibhmiojaa
