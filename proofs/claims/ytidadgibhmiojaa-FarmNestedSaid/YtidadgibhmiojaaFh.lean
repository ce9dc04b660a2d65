/- sync.Once, by one that is alone. -/
import Derived.Test.YtidadgibhmiojaaGla
import Derived.Test.YtidadgibhmiojaaFg
set_option linter.unusedSimpArgs false
set_option linter.unusedVariables false
namespace Go.Proofs.Ytidadgibhmiojaa
open Go.Conc Go.RowKit Go.Conc.Lib Go.ConcR.Gen Go.ConcN.Gen Go.Farm
open Go.ConcR (DC0)
variable {Post : Value → World → Prop}
set_option maxRecDepth 100000 in
set_option maxHeartbeats 4000000 in
theorem load0_walk {bb : Bool} {c : Cx} {w : World} {mT : Nat} {B i : Nat} {b₀ : Frame} {a₀ : Go.Act} {ops₀ : Array Oper} {i₀ : Nat} {rest₀ : List Nat} {k₀ : List Item} {cs : List Frame} (hn : c.Neat) (hA : c.O ⟨B, i, none⟩) (hc : w.cell? ⟨B, i, none⟩ = some (.int .u32 0))
    (hT : T Try.prog Post mT bb c (G (b₀.at (a₀.put ((ops₀[i₀]?).bind (·.dst)) (.bool false)) (.inRegion ops₀ rest₀ :: k₀)) cs) w) : T Try.prog Post (mT + 30) bb c (G ((base 35).at ⟨#[.pointer (some ⟨B, i, none⟩), undef, undef, undef, undef, undef, undef, undef], []⟩ [.code (Try.f35.body.getD .skip)]) (b₀.at a₀ (.inRegion ops₀ (i₀ :: rest₀) :: k₀) :: cs)) w := by
  simp only [Try.f35, Option.getD_some]
  refine T.goes1 hn rfl (fun _ _ _ => ?_); rw [stepG_seq]; simp only [goes_go]; refine ⟨by u_nil, ?_⟩
  refine T.goes1 hn rfl (fun _ _ _ => ?_); rw [stepG_region]; simp only [goes_go, List.size_toArray, List.length_cons, List.length_nil, Nat.reduceAdd, Nat.zero_add, List.range, List.range.loop]; refine ⟨by u_nil, ?_⟩
  refine T.goes1 hn rfl (fun _ _ _ => ?_); refine goes_oper_k rfl rfl (by k_ne) (fun K hK => ?_); go_simp; refine hK _ _ ⟨?_, ?_⟩; (u_none; intro e he; have hm := mem_listed he; simp [go_sem, *] at hm); clear hK K; try walk_nrm
  refine T.goes1 hn rfl (fun _ _ _ => ?_); rw [stepG_region_end]; simp only [goes_go]; refine ⟨by u_nil, ?_⟩
  refine T.goes1 hn rfl (fun _ _ _ => ?_); rw [stepG_seq]; simp only [goes_go]; refine ⟨by u_nil, ?_⟩
  refine T.goes1 hn rfl (fun _ _ _ => ?_); rw [stepG_region]; simp only [goes_go, List.size_toArray, List.length_cons, List.length_nil, Nat.reduceAdd, Nat.zero_add, List.range, List.range.loop]; refine ⟨by u_nil, ?_⟩
  refine T.goes1 hn rfl (fun _ _ _ => ?_); refine goes_oper_k rfl rfl (by k_ne) (fun K hK => ?_); go_simp; refine hK _ _ ⟨?_, ?_⟩; (u_none; intro e he; have hm := mem_listed he; simp [go_sem, *] at hm); clear hK K; try walk_nrm
  refine T.goes1 hn rfl (fun _ _ _ => ?_); refine goes_oper_k rfl rfl (by k_ne) (fun K hK => ?_); go_simp; refine hK _ _ ⟨?_, ?_⟩; (u_none; intro e he; have hm := mem_listed he; simp [go_sem, *] at hm); clear hK K; try walk_nrm
  refine T.goes1 hn rfl (fun _ _ _ => ?_); refine goes_oper_k rfl rfl (by k_ne) (fun K hK => ?_); go_simp; refine hK _ _ ⟨?_, ?_⟩; (u_none; intro e he; have hm := mem_listed he; simp [go_sem, *] at hm); clear hK K; try walk_nrm
  refine T.ownRead hn (.inl hA) hc rfl (fun w1 h1 => stepG_load_atomic rfl rfl (by k_ne) rfl Try.func57 (by kernel_rfl) (by kernel_rfl) (by kernel_rfl) .u32 (by kernel_rfl) rfl h1) ?_
  walk_nrm
  refine T.goes1 hn rfl (fun _ _ _ => ?_); refine goes_oper_k rfl rfl (by k_ne) (fun K hK => ?_); go_simp; refine hK _ _ ⟨?_, ?_⟩; (u_none; intro e he; have hm := mem_listed he; simp [go_sem, *] at hm); clear hK K; try walk_nrm
  refine T.goes1 hn rfl (fun _ _ _ => ?_); refine goes_oper_k rfl rfl (by k_ne) (fun K hK => ?_); go_simp; refine hK _ _ ⟨?_, ?_⟩; (u_none; intro e he; have hm := mem_listed he; simp [go_sem, *] at hm); clear hK K; try walk_nrm
  refine T.goes1 hn rfl (fun _ _ _ => ?_); rw [stepG_region_end]; simp only [goes_go]; refine ⟨by u_nil, ?_⟩
  refine T.goes1 hn rfl (fun _ _ _ => ?_); rw [stepG_ret']; simp only [goes_go]; refine ⟨by u_nil, ?_⟩
  refine T.goes1 hn rfl (fun _ _ _ => ?_); refine goes_leave1 rfl rfl Try.func35 rfl ⟨by u_nil, ?_⟩; walk_nrm
  exact T.le (by omega) hT
set_option maxRecDepth 100000 in
set_option maxHeartbeats 4000000 in
theorem load1_walk {bb : Bool} {c : Cx} {w : World} {mT : Nat} {B i : Nat} {b₀ : Frame} {a₀ : Go.Act} {ops₀ : Array Oper} {i₀ : Nat} {rest₀ : List Nat} {k₀ : List Item} {cs : List Frame} (hn : c.Neat) (hA : c.O ⟨B, i, none⟩) (hc : w.cell? ⟨B, i, none⟩ = some (.int .u32 1))
    (hT : T Try.prog Post mT bb c (G (b₀.at (a₀.put ((ops₀[i₀]?).bind (·.dst)) (.bool true)) (.inRegion ops₀ rest₀ :: k₀)) cs) w) : T Try.prog Post (mT + 30) bb c (G ((base 35).at ⟨#[.pointer (some ⟨B, i, none⟩), undef, undef, undef, undef, undef, undef, undef], []⟩ [.code (Try.f35.body.getD .skip)]) (b₀.at a₀ (.inRegion ops₀ (i₀ :: rest₀) :: k₀) :: cs)) w := by
  simp only [Try.f35, Option.getD_some]
  refine T.goes1 hn rfl (fun _ _ _ => ?_); rw [stepG_seq]; simp only [goes_go]; refine ⟨by u_nil, ?_⟩
  refine T.goes1 hn rfl (fun _ _ _ => ?_); rw [stepG_region]; simp only [goes_go, List.size_toArray, List.length_cons, List.length_nil, Nat.reduceAdd, Nat.zero_add, List.range, List.range.loop]; refine ⟨by u_nil, ?_⟩
  refine T.goes1 hn rfl (fun _ _ _ => ?_); refine goes_oper_k rfl rfl (by k_ne) (fun K hK => ?_); go_simp; refine hK _ _ ⟨?_, ?_⟩; (u_none; intro e he; have hm := mem_listed he; simp [go_sem, *] at hm); clear hK K; try walk_nrm
  refine T.goes1 hn rfl (fun _ _ _ => ?_); rw [stepG_region_end]; simp only [goes_go]; refine ⟨by u_nil, ?_⟩
  refine T.goes1 hn rfl (fun _ _ _ => ?_); rw [stepG_seq]; simp only [goes_go]; refine ⟨by u_nil, ?_⟩
  refine T.goes1 hn rfl (fun _ _ _ => ?_); rw [stepG_region]; simp only [goes_go, List.size_toArray, List.length_cons, List.length_nil, Nat.reduceAdd, Nat.zero_add, List.range, List.range.loop]; refine ⟨by u_nil, ?_⟩
  refine T.goes1 hn rfl (fun _ _ _ => ?_); refine goes_oper_k rfl rfl (by k_ne) (fun K hK => ?_); go_simp; refine hK _ _ ⟨?_, ?_⟩; (u_none; intro e he; have hm := mem_listed he; simp [go_sem, *] at hm); clear hK K; try walk_nrm
  refine T.goes1 hn rfl (fun _ _ _ => ?_); refine goes_oper_k rfl rfl (by k_ne) (fun K hK => ?_); go_simp; refine hK _ _ ⟨?_, ?_⟩; (u_none; intro e he; have hm := mem_listed he; simp [go_sem, *] at hm); clear hK K; try walk_nrm
  refine T.goes1 hn rfl (fun _ _ _ => ?_); refine goes_oper_k rfl rfl (by k_ne) (fun K hK => ?_); go_simp; refine hK _ _ ⟨?_, ?_⟩; (u_none; intro e he; have hm := mem_listed he; simp [go_sem, *] at hm); clear hK K; try walk_nrm
  refine T.ownRead hn (.inl hA) hc rfl (fun w1 h1 => stepG_load_atomic rfl rfl (by k_ne) rfl Try.func57 (by kernel_rfl) (by kernel_rfl) (by kernel_rfl) .u32 (by kernel_rfl) rfl h1) ?_
  walk_nrm
  refine T.goes1 hn rfl (fun _ _ _ => ?_); refine goes_oper_k rfl rfl (by k_ne) (fun K hK => ?_); go_simp; refine hK _ _ ⟨?_, ?_⟩; (u_none; intro e he; have hm := mem_listed he; simp [go_sem, *] at hm); clear hK K; try walk_nrm
  refine T.goes1 hn rfl (fun _ _ _ => ?_); refine goes_oper_k rfl rfl (by k_ne) (fun K hK => ?_); go_simp; refine hK _ _ ⟨?_, ?_⟩; (u_none; intro e he; have hm := mem_listed he; simp [go_sem, *] at hm); clear hK K; try walk_nrm
  refine T.goes1 hn rfl (fun _ _ _ => ?_); rw [stepG_region_end]; simp only [goes_go]; refine ⟨by u_nil, ?_⟩
  refine T.goes1 hn rfl (fun _ _ _ => ?_); rw [stepG_ret']; simp only [goes_go]; refine ⟨by u_nil, ?_⟩
  refine T.goes1 hn rfl (fun _ _ _ => ?_); refine goes_leave1 rfl rfl Try.func35 rfl ⟨by u_nil, ?_⟩; walk_nrm
  exact T.le (by omega) hT
set_option maxRecDepth 100000 in
set_option maxHeartbeats 8000000 in
theorem lock_walk {c : Cx} {w : World} {mT : Nat} {B i : Nat} {b₀ : Frame} {a₀ : Go.Act} {ops₀ : Array Oper} {i₀ : Nat} {rest₀ : List Nat} {k₀ : List Item} {cs : List Frame} (hn : c.Neat) (hp : c.par = none) (hm : c.mem = none) (hA : c.O ⟨B, i, none⟩) (hc : w.cell? ⟨B, i, none⟩ = some (.int .i32 0)) (hz : w.frozen? ⟨B, i, none⟩ = false)
    (hT : T Try.prog Post (mT) true (c) (G (b₀.at (a₀.put ((ops₀[i₀]?).bind (·.dst)) (.tuple #[])) (.inRegion ops₀ rest₀ :: k₀)) cs) (w.setCell ⟨B, i, none⟩ (.int .i32 1))) : T Try.prog Post (mT + 60) true (c) (G ((base 58).at ⟨#[.pointer (some ⟨B, i, none⟩), undef, undef, undef, undef, undef], []⟩ [.code (Try.f58.body.getD .skip)]) (b₀.at a₀ (.inRegion ops₀ (i₀ :: rest₀) :: k₀) :: cs)) w := by
  have hn0 := hn
  have hc2 := World.cell?_setCell_same w ⟨B, i, none⟩ (.int .i32 1) hc
  simp only [Try.f58, Option.getD_some]
  refine T.goes1 hn rfl (fun _ _ _ => ?_); rw [stepG_region]; simp only [goes_go, List.size_toArray, List.length_cons, List.length_nil, Nat.reduceAdd, Nat.zero_add, List.range, List.range.loop]; refine ⟨by u_nil, ?_⟩
  refine T.goes1 hn rfl (fun _ _ _ => ?_); refine goes_oper_k rfl rfl (by k_ne) (fun K hK => ?_); go_simp; refine hK _ _ ⟨?_, ?_⟩; (u_none; intro e he; have hm := mem_listed he; simp [go_sem, *] at hm); clear hK K; try walk_nrm
  refine T.goes1 hn rfl (fun _ _ _ => ?_); refine goes_oper_k rfl rfl (by k_ne) (fun K hK => ?_); go_simp; refine hK _ _ ⟨?_, ?_⟩; (u_none; intro e he; have hm := mem_listed he; simp [go_sem, *] at hm); clear hK K; try walk_nrm
  refine T.goes1 hn rfl (fun _ _ _ => ?_); refine goes_oper_k rfl rfl (by k_ne) (fun K hK => ?_); go_simp; refine hK _ _ ⟨?_, ?_⟩; (u_none; intro e he; have hm := mem_listed he; simp [go_sem, *] at hm); clear hK K; try walk_nrm
  refine T.goes1 hn rfl (fun _ _ _ => ?_); refine goes_call rfl rfl (by k_ne) rfl Try.func66 (by kernel_rfl) rfl ⟨by u_nil, ?_⟩; walk_nrmf Try.f66
  refine T.goes1 hn rfl (fun _ _ _ => ?_); rw [stepG_seq]; simp only [goes_go]; refine ⟨by u_nil, ?_⟩
  refine T.goes1 hn rfl (fun _ _ _ => ?_); rw [stepG_region]; simp only [goes_go, List.size_toArray, List.length_cons, List.length_nil, Nat.reduceAdd, Nat.zero_add, List.range, List.range.loop]; refine ⟨by u_nil, ?_⟩
  refine T.mark (mk := .disable) hn hp hm rfl (.inl ⟨rfl, rfl⟩) (fun w1 => stepG_mark0 .disable (by simp) rfl rfl (by k_ne) rfl Try.func39 (by kernel_rfl) (by kernel_rfl) (by kernel_rfl) (by kernel_rfl)) ?_; walk_nrm
  replace hn : Cx.Neat { c with lk := c.lk + 1 } := ⟨hn0.ou, hn0.oz⟩
  refine T.goes1 hn rfl (fun _ _ _ => ?_); rw [stepG_region_end]; simp only [goes_go]; refine ⟨by u_nil, ?_⟩
  refine T.goes1 hn rfl (fun _ _ _ => ?_); rw [stepG_seq]; simp only [goes_go]; refine ⟨by u_nil, ?_⟩
  refine T.goes1 hn rfl (fun _ _ _ => ?_); rw [stepG_seq]; simp only [goes_go]; refine ⟨by u_nil, ?_⟩
  refine T.goes1 hn rfl (fun _ _ _ => ?_); rw [stepG_region]; simp only [goes_go, List.size_toArray, List.length_cons, List.length_nil, Nat.reduceAdd, Nat.zero_add, List.range, List.range.loop]; refine ⟨by u_nil, ?_⟩
  refine T.goes1 hn rfl (fun _ _ _ => ?_); refine goes_oper_k rfl rfl (by k_ne) (fun K hK => ?_); go_simp; refine hK _ _ ⟨?_, ?_⟩; (u_none; intro e he; have hm := mem_listed he; simp [go_sem, *] at hm); clear hK K; try walk_nrm
  refine T.goes1 hn rfl (fun _ _ _ => ?_); refine goes_oper_k rfl rfl (by k_ne) (fun K hK => ?_); go_simp; refine hK _ _ ⟨?_, ?_⟩; (u_none; intro e he; have hm := mem_listed he; simp [go_sem, *] at hm); clear hK K; try walk_nrm
  refine T.goes1 hn rfl (fun _ _ _ => ?_); refine goes_oper_k rfl rfl (by k_ne) (fun K hK => ?_); go_simp; refine hK _ _ ⟨?_, ?_⟩; (u_none; intro e he; have hm := mem_listed he; simp [go_sem, *] at hm); clear hK K; try walk_nrm
  refine T.ownStep hn (A := ⟨B, i, none⟩) (v := .int .i32 1) hA hc hz rfl (fun w1 h1 h2 => (stepG_cas_hit (v := 0) (n := 1) rfl rfl (by k_ne) rfl Try.func70 (by kernel_rfl) (by kernel_rfl) (by kernel_rfl) .i32 (by kernel_rfl) rfl rfl rfl h1 h2)) (fun e he => by simp at he; rcases he with rfl | rfl; exact .inr (.inr rfl); exact .inr (.inl rfl)) ?_
  generalize w.setCell ⟨B, i, none⟩ (.int .i32 1) = w2 at hT hc2 ⊢
  walk_nrm
  refine T.goes1 hn rfl (fun _ _ _ => ?_); rw [stepG_region_end]; simp only [goes_go]; refine ⟨by u_nil, ?_⟩
  refine T.goes1 hn rfl (fun _ _ _ => ?_); rw [stepG_cond (t := true) rfl]; simp only [goes_go, if_true, if_false, Bool.false_eq_true, ↓reduceIte]; refine ⟨by u_nil, ?_⟩
  refine T.goes1 hn rfl (fun _ _ _ => ?_); rw [stepG_seq]; simp only [goes_go]; refine ⟨by u_nil, ?_⟩
  refine T.goes1 hn rfl (fun _ _ _ => ?_); rw [stepG_cond (t := true) rfl]; simp only [goes_go, if_true, if_false, Bool.false_eq_true, ↓reduceIte]; refine ⟨by u_nil, ?_⟩
  refine T.goes1 hn rfl (fun _ _ _ => ?_); rw [stepG_seq]; simp only [goes_go]; refine ⟨by u_nil, ?_⟩
  refine T.goes1 hn rfl (fun _ _ _ => ?_); rw [stepG_region]; simp only [goes_go, List.size_toArray, List.length_cons, List.length_nil, Nat.reduceAdd, Nat.zero_add, List.range, List.range.loop]; refine ⟨by u_nil, ?_⟩
  refine T.mark (mk := .enable) hn hp hm rfl (.inr (.inl ⟨rfl, rfl⟩)) (fun w1 => stepG_mark0 .enable (by simp) rfl rfl (by k_ne) rfl Try.func40 (by kernel_rfl) (by kernel_rfl) (by kernel_rfl) (by kernel_rfl)) ?_; walk_nrm
  replace hn := hn0
  refine T.goes1 hn rfl (fun _ _ _ => ?_); rw [stepG_region_end]; simp only [goes_go]; refine ⟨by u_nil, ?_⟩
  refine T.goes1 hn rfl (fun _ _ _ => ?_); rw [stepG_region]; simp only [goes_go, List.size_toArray, List.length_cons, List.length_nil, Nat.reduceAdd, Nat.zero_add, List.range, List.range.loop]; refine ⟨by u_nil, ?_⟩
  refine T.goes1 hn rfl (fun _ _ _ => ?_); refine goes_oper_k rfl rfl (by k_ne) (fun K hK => ?_); go_simp; refine hK _ _ ⟨?_, ?_⟩; (u_none; intro e he; have hm := mem_listed he; simp [go_sem, *] at hm); clear hK K; try walk_nrm
  refine T.goes1 hn rfl (fun w₁ hF _ => ?_); refine goes_oper_k rfl rfl (by k_ne) (fun Kx hKx => ?_); have fc := (hF.cell _ (.inl (hA))).1.trans (hc2); have hcv := run_convert_to_unsafe (P := Try.prog) Try.underlying105 Try.underlying78 (by kernel_rfl) fc; have hce := fun es => events_convert_to_unsafe (P := Try.prog) Try.underlying105 Try.underlying78 (by kernel_rfl) fc es; go_simp; refine hKx _ _ ⟨?_, ?_⟩; (u_none; intro ex hex; have hmx := mem_listed hex; simp [go_sem, hce] at hmx); clear hKx Kx hcv hce fc; try walk_nrm
  refine T.mark (mk := .acquire ⟨B, i, none⟩) hn hp hm rfl (.inr (.inr ⟨_, .inl rfl, hA, rfl⟩)) (fun w1 => stepG_markAt .acquire (by simp) rfl rfl (by k_ne) rfl Try.func51 (by kernel_rfl) (by kernel_rfl) (by kernel_rfl) (by kernel_rfl) (ad := ⟨B, i, none⟩) (by simp [Go.Act.eval])) ?_; walk_nrm
  refine T.goes1 hn rfl (fun _ _ _ => ?_); rw [stepG_region_end]; simp only [goes_go]; refine ⟨by u_nil, ?_⟩
  refine T.goes1 hn rfl (fun _ _ _ => ?_); rw [stepG_ret']; simp only [goes_go]; refine ⟨by u_nil, ?_⟩
  refine T.goes1 hn rfl (fun _ _ _ => ?_); refine goes_leave0 rfl rfl Try.func66 rfl ⟨by u_nil, ?_⟩; walk_nrm
  refine T.goes1 hn rfl (fun _ _ _ => ?_); rw [stepG_region_end]; simp only [goes_go]; refine ⟨by u_nil, ?_⟩
  refine T.goes1 hn rfl (fun _ _ _ => ?_); rw [stepG_end]; simp only [goes_go]; refine ⟨by u_nil, ?_⟩
  refine T.goes1 hn rfl (fun _ _ _ => ?_); refine goes_leave0 rfl rfl Try.func58 rfl ⟨by u_nil, ?_⟩; walk_nrm
  exact T.le (by omega) hT
set_option maxRecDepth 100000 in
set_option maxHeartbeats 8000000 in
theorem unlock_walk {c : Cx} {w : World} {mT : Nat} {B i : Nat} {c₀ : Frame} {cs : List Frame} (hcm : c₀.mode = .returning) (hn : c.Neat) (hp : c.par = none) (hm : c.mem = none) (hA : c.O ⟨B, i, none⟩) (hc : w.cell? ⟨B, i, none⟩ = some (.int .i32 1)) (hz : w.frozen? ⟨B, i, none⟩ = false)
    (hT : T Try.prog Post (mT) true (c) (G c₀ cs) (w.setCell ⟨B, i, none⟩ (.int .i32 0))) : T Try.prog Post (mT + 70) true (c) (G ((baseD 59).at ⟨#[.pointer (some ⟨B, i, none⟩), undef, undef, undef, undef, undef], []⟩ [.code (Try.f59.body.getD .skip)]) (c₀ :: cs)) w := by
  have hn0 := hn
  simp only [Try.f59, Option.getD_some]
  refine T.goes1 hn rfl (fun _ _ _ => ?_); rw [stepG_region]; simp only [goes_go, List.size_toArray, List.length_cons, List.length_nil, Nat.reduceAdd, Nat.zero_add, List.range, List.range.loop]; refine ⟨by u_nil, ?_⟩
  refine T.goes1 hn rfl (fun _ _ _ => ?_); refine goes_oper_k rfl rfl (by k_ne) (fun K hK => ?_); go_simp; refine hK _ _ ⟨?_, ?_⟩; (u_none; intro e he; have hm := mem_listed he; simp [go_sem, *] at hm); clear hK K; try walk_nrm
  refine T.goes1 hn rfl (fun _ _ _ => ?_); refine goes_oper_k rfl rfl (by k_ne) (fun K hK => ?_); go_simp; refine hK _ _ ⟨?_, ?_⟩; (u_none; intro e he; have hm := mem_listed he; simp [go_sem, *] at hm); clear hK K; try walk_nrm
  refine T.goes1 hn rfl (fun _ _ _ => ?_); refine goes_oper_k rfl rfl (by k_ne) (fun K hK => ?_); go_simp; refine hK _ _ ⟨?_, ?_⟩; (u_none; intro e he; have hm := mem_listed he; simp [go_sem, *] at hm); clear hK K; try walk_nrm
  refine T.goes1 hn rfl (fun _ _ _ => ?_); refine goes_call rfl rfl (by k_ne) rfl Try.func67 (by kernel_rfl) rfl ⟨by u_nil, ?_⟩; walk_nrmf Try.f67
  refine T.goes1 hn rfl (fun _ _ _ => ?_); rw [stepG_seq]; simp only [goes_go]; refine ⟨by u_nil, ?_⟩
  refine T.goes1 hn rfl (fun _ _ _ => ?_); rw [stepG_cond (t := true) rfl]; simp only [goes_go, if_true, if_false, Bool.false_eq_true, ↓reduceIte]; refine ⟨by u_nil, ?_⟩
  refine T.goes1 hn rfl (fun _ _ _ => ?_); rw [stepG_seq]; simp only [goes_go]; refine ⟨by u_nil, ?_⟩
  refine T.goes1 hn rfl (fun _ _ _ => ?_); rw [stepG_region]; simp only [goes_go, List.size_toArray, List.length_cons, List.length_nil, Nat.reduceAdd, Nat.zero_add, List.range, List.range.loop]; refine ⟨by u_nil, ?_⟩
  refine T.goes1 hn rfl (fun _ _ _ => ?_); refine goes_oper_k rfl rfl (by k_ne) (fun K hK => ?_); go_simp; refine hK _ _ ⟨?_, ?_⟩; (u_none; intro e he; have hm := mem_listed he; simp [go_sem, *] at hm); clear hK K; try walk_nrm
  refine T.goes1 hn rfl (fun _ _ _ => ?_); refine goes_oper_k rfl rfl (by k_ne) (fun K hK => ?_); go_simp; refine hK _ _ ⟨?_, ?_⟩; (u_none; intro e he; have hm := mem_listed he; simp [go_sem, *] at hm); clear hK K; try walk_nrm
  refine T.goes1 hn rfl (fun _ _ _ => ?_); refine goes_oper_k rfl rfl (by k_ne) (fun K hK => ?_); go_simp; refine hK _ _ ⟨?_, ?_⟩; (u_none; intro e he; have hm := mem_listed he; simp [go_sem, *] at hm); clear hK K; try walk_nrm
  refine T.quiet hn rfl rfl (by k_ne) (fun w₁ hF hL K hK => ?_); have fc := (hF.cell _ (.inl (hA))).1.trans (hc); go_simp; refine hK _ ?_ ?_; (intro e he; simp [go_sem, *] at he; subst he; exact EvOk.rd false (.inl (hA))); clear hK K fc; try walk_nrm
  refine T.goes1 hn rfl (fun _ _ _ => ?_); rw [stepG_region_end]; simp only [goes_go]; refine ⟨by u_nil, ?_⟩
  refine T.goes1 hn rfl (fun _ _ _ => ?_); rw [stepG_seq]; simp only [goes_go]; refine ⟨by u_nil, ?_⟩
  refine T.goes1 hn rfl (fun _ _ _ => ?_); rw [stepG_region]; simp only [goes_go, List.size_toArray, List.length_cons, List.length_nil, Nat.reduceAdd, Nat.zero_add, List.range, List.range.loop]; refine ⟨by u_nil, ?_⟩
  refine T.goes1 hn rfl (fun _ _ _ => ?_); refine goes_oper_k rfl rfl (by k_ne) (fun K hK => ?_); go_simp; refine hK _ _ ⟨?_, ?_⟩; (u_none; intro e he; have hm := mem_listed he; simp [go_sem, *] at hm); clear hK K; try walk_nrm
  refine T.goes1 hn rfl (fun w₁ hF _ => ?_); refine goes_oper_k rfl rfl (by k_ne) (fun Kx hKx => ?_); have fc := (hF.cell _ (.inl (hA))).1.trans (hc); have hcv := run_convert_to_unsafe (P := Try.prog) Try.underlying105 Try.underlying78 (by kernel_rfl) fc; have hce := fun es => events_convert_to_unsafe (P := Try.prog) Try.underlying105 Try.underlying78 (by kernel_rfl) fc es; go_simp; refine hKx _ _ ⟨?_, ?_⟩; (u_none; intro ex hex; have hmx := mem_listed hex; simp [go_sem, hce] at hmx); clear hKx Kx hcv hce fc; try walk_nrm
  refine T.mark (mk := .releaseMerge ⟨B, i, none⟩) hn hp hm rfl (.inr (.inr ⟨_, .inr rfl, hA, rfl⟩)) (fun w1 => stepG_markAt .releaseMerge (by simp) rfl rfl (by k_ne) rfl Try.func38 (by kernel_rfl) (by kernel_rfl) (by kernel_rfl) (by kernel_rfl) (ad := ⟨B, i, none⟩) (by simp [Go.Act.eval])) ?_; walk_nrm
  refine T.goes1 hn rfl (fun _ _ _ => ?_); rw [stepG_region_end]; simp only [goes_go]; refine ⟨by u_nil, ?_⟩
  refine T.goes1 hn rfl (fun _ _ _ => ?_); rw [stepG_region]; simp only [goes_go, List.size_toArray, List.length_cons, List.length_nil, Nat.reduceAdd, Nat.zero_add, List.range, List.range.loop]; refine ⟨by u_nil, ?_⟩
  refine T.mark (mk := .disable) hn hp hm rfl (.inl ⟨rfl, rfl⟩) (fun w1 => stepG_mark0 .disable (by simp) rfl rfl (by k_ne) rfl Try.func39 (by kernel_rfl) (by kernel_rfl) (by kernel_rfl) (by kernel_rfl)) ?_; walk_nrm
  replace hn : Cx.Neat { c with lk := c.lk + 1 } := ⟨hn0.ou, hn0.oz⟩
  refine T.goes1 hn rfl (fun _ _ _ => ?_); rw [stepG_region_end]; simp only [goes_go]; refine ⟨by u_nil, ?_⟩
  refine T.goes1 hn rfl (fun _ _ _ => ?_); rw [stepG_seq]; simp only [goes_go]; refine ⟨by u_nil, ?_⟩
  refine T.goes1 hn rfl (fun _ _ _ => ?_); rw [stepG_region]; simp only [goes_go, List.size_toArray, List.length_cons, List.length_nil, Nat.reduceAdd, Nat.zero_add, List.range, List.range.loop]; refine ⟨by u_nil, ?_⟩
  refine T.goes1 hn rfl (fun _ _ _ => ?_); refine goes_oper_k rfl rfl (by k_ne) (fun K hK => ?_); go_simp; refine hK _ _ ⟨?_, ?_⟩; (u_none; intro e he; have hm := mem_listed he; simp [go_sem, *] at hm); clear hK K; try walk_nrm
  refine T.goes1 hn rfl (fun _ _ _ => ?_); refine goes_oper_k rfl rfl (by k_ne) (fun K hK => ?_); go_simp; refine hK _ _ ⟨?_, ?_⟩; (u_none; intro e he; have hm := mem_listed he; simp [go_sem, *] at hm); clear hK K; try walk_nrm
  refine T.goes1 hn rfl (fun _ _ _ => ?_); refine goes_oper_k rfl rfl (by k_ne) (fun K hK => ?_); go_simp; refine hK _ _ ⟨?_, ?_⟩; (u_none; intro e he; have hm := mem_listed he; simp [go_sem, *] at hm); clear hK K; try walk_nrm
  refine T.ownStep hn (A := ⟨B, i, none⟩) (v := .int .i32 0) hA hc hz rfl (fun w1 h1 h2 => (stepG_add_atomic (v := 1) (d := -1) rfl rfl (by k_ne) rfl Try.func72 (by kernel_rfl) (by kernel_rfl) (by kernel_rfl) .i32 (by kernel_rfl) rfl rfl h1 h2).trans (by rfl)) (fun e he => by simp at he; rcases he with rfl | rfl; exact .inr (.inr rfl); exact .inr (.inl rfl)) ?_
  generalize w.setCell ⟨B, i, none⟩ (.int .i32 0) = w2 at hT ⊢
  have ew : IntKind.i32.wrap (1 + -1) = 0 := by decide
  simp only [ew]
  walk_nrm
  refine T.goes1 hn rfl (fun _ _ _ => ?_); refine goes_oper_k rfl rfl (by k_ne) (fun K hK => ?_); go_simp; refine hK _ _ ⟨?_, ?_⟩; (u_none; intro e he; have hm := mem_listed he; simp [go_sem, *] at hm); clear hK K; try walk_nrm
  refine T.goes1 hn rfl (fun _ _ _ => ?_); rw [stepG_region_end]; simp only [goes_go]; refine ⟨by u_nil, ?_⟩
  refine T.goes1 hn rfl (fun _ _ _ => ?_); rw [stepG_seq]; simp only [goes_go]; refine ⟨by u_nil, ?_⟩
  refine T.goes1 hn rfl (fun _ _ _ => ?_); rw [stepG_seq]; simp only [goes_go]; refine ⟨by u_nil, ?_⟩
  refine T.goes1 hn rfl (fun _ _ _ => ?_); rw [stepG_region]; simp only [goes_go, List.size_toArray, List.length_cons, List.length_nil, Nat.reduceAdd, Nat.zero_add, List.range, List.range.loop]; refine ⟨by u_nil, ?_⟩
  refine T.goes1 hn rfl (fun _ _ _ => ?_); refine goes_oper_k rfl rfl (by k_ne) (fun K hK => ?_); go_simp; refine hK _ _ ⟨?_, ?_⟩; (u_none; intro e he; have hm := mem_listed he; simp [go_sem, *] at hm); clear hK K; try walk_nrm
  refine T.goes1 hn rfl (fun _ _ _ => ?_); refine goes_oper_k rfl rfl (by k_ne) (fun K hK => ?_); go_simp; refine hK _ _ ⟨?_, ?_⟩; (u_none; intro e he; have hm := mem_listed he; simp [go_sem, *] at hm); clear hK K; try walk_nrm
  refine T.goes1 hn rfl (fun _ _ _ => ?_); rw [stepG_region_end]; simp only [goes_go]; refine ⟨by u_nil, ?_⟩
  refine T.goes1 hn rfl (fun _ _ _ => ?_); rw [stepG_cond (t := false) rfl]; simp only [goes_go, if_true, if_false, Bool.false_eq_true, ↓reduceIte]; refine ⟨by u_nil, ?_⟩
  refine T.goes1 hn rfl (fun _ _ _ => ?_); rw [stepG_skip]; simp only [goes_go]; refine ⟨by u_nil, ?_⟩
  refine T.goes1 hn rfl (fun _ _ _ => ?_); rw [stepG_region]; simp only [goes_go, List.size_toArray, List.length_cons, List.length_nil, Nat.reduceAdd, Nat.zero_add, List.range, List.range.loop]; refine ⟨by u_nil, ?_⟩
  refine T.mark (mk := .enable) hn hp hm rfl (.inr (.inl ⟨rfl, rfl⟩)) (fun w1 => stepG_mark0 .enable (by simp) rfl rfl (by k_ne) rfl Try.func40 (by kernel_rfl) (by kernel_rfl) (by kernel_rfl) (by kernel_rfl)) ?_; walk_nrm
  replace hn := hn0
  refine T.goes1 hn rfl (fun _ _ _ => ?_); rw [stepG_region_end]; simp only [goes_go]; refine ⟨by u_nil, ?_⟩
  refine T.goes1 hn rfl (fun _ _ _ => ?_); rw [stepG_end]; simp only [goes_go]; refine ⟨by u_nil, ?_⟩
  refine T.goes1 hn rfl (fun _ _ _ => ?_); refine goes_leave0 rfl rfl Try.func67 rfl ⟨by u_nil, ?_⟩; walk_nrm
  refine T.goes1 hn rfl (fun _ _ _ => ?_); rw [stepG_region_end]; simp only [goes_go]; refine ⟨by u_nil, ?_⟩
  refine T.goes1 hn rfl (fun _ _ _ => ?_); rw [stepG_end]; simp only [goes_go]; refine ⟨by u_nil, ?_⟩
  refine T.goes1 hn rfl (fun _ _ _ => ?_); rw [stepG_leave_deferred rfl rfl Try.func59 (results_none rfl _ _ _) (events_results_none rfl _ _) hcm]; simp only [goes_go]; refine ⟨by u_nil, ?_⟩
  exact T.le (by omega) hT
set_option maxRecDepth 100000 in
set_option maxHeartbeats 4000000 in
theorem b32_walk {bb : Bool} {c : Cx} {w : World} {mT : Nat} {b₀ : Frame} {a₀ : Go.Act} {ops₀ : Array Oper} {i₀ : Nat} {rest₀ : List Nat} {k₀ : List Item} {cs : List Frame} (hn : c.Neat) (hT : T Try.prog Post mT bb c (G (b₀.at (a₀.put ((ops₀[i₀]?).bind (·.dst)) (.int .u32 1)) (.inRegion ops₀ rest₀ :: k₀)) cs) w) : T Try.prog Post (mT + 30) bb c (G ((base 69).at ⟨#[.bool true, undef, undef, undef], []⟩ [.code (Try.f69.body.getD .skip)]) (b₀.at a₀ (.inRegion ops₀ (i₀ :: rest₀) :: k₀) :: cs)) w := by
  simp only [Try.f69, Option.getD_some]
  refine T.goes1 hn rfl (fun _ _ _ => ?_); rw [stepG_seq]; simp only [goes_go]; refine ⟨by u_nil, ?_⟩
  refine T.goes1 hn rfl (fun _ _ _ => ?_); rw [stepG_region]; simp only [goes_go, List.size_toArray, List.length_cons, List.length_nil, Nat.reduceAdd, Nat.zero_add, List.range, List.range.loop]; refine ⟨by u_nil, ?_⟩
  refine T.goes1 hn rfl (fun _ _ _ => ?_); refine goes_oper_k rfl rfl (by k_ne) (fun K hK => ?_); go_simp; refine hK _ _ ⟨?_, ?_⟩; (u_none; intro e he; have hm := mem_listed he; simp [go_sem, *] at hm); clear hK K; try walk_nrm
  refine T.goes1 hn rfl (fun _ _ _ => ?_); rw [stepG_region_end]; simp only [goes_go]; refine ⟨by u_nil, ?_⟩
  refine T.goes1 hn rfl (fun _ _ _ => ?_); rw [stepG_seq]; simp only [goes_go]; refine ⟨by u_nil, ?_⟩
  refine T.goes1 hn rfl (fun _ _ _ => ?_); rw [stepG_seq]; simp only [goes_go]; refine ⟨by u_nil, ?_⟩
  refine T.goes1 hn rfl (fun _ _ _ => ?_); rw [stepG_region]; simp only [goes_go, List.size_toArray, List.length_cons, List.length_nil, Nat.reduceAdd, Nat.zero_add, List.range, List.range.loop]; refine ⟨by u_nil, ?_⟩
  refine T.goes1 hn rfl (fun _ _ _ => ?_); refine goes_oper_k rfl rfl (by k_ne) (fun K hK => ?_); go_simp; refine hK _ _ ⟨?_, ?_⟩; (u_none; intro e he; have hm := mem_listed he; simp [go_sem, *] at hm); clear hK K; try walk_nrm
  refine T.goes1 hn rfl (fun _ _ _ => ?_); rw [stepG_region_end]; simp only [goes_go]; refine ⟨by u_nil, ?_⟩
  refine T.goes1 hn rfl (fun _ _ _ => ?_); rw [stepG_cond (t := true) rfl]; simp only [goes_go, if_true, if_false, Bool.false_eq_true, ↓reduceIte]; refine ⟨by u_nil, ?_⟩
  refine T.goes1 hn rfl (fun _ _ _ => ?_); rw [stepG_seq]; simp only [goes_go]; refine ⟨by u_nil, ?_⟩
  refine T.goes1 hn rfl (fun _ _ _ => ?_); rw [stepG_region]; simp only [goes_go, List.size_toArray, List.length_cons, List.length_nil, Nat.reduceAdd, Nat.zero_add, List.range, List.range.loop]; refine ⟨by u_nil, ?_⟩
  refine T.goes1 hn rfl (fun _ _ _ => ?_); refine goes_oper_k rfl rfl (by k_ne) (fun K hK => ?_); go_simp; refine hK _ _ ⟨?_, ?_⟩; (u_none; intro e he; have hm := mem_listed he; simp [go_sem, *] at hm); clear hK K; try walk_nrm
  refine T.goes1 hn rfl (fun _ _ _ => ?_); rw [stepG_region_end]; simp only [goes_go]; refine ⟨by u_nil, ?_⟩
  refine T.goes1 hn rfl (fun _ _ _ => ?_); rw [stepG_ret']; simp only [goes_go]; refine ⟨by u_nil, ?_⟩
  refine T.goes1 hn rfl (fun _ _ _ => ?_); refine goes_leave1 rfl rfl Try.func69 rfl ⟨by u_nil, ?_⟩; walk_nrm
  exact T.le (by omega) hT
noncomputable def o60 : Array Oper := (opsOf 0 (Try.f60.body.getD .skip)).getD #[]
theorem o60_size : o60.size = 6 := by kernel_rfl
theorem o60_0 {o : Oper} (h : o60[0]? = some o) : o.op = .move (.tmp 0) ∧ o.dst = some 4 ∧ o.guard = none := by
  have e1 : (o60[0]?).map (·.op) = some (.move (.tmp 0)) := by kernel_rfl
  have e2 : (o60[0]?).map (·.dst) = some (some 4) := by kernel_rfl
  have e3 : (o60[0]?).map (·.guard) = some none := by kernel_rfl
  rw [h] at e1 e2 e3
  exact ⟨Option.some.inj e1, Option.some.inj e2, Option.some.inj e3⟩
theorem o60_1 {o : Oper} (h : o60[1]? = some o) : o.op = .nilCheck (.tmp 4) ∧ o.dst = some 5 ∧ o.guard = none := by
  have e1 : (o60[1]?).map (·.op) = some (.nilCheck (.tmp 4)) := by kernel_rfl
  have e2 : (o60[1]?).map (·.dst) = some (some 5) := by kernel_rfl
  have e3 : (o60[1]?).map (·.guard) = some none := by kernel_rfl
  rw [h] at e1 e2 e3
  exact ⟨Option.some.inj e1, Option.some.inj e2, Option.some.inj e3⟩
theorem o60_2 {o : Oper} (h : o60[2]? = some o) : o.op = .fieldAddr 56 (.tmp 5) 1 ∧ o.dst = some 6 ∧ o.guard = none := by
  have e1 : (o60[2]?).map (·.op) = some (.fieldAddr 56 (.tmp 5) 1) := by kernel_rfl
  have e2 : (o60[2]?).map (·.dst) = some (some 6) := by kernel_rfl
  have e3 : (o60[2]?).map (·.guard) = some none := by kernel_rfl
  rw [h] at e1 e2 e3
  exact ⟨Option.some.inj e1, Option.some.inj e2, Option.some.inj e3⟩
theorem o60_3 {o : Oper} (h : o60[3]? = some o) : o.op = .move (.tmp 1) ∧ o.dst = some 7 ∧ o.guard = none := by
  have e1 : (o60[3]?).map (·.op) = some (.move (.tmp 1)) := by kernel_rfl
  have e2 : (o60[3]?).map (·.dst) = some (some 7) := by kernel_rfl
  have e3 : (o60[3]?).map (·.guard) = some none := by kernel_rfl
  rw [h] at e1 e2 e3
  exact ⟨Option.some.inj e1, Option.some.inj e2, Option.some.inj e3⟩
theorem o60_4 {o : Oper} (h : o60[4]? = some o) : o.op = .call { callee := .value (.func 69), args := #[.tmp 7], argTypes := #[4] } ∧ o.dst = some 8 ∧ o.guard = none := by
  have e1 : (o60[4]?).map (·.op) = some (.call { callee := .value (.func 69), args := #[.tmp 7], argTypes := #[4] }) := by kernel_rfl
  have e2 : (o60[4]?).map (·.dst) = some (some 8) := by kernel_rfl
  have e3 : (o60[4]?).map (·.guard) = some none := by kernel_rfl
  rw [h] at e1 e2 e3
  exact ⟨Option.some.inj e1, Option.some.inj e2, Option.some.inj e3⟩
theorem o60_5 {o : Oper} (h : o60[5]? = some o) : o.op = .call { callee := .value (.func 68), args := #[.tmp 6, .tmp 8], argTypes := #[84, 54] } ∧ o.dst = some 9 ∧ o.guard = none := by
  have e1 : (o60[5]?).map (·.op) = some (.call { callee := .value (.func 68), args := #[.tmp 6, .tmp 8], argTypes := #[84, 54] }) := by kernel_rfl
  have e2 : (o60[5]?).map (·.dst) = some (some 9) := by kernel_rfl
  have e3 : (o60[5]?).map (·.guard) = some none := by kernel_rfl
  rw [h] at e1 e2 e3
  exact ⟨Option.some.inj e1, Option.some.inj e2, Option.some.inj e3⟩
set_option maxRecDepth 100000 in
set_option maxHeartbeats 8000000 in
theorem store_walk {c : Cx} {w : World} {mT : Nat} {B i : Nat} {c₀ : Frame} {cs : List Frame} (hcm : c₀.mode = .returning) (hn : c.Neat) (hp : c.par = none) (hm : c.mem = none) (hA : c.O ⟨B, i, none⟩) (hc : w.cell? ⟨B, i, none⟩ = some (.int .u32 0)) (hz : w.frozen? ⟨B, i, none⟩ = false)
    (hT : T Try.prog Post (mT) true (c) (G c₀ cs) (w.setCell ⟨B, i, none⟩ (.int .u32 1))) : T Try.prog Post (mT + 60) true (c) (G ((baseD 60).at ⟨#[.pointer (some ⟨B, i, none⟩), .bool true, undef, undef, undef, undef, undef, undef, undef, undef], []⟩ [.code (Try.f60.body.getD .skip)]) (c₀ :: cs)) w := by
  have hw : ∀ (i : Nat) (o : Oper) y, o.guard = none → Region.wanted o y = true := fun i o y h => by unfold Region.wanted; rw [h]
  obtain ⟨o0, h0⟩ : ∃ o, o60[0]? = some o := ⟨o60[0]'(by rw [o60_size]; omega), Array.getElem?_eq_getElem _⟩
  obtain ⟨p0, d0, g0⟩ := o60_0 h0
  obtain ⟨o1, h1⟩ : ∃ o, o60[1]? = some o := ⟨o60[1]'(by rw [o60_size]; omega), Array.getElem?_eq_getElem _⟩
  obtain ⟨p1, d1, g1⟩ := o60_1 h1
  obtain ⟨o2, h2⟩ : ∃ o, o60[2]? = some o := ⟨o60[2]'(by rw [o60_size]; omega), Array.getElem?_eq_getElem _⟩
  obtain ⟨p2, d2, g2⟩ := o60_2 h2
  obtain ⟨o3, h3⟩ : ∃ o, o60[3]? = some o := ⟨o60[3]'(by rw [o60_size]; omega), Array.getElem?_eq_getElem _⟩
  obtain ⟨p3, d3, g3⟩ := o60_3 h3
  obtain ⟨o4, h4⟩ : ∃ o, o60[4]? = some o := ⟨o60[4]'(by rw [o60_size]; omega), Array.getElem?_eq_getElem _⟩
  obtain ⟨p4, d4, g4⟩ := o60_4 h4
  obtain ⟨o5, h5⟩ : ∃ o, o60[5]? = some o := ⟨o60[5]'(by rw [o60_size]; omega), Array.getElem?_eq_getElem _⟩
  obtain ⟨p5, d5, g5⟩ := o60_5 h5
  have s32 : ∀ t, T Try.prog Post (mT + 11) true c (G ((baseD 60).at ⟨#[.pointer (some ⟨B, i, none⟩), .bool true, undef, undef, .pointer (some ⟨B, i, none⟩), .pointer (some ⟨B, i, none⟩), .pointer (some ⟨B, i, none⟩), .bool true, .int .u32 1, undef], []⟩ (.inRegion o60 (Region.linearise.go .any o60 1 t #[true, true, true, true, true, false] []) :: [])) (c₀ :: cs)) w := by
    intro t
    refine T.any [5] (by kernel_rfl) (by simp) (fun j hj t => ?_) t
    simp only [List.mem_cons, List.not_mem_nil, or_false] at hj
    subst hj
    refine T.ownStep hn (A := ⟨B, i, none⟩) (v := .int .u32 1) hA hc hz rfl (fun w1 e1 e2 => stepG_store_atomic h5 (hw 5 _ _ g5) (by k_ne) p5 Try.func68 (by kernel_rfl) (by kernel_rfl) (by kernel_rfl) (by kernel_rfl) rfl rfl e1 e2) (fun e he => by simp at he; exact .inr (.inl he)) ?_
    rw [ord_done, d5]
    walk_nrm
    refine T.goes1 hn rfl (fun _ _ _ => ?_); rw [stepG_region_end]; simp only [goes_go]; refine ⟨by u_nil, ?_⟩
    refine T.goes1 hn rfl (fun _ _ _ => ?_); rw [stepG_end]; simp only [goes_go]; refine ⟨by u_nil, ?_⟩
    refine T.goes1 hn rfl (fun _ _ _ => ?_); rw [stepG_leave_deferred rfl rfl Try.func60 (results_none rfl _ _ _) (events_results_none rfl _ _) hcm]; simp only [goes_go]; refine ⟨by u_nil, ?_⟩
    exact T.le (by omega) hT
  have s31 : ∀ t, T Try.prog Post (mT + 42) true c (G ((baseD 60).at ⟨#[.pointer (some ⟨B, i, none⟩), .bool true, undef, undef, .pointer (some ⟨B, i, none⟩), .pointer (some ⟨B, i, none⟩), .pointer (some ⟨B, i, none⟩), .bool true, undef, undef], []⟩ (.inRegion o60 (Region.linearise.go .any o60 2 t #[true, true, true, true, false, false] []) :: [])) (c₀ :: cs)) w := by
    intro t
    refine T.any [4] (by kernel_rfl) (by simp) (fun j hj t => ?_) t
    simp only [List.mem_cons, List.not_mem_nil, or_false] at hj
    subst hj
    have nx := s32 t
    refine T.goes1 hn rfl (fun _ _ _ => ?_); refine goes_call h4 (hw 4 _ _ g4) (by k_ne) p4 Try.func69 (by kernel_rfl) rfl ⟨by u_nil, ?_⟩; walk_nrmf Try.f69
    refine T.le (m := (mT + 11) + 30) (by omega) (b32_walk hn ?_)
    rw [h4]
    simp only [Option.bind_some, d4]
    walk_nrm
    exact nx
  have s30 : ∀ t, T Try.prog Post (mT + 43) true c (G ((baseD 60).at ⟨#[.pointer (some ⟨B, i, none⟩), .bool true, undef, undef, .pointer (some ⟨B, i, none⟩), .pointer (some ⟨B, i, none⟩), .pointer (some ⟨B, i, none⟩), undef, undef, undef], []⟩ (.inRegion o60 (Region.linearise.go .any o60 3 t #[true, true, true, false, false, false] []) :: [])) (c₀ :: cs)) w := by
    intro t
    refine T.any [3] (by kernel_rfl) (by simp) (fun j hj t => ?_) t
    simp only [List.mem_cons, List.not_mem_nil, or_false] at hj
    subst hj
    have nx := s31 t
    refine T.val hn (.bool true) h3 (hw 3 _ _ g3) (by k_ne) (fun w1 _ => ⟨by unfold execOp; simp only [p3]; simp [go_sem], fun e he => by unfold execOp at he; simp only [p3] at he; simp [go_sem] at he⟩) ?_
    rw [d3]
    walk_nrm
    exact nx
  have s22 : ∀ t, T Try.prog Post (mT + 12) true c (G ((baseD 60).at ⟨#[.pointer (some ⟨B, i, none⟩), .bool true, undef, undef, .pointer (some ⟨B, i, none⟩), .pointer (some ⟨B, i, none⟩), undef, .bool true, .int .u32 1, undef], []⟩ (.inRegion o60 (Region.linearise.go .any o60 2 t #[true, true, false, true, true, false] []) :: [])) (c₀ :: cs)) w := by
    intro t
    refine T.any [2] (by kernel_rfl) (by simp) (fun j hj t => ?_) t
    simp only [List.mem_cons, List.not_mem_nil, or_false] at hj
    subst hj
    have nx := s32 t
    refine T.val hn (.pointer (some ⟨B, i, none⟩)) h2 (hw 2 _ _ g2) (by k_ne) (fun w1 _ => ⟨by unfold execOp; simp only [p2]; simp [go_sem], fun e he => by unfold execOp at he; simp only [p2] at he; simp [go_sem] at he⟩) ?_
    rw [d2]
    walk_nrm
    exact nx
  have s21 : ∀ t, T Try.prog Post (mT + 43) true c (G ((baseD 60).at ⟨#[.pointer (some ⟨B, i, none⟩), .bool true, undef, undef, .pointer (some ⟨B, i, none⟩), .pointer (some ⟨B, i, none⟩), undef, .bool true, undef, undef], []⟩ (.inRegion o60 (Region.linearise.go .any o60 3 t #[true, true, false, true, false, false] []) :: [])) (c₀ :: cs)) w := by
    intro t
    refine T.any [2, 4] (by kernel_rfl) (by simp) (fun j hj t => ?_) t
    simp only [List.mem_cons, List.not_mem_nil, or_false] at hj
    rcases hj with rfl | rfl
    · have nx := s31 t
      refine T.val hn (.pointer (some ⟨B, i, none⟩)) h2 (hw 2 _ _ g2) (by k_ne) (fun w1 _ => ⟨by unfold execOp; simp only [p2]; simp [go_sem], fun e he => by unfold execOp at he; simp only [p2] at he; simp [go_sem] at he⟩) ?_
      rw [d2]
      walk_nrm
      exact nx
    · have nx := s22 t
      refine T.goes1 hn rfl (fun _ _ _ => ?_); refine goes_call h4 (hw 4 _ _ g4) (by k_ne) p4 Try.func69 (by kernel_rfl) rfl ⟨by u_nil, ?_⟩; walk_nrmf Try.f69
      refine T.le (m := (mT + 12) + 30) (by omega) (b32_walk hn ?_)
      rw [h4]
      simp only [Option.bind_some, d4]
      walk_nrm
      exact nx
  have s20 : ∀ t, T Try.prog Post (mT + 44) true c (G ((baseD 60).at ⟨#[.pointer (some ⟨B, i, none⟩), .bool true, undef, undef, .pointer (some ⟨B, i, none⟩), .pointer (some ⟨B, i, none⟩), undef, undef, undef, undef], []⟩ (.inRegion o60 (Region.linearise.go .any o60 4 t #[true, true, false, false, false, false] []) :: [])) (c₀ :: cs)) w := by
    intro t
    refine T.any [2, 3] (by kernel_rfl) (by simp) (fun j hj t => ?_) t
    simp only [List.mem_cons, List.not_mem_nil, or_false] at hj
    rcases hj with rfl | rfl
    · have nx := s30 t
      refine T.val hn (.pointer (some ⟨B, i, none⟩)) h2 (hw 2 _ _ g2) (by k_ne) (fun w1 _ => ⟨by unfold execOp; simp only [p2]; simp [go_sem], fun e he => by unfold execOp at he; simp only [p2] at he; simp [go_sem] at he⟩) ?_
      rw [d2]
      walk_nrm
      exact nx
    · have nx := s21 t
      refine T.val hn (.bool true) h3 (hw 3 _ _ g3) (by k_ne) (fun w1 _ => ⟨by unfold execOp; simp only [p3]; simp [go_sem], fun e he => by unfold execOp at he; simp only [p3] at he; simp [go_sem] at he⟩) ?_
      rw [d3]
      walk_nrm
      exact nx
  have s12 : ∀ t, T Try.prog Post (mT + 13) true c (G ((baseD 60).at ⟨#[.pointer (some ⟨B, i, none⟩), .bool true, undef, undef, .pointer (some ⟨B, i, none⟩), undef, undef, .bool true, .int .u32 1, undef], []⟩ (.inRegion o60 (Region.linearise.go .any o60 3 t #[true, false, false, true, true, false] []) :: [])) (c₀ :: cs)) w := by
    intro t
    refine T.any [1] (by kernel_rfl) (by simp) (fun j hj t => ?_) t
    simp only [List.mem_cons, List.not_mem_nil, or_false] at hj
    subst hj
    have nx := s22 t
    refine T.val hn (.pointer (some ⟨B, i, none⟩)) h1 (hw 1 _ _ g1) (by k_ne) (fun w1 _ => ⟨by unfold execOp; simp only [p1]; simp [go_sem], fun e he => by unfold execOp at he; simp only [p1] at he; simp [go_sem] at he⟩) ?_
    rw [d1]
    walk_nrm
    exact nx
  have s11 : ∀ t, T Try.prog Post (mT + 44) true c (G ((baseD 60).at ⟨#[.pointer (some ⟨B, i, none⟩), .bool true, undef, undef, .pointer (some ⟨B, i, none⟩), undef, undef, .bool true, undef, undef], []⟩ (.inRegion o60 (Region.linearise.go .any o60 4 t #[true, false, false, true, false, false] []) :: [])) (c₀ :: cs)) w := by
    intro t
    refine T.any [1, 4] (by kernel_rfl) (by simp) (fun j hj t => ?_) t
    simp only [List.mem_cons, List.not_mem_nil, or_false] at hj
    rcases hj with rfl | rfl
    · have nx := s21 t
      refine T.val hn (.pointer (some ⟨B, i, none⟩)) h1 (hw 1 _ _ g1) (by k_ne) (fun w1 _ => ⟨by unfold execOp; simp only [p1]; simp [go_sem], fun e he => by unfold execOp at he; simp only [p1] at he; simp [go_sem] at he⟩) ?_
      rw [d1]
      walk_nrm
      exact nx
    · have nx := s12 t
      refine T.goes1 hn rfl (fun _ _ _ => ?_); refine goes_call h4 (hw 4 _ _ g4) (by k_ne) p4 Try.func69 (by kernel_rfl) rfl ⟨by u_nil, ?_⟩; walk_nrmf Try.f69
      refine T.le (m := (mT + 13) + 30) (by omega) (b32_walk hn ?_)
      rw [h4]
      simp only [Option.bind_some, d4]
      walk_nrm
      exact nx
  have s10 : ∀ t, T Try.prog Post (mT + 45) true c (G ((baseD 60).at ⟨#[.pointer (some ⟨B, i, none⟩), .bool true, undef, undef, .pointer (some ⟨B, i, none⟩), undef, undef, undef, undef, undef], []⟩ (.inRegion o60 (Region.linearise.go .any o60 5 t #[true, false, false, false, false, false] []) :: [])) (c₀ :: cs)) w := by
    intro t
    refine T.any [1, 3] (by kernel_rfl) (by simp) (fun j hj t => ?_) t
    simp only [List.mem_cons, List.not_mem_nil, or_false] at hj
    rcases hj with rfl | rfl
    · have nx := s20 t
      refine T.val hn (.pointer (some ⟨B, i, none⟩)) h1 (hw 1 _ _ g1) (by k_ne) (fun w1 _ => ⟨by unfold execOp; simp only [p1]; simp [go_sem], fun e he => by unfold execOp at he; simp only [p1] at he; simp [go_sem] at he⟩) ?_
      rw [d1]
      walk_nrm
      exact nx
    · have nx := s11 t
      refine T.val hn (.bool true) h3 (hw 3 _ _ g3) (by k_ne) (fun w1 _ => ⟨by unfold execOp; simp only [p3]; simp [go_sem], fun e he => by unfold execOp at he; simp only [p3] at he; simp [go_sem] at he⟩) ?_
      rw [d3]
      walk_nrm
      exact nx
  have s02 : ∀ t, T Try.prog Post (mT + 14) true c (G ((baseD 60).at ⟨#[.pointer (some ⟨B, i, none⟩), .bool true, undef, undef, undef, undef, undef, .bool true, .int .u32 1, undef], []⟩ (.inRegion o60 (Region.linearise.go .any o60 4 t #[false, false, false, true, true, false] []) :: [])) (c₀ :: cs)) w := by
    intro t
    refine T.any [0] (by kernel_rfl) (by simp) (fun j hj t => ?_) t
    simp only [List.mem_cons, List.not_mem_nil, or_false] at hj
    subst hj
    have nx := s12 t
    refine T.val hn (.pointer (some ⟨B, i, none⟩)) h0 (hw 0 _ _ g0) (by k_ne) (fun w1 _ => ⟨by unfold execOp; simp only [p0]; simp [go_sem], fun e he => by unfold execOp at he; simp only [p0] at he; simp [go_sem] at he⟩) ?_
    rw [d0]
    walk_nrm
    exact nx
  have s01 : ∀ t, T Try.prog Post (mT + 45) true c (G ((baseD 60).at ⟨#[.pointer (some ⟨B, i, none⟩), .bool true, undef, undef, undef, undef, undef, .bool true, undef, undef], []⟩ (.inRegion o60 (Region.linearise.go .any o60 5 t #[false, false, false, true, false, false] []) :: [])) (c₀ :: cs)) w := by
    intro t
    refine T.any [0, 4] (by kernel_rfl) (by simp) (fun j hj t => ?_) t
    simp only [List.mem_cons, List.not_mem_nil, or_false] at hj
    rcases hj with rfl | rfl
    · have nx := s11 t
      refine T.val hn (.pointer (some ⟨B, i, none⟩)) h0 (hw 0 _ _ g0) (by k_ne) (fun w1 _ => ⟨by unfold execOp; simp only [p0]; simp [go_sem], fun e he => by unfold execOp at he; simp only [p0] at he; simp [go_sem] at he⟩) ?_
      rw [d0]
      walk_nrm
      exact nx
    · have nx := s02 t
      refine T.goes1 hn rfl (fun _ _ _ => ?_); refine goes_call h4 (hw 4 _ _ g4) (by k_ne) p4 Try.func69 (by kernel_rfl) rfl ⟨by u_nil, ?_⟩; walk_nrmf Try.f69
      refine T.le (m := (mT + 14) + 30) (by omega) (b32_walk hn ?_)
      rw [h4]
      simp only [Option.bind_some, d4]
      walk_nrm
      exact nx
  have s00 : ∀ t, T Try.prog Post (mT + 46) true c (G ((baseD 60).at ⟨#[.pointer (some ⟨B, i, none⟩), .bool true, undef, undef, undef, undef, undef, undef, undef, undef], []⟩ (.inRegion o60 (Region.linearise.go .any o60 6 t #[false, false, false, false, false, false] []) :: [])) (c₀ :: cs)) w := by
    intro t
    refine T.any [0, 3] (by kernel_rfl) (by simp) (fun j hj t => ?_) t
    simp only [List.mem_cons, List.not_mem_nil, or_false] at hj
    rcases hj with rfl | rfl
    · have nx := s10 t
      refine T.val hn (.pointer (some ⟨B, i, none⟩)) h0 (hw 0 _ _ g0) (by k_ne) (fun w1 _ => ⟨by unfold execOp; simp only [p0]; simp [go_sem], fun e he => by unfold execOp at he; simp only [p0] at he; simp [go_sem] at he⟩) ?_
      rw [d0]
      walk_nrm
      exact nx
    · have nx := s01 t
      refine T.val hn (.bool true) h3 (hw 3 _ _ g3) (by k_ne) (fun w1 _ => ⟨by unfold execOp; simp only [p3]; simp [go_sem], fun e he => by unfold execOp at he; simp only [p3] at he; simp [go_sem] at he⟩) ?_
      rw [d3]
      walk_nrm
      exact nx
  refine T.le (m := (mT + 46) + 1) (by omega) (T.draw hn mix (fun t => ?_))
  exact s00 t
end Go.Proofs.Ytidadgibhmiojaa
