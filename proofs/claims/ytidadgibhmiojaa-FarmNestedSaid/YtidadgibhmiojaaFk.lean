/- FarmTasks -/
import Derived.Test.YtidadgibhmiojaaFj
set_option linter.unusedSimpArgs false
set_option linter.unusedVariables false
namespace Go.Proofs.Ytidadgibhmiojaa
open Go.Conc Go.RowKit Go.Conc.Lib Go.ConcR.Gen Go.ConcN.Gen Go.Farm
open Go.ConcR (DC0)
variable {Post : Value → World → Prop}
theorem neqb (x : Bool) (w : World) : (binOp .neq 4 (.bool x) (.bool x)).run Try.prog w = .ok (.bool false) w := by cases x <;> kernel_rfl
theorem neqbe (x : Bool) (w : World) : (binOp .neq 4 (.bool x) (.bool x)).events Try.prog w #[] = #[] := by cases x <;> kernel_rfl
/-- even? -/
def Vev (j : Nat) (_ : AS) (v : Value) (_ : World) : Prop := v = .bool ((j : Int).tmod 2 == 0)
set_option maxRecDepth 100000 in
set_option maxHeartbeats 8000000 in
theorem ev_task : TaskOk Try.prog Post 15 #[] [] Vev 40 := by
  intro κ lb J c w j mT b₀ a₀ ops₀ i₀ rest₀ k₀ cs hn hb hm hp hl hZ hj hT
  have hT := hT w (fun _ => False) _ (Hold.refl _ _) (fun a h => h.elim) rfl
  have hls := Less.none hn (m0_of hm)
  rw [enter_at _ Try.func15 rfl]
  walk_nrmf Try.f15
  refine T.goes1 hn rfl (fun _ _ _ => ?_); rw [stepG_seq]; simp only [goes_go]; refine ⟨by u_nil, ?_⟩
  refine T.goes1 hn rfl (fun _ _ _ => ?_); rw [stepG_region]; simp only [goes_go, List.size_toArray, List.length_cons, List.length_nil, Nat.reduceAdd, Nat.zero_add, List.range, List.range.loop]; refine ⟨by u_nil, ?_⟩
  refine T.goes1 hn rfl (fun _ _ _ => ?_); refine goes_oper_k rfl rfl (by k_ne) (fun K hK => ?_); go_simp; refine hK _ _ ⟨?_, ?_⟩; (u_none; intro e he; have hm := mem_listed he; simp [go_sem, *] at hm); clear hK K; try walk_nrm
  refine T.goes1 hn rfl (fun _ _ _ => ?_); rw [stepG_region_end]; simp only [goes_go]; refine ⟨by u_nil, ?_⟩
  refine T.goes1 hn rfl (fun _ _ _ => ?_); rw [stepG_seq]; simp only [goes_go]; refine ⟨by u_nil, ?_⟩
  refine T.goes1 hn rfl (fun _ _ _ => ?_); rw [stepG_region]; simp only [goes_go, List.size_toArray, List.length_cons, List.length_nil, Nat.reduceAdd, Nat.zero_add, List.range, List.range.loop]; refine ⟨by u_nil, ?_⟩
  refine T.goes1 hn rfl (fun _ _ _ => ?_); refine goes_oper_k rfl rfl (by k_ne) (fun K hK => ?_); go_simp; refine hK _ _ ⟨?_, ?_⟩; (u_none; intro e he; have hm := mem_listed he; simp [go_sem, *] at hm); clear hK K; try walk_nrm
  refine T.goes1 hn rfl (fun _ _ _ => ?_); refine goes_oper_k rfl rfl (by k_ne) (fun K hK => ?_); go_simp; refine hK _ _ ⟨?_, ?_⟩; (u_none; intro e he; have hm := mem_listed he; simp [go_sem, *] at hm); clear hK K; try walk_nrm
  refine T.goes1 hn rfl (fun _ _ _ => ?_); refine goes_oper_k rfl rfl (by k_ne) (fun K hK => ?_); go_simp; refine hK _ _ ⟨?_, ?_⟩; (u_none; intro e he; have hm := mem_listed he; simp [go_sem, *] at hm); clear hK K; try walk_nrm
  refine T.goes1 hn rfl (fun _ _ _ => ?_); refine goes_oper_k rfl rfl (by k_ne) (fun K hK => ?_); go_simp; refine hK _ _ ⟨?_, ?_⟩; (u_none; intro e he; have hm := mem_listed he; simp [go_sem, *] at hm); clear hK K; try walk_nrm
  refine T.goes1 hn rfl (fun _ _ _ => ?_); rw [stepG_region_end]; simp only [goes_go]; refine ⟨by u_nil, ?_⟩
  refine T.goes1 hn rfl (fun _ _ _ => ?_); rw [stepG_ret']; simp only [goes_go]; refine ⟨by u_nil, ?_⟩
  refine T.turn hls rfl (fun _ _ _ => ?_); refine goes_leave1 rfl rfl Try.func15 rfl ⟨by u_nil, ?_⟩; walk_nrm
  exact T.le (by omega) hT
set_option maxRecDepth 100000 in
set_option maxHeartbeats 16000000 in
/-- All, of what it does not take -/
theorem bad_walk {bb : Bool} {c : Cx} {w : World} {mT : Nat} {d0 : FuncId} {caps : Array Value} {b₀ : Frame} {a₀ : Go.Act} {ops₀ : Array Oper} {i₀ : Nat} {rest₀ : List Nat} {k₀ : List Item} {cs : List Frame} (hn0 : c.Neat) (hb0 : c.Low w) (hmm : ∀ κ ms lb J, c.mem = some (κ, ms, lb, J) → ms = .m0) {a n : Int} (hbad : a < 1 ∨ 8 < a ∨ n < 0 ∨ 4096 < n)
    (hT : T Try.prog Post mT bb c (G (b₀.at (a₀.put ((ops₀[i₀]?).bind (·.dst)) (.tuple #[.slice none 0 0, .int .i64 1])) (.inRegion ops₀ rest₀ :: k₀)) cs) w) : T Try.prog Post (mT + 60) bb c (G ((base 14).at ⟨#[.int .i64 a, .int .i64 n, .func (.func d0) #[] caps, undef, undef, undef, undef, undef, undef, undef, undef, undef, undef, undef, undef, undef, undef, undef, undef, undef, undef, undef, undef, undef, undef, undef, undef, undef, undef, undef, undef, undef, undef, undef, undef, undef], []⟩ [.code (Try.f14.body.getD .skip)]) (b₀.at a₀ (.inRegion ops₀ (i₀ :: rest₀) :: k₀) :: cs)) w := by
  have hlow : ∀ N, w.heap.size ≤ N → ∀ a, c.O a ∨ c.U a ∨ c.Z a → a.block ≠ N := fun N hN a ha e => by have := hb0 a ha; omega
  simp only [Try.f14, Option.getD_some]
  have hn := hn0
  refine T.goes1 hn rfl (fun _ _ _ => ?_); rw [stepG_seq]; simp only [goes_go]; refine ⟨by u_nil, ?_⟩
  refine T.goes1 hn rfl (fun _ _ _ => ?_); rw [stepG_region]; simp only [goes_go, List.size_toArray, List.length_cons, List.length_nil, Nat.reduceAdd, Nat.zero_add, List.range, List.range.loop]; refine ⟨by u_nil, ?_⟩
  refine T.alloc1 true hn hb0 hmm rfl rfl (by k_ne) (fun N => .pointer (some ⟨N, 0, none⟩)) #[.int .i64 n] 3 (fun w1 => ⟨by go_simp, by simp [go_sem]⟩) (fun w1 N1 g1 l1 hn1 hb1 fx1 nw1 ho1 => ?_)
  have hf1 := (fx1 [] (Facts.nil _ _)).cons (A := ⟨N1, 0, none⟩) (v := .int .i64 n) (.inl (.inr rfl)) (nw1 0 _ rfl).1 (nw1 0 _ rfl).2
  clear fx1 nw1
  walk_nrm
  refine T.alloc1 true hn1 hb1 hmm rfl rfl (by k_ne) (fun N => .pointer (some ⟨N, 0, none⟩)) #[.func (.func d0) #[] caps] 38 (fun w1 => ⟨by go_simp, by simp [go_sem]⟩) (fun w2 N2 g2 l2 hn2 hb2 fx2 nw2 ho2 => ?_)
  have hf2 := fx2 _ hf1
  replace hT := hT.hold (ho1.trans (ho2.sub (fun a ha => Cx.with_cells ha)))
  have ho1s := ho1.size
  clear fx2 nw2 ho2 hf1 ho1
  have hA : Less ((c.with true N1).with true N2) { c with Z := fun a => c.Z a ∨ a.block = N1 ∨ a.block = N2 } := ⟨fun a ha => ha.elim (fun h => .inl (.inl (.inl h))) .inr, fun a h => h, hn0.ou, fun a hz => by
      have g3 : w.heap.size ≤ N2 := Nat.le_trans ho1s g2
      rcases hz with h | h | h
      · exact hn0.oz a h
      · exact ⟨fun x => hlow N1 g1 a (.inl x) h, fun x => hlow N1 g1 a (.inr (.inl x)) h⟩
      · exact ⟨fun x => hlow N2 g3 a (.inl x) h, fun x => hlow N2 g3 a (.inr (.inl x)) h⟩, fun a hz => by
      rcases hz with h | h | h
      · exact .inl h
      · exact .inr (.inl (.inl (.inr h)))
      · exact .inr (.inl (.inr h)), rfl, rfl, rfl, hmm⟩
  walk_nrm
  refine T.turn hA rfl (fun _ _ _ => ?_); refine goes_oper_k rfl rfl (by k_ne) (fun K hK => ?_); go_simp; refine hK _ _ ⟨?_, ?_⟩; (u_none; intro e he; have hm := mem_listed he; simp [go_sem, *] at hm); clear hK K; try walk_nrm
  replace hn := hA.neat
  have vN : w2.cell? ⟨N1, 0, none⟩ = some (.int .i64 n) := (hf2 (⟨N1, 0, none⟩, .int .i64 n) (by simp)).2.1
  have hls : Less { c with Z := fun a => c.Z a ∨ a.block = N1 ∨ a.block = N2 } c := ⟨fun a h => h, fun a h => h, hn0.ou, hn0.oz, fun a h => .inl (.inl h), rfl, rfl, rfl, hmm⟩
  clear hf2 hn1 hb1 hn2 hb2 hlow
  refine T.goes1 hn rfl (fun _ _ _ => ?_); refine goes_oper_k rfl rfl (by k_ne) (fun K hK => ?_); go_simp; refine hK _ _ ⟨?_, ?_⟩; (u_none; intro e he; have hm := mem_listed he; simp [go_sem, *] at hm); clear hK K; try walk_nrm
  refine T.goes1 hn rfl (fun _ _ _ => ?_); rw [stepG_region_end]; simp only [goes_go]; refine ⟨by u_nil, ?_⟩
  refine T.goes1 hn rfl (fun _ _ _ => ?_); rw [stepG_seq]; simp only [goes_go]; refine ⟨by u_nil, ?_⟩
  refine T.goes1 hn rfl (fun _ _ _ => ?_); rw [stepG_seq]; simp only [goes_go]; refine ⟨by u_nil, ?_⟩
  refine T.goes1 hn rfl (fun _ _ _ => ?_); rw [stepG_region]; simp only [goes_go, List.size_toArray, List.length_cons, List.length_nil, Nat.reduceAdd, Nat.zero_add, List.range, List.range.loop]; refine ⟨by u_nil, ?_⟩
  by_cases h1 : a < 1
  · refine T.goes1 hn rfl (fun _ _ _ => ?_); refine goes_oper_k rfl rfl (by k_ne) (fun K hK => ?_); go_simp; refine hK _ _ ⟨?_, ?_⟩; (u_none; intro e he; have hm := mem_listed he; simp [go_sem, *] at hm); clear hK K; try walk_nrm
    refine T.goes1 hn rfl (fun _ _ _ => ?_); refine goes_oper_k rfl rfl (by k_ne) (fun K hK => ?_); go_simp; refine hK _ _ ⟨?_, ?_⟩; (u_none; intro e he; have hm := mem_listed he; simp [go_sem, *] at hm); clear hK K; try walk_nrm
    refine T.goes1 hn rfl (fun _ _ _ => ?_); refine goes_oper_k rfl rfl (by k_ne) (fun K hK => ?_); go_simp; refine hK _ _ ⟨?_, ?_⟩; (u_none; intro e he; have hm := mem_listed he; simp [go_sem, *] at hm); clear hK K; try walk_nrm
    refine T.goes1 hn rfl (fun _ _ _ => ?_); rw [stepG_unwanted rfl rfl]; simp only [goes_go]; refine ⟨by u_nil, ?_⟩; walk_nrm
    refine T.goes1 hn rfl (fun _ _ _ => ?_); rw [stepG_unwanted rfl rfl]; simp only [goes_go]; refine ⟨by u_nil, ?_⟩; walk_nrm
    refine T.goes1 hn rfl (fun _ _ _ => ?_); refine goes_oper_k rfl rfl (by k_ne) (fun K hK => ?_); go_simp; refine hK _ _ ⟨?_, ?_⟩; (u_none; intro e he; have hm := mem_listed he; simp [go_sem, *] at hm); clear hK K; try walk_nrm
    refine T.goes1 hn rfl (fun _ _ _ => ?_); refine goes_oper_k rfl rfl (by k_ne) (fun K hK => ?_); go_simp; refine hK _ _ ⟨?_, ?_⟩; (u_none; intro e he; have hm := mem_listed he; simp [go_sem, *] at hm); clear hK K; try walk_nrm
    refine T.goes1 hn rfl (fun _ _ _ => ?_); rw [stepG_unwanted rfl rfl]; simp only [goes_go]; refine ⟨by u_nil, ?_⟩; walk_nrm
    refine T.goes1 hn rfl (fun _ _ _ => ?_); rw [stepG_unwanted rfl rfl]; simp only [goes_go]; refine ⟨by u_nil, ?_⟩; walk_nrm
    refine T.goes1 hn rfl (fun _ _ _ => ?_); refine goes_oper_k rfl rfl (by k_ne) (fun K hK => ?_); go_simp; refine hK _ _ ⟨?_, ?_⟩; (u_none; intro e he; have hm := mem_listed he; simp [go_sem, *] at hm); clear hK K; try walk_nrm
    refine T.goes1 hn rfl (fun _ _ _ => ?_); refine goes_oper_k rfl rfl (by k_ne) (fun K hK => ?_); go_simp; refine hK _ _ ⟨?_, ?_⟩; (u_none; intro e he; have hm := mem_listed he; simp [go_sem, *] at hm); clear hK K; try walk_nrm
    refine T.goes1 hn rfl (fun _ _ _ => ?_); rw [stepG_unwanted rfl rfl]; simp only [goes_go]; refine ⟨by u_nil, ?_⟩; walk_nrm
    refine T.goes1 hn rfl (fun _ _ _ => ?_); rw [stepG_unwanted rfl rfl]; simp only [goes_go]; refine ⟨by u_nil, ?_⟩; walk_nrm
    refine T.goes1 hn rfl (fun _ _ _ => ?_); refine goes_oper_k rfl rfl (by k_ne) (fun K hK => ?_); go_simp; refine hK _ _ ⟨?_, ?_⟩; (u_none; intro e he; have hm := mem_listed he; simp [go_sem, *] at hm); clear hK K; try walk_nrm
    refine T.goes1 hn rfl (fun _ _ _ => ?_); rw [stepG_region_end]; simp only [goes_go]; refine ⟨by u_nil, ?_⟩
    refine T.goes1 hn rfl (fun _ _ _ => ?_); rw [stepG_cond (t := true) rfl]; simp only [goes_go, if_true, if_false, Bool.false_eq_true, ↓reduceIte]; refine ⟨by u_nil, ?_⟩
    refine T.goes1 hn rfl (fun _ _ _ => ?_); rw [stepG_seq]; simp only [goes_go]; refine ⟨by u_nil, ?_⟩
    refine T.goes1 hn rfl (fun _ _ _ => ?_); rw [stepG_region]; simp only [goes_go, List.size_toArray, List.length_cons, List.length_nil, Nat.reduceAdd, Nat.zero_add, List.range, List.range.loop]; refine ⟨by u_nil, ?_⟩
    refine T.goes1 hn rfl (fun _ _ _ => ?_); refine goes_oper_k rfl rfl (by k_ne) (fun K hK => ?_); go_simp; refine hK _ _ ⟨?_, ?_⟩; (u_none; intro e he; have hm := mem_listed he; simp [go_sem, *] at hm); clear hK K; try walk_nrm
    refine T.goes1 hn rfl (fun _ _ _ => ?_); refine goes_oper_k rfl rfl (by k_ne) (fun K hK => ?_); go_simp; refine hK _ _ ⟨?_, ?_⟩; (u_none; intro e he; have hm := mem_listed he; simp [go_sem, *] at hm); clear hK K; try walk_nrm
    refine T.goes1 hn rfl (fun _ _ _ => ?_); rw [stepG_region_end]; simp only [goes_go]; refine ⟨by u_nil, ?_⟩
    refine T.goes1 hn rfl (fun _ _ _ => ?_); rw [stepG_ret']; simp only [goes_go]; refine ⟨by u_nil, ?_⟩
    refine T.turn hls rfl (fun _ _ _ => ?_); refine goes_leave2 rfl rfl Try.func14 rfl ⟨by u_nil, ?_⟩; walk_nrm
    exact T.le (by omega) hT
  by_cases h2 : 8 < a
  · refine T.goes1 hn rfl (fun _ _ _ => ?_); refine goes_oper_k rfl rfl (by k_ne) (fun K hK => ?_); go_simp; refine hK _ _ ⟨?_, ?_⟩; (u_none; intro e he; have hm := mem_listed he; simp [go_sem, *] at hm); clear hK K; try walk_nrm
    refine T.goes1 hn rfl (fun _ _ _ => ?_); refine goes_oper_k rfl rfl (by k_ne) (fun K hK => ?_); go_simp; refine hK _ _ ⟨?_, ?_⟩; (u_none; intro e he; have hm := mem_listed he; simp [go_sem, *] at hm); clear hK K; try walk_nrm
    refine T.goes1 hn rfl (fun _ _ _ => ?_); refine goes_oper_k rfl rfl (by k_ne) (fun K hK => ?_); go_simp; refine hK _ _ ⟨?_, ?_⟩; (u_none; intro e he; have hm := mem_listed he; simp [go_sem, *] at hm); clear hK K; try walk_nrm
    refine T.goes1 hn rfl (fun _ _ _ => ?_); refine goes_oper_k rfl rfl (by k_ne) (fun K hK => ?_); go_simp; refine hK _ _ ⟨?_, ?_⟩; (u_none; intro e he; have hm := mem_listed he; simp [go_sem, *] at hm); clear hK K; try walk_nrm
    refine T.goes1 hn rfl (fun _ _ _ => ?_); refine goes_oper_k rfl rfl (by k_ne) (fun K hK => ?_); go_simp; refine hK _ _ ⟨?_, ?_⟩; (u_none; intro e he; have hm := mem_listed he; simp [go_sem, *] at hm); clear hK K; try walk_nrm
    refine T.goes1 hn rfl (fun _ _ _ => ?_); refine goes_oper_k rfl rfl (by k_ne) (fun K hK => ?_); go_simp; refine hK _ _ ⟨?_, ?_⟩; (u_none; intro e he; have hm := mem_listed he; simp [go_sem, *] at hm); clear hK K; try walk_nrm
    refine T.goes1 hn rfl (fun _ _ _ => ?_); refine goes_oper_k rfl rfl (by k_ne) (fun K hK => ?_); go_simp; refine hK _ _ ⟨?_, ?_⟩; (u_none; intro e he; have hm := mem_listed he; simp [go_sem, *] at hm); clear hK K; try walk_nrm
    refine T.goes1 hn rfl (fun _ _ _ => ?_); rw [stepG_unwanted rfl rfl]; simp only [goes_go]; refine ⟨by u_nil, ?_⟩; walk_nrm
    refine T.goes1 hn rfl (fun _ _ _ => ?_); rw [stepG_unwanted rfl rfl]; simp only [goes_go]; refine ⟨by u_nil, ?_⟩; walk_nrm
    refine T.goes1 hn rfl (fun _ _ _ => ?_); refine goes_oper_k rfl rfl (by k_ne) (fun K hK => ?_); go_simp; refine hK _ _ ⟨?_, ?_⟩; (u_none; intro e he; have hm := mem_listed he; simp [go_sem, *] at hm); clear hK K; try walk_nrm
    refine T.goes1 hn rfl (fun _ _ _ => ?_); refine goes_oper_k rfl rfl (by k_ne) (fun K hK => ?_); go_simp; refine hK _ _ ⟨?_, ?_⟩; (u_none; intro e he; have hm := mem_listed he; simp [go_sem, *] at hm); clear hK K; try walk_nrm
    refine T.goes1 hn rfl (fun _ _ _ => ?_); rw [stepG_unwanted rfl rfl]; simp only [goes_go]; refine ⟨by u_nil, ?_⟩; walk_nrm
    refine T.goes1 hn rfl (fun _ _ _ => ?_); rw [stepG_unwanted rfl rfl]; simp only [goes_go]; refine ⟨by u_nil, ?_⟩; walk_nrm
    refine T.goes1 hn rfl (fun _ _ _ => ?_); refine goes_oper_k rfl rfl (by k_ne) (fun K hK => ?_); go_simp; refine hK _ _ ⟨?_, ?_⟩; (u_none; intro e he; have hm := mem_listed he; simp [go_sem, *] at hm); clear hK K; try walk_nrm
    refine T.goes1 hn rfl (fun _ _ _ => ?_); rw [stepG_region_end]; simp only [goes_go]; refine ⟨by u_nil, ?_⟩
    refine T.goes1 hn rfl (fun _ _ _ => ?_); rw [stepG_cond (t := true) rfl]; simp only [goes_go, if_true, if_false, Bool.false_eq_true, ↓reduceIte]; refine ⟨by u_nil, ?_⟩
    refine T.goes1 hn rfl (fun _ _ _ => ?_); rw [stepG_seq]; simp only [goes_go]; refine ⟨by u_nil, ?_⟩
    refine T.goes1 hn rfl (fun _ _ _ => ?_); rw [stepG_region]; simp only [goes_go, List.size_toArray, List.length_cons, List.length_nil, Nat.reduceAdd, Nat.zero_add, List.range, List.range.loop]; refine ⟨by u_nil, ?_⟩
    refine T.goes1 hn rfl (fun _ _ _ => ?_); refine goes_oper_k rfl rfl (by k_ne) (fun K hK => ?_); go_simp; refine hK _ _ ⟨?_, ?_⟩; (u_none; intro e he; have hm := mem_listed he; simp [go_sem, *] at hm); clear hK K; try walk_nrm
    refine T.goes1 hn rfl (fun _ _ _ => ?_); refine goes_oper_k rfl rfl (by k_ne) (fun K hK => ?_); go_simp; refine hK _ _ ⟨?_, ?_⟩; (u_none; intro e he; have hm := mem_listed he; simp [go_sem, *] at hm); clear hK K; try walk_nrm
    refine T.goes1 hn rfl (fun _ _ _ => ?_); rw [stepG_region_end]; simp only [goes_go]; refine ⟨by u_nil, ?_⟩
    refine T.goes1 hn rfl (fun _ _ _ => ?_); rw [stepG_ret']; simp only [goes_go]; refine ⟨by u_nil, ?_⟩
    refine T.turn hls rfl (fun _ _ _ => ?_); refine goes_leave2 rfl rfl Try.func14 rfl ⟨by u_nil, ?_⟩; walk_nrm
    exact T.le (by omega) hT
  by_cases h3 : n < 0
  · refine T.goes1 hn rfl (fun _ _ _ => ?_); refine goes_oper_k rfl rfl (by k_ne) (fun K hK => ?_); go_simp; refine hK _ _ ⟨?_, ?_⟩; (u_none; intro e he; have hm := mem_listed he; simp [go_sem, *] at hm); clear hK K; try walk_nrm
    refine T.goes1 hn rfl (fun _ _ _ => ?_); refine goes_oper_k rfl rfl (by k_ne) (fun K hK => ?_); go_simp; refine hK _ _ ⟨?_, ?_⟩; (u_none; intro e he; have hm := mem_listed he; simp [go_sem, *] at hm); clear hK K; try walk_nrm
    refine T.goes1 hn rfl (fun _ _ _ => ?_); refine goes_oper_k rfl rfl (by k_ne) (fun K hK => ?_); go_simp; refine hK _ _ ⟨?_, ?_⟩; (u_none; intro e he; have hm := mem_listed he; simp [go_sem, *] at hm); clear hK K; try walk_nrm
    refine T.goes1 hn rfl (fun _ _ _ => ?_); refine goes_oper_k rfl rfl (by k_ne) (fun K hK => ?_); go_simp; refine hK _ _ ⟨?_, ?_⟩; (u_none; intro e he; have hm := mem_listed he; simp [go_sem, *] at hm); clear hK K; try walk_nrm
    refine T.goes1 hn rfl (fun _ _ _ => ?_); refine goes_oper_k rfl rfl (by k_ne) (fun K hK => ?_); go_simp; refine hK _ _ ⟨?_, ?_⟩; (u_none; intro e he; have hm := mem_listed he; simp [go_sem, *] at hm); clear hK K; try walk_nrm
    refine T.goes1 hn rfl (fun _ _ _ => ?_); refine goes_oper_k rfl rfl (by k_ne) (fun K hK => ?_); go_simp; refine hK _ _ ⟨?_, ?_⟩; (u_none; intro e he; have hm := mem_listed he; simp [go_sem, *] at hm); clear hK K; try walk_nrm
    refine T.goes1 hn rfl (fun _ _ _ => ?_); refine goes_oper_k rfl rfl (by k_ne) (fun K hK => ?_); go_simp; refine hK _ _ ⟨?_, ?_⟩; (u_none; intro e he; have hm := mem_listed he; simp [go_sem, *] at hm); clear hK K; try walk_nrm
    refine T.quiet hn rfl rfl (by k_ne) (fun w₁ hF hL K hK => ?_); have fc := (hF.cell _ (.inr (.inr (.inr (.inl rfl))))).1.trans (vN); go_simp; refine hK _ ?_ ?_; (intro e he; simp [go_sem, *] at he; subst he; exact EvOk.rd false (.inr (.inr (.inl rfl)))); clear hK K fc; try walk_nrm
    refine T.goes1 hn rfl (fun _ _ _ => ?_); refine goes_oper_k rfl rfl (by k_ne) (fun K hK => ?_); go_simp; refine hK _ _ ⟨?_, ?_⟩; (u_none; intro e he; have hm := mem_listed he; simp [go_sem, *] at hm); clear hK K; try walk_nrm
    refine T.goes1 hn rfl (fun _ _ _ => ?_); refine goes_oper_k rfl rfl (by k_ne) (fun K hK => ?_); go_simp; refine hK _ _ ⟨?_, ?_⟩; (u_none; intro e he; have hm := mem_listed he; simp [go_sem, *] at hm); clear hK K; try walk_nrm
    refine T.goes1 hn rfl (fun _ _ _ => ?_); refine goes_oper_k rfl rfl (by k_ne) (fun K hK => ?_); go_simp; refine hK _ _ ⟨?_, ?_⟩; (u_none; intro e he; have hm := mem_listed he; simp [go_sem, *] at hm); clear hK K; try walk_nrm
    refine T.goes1 hn rfl (fun _ _ _ => ?_); rw [stepG_unwanted rfl rfl]; simp only [goes_go]; refine ⟨by u_nil, ?_⟩; walk_nrm
    refine T.goes1 hn rfl (fun _ _ _ => ?_); rw [stepG_unwanted rfl rfl]; simp only [goes_go]; refine ⟨by u_nil, ?_⟩; walk_nrm
    refine T.goes1 hn rfl (fun _ _ _ => ?_); refine goes_oper_k rfl rfl (by k_ne) (fun K hK => ?_); go_simp; refine hK _ _ ⟨?_, ?_⟩; (u_none; intro e he; have hm := mem_listed he; simp [go_sem, *] at hm); clear hK K; try walk_nrm
    refine T.goes1 hn rfl (fun _ _ _ => ?_); rw [stepG_region_end]; simp only [goes_go]; refine ⟨by u_nil, ?_⟩
    refine T.goes1 hn rfl (fun _ _ _ => ?_); rw [stepG_cond (t := true) rfl]; simp only [goes_go, if_true, if_false, Bool.false_eq_true, ↓reduceIte]; refine ⟨by u_nil, ?_⟩
    refine T.goes1 hn rfl (fun _ _ _ => ?_); rw [stepG_seq]; simp only [goes_go]; refine ⟨by u_nil, ?_⟩
    refine T.goes1 hn rfl (fun _ _ _ => ?_); rw [stepG_region]; simp only [goes_go, List.size_toArray, List.length_cons, List.length_nil, Nat.reduceAdd, Nat.zero_add, List.range, List.range.loop]; refine ⟨by u_nil, ?_⟩
    refine T.goes1 hn rfl (fun _ _ _ => ?_); refine goes_oper_k rfl rfl (by k_ne) (fun K hK => ?_); go_simp; refine hK _ _ ⟨?_, ?_⟩; (u_none; intro e he; have hm := mem_listed he; simp [go_sem, *] at hm); clear hK K; try walk_nrm
    refine T.goes1 hn rfl (fun _ _ _ => ?_); refine goes_oper_k rfl rfl (by k_ne) (fun K hK => ?_); go_simp; refine hK _ _ ⟨?_, ?_⟩; (u_none; intro e he; have hm := mem_listed he; simp [go_sem, *] at hm); clear hK K; try walk_nrm
    refine T.goes1 hn rfl (fun _ _ _ => ?_); rw [stepG_region_end]; simp only [goes_go]; refine ⟨by u_nil, ?_⟩
    refine T.goes1 hn rfl (fun _ _ _ => ?_); rw [stepG_ret']; simp only [goes_go]; refine ⟨by u_nil, ?_⟩
    refine T.turn hls rfl (fun _ _ _ => ?_); refine goes_leave2 rfl rfl Try.func14 rfl ⟨by u_nil, ?_⟩; walk_nrm
    exact T.le (by omega) hT
  have h4 : 4096 < n := by omega
  refine T.goes1 hn rfl (fun _ _ _ => ?_); refine goes_oper_k rfl rfl (by k_ne) (fun K hK => ?_); go_simp; refine hK _ _ ⟨?_, ?_⟩; (u_none; intro e he; have hm := mem_listed he; simp [go_sem, *] at hm); clear hK K; try walk_nrm
  refine T.goes1 hn rfl (fun _ _ _ => ?_); refine goes_oper_k rfl rfl (by k_ne) (fun K hK => ?_); go_simp; refine hK _ _ ⟨?_, ?_⟩; (u_none; intro e he; have hm := mem_listed he; simp [go_sem, *] at hm); clear hK K; try walk_nrm
  refine T.goes1 hn rfl (fun _ _ _ => ?_); refine goes_oper_k rfl rfl (by k_ne) (fun K hK => ?_); go_simp; refine hK _ _ ⟨?_, ?_⟩; (u_none; intro e he; have hm := mem_listed he; simp [go_sem, *] at hm); clear hK K; try walk_nrm
  refine T.goes1 hn rfl (fun _ _ _ => ?_); refine goes_oper_k rfl rfl (by k_ne) (fun K hK => ?_); go_simp; refine hK _ _ ⟨?_, ?_⟩; (u_none; intro e he; have hm := mem_listed he; simp [go_sem, *] at hm); clear hK K; try walk_nrm
  refine T.goes1 hn rfl (fun _ _ _ => ?_); refine goes_oper_k rfl rfl (by k_ne) (fun K hK => ?_); go_simp; refine hK _ _ ⟨?_, ?_⟩; (u_none; intro e he; have hm := mem_listed he; simp [go_sem, *] at hm); clear hK K; try walk_nrm
  refine T.goes1 hn rfl (fun _ _ _ => ?_); refine goes_oper_k rfl rfl (by k_ne) (fun K hK => ?_); go_simp; refine hK _ _ ⟨?_, ?_⟩; (u_none; intro e he; have hm := mem_listed he; simp [go_sem, *] at hm); clear hK K; try walk_nrm
  refine T.goes1 hn rfl (fun _ _ _ => ?_); refine goes_oper_k rfl rfl (by k_ne) (fun K hK => ?_); go_simp; refine hK _ _ ⟨?_, ?_⟩; (u_none; intro e he; have hm := mem_listed he; simp [go_sem, *] at hm); clear hK K; try walk_nrm
  refine T.quiet hn rfl rfl (by k_ne) (fun w₁ hF hL K hK => ?_); have fc := (hF.cell _ (.inr (.inr (.inr (.inl rfl))))).1.trans (vN); go_simp; refine hK _ ?_ ?_; (intro e he; simp [go_sem, *] at he; subst he; exact EvOk.rd false (.inr (.inr (.inl rfl)))); clear hK K fc; try walk_nrm
  refine T.goes1 hn rfl (fun _ _ _ => ?_); refine goes_oper_k rfl rfl (by k_ne) (fun K hK => ?_); go_simp; refine hK _ _ ⟨?_, ?_⟩; (u_none; intro e he; have hm := mem_listed he; simp [go_sem, *] at hm); clear hK K; try walk_nrm
  refine T.goes1 hn rfl (fun _ _ _ => ?_); refine goes_oper_k rfl rfl (by k_ne) (fun K hK => ?_); go_simp; refine hK _ _ ⟨?_, ?_⟩; (u_none; intro e he; have hm := mem_listed he; simp [go_sem, *] at hm); clear hK K; try walk_nrm
  refine T.goes1 hn rfl (fun _ _ _ => ?_); refine goes_oper_k rfl rfl (by k_ne) (fun K hK => ?_); go_simp; refine hK _ _ ⟨?_, ?_⟩; (u_none; intro e he; have hm := mem_listed he; simp [go_sem, *] at hm); clear hK K; try walk_nrm
  refine T.quiet hn rfl rfl (by k_ne) (fun w₁ hF hL K hK => ?_); have fc := (hF.cell _ (.inr (.inr (.inr (.inl rfl))))).1.trans (vN); go_simp; refine hK _ ?_ ?_; (intro e he; simp [go_sem, *] at he; subst he; exact EvOk.rd false (.inr (.inr (.inl rfl)))); clear hK K fc; try walk_nrm
  refine T.goes1 hn rfl (fun _ _ _ => ?_); refine goes_oper_k rfl rfl (by k_ne) (fun K hK => ?_); go_simp; refine hK _ _ ⟨?_, ?_⟩; (u_none; intro e he; have hm := mem_listed he; simp [go_sem, *] at hm); clear hK K; try walk_nrm
  refine T.goes1 hn rfl (fun _ _ _ => ?_); refine goes_oper_k rfl rfl (by k_ne) (fun K hK => ?_); go_simp; refine hK _ _ ⟨?_, ?_⟩; (u_none; intro e he; have hm := mem_listed he; simp [go_sem, *] at hm); clear hK K; try walk_nrm
  refine T.goes1 hn rfl (fun _ _ _ => ?_); rw [stepG_region_end]; simp only [goes_go]; refine ⟨by u_nil, ?_⟩
  refine T.goes1 hn rfl (fun _ _ _ => ?_); rw [stepG_cond (t := true) rfl]; simp only [goes_go, if_true, if_false, Bool.false_eq_true, ↓reduceIte]; refine ⟨by u_nil, ?_⟩
  refine T.goes1 hn rfl (fun _ _ _ => ?_); rw [stepG_seq]; simp only [goes_go]; refine ⟨by u_nil, ?_⟩
  refine T.goes1 hn rfl (fun _ _ _ => ?_); rw [stepG_region]; simp only [goes_go, List.size_toArray, List.length_cons, List.length_nil, Nat.reduceAdd, Nat.zero_add, List.range, List.range.loop]; refine ⟨by u_nil, ?_⟩
  refine T.goes1 hn rfl (fun _ _ _ => ?_); refine goes_oper_k rfl rfl (by k_ne) (fun K hK => ?_); go_simp; refine hK _ _ ⟨?_, ?_⟩; (u_none; intro e he; have hm := mem_listed he; simp [go_sem, *] at hm); clear hK K; try walk_nrm
  refine T.goes1 hn rfl (fun _ _ _ => ?_); refine goes_oper_k rfl rfl (by k_ne) (fun K hK => ?_); go_simp; refine hK _ _ ⟨?_, ?_⟩; (u_none; intro e he; have hm := mem_listed he; simp [go_sem, *] at hm); clear hK K; try walk_nrm
  refine T.goes1 hn rfl (fun _ _ _ => ?_); rw [stepG_region_end]; simp only [goes_go]; refine ⟨by u_nil, ?_⟩
  refine T.goes1 hn rfl (fun _ _ _ => ?_); rw [stepG_ret']; simp only [goes_go]; refine ⟨by u_nil, ?_⟩
  refine T.turn hls rfl (fun _ _ _ => ?_); refine goes_leave2 rfl rfl Try.func14 rfl ⟨by u_nil, ?_⟩; walk_nrm
  exact T.le (by omega) hT
end Go.Proofs.Ytidadgibhmiojaa
