/- Counter.Add(1) by one of a crew. -/
import Derived.Test.YtidadgibhmiojaaGs
import Derived.Test.YtidadgibhmiojaaLk
set_option linter.unusedSimpArgs false
set_option linter.unusedVariables false
namespace Go.Proofs.Ytidadgibhmiojaa
open Go.Conc Go.RowKit Go.Conc.Lib Go.ConcR.Gen Go.ConcN.Gen Go.Farm
open Go.ConcR (DC0)
variable {Post : Value → World → Prop}

set_option maxRecDepth 100000 in
set_option maxHeartbeats 8000000 in
/-- a worker draws a ticket -/
theorem tick_walk {c : Cx} {κ : Crew} {lb mT : Nat} {J : Nat → Prop} {b₀ : Frame} {a₀ : Go.Act} {ops₀ : Array Oper} {i₀ : Nat} {rest₀ : List Nat} {k₀ : List Item} {cs : List Frame} {w : World} (hn : c.Neat) (hm : c.mem = some (κ, .m0, lb, J)) (hp : c.par = none) (hlb : lb ≤ κ.n)
    (hd : ∀ a, c.O a ∨ c.U a ∨ c.Z a → a ≠ κ.cn) (hx : ∀ j, lb ≤ j → j < κ.n → ¬ c.O (κ.cell j) ∧ ¬ c.Z (κ.cell j))
    (h1 : ∀ w' j, Hold c w w' → lb ≤ j → j < κ.n → T Try.prog Post mT false { c with U := fun a => c.U a ∨ a = κ.cell j, mem := some (κ, .m0, j + 1, fun i => J i ∨ i = j) } (G (b₀.at (a₀.put ((ops₀[i₀]?).bind (·.dst)) ((.int .i64 ((j + 1 : Nat) : Int)))) (.inRegion ops₀ rest₀ :: k₀)) cs) w')
    (h2 : ∀ w' j, Hold c w w' → κ.n ≤ j → j ≤ 4194304 → T Try.prog Post mT false { c with mem := some (κ, .m0, j + 1, J) } (G (b₀.at (a₀.put ((ops₀[i₀]?).bind (·.dst)) ((.int .i64 ((j + 1 : Nat) : Int)))) (.inRegion ops₀ rest₀ :: k₀)) cs) w') :
    T Try.prog Post (mT + 60) false c (G ((base 10).at ⟨#[.pointer (some ⟨κ.Cn, 0, none⟩), .int .i64 1, undef, undef, undef, undef, undef, undef, undef, undef], []⟩ [.code (Try.f10.body.getD .skip)]) (b₀.at a₀ (.inRegion ops₀ (i₀ :: rest₀) :: k₀) :: cs)) w := by
  simp only [Try.f10, Option.getD_some]
  refine T.goes1 hn rfl (fun _ _ _ => ?_); rw [stepG_seq]; simp only [goes_go]; refine ⟨by u_nil, ?_⟩
  refine T.goes1 hn rfl (fun _ _ _ => ?_); rw [stepG_region]; simp only [goes_go, List.size_toArray, List.length_cons, List.length_nil, Nat.reduceAdd, Nat.zero_add, List.range, List.range.loop]; refine ⟨by u_nil, ?_⟩
  refine T.goes1 hn rfl (fun _ _ _ => ?_); refine goes_oper_k rfl rfl (by k_ne) (fun K hK => ?_); go_simp; refine hK _ _ ⟨?_, ?_⟩; (u_none; intro e he; have hm := mem_listed he; simp [go_sem, *] at hm); clear hK K; try walk_nrm
  refine T.goes1 hn rfl (fun _ _ _ => ?_); rw [stepG_region_end]; simp only [goes_go]; refine ⟨by u_nil, ?_⟩
  refine T.goes1 hn rfl (fun _ _ _ => ?_); rw [stepG_seq]; simp only [goes_go]; refine ⟨by u_nil, ?_⟩
  refine T.goes1 hn rfl (fun _ _ _ => ?_); rw [stepG_region]; simp only [goes_go, List.size_toArray, List.length_cons, List.length_nil, Nat.reduceAdd, Nat.zero_add, List.range, List.range.loop]; refine ⟨by u_nil, ?_⟩
  refine T.goes1 hn rfl (fun _ _ _ => ?_); refine goes_oper_k rfl rfl (by k_ne) (fun K hK => ?_); go_simp; refine hK _ _ ⟨?_, ?_⟩; (u_none; intro e he; have hm := mem_listed he; simp [go_sem, *] at hm); clear hK K; try walk_nrm
  refine T.goes1 hn rfl (fun _ _ _ => ?_); refine goes_oper_k rfl rfl (by k_ne) (fun K hK => ?_); go_simp; refine hK _ _ ⟨?_, ?_⟩; (u_none; intro e he; have hm := mem_listed he; simp [go_sem, *] at hm); clear hK K; try walk_nrm
  refine T.goes1 hn rfl (fun _ _ _ => ?_); refine goes_oper_k rfl rfl (by k_ne) (fun K hK => ?_); go_simp; refine hK _ _ ⟨?_, ?_⟩; (u_none; intro e he; have hm := mem_listed he; simp [go_sem, *] at hm); clear hK K; try walk_nrm
  refine T.goes1 hn rfl (fun _ _ _ => ?_); refine goes_oper_k rfl rfl (by k_ne) (fun K hK => ?_); go_simp; refine hK _ _ ⟨?_, ?_⟩; (u_none; intro e he; have hm := mem_listed he; simp [go_sem, *] at hm); clear hK K; try walk_nrm
  refine T.goes1 hn rfl (fun _ _ _ => ?_); refine goes_call rfl rfl (by k_ne) rfl Try.func25 (by kernel_rfl) rfl ⟨by u_nil, ?_⟩; walk_nrmf Try.f25
  refine T.goes1 hn rfl (fun _ _ _ => ?_); rw [stepG_seq]; simp only [goes_go]; refine ⟨by u_nil, ?_⟩
  refine T.goes1 hn rfl (fun _ _ _ => ?_); rw [stepG_region]; simp only [goes_go, List.size_toArray, List.length_cons, List.length_nil, Nat.reduceAdd, Nat.zero_add, List.range, List.range.loop]; refine ⟨by u_nil, ?_⟩
  refine T.goes1 hn rfl (fun _ _ _ => ?_); refine goes_oper_k rfl rfl (by k_ne) (fun K hK => ?_); go_simp; refine hK _ _ ⟨?_, ?_⟩; (u_none; intro e he; have hm := mem_listed he; simp [go_sem, *] at hm); clear hK K; try walk_nrm
  refine T.goes1 hn rfl (fun _ _ _ => ?_); rw [stepG_region_end]; simp only [goes_go]; refine ⟨by u_nil, ?_⟩
  refine T.goes1 hn rfl (fun _ _ _ => ?_); rw [stepG_seq]; simp only [goes_go]; refine ⟨by u_nil, ?_⟩
  refine T.goes1 hn rfl (fun _ _ _ => ?_); rw [stepG_region]; simp only [goes_go, List.size_toArray, List.length_cons, List.length_nil, Nat.reduceAdd, Nat.zero_add, List.range, List.range.loop]; refine ⟨by u_nil, ?_⟩
  refine T.goes1 hn rfl (fun _ _ _ => ?_); refine goes_oper_k rfl rfl (by k_ne) (fun K hK => ?_); go_simp; refine hK _ _ ⟨?_, ?_⟩; (u_none; intro e he; have hm := mem_listed he; simp [go_sem, *] at hm); clear hK K; try walk_nrm
  refine T.goes1 hn rfl (fun _ _ _ => ?_); refine goes_oper_k rfl rfl (by k_ne) (fun K hK => ?_); go_simp; refine hK _ _ ⟨?_, ?_⟩; (u_none; intro e he; have hm := mem_listed he; simp [go_sem, *] at hm); clear hK K; try walk_nrm
  refine T.goes1 hn rfl (fun _ _ _ => ?_); refine goes_oper_k rfl rfl (by k_ne) (fun K hK => ?_); go_simp; refine hK _ _ ⟨?_, ?_⟩; (u_none; intro e he; have hm := mem_listed he; simp [go_sem, *] at hm); clear hK K; try walk_nrm
  refine T.goes1 hn rfl (fun _ _ _ => ?_); refine goes_oper_k rfl rfl (by k_ne) (fun K hK => ?_); go_simp; refine hK _ _ ⟨?_, ?_⟩; (u_none; intro e he; have hm := mem_listed he; simp [go_sem, *] at hm); clear hK K; try walk_nrm
  refine T.le (m := (mT + 20) + 1) (by omega) (Act.tick κ lb J hm hp hlb rfl (fun w1 r j h3 h4 h5 h6 => ?_))
  have e0 : IntKind.i64.wrap ((j : Int) + 1) = ((j + 1 : Nat) : Int) := by rw [IntKind.wrap_i64]; omega
  have hw : ∀ x, Hold c w (w1.setCell κ.cn x) := fun x => ⟨by rw [World.size_setCell]; exact r.size, fun a ha => ⟨(World.cell?_setCell_other _ _ _ _ (Ne.symm (hd a ha))).trans (r.cell a ha).1, (World.frozen?_setCell _ _ _ _).trans (r.cell a ha).2⟩, r.grow.trans (Grow.set _ _ _)⟩
  refine ⟨_, (stepG_add_atomic rfl rfl (by k_ne) rfl Try.func37 (by kernel_rfl) (by kernel_rfl) (by kernel_rfl) .i64 (by kernel_rfl) rfl rfl h5 h6).trans (by rw [e0]; rfl), fun hj => ?_, fun hj => ?_⟩
  · replace h1 := h1 _ j (hw (.int .i64 ((j + 1 : Nat) : Int))) h3 hj
    replace hn : Cx.Neat { c with U := fun a => c.U a ∨ a = κ.cell j, mem := some (κ, .m0, j + 1, fun i => J i ∨ i = j) } := ⟨fun a ha hu => hu.elim (hn.ou a ha) (fun e => (hx j h3 hj).1 (e ▸ ha)), fun a ha => ⟨(hn.oz a ha).1, fun hu => hu.elim (hn.oz a ha).2 (fun e => (hx j h3 hj).2 (e ▸ ha))⟩⟩
    clear h2 hw
    generalize w1.setCell κ.cn (.int .i64 ((j + 1 : Nat) : Int)) = w2 at h1 ⊢
    generalize ((j + 1 : Nat) : Int) = v at h1 ⊢
    walk_nrm
    refine T.goes1 hn rfl (fun _ _ _ => ?_); refine goes_oper_k rfl rfl (by k_ne) (fun K hK => ?_); go_simp; refine hK _ _ ⟨?_, ?_⟩; (u_none; intro e he; have hm := mem_listed he; simp [go_sem, *] at hm); clear hK K; try walk_nrm
    refine T.goes1 hn rfl (fun _ _ _ => ?_); rw [stepG_region_end]; simp only [goes_go]; refine ⟨by u_nil, ?_⟩
    refine T.goes1 hn rfl (fun _ _ _ => ?_); rw [stepG_ret']; simp only [goes_go]; refine ⟨by u_nil, ?_⟩
    refine T.goes1 hn rfl (fun _ _ _ => ?_); refine goes_leave1 rfl rfl Try.func25 rfl ⟨by u_nil, ?_⟩; walk_nrm
    refine T.goes1 hn rfl (fun _ _ _ => ?_); refine goes_oper_k rfl rfl (by k_ne) (fun K hK => ?_); go_simp; refine hK _ _ ⟨?_, ?_⟩; (u_none; intro e he; have hm := mem_listed he; simp [go_sem, *] at hm); clear hK K; try walk_nrm
    refine T.goes1 hn rfl (fun _ _ _ => ?_); rw [stepG_region_end]; simp only [goes_go]; refine ⟨by u_nil, ?_⟩
    refine T.goes1 hn rfl (fun _ _ _ => ?_); rw [stepG_ret']; simp only [goes_go]; refine ⟨by u_nil, ?_⟩
    refine T.goes1 hn rfl (fun _ _ _ => ?_); refine goes_leave1 rfl rfl Try.func10 rfl ⟨by u_nil, ?_⟩; walk_nrm
    exact T.le (by omega) h1
  · replace h2 := h2 _ j (hw (.int .i64 ((j + 1 : Nat) : Int))) hj h4
    replace hn : Cx.Neat { c with mem := some (κ, .m0, j + 1, J) } := ⟨hn.ou, hn.oz⟩
    clear h1 hw
    generalize w1.setCell κ.cn (.int .i64 ((j + 1 : Nat) : Int)) = w2 at h2 ⊢
    generalize ((j + 1 : Nat) : Int) = v at h2 ⊢
    walk_nrm
    refine T.goes1 hn rfl (fun _ _ _ => ?_); refine goes_oper_k rfl rfl (by k_ne) (fun K hK => ?_); go_simp; refine hK _ _ ⟨?_, ?_⟩; (u_none; intro e he; have hm := mem_listed he; simp [go_sem, *] at hm); clear hK K; try walk_nrm
    refine T.goes1 hn rfl (fun _ _ _ => ?_); rw [stepG_region_end]; simp only [goes_go]; refine ⟨by u_nil, ?_⟩
    refine T.goes1 hn rfl (fun _ _ _ => ?_); rw [stepG_ret']; simp only [goes_go]; refine ⟨by u_nil, ?_⟩
    refine T.goes1 hn rfl (fun _ _ _ => ?_); refine goes_leave1 rfl rfl Try.func25 rfl ⟨by u_nil, ?_⟩; walk_nrm
    refine T.goes1 hn rfl (fun _ _ _ => ?_); refine goes_oper_k rfl rfl (by k_ne) (fun K hK => ?_); go_simp; refine hK _ _ ⟨?_, ?_⟩; (u_none; intro e he; have hm := mem_listed he; simp [go_sem, *] at hm); clear hK K; try walk_nrm
    refine T.goes1 hn rfl (fun _ _ _ => ?_); rw [stepG_region_end]; simp only [goes_go]; refine ⟨by u_nil, ?_⟩
    refine T.goes1 hn rfl (fun _ _ _ => ?_); rw [stepG_ret']; simp only [goes_go]; refine ⟨by u_nil, ?_⟩
    refine T.goes1 hn rfl (fun _ _ _ => ?_); refine goes_leave1 rfl rfl Try.func10 rfl ⟨by u_nil, ?_⟩; walk_nrm
    exact T.le (by omega) h2
end Go.Proofs.Ytidadgibhmiojaa
