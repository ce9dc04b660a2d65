/- Once told; a counter of one's own; known(). -/
import Derived.Test.YtidadgibhmiojaaFh
set_option linter.unusedSimpArgs false
set_option linter.unusedVariables false
namespace Go.Proofs.Ytidadgibhmiojaa
open Go.Conc Go.RowKit Go.Conc.Lib Go.ConcR.Gen Go.ConcN.Gen Go.Farm
open Go.ConcR (DC0)
variable {Post : Value → World → Prop}
set_option maxRecDepth 100000 in
set_option maxHeartbeats 8000000 in
theorem addown_walk {bb : Bool} {c : Cx} {w : World} {mT : Nat} {B : Nat} {v d r : Int} {b₀ : Frame} {a₀ : Go.Act} {ops₀ : Array Oper} {i₀ : Nat} {rest₀ : List Nat} {k₀ : List Item} {cs : List Frame} (hn : c.Neat) (hA : c.O ⟨B, 0, none⟩) (hc : w.cell? ⟨B, 0, none⟩ = some (.int .i64 v)) (hz : w.frozen? ⟨B, 0, none⟩ = false) (hr : IntKind.i64.wrap (v + d) = r)
    (hT : T Try.prog Post mT bb c (G (b₀.at (a₀.put ((ops₀[i₀]?).bind (·.dst)) (.int .i64 r)) (.inRegion ops₀ rest₀ :: k₀)) cs) (w.setCell ⟨B, 0, none⟩ (.int .i64 r))) : T Try.prog Post (mT + 60) bb c (G ((base 10).at ⟨#[.pointer (some ⟨B, 0, none⟩), .int .i64 d, undef, undef, undef, undef, undef, undef, undef, undef], []⟩ [.code (Try.f10.body.getD .skip)]) (b₀.at a₀ (.inRegion ops₀ (i₀ :: rest₀) :: k₀) :: cs)) w := by
  simp only [Try.f10, Option.getD_some]
  refine T.goes1 hn rfl (fun _ _ _ => ?_); rw [stepG_seq]; simp only [goes_go]; refine ⟨by u_nil, ?_⟩
  refine T.goes1 hn rfl (fun _ _ _ => ?_); rw [stepG_region]; simp only [goes_go, List.size_toArray, List.length_cons, List.length_nil, Nat.reduceAdd, Nat.zero_add, List.range, List.range.loop]; refine ⟨by u_nil, ?_⟩
  refine T.goes1 hn rfl (fun _ _ _ => ?_); refine goes_oper_k rfl rfl (by k_ne) (fun K hK => ?_); go_simp; refine hK _ _ ⟨?_, ?_⟩; (u_none; intro e he; have hm := mem_listed he; simp [go_sem, *] at hm); clear hK K; try walk_nrm
  refine T.goes1 hn rfl (fun _ _ _ => ?_); rw [stepG_region_end]; simp only [goes_go]; refine ⟨by u_nil, ?_⟩
  refine T.goes1 hn rfl (fun _ _ _ => ?_); rw [stepG_seq]; simp only [goes_go]; refine ⟨by u_nil, ?_⟩
  refine T.goes1 hn rfl (fun _ _ _ => ?_); rw [stepG_region]; simp only [goes_go, List.size_toArray, List.length_cons, List.length_nil, Nat.reduceAdd, Nat.zero_add, List.range, List.range.loop]; refine ⟨by u_nil, ?_⟩
  refine T.goes1 hn rfl (fun _ _ _ => ?_); refine goes_oper_k rfl rfl (by k_ne) (fun K hK => ?_); go_simp; refine hK _ _ ⟨?_, ?_⟩; (u_none; intro e he; have hm := mem_listed he; simp [go_sem, *] at hm); clear hK K; try walk_nrm
  refine T.goes1 hn rfl (fun _ _ _ => ?_); refine goes_oper_k rfl rfl (by k_ne) (fun K hK => ?_); go_simp; refine hK _ _ ⟨?_, ?_⟩; (u_none; intro e he; have hm := mem_listed he; simp [go_sem, *] at hm); clear hK K; try walk_nrm
  refine T.goes1 hn rfl (fun _ _ _ => ?_); refine goes_oper_k rfl rfl (by k_ne) (fun K hK => ?_); go_simp; refine hK _ _ ⟨?_, ?_⟩; (u_none; intro e he; have hm := mem_listed he; simp [go_sem, *] at hm); clear hK K; try walk_nrm
  refine T.goes1 hn rfl (fun _ _ _ => ?_); refine goes_oper_k rfl rfl (by k_ne) (fun K hK => ?_); go_simp; refine hK _ _ ⟨?_, ?_⟩; (u_none; intro e he; have hm := mem_listed he; simp [go_sem, *] at hm); clear hK K; try walk_nrm
  refine T.goes1 hn rfl (fun _ _ _ => ?_); refine goes_call rfl rfl (by k_ne) rfl Try.func25 (by kernel_rfl) rfl ⟨by u_nil, ?_⟩; walk_nrmf Try.f25
  refine T.goes1 hn rfl (fun _ _ _ => ?_); rw [stepG_seq]; simp only [goes_go]; refine ⟨by u_nil, ?_⟩
  refine T.goes1 hn rfl (fun _ _ _ => ?_); rw [stepG_region]; simp only [goes_go, List.size_toArray, List.length_cons, List.length_nil, Nat.reduceAdd, Nat.zero_add, List.range, List.range.loop]; refine ⟨by u_nil, ?_⟩
  refine T.goes1 hn rfl (fun _ _ _ => ?_); refine goes_oper_k rfl rfl (by k_ne) (fun K hK => ?_); go_simp; refine hK _ _ ⟨?_, ?_⟩; (u_none; intro e he; have hm := mem_listed he; simp [go_sem, *] at hm); clear hK K; try walk_nrm
  refine T.goes1 hn rfl (fun _ _ _ => ?_); rw [stepG_region_end]; simp only [goes_go]; refine ⟨by u_nil, ?_⟩
  refine T.goes1 hn rfl (fun _ _ _ => ?_); rw [stepG_seq]; simp only [goes_go]; refine ⟨by u_nil, ?_⟩
  refine T.goes1 hn rfl (fun _ _ _ => ?_); rw [stepG_region]; simp only [goes_go, List.size_toArray, List.length_cons, List.length_nil, Nat.reduceAdd, Nat.zero_add, List.range, List.range.loop]; refine ⟨by u_nil, ?_⟩
  refine T.goes1 hn rfl (fun _ _ _ => ?_); refine goes_oper_k rfl rfl (by k_ne) (fun K hK => ?_); go_simp; refine hK _ _ ⟨?_, ?_⟩; (u_none; intro e he; have hm := mem_listed he; simp [go_sem, *] at hm); clear hK K; try walk_nrm
  refine T.goes1 hn rfl (fun _ _ _ => ?_); refine goes_oper_k rfl rfl (by k_ne) (fun K hK => ?_); go_simp; refine hK _ _ ⟨?_, ?_⟩; (u_none; intro e he; have hm := mem_listed he; simp [go_sem, *] at hm); clear hK K; try walk_nrm
  refine T.goes1 hn rfl (fun _ _ _ => ?_); refine goes_oper_k rfl rfl (by k_ne) (fun K hK => ?_); go_simp; refine hK _ _ ⟨?_, ?_⟩; (u_none; intro e he; have hm := mem_listed he; simp [go_sem, *] at hm); clear hK K; try walk_nrm
  refine T.goes1 hn rfl (fun _ _ _ => ?_); refine goes_oper_k rfl rfl (by k_ne) (fun K hK => ?_); go_simp; refine hK _ _ ⟨?_, ?_⟩; (u_none; intro e he; have hm := mem_listed he; simp [go_sem, *] at hm); clear hK K; try walk_nrm
  refine T.ownStep hn (A := ⟨B, 0, none⟩) (v := .int .i64 r) hA hc hz rfl (fun w1 h1 h2 => (stepG_add_atomic rfl rfl (by k_ne) rfl Try.func37 (by kernel_rfl) (by kernel_rfl) (by kernel_rfl) .i64 (by kernel_rfl) rfl rfl h1 h2).trans (by rw [hr])) (fun e he => by simp at he; rcases he with rfl | rfl; exact .inr (.inr rfl); exact .inr (.inl rfl)) ?_
  clear hr hc hz
  generalize w.setCell ⟨B, 0, none⟩ (.int .i64 r) = w2 at hT ⊢
  walk_nrm
  refine T.goes1 hn rfl (fun _ _ _ => ?_); refine goes_oper_k rfl rfl (by k_ne) (fun K hK => ?_); go_simp; refine hK _ _ ⟨?_, ?_⟩; (u_none; intro e he; have hm := mem_listed he; simp [go_sem, *] at hm); clear hK K; try walk_nrm
  refine T.goes1 hn rfl (fun _ _ _ => ?_); rw [stepG_region_end]; simp only [goes_go]; refine ⟨by u_nil, ?_⟩
  refine T.goes1 hn rfl (fun _ _ _ => ?_); rw [stepG_ret']; simp only [goes_go]; refine ⟨by u_nil, ?_⟩
  refine T.goes1 hn rfl (fun _ _ _ => ?_); refine goes_leave1 rfl rfl Try.func25 rfl ⟨by u_nil, ?_⟩; walk_nrm
  refine T.goes1 hn rfl (fun _ _ _ => ?_); refine goes_oper_k rfl rfl (by k_ne) (fun K hK => ?_); go_simp; refine hK _ _ ⟨?_, ?_⟩; (u_none; intro e he; have hm := mem_listed he; simp [go_sem, *] at hm); clear hK K; try walk_nrm
  refine T.goes1 hn rfl (fun _ _ _ => ?_); rw [stepG_region_end]; simp only [goes_go]; refine ⟨by u_nil, ?_⟩
  refine T.goes1 hn rfl (fun _ _ _ => ?_); rw [stepG_ret']; simp only [goes_go]; refine ⟨by u_nil, ?_⟩
  refine T.goes1 hn rfl (fun _ _ _ => ?_); refine goes_leave1 rfl rfl Try.func10 rfl ⟨by u_nil, ?_⟩; walk_nrm
  exact T.le (by omega) hT
set_option maxRecDepth 100000 in
set_option maxHeartbeats 8000000 in
theorem value_walk {bb : Bool} {c : Cx} {w : World} {mT : Nat} {B : Nat} {v : Int} {b₀ : Frame} {a₀ : Go.Act} {ops₀ : Array Oper} {i₀ : Nat} {rest₀ : List Nat} {k₀ : List Item} {cs : List Frame} (hn : c.Neat) (hA : c.O ⟨B, 0, none⟩) (hc : w.cell? ⟨B, 0, none⟩ = some (.int .i64 v))
    (hT : T Try.prog Post mT bb c (G (b₀.at (a₀.put ((ops₀[i₀]?).bind (·.dst)) (.int .i64 v)) (.inRegion ops₀ rest₀ :: k₀)) cs) w) : T Try.prog Post (mT + 60) bb c (G ((base 13).at ⟨#[.pointer (some ⟨B, 0, none⟩), undef, undef, undef, undef, undef, undef], []⟩ [.code (Try.f13.body.getD .skip)]) (b₀.at a₀ (.inRegion ops₀ (i₀ :: rest₀) :: k₀) :: cs)) w := by
  simp only [Try.f13, Option.getD_some]
  refine T.goes1 hn rfl (fun _ _ _ => ?_); rw [stepG_seq]; simp only [goes_go]; refine ⟨by u_nil, ?_⟩
  refine T.goes1 hn rfl (fun _ _ _ => ?_); rw [stepG_region]; simp only [goes_go, List.size_toArray, List.length_cons, List.length_nil, Nat.reduceAdd, Nat.zero_add, List.range, List.range.loop]; refine ⟨by u_nil, ?_⟩
  refine T.goes1 hn rfl (fun _ _ _ => ?_); refine goes_oper_k rfl rfl (by k_ne) (fun K hK => ?_); go_simp; refine hK _ _ ⟨?_, ?_⟩; (u_none; intro e he; have hm := mem_listed he; simp [go_sem, *] at hm); clear hK K; try walk_nrm
  refine T.goes1 hn rfl (fun _ _ _ => ?_); rw [stepG_region_end]; simp only [goes_go]; refine ⟨by u_nil, ?_⟩
  refine T.goes1 hn rfl (fun _ _ _ => ?_); rw [stepG_seq]; simp only [goes_go]; refine ⟨by u_nil, ?_⟩
  refine T.goes1 hn rfl (fun _ _ _ => ?_); rw [stepG_region]; simp only [goes_go, List.size_toArray, List.length_cons, List.length_nil, Nat.reduceAdd, Nat.zero_add, List.range, List.range.loop]; refine ⟨by u_nil, ?_⟩
  refine T.goes1 hn rfl (fun _ _ _ => ?_); refine goes_oper_k rfl rfl (by k_ne) (fun K hK => ?_); go_simp; refine hK _ _ ⟨?_, ?_⟩; (u_none; intro e he; have hm := mem_listed he; simp [go_sem, *] at hm); clear hK K; try walk_nrm
  refine T.goes1 hn rfl (fun _ _ _ => ?_); refine goes_oper_k rfl rfl (by k_ne) (fun K hK => ?_); go_simp; refine hK _ _ ⟨?_, ?_⟩; (u_none; intro e he; have hm := mem_listed he; simp [go_sem, *] at hm); clear hK K; try walk_nrm
  refine T.goes1 hn rfl (fun _ _ _ => ?_); refine goes_oper_k rfl rfl (by k_ne) (fun K hK => ?_); go_simp; refine hK _ _ ⟨?_, ?_⟩; (u_none; intro e he; have hm := mem_listed he; simp [go_sem, *] at hm); clear hK K; try walk_nrm
  refine T.goes1 hn rfl (fun _ _ _ => ?_); refine goes_call rfl rfl (by k_ne) rfl Try.func30 (by kernel_rfl) rfl ⟨by u_nil, ?_⟩; walk_nrmf Try.f30
  refine T.goes1 hn rfl (fun _ _ _ => ?_); rw [stepG_seq]; simp only [goes_go]; refine ⟨by u_nil, ?_⟩
  refine T.goes1 hn rfl (fun _ _ _ => ?_); rw [stepG_region]; simp only [goes_go, List.size_toArray, List.length_cons, List.length_nil, Nat.reduceAdd, Nat.zero_add, List.range, List.range.loop]; refine ⟨by u_nil, ?_⟩
  refine T.goes1 hn rfl (fun _ _ _ => ?_); refine goes_oper_k rfl rfl (by k_ne) (fun K hK => ?_); go_simp; refine hK _ _ ⟨?_, ?_⟩; (u_none; intro e he; have hm := mem_listed he; simp [go_sem, *] at hm); clear hK K; try walk_nrm
  refine T.goes1 hn rfl (fun _ _ _ => ?_); rw [stepG_region_end]; simp only [goes_go]; refine ⟨by u_nil, ?_⟩
  refine T.goes1 hn rfl (fun _ _ _ => ?_); rw [stepG_seq]; simp only [goes_go]; refine ⟨by u_nil, ?_⟩
  refine T.goes1 hn rfl (fun _ _ _ => ?_); rw [stepG_region]; simp only [goes_go, List.size_toArray, List.length_cons, List.length_nil, Nat.reduceAdd, Nat.zero_add, List.range, List.range.loop]; refine ⟨by u_nil, ?_⟩
  refine T.goes1 hn rfl (fun _ _ _ => ?_); refine goes_oper_k rfl rfl (by k_ne) (fun K hK => ?_); go_simp; refine hK _ _ ⟨?_, ?_⟩; (u_none; intro e he; have hm := mem_listed he; simp [go_sem, *] at hm); clear hK K; try walk_nrm
  refine T.goes1 hn rfl (fun _ _ _ => ?_); refine goes_oper_k rfl rfl (by k_ne) (fun K hK => ?_); go_simp; refine hK _ _ ⟨?_, ?_⟩; (u_none; intro e he; have hm := mem_listed he; simp [go_sem, *] at hm); clear hK K; try walk_nrm
  refine T.goes1 hn rfl (fun _ _ _ => ?_); refine goes_oper_k rfl rfl (by k_ne) (fun K hK => ?_); go_simp; refine hK _ _ ⟨?_, ?_⟩; (u_none; intro e he; have hm := mem_listed he; simp [go_sem, *] at hm); clear hK K; try walk_nrm
  refine T.ownRead hn (.inl hA) hc rfl (fun w1 h1 => stepG_load_atomic rfl rfl (by k_ne) rfl Try.func56 (by kernel_rfl) (by kernel_rfl) (by kernel_rfl) .i64 (by kernel_rfl) rfl h1) ?_
  walk_nrm
  refine T.goes1 hn rfl (fun _ _ _ => ?_); refine goes_oper_k rfl rfl (by k_ne) (fun K hK => ?_); go_simp; refine hK _ _ ⟨?_, ?_⟩; (u_none; intro e he; have hm := mem_listed he; simp [go_sem, *] at hm); clear hK K; try walk_nrm
  refine T.goes1 hn rfl (fun _ _ _ => ?_); rw [stepG_region_end]; simp only [goes_go]; refine ⟨by u_nil, ?_⟩
  refine T.goes1 hn rfl (fun _ _ _ => ?_); rw [stepG_ret']; simp only [goes_go]; refine ⟨by u_nil, ?_⟩
  refine T.goes1 hn rfl (fun _ _ _ => ?_); refine goes_leave1 rfl rfl Try.func30 rfl ⟨by u_nil, ?_⟩; walk_nrm
  refine T.goes1 hn rfl (fun _ _ _ => ?_); refine goes_oper_k rfl rfl (by k_ne) (fun K hK => ?_); go_simp; refine hK _ _ ⟨?_, ?_⟩; (u_none; intro e he; have hm := mem_listed he; simp [go_sem, *] at hm); clear hK K; try walk_nrm
  refine T.goes1 hn rfl (fun _ _ _ => ?_); rw [stepG_region_end]; simp only [goes_go]; refine ⟨by u_nil, ?_⟩
  refine T.goes1 hn rfl (fun _ _ _ => ?_); rw [stepG_ret']; simp only [goes_go]; refine ⟨by u_nil, ?_⟩
  refine T.goes1 hn rfl (fun _ _ _ => ?_); refine goes_leave1 rfl rfl Try.func13 rfl ⟨by u_nil, ?_⟩; walk_nrm
  exact T.le (by omega) hT
/-- what a Once is, its function known's -/
structure OnceAt (c : Cx) (No Nf Nn Nt : Nat) (d s n v : Int) (w : World) : Prop where
  ne : No ≠ Nf ∧ No ≠ Nn ∧ No ≠ Nt ∧ Nf ≠ Nn ∧ Nf ≠ Nt ∧ Nn ≠ Nt
  own : ∀ a : Addr, a.block = No ∨ a.block = Nf ∨ a.block = Nn ∨ a.block = Nt → c.O a
  cd : w.cell? ⟨No, 0, none⟩ = some (.int .u32 d) ∧ w.frozen? ⟨No, 0, none⟩ = false
  cs : w.cell? ⟨No, 1, none⟩ = some (.int .i32 s) ∧ w.frozen? ⟨No, 1, none⟩ = false
  cf : w.cell? ⟨Nf, 0, none⟩ = some (.func (.func 20) #[] #[.pointer (some ⟨Nn, 0, none⟩)]) ∧ w.frozen? ⟨Nf, 0, none⟩ = false
  cn : w.cell? ⟨Nn, 0, none⟩ = some (.int .i64 n) ∧ w.frozen? ⟨Nn, 0, none⟩ = false
  ct : w.cell? ⟨Nt, 0, none⟩ = some (.int .i64 v) ∧ w.frozen? ⟨Nt, 0, none⟩ = false
section
variable {c : Cx} {No Nf Nn Nt : Nat} {d s n v : Int} {w w1 : World}
theorem OnceAt.hold (h : OnceAt c No Nf Nn Nt d s n v w) (r : Hold c w w1) : OnceAt c No Nf Nn Nt d s n v w1 :=
  have k : ∀ a : Addr, (a.block = No ∨ a.block = Nf ∨ a.block = Nn ∨ a.block = Nt) → w1.cell? a = w.cell? a ∧ w1.frozen? a = w.frozen? a := fun a ha => r.cell a (.inl (h.own a ha))
  ⟨h.ne, h.own, ⟨(k _ (.inl rfl)).1.trans h.cd.1, (k _ (.inl rfl)).2.trans h.cd.2⟩, ⟨(k _ (.inl rfl)).1.trans h.cs.1, (k _ (.inl rfl)).2.trans h.cs.2⟩, ⟨(k _ (.inr (.inl rfl))).1.trans h.cf.1, (k _ (.inr (.inl rfl))).2.trans h.cf.2⟩,
    ⟨(k _ (.inr (.inr (.inl rfl)))).1.trans h.cn.1, (k _ (.inr (.inr (.inl rfl)))).2.trans h.cn.2⟩, ⟨(k _ (.inr (.inr (.inr rfl)))).1.trans h.ct.1, (k _ (.inr (.inr (.inr rfl)))).2.trans h.ct.2⟩⟩
theorem OnceAt.setD (h : OnceAt c No Nf Nn Nt d s n v w) (x : Int) : OnceAt c No Nf Nn Nt x s n v (w.setCell ⟨No, 0, none⟩ (.int .u32 x)) :=
  ⟨h.ne, h.own, ⟨World.cell?_setCell_same _ _ _ h.cd.1, (World.frozen?_setCell _ _ _ _).trans h.cd.2⟩, ⟨(World.cell?_setCell_other _ _ _ _ (fun e => by have e1 := congrArg Addr.block e; have e2 := congrArg Addr.off e; simp at e1 e2 <;> (have := h.ne; omega))).trans h.cs.1, (World.frozen?_setCell _ _ _ _).trans h.cs.2⟩, ⟨(World.cell?_setCell_other _ _ _ _ (fun e => by have e1 := congrArg Addr.block e; have e2 := congrArg Addr.off e; simp at e1 e2 <;> (have := h.ne; omega))).trans h.cf.1, (World.frozen?_setCell _ _ _ _).trans h.cf.2⟩, ⟨(World.cell?_setCell_other _ _ _ _ (fun e => by have e1 := congrArg Addr.block e; have e2 := congrArg Addr.off e; simp at e1 e2 <;> (have := h.ne; omega))).trans h.cn.1, (World.frozen?_setCell _ _ _ _).trans h.cn.2⟩, ⟨(World.cell?_setCell_other _ _ _ _ (fun e => by have e1 := congrArg Addr.block e; have e2 := congrArg Addr.off e; simp at e1 e2 <;> (have := h.ne; omega))).trans h.ct.1, (World.frozen?_setCell _ _ _ _).trans h.ct.2⟩⟩
theorem OnceAt.setS (h : OnceAt c No Nf Nn Nt d s n v w) (x : Int) : OnceAt c No Nf Nn Nt d x n v (w.setCell ⟨No, 1, none⟩ (.int .i32 x)) :=
  ⟨h.ne, h.own, ⟨(World.cell?_setCell_other _ _ _ _ (fun e => by have e1 := congrArg Addr.block e; have e2 := congrArg Addr.off e; simp at e1 e2 <;> (have := h.ne; omega))).trans h.cd.1, (World.frozen?_setCell _ _ _ _).trans h.cd.2⟩, ⟨World.cell?_setCell_same _ _ _ h.cs.1, (World.frozen?_setCell _ _ _ _).trans h.cs.2⟩, ⟨(World.cell?_setCell_other _ _ _ _ (fun e => by have e1 := congrArg Addr.block e; have e2 := congrArg Addr.off e; simp at e1 e2 <;> (have := h.ne; omega))).trans h.cf.1, (World.frozen?_setCell _ _ _ _).trans h.cf.2⟩, ⟨(World.cell?_setCell_other _ _ _ _ (fun e => by have e1 := congrArg Addr.block e; have e2 := congrArg Addr.off e; simp at e1 e2 <;> (have := h.ne; omega))).trans h.cn.1, (World.frozen?_setCell _ _ _ _).trans h.cn.2⟩, ⟨(World.cell?_setCell_other _ _ _ _ (fun e => by have e1 := congrArg Addr.block e; have e2 := congrArg Addr.off e; simp at e1 e2 <;> (have := h.ne; omega))).trans h.ct.1, (World.frozen?_setCell _ _ _ _).trans h.ct.2⟩⟩
theorem OnceAt.setN (h : OnceAt c No Nf Nn Nt d s n v w) (x : Int) : OnceAt c No Nf Nn Nt d s x v (w.setCell ⟨Nn, 0, none⟩ (.int .i64 x)) :=
  ⟨h.ne, h.own, ⟨(World.cell?_setCell_other _ _ _ _ (fun e => by have e1 := congrArg Addr.block e; have e2 := congrArg Addr.off e; simp at e1 e2 <;> (have := h.ne; omega))).trans h.cd.1, (World.frozen?_setCell _ _ _ _).trans h.cd.2⟩, ⟨(World.cell?_setCell_other _ _ _ _ (fun e => by have e1 := congrArg Addr.block e; have e2 := congrArg Addr.off e; simp at e1 e2 <;> (have := h.ne; omega))).trans h.cs.1, (World.frozen?_setCell _ _ _ _).trans h.cs.2⟩, ⟨(World.cell?_setCell_other _ _ _ _ (fun e => by have e1 := congrArg Addr.block e; have e2 := congrArg Addr.off e; simp at e1 e2 <;> (have := h.ne; omega))).trans h.cf.1, (World.frozen?_setCell _ _ _ _).trans h.cf.2⟩, ⟨World.cell?_setCell_same _ _ _ h.cn.1, (World.frozen?_setCell _ _ _ _).trans h.cn.2⟩, ⟨(World.cell?_setCell_other _ _ _ _ (fun e => by have e1 := congrArg Addr.block e; have e2 := congrArg Addr.off e; simp at e1 e2 <;> (have := h.ne; omega))).trans h.ct.1, (World.frozen?_setCell _ _ _ _).trans h.ct.2⟩⟩
theorem OnceAt.setT (h : OnceAt c No Nf Nn Nt d s n v w) (x : Int) : OnceAt c No Nf Nn Nt d s n x (w.setCell ⟨Nt, 0, none⟩ (.int .i64 x)) :=
  ⟨h.ne, h.own, ⟨(World.cell?_setCell_other _ _ _ _ (fun e => by have e1 := congrArg Addr.block e; have e2 := congrArg Addr.off e; simp at e1 e2 <;> (have := h.ne; omega))).trans h.cd.1, (World.frozen?_setCell _ _ _ _).trans h.cd.2⟩, ⟨(World.cell?_setCell_other _ _ _ _ (fun e => by have e1 := congrArg Addr.block e; have e2 := congrArg Addr.off e; simp at e1 e2 <;> (have := h.ne; omega))).trans h.cs.1, (World.frozen?_setCell _ _ _ _).trans h.cs.2⟩, ⟨(World.cell?_setCell_other _ _ _ _ (fun e => by have e1 := congrArg Addr.block e; have e2 := congrArg Addr.off e; simp at e1 e2 <;> (have := h.ne; omega))).trans h.cf.1, (World.frozen?_setCell _ _ _ _).trans h.cf.2⟩, ⟨(World.cell?_setCell_other _ _ _ _ (fun e => by have e1 := congrArg Addr.block e; have e2 := congrArg Addr.off e; simp at e1 e2 <;> (have := h.ne; omega))).trans h.cn.1, (World.frozen?_setCell _ _ _ _).trans h.cn.2⟩, ⟨World.cell?_setCell_same _ _ _ h.ct.1, (World.frozen?_setCell _ _ _ _).trans h.ct.2⟩⟩
end
set_option maxRecDepth 100000 in
set_option maxHeartbeats 8000000 in
theorem first_walk {c : Cx} {w : World} {mT : Nat} {No Nf Nn Nt : Nat} {d s v : Int} {b₀ : Frame} {a₀ : Go.Act} {ops₀ : Array Oper} {i₀ : Nat} {rest₀ : List Nat} {k₀ : List Item} {cs : List Frame} (hn : c.Neat) (hp : c.par = none) (hm : c.mem = none) (hO : OnceAt c No Nf Nn Nt d s 0 v w)
    (hT : T Try.prog Post (mT) true (c) (G (b₀.at (a₀.put ((ops₀[i₀]?).bind (·.dst)) (.tuple #[])) (.inRegion ops₀ rest₀ :: k₀)) cs) ((w.setCell ⟨Nn, 0, none⟩ (.int .i64 1)).setCell ⟨Nt, 0, none⟩ (.int .i64 7))) : T Try.prog Post (mT + 60) true (c) (G ((base 34).at ⟨#[.pointer (some ⟨Nf, 0, none⟩), .pointer (some ⟨Nt, 0, none⟩), undef, undef], []⟩ [.code (Try.f34.body.getD .skip)]) (b₀.at a₀ (.inRegion ops₀ (i₀ :: rest₀) :: k₀) :: cs)) w := by
  have hAf := hO.own ⟨Nf, 0, none⟩ (.inr (.inl rfl))
  have hAn := hO.own ⟨Nn, 0, none⟩ (.inr (.inr (.inl rfl)))
  have hAt := hO.own ⟨Nt, 0, none⟩ (.inr (.inr (.inr rfl)))
  have hO2 := hO.setN 1
  have cf := hO.cf.1
  have cn := hO.cn
  have cn2 := hO2.cn.1
  have ct2 := hO2.ct
  clear hO hO2
  have ew1 : IntKind.i64.wrap 1 = 1 := by decide
  have ew7 : IntKind.i64.wrap 7 = 7 := by decide
  simp only [Try.f34, Option.getD_some]
  refine T.goes1 hn rfl (fun _ _ _ => ?_); rw [stepG_region]; simp only [goes_go, List.size_toArray, List.length_cons, List.length_nil, Nat.reduceAdd, Nat.zero_add, List.range, List.range.loop]; refine ⟨by u_nil, ?_⟩
  refine T.quiet hn rfl rfl (by k_ne) (fun w₁ hF hL K hK => ?_); have fc := (hF.cell _ (.inl (hAf))).1.trans (cf); go_simp; refine hK _ ?_ ?_; (intro e he; simp [go_sem, *] at he; subst he; exact EvOk.rd false (.inl (hAf))); clear hK K fc; try walk_nrm
  refine T.clo hn rfl rfl (by k_ne) rfl rfl Try.func20 (by kernel_rfl) rfl ?_; walk_nrmf Try.f20
  refine T.goes1 hn rfl (fun _ _ _ => ?_); rw [stepG_seq]; simp only [goes_go]; refine ⟨by u_nil, ?_⟩
  refine T.goes1 hn rfl (fun _ _ _ => ?_); rw [stepG_region]; simp only [goes_go, List.size_toArray, List.length_cons, List.length_nil, Nat.reduceAdd, Nat.zero_add, List.range, List.range.loop]; refine ⟨by u_nil, ?_⟩
  refine T.goes1 hn rfl (fun _ _ _ => ?_); refine goes_oper_k rfl rfl (by k_ne) (fun K hK => ?_); go_simp; refine hK _ _ ⟨?_, ?_⟩; (u_none; intro e he; have hm := mem_listed he; simp [go_sem, *] at hm); clear hK K; try walk_nrm
  refine T.goes1 hn rfl (fun _ _ _ => ?_); rw [stepG_region_end]; simp only [goes_go]; refine ⟨by u_nil, ?_⟩
  refine T.goes1 hn rfl (fun _ _ _ => ?_); rw [stepG_seq]; simp only [goes_go]; refine ⟨by u_nil, ?_⟩
  refine T.goes1 hn rfl (fun _ _ _ => ?_); rw [stepG_region]; simp only [goes_go, List.size_toArray, List.length_cons, List.length_nil, Nat.reduceAdd, Nat.zero_add, List.range, List.range.loop]; refine ⟨by u_nil, ?_⟩
  refine T.quiet hn rfl rfl (by k_ne) (fun w₁ hF hL K hK => ?_); have fc := (hF.cell _ (.inl (hAn))).1.trans (cn.1); go_simp; refine hK _ ?_ ?_; (intro e he; simp [go_sem, *] at he; subst he; exact EvOk.rd false (.inl (hAn))); clear hK K fc; try walk_nrm
  refine T.goes1 hn rfl (fun _ _ _ => ?_); refine goes_oper_k rfl rfl (by k_ne) (fun K hK => ?_); go_simp; refine hK _ _ ⟨?_, ?_⟩; (u_none; intro e he; have hm := mem_listed he; simp [go_sem, *] at hm); clear hK K; try walk_nrm
  refine T.store hn (A := ⟨Nn, 0, none⟩) hAn (v := .int .i64 1) cn.1 cn.2 rfl rfl (by k_ne) (fun w1 h1 h2 => ⟨by unfold execOp; simp [go_sem, stored, h1, h2], by unfold execOp; simp [go_sem]; first | (simp [storedEv, h1, h2]; done) | (rw [events_store _ _ _ _ _ _ rfl]; simp [h1, h2])⟩) ?_
  generalize w.setCell ⟨Nn, 0, none⟩ (.int .i64 1) = w2 at hT cn2 ct2 ⊢
  clear cn cf
  walk_nrm
  refine T.goes1 hn rfl (fun _ _ _ => ?_); rw [stepG_region_end]; simp only [goes_go]; refine ⟨by u_nil, ?_⟩
  refine T.goes1 hn rfl (fun _ _ _ => ?_); rw [stepG_seq]; simp only [goes_go]; refine ⟨by u_nil, ?_⟩
  refine T.goes1 hn rfl (fun _ _ _ => ?_); rw [stepG_region]; simp only [goes_go, List.size_toArray, List.length_cons, List.length_nil, Nat.reduceAdd, Nat.zero_add, List.range, List.range.loop]; refine ⟨by u_nil, ?_⟩
  refine T.quiet hn rfl rfl (by k_ne) (fun w₁ hF hL K hK => ?_); have fc := (hF.cell _ (.inl (hAn))).1.trans (cn2); go_simp; refine hK _ ?_ ?_; (intro e he; simp [go_sem, *] at he; subst he; exact EvOk.rd false (.inl (hAn))); clear hK K fc; try walk_nrm
  refine T.goes1 hn rfl (fun _ _ _ => ?_); refine goes_oper_k rfl rfl (by k_ne) (fun K hK => ?_); go_simp; refine hK _ _ ⟨?_, ?_⟩; (u_none; intro e he; have hm := mem_listed he; simp [go_sem, *] at hm); clear hK K; try walk_nrm
  refine T.goes1 hn rfl (fun _ _ _ => ?_); refine goes_oper_k rfl rfl (by k_ne) (fun K hK => ?_); go_simp; refine hK _ _ ⟨?_, ?_⟩; (u_none; intro e he; have hm := mem_listed he; simp [go_sem, *] at hm); clear hK K; try walk_nrm
  refine T.goes1 hn rfl (fun _ _ _ => ?_); rw [stepG_region_end]; simp only [goes_go]; refine ⟨by u_nil, ?_⟩
  refine T.goes1 hn rfl (fun _ _ _ => ?_); rw [stepG_ret']; simp only [goes_go]; refine ⟨by u_nil, ?_⟩
  refine T.goes1 hn rfl (fun _ _ _ => ?_); refine goes_leave1 rfl rfl Try.func20 rfl ⟨by u_nil, ?_⟩; walk_nrm
  refine T.store hn (A := ⟨Nt, 0, none⟩) hAt (v := .int .i64 7) ct2.1 ct2.2 rfl rfl (by k_ne) (fun w1 h1 h2 => ⟨by unfold execOp; simp [go_sem, stored, h1, h2], by unfold execOp; simp [go_sem]; first | (simp [storedEv, h1, h2]; done) | (rw [events_store _ _ _ _ _ _ rfl]; simp [h1, h2])⟩) ?_
  generalize w2.setCell ⟨Nt, 0, none⟩ (.int .i64 7) = w3 at hT ⊢
  walk_nrm
  refine T.goes1 hn rfl (fun _ _ _ => ?_); rw [stepG_region_end]; simp only [goes_go]; refine ⟨by u_nil, ?_⟩
  refine T.goes1 hn rfl (fun _ _ _ => ?_); rw [stepG_end]; simp only [goes_go]; refine ⟨by u_nil, ?_⟩
  refine T.goes1 hn rfl (fun _ _ _ => ?_); refine goes_leave0 rfl rfl Try.func34 rfl ⟨by u_nil, ?_⟩; walk_nrm
  exact T.le (by omega) hT
set_option maxRecDepth 100000 in
set_option maxHeartbeats 8000000 in
theorem slow_walk {c : Cx} {w : World} {mT : Nat} {No Nf Nn Nt : Nat} {b₀ : Frame} {a₀ : Go.Act} {ops₀ : Array Oper} {i₀ : Nat} {rest₀ : List Nat} {k₀ : List Item} {cs : List Frame} (hn : c.Neat) (hp : c.par = none) (hm : c.mem = none) (hO : OnceAt c No Nf Nn Nt 0 0 0 0 w)
    (hT : T Try.prog Post (mT) true (c) (G (b₀.at (a₀.put ((ops₀[i₀]?).bind (·.dst)) (.tuple #[])) (.inRegion ops₀ rest₀ :: k₀)) cs) (((((w.setCell ⟨No, 1, none⟩ (.int .i32 1)).setCell ⟨Nn, 0, none⟩ (.int .i64 1)).setCell ⟨Nt, 0, none⟩ (.int .i64 7)).setCell ⟨No, 0, none⟩ (.int .u32 1)).setCell ⟨No, 1, none⟩ (.int .i32 0))) : T Try.prog Post (mT + 400) true (c) (G ((base 36).at ⟨#[.pointer (some ⟨No, 0, none⟩), .func (.func 34) #[] #[.pointer (some ⟨Nf, 0, none⟩), .pointer (some ⟨Nt, 0, none⟩)], undef, undef, undef, undef, undef, undef, undef, undef, undef, undef, undef, undef, undef, undef, undef, undef, undef, undef, undef], []⟩ [.code (Try.f36.body.getD .skip)]) (b₀.at a₀ (.inRegion ops₀ (i₀ :: rest₀) :: k₀) :: cs)) w := by
  have hO1 := hO.setS 1
  have hO2 := (hO1.setN 1).setT 7
  have hO3 := hO2.setD 1
  have hA0 := hO.own ⟨No, 0, none⟩ (.inl rfl)
  have hA1 := hO.own ⟨No, 1, none⟩ (.inl rfl)
  simp only [Try.f36, Option.getD_some]
  refine T.goes1 hn rfl (fun _ _ _ => ?_); rw [stepG_seq]; simp only [goes_go]; refine ⟨by u_nil, ?_⟩
  refine T.goes1 hn rfl (fun _ _ _ => ?_); rw [stepG_region]; simp only [goes_go, List.size_toArray, List.length_cons, List.length_nil, Nat.reduceAdd, Nat.zero_add, List.range, List.range.loop]; refine ⟨by u_nil, ?_⟩
  refine T.goes1 hn rfl (fun _ _ _ => ?_); refine goes_oper_k rfl rfl (by k_ne) (fun K hK => ?_); go_simp; refine hK _ _ ⟨?_, ?_⟩; (u_none; intro e he; have hm := mem_listed he; simp [go_sem, *] at hm); clear hK K; try walk_nrm
  refine T.goes1 hn rfl (fun _ _ _ => ?_); refine goes_oper_k rfl rfl (by k_ne) (fun K hK => ?_); go_simp; refine hK _ _ ⟨?_, ?_⟩; (u_none; intro e he; have hm := mem_listed he; simp [go_sem, *] at hm); clear hK K; try walk_nrm
  refine T.goes1 hn rfl (fun _ _ _ => ?_); refine goes_oper_k rfl rfl (by k_ne) (fun K hK => ?_); go_simp; refine hK _ _ ⟨?_, ?_⟩; (u_none; intro e he; have hm := mem_listed he; simp [go_sem, *] at hm); clear hK K; try walk_nrm
  refine T.goes1 hn rfl (fun _ _ _ => ?_); refine goes_call rfl rfl (by k_ne) rfl Try.func58 (by kernel_rfl) rfl ⟨by u_nil, ?_⟩; walk_nrmf Try.f58
  refine T.le (m := (mT + 320) + 60) (by omega) (lock_walk hn hp hm hA1 hO.cs.1 hO.cs.2 ?_)
  generalize w.setCell ⟨No, 1, none⟩ (.int .i32 1) = w1 at hT hO1 hO2 hO3 ⊢
  walk_nrm
  refine T.goes1 hn rfl (fun _ _ _ => ?_); rw [stepG_region_end]; simp only [goes_go]; refine ⟨by u_nil, ?_⟩
  refine T.goes1 hn rfl (fun _ _ _ => ?_); rw [stepG_seq]; simp only [goes_go]; refine ⟨by u_nil, ?_⟩
  refine T.goes1 hn rfl (fun _ _ _ => ?_); rw [stepG_region]; simp only [goes_go, List.size_toArray, List.length_cons, List.length_nil, Nat.reduceAdd, Nat.zero_add, List.range, List.range.loop]; refine ⟨by u_nil, ?_⟩
  refine T.goes1 hn rfl (fun _ _ _ => ?_); refine goes_oper_k rfl rfl (by k_ne) (fun K hK => ?_); go_simp; refine hK _ _ ⟨?_, ?_⟩; (u_none; intro e he; have hm := mem_listed he; simp [go_sem, *] at hm); clear hK K; try walk_nrm
  refine T.goes1 hn rfl (fun _ _ _ => ?_); refine goes_oper_k rfl rfl (by k_ne) (fun K hK => ?_); go_simp; refine hK _ _ ⟨?_, ?_⟩; (u_none; intro e he; have hm := mem_listed he; simp [go_sem, *] at hm); clear hK K; try walk_nrm
  refine T.goes1 hn rfl (fun _ _ _ => ?_); refine goes_oper_k rfl rfl (by k_ne) (fun K hK => ?_); go_simp; refine hK _ _ ⟨?_, ?_⟩; (u_none; intro e he; have hm := mem_listed he; simp [go_sem, *] at hm); clear hK K; try walk_nrm
  refine T.goes1 hn rfl (fun _ _ _ => ?_); rw [stepG_defer rfl rfl (by k_ne) rfl]; simp only [goes_go]; refine ⟨by u_nil, ?_⟩; walk_nrm
  refine T.goes1 hn rfl (fun _ _ _ => ?_); rw [stepG_region_end]; simp only [goes_go]; refine ⟨by u_nil, ?_⟩
  refine T.goes1 hn rfl (fun _ _ _ => ?_); rw [stepG_seq]; simp only [goes_go]; refine ⟨by u_nil, ?_⟩
  refine T.goes1 hn rfl (fun _ _ _ => ?_); rw [stepG_region]; simp only [goes_go, List.size_toArray, List.length_cons, List.length_nil, Nat.reduceAdd, Nat.zero_add, List.range, List.range.loop]; refine ⟨by u_nil, ?_⟩
  refine T.goes1 hn rfl (fun _ _ _ => ?_); refine goes_oper_k rfl rfl (by k_ne) (fun K hK => ?_); go_simp; refine hK _ _ ⟨?_, ?_⟩; (u_none; intro e he; have hm := mem_listed he; simp [go_sem, *] at hm); clear hK K; try walk_nrm
  refine T.goes1 hn rfl (fun _ _ _ => ?_); refine goes_oper_k rfl rfl (by k_ne) (fun K hK => ?_); go_simp; refine hK _ _ ⟨?_, ?_⟩; (u_none; intro e he; have hm := mem_listed he; simp [go_sem, *] at hm); clear hK K; try walk_nrm
  refine T.goes1 hn rfl (fun _ _ _ => ?_); refine goes_oper_k rfl rfl (by k_ne) (fun K hK => ?_); go_simp; refine hK _ _ ⟨?_, ?_⟩; (u_none; intro e he; have hm := mem_listed he; simp [go_sem, *] at hm); clear hK K; try walk_nrm
  refine T.goes1 hn rfl (fun _ _ _ => ?_); refine goes_call rfl rfl (by k_ne) rfl Try.func35 (by kernel_rfl) rfl ⟨by u_nil, ?_⟩; walk_nrmf Try.f35
  refine T.le (m := (mT + 270) + 30) (by omega) (load0_walk hn hA0 hO1.cd.1 ?_)
  walk_nrm
  refine T.goes1 hn rfl (fun _ _ _ => ?_); refine goes_oper_k rfl rfl (by k_ne) (fun K hK => ?_); go_simp; refine hK _ _ ⟨?_, ?_⟩; (u_none; intro e he; have hm := mem_listed he; simp [go_sem, *] at hm); clear hK K; try walk_nrm
  refine T.goes1 hn rfl (fun _ _ _ => ?_); rw [stepG_region_end]; simp only [goes_go]; refine ⟨by u_nil, ?_⟩
  refine T.goes1 hn rfl (fun _ _ _ => ?_); rw [stepG_cond (t := true) rfl]; simp only [goes_go, if_true, if_false, Bool.false_eq_true, ↓reduceIte]; refine ⟨by u_nil, ?_⟩
  refine T.goes1 hn rfl (fun _ _ _ => ?_); rw [stepG_seq]; simp only [goes_go]; refine ⟨by u_nil, ?_⟩
  refine T.goes1 hn rfl (fun _ _ _ => ?_); rw [stepG_region]; simp only [goes_go, List.size_toArray, List.length_cons, List.length_nil, Nat.reduceAdd, Nat.zero_add, List.range, List.range.loop]; refine ⟨by u_nil, ?_⟩
  refine T.goes1 hn rfl (fun _ _ _ => ?_); refine goes_oper_k rfl rfl (by k_ne) (fun K hK => ?_); go_simp; refine hK _ _ ⟨?_, ?_⟩; (u_none; intro e he; have hm := mem_listed he; simp [go_sem, *] at hm); clear hK K; try walk_nrm
  refine T.goes1 hn rfl (fun _ _ _ => ?_); refine goes_oper_k rfl rfl (by k_ne) (fun K hK => ?_); go_simp; refine hK _ _ ⟨?_, ?_⟩; (u_none; intro e he; have hm := mem_listed he; simp [go_sem, *] at hm); clear hK K; try walk_nrm
  refine T.goes1 hn rfl (fun _ _ _ => ?_); refine goes_oper_k rfl rfl (by k_ne) (fun K hK => ?_); go_simp; refine hK _ _ ⟨?_, ?_⟩; (u_none; intro e he; have hm := mem_listed he; simp [go_sem, *] at hm); clear hK K; try walk_nrm
  refine T.goes1 hn rfl (fun _ _ _ => ?_); rw [stepG_defer rfl rfl (by k_ne) rfl]; simp only [goes_go]; refine ⟨by u_nil, ?_⟩; walk_nrm
  refine T.goes1 hn rfl (fun _ _ _ => ?_); rw [stepG_region_end]; simp only [goes_go]; refine ⟨by u_nil, ?_⟩
  refine T.goes1 hn rfl (fun _ _ _ => ?_); rw [stepG_region]; simp only [goes_go, List.size_toArray, List.length_cons, List.length_nil, Nat.reduceAdd, Nat.zero_add, List.range, List.range.loop]; refine ⟨by u_nil, ?_⟩
  refine T.goes1 hn rfl (fun _ _ _ => ?_); refine goes_oper_k rfl rfl (by k_ne) (fun K hK => ?_); go_simp; refine hK _ _ ⟨?_, ?_⟩; (u_none; intro e he; have hm := mem_listed he; simp [go_sem, *] at hm); clear hK K; try walk_nrm
  refine T.clo hn rfl rfl (by k_ne) rfl rfl Try.func34 (by kernel_rfl) rfl ?_; walk_nrmf Try.f34
  refine T.le (m := (mT + 190) + 60) (by omega) (first_walk hn hp hm hO1 ?_)
  generalize (w1.setCell ⟨Nn, 0, none⟩ (.int .i64 1)).setCell ⟨Nt, 0, none⟩ (.int .i64 7) = w2 at hT hO2 hO3 ⊢
  walk_nrm
  refine T.goes1 hn rfl (fun _ _ _ => ?_); rw [stepG_region_end]; simp only [goes_go]; refine ⟨by u_nil, ?_⟩
  refine T.goes1 hn rfl (fun _ _ _ => ?_); rw [stepG_end]; simp only [goes_go]; refine ⟨by u_nil, ?_⟩
  refine T.goes1 hn rfl (fun _ _ _ => ?_); rw [stepG_unwind_enter rfl Try.func60 (by kernel_rfl) rfl]; simp only [goes_go]; refine ⟨by u_nil, ?_⟩; walk_nrmf Try.f60
  refine T.le (m := (mT + 120) + 60) (by omega) (store_walk rfl hn hp hm hA0 hO2.cd.1 hO2.cd.2 ?_)
  generalize w2.setCell ⟨No, 0, none⟩ (.int .u32 1) = w3 at hT hO3 ⊢
  refine T.goes1 hn rfl (fun _ _ _ => ?_); rw [stepG_unwind_enter rfl Try.func59 (by kernel_rfl) rfl]; simp only [goes_go]; refine ⟨by u_nil, ?_⟩; walk_nrmf Try.f59
  refine T.le (m := (mT + 20) + 70) (by omega) (unlock_walk rfl hn hp hm hA1 hO3.cs.1 hO3.cs.2 ?_)
  generalize w3.setCell ⟨No, 1, none⟩ (.int .i32 0) = w4 at hT ⊢
  refine T.goes1 hn rfl (fun _ _ _ => ?_); refine goes_leave0 rfl rfl Try.func36 rfl ⟨by u_nil, ?_⟩; walk_nrm
  exact T.le (by omega) hT
set_option maxRecDepth 100000 in
set_option maxHeartbeats 8000000 in
/-- f(), the first time -/
theorem once1_walk {c : Cx} {w : World} {mT : Nat} {No Nf Nn Nt : Nat} {b₀ : Frame} {a₀ : Go.Act} {ops₀ : Array Oper} {i₀ : Nat} {rest₀ : List Nat} {k₀ : List Item} {cs : List Frame} (hn : c.Neat) (hp : c.par = none) (hm : c.mem = none) (hO : OnceAt c No Nf Nn Nt 0 0 0 0 w)
    (hT : T Try.prog Post (mT) true (c) (G (b₀.at (a₀.put ((ops₀[i₀]?).bind (·.dst)) (.int .i64 7)) (.inRegion ops₀ rest₀ :: k₀)) cs) (((((w.setCell ⟨No, 1, none⟩ (.int .i32 1)).setCell ⟨Nn, 0, none⟩ (.int .i64 1)).setCell ⟨Nt, 0, none⟩ (.int .i64 7)).setCell ⟨No, 0, none⟩ (.int .u32 1)).setCell ⟨No, 1, none⟩ (.int .i32 0))) : T Try.prog Post (mT + 500) true (c) (G ((base 33).at ⟨#[.pointer (some ⟨No, 0, none⟩), .pointer (some ⟨Nf, 0, none⟩), .pointer (some ⟨Nt, 0, none⟩), undef, undef, undef, undef], []⟩ [.code (Try.f33.body.getD .skip)]) (b₀.at a₀ (.inRegion ops₀ (i₀ :: rest₀) :: k₀) :: cs)) w := by
  have hO5 := (((((hO.setS 1).setN 1).setT 7).setD 1).setS 0)
  have hA0 := hO.own ⟨No, 0, none⟩ (.inl rfl)
  have hAt := hO.own ⟨Nt, 0, none⟩ (.inr (.inr (.inr rfl)))
  simp only [Try.f33, Option.getD_some]
  refine T.goes1 hn rfl (fun _ _ _ => ?_); rw [stepG_seq]; simp only [goes_go]; refine ⟨by u_nil, ?_⟩
  refine T.goes1 hn rfl (fun _ _ _ => ?_); rw [stepG_region]; simp only [goes_go, List.size_toArray, List.length_cons, List.length_nil, Nat.reduceAdd, Nat.zero_add, List.range, List.range.loop]; refine ⟨by u_nil, ?_⟩
  refine T.goes1 hn rfl (fun _ _ _ => ?_); refine goes_oper_k rfl rfl (by k_ne) (fun K hK => ?_); go_simp; refine hK _ _ ⟨?_, ?_⟩; (u_none; intro e he; have hm := mem_listed he; simp [go_sem, *] at hm); clear hK K; try walk_nrm
  refine T.goes1 hn rfl (fun _ _ _ => ?_); rw [stepG_region_end]; simp only [goes_go]; refine ⟨by u_nil, ?_⟩
  refine T.goes1 hn rfl (fun _ _ _ => ?_); rw [stepG_seq]; simp only [goes_go]; refine ⟨by u_nil, ?_⟩
  refine T.goes1 hn rfl (fun _ _ _ => ?_); rw [stepG_region]; simp only [goes_go, List.size_toArray, List.length_cons, List.length_nil, Nat.reduceAdd, Nat.zero_add, List.range, List.range.loop]; refine ⟨by u_nil, ?_⟩
  refine T.val hn (.func (.func 34) #[] #[.pointer (some ⟨Nf, 0, none⟩), .pointer (some ⟨Nt, 0, none⟩)]) rfl rfl (by k_ne) (fun w1 _ => ⟨by unfold execOp; simp [go_sem, run_mkf], fun e he => by simp [go_sem, events_mkf] at he⟩) ?_
  walk_nrm
  refine T.goes1 hn rfl (fun _ _ _ => ?_); refine goes_call rfl rfl (by k_ne) rfl Try.func23 (by kernel_rfl) rfl ⟨by u_nil, ?_⟩; walk_nrmf Try.f23
  refine T.goes1 hn rfl (fun _ _ _ => ?_); rw [stepG_seq]; simp only [goes_go]; refine ⟨by u_nil, ?_⟩
  refine T.goes1 hn rfl (fun _ _ _ => ?_); rw [stepG_region]; simp only [goes_go, List.size_toArray, List.length_cons, List.length_nil, Nat.reduceAdd, Nat.zero_add, List.range, List.range.loop]; refine ⟨by u_nil, ?_⟩
  refine T.goes1 hn rfl (fun _ _ _ => ?_); refine goes_oper_k rfl rfl (by k_ne) (fun K hK => ?_); go_simp; refine hK _ _ ⟨?_, ?_⟩; (u_none; intro e he; have hm := mem_listed he; simp [go_sem, *] at hm); clear hK K; try walk_nrm
  refine T.goes1 hn rfl (fun _ _ _ => ?_); refine goes_oper_k rfl rfl (by k_ne) (fun K hK => ?_); go_simp; refine hK _ _ ⟨?_, ?_⟩; (u_none; intro e he; have hm := mem_listed he; simp [go_sem, *] at hm); clear hK K; try walk_nrm
  refine T.goes1 hn rfl (fun _ _ _ => ?_); refine goes_oper_k rfl rfl (by k_ne) (fun K hK => ?_); go_simp; refine hK _ _ ⟨?_, ?_⟩; (u_none; intro e he; have hm := mem_listed he; simp [go_sem, *] at hm); clear hK K; try walk_nrm
  refine T.goes1 hn rfl (fun _ _ _ => ?_); refine goes_call rfl rfl (by k_ne) rfl Try.func35 (by kernel_rfl) rfl ⟨by u_nil, ?_⟩; walk_nrmf Try.f35
  refine T.le (m := (mT + 450) + 30) (by omega) (load0_walk hn hA0 hO.cd.1 ?_)
  walk_nrm
  refine T.goes1 hn rfl (fun _ _ _ => ?_); refine goes_oper_k rfl rfl (by k_ne) (fun K hK => ?_); go_simp; refine hK _ _ ⟨?_, ?_⟩; (u_none; intro e he; have hm := mem_listed he; simp [go_sem, *] at hm); clear hK K; try walk_nrm
  refine T.goes1 hn rfl (fun _ _ _ => ?_); rw [stepG_region_end]; simp only [goes_go]; refine ⟨by u_nil, ?_⟩
  refine T.goes1 hn rfl (fun _ _ _ => ?_); rw [stepG_cond (t := true) rfl]; simp only [goes_go, if_true, if_false, Bool.false_eq_true, ↓reduceIte]; refine ⟨by u_nil, ?_⟩
  refine T.goes1 hn rfl (fun _ _ _ => ?_); rw [stepG_region]; simp only [goes_go, List.size_toArray, List.length_cons, List.length_nil, Nat.reduceAdd, Nat.zero_add, List.range, List.range.loop]; refine ⟨by u_nil, ?_⟩
  refine T.goes1 hn rfl (fun _ _ _ => ?_); refine goes_oper_k rfl rfl (by k_ne) (fun K hK => ?_); go_simp; refine hK _ _ ⟨?_, ?_⟩; (u_none; intro e he; have hm := mem_listed he; simp [go_sem, *] at hm); clear hK K; try walk_nrm
  refine T.goes1 hn rfl (fun _ _ _ => ?_); refine goes_oper_k rfl rfl (by k_ne) (fun K hK => ?_); go_simp; refine hK _ _ ⟨?_, ?_⟩; (u_none; intro e he; have hm := mem_listed he; simp [go_sem, *] at hm); clear hK K; try walk_nrm
  refine T.goes1 hn rfl (fun _ _ _ => ?_); refine goes_call rfl rfl (by k_ne) rfl Try.func36 (by kernel_rfl) rfl ⟨by u_nil, ?_⟩; walk_nrmf Try.f36
  refine T.le (m := (mT + 40) + 400) (by omega) (slow_walk hn hp hm hO ?_)
  generalize (((((w.setCell ⟨No, 1, none⟩ (.int .i32 1)).setCell ⟨Nn, 0, none⟩ (.int .i64 1)).setCell ⟨Nt, 0, none⟩ (.int .i64 7)).setCell ⟨No, 0, none⟩ (.int .u32 1)).setCell ⟨No, 1, none⟩ (.int .i32 0)) = w2 at hT hO5 ⊢
  have ct := hO5.ct.1
  walk_nrm
  refine T.goes1 hn rfl (fun _ _ _ => ?_); rw [stepG_region_end]; simp only [goes_go]; refine ⟨by u_nil, ?_⟩
  refine T.goes1 hn rfl (fun _ _ _ => ?_); rw [stepG_end]; simp only [goes_go]; refine ⟨by u_nil, ?_⟩
  refine T.goes1 hn rfl (fun _ _ _ => ?_); refine goes_leave0 rfl rfl Try.func23 rfl ⟨by u_nil, ?_⟩; walk_nrm
  refine T.goes1 hn rfl (fun _ _ _ => ?_); rw [stepG_region_end]; simp only [goes_go]; refine ⟨by u_nil, ?_⟩
  refine T.goes1 hn rfl (fun _ _ _ => ?_); rw [stepG_seq]; simp only [goes_go]; refine ⟨by u_nil, ?_⟩
  refine T.goes1 hn rfl (fun _ _ _ => ?_); rw [stepG_region]; simp only [goes_go, List.size_toArray, List.length_cons, List.length_nil, Nat.reduceAdd, Nat.zero_add, List.range, List.range.loop]; refine ⟨by u_nil, ?_⟩
  refine T.quiet hn rfl rfl (by k_ne) (fun w₁ hF hL K hK => ?_); have fc := (hF.cell _ (.inl (hAt))).1.trans (ct); go_simp; refine hK _ ?_ ?_; (intro e he; simp [go_sem, *] at he; subst he; exact EvOk.rd false (.inl (hAt))); clear hK K fc; try walk_nrm
  refine T.goes1 hn rfl (fun _ _ _ => ?_); refine goes_oper_k rfl rfl (by k_ne) (fun K hK => ?_); go_simp; refine hK _ _ ⟨?_, ?_⟩; (u_none; intro e he; have hm := mem_listed he; simp [go_sem, *] at hm); clear hK K; try walk_nrm
  refine T.goes1 hn rfl (fun _ _ _ => ?_); rw [stepG_region_end]; simp only [goes_go]; refine ⟨by u_nil, ?_⟩
  refine T.goes1 hn rfl (fun _ _ _ => ?_); rw [stepG_ret']; simp only [goes_go]; refine ⟨by u_nil, ?_⟩
  refine T.goes1 hn rfl (fun _ _ _ => ?_); refine goes_leave1 rfl rfl Try.func33 rfl ⟨by u_nil, ?_⟩; walk_nrm
  exact T.le (by omega) hT
set_option maxRecDepth 100000 in
set_option maxHeartbeats 8000000 in
/-- f(), again -/
theorem once2_walk {c : Cx} {w : World} {mT : Nat} {No Nf Nn Nt : Nat} {s n v : Int} {b₀ : Frame} {a₀ : Go.Act} {ops₀ : Array Oper} {i₀ : Nat} {rest₀ : List Nat} {k₀ : List Item} {cs : List Frame} (hn : c.Neat) (hp : c.par = none) (hm : c.mem = none) (hO : OnceAt c No Nf Nn Nt 1 s n v w)
    (hT : T Try.prog Post (mT) true (c) (G (b₀.at (a₀.put ((ops₀[i₀]?).bind (·.dst)) (.int .i64 v)) (.inRegion ops₀ rest₀ :: k₀)) cs) w) : T Try.prog Post (mT + 100) true (c) (G ((base 33).at ⟨#[.pointer (some ⟨No, 0, none⟩), .pointer (some ⟨Nf, 0, none⟩), .pointer (some ⟨Nt, 0, none⟩), undef, undef, undef, undef], []⟩ [.code (Try.f33.body.getD .skip)]) (b₀.at a₀ (.inRegion ops₀ (i₀ :: rest₀) :: k₀) :: cs)) w := by
  have hA0 := hO.own ⟨No, 0, none⟩ (.inl rfl)
  have hAt := hO.own ⟨Nt, 0, none⟩ (.inr (.inr (.inr rfl)))
  simp only [Try.f33, Option.getD_some]
  refine T.goes1 hn rfl (fun _ _ _ => ?_); rw [stepG_seq]; simp only [goes_go]; refine ⟨by u_nil, ?_⟩
  refine T.goes1 hn rfl (fun _ _ _ => ?_); rw [stepG_region]; simp only [goes_go, List.size_toArray, List.length_cons, List.length_nil, Nat.reduceAdd, Nat.zero_add, List.range, List.range.loop]; refine ⟨by u_nil, ?_⟩
  refine T.goes1 hn rfl (fun _ _ _ => ?_); refine goes_oper_k rfl rfl (by k_ne) (fun K hK => ?_); go_simp; refine hK _ _ ⟨?_, ?_⟩; (u_none; intro e he; have hm := mem_listed he; simp [go_sem, *] at hm); clear hK K; try walk_nrm
  refine T.goes1 hn rfl (fun _ _ _ => ?_); rw [stepG_region_end]; simp only [goes_go]; refine ⟨by u_nil, ?_⟩
  refine T.goes1 hn rfl (fun _ _ _ => ?_); rw [stepG_seq]; simp only [goes_go]; refine ⟨by u_nil, ?_⟩
  refine T.goes1 hn rfl (fun _ _ _ => ?_); rw [stepG_region]; simp only [goes_go, List.size_toArray, List.length_cons, List.length_nil, Nat.reduceAdd, Nat.zero_add, List.range, List.range.loop]; refine ⟨by u_nil, ?_⟩
  refine T.val hn (.func (.func 34) #[] #[.pointer (some ⟨Nf, 0, none⟩), .pointer (some ⟨Nt, 0, none⟩)]) rfl rfl (by k_ne) (fun w1 _ => ⟨by unfold execOp; simp [go_sem, run_mkf], fun e he => by simp [go_sem, events_mkf] at he⟩) ?_
  walk_nrm
  refine T.goes1 hn rfl (fun _ _ _ => ?_); refine goes_call rfl rfl (by k_ne) rfl Try.func23 (by kernel_rfl) rfl ⟨by u_nil, ?_⟩; walk_nrmf Try.f23
  refine T.goes1 hn rfl (fun _ _ _ => ?_); rw [stepG_seq]; simp only [goes_go]; refine ⟨by u_nil, ?_⟩
  refine T.goes1 hn rfl (fun _ _ _ => ?_); rw [stepG_region]; simp only [goes_go, List.size_toArray, List.length_cons, List.length_nil, Nat.reduceAdd, Nat.zero_add, List.range, List.range.loop]; refine ⟨by u_nil, ?_⟩
  refine T.goes1 hn rfl (fun _ _ _ => ?_); refine goes_oper_k rfl rfl (by k_ne) (fun K hK => ?_); go_simp; refine hK _ _ ⟨?_, ?_⟩; (u_none; intro e he; have hm := mem_listed he; simp [go_sem, *] at hm); clear hK K; try walk_nrm
  refine T.goes1 hn rfl (fun _ _ _ => ?_); refine goes_oper_k rfl rfl (by k_ne) (fun K hK => ?_); go_simp; refine hK _ _ ⟨?_, ?_⟩; (u_none; intro e he; have hm := mem_listed he; simp [go_sem, *] at hm); clear hK K; try walk_nrm
  refine T.goes1 hn rfl (fun _ _ _ => ?_); refine goes_oper_k rfl rfl (by k_ne) (fun K hK => ?_); go_simp; refine hK _ _ ⟨?_, ?_⟩; (u_none; intro e he; have hm := mem_listed he; simp [go_sem, *] at hm); clear hK K; try walk_nrm
  refine T.goes1 hn rfl (fun _ _ _ => ?_); refine goes_call rfl rfl (by k_ne) rfl Try.func35 (by kernel_rfl) rfl ⟨by u_nil, ?_⟩; walk_nrmf Try.f35
  refine T.le (m := (mT + 40) + 30) (by omega) (load1_walk hn hA0 hO.cd.1 ?_)
  have ct := hO.ct.1
  walk_nrm
  refine T.goes1 hn rfl (fun _ _ _ => ?_); refine goes_oper_k rfl rfl (by k_ne) (fun K hK => ?_); go_simp; refine hK _ _ ⟨?_, ?_⟩; (u_none; intro e he; have hm := mem_listed he; simp [go_sem, *] at hm); clear hK K; try walk_nrm
  refine T.goes1 hn rfl (fun _ _ _ => ?_); rw [stepG_region_end]; simp only [goes_go]; refine ⟨by u_nil, ?_⟩
  refine T.goes1 hn rfl (fun _ _ _ => ?_); rw [stepG_cond (t := false) rfl]; simp only [goes_go, if_true, if_false, Bool.false_eq_true, ↓reduceIte]; refine ⟨by u_nil, ?_⟩
  refine T.goes1 hn rfl (fun _ _ _ => ?_); rw [stepG_skip]; simp only [goes_go]; refine ⟨by u_nil, ?_⟩
  refine T.goes1 hn rfl (fun _ _ _ => ?_); rw [stepG_end]; simp only [goes_go]; refine ⟨by u_nil, ?_⟩
  refine T.goes1 hn rfl (fun _ _ _ => ?_); refine goes_leave0 rfl rfl Try.func23 rfl ⟨by u_nil, ?_⟩; walk_nrm
  refine T.goes1 hn rfl (fun _ _ _ => ?_); rw [stepG_region_end]; simp only [goes_go]; refine ⟨by u_nil, ?_⟩
  refine T.goes1 hn rfl (fun _ _ _ => ?_); rw [stepG_seq]; simp only [goes_go]; refine ⟨by u_nil, ?_⟩
  refine T.goes1 hn rfl (fun _ _ _ => ?_); rw [stepG_region]; simp only [goes_go, List.size_toArray, List.length_cons, List.length_nil, Nat.reduceAdd, Nat.zero_add, List.range, List.range.loop]; refine ⟨by u_nil, ?_⟩
  refine T.quiet hn rfl rfl (by k_ne) (fun w₁ hF hL K hK => ?_); have fc := (hF.cell _ (.inl (hAt))).1.trans (ct); go_simp; refine hK _ ?_ ?_; (intro e he; simp [go_sem, *] at he; subst he; exact EvOk.rd false (.inl (hAt))); clear hK K fc; try walk_nrm
  refine T.goes1 hn rfl (fun _ _ _ => ?_); refine goes_oper_k rfl rfl (by k_ne) (fun K hK => ?_); go_simp; refine hK _ _ ⟨?_, ?_⟩; (u_none; intro e he; have hm := mem_listed he; simp [go_sem, *] at hm); clear hK K; try walk_nrm
  refine T.goes1 hn rfl (fun _ _ _ => ?_); rw [stepG_region_end]; simp only [goes_go]; refine ⟨by u_nil, ?_⟩
  refine T.goes1 hn rfl (fun _ _ _ => ?_); rw [stepG_ret']; simp only [goes_go]; refine ⟨by u_nil, ?_⟩
  refine T.goes1 hn rfl (fun _ _ _ => ?_); refine goes_leave1 rfl rfl Try.func33 rfl ⟨by u_nil, ?_⟩; walk_nrm
  exact T.le (by omega) hT
end Go.Proofs.Ytidadgibhmiojaa
