/- known() -/
import Derived.Test.YtidadgibhmiojaaFi
set_option linter.unusedSimpArgs false
set_option linter.unusedVariables false
namespace Go.Proofs.Ytidadgibhmiojaa
open Go.Conc Go.RowKit Go.Conc.Lib Go.ConcR.Gen Go.ConcN.Gen Go.Farm
open Go.ConcR (DC0)
variable {Post : Value → World → Prop}
theorem eqp (w : World) (n : Nat) : (binOp .eql 23 (.pointer (some ⟨n, 0, none⟩)) (.pointer none)).run Try.prog w = .ok (.bool false) w := by kernel_rfl
theorem eqpe (w : World) (n : Nat) : (binOp .eql 23 (.pointer (some ⟨n, 0, none⟩)) (.pointer none)).events Try.prog w #[] = #[] := by kernel_rfl
theorem eqf (w : World) (a b c : Value) : (binOp .eql 33 (.func (.func 33) #[] #[a, b, c]) .nilFunc).run Try.prog w = .ok (.bool false) w := by kernel_rfl
theorem eqfe (w : World) (a b c : Value) : (binOp .eql 33 (.func (.func 33) #[] #[a, b, c]) .nilFunc).events Try.prog w #[] = #[] := by kernel_rfl
theorem Less.none {c : Cx} (hn : c.Neat) (hm : ∀ κ ms lb J, c.mem = some (κ, ms, lb, J) → ms = .m0) : Less c { c with O := fun a => c.O a ∨ False } :=
  ⟨fun a h => h.elim (fun h => h.elim .inl (fun h => h.elim)) .inr, fun _ h => h, fun a h hu => h.elim (fun h => hn.ou a h hu) (fun h => h.elim), fun a h => ⟨fun h1 => h1.elim (hn.oz a h).1 (fun h => h.elim), (hn.oz a h).2⟩, fun _ h => .inl h, rfl, rfl, rfl, hm⟩
theorem m0_of {c : Cx} {κ : Crew} {lb : Nat} {J : Nat → Prop} (h : c.mem = some (κ, .m0, lb, J)) : ∀ κ ms lb J, c.mem = some (κ, ms, lb, J) → ms = .m0 := fun κ ms lb J hx => by rw [h] at hx; injection hx with e; injection e with _ e; injection e with e _; exact e.symm
/-- i * i -/
def Vsq (j : Nat) (_ : AS) (v : Value) (_ : World) : Prop := v = .int .i64 (IntKind.i64.wrap ((j : Int) * (j : Int)))
set_option maxRecDepth 100000 in
set_option maxHeartbeats 8000000 in
theorem sq_task : TaskOk Try.prog Post 21 #[] [] Vsq 40 := by
  intro κ lb J c w j mT b₀ a₀ ops₀ i₀ rest₀ k₀ cs hn hb hm hp hl hZ hj hT
  have hT := hT w (fun _ => False) _ (Hold.refl _ _) (fun a h => h.elim) rfl
  have hls := Less.none hn (m0_of hm)
  rw [enter_at _ Try.func21 rfl]
  walk_nrmf Try.f21
  refine T.goes1 hn rfl (fun _ _ _ => ?_); rw [stepG_seq]; simp only [goes_go]; refine ⟨by u_nil, ?_⟩
  refine T.goes1 hn rfl (fun _ _ _ => ?_); rw [stepG_region]; simp only [goes_go, List.size_toArray, List.length_cons, List.length_nil, Nat.reduceAdd, Nat.zero_add, List.range, List.range.loop]; refine ⟨by u_nil, ?_⟩
  refine T.goes1 hn rfl (fun _ _ _ => ?_); refine goes_oper_k rfl rfl (by k_ne) (fun K hK => ?_); go_simp; refine hK _ _ ⟨?_, ?_⟩; (u_none; intro e he; have hm := mem_listed he; simp [go_sem, *] at hm); clear hK K; try walk_nrm
  refine T.goes1 hn rfl (fun _ _ _ => ?_); rw [stepG_region_end]; simp only [goes_go]; refine ⟨by u_nil, ?_⟩
  refine T.goes1 hn rfl (fun _ _ _ => ?_); rw [stepG_seq]; simp only [goes_go]; refine ⟨by u_nil, ?_⟩
  refine T.goes1 hn rfl (fun _ _ _ => ?_); rw [stepG_region]; simp only [goes_go, List.size_toArray, List.length_cons, List.length_nil, Nat.reduceAdd, Nat.zero_add, List.range, List.range.loop]; refine ⟨by u_nil, ?_⟩
  refine T.goes1 hn rfl (fun _ _ _ => ?_); refine goes_oper_k rfl rfl (by k_ne) (fun K hK => ?_); go_simp; refine hK _ _ ⟨?_, ?_⟩; (u_none; intro e he; have hm := mem_listed he; simp [go_sem, *] at hm); clear hK K; try walk_nrm
  refine T.goes1 hn rfl (fun _ _ _ => ?_); refine goes_oper_k rfl rfl (by k_ne) (fun K hK => ?_); go_simp; refine hK _ _ ⟨?_, ?_⟩; (u_none; intro e he; have hm := mem_listed he; simp [go_sem, *] at hm); clear hK K; try walk_nrm
  refine T.goes1 hn rfl (fun _ _ _ => ?_); refine goes_oper_k rfl rfl (by k_ne) (fun K hK => ?_); go_simp; refine hK _ _ ⟨?_, ?_⟩; (u_none; intro e he; have hm := mem_listed he; simp [go_sem, *] at hm); clear hK K; try walk_nrm
  refine T.goes1 hn rfl (fun _ _ _ => ?_); refine goes_oper_k rfl rfl (by k_ne) (fun K hK => ?_); go_simp; refine hK _ _ ⟨?_, ?_⟩; (u_none; intro e he; have hm := mem_listed he; simp [go_sem, *] at hm); clear hK K; try walk_nrm
  refine T.goes1 hn rfl (fun _ _ _ => ?_); rw [stepG_region_end]; simp only [goes_go]; refine ⟨by u_nil, ?_⟩
  refine T.goes1 hn rfl (fun _ _ _ => ?_); rw [stepG_ret']; simp only [goes_go]; refine ⟨by u_nil, ?_⟩
  refine T.turn hls rfl (fun _ _ _ => ?_); refine goes_leave1 rfl rfl Try.func21 rfl ⟨by u_nil, ?_⟩; walk_nrm
  exact T.le (by omega) hT
set_option maxRecDepth 100000 in
set_option maxHeartbeats 16000000 in
/-- ████ known() ████ -/
theorem known_walk {c : Cx} {w : World} {mT M : Nat} (hM1 : 1048576 ≤ M) (hM2 : M ≤ 2097152) {b₀ : Frame} {a₀ : Go.Act} {ops₀ : Array Oper} {i₀ : Nat} {rest₀ : List Nat} {k₀ : List Item} {cs : List Frame} (hn0 : c.Neat) (hb0 : c.Low w) (hp : c.par = none) (hm : c.mem = none) (hl : c.lk = 0)
    (hT : ∀ w', Hold c w w' → T Try.prog Post (mT) true (c) (G (b₀.at (a₀.put ((ops₀[i₀]?).bind (·.dst)) (.bool true)) (.inRegion ops₀ rest₀ :: k₀)) cs) w') : T Try.prog Post (mT + 400 * (M + 4) + 17000) true (c) (G ((base 6).at ⟨#[undef, undef, undef, undef, undef, undef, undef, undef, undef, undef, undef, undef, undef, undef, undef, undef, undef, undef, undef, undef, undef, undef, undef, undef, undef, undef, undef, undef, undef, undef, undef, undef, undef, undef, undef, undef, undef, undef, undef, undef, undef, undef, undef, undef, undef, undef, undef, undef, undef, undef, undef, undef, undef, undef, undef, undef, undef, undef, undef, undef, undef, undef, undef, undef, undef], []⟩ [.code (Try.f6.body.getD .skip)]) (b₀.at a₀ (.inRegion ops₀ (i₀ :: rest₀) :: k₀) :: cs)) w := by
  have hmm : ∀ κ ms lb J, c.mem = some (κ, ms, lb, J) → ms = .m0 := fun κ ms lb J h => by rw [hm] at h; cases h
  have hlow : ∀ N, w.heap.size ≤ N → ∀ a, c.O a ∨ c.U a ∨ c.Z a → a.block ≠ N := fun N hN a ha e => by have := hb0 a ha; omega
  have hn := hn0
  obtain ⟨F0, hF0⟩ : ∃ F0, F0 = mT + 400 * (M + 4) + 13000 := ⟨_, rfl⟩
  refine T.le (m := F0 + 3500) (by omega) ?_
  simp only [Try.f6, Option.getD_some]
  refine T.goes1 hn rfl (fun _ _ _ => ?_); rw [stepG_seq]; simp only [goes_go]; refine ⟨by u_nil, ?_⟩
  refine T.goes1 hn rfl (fun _ _ _ => ?_); rw [stepG_region]; simp only [goes_go, List.size_toArray, List.length_cons, List.length_nil, Nat.reduceAdd, Nat.zero_add, List.range, List.range.loop]; refine ⟨by u_nil, ?_⟩
  refine T.goes1 hn rfl (fun _ _ _ => ?_); refine goes_oper_k rfl rfl (by k_ne) (fun K hK => ?_); go_simp; refine hK _ _ ⟨?_, ?_⟩; (u_none; intro e he; have hm := mem_listed he; simp [go_sem, *] at hm); clear hK K; try walk_nrm
  refine T.goes1 hn rfl (fun _ _ _ => ?_); rw [stepG_region_end]; simp only [goes_go]; refine ⟨by u_nil, ?_⟩
  refine T.goes1 hn rfl (fun _ _ _ => ?_); rw [stepG_seq]; simp only [goes_go]; refine ⟨by u_nil, ?_⟩
  refine T.goes1 hn rfl (fun _ _ _ => ?_); rw [stepG_region]; simp only [goes_go, List.size_toArray, List.length_cons, List.length_nil, Nat.reduceAdd, Nat.zero_add, List.range, List.range.loop]; refine ⟨by u_nil, ?_⟩
  refine T.goes1 hn rfl (fun _ _ _ => ?_); refine goes_call rfl rfl (by k_ne) rfl Try.func7 (by kernel_rfl) rfl ⟨by u_nil, ?_⟩; walk_nrmf Try.f7
  refine T.le (m := (F0 + 2900) + 20) (by omega) (new_walk true hn hb0 hmm (fun w1 Nc g1 l1 hn1 hb1 fx1 nw1 ho1 => ?_))
  have hf1 := (fx1 [] (Facts.nil _ _)).cons (A := ⟨Nc, 0, none⟩) (.inl (.inr rfl)) nw1.1 nw1.2
  have hH1 : Hold c w w1 := ho1
  clear fx1 nw1 ho1
  replace hn := hn1
  walk_nrm
  refine T.goes1 hn rfl (fun _ _ _ => ?_); refine goes_oper_k rfl rfl (by k_ne) (fun K hK => ?_); go_simp; refine hK _ _ ⟨?_, ?_⟩; (u_none; intro e he; have hm := mem_listed he; simp [go_sem, *] at hm); clear hK K; try walk_nrm
  refine T.goes1 hn rfl (fun _ _ _ => ?_); rw [stepG_region_end]; simp only [goes_go]; refine ⟨by u_nil, ?_⟩
  refine T.goes1 hn rfl (fun _ _ _ => ?_); rw [stepG_seq]; simp only [goes_go]; refine ⟨by u_nil, ?_⟩
  refine T.goes1 hn rfl (fun _ _ _ => ?_); rw [stepG_region]; simp only [goes_go, List.size_toArray, List.length_cons, List.length_nil, Nat.reduceAdd, Nat.zero_add, List.range, List.range.loop]; refine ⟨by u_nil, ?_⟩
  refine T.alloc1 true hn hb1 hmm rfl rfl (by k_ne) (fun N => .pointer (some ⟨N, 0, none⟩)) #[.int .i64 0] 3 (fun w1 => ⟨by go_simp, by simp [go_sem]⟩) (fun w2 Nn g2 l2 hn2 hb2 fx2 nw2 ho2 => ?_)
  have hf2 := fx2 _ hf1
  have hH2 : Hold c w w2 := hH1.trans (ho2.sub (fun a ha => Cx.with_cells ha))
  walk_nrm
  refine T.store hn2 (A := ⟨Nn, 0, none⟩) (.inr rfl) (v := .int .i64 0) (nw2 0 _ rfl).1 (nw2 0 _ rfl).2 rfl rfl (by k_ne) (fun w1 h1 h2 => ⟨by unfold execOp; simp [go_sem, stored, h1, h2], by unfold execOp; simp [go_sem]; first | (simp [storedEv, h1, h2]; done) | (rw [events_store _ _ _ _ _ _ rfl]; simp [h1, h2])⟩) ?_
  have hs1 := hH1.size
  have hf3 := (hf2.set (A := ⟨Nn, 0, none⟩) (fun p hp e => by simp only [List.mem_cons, List.not_mem_nil, or_false] at hp; subst hp; have e1 := congrArg Addr.block e; simp at e1; omega) (.int .i64 0)).cons (A := ⟨Nn, 0, none⟩) (.inl (.inr rfl)) (World.cell?_setCell_same _ _ _ (nw2 0 _ rfl).1) ((World.frozen?_setCell _ _ _ _).trans (nw2 0 _ rfl).2)
  have hH3 : Hold c w (w2.setCell ⟨Nn, 0, none⟩ (.int .i64 0)) := hH2.put (fun z hz e => hlow Nn (by omega) z hz (by rw [e]))
  have hb3 : ((c.with true Nc).with true Nn).Low (w2.setCell ⟨Nn, 0, none⟩ (.int .i64 0)) := fun a ha => by rw [World.size_setCell]; exact hb2 a ha
  have hs3 : (w2.setCell ⟨Nn, 0, none⟩ (.int .i64 0)).heap.size = w2.heap.size := World.size_setCell _ _ _
  clear fx2 nw2 ho2 hf1 hf2 hb2 hb1 hn1 hH2
  generalize w2.setCell ⟨Nn, 0, none⟩ (.int .i64 0) = w3 at hf3 hH3 hb3 hs3 ⊢
  replace hn := hn2
  walk_nrm
  refine T.goes1 hn rfl (fun _ _ _ => ?_); rw [stepG_region_end]; simp only [goes_go]; refine ⟨by u_nil, ?_⟩
  refine T.goes1 hn rfl (fun _ _ _ => ?_); rw [stepG_seq]; simp only [goes_go]; refine ⟨by u_nil, ?_⟩
  refine T.goes1 hn rfl (fun _ _ _ => ?_); rw [stepG_region]; simp only [goes_go, List.size_toArray, List.length_cons, List.length_nil, Nat.reduceAdd, Nat.zero_add, List.range, List.range.loop]; refine ⟨by u_nil, ?_⟩
  refine T.val hn (.func (.func 20) #[] #[.pointer (some ⟨Nn, 0, none⟩)]) rfl rfl (by k_ne) (fun w1 _ => ⟨by unfold execOp; simp [go_sem, run_mkf], fun e he => by simp [go_sem, events_mkf] at he⟩) ?_
  walk_nrm
  refine T.goes1 hn rfl (fun _ _ _ => ?_); refine goes_call rfl rfl (by k_ne) rfl Try.func19 (by kernel_rfl) rfl ⟨by u_nil, ?_⟩; walk_nrmf Try.f19
  refine T.goes1 hn rfl (fun _ _ _ => ?_); rw [stepG_seq]; simp only [goes_go]; refine ⟨by u_nil, ?_⟩
  refine T.goes1 hn rfl (fun _ _ _ => ?_); rw [stepG_region]; simp only [goes_go, List.size_toArray, List.length_cons, List.length_nil, Nat.reduceAdd, Nat.zero_add, List.range, List.range.loop]; refine ⟨by u_nil, ?_⟩
  refine T.alloc1 true hn hb3 hmm rfl rfl (by k_ne) (fun N => .pointer (some ⟨N, 0, none⟩)) #[.func (.func 20) #[] #[.pointer (some ⟨Nn, 0, none⟩)]] 33 (fun w1 => ⟨by go_simp, by simp [go_sem]⟩) (fun w4 Nf g4 l4 hn4 hb4 fx4 nw4 ho4 => ?_)
  have hf4 := (fx4 _ hf3).cons (A := ⟨Nf, 0, none⟩) (.inl (.inr rfl)) (nw4 0 _ rfl).1 (nw4 0 _ rfl).2
  have hH4 : Hold c w w4 := hH3.trans (ho4.sub (fun a ha => Cx.with_cells (Cx.with_cells ha)))
  clear fx4 nw4 ho4 hf3 hn2 hb3 hH3
  replace hn := hn4
  walk_nrm
  refine T.goes1 hn rfl (fun _ _ _ => ?_); refine goes_oper_k rfl rfl (by k_ne) (fun K hK => ?_); go_simp; refine hK _ _ ⟨?_, ?_⟩; (u_none; intro e he; have hm := mem_listed he; simp [go_sem, *] at hm); clear hK K; try walk_nrm
  refine T.goes1 hn rfl (fun _ _ _ => ?_); rw [stepG_region_end]; simp only [goes_go]; refine ⟨by u_nil, ?_⟩
  refine T.goes1 hn rfl (fun _ _ _ => ?_); rw [stepG_seq]; simp only [goes_go]; refine ⟨by u_nil, ?_⟩
  refine T.goes1 hn rfl (fun _ _ _ => ?_); rw [stepG_region]; simp only [goes_go, List.size_toArray, List.length_cons, List.length_nil, Nat.reduceAdd, Nat.zero_add, List.range, List.range.loop]; refine ⟨by u_nil, ?_⟩
  refine T.alloc1 true hn hb4 hmm rfl rfl (by k_ne) (fun N => .pointer (some ⟨N, 0, none⟩)) #[.int .u32 0, .int .i32 0, .int .u32 0] 62 (fun w1 => ⟨by go_simp, by simp [go_sem]⟩) (fun w5 No g5 l5 hn5 hb5 fx5 nw5 ho5 => ?_)
  have hf5 := ((fx5 _ hf4).cons (A := ⟨No, 0, none⟩) (.inl (.inr rfl)) (nw5 0 _ rfl).1 (nw5 0 _ rfl).2).cons (A := ⟨No, 1, none⟩) (.inl (.inr rfl)) (nw5 1 _ rfl).1 (nw5 1 _ rfl).2
  have hH5 : Hold c w w5 := hH4.trans (ho5.sub (fun a ha => Cx.with_cells (Cx.with_cells (Cx.with_cells ha))))
  clear fx5 nw5 ho5 hf4 hn4 hb4 hH4
  replace hn := hn5
  walk_nrm
  refine T.goes1 hn rfl (fun _ _ _ => ?_); rw [stepG_region_end]; simp only [goes_go]; refine ⟨by u_nil, ?_⟩
  refine T.goes1 hn rfl (fun _ _ _ => ?_); rw [stepG_seq]; simp only [goes_go]; refine ⟨by u_nil, ?_⟩
  refine T.goes1 hn rfl (fun _ _ _ => ?_); rw [stepG_region]; simp only [goes_go, List.size_toArray, List.length_cons, List.length_nil, Nat.reduceAdd, Nat.zero_add, List.range, List.range.loop]; refine ⟨by u_nil, ?_⟩
  refine T.alloc1 true hn hb5 hmm rfl rfl (by k_ne) (fun N => .pointer (some ⟨N, 0, none⟩)) #[.int .i64 0] 3 (fun w1 => ⟨by go_simp, by simp [go_sem]⟩) (fun w6 Nt g6 l6 hn6 hb6 fx6 nw6 ho6 => ?_)
  have hf6 := (fx6 _ hf5).cons (A := ⟨Nt, 0, none⟩) (.inl (.inr rfl)) (nw6 0 _ rfl).1 (nw6 0 _ rfl).2
  have hH6 : Hold c w w6 := hH5.trans (ho6.sub (fun a ha => Cx.with_cells (Cx.with_cells (Cx.with_cells (Cx.with_cells ha)))))
  clear fx6 nw6 ho6 hf5 hn5 hb5 hH5
  replace hn := hn6
  walk_nrm
  refine T.goes1 hn rfl (fun _ _ _ => ?_); rw [stepG_region_end]; simp only [goes_go]; refine ⟨by u_nil, ?_⟩
  refine T.goes1 hn rfl (fun _ _ _ => ?_); rw [stepG_seq]; simp only [goes_go]; refine ⟨by u_nil, ?_⟩
  refine T.goes1 hn rfl (fun _ _ _ => ?_); rw [stepG_region]; simp only [goes_go, List.size_toArray, List.length_cons, List.length_nil, Nat.reduceAdd, Nat.zero_add, List.range, List.range.loop]; refine ⟨by u_nil, ?_⟩
  refine T.val hn (.func (.func 33) #[] #[.pointer (some ⟨No, 0, none⟩), .pointer (some ⟨Nf, 0, none⟩), .pointer (some ⟨Nt, 0, none⟩)]) rfl rfl (by k_ne) (fun w1 _ => ⟨by unfold execOp; simp [go_sem, run_mkf], fun e he => by simp [go_sem, events_mkf] at he⟩) ?_
  walk_nrm
  refine T.goes1 hn rfl (fun _ _ _ => ?_); refine goes_oper_k rfl rfl (by k_ne) (fun K hK => ?_); go_simp; refine hK _ _ ⟨?_, ?_⟩; (u_none; intro e he; have hm := mem_listed he; simp [go_sem, *] at hm); clear hK K; try walk_nrm
  refine T.goes1 hn rfl (fun _ _ _ => ?_); rw [stepG_region_end]; simp only [goes_go]; refine ⟨by u_nil, ?_⟩
  refine T.goes1 hn rfl (fun _ _ _ => ?_); rw [stepG_ret']; simp only [goes_go]; refine ⟨by u_nil, ?_⟩
  refine T.goes1 hn rfl (fun _ _ _ => ?_); refine goes_leave1 rfl rfl Try.func19 rfl ⟨by u_nil, ?_⟩; walk_nrm
  refine T.goes1 hn rfl (fun _ _ _ => ?_); refine goes_oper_k rfl rfl (by k_ne) (fun K hK => ?_); go_simp; refine hK _ _ ⟨?_, ?_⟩; (u_none; intro e he; have hm := mem_listed he; simp [go_sem, *] at hm); clear hK K; try walk_nrm
  refine T.goes1 hn rfl (fun _ _ _ => ?_); rw [stepG_region_end]; simp only [goes_go]; refine ⟨by u_nil, ?_⟩
  refine T.goes1 hn rfl (fun _ _ _ => ?_); rw [stepG_seq]; simp only [goes_go]; refine ⟨by u_nil, ?_⟩
  refine T.goes1 hn rfl (fun _ _ _ => ?_); rw [stepG_seq]; simp only [goes_go]; refine ⟨by u_nil, ?_⟩
  refine T.goes1 hn rfl (fun _ _ _ => ?_); rw [stepG_region]; simp only [goes_go, List.size_toArray, List.length_cons, List.length_nil, Nat.reduceAdd, Nat.zero_add, List.range, List.range.loop]; refine ⟨by u_nil, ?_⟩
  refine T.goes1 hn rfl (fun _ _ _ => ?_); refine goes_oper_k rfl rfl (by k_ne) (fun K hK => ?_); go_simp; refine hK _ _ ⟨?_, ?_⟩; (u_none; intro e he; have hm := mem_listed he; simp [go_sem, *] at hm); clear hK K; try walk_nrm
  refine T.val hn (.bool false) rfl rfl (by k_ne) (fun w1 _ => ⟨by unfold execOp; simp [go_sem, eqp], fun e he => by simp [go_sem, eqpe] at he⟩) ?_; walk_nrm
  refine T.goes1 hn rfl (fun _ _ _ => ?_); refine goes_oper_k rfl rfl (by k_ne) (fun K hK => ?_); go_simp; refine hK _ _ ⟨?_, ?_⟩; (u_none; intro e he; have hm := mem_listed he; simp [go_sem, *] at hm); clear hK K; try walk_nrm
  refine T.goes1 hn rfl (fun _ _ _ => ?_); refine goes_oper_k rfl rfl (by k_ne) (fun K hK => ?_); go_simp; refine hK _ _ ⟨?_, ?_⟩; (u_none; intro e he; have hm := mem_listed he; simp [go_sem, *] at hm); clear hK K; try walk_nrm
  refine T.val hn (.bool false) rfl rfl (by k_ne) (fun w1 _ => ⟨by unfold execOp; simp [go_sem, eqf], fun e he => by simp [go_sem, eqfe] at he⟩) ?_; walk_nrm
  refine T.goes1 hn rfl (fun _ _ _ => ?_); refine goes_oper_k rfl rfl (by k_ne) (fun K hK => ?_); go_simp; refine hK _ _ ⟨?_, ?_⟩; (u_none; intro e he; have hm := mem_listed he; simp [go_sem, *] at hm); clear hK K; try walk_nrm
  refine T.goes1 hn rfl (fun _ _ _ => ?_); rw [stepG_region_end]; simp only [goes_go]; refine ⟨by u_nil, ?_⟩
  refine T.goes1 hn rfl (fun _ _ _ => ?_); rw [stepG_cond (t := false) rfl]; simp only [goes_go, if_true, if_false, Bool.false_eq_true, ↓reduceIte]; refine ⟨by u_nil, ?_⟩
  refine T.goes1 hn rfl (fun _ _ _ => ?_); rw [stepG_skip]; simp only [goes_go]; refine ⟨by u_nil, ?_⟩
  refine T.goes1 hn rfl (fun _ _ _ => ?_); rw [stepG_seq]; simp only [goes_go]; refine ⟨by u_nil, ?_⟩
  refine T.goes1 hn rfl (fun _ _ _ => ?_); rw [stepG_region]; simp only [goes_go, List.size_toArray, List.length_cons, List.length_nil, Nat.reduceAdd, Nat.zero_add, List.range, List.range.loop]; refine ⟨by u_nil, ?_⟩
  refine T.goes1 hn rfl (fun _ _ _ => ?_); refine goes_oper_k rfl rfl (by k_ne) (fun K hK => ?_); go_simp; refine hK _ _ ⟨?_, ?_⟩; (u_none; intro e he; have hm := mem_listed he; simp [go_sem, *] at hm); clear hK K; try walk_nrm
  refine T.goes1 hn rfl (fun _ _ _ => ?_); refine goes_call rfl rfl (by k_ne) rfl Try.func10 (by kernel_rfl) rfl ⟨by u_nil, ?_⟩; walk_nrmf Try.f10
  have hNc : (((((c.with true Nc).with true Nn).with true Nf).with true No).with true Nt).O ⟨Nc, 0, none⟩ := .inl (.inl (.inl (.inl (.inr rfl))))
  have k6 := hf6 (⟨Nc, 0, none⟩, .int .i64 0) (by simp)
  refine T.le (m := (F0 + 2500) + 60) (by omega) (addown_walk (r := 3) hn hNc k6.2.1 k6.2.2 (by decide) ?_)
  have hs6 := hH6.size
  have hf7 : Facts [(⟨Nt, 0, none⟩, .int .i64 0), (⟨No, 1, none⟩, .int .i32 0), (⟨No, 0, none⟩, .int .u32 0), (⟨Nf, 0, none⟩, .func (.func 20) #[] #[.pointer (some ⟨Nn, 0, none⟩)]), (⟨Nn, 0, none⟩, .int .i64 0)] (((((c.with true Nc).with true Nn).with true Nf).with true No).with true Nt) w6 := fun p hp => hf6 p (by simp only [List.mem_cons, List.not_mem_nil, or_false] at hp ⊢; rcases hp with h | h | h | h | h <;> simp [h])
  have hf8 := (hf7.set (A := ⟨Nc, 0, none⟩) (fun p hp e => by simp only [List.mem_cons, List.not_mem_nil, or_false] at hp; rcases hp with rfl | rfl | rfl | rfl | rfl <;> (have e1 := congrArg Addr.block e; simp at e1; omega)) (.int .i64 3))
  have k8 : (w6.setCell ⟨Nc, 0, none⟩ (.int .i64 3)).cell? ⟨Nc, 0, none⟩ = some (.int .i64 3) ∧ (w6.setCell ⟨Nc, 0, none⟩ (.int .i64 3)).frozen? ⟨Nc, 0, none⟩ = false := ⟨World.cell?_setCell_same _ _ _ k6.2.1, (World.frozen?_setCell _ _ _ _).trans k6.2.2⟩
  have hH8 : Hold c w (w6.setCell ⟨Nc, 0, none⟩ (.int .i64 3)) := hH6.put (fun z hz e => hlow Nc (by omega) z hz (by rw [e]))
  have hb8 : (((((c.with true Nc).with true Nn).with true Nf).with true No).with true Nt).Low (w6.setCell ⟨Nc, 0, none⟩ (.int .i64 3)) := fun a ha => by rw [World.size_setCell]; exact hb6 a ha
  have hs8 : (w6.setCell ⟨Nc, 0, none⟩ (.int .i64 3)).heap.size = w6.heap.size := World.size_setCell _ _ _
  clear hf6 hf7 k6 hH6 hb6
  generalize w6.setCell ⟨Nc, 0, none⟩ (.int .i64 3) = w7 at hf8 k8 hH8 hb8 hs8 ⊢
  walk_nrm
  refine T.goes1 hn rfl (fun _ _ _ => ?_); refine goes_oper_k rfl rfl (by k_ne) (fun K hK => ?_); go_simp; refine hK _ _ ⟨?_, ?_⟩; (u_none; intro e he; have hm := mem_listed he; simp [go_sem, *] at hm); clear hK K; try walk_nrm
  refine T.goes1 hn rfl (fun _ _ _ => ?_); rw [stepG_region_end]; simp only [goes_go]; refine ⟨by u_nil, ?_⟩
  refine T.goes1 hn rfl (fun _ _ _ => ?_); rw [stepG_seq]; simp only [goes_go]; refine ⟨by u_nil, ?_⟩
  refine T.goes1 hn rfl (fun _ _ _ => ?_); rw [stepG_region]; simp only [goes_go, List.size_toArray, List.length_cons, List.length_nil, Nat.reduceAdd, Nat.zero_add, List.range, List.range.loop]; refine ⟨by u_nil, ?_⟩
  refine T.goes1 hn rfl (fun _ _ _ => ?_); refine goes_oper_k rfl rfl (by k_ne) (fun K hK => ?_); go_simp; refine hK _ _ ⟨?_, ?_⟩; (u_none; intro e he; have hm := mem_listed he; simp [go_sem, *] at hm); clear hK K; try walk_nrm
  refine T.goes1 hn rfl (fun _ _ _ => ?_); refine goes_call rfl rfl (by k_ne) rfl Try.func10 (by kernel_rfl) rfl ⟨by u_nil, ?_⟩; walk_nrmf Try.f10
  refine T.le (m := (F0 + 2400) + 60) (by omega) (addown_walk (r := 2) hn hNc k8.1 k8.2 (by decide) ?_)
  have hf9 := (hf8.set (A := ⟨Nc, 0, none⟩) (fun p hp e => by simp only [List.mem_cons, List.not_mem_nil, or_false] at hp; rcases hp with rfl | rfl | rfl | rfl | rfl <;> (have e1 := congrArg Addr.block e; simp at e1; omega)) (.int .i64 2)).cons (A := ⟨Nc, 0, none⟩) (.inl hNc) (World.cell?_setCell_same _ _ _ k8.1) ((World.frozen?_setCell _ _ _ _).trans k8.2)
  have hH9 : Hold c w (w7.setCell ⟨Nc, 0, none⟩ (.int .i64 2)) := hH8.put (fun z hz e => hlow Nc (by omega) z hz (by rw [e]))
  have hb9 : (((((c.with true Nc).with true Nn).with true Nf).with true No).with true Nt).Low (w7.setCell ⟨Nc, 0, none⟩ (.int .i64 2)) := fun a ha => by rw [World.size_setCell]; exact hb8 a ha
  have hs9 : (w7.setCell ⟨Nc, 0, none⟩ (.int .i64 2)).heap.size = w7.heap.size := World.size_setCell _ _ _
  clear hf8 k8 hH8 hb8
  generalize w7.setCell ⟨Nc, 0, none⟩ (.int .i64 2) = w9 at hf9 hH9 hb9 hs9 ⊢
  walk_nrm
  refine T.goes1 hn rfl (fun _ _ _ => ?_); refine goes_oper_k rfl rfl (by k_ne) (fun K hK => ?_); go_simp; refine hK _ _ ⟨?_, ?_⟩; (u_none; intro e he; have hm := mem_listed he; simp [go_sem, *] at hm); clear hK K; try walk_nrm
  refine T.goes1 hn rfl (fun _ _ _ => ?_); rw [stepG_region_end]; simp only [goes_go]; refine ⟨by u_nil, ?_⟩
  refine T.goes1 hn rfl (fun _ _ _ => ?_); rw [stepG_seq]; simp only [goes_go]; refine ⟨by u_nil, ?_⟩
  refine T.goes1 hn rfl (fun _ _ _ => ?_); rw [stepG_region]; simp only [goes_go, List.size_toArray, List.length_cons, List.length_nil, Nat.reduceAdd, Nat.zero_add, List.range, List.range.loop]; refine ⟨by u_nil, ?_⟩
  refine T.goes1 hn rfl (fun _ _ _ => ?_); refine goes_call rfl rfl (by k_ne) rfl Try.func11 (by kernel_rfl) rfl ⟨by u_nil, ?_⟩; walk_nrmf Try.f11
  have hall := @allInt Post 21 #[] [] Vsq 40 sq_task ⟨Try.f21, _, Try.func21, by kernel_rfl, rfl⟩ (fun j X v w h => ⟨_, h⟩) (fun _ _ _ _ _ _ h => h) (fun _ _ _ _ _ _ h => h) true (((((c.with true Nc).with true Nn).with true Nf).with true No).with true Nt) w9 hn hb9 hp hl hmm (fun p hp => by simp at hp) 2 3 M (mT + 2500) hM1 hM2 (by omega) (by omega) (by omega)
  simp only [Try.f11, Option.getD_some] at hall
  refine T.le (m := mT + 2500 + 400 * (M + 4) + (40 + 300) * (3 + 1) + 9000) (by omega) (hall (fun w10 X R r10 hR hXb hXn hD => ?_))
  clear hall
  have hs10 := r10.size
  have hn7 : Cx.Neat { (((((c.with true Nc).with true Nn).with true Nf).with true No).with true Nt) with O := fun a => (((((c.with true Nc).with true Nn).with true Nf).with true No).with true Nt).O a ∨ X a } := ⟨fun x hx hu => hx.elim (fun h => hn.ou x h hu) (fun h => (hXn x h).2.1 hu), fun x hz => ⟨fun hx => hx.elim (hn.oz x hz).1 (fun h => (hXn x h).2.2 hz), (hn.oz x hz).2⟩⟩
  have hf10 := hf9.hold r10
  have hH10 : Hold c w w10 := hH9.trans (r10.sub (fun a ha => Cx.with_cells (Cx.with_cells (Cx.with_cells (Cx.with_cells (Cx.with_cells ha))))))
  have e4 : IntKind.i64.wrap (((2 : Nat) : Int) * ((2 : Nat) : Int)) = 4 := by decide
  have hcell : { (((((c.with true Nc).with true Nn).with true Nf).with true No).with true Nt) with O := fun a => (((((c.with true Nc).with true Nn).with true Nf).with true No).with true Nt).O a ∨ X a }.O ⟨R, 2, none⟩ ∧ w10.cell? ⟨R, 2, none⟩ = some (.int .i64 4) := by
    obtain ⟨Y, y1, y2, v, y3, y4⟩ := hD 2 (by omega)
    refine ⟨.inr (y1 _ y2), ?_⟩
    have : v = .int .i64 4 := y4.trans (congrArg _ e4)
    rw [← this]; exact y3
  have hO10 : OnceAt { (((((c.with true Nc).with true Nn).with true Nf).with true No).with true Nt) with O := fun a => (((((c.with true Nc).with true Nn).with true Nf).with true No).with true Nt).O a ∨ X a } No Nf Nn Nt 0 0 0 0 w10 := by
    have k1 := hf10 (⟨No, 0, none⟩, .int .u32 0) (by simp)
    have k2 := hf10 (⟨No, 1, none⟩, .int .i32 0) (by simp)
    have k3 := hf10 (⟨Nf, 0, none⟩, .func (.func 20) #[] #[.pointer (some ⟨Nn, 0, none⟩)]) (by simp)
    have k4 := hf10 (⟨Nn, 0, none⟩, .int .i64 0) (by simp)
    have k5 := hf10 (⟨Nt, 0, none⟩, .int .i64 0) (by simp)
    refine ⟨⟨by omega, by omega, by omega, by omega, by omega, by omega⟩, fun a ha => .inl ?_, k1.2, k2.2, k3.2, k4.2, k5.2⟩
    rcases ha with h | h | h | h
    · exact .inl (.inr h)
    · exact .inl (.inl (.inr h))
    · exact .inl (.inl (.inl (.inr h)))
    · exact .inr h
  have kc := hf10 (⟨Nc, 0, none⟩, .int .i64 2) (by simp)
  have hNc6 : { (((((c.with true Nc).with true Nn).with true Nf).with true No).with true Nt) with O := fun a => (((((c.with true Nc).with true Nn).with true Nf).with true No).with true Nt).O a ∨ X a }.O ⟨Nc, 0, none⟩ := .inl hNc
  replace hn := hn7
  clear hf9 hf10 hD hXb r10 hn7
  walk_nrm
  refine T.goes1 hn rfl (fun _ _ _ => ?_); refine goes_oper_k rfl rfl (by k_ne) (fun K hK => ?_); go_simp; refine hK _ _ ⟨?_, ?_⟩; (u_none; intro e he; have hm := mem_listed he; simp [go_sem, *] at hm); clear hK K; try walk_nrm
  refine T.goes1 hn rfl (fun _ _ _ => ?_); refine goes_oper_k rfl rfl (by k_ne) (fun K hK => ?_); go_simp; refine hK _ _ ⟨?_, ?_⟩; (u_none; intro e he; have hm := mem_listed he; simp [go_sem, *] at hm); clear hK K; try walk_nrm
  refine T.goes1 hn rfl (fun _ _ _ => ?_); refine goes_oper_k rfl rfl (by k_ne) (fun K hK => ?_); go_simp; refine hK _ _ ⟨?_, ?_⟩; (u_none; intro e he; have hm := mem_listed he; simp [go_sem, *] at hm); clear hK K; try walk_nrm
  refine T.goes1 hn rfl (fun _ _ _ => ?_); refine goes_oper_k rfl rfl (by k_ne) (fun K hK => ?_); go_simp; refine hK _ _ ⟨?_, ?_⟩; (u_none; intro e he; have hm := mem_listed he; simp [go_sem, *] at hm); clear hK K; try walk_nrm
  refine T.goes1 hn rfl (fun _ _ _ => ?_); refine goes_oper_k rfl rfl (by k_ne) (fun K hK => ?_); go_simp; refine hK _ _ ⟨?_, ?_⟩; (u_none; intro e he; have hm := mem_listed he; simp [go_sem, *] at hm); clear hK K; try walk_nrm
  refine T.goes1 hn rfl (fun _ _ _ => ?_); rw [stepG_region_end]; simp only [goes_go]; refine ⟨by u_nil, ?_⟩
  refine T.goes1 hn rfl (fun _ _ _ => ?_); rw [stepG_seq]; simp only [goes_go]; refine ⟨by u_nil, ?_⟩
  refine T.goes1 hn rfl (fun _ _ _ => ?_); rw [stepG_region]; simp only [goes_go, List.size_toArray, List.length_cons, List.length_nil, Nat.reduceAdd, Nat.zero_add, List.range, List.range.loop]; refine ⟨by u_nil, ?_⟩
  refine T.goes1 hn rfl (fun _ _ _ => ?_); refine goes_oper_k rfl rfl (by k_ne) (fun K hK => ?_); go_simp; refine hK _ _ ⟨?_, ?_⟩; (u_none; intro e he; have hm := mem_listed he; simp [go_sem, *] at hm); clear hK K; try walk_nrm
  refine T.goes1 hn rfl (fun _ _ _ => ?_); refine goes_oper_k rfl rfl (by k_ne) (fun K hK => ?_); go_simp; refine hK _ _ ⟨?_, ?_⟩; (u_none; intro e he; have hm := mem_listed he; simp [go_sem, *] at hm); clear hK K; try walk_nrm
  refine T.goes1 hn rfl (fun _ _ _ => ?_); refine goes_oper_k rfl rfl (by k_ne) (fun K hK => ?_); go_simp; refine hK _ _ ⟨?_, ?_⟩; (u_none; intro e he; have hm := mem_listed he; simp [go_sem, *] at hm); clear hK K; try walk_nrm
  refine T.goes1 hn rfl (fun _ _ _ => ?_); refine goes_oper_k rfl rfl (by k_ne) (fun K hK => ?_); go_simp; refine hK _ _ ⟨?_, ?_⟩; (u_none; intro e he; have hm := mem_listed he; simp [go_sem, *] at hm); clear hK K; try walk_nrm
  refine T.goes1 hn rfl (fun _ _ _ => ?_); refine goes_oper_k rfl rfl (by k_ne) (fun K hK => ?_); go_simp; refine hK _ _ ⟨?_, ?_⟩; (u_none; intro e he; have hm := mem_listed he; simp [go_sem, *] at hm); clear hK K; try walk_nrm
  refine T.goes1 hn rfl (fun _ _ _ => ?_); refine goes_oper_k rfl rfl (by k_ne) (fun K hK => ?_); go_simp; refine hK _ _ ⟨?_, ?_⟩; (u_none; intro e he; have hm := mem_listed he; simp [go_sem, *] at hm); clear hK K; try walk_nrm
  refine T.goes1 hn rfl (fun _ _ _ => ?_); refine goes_oper_k rfl rfl (by k_ne) (fun K hK => ?_); go_simp; refine hK _ _ ⟨?_, ?_⟩; (u_none; intro e he; have hm := mem_listed he; simp [go_sem, *] at hm); clear hK K; try walk_nrm
  refine T.goes1 hn rfl (fun _ _ _ => ?_); refine goes_oper_k rfl rfl (by k_ne) (fun K hK => ?_); go_simp; refine hK _ _ ⟨?_, ?_⟩; (u_none; intro e he; have hm := mem_listed he; simp [go_sem, *] at hm); clear hK K; try walk_nrm
  refine T.goes1 hn rfl (fun _ _ _ => ?_); refine goes_call rfl rfl (by k_ne) rfl Try.func13 (by kernel_rfl) rfl ⟨by u_nil, ?_⟩; walk_nrmf Try.f13
  refine T.le (m := (mT + 2300) + 60) (by omega) (value_walk hn hNc6 kc.2.1 ?_)
  walk_nrm
  refine T.goes1 hn rfl (fun _ _ _ => ?_); refine goes_oper_k rfl rfl (by k_ne) (fun K hK => ?_); go_simp; refine hK _ _ ⟨?_, ?_⟩; (u_none; intro e he; have hm := mem_listed he; simp [go_sem, *] at hm); clear hK K; try walk_nrm
  refine T.goes1 hn rfl (fun _ _ _ => ?_); refine goes_oper_k rfl rfl (by k_ne) (fun K hK => ?_); go_simp; refine hK _ _ ⟨?_, ?_⟩; (u_none; intro e he; have hm := mem_listed he; simp [go_sem, *] at hm); clear hK K; try walk_nrm
  refine T.goes1 hn rfl (fun _ _ _ => ?_); refine goes_oper_k rfl rfl (by k_ne) (fun K hK => ?_); go_simp; refine hK _ _ ⟨?_, ?_⟩; (u_none; intro e he; have hm := mem_listed he; simp [go_sem, *] at hm); clear hK K; try walk_nrm
  refine T.goes1 hn rfl (fun _ _ _ => ?_); refine goes_oper_k rfl rfl (by k_ne) (fun K hK => ?_); go_simp; refine hK _ _ ⟨?_, ?_⟩; (u_none; intro e he; have hm := mem_listed he; simp [go_sem, *] at hm); clear hK K; try walk_nrm
  refine T.clo hn rfl rfl (by k_ne) rfl rfl Try.func33 (by kernel_rfl) rfl ?_; walk_nrmf Try.f33
  refine T.le (m := (mT + 1600) + 500) (by omega) (once1_walk hn hp hm hO10 ?_)
  have hO11 := (((((hO10.setS 1).setN 1).setT 7).setD 1).setS 0)
  have hR2 : ∀ x : Addr, x.block = No ∨ x.block = Nn ∨ x.block = Nt → (⟨R, 2, none⟩ : Addr) ≠ x := fun x hx e => by rw [← e] at hx; simp at hx; omega
  have hcell2 : (((((w10.setCell ⟨No, 1, none⟩ (.int .i32 1)).setCell ⟨Nn, 0, none⟩ (.int .i64 1)).setCell ⟨Nt, 0, none⟩ (.int .i64 7)).setCell ⟨No, 0, none⟩ (.int .u32 1)).setCell ⟨No, 1, none⟩ (.int .i32 0)).cell? ⟨R, 2, none⟩ = some (.int .i64 4) := by
    rw [World.cell?_setCell_other _ _ _ _ (Ne.symm (hR2 _ (.inl rfl))), World.cell?_setCell_other _ _ _ _ (Ne.symm (hR2 _ (.inl rfl))), World.cell?_setCell_other _ _ _ _ (Ne.symm (hR2 _ (.inr (.inr rfl)))), World.cell?_setCell_other _ _ _ _ (Ne.symm (hR2 _ (.inr (.inl rfl)))), World.cell?_setCell_other _ _ _ _ (Ne.symm (hR2 _ (.inl rfl)))]
    exact hcell.2
  have hH11 : Hold c w (((((w10.setCell ⟨No, 1, none⟩ (.int .i32 1)).setCell ⟨Nn, 0, none⟩ (.int .i64 1)).setCell ⟨Nt, 0, none⟩ (.int .i64 7)).setCell ⟨No, 0, none⟩ (.int .u32 1)).setCell ⟨No, 1, none⟩ (.int .i32 0)) := by
    refine ((((hH10.put (fun z hz e => hlow No (by omega) z hz (by rw [e]))).put (fun z hz e => hlow Nn (by omega) z hz (by rw [e]))).put (fun z hz e => hlow Nt (by omega) z hz (by rw [e]))).put (fun z hz e => hlow No (by omega) z hz (by rw [e]))).put (fun z hz e => hlow No (by omega) z hz (by rw [e]))
  clear hO10 hH10 kc
  have hc2 := hcell.1
  clear hcell
  generalize (((((w10.setCell ⟨No, 1, none⟩ (.int .i32 1)).setCell ⟨Nn, 0, none⟩ (.int .i64 1)).setCell ⟨Nt, 0, none⟩ (.int .i64 7)).setCell ⟨No, 0, none⟩ (.int .u32 1)).setCell ⟨No, 1, none⟩ (.int .i32 0)) = w11 at hO11 hcell2 hH11 ⊢
  walk_nrm
  refine T.goes1 hn rfl (fun _ _ _ => ?_); refine goes_oper_k rfl rfl (by k_ne) (fun K hK => ?_); go_simp; refine hK _ _ ⟨?_, ?_⟩; (u_none; intro e he; have hm := mem_listed he; simp [go_sem, *] at hm); clear hK K; try walk_nrm
  refine T.goes1 hn rfl (fun _ _ _ => ?_); refine goes_oper_k rfl rfl (by k_ne) (fun K hK => ?_); go_simp; refine hK _ _ ⟨?_, ?_⟩; (u_none; intro e he; have hm := mem_listed he; simp [go_sem, *] at hm); clear hK K; try walk_nrm
  refine T.goes1 hn rfl (fun _ _ _ => ?_); refine goes_oper_k rfl rfl (by k_ne) (fun K hK => ?_); go_simp; refine hK _ _ ⟨?_, ?_⟩; (u_none; intro e he; have hm := mem_listed he; simp [go_sem, *] at hm); clear hK K; try walk_nrm
  refine T.goes1 hn rfl (fun _ _ _ => ?_); refine goes_oper_k rfl rfl (by k_ne) (fun K hK => ?_); go_simp; refine hK _ _ ⟨?_, ?_⟩; (u_none; intro e he; have hm := mem_listed he; simp [go_sem, *] at hm); clear hK K; try walk_nrm
  refine T.clo hn rfl rfl (by k_ne) rfl rfl Try.func33 (by kernel_rfl) rfl ?_; walk_nrmf Try.f33
  refine T.le (m := (mT + 1400) + 100) (by omega) (once2_walk hn hp hm hO11 ?_)
  have kn := hO11.cn.1
  have hAn := hO11.own ⟨Nn, 0, none⟩ (.inr (.inr (.inl rfl)))
  walk_nrm
  refine T.goes1 hn rfl (fun _ _ _ => ?_); refine goes_oper_k rfl rfl (by k_ne) (fun K hK => ?_); go_simp; refine hK _ _ ⟨?_, ?_⟩; (u_none; intro e he; have hm := mem_listed he; simp [go_sem, *] at hm); clear hK K; try walk_nrm
  refine T.goes1 hn rfl (fun _ _ _ => ?_); refine goes_oper_k rfl rfl (by k_ne) (fun K hK => ?_); go_simp; refine hK _ _ ⟨?_, ?_⟩; (u_none; intro e he; have hm := mem_listed he; simp [go_sem, *] at hm); clear hK K; try walk_nrm
  refine T.goes1 hn rfl (fun _ _ _ => ?_); refine goes_oper_k rfl rfl (by k_ne) (fun K hK => ?_); go_simp; refine hK _ _ ⟨?_, ?_⟩; (u_none; intro e he; have hm := mem_listed he; simp [go_sem, *] at hm); clear hK K; try walk_nrm
  refine T.quiet hn rfl rfl (by k_ne) (fun w₁ hF hL K hK => ?_); have fc := (hF.cell _ (.inl (hAn))).1.trans (kn); go_simp; refine hK _ ?_ ?_; (intro e he; simp [go_sem, *] at he; subst he; exact EvOk.rd false (.inl (hAn))); clear hK K fc; try walk_nrm
  refine T.goes1 hn rfl (fun _ _ _ => ?_); refine goes_oper_k rfl rfl (by k_ne) (fun K hK => ?_); go_simp; refine hK _ _ ⟨?_, ?_⟩; (u_none; intro e he; have hm := mem_listed he; simp [go_sem, *] at hm); clear hK K; try walk_nrm
  refine T.goes1 hn rfl (fun _ _ _ => ?_); refine goes_oper_k rfl rfl (by k_ne) (fun K hK => ?_); go_simp; refine hK _ _ ⟨?_, ?_⟩; (u_none; intro e he; have hm := mem_listed he; simp [go_sem, *] at hm); clear hK K; try walk_nrm
  refine T.goes1 hn rfl (fun _ _ _ => ?_); refine goes_oper_k rfl rfl (by k_ne) (fun K hK => ?_); go_simp; refine hK _ _ ⟨?_, ?_⟩; (u_none; intro e he; have hm := mem_listed he; simp [go_sem, *] at hm); clear hK K; try walk_nrm
  refine T.goes1 hn rfl (fun _ _ _ => ?_); refine goes_oper_k rfl rfl (by k_ne) (fun K hK => ?_); go_simp; refine hK _ _ ⟨?_, ?_⟩; (u_none; intro e he; have hm := mem_listed he; simp [go_sem, *] at hm); clear hK K; try walk_nrm
  refine T.goes1 hn rfl (fun _ _ _ => ?_); refine goes_oper_k rfl rfl (by k_ne) (fun K hK => ?_); go_simp; refine hK _ _ ⟨?_, ?_⟩; (u_none; intro e he; have hm := mem_listed he; simp [go_sem, *] at hm); clear hK K; try walk_nrm
  refine T.goes1 hn rfl (fun _ _ _ => ?_); refine goes_oper_k rfl rfl (by k_ne) (fun K hK => ?_); go_simp; refine hK _ _ ⟨?_, ?_⟩; (u_none; intro e he; have hm := mem_listed he; simp [go_sem, *] at hm); clear hK K; try walk_nrm
  refine T.goes1 hn rfl (fun _ _ _ => ?_); refine goes_oper_k rfl rfl (by k_ne) (fun K hK => ?_); go_simp; refine hK _ _ ⟨?_, ?_⟩; (u_none; intro e he; have hm := mem_listed he; simp [go_sem, *] at hm); clear hK K; try walk_nrm
  refine T.goes1 hn rfl (fun _ _ _ => ?_); refine goes_oper_k rfl rfl (by k_ne) (fun K hK => ?_); go_simp; refine hK _ _ ⟨?_, ?_⟩; (u_none; intro e he; have hm := mem_listed he; simp [go_sem, *] at hm); clear hK K; try walk_nrm
  refine T.goes1 hn rfl (fun _ _ _ => ?_); refine goes_oper_k rfl rfl (by k_ne) (fun K hK => ?_); go_simp; refine hK _ _ ⟨?_, ?_⟩; (u_none; intro e he; have hm := mem_listed he; simp [go_sem, *] at hm); clear hK K; try walk_nrm
  refine T.goes1 hn rfl (fun _ _ _ => ?_); refine goes_oper_k rfl rfl (by k_ne) (fun K hK => ?_); go_simp; refine hK _ _ ⟨?_, ?_⟩; (u_none; intro e he; have hm := mem_listed he; simp [go_sem, *] at hm); clear hK K; try walk_nrm
  refine T.goes1 hn rfl (fun _ _ _ => ?_); refine goes_oper_k rfl rfl (by k_ne) (fun K hK => ?_); go_simp; refine hK _ _ ⟨?_, ?_⟩; (u_none; intro e he; have hm := mem_listed he; simp [go_sem, *] at hm); clear hK K; try walk_nrm
  refine T.goes1 hn rfl (fun _ _ _ => ?_); refine goes_oper_k rfl rfl (by k_ne) (fun K hK => ?_); go_simp; refine hK _ _ ⟨?_, ?_⟩; (u_none; intro e he; have hm := mem_listed he; simp [go_sem, *] at hm); clear hK K; try walk_nrm
  refine T.goes1 hn rfl (fun _ _ _ => ?_); refine goes_oper_k rfl rfl (by k_ne) (fun K hK => ?_); go_simp; refine hK _ _ ⟨?_, ?_⟩; (u_none; intro e he; have hm := mem_listed he; simp [go_sem, *] at hm); clear hK K; try walk_nrm
  refine T.goes1 hn rfl (fun _ _ _ => ?_); refine goes_oper_k rfl rfl (by k_ne) (fun K hK => ?_); go_simp; refine hK _ _ ⟨?_, ?_⟩; (u_none; intro e he; have hm := mem_listed he; simp [go_sem, *] at hm); clear hK K; try walk_nrm
  refine T.quiet hn rfl rfl (by k_ne) (fun w₁ hF hL K hK => ?_); have fc := (hF.cell _ (.inl (hc2))).1.trans (hcell2); go_simp; refine hK _ ?_ ?_; (intro e he; simp [go_sem, *] at he; subst he; exact EvOk.rd false (.inl (hc2))); clear hK K fc; try walk_nrm
  refine T.goes1 hn rfl (fun _ _ _ => ?_); refine goes_oper_k rfl rfl (by k_ne) (fun K hK => ?_); go_simp; refine hK _ _ ⟨?_, ?_⟩; (u_none; intro e he; have hm := mem_listed he; simp [go_sem, *] at hm); clear hK K; try walk_nrm
  refine T.goes1 hn rfl (fun _ _ _ => ?_); refine goes_oper_k rfl rfl (by k_ne) (fun K hK => ?_); go_simp; refine hK _ _ ⟨?_, ?_⟩; (u_none; intro e he; have hm := mem_listed he; simp [go_sem, *] at hm); clear hK K; try walk_nrm
  refine T.goes1 hn rfl (fun _ _ _ => ?_); refine goes_oper_k rfl rfl (by k_ne) (fun K hK => ?_); go_simp; refine hK _ _ ⟨?_, ?_⟩; (u_none; intro e he; have hm := mem_listed he; simp [go_sem, *] at hm); clear hK K; try walk_nrm
  refine T.goes1 hn rfl (fun _ _ _ => ?_); rw [stepG_region_end]; simp only [goes_go]; refine ⟨by u_nil, ?_⟩
  refine T.goes1 hn rfl (fun _ _ _ => ?_); rw [stepG_ret']; simp only [goes_go]; refine ⟨by u_nil, ?_⟩
  have hls : Less { (((((c.with true Nc).with true Nn).with true Nf).with true No).with true Nt) with O := fun a => (((((c.with true Nc).with true Nn).with true Nf).with true No).with true Nt).O a ∨ X a } c := ⟨fun a ha => ha.elim (fun h => .inl (.inl (.inl (.inl (.inl (.inl (.inl h))))))) .inr, fun a h => h, hn0.ou, hn0.oz, fun a h => .inl h, rfl, rfl, rfl, hmm⟩
  refine T.turn hls rfl (fun _ _ _ => ?_); refine goes_leave1 rfl rfl Try.func6 rfl ⟨by u_nil, ?_⟩; walk_nrm
  exact T.le (by omega) (hT w11 hH11)
end Go.Proofs.Ytidadgibhmiojaa
