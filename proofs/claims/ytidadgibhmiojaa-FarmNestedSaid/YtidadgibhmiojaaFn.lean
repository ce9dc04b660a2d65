/- FarmNested: the tasks. -/
import Derived.Test.YtidadgibhmiojaaFj
import Derived.Test.YtidadgibhmiojaaGma
set_option linter.unusedSimpArgs false
set_option linter.unusedVariables false
namespace Go.Proofs.Ytidadgibhmiojaa
open Go.Conc Go.RowKit Go.Conc.Lib Go.ConcR.Gen Go.ConcN.Gen Go.Farm
open Go.ConcR (DC0)
variable {Post : Value → World → Prop}
/-- 100 * i + k -/
def val (i k : Nat) : Int := IntKind.i64.wrap (IntKind.i64.wrap (100 * (i : Int)) + (k : Int))
def Vin (i k : Nat) (_ : AS) (v : Value) (_ : World) : Prop := v = .int .i64 (val i k)
set_option maxRecDepth 100000 in
set_option maxHeartbeats 8000000 in
theorem in_task (N1 i : Nat) : TaskOk Try.prog Post 18 #[.pointer (some ⟨N1, 0, none⟩)] [(⟨N1, 0, none⟩, .int .i64 (i : Int))] (Vin i) 40 := by
  intro κ lb J c w j mT b₀ a₀ ops₀ i₀ rest₀ k₀ cs hn hb hm hp hl hZ hj hT
  have hT := hT w (fun _ => False) _ (Hold.refl _ _) (fun a h => h.elim) rfl
  have hls := Less.none hn (m0_of hm)
  obtain ⟨z1, z2⟩ := hZ (⟨N1, 0, none⟩, .int .i64 (i : Int)) (by simp)
  unfold val at hT
  rw [enter_at _ Try.func18 rfl]
  walk_nrmf Try.f18
  refine T.goes1 hn rfl (fun _ _ _ => ?_); rw [stepG_seq]; simp only [goes_go]; refine ⟨by u_nil, ?_⟩
  refine T.goes1 hn rfl (fun _ _ _ => ?_); rw [stepG_region]; simp only [goes_go, List.size_toArray, List.length_cons, List.length_nil, Nat.reduceAdd, Nat.zero_add, List.range, List.range.loop]; refine ⟨by u_nil, ?_⟩
  refine T.goes1 hn rfl (fun _ _ _ => ?_); refine goes_oper_k rfl rfl (by k_ne) (fun K hK => ?_); go_simp; refine hK _ _ ⟨?_, ?_⟩; (u_none; intro e he; have hm := mem_listed he; simp [go_sem, *] at hm); clear hK K; try walk_nrm
  refine T.goes1 hn rfl (fun _ _ _ => ?_); rw [stepG_region_end]; simp only [goes_go]; refine ⟨by u_nil, ?_⟩
  refine T.goes1 hn rfl (fun _ _ _ => ?_); rw [stepG_seq]; simp only [goes_go]; refine ⟨by u_nil, ?_⟩
  refine T.goes1 hn rfl (fun _ _ _ => ?_); rw [stepG_region]; simp only [goes_go, List.size_toArray, List.length_cons, List.length_nil, Nat.reduceAdd, Nat.zero_add, List.range, List.range.loop]; refine ⟨by u_nil, ?_⟩
  refine T.quiet hn rfl rfl (by k_ne) (fun w₁ hF hL K hK => ?_); have fc := (hF.cell _ (.inr (.inr (z1)))).1.trans (z2); go_simp; refine hK _ ?_ ?_; (intro e he; simp [go_sem, *] at he; subst he; exact EvOk.rd false (.inr (z1))); clear hK K fc; try walk_nrm
  refine T.goes1 hn rfl (fun _ _ _ => ?_); refine goes_oper_k rfl rfl (by k_ne) (fun K hK => ?_); go_simp; refine hK _ _ ⟨?_, ?_⟩; (u_none; intro e he; have hm := mem_listed he; simp [go_sem, *] at hm); clear hK K; try walk_nrm
  refine T.goes1 hn rfl (fun _ _ _ => ?_); refine goes_oper_k rfl rfl (by k_ne) (fun K hK => ?_); go_simp; refine hK _ _ ⟨?_, ?_⟩; (u_none; intro e he; have hm := mem_listed he; simp [go_sem, *] at hm); clear hK K; try walk_nrm
  refine T.goes1 hn rfl (fun _ _ _ => ?_); refine goes_oper_k rfl rfl (by k_ne) (fun K hK => ?_); go_simp; refine hK _ _ ⟨?_, ?_⟩; (u_none; intro e he; have hm := mem_listed he; simp [go_sem, *] at hm); clear hK K; try walk_nrm
  refine T.goes1 hn rfl (fun _ _ _ => ?_); refine goes_oper_k rfl rfl (by k_ne) (fun K hK => ?_); go_simp; refine hK _ _ ⟨?_, ?_⟩; (u_none; intro e he; have hm := mem_listed he; simp [go_sem, *] at hm); clear hK K; try walk_nrm
  refine T.goes1 hn rfl (fun _ _ _ => ?_); rw [stepG_region_end]; simp only [goes_go]; refine ⟨by u_nil, ?_⟩
  refine T.goes1 hn rfl (fun _ _ _ => ?_); rw [stepG_ret']; simp only [goes_go]; refine ⟨by u_nil, ?_⟩
  refine T.turn hls rfl (fun _ _ _ => ?_); refine goes_leave1 rfl rfl Try.func18 rfl ⟨by u_nil, ?_⟩; walk_nrm
  exact T.le (by omega) hT
/-- a row of them -/
def Vrow (m i : Nat) (X : AS) (v : Value) (w : World) : Prop := ∃ R : Nat, v = .slice (some ⟨R, 0, none⟩) m m ∧ ∀ k, k < m → X ⟨R, k, none⟩ ∧ w.cell? ⟨R, k, none⟩ = some (.int .i64 (val i k))
theorem vrow_stable (m : Nat) : VStable (Vrow m) := fun j X v w w' h ⟨R, h1, h2⟩ => ⟨R, h1, fun k hk => ⟨(h2 k hk).1, (h _ (h2 k hk).1).1.trans (h2 k hk).2⟩⟩
theorem vrow_mono (m : Nat) : VMono (Vrow m) := fun j X X' v w h ⟨R, h1, h2⟩ => ⟨R, h1, fun k hk => ⟨h _ (h2 k hk).1, (h2 k hk).2⟩⟩
set_option maxRecDepth 100000 in
set_option maxHeartbeats 16000000 in
theorem out_task {B M : Nat} {Nb Nm b m : Nat} (hM1 : 1048576 ≤ M) (hM2 : M ≤ 2097152) (hb1 : 1 ≤ b) (hb8 : b ≤ 8) (hm4 : m ≤ 4096) :
    TaskOk Try.prog Post 17 #[.pointer (some ⟨Nb, 0, none⟩), .pointer (some ⟨Nm, 0, none⟩)] [(⟨Nb, 0, none⟩, .int .i64 (b : Int)), (⟨Nm, 0, none⟩, .int .i64 (m : Int))] (Vrow m) (400 * (M + 4) + (40 + 300) * (m + 1) + 9200) := by
  intro κ lb J c w j mT b₀ a₀ ops₀ i₀ rest₀ k₀ cs hn hlw hm hp hl hZ hj hT
  have hn0 := hn
  have hmm := m0_of hm
  have hlow : ∀ N, w.heap.size ≤ N → ∀ a, c.O a ∨ c.U a ∨ c.Z a → a.block ≠ N := fun N hN a ha e => by have := hlw a ha; omega
  obtain ⟨zb1, zb2⟩ := hZ (⟨Nb, 0, none⟩, .int .i64 (b : Int)) (by simp)
  obtain ⟨zm1, zm2⟩ := hZ (⟨Nm, 0, none⟩, .int .i64 (m : Int)) (by simp)
  generalize hfu : mT + (400 * (M + 4) + (40 + 300) * (m + 1) + 9200) = fu
  refine T.le (m := (mT + 400 * (M + 4) + (40 + 300) * (m + 1) + 9130) + 20) (by omega) ?_
  rw [enter_at _ Try.func17 rfl]
  walk_nrmf Try.f17
  refine T.goes1 hn rfl (fun _ _ _ => ?_); rw [stepG_seq]; simp only [goes_go]; refine ⟨by u_nil, ?_⟩
  refine T.goes1 hn rfl (fun _ _ _ => ?_); rw [stepG_region]; simp only [goes_go, List.size_toArray, List.length_cons, List.length_nil, Nat.reduceAdd, Nat.zero_add, List.range, List.range.loop]; refine ⟨by u_nil, ?_⟩
  refine T.alloc1 true hn hlw hmm rfl rfl (by k_ne) (fun N => .pointer (some ⟨N, 0, none⟩)) #[.int .i64 (j : Int)] 3 (fun w1 => ⟨by go_simp, by simp [go_sem]⟩) (fun w1 N1 g1 l1 hn1 hb1' fx1 nw1 ho1 => ?_)
  have nv := nw1 0 _ rfl
  have hls : Less (c.with true N1) { c with Z := fun a => c.Z a ∨ a.block = N1 } := ⟨fun a ha => ha.elim (fun h => .inl (.inl h)) .inr, fun a h => h, hn0.ou, fun a hz => by
      rcases hz with h | h
      · exact hn0.oz a h
      · exact ⟨fun x => hlow N1 g1 a (.inl x) h, fun x => hlow N1 g1 a (.inr (.inl x)) h⟩, fun a hz => by
      rcases hz with h | h
      · exact .inl h
      · exact .inr (.inl (.inr h)), rfl, rfl, rfl, hmm⟩
  have hbZ : Cx.Low { c with Z := fun a => c.Z a ∨ a.block = N1 } w1 := fun a ha => hb1' a (hls.cells ha)
  have zb3 : w1.cell? ⟨Nb, 0, none⟩ = some (.int .i64 (b : Int)) := (ho1.cell _ (.inr (.inr zb1))).1.trans zb2
  have zm3 : w1.cell? ⟨Nm, 0, none⟩ = some (.int .i64 (m : Int)) := (ho1.cell _ (.inr (.inr zm1))).1.trans zm2
  have hs1 := ho1.size
  clear fx1 nw1 hb1' zb2 zm2
  walk_nrm
  refine T.turn hls rfl (fun _ _ _ => ?_); refine goes_oper_k rfl rfl (by k_ne) (fun K hK => ?_); go_simp; refine hK _ _ ⟨?_, ?_⟩; (u_none; intro e he; have hm := mem_listed he; simp [go_sem, *] at hm); clear hK K; try walk_nrm
  replace hn := hls.neat
  refine T.goes1 hn rfl (fun _ _ _ => ?_); rw [stepG_region_end]; simp only [goes_go]; refine ⟨by u_nil, ?_⟩
  refine T.goes1 hn rfl (fun _ _ _ => ?_); rw [stepG_seq]; simp only [goes_go]; refine ⟨by u_nil, ?_⟩
  refine T.goes1 hn rfl (fun _ _ _ => ?_); rw [stepG_region]; simp only [goes_go, List.size_toArray, List.length_cons, List.length_nil, Nat.reduceAdd, Nat.zero_add, List.range, List.range.loop]; refine ⟨by u_nil, ?_⟩
  refine T.quiet hn rfl rfl (by k_ne) (fun w₁ hF hL K hK => ?_); have fc := (hF.cell _ (.inr (.inr (.inl zb1)))).1.trans (zb3); go_simp; refine hK _ ?_ ?_; (intro e he; simp [go_sem, *] at he; subst he; exact EvOk.rd false (.inr (.inl zb1))); clear hK K fc; try walk_nrm
  refine T.quiet hn rfl rfl (by k_ne) (fun w₁ hF hL K hK => ?_); have fc := (hF.cell _ (.inr (.inr (.inl zm1)))).1.trans (zm3); go_simp; refine hK _ ?_ ?_; (intro e he; simp [go_sem, *] at he; subst he; exact EvOk.rd false (.inr (.inl zm1))); clear hK K fc; try walk_nrm
  refine T.val hn (.func (.func 18) #[] #[.pointer (some ⟨N1, 0, none⟩)]) rfl rfl (by k_ne) (fun w1 _ => ⟨by unfold execOp; simp [go_sem, run_mkf], fun e he => by simp [go_sem, events_mkf] at he⟩) ?_
  walk_nrm
  refine T.goes1 hn rfl (fun _ _ _ => ?_); refine goes_call rfl rfl (by k_ne) rfl Try.func11 (by kernel_rfl) rfl ⟨by u_nil, ?_⟩; walk_nrmf Try.f11
  have hall := @allInt Post 18 #[.pointer (some ⟨N1, 0, none⟩)] [(⟨N1, 0, none⟩, .int .i64 (j : Int))] (Vin j) 40 (in_task N1 j) ⟨Try.f18, _, Try.func18, by kernel_rfl, rfl⟩ (fun j X v w h => ⟨_, h⟩) (fun _ _ _ _ _ _ h => h) (fun _ _ _ _ _ _ h => h) false { c with Z := fun a => c.Z a ∨ a.block = N1 } w1 hn hbZ hp hl hmm (fun p hp => by simp at hp; subst hp; exact ⟨.inr rfl, nv.1⟩) b m M (mT + 60) hM1 hM2 hb1 hb8 hm4
  simp only [Try.f11, Option.getD_some] at hall
  refine T.le (m := mT + 60 + 400 * (M + 4) + (40 + 300) * (m + 1) + 9000) (by omega) (hall (fun w10 X R r10 hR hXb hXn hD => ?_))
  clear hall
  have hn7 : Cx.Neat { { c with Z := fun a => c.Z a ∨ a.block = N1 } with O := fun a => c.O a ∨ X a } := ⟨fun x hx hu => hx.elim (fun h => hn0.ou x h hu) (fun h => (hXn x h).2.1 hu), fun x hz => ⟨fun hx => hx.elim (fun h => (hn.oz x hz).1 h) (fun h => (hXn x h).2.2 hz), (hn.oz x hz).2⟩⟩
  have hH : Hold c w w10 := ho1.trans (r10.sub (fun a ha => ha.imp id (fun h => h.imp id .inl)))
  replace hT := hT w10 (fun a => X a ∧ a.block = R) (.slice (some ⟨R, 0, none⟩) m m) hH (fun a ha => ⟨by rw [ha.2]; omega, hXb a ha.1⟩) ⟨R, rfl, fun k hk => by
    obtain ⟨Y, y1, y2, v, y3, y4⟩ := hD k hk
    refine ⟨⟨y1 _ y2, rfl⟩, ?_⟩
    rw [← (show v = _ from y4)]; exact y3⟩
  have hlf : Less { { c with Z := fun a => c.Z a ∨ a.block = N1 } with O := fun a => c.O a ∨ X a } { c with O := fun a => c.O a ∨ (X a ∧ a.block = R) } := ⟨fun a ha => ha.elim (fun h => .inl (h.imp id (fun x => x.1))) .inr, fun a h => h, fun a h hu => hn7.ou a (h.imp id (fun x => x.1)) hu, fun a hz => ⟨fun h => (hn7.oz a (.inl hz)).1 (h.imp id (fun x => x.1)), (hn7.oz a (.inl hz)).2⟩, fun a hz => .inl (.inl hz), rfl, rfl, rfl, hmm⟩
  replace hn := hn7
  clear hD hXb hXn r10 hR
  walk_nrm
  refine T.goes1 hn rfl (fun _ _ _ => ?_); refine goes_oper_k rfl rfl (by k_ne) (fun K hK => ?_); go_simp; refine hK _ _ ⟨?_, ?_⟩; (u_none; intro e he; have hm := mem_listed he; simp [go_sem, *] at hm); clear hK K; try walk_nrm
  refine T.goes1 hn rfl (fun _ _ _ => ?_); refine goes_oper_k rfl rfl (by k_ne) (fun K hK => ?_); go_simp; refine hK _ _ ⟨?_, ?_⟩; (u_none; intro e he; have hm := mem_listed he; simp [go_sem, *] at hm); clear hK K; try walk_nrm
  refine T.goes1 hn rfl (fun _ _ _ => ?_); refine goes_oper_k rfl rfl (by k_ne) (fun K hK => ?_); go_simp; refine hK _ _ ⟨?_, ?_⟩; (u_none; intro e he; have hm := mem_listed he; simp [go_sem, *] at hm); clear hK K; try walk_nrm
  refine T.goes1 hn rfl (fun _ _ _ => ?_); refine goes_oper_k rfl rfl (by k_ne) (fun K hK => ?_); go_simp; refine hK _ _ ⟨?_, ?_⟩; (u_none; intro e he; have hm := mem_listed he; simp [go_sem, *] at hm); clear hK K; try walk_nrm
  refine T.goes1 hn rfl (fun _ _ _ => ?_); refine goes_oper_k rfl rfl (by k_ne) (fun K hK => ?_); go_simp; refine hK _ _ ⟨?_, ?_⟩; (u_none; intro e he; have hm := mem_listed he; simp [go_sem, *] at hm); clear hK K; try walk_nrm
  refine T.goes1 hn rfl (fun _ _ _ => ?_); rw [stepG_region_end]; simp only [goes_go]; refine ⟨by u_nil, ?_⟩
  refine T.goes1 hn rfl (fun _ _ _ => ?_); rw [stepG_seq]; simp only [goes_go]; refine ⟨by u_nil, ?_⟩
  refine T.goes1 hn rfl (fun _ _ _ => ?_); rw [stepG_region]; simp only [goes_go, List.size_toArray, List.length_cons, List.length_nil, Nat.reduceAdd, Nat.zero_add, List.range, List.range.loop]; refine ⟨by u_nil, ?_⟩
  refine T.goes1 hn rfl (fun _ _ _ => ?_); refine goes_oper_k rfl rfl (by k_ne) (fun K hK => ?_); go_simp; refine hK _ _ ⟨?_, ?_⟩; (u_none; intro e he; have hm := mem_listed he; simp [go_sem, *] at hm); clear hK K; try walk_nrm
  refine T.goes1 hn rfl (fun _ _ _ => ?_); refine goes_oper_k rfl rfl (by k_ne) (fun K hK => ?_); go_simp; refine hK _ _ ⟨?_, ?_⟩; (u_none; intro e he; have hm := mem_listed he; simp [go_sem, *] at hm); clear hK K; try walk_nrm
  refine T.goes1 hn rfl (fun _ _ _ => ?_); rw [stepG_region_end]; simp only [goes_go]; refine ⟨by u_nil, ?_⟩
  refine T.goes1 hn rfl (fun _ _ _ => ?_); rw [stepG_ret']; simp only [goes_go]; refine ⟨by u_nil, ?_⟩
  refine T.turn hlf rfl (fun _ _ _ => ?_); refine goes_leave1 rfl rfl Try.func17 rfl ⟨by u_nil, ?_⟩; walk_nrm
  exact T.le (by omega) hT
end Go.Proofs.Ytidadgibhmiojaa
