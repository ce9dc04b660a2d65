/- The walk through (*WaitGroup).Wait, by the starter. -/
import Derived.Test.YtidadgibhmiojaaGu
import Derived.Conc.WgGenN3
set_option linter.unusedSimpArgs false
set_option linter.unusedVariables false
namespace Go.Farm
open Go.Conc Go.RowKit Go.Conc.Lib Go.ConcR.Gen Go.ConcN.Gen
open Go.ConcR (DC0)
variable {P : Program} {Post : Value → World → Prop} {L : WgLink}
theorem par_neat {c : Cx} (hn : c.Neat) (p : Option (Crew × PS × Nat)) : Cx.Neat { c with par := p } := ⟨hn.ou, hn.oz⟩
/-- the starter stands ahead of its load: not more than m counted -/
def Ahead (ps : PS) (m : Nat) : Prop := (ps = .p1 ∧ 1048576 ≤ m) ∨ ps = .p7 m
theorem Ahead.pok {κ : Crew} {ps : PS} {m : Nat} {w : World} (h : Ahead ps m) (hk : POk κ ps w) : ∃ v : Nat, v ≤ m ∧ w.cell? κ.st = some (.int .u64 (v * K32 : Nat)) ∧ w.cell? κ.sm = some (.int .u32 (0 : Nat)) ∧ w.frozen? κ.st = false := by
  rcases h with ⟨rfl, h⟩ | rfl
  · obtain ⟨v, hv, hr⟩ := hk
    exact ⟨v, Nat.le_trans hv h, hr⟩
  · exact hk
theorem Ahead.ld0 {κ : Crew} {ps : PS} {m : Nat} {w : World} (h : Ahead ps m) (hs : w.cell? κ.st = some (.int .u64 (0 : Nat))) : PStep κ ps w w #[rdE κ.st] .p8 := by
  rcases h with ⟨rfl, h⟩ | rfl
  · exact .ld0 w hs
  · exact .ld07 w _ hs
theorem Ahead.ld {κ : Crew} {ps : PS} {m v : Nat} {w : World} (h : Ahead ps m) (hs : w.cell? κ.st = some (.int .u64 (v * K32 : Nat))) (hv : v ≠ 0) : PStep κ ps w w #[rdE κ.st] (.p4 v) := by
  rcases h with ⟨rfl, h⟩ | rfl
  · exact .ld w v hs hv
  · exact .ld7 w _ v hs hv
theorem Hold.set {c : Cx} {w w1 : World} {a : Addr} {x : Value} (h : Hold c w w1) (hd : ∀ z, c.O z ∨ c.U z ∨ c.Z z → z ≠ a) : Hold c w (w1.setCell a x) :=
  ⟨by rw [World.size_setCell]; exact h.size, fun z hz => ⟨(World.cell?_setCell_other _ _ _ _ (Ne.symm (hd z hz))).trans (h.cell z hz).1, (World.frozen?_setCell _ _ _ _).trans (h.cell z hz).2⟩, h.grow.trans (Grow.set _ _ _)⟩
/-- what a starter is handed at the join -/
def Joined (κ : Crew) (c : Cx) (w : World) (R : Cx → World → Prop) : Prop :=
  ∀ w' (X : AS), Hold c w w' → (∀ a, X a → a.block < w'.heap.size) → (∀ a, X a → ¬ c.O a ∧ ¬ c.U a ∧ ¬ c.Z a) → (∀ j, j < κ.n → ∃ Y : AS, (∀ a, Y a → X a) ∧ κ.D j Y w') → R { c with O := fun a => c.O a ∨ X a, par := none, lk := 0 } w'

set_option maxRecDepth 100000 in
set_option maxHeartbeats 16000000 in
theorem wait_round (H : WgLib P L) {κ : Crew} {sp mT : Nat} {b : Bool} {c : Cx} {w : World} (hn0 : c.Neat) (hk : 0 < sp) (hd : ∀ a, c.O a ∨ c.U a ∨ c.Z a → a ≠ κ.st ∧ a ≠ κ.sm) {b₀ : Frame} {a₀ : Go.Act} {ops₀ : Array Oper} {i₀ : Nat} {rest₀ : List Nat} {k₀ : List Item} {cs : List Frame}
    (hT : Joined κ c w (fun c' w' => T P Post (mT) b c' (G (b₀.at (a₀.put ((ops₀[i₀]?).bind (·.dst)) (.tuple #[])) (.inRegion ops₀ rest₀ :: k₀)) cs) w')) {ps : PS} {m : Nat} (hps : Ahead ps m) (hm : m ≤ 2097152)
    (IH : ∀ m', m' < m → ∀ Tt : Array Value, Tt.size = 84 → Tt[0]? = some (.pointer (some ⟨κ.Wg, 0, none⟩)) → T P Post (mT + 400 * (m' + 1)) b { c with par := some (κ, .p7 m', sp) } (G ((base L.wait).at ⟨Tt, []⟩ [.code (L7 L), .inLoop (L7 L), .inBlock 0]) (b₀.at a₀ (.inRegion ops₀ (i₀ :: rest₀) :: k₀) :: cs)) w)
    {Tt : Array Value} (hT84 : Tt.size = 84) (t0 : Tt[0]? = some (.pointer (some ⟨κ.Wg, 0, none⟩))) : T P Post (mT + 400 * (m + 1)) b { c with par := some (κ, ps, sp) } (G ((base L.wait).at ⟨Tt, []⟩ [.code (L7 L), .inLoop (L7 L), .inBlock 0]) (b₀.at a₀ (.inRegion ops₀ (i₀ :: rest₀) :: k₀) :: cs)) w := by
  lib_facts
  obtain ⟨v0, v1, v2, v3, v4, v5, v6, v7, v8, v9, v10, v11, v12, v13, v14, v15, v16, v17, v18, v19, v20, v21, v22, v23, v24, v25, v26, v27, v28, v29, v30, v31, v32, v33, v34, v35, v36, v37, v38, v39, v40, v41, v42, v43, v44, v45, v46, v47, v48, v49, v50, v51, v52, v53, v54, v55, v56, v57, v58, v59, v60, v61, v62, v63, v64, v65, v66, v67, v68, v69, v70, v71, v72, v73, v74, v75, v76, v77, v78, v79, v80, v81, v82, v83, rfl⟩ := array84 Tt hT84
  simp only [List.getElem?_toArray, List.getElem?_cons_zero, Option.some.injEq] at t0
  subst t0
  have hn := par_neat hn0 (some (κ, ps, sp))
  generalize hfu : mT + 400 * (m + 1) = fu
  refine T.le (m := (mT + 400 * m + 370) + 20) (by omega) ?_
  simp only [L7, body_wait, waitFn, Option.getD_some] at IH ⊢
  refine T.goes1 hn rfl (fun _ _ _ => ?_); rw [stepG_block]; simp only [goes_go]; refine ⟨by u_nil, ?_⟩
  refine T.goes1 hn rfl (fun _ _ _ => ?_); rw [stepG_seq]; simp only [goes_go]; refine ⟨by u_nil, ?_⟩
  refine T.goes1 hn rfl (fun _ _ _ => ?_); rw [stepG_region]; simp only [goes_go, List.size_toArray, List.length_cons, List.length_nil, Nat.reduceAdd, Nat.zero_add, List.range, List.range.loop]; refine ⟨by u_nil, ?_⟩
  refine T.goes1 hn rfl (fun _ _ _ => ?_); refine goes_oper_k rfl rfl (by k_ne) (fun K hK => ?_); go_simp; refine hK _ _ ⟨?_, ?_⟩; (u_none; intro e he; have hm := mem_listed he; simp [go_sem, *] at hm); clear hK K; try w_num
  refine T.goes1 hn rfl (fun _ _ _ => ?_); refine goes_oper_k rfl rfl (by k_ne) (fun K hK => ?_); go_simp; refine hK _ _ ⟨?_, ?_⟩; (u_none; intro e he; have hm := mem_listed he; simp [go_sem, *] at hm); clear hK K; try w_num
  refine T.goes1 hn rfl (fun _ _ _ => ?_); refine goes_oper_k rfl rfl (by k_ne) (fun K hK => ?_); go_simp; refine hK _ _ ⟨?_, ?_⟩; (u_none; intro e he; have hm := mem_listed he; simp [go_sem, *] at hm); clear hK K; try w_num
  refine T.goes1 hn rfl (fun _ _ _ => ?_); refine goes_call rfl rfl (by k_ne) rfl H.f_uLoad (nm_uLoad L) rfl ⟨by u_nil, ?_⟩; walk_nrmf uLoadFn
  refine T.goes1 hn rfl (fun _ _ _ => ?_); rw [stepG_seq]; simp only [goes_go]; refine ⟨by u_nil, ?_⟩
  refine T.goes1 hn rfl (fun _ _ _ => ?_); rw [stepG_region]; simp only [goes_go, List.size_toArray, List.length_cons, List.length_nil, Nat.reduceAdd, Nat.zero_add, List.range, List.range.loop]; refine ⟨by u_nil, ?_⟩
  refine T.goes1 hn rfl (fun _ _ _ => ?_); refine goes_oper_k rfl rfl (by k_ne) (fun K hK => ?_); go_simp; refine hK _ _ ⟨?_, ?_⟩; (u_none; intro e he; have hm := mem_listed he; simp [go_sem, *] at hm); clear hK K; try w_num
  refine T.goes1 hn rfl (fun _ _ _ => ?_); rw [stepG_region_end]; simp only [goes_go]; refine ⟨by u_nil, ?_⟩
  refine T.goes1 hn rfl (fun _ _ _ => ?_); rw [stepG_seq]; simp only [goes_go]; refine ⟨by u_nil, ?_⟩
  refine T.goes1 hn rfl (fun _ _ _ => ?_); rw [stepG_region]; simp only [goes_go, List.size_toArray, List.length_cons, List.length_nil, Nat.reduceAdd, Nat.zero_add, List.range, List.range.loop]; refine ⟨by u_nil, ?_⟩
  refine T.goes1 hn rfl (fun _ _ _ => ?_); refine goes_oper_k rfl rfl (by k_ne) (fun K hK => ?_); go_simp; refine hK _ _ ⟨?_, ?_⟩; (u_none; intro e he; have hm := mem_listed he; simp [go_sem, *] at hm); clear hK K; try w_num
  refine T.goes1 hn rfl (fun _ _ _ => ?_); refine goes_oper_k rfl rfl (by k_ne) (fun K hK => ?_); go_simp; refine hK _ _ ⟨?_, ?_⟩; (u_none; intro e he; have hm := mem_listed he; simp [go_sem, *] at hm); clear hK K; try w_num
  refine T.goes1 hn rfl (fun _ _ _ => ?_); refine goes_oper_k rfl rfl (by k_ne) (fun K hK => ?_); go_simp; refine hK _ _ ⟨?_, ?_⟩; (u_none; intro e he; have hm := mem_listed he; simp [go_sem, *] at hm); clear hK K; try w_num
  refine T.le (m := (mT + 400 * m + 360) + 1) (by omega) (Act.wgp κ ps sp rfl rfl (fun w1 r hk1 => ?_))
  obtain ⟨v, hv, hst, hsm, hfz⟩ := hps.pok hk1
  rcases Nat.eq_zero_or_pos v with rfl | hvp
  · refine ⟨_, _, _, _, stepG_load_atomic (v := 0) rfl rfl (by k_ne) rfl H.f_loadU64 (x_loadU64_n L) (x_loadU64_b L) (x_loadU64_x L) .u64 (x_loadU64_f L) rfl (by simpa using hst), hps.ld0 (by simpa using hst), ?_⟩
    clear IH hst hsm hfz hk1
    refine T.hold (w := w) ?_ ⟨r.size, r.cell, r.grow⟩
    replace hn := par_neat hn0 (some (κ, .p8, sp))
    walk_nrm
    clear r
    refine T.goes1 hn rfl (fun _ _ _ => ?_); refine goes_oper_k rfl rfl (by k_ne) (fun K hK => ?_); go_simp; refine hK _ _ ⟨?_, ?_⟩; (u_none; intro e he; have hm := mem_listed he; simp [go_sem, *] at hm); clear hK K; try w_num
    refine T.goes1 hn rfl (fun _ _ _ => ?_); rw [stepG_region_end]; simp only [goes_go]; refine ⟨by u_nil, ?_⟩
    refine T.goes1 hn rfl (fun _ _ _ => ?_); rw [stepG_ret']; simp only [goes_go]; refine ⟨by u_nil, ?_⟩
    refine T.goes1 hn rfl (fun _ _ _ => ?_); refine goes_leave1 rfl rfl H.f_uLoad rfl ⟨by u_nil, ?_⟩; walk_nrm
    refine T.goes1 hn rfl (fun _ _ _ => ?_); refine goes_oper_k rfl rfl (by k_ne) (fun K hK => ?_); go_simp; refine hK _ _ ⟨?_, ?_⟩; (u_none; intro e he; have hm := mem_listed he; simp [go_sem, *] at hm); clear hK K; try w_num
    refine T.goes1 hn rfl (fun _ _ _ => ?_); rw [stepG_region_end]; simp only [goes_go]; refine ⟨by u_nil, ?_⟩
    refine T.goes1 hn rfl (fun _ _ _ => ?_); rw [stepG_seq]; simp only [goes_go]; refine ⟨by u_nil, ?_⟩
    refine T.goes1 hn rfl (fun _ _ _ => ?_); rw [stepG_region]; simp only [goes_go, List.size_toArray, List.length_cons, List.length_nil, Nat.reduceAdd, Nat.zero_add, List.range, List.range.loop]; refine ⟨by u_nil, ?_⟩
    refine T.goes1 hn rfl (fun _ _ _ => ?_); refine goes_oper_k rfl rfl (by k_ne) (fun K hK => ?_); go_simp; refine hK _ _ ⟨?_, ?_⟩; (u_none; intro e he; have hm := mem_listed he; simp [go_sem, *] at hm); clear hK K; try w_num
    refine T.goes1 hn rfl (fun _ _ _ => ?_); refine goes_oper_k rfl rfl (by k_ne) (fun K hK => ?_); go_simp; refine hK _ _ ⟨?_, ?_⟩; (u_none; intro e he; have hm := mem_listed he; simp [go_sem, *] at hm); clear hK K; try w_num
    refine T.goes1 hn rfl (fun _ _ _ => ?_); refine goes_oper_k rfl rfl (by k_ne) (fun K hK => ?_); go_simp; refine hK _ _ ⟨?_, ?_⟩; (u_none; intro e he; have hm := mem_listed he; simp [go_sem, *] at hm); clear hK K; try w_num
    refine T.goes1 hn rfl (fun _ _ _ => ?_); refine goes_oper_k rfl rfl (by k_ne) (fun K hK => ?_); go_simp; refine hK _ _ ⟨?_, ?_⟩; (u_none; intro e he; have hm := mem_listed he; simp [go_sem, *] at hm); clear hK K; try w_num
    refine T.goes1 hn rfl (fun _ _ _ => ?_); rw [stepG_region_end]; simp only [goes_go]; refine ⟨by u_nil, ?_⟩
    refine T.goes1 hn rfl (fun _ _ _ => ?_); rw [stepG_seq]; simp only [goes_go]; refine ⟨by u_nil, ?_⟩
    refine T.goes1 hn rfl (fun _ _ _ => ?_); rw [stepG_region]; simp only [goes_go, List.size_toArray, List.length_cons, List.length_nil, Nat.reduceAdd, Nat.zero_add, List.range, List.range.loop]; refine ⟨by u_nil, ?_⟩
    refine T.goes1 hn rfl (fun _ _ _ => ?_); refine goes_oper_k rfl rfl (by k_ne) (fun K hK => ?_); go_simp; refine hK _ _ ⟨?_, ?_⟩; (u_none; intro e he; have hm := mem_listed he; simp [go_sem, *] at hm); clear hK K; try w_num
    refine T.goes1 hn rfl (fun _ _ _ => ?_); refine goes_oper_k rfl rfl (by k_ne) (fun K hK => ?_); go_simp; refine hK _ _ ⟨?_, ?_⟩; (u_none; intro e he; have hm := mem_listed he; simp [go_sem, *] at hm); clear hK K; try w_num
    refine T.goes1 hn rfl (fun _ _ _ => ?_); refine goes_oper_k rfl rfl (by k_ne) (fun K hK => ?_); go_simp; refine hK _ _ ⟨?_, ?_⟩; (u_none; intro e he; have hm := mem_listed he; simp [go_sem, *] at hm); clear hK K; try w_num
    refine T.goes1 hn rfl (fun _ _ _ => ?_); refine goes_oper_k rfl rfl (by k_ne) (fun K hK => ?_); go_simp; refine hK _ _ ⟨?_, ?_⟩; (u_none; intro e he; have hm := mem_listed he; simp [go_sem, *] at hm); clear hK K; try w_num
    refine T.goes1 hn rfl (fun _ _ _ => ?_); rw [stepG_region_end]; simp only [goes_go]; refine ⟨by u_nil, ?_⟩
    refine T.goes1 hn rfl (fun _ _ _ => ?_); rw [stepG_seq]; simp only [goes_go]; refine ⟨by u_nil, ?_⟩
    refine T.goes1 hn rfl (fun _ _ _ => ?_); rw [stepG_seq]; simp only [goes_go]; refine ⟨by u_nil, ?_⟩
    refine T.goes1 hn rfl (fun _ _ _ => ?_); rw [stepG_region]; simp only [goes_go, List.size_toArray, List.length_cons, List.length_nil, Nat.reduceAdd, Nat.zero_add, List.range, List.range.loop]; refine ⟨by u_nil, ?_⟩
    refine T.goes1 hn rfl (fun _ _ _ => ?_); refine goes_oper_k rfl rfl (by k_ne) (fun K hK => ?_); go_simp; refine hK _ _ ⟨?_, ?_⟩; (u_none; intro e he; have hm := mem_listed he; simp [go_sem, *] at hm); clear hK K; try w_num
    refine T.goes1 hn rfl (fun _ _ _ => ?_); refine goes_oper_k rfl rfl (by k_ne) (fun K hK => ?_); go_simp; refine hK _ _ ⟨?_, ?_⟩; (u_none; intro e he; have hm := mem_listed he; simp [go_sem, *] at hm); clear hK K; try w_num
    refine T.goes1 hn rfl (fun _ _ _ => ?_); rw [stepG_region_end]; simp only [goes_go]; refine ⟨by u_nil, ?_⟩
    refine T.goes1 hn rfl (fun _ _ _ => ?_); rw [stepG_cond (t := true) rfl]; simp only [goes_go, if_true, if_false, Bool.false_eq_true, ↓reduceIte]; refine ⟨by u_nil, ?_⟩
    refine T.goes1 hn rfl (fun _ _ _ => ?_); rw [stepG_seq]; simp only [goes_go]; refine ⟨by u_nil, ?_⟩
    refine T.goes1 hn rfl (fun _ _ _ => ?_); rw [stepG_cond (t := true) rfl]; simp only [goes_go, if_true, if_false, Bool.false_eq_true, ↓reduceIte]; refine ⟨by u_nil, ?_⟩
    refine T.goes1 hn rfl (fun _ _ _ => ?_); rw [stepG_seq]; simp only [goes_go]; refine ⟨by u_nil, ?_⟩
    refine T.goes1 hn rfl (fun _ _ _ => ?_); rw [stepG_region]; simp only [goes_go, List.size_toArray, List.length_cons, List.length_nil, Nat.reduceAdd, Nat.zero_add, List.range, List.range.loop]; refine ⟨by u_nil, ?_⟩
    refine T.le (m := (mT + 400 * m + 300) + 1) (by omega) (Act.wgp κ .p8 sp rfl rfl (fun w5 r _ => ⟨_, _, _, _, stepG_mark0 .enable (by simp) rfl rfl (by k_ne) rfl H.f_enable (x_enable_n L) (x_enable_b L) (x_enable_x L) (x_enable_f L), .en8 w5, ?_⟩))
    refine T.hold (w := w) ?_ ⟨r.size, r.cell, r.grow⟩
    replace hn := par_neat hn0 (some (κ, .p9, sp))
    walk_nrm
    clear r
    refine T.goes1 hn rfl (fun _ _ _ => ?_); rw [stepG_region_end]; simp only [goes_go]; refine ⟨by u_nil, ?_⟩
    refine T.goes1 hn rfl (fun _ _ _ => ?_); rw [stepG_region]; simp only [goes_go, List.size_toArray, List.length_cons, List.length_nil, Nat.reduceAdd, Nat.zero_add, List.range, List.range.loop]; refine ⟨by u_nil, ?_⟩
    refine T.goes1 hn rfl (fun _ _ _ => ?_); refine goes_oper_k rfl rfl (by k_ne) (fun K hK => ?_); go_simp; refine hK _ _ ⟨?_, ?_⟩; (u_none; intro e he; have hm := mem_listed he; simp [go_sem, *] at hm); clear hK K; try w_num
    refine T.goes1 hn rfl (fun _ _ hL => ?_); refine goes_oper_k rfl rfl (by k_ne) (fun Kx hKx => ?_); have hcv := run_convert_to_unsafe (P := P) H.underlying_tWgP H.underlying_tUP H.room_tWg (hL κ (.inl ⟨_, _, rfl⟩)).cellSt.choose_spec; have hce := fun es => events_convert_to_unsafe (P := P) H.underlying_tWgP H.underlying_tUP H.room_tWg (hL κ (.inl ⟨_, _, rfl⟩)).cellSt.choose_spec es; go_simp; refine hKx _ _ ⟨?_, ?_⟩; (u_none; intro ex hex; have hmx := mem_listed hex; simp [go_sem, hce] at hmx); clear hKx Kx hcv hce
    refine T.le (m := (mT + 400 * m + 100) + 1) (by omega) (Act.close κ sp rfl hk rfl (fun w6 r => ⟨_, stepG_markAt .acquire (by simp) rfl rfl (by k_ne) rfl H.f_acquire (x_acquire_n L) (x_acquire_b L) (x_acquire_x L) (x_acquire_f L) (ad := ⟨κ.Wg, 0, none⟩) (by simp [Go.Act.eval]), fun X x1 x2 x3 => ?_⟩))
    replace hT := hT w6 X ⟨r.size, r.cell, r.grow⟩ x1 x2 x3
    replace hn : Cx.Neat { c with O := fun a => c.O a ∨ X a, par := none, lk := 0 } := ⟨fun a ha hu => ha.elim (fun h => hn0.ou a h hu) (fun h => (x2 a h).2.1 hu), fun a hz => ⟨fun ha => ha.elim (hn0.oz a hz).1 (fun h => (x2 a h).2.2 hz), (hn0.oz a hz).2⟩⟩
    clear r x1 x2 x3
    walk_nrm
    refine T.goes1 hn rfl (fun _ _ _ => ?_); rw [stepG_region_end]; simp only [goes_go]; refine ⟨by u_nil, ?_⟩
    refine T.goes1 hn rfl (fun _ _ _ => ?_); rw [stepG_seq]; simp only [goes_go]; refine ⟨by u_nil, ?_⟩
    refine T.goes1 hn rfl (fun _ _ _ => ?_); rw [stepG_seq]; simp only [goes_go]; refine ⟨by u_nil, ?_⟩
    refine T.goes1 hn rfl (fun _ _ _ => ?_); rw [stepG_region]; simp only [goes_go, List.size_toArray, List.length_cons, List.length_nil, Nat.reduceAdd, Nat.zero_add, List.range, List.range.loop]; refine ⟨by u_nil, ?_⟩
    refine T.goes1 hn rfl (fun _ _ _ => ?_); refine goes_oper_k rfl rfl (by k_ne) (fun K hK => ?_); go_simp; refine hK _ _ ⟨?_, ?_⟩; (u_none; intro e he; have hm := mem_listed he; simp [go_sem, *] at hm); clear hK K; try w_num
    refine T.goes1 hn rfl (fun _ _ _ => ?_); refine goes_oper_k rfl rfl (by k_ne) (fun K hK => ?_); go_simp; refine hK _ _ ⟨?_, ?_⟩; (u_none; intro e he; have hm := mem_listed he; simp [go_sem, *] at hm); clear hK K; try w_num
    refine T.goes1 hn rfl (fun _ _ _ => ?_); refine goes_oper_k rfl rfl (by k_ne) (fun K hK => ?_); go_simp; refine hK _ _ ⟨?_, ?_⟩; (u_none; intro e he; have hm := mem_listed he; simp [go_sem, *] at hm); clear hK K; try w_num
    refine T.goes1 hn rfl (fun _ _ _ => ?_); refine goes_oper_k rfl rfl (by k_ne) (fun K hK => ?_); go_simp; refine hK _ _ ⟨?_, ?_⟩; (u_none; intro e he; have hm := mem_listed he; simp [go_sem, *] at hm); clear hK K; try w_num
    refine T.goes1 hn rfl (fun _ _ _ => ?_); refine goes_oper_k rfl rfl (by k_ne) (fun K hK => ?_); go_simp; refine hK _ _ ⟨?_, ?_⟩; (u_none; intro e he; have hm := mem_listed he; simp [go_sem, *] at hm); clear hK K; try w_num
    refine T.goes1 hn rfl (fun _ _ _ => ?_); refine goes_oper_k rfl rfl (by k_ne) (fun K hK => ?_); go_simp; refine hK _ _ ⟨?_, ?_⟩; (u_none; intro e he; have hm := mem_listed he; simp [go_sem, *] at hm); clear hK K; try w_num
    refine T.goes1 hn rfl (fun _ _ _ => ?_); refine goes_oper_k rfl rfl (by k_ne) (fun K hK => ?_); go_simp; refine hK _ _ ⟨?_, ?_⟩; (u_none; intro e he; have hm := mem_listed he; simp [go_sem, *] at hm); clear hK K; try w_num
    refine T.goes1 hn rfl (fun _ _ _ => ?_); refine goes_oper_k rfl rfl (by k_ne) (fun K hK => ?_); go_simp; refine hK _ _ ⟨?_, ?_⟩; (u_none; intro e he; have hm := mem_listed he; simp [go_sem, *] at hm); clear hK K; try w_num
    refine T.goes1 hn rfl (fun _ _ _ => ?_); rw [stepG_unwanted rfl rfl]; simp only [goes_go]; refine ⟨by u_nil, ?_⟩; walk_nrm
    refine T.goes1 hn rfl (fun _ _ _ => ?_); rw [stepG_unwanted rfl rfl]; simp only [goes_go]; refine ⟨by u_nil, ?_⟩; walk_nrm
    refine T.goes1 hn rfl (fun _ _ _ => ?_); refine goes_oper_k rfl rfl (by k_ne) (fun K hK => ?_); go_simp; refine hK _ _ ⟨?_, ?_⟩; (u_none; intro e he; have hm := mem_listed he; simp [go_sem, *] at hm); clear hK K; try w_num
    refine T.goes1 hn rfl (fun _ _ _ => ?_); rw [stepG_region_end]; simp only [goes_go]; refine ⟨by u_nil, ?_⟩
    refine T.goes1 hn rfl (fun _ _ _ => ?_); rw [stepG_cond (t := false) rfl]; simp only [goes_go, if_true, if_false, Bool.false_eq_true, ↓reduceIte]; refine ⟨by u_nil, ?_⟩
    refine T.goes1 hn rfl (fun _ _ _ => ?_); rw [stepG_skip]; simp only [goes_go]; refine ⟨by u_nil, ?_⟩
    refine T.goes1 hn rfl (fun _ _ _ => ?_); rw [stepG_ret']; simp only [goes_go]; refine ⟨by u_nil, ?_⟩
    refine T.goes1 hn rfl (fun _ _ _ => ?_); refine goes_leave0 rfl rfl H.f_wait rfl ⟨by u_nil, ?_⟩; walk_nrm
    exact T.le (by omega) hT
  · obtain ⟨S, hS⟩ : ∃ S : Int, ((v * K32 : Nat) : Int) = S := ⟨_, rfl⟩
    have hS2 : S = (v : Int) * 4294967296 := by rw [← hS]; simp only [K32]; omega
    have a1 : S / 4294967296 = (v : Int) := by rw [hS2]; omega
    have b1 : bits .and .u64 S 2147483648 = 0 := by rw [hS2]; have := Go.ConcN.st_flag v 0 (by omega) (by omega); simpa using this
    have b2 : bits .and .u64 S 2147483647 = 0 := by rw [hS2]; have := Go.ConcN.st_waiters v 0 (by omega) (by omega); simpa using this
    have c1 : IntKind.i32.wrap (v : Int) = (v : Int) := by rw [IntKind.wrap_i32]; omega
    have w1' : IntKind.u64.wrap (S + 1) = S + 1 := by rw [IntKind.wrap_u64, hS2]; omega
    have q3 : decide ((v : Int) < 0) = false := decide_eq_false (by omega)
    have q4 : decide (0 < (v : Int)) = true := decide_eq_true (by omega)
    have q5 : ((v : Int) == 0) = false := by simp; omega
    have q6 : decide ((v : Int) = 0) = false := decide_eq_false (by omega)
    have hst' : w1.cell? κ.st = some (.int .u64 S) := by rw [← hS]; exact hst
    refine ⟨_, _, _, _, stepG_load_atomic (v := S) rfl rfl (by k_ne) rfl H.f_loadU64 (x_loadU64_n L) (x_loadU64_b L) (x_loadU64_x L) .u64 (x_loadU64_f L) rfl hst', hps.ld hst (by omega), ?_⟩
    have hvm : v ≤ m := hv
    clear hst hst' hsm hfz hk1 hv hS2
    refine T.hold (w := w) ?_ ⟨r.size, r.cell, r.grow⟩
    replace hn := par_neat hn0 (some (κ, .p4 v, sp))
    walk_nrm
    clear r
    refine T.le (m := (mT + 400 * m + 300) + 50) (by omega) ?_
    refine T.goes1 hn rfl (fun _ _ _ => ?_); refine goes_oper_k rfl rfl (by k_ne) (fun K hK => ?_); go_simp; refine hK _ _ ⟨?_, ?_⟩; (u_none; intro e he; have hm := mem_listed he; simp [go_sem, *] at hm); clear hK K; try w_num
    refine T.goes1 hn rfl (fun _ _ _ => ?_); rw [stepG_region_end]; simp only [goes_go]; refine ⟨by u_nil, ?_⟩
    refine T.goes1 hn rfl (fun _ _ _ => ?_); rw [stepG_ret']; simp only [goes_go]; refine ⟨by u_nil, ?_⟩
    refine T.goes1 hn rfl (fun _ _ _ => ?_); refine goes_leave1 rfl rfl H.f_uLoad rfl ⟨by u_nil, ?_⟩; walk_nrm
    refine T.goes1 hn rfl (fun _ _ _ => ?_); refine goes_oper_k rfl rfl (by k_ne) (fun K hK => ?_); go_simp; refine hK _ _ ⟨?_, ?_⟩; (u_none; intro e he; have hm := mem_listed he; simp [go_sem, *] at hm); clear hK K; try w_num
    refine T.goes1 hn rfl (fun _ _ _ => ?_); rw [stepG_region_end]; simp only [goes_go]; refine ⟨by u_nil, ?_⟩
    refine T.goes1 hn rfl (fun _ _ _ => ?_); rw [stepG_seq]; simp only [goes_go]; refine ⟨by u_nil, ?_⟩
    refine T.goes1 hn rfl (fun _ _ _ => ?_); rw [stepG_region]; simp only [goes_go, List.size_toArray, List.length_cons, List.length_nil, Nat.reduceAdd, Nat.zero_add, List.range, List.range.loop]; refine ⟨by u_nil, ?_⟩
    refine T.goes1 hn rfl (fun _ _ _ => ?_); refine goes_oper_k rfl rfl (by k_ne) (fun K hK => ?_); go_simp; refine hK _ _ ⟨?_, ?_⟩; (u_none; intro e he; have hm := mem_listed he; simp [go_sem, *] at hm); clear hK K; try w_num
    refine T.goes1 hn rfl (fun _ _ _ => ?_); refine goes_oper_k rfl rfl (by k_ne) (fun K hK => ?_); go_simp; refine hK _ _ ⟨?_, ?_⟩; (u_none; intro e he; have hm := mem_listed he; simp [go_sem, *] at hm); clear hK K; try w_num
    refine T.goes1 hn rfl (fun _ _ _ => ?_); refine goes_oper_k rfl rfl (by k_ne) (fun K hK => ?_); go_simp; refine hK _ _ ⟨?_, ?_⟩; (u_none; intro e he; have hm := mem_listed he; simp [go_sem, *] at hm); clear hK K; try w_num
    refine T.goes1 hn rfl (fun _ _ _ => ?_); refine goes_oper_k rfl rfl (by k_ne) (fun K hK => ?_); go_simp; refine hK _ _ ⟨?_, ?_⟩; (u_none; intro e he; have hm := mem_listed he; simp [go_sem, *] at hm); clear hK K; try w_num
    refine T.goes1 hn rfl (fun _ _ _ => ?_); rw [stepG_region_end]; simp only [goes_go]; refine ⟨by u_nil, ?_⟩
    refine T.goes1 hn rfl (fun _ _ _ => ?_); rw [stepG_seq]; simp only [goes_go]; refine ⟨by u_nil, ?_⟩
    refine T.goes1 hn rfl (fun _ _ _ => ?_); rw [stepG_region]; simp only [goes_go, List.size_toArray, List.length_cons, List.length_nil, Nat.reduceAdd, Nat.zero_add, List.range, List.range.loop]; refine ⟨by u_nil, ?_⟩
    refine T.goes1 hn rfl (fun _ _ _ => ?_); refine goes_oper_k rfl rfl (by k_ne) (fun K hK => ?_); go_simp; refine hK _ _ ⟨?_, ?_⟩; (u_none; intro e he; have hm := mem_listed he; simp [go_sem, *] at hm); clear hK K; try w_num
    refine T.goes1 hn rfl (fun _ _ _ => ?_); refine goes_oper_k rfl rfl (by k_ne) (fun K hK => ?_); go_simp; refine hK _ _ ⟨?_, ?_⟩; (u_none; intro e he; have hm := mem_listed he; simp [go_sem, *] at hm); clear hK K; try w_num
    refine T.goes1 hn rfl (fun _ _ _ => ?_); refine goes_oper_k rfl rfl (by k_ne) (fun K hK => ?_); go_simp; refine hK _ _ ⟨?_, ?_⟩; (u_none; intro e he; have hm := mem_listed he; simp [go_sem, *] at hm); clear hK K; try w_num
    refine T.goes1 hn rfl (fun _ _ _ => ?_); refine goes_oper_k rfl rfl (by k_ne) (fun K hK => ?_); go_simp; refine hK _ _ ⟨?_, ?_⟩; (u_none; intro e he; have hm := mem_listed he; simp [go_sem, *] at hm); clear hK K; try w_num
    refine T.goes1 hn rfl (fun _ _ _ => ?_); rw [stepG_region_end]; simp only [goes_go]; refine ⟨by u_nil, ?_⟩
    refine T.goes1 hn rfl (fun _ _ _ => ?_); rw [stepG_seq]; simp only [goes_go]; refine ⟨by u_nil, ?_⟩
    refine T.goes1 hn rfl (fun _ _ _ => ?_); rw [stepG_seq]; simp only [goes_go]; refine ⟨by u_nil, ?_⟩
    refine T.goes1 hn rfl (fun _ _ _ => ?_); rw [stepG_region]; simp only [goes_go, List.size_toArray, List.length_cons, List.length_nil, Nat.reduceAdd, Nat.zero_add, List.range, List.range.loop]; refine ⟨by u_nil, ?_⟩
    refine T.goes1 hn rfl (fun _ _ _ => ?_); refine goes_oper_k rfl rfl (by k_ne) (fun K hK => ?_); go_simp; refine hK _ _ ⟨?_, ?_⟩; (u_none; intro e he; have hm := mem_listed he; simp [go_sem, *] at hm); clear hK K; try w_num
    refine T.goes1 hn rfl (fun _ _ _ => ?_); refine goes_oper_k rfl rfl (by k_ne) (fun K hK => ?_); go_simp; refine hK _ _ ⟨?_, ?_⟩; (u_none; intro e he; have hm := mem_listed he; simp [go_sem, *] at hm); clear hK K; try w_num
    refine T.goes1 hn rfl (fun _ _ _ => ?_); rw [stepG_region_end]; simp only [goes_go]; refine ⟨by u_nil, ?_⟩
    refine T.goes1 hn rfl (fun _ _ _ => ?_); rw [stepG_cond (t := false) (by first | rfl | (simp [Go.Act.eval]; omega))]; simp only [goes_go, if_true, if_false, Bool.false_eq_true, ↓reduceIte]; refine ⟨by u_nil, ?_⟩
    refine T.goes1 hn rfl (fun _ _ _ => ?_); rw [stepG_skip]; simp only [goes_go]; refine ⟨by u_nil, ?_⟩
    refine T.goes1 hn rfl (fun _ _ _ => ?_); rw [stepG_seq]; simp only [goes_go]; refine ⟨by u_nil, ?_⟩
    refine T.goes1 hn rfl (fun _ _ _ => ?_); rw [stepG_region]; simp only [goes_go, List.size_toArray, List.length_cons, List.length_nil, Nat.reduceAdd, Nat.zero_add, List.range, List.range.loop]; refine ⟨by u_nil, ?_⟩
    refine T.goes1 hn rfl (fun _ _ _ => ?_); refine goes_oper_k rfl rfl (by k_ne) (fun K hK => ?_); go_simp; refine hK _ _ ⟨?_, ?_⟩; (u_none; intro e he; have hm := mem_listed he; simp [go_sem, *] at hm); clear hK K; try w_num
    refine T.goes1 hn rfl (fun _ _ _ => ?_); refine goes_oper_k rfl rfl (by k_ne) (fun K hK => ?_); go_simp; refine hK _ _ ⟨?_, ?_⟩; (u_none; intro e he; have hm := mem_listed he; simp [go_sem, *] at hm); clear hK K; try w_num
    refine T.goes1 hn rfl (fun _ _ _ => ?_); refine goes_oper_k rfl rfl (by k_ne) (fun K hK => ?_); go_simp; refine hK _ _ ⟨?_, ?_⟩; (u_none; intro e he; have hm := mem_listed he; simp [go_sem, *] at hm); clear hK K; try w_num
    refine T.goes1 hn rfl (fun _ _ _ => ?_); refine goes_oper_k rfl rfl (by k_ne) (fun K hK => ?_); go_simp; refine hK _ _ ⟨?_, ?_⟩; (u_none; intro e he; have hm := mem_listed he; simp [go_sem, *] at hm); clear hK K; try w_num
    refine T.goes1 hn rfl (fun _ _ _ => ?_); refine goes_oper_k rfl rfl (by k_ne) (fun K hK => ?_); go_simp; refine hK _ _ ⟨?_, ?_⟩; (u_none; intro e he; have hm := mem_listed he; simp [go_sem, *] at hm); clear hK K; try w_num
    refine T.goes1 hn rfl (fun _ _ _ => ?_); refine goes_oper_k rfl rfl (by k_ne) (fun K hK => ?_); go_simp; refine hK _ _ ⟨?_, ?_⟩; (u_none; intro e he; have hm := mem_listed he; simp [go_sem, *] at hm); clear hK K; try w_num
    refine T.goes1 hn rfl (fun _ _ _ => ?_); refine goes_call rfl rfl (by k_ne) rfl H.f_uCas (nm_uCas L) rfl ⟨by u_nil, ?_⟩; walk_nrmf uCasFn
    refine T.goes1 hn rfl (fun _ _ _ => ?_); rw [stepG_seq]; simp only [goes_go]; refine ⟨by u_nil, ?_⟩
    refine T.goes1 hn rfl (fun _ _ _ => ?_); rw [stepG_region]; simp only [goes_go, List.size_toArray, List.length_cons, List.length_nil, Nat.reduceAdd, Nat.zero_add, List.range, List.range.loop]; refine ⟨by u_nil, ?_⟩
    refine T.goes1 hn rfl (fun _ _ _ => ?_); refine goes_oper_k rfl rfl (by k_ne) (fun K hK => ?_); go_simp; refine hK _ _ ⟨?_, ?_⟩; (u_none; intro e he; have hm := mem_listed he; simp [go_sem, *] at hm); clear hK K; try w_num
    refine T.goes1 hn rfl (fun _ _ _ => ?_); rw [stepG_region_end]; simp only [goes_go]; refine ⟨by u_nil, ?_⟩
    refine T.goes1 hn rfl (fun _ _ _ => ?_); rw [stepG_seq]; simp only [goes_go]; refine ⟨by u_nil, ?_⟩
    refine T.goes1 hn rfl (fun _ _ _ => ?_); rw [stepG_region]; simp only [goes_go, List.size_toArray, List.length_cons, List.length_nil, Nat.reduceAdd, Nat.zero_add, List.range, List.range.loop]; refine ⟨by u_nil, ?_⟩
    refine T.goes1 hn rfl (fun _ _ _ => ?_); refine goes_oper_k rfl rfl (by k_ne) (fun K hK => ?_); go_simp; refine hK _ _ ⟨?_, ?_⟩; (u_none; intro e he; have hm := mem_listed he; simp [go_sem, *] at hm); clear hK K; try w_num
    refine T.goes1 hn rfl (fun _ _ _ => ?_); refine goes_oper_k rfl rfl (by k_ne) (fun K hK => ?_); go_simp; refine hK _ _ ⟨?_, ?_⟩; (u_none; intro e he; have hm := mem_listed he; simp [go_sem, *] at hm); clear hK K; try w_num
    refine T.goes1 hn rfl (fun _ _ _ => ?_); refine goes_oper_k rfl rfl (by k_ne) (fun K hK => ?_); go_simp; refine hK _ _ ⟨?_, ?_⟩; (u_none; intro e he; have hm := mem_listed he; simp [go_sem, *] at hm); clear hK K; try w_num
    refine T.goes1 hn rfl (fun _ _ _ => ?_); refine goes_oper_k rfl rfl (by k_ne) (fun K hK => ?_); go_simp; refine hK _ _ ⟨?_, ?_⟩; (u_none; intro e he; have hm := mem_listed he; simp [go_sem, *] at hm); clear hK K; try w_num
    refine T.goes1 hn rfl (fun _ _ _ => ?_); refine goes_oper_k rfl rfl (by k_ne) (fun K hK => ?_); go_simp; refine hK _ _ ⟨?_, ?_⟩; (u_none; intro e he; have hm := mem_listed he; simp [go_sem, *] at hm); clear hK K; try w_num
    refine T.le (m := (mT + 400 * m + 240) + 1) (by omega) (Act.wgp κ (.p4 v) sp rfl rfl (fun w2 r hk1 => ?_))
    obtain ⟨v', hv', hst, hsm, hfz⟩ := hk1
    by_cases e : v' = v
    · subst e
      have hst' : w2.cell? κ.st = some (.int .u64 S) := by rw [← hS]; exact hst
      refine ⟨_, _, _, _, (stepG_cas_hit (v := S) (n := S + 1) rfl rfl (by k_ne) rfl H.f_casU64 (x_casU64_n L) (x_casU64_b L) (x_casU64_x L) .u64 (x_casU64_f L) rfl rfl rfl hst' hfz).trans (by rw [show S + 1 = ((v' * K32 + 1 : Nat) : Int) by rw [← hS]; omega]; rfl), .hit w2 v' hst (by omega), ?_⟩
      clear IH hst hst' hsm hfz
      refine T.hold (w := w) ?_ (Hold.set ⟨r.size, r.cell, r.grow⟩ (fun z hz => (hd z hz).1))
      replace hn := par_neat hn0 (some (κ, .p5, sp))
      walk_nrm
      clear r
      refine T.goes1 hn rfl (fun _ _ _ => ?_); refine goes_oper_k rfl rfl (by k_ne) (fun K hK => ?_); go_simp; refine hK _ _ ⟨?_, ?_⟩; (u_none; intro e he; have hm := mem_listed he; simp [go_sem, *] at hm); clear hK K; try w_num
      refine T.goes1 hn rfl (fun _ _ _ => ?_); rw [stepG_region_end]; simp only [goes_go]; refine ⟨by u_nil, ?_⟩
      refine T.goes1 hn rfl (fun _ _ _ => ?_); rw [stepG_ret']; simp only [goes_go]; refine ⟨by u_nil, ?_⟩
      refine T.goes1 hn rfl (fun _ _ _ => ?_); refine goes_leave1 rfl rfl H.f_uCas rfl ⟨by u_nil, ?_⟩; walk_nrm
      refine T.goes1 hn rfl (fun _ _ _ => ?_); rw [stepG_region_end]; simp only [goes_go]; refine ⟨by u_nil, ?_⟩
      refine T.goes1 hn rfl (fun _ _ _ => ?_); rw [stepG_cond (t := true) rfl]; simp only [goes_go, if_true, if_false, Bool.false_eq_true, ↓reduceIte]; refine ⟨by u_nil, ?_⟩
      refine T.goes1 hn rfl (fun _ _ _ => ?_); rw [stepG_seq]; simp only [goes_go]; refine ⟨by u_nil, ?_⟩
      refine T.goes1 hn rfl (fun _ _ _ => ?_); rw [stepG_seq]; simp only [goes_go]; refine ⟨by u_nil, ?_⟩
      refine T.goes1 hn rfl (fun _ _ _ => ?_); rw [stepG_region]; simp only [goes_go, List.size_toArray, List.length_cons, List.length_nil, Nat.reduceAdd, Nat.zero_add, List.range, List.range.loop]; refine ⟨by u_nil, ?_⟩
      refine T.goes1 hn rfl (fun _ _ _ => ?_); refine goes_oper_k rfl rfl (by k_ne) (fun K hK => ?_); go_simp; refine hK _ _ ⟨?_, ?_⟩; (u_none; intro e he; have hm := mem_listed he; simp [go_sem, *] at hm); clear hK K; try w_num
      refine T.goes1 hn rfl (fun _ _ _ => ?_); refine goes_oper_k rfl rfl (by k_ne) (fun K hK => ?_); go_simp; refine hK _ _ ⟨?_, ?_⟩; (u_none; intro e he; have hm := mem_listed he; simp [go_sem, *] at hm); clear hK K; try w_num
      refine T.goes1 hn rfl (fun _ _ _ => ?_); refine goes_oper_k rfl rfl (by k_ne) (fun K hK => ?_); go_simp; refine hK _ _ ⟨?_, ?_⟩; (u_none; intro e he; have hm := mem_listed he; simp [go_sem, *] at hm); clear hK K; try w_num
      refine T.goes1 hn rfl (fun _ _ _ => ?_); refine goes_oper_k rfl rfl (by k_ne) (fun K hK => ?_); go_simp; refine hK _ _ ⟨?_, ?_⟩; (u_none; intro e he; have hm := mem_listed he; simp [go_sem, *] at hm); clear hK K; try w_num
      refine T.goes1 hn rfl (fun _ _ _ => ?_); rw [stepG_region_end]; simp only [goes_go]; refine ⟨by u_nil, ?_⟩
      refine T.goes1 hn rfl (fun _ _ _ => ?_); rw [stepG_cond (t := true) rfl]; simp only [goes_go, if_true, if_false, Bool.false_eq_true, ↓reduceIte]; refine ⟨by u_nil, ?_⟩
      refine T.goes1 hn rfl (fun _ _ _ => ?_); rw [stepG_region]; simp only [goes_go, List.size_toArray, List.length_cons, List.length_nil, Nat.reduceAdd, Nat.zero_add, List.range, List.range.loop]; refine ⟨by u_nil, ?_⟩
      refine T.goes1 hn rfl (fun _ _ _ => ?_); refine goes_oper_k rfl rfl (by k_ne) (fun K hK => ?_); go_simp; refine hK _ _ ⟨?_, ?_⟩; (u_none; intro e he; have hm := mem_listed he; simp [go_sem, *] at hm); clear hK K; try w_num
      refine T.goes1 hn rfl (fun _ _ _ => ?_); refine goes_oper_k rfl rfl (by k_ne) (fun K hK => ?_); go_simp; refine hK _ _ ⟨?_, ?_⟩; (u_none; intro e he; have hm := mem_listed he; simp [go_sem, *] at hm); clear hK K; try w_num
      refine T.goes1 hn rfl (fun _ _ _ => ?_); refine goes_oper_k rfl rfl (by k_ne) (fun K hK => ?_); go_simp; refine hK _ _ ⟨?_, ?_⟩; (u_none; intro e he; have hm := mem_listed he; simp [go_sem, *] at hm); clear hK K; try w_num
      refine T.goes1 hn rfl (fun _ _ hL => ?_); refine goes_oper_k rfl rfl (by k_ne) (fun Kx hKx => ?_); have hcv := run_convert_to_unsafe (P := P) H.underlying_tPU32 H.underlying_tUP H.room_tU32 (hL κ (.inl ⟨_, _, rfl⟩)).cellSm.choose_spec; have hce := fun es => events_convert_to_unsafe (P := P) H.underlying_tPU32 H.underlying_tUP H.room_tU32 (hL κ (.inl ⟨_, _, rfl⟩)).cellSm.choose_spec es; go_simp; refine hKx _ _ ⟨?_, ?_⟩; (u_none; intro ex hex; have hmx := mem_listed hex; simp [go_sem, hce] at hmx); clear hKx Kx hcv hce
      refine T.le (m := (mT + 400 * m + 200) + 1) (by omega) (Act.wgp κ .p5 sp rfl rfl (fun w3 r _ => ⟨_, _, _, _, stepG_markAt .write (by simp) rfl rfl (by k_ne) rfl H.f_raceWrite (x_raceWrite_n L) (x_raceWrite_b L) (x_raceWrite_x L) (x_raceWrite_f L) (ad := ⟨κ.Wg, 1, none⟩) (by simp [Go.Act.eval]), .swrite w3, ?_⟩))
      refine T.hold (w := w) ?_ ⟨r.size, r.cell, r.grow⟩
      replace hn := par_neat hn0 (some (κ, .p5, sp))
      walk_nrm
      clear r
      refine T.goes1 hn rfl (fun _ _ _ => ?_); rw [stepG_region_end]; simp only [goes_go]; refine ⟨by u_nil, ?_⟩
      refine T.goes1 hn rfl (fun _ _ _ => ?_); rw [stepG_seq]; simp only [goes_go]; refine ⟨by u_nil, ?_⟩
      refine T.goes1 hn rfl (fun _ _ _ => ?_); rw [stepG_region]; simp only [goes_go, List.size_toArray, List.length_cons, List.length_nil, Nat.reduceAdd, Nat.zero_add, List.range, List.range.loop]; refine ⟨by u_nil, ?_⟩
      refine T.goes1 hn rfl (fun _ _ _ => ?_); refine goes_oper_k rfl rfl (by k_ne) (fun K hK => ?_); go_simp; refine hK _ _ ⟨?_, ?_⟩; (u_none; intro e he; have hm := mem_listed he; simp [go_sem, *] at hm); clear hK K; try w_num
      refine T.goes1 hn rfl (fun _ _ _ => ?_); rw [stepG_region_end]; simp only [goes_go]; refine ⟨by u_nil, ?_⟩
      refine T.goes1 hn rfl (fun _ _ _ => ?_); rw [stepG_seq]; simp only [goes_go]; refine ⟨by u_nil, ?_⟩
      refine T.goes1 hn rfl (fun _ _ _ => ?_); rw [stepG_seq]; simp only [goes_go]; refine ⟨by u_nil, ?_⟩
      refine T.goes1 hn rfl (fun _ _ _ => ?_); rw [stepG_region]; simp only [goes_go, List.size_toArray, List.length_cons, List.length_nil, Nat.reduceAdd, Nat.zero_add, List.range, List.range.loop]; refine ⟨by u_nil, ?_⟩
      refine T.goes1 hn rfl (fun _ _ _ => ?_); refine goes_oper_k rfl rfl (by k_ne) (fun K hK => ?_); go_simp; refine hK _ _ ⟨?_, ?_⟩; (u_none; intro e he; have hm := mem_listed he; simp [go_sem, *] at hm); clear hK K; try w_num
      refine T.goes1 hn rfl (fun _ _ _ => ?_); refine goes_oper_k rfl rfl (by k_ne) (fun K hK => ?_); go_simp; refine hK _ _ ⟨?_, ?_⟩; (u_none; intro e he; have hm := mem_listed he; simp [go_sem, *] at hm); clear hK K; try w_num
      refine T.goes1 hn rfl (fun _ _ _ => ?_); refine goes_oper_k rfl rfl (by k_ne) (fun K hK => ?_); go_simp; refine hK _ _ ⟨?_, ?_⟩; (u_none; intro e he; have hm := mem_listed he; simp [go_sem, *] at hm); clear hK K; try w_num
      refine T.goes1 hn rfl (fun _ _ _ => ?_); refine goes_oper_k rfl rfl (by k_ne) (fun K hK => ?_); go_simp; refine hK _ _ ⟨?_, ?_⟩; (u_none; intro e he; have hm := mem_listed he; simp [go_sem, *] at hm); clear hK K; try w_num
      refine T.goes1 hn rfl (fun _ _ _ => ?_); rw [stepG_unwanted rfl rfl]; simp only [goes_go]; refine ⟨by u_nil, ?_⟩; walk_nrm
      refine T.goes1 hn rfl (fun _ _ _ => ?_); refine goes_oper_k rfl rfl (by k_ne) (fun K hK => ?_); go_simp; refine hK _ _ ⟨?_, ?_⟩; (u_none; intro e he; have hm := mem_listed he; simp [go_sem, *] at hm); clear hK K; try w_num
      refine T.goes1 hn rfl (fun _ _ _ => ?_); rw [stepG_region_end]; simp only [goes_go]; refine ⟨by u_nil, ?_⟩
      refine T.goes1 hn rfl (fun _ _ _ => ?_); rw [stepG_cond (t := false) rfl]; simp only [goes_go, if_true, if_false, Bool.false_eq_true, ↓reduceIte]; refine ⟨by u_nil, ?_⟩
      refine T.goes1 hn rfl (fun _ _ _ => ?_); rw [stepG_skip]; simp only [goes_go]; refine ⟨by u_nil, ?_⟩
      refine T.goes1 hn rfl (fun _ _ _ => ?_); rw [stepG_seq]; simp only [goes_go]; refine ⟨by u_nil, ?_⟩
      refine T.goes1 hn rfl (fun _ _ _ => ?_); rw [stepG_region]; simp only [goes_go, List.size_toArray, List.length_cons, List.length_nil, Nat.reduceAdd, Nat.zero_add, List.range, List.range.loop]; refine ⟨by u_nil, ?_⟩
      refine T.goes1 hn rfl (fun _ _ _ => ?_); refine goes_oper_k rfl rfl (by k_ne) (fun K hK => ?_); go_simp; refine hK _ _ ⟨?_, ?_⟩; (u_none; intro e he; have hm := mem_listed he; simp [go_sem, *] at hm); clear hK K; try w_num
      refine T.goes1 hn rfl (fun _ _ _ => ?_); refine goes_oper_k rfl rfl (by k_ne) (fun K hK => ?_); go_simp; refine hK _ _ ⟨?_, ?_⟩; (u_none; intro e he; have hm := mem_listed he; simp [go_sem, *] at hm); clear hK K; try w_num
      refine T.goes1 hn rfl (fun _ _ _ => ?_); refine goes_oper_k rfl rfl (by k_ne) (fun K hK => ?_); go_simp; refine hK _ _ ⟨?_, ?_⟩; (u_none; intro e he; have hm := mem_listed he; simp [go_sem, *] at hm); clear hK K; try w_num
      refine T.goes1 hn rfl (fun _ _ _ => ?_); refine goes_oper_k rfl rfl (by k_ne) (fun K hK => ?_); go_simp; refine hK _ _ ⟨?_, ?_⟩; (u_none; intro e he; have hm := mem_listed he; simp [go_sem, *] at hm); clear hK K; try w_num
      refine T.le (m := (mT + 400 * m + 170) + 1) (by omega) (Act.acq κ sp rfl rfl rfl (fun w3 r h0 => stepG_semacquire_wait rfl rfl rfl H.f_semacquire (x_semacquire_n L) (x_semacquire_b L) (x_semacquire_x L) (x_semacquire_f L) (ad := ⟨κ.Wg, 1, none⟩) (by simp [Go.Act.eval]) h0) (fun w3 r h1 hz => ⟨_, (stepG_semacquire (n := 1) rfl rfl (by k_ne) rfl H.f_semacquire (x_semacquire_n L) (x_semacquire_b L) (x_semacquire_x L) (x_semacquire_f L) (ad := ⟨κ.Wg, 1, none⟩) (by simp [Go.Act.eval]) h1 (by k_ne) hz).trans (by rfl), ?_⟩))
      refine T.hold (w := w) ?_ (Hold.set ⟨r.size, r.cell, r.grow⟩ (fun z hz => (hd z hz).2))
      replace hn := par_neat hn0 (some (κ, .p6, sp))
      walk_nrm
      clear r
      refine T.goes1 hn rfl (fun _ _ _ => ?_); rw [stepG_region_end]; simp only [goes_go]; refine ⟨by u_nil, ?_⟩
      refine T.goes1 hn rfl (fun _ _ _ => ?_); rw [stepG_seq]; simp only [goes_go]; refine ⟨by u_nil, ?_⟩
      refine T.goes1 hn rfl (fun _ _ _ => ?_); rw [stepG_region]; simp only [goes_go, List.size_toArray, List.length_cons, List.length_nil, Nat.reduceAdd, Nat.zero_add, List.range, List.range.loop]; refine ⟨by u_nil, ?_⟩
      refine T.goes1 hn rfl (fun _ _ _ => ?_); refine goes_oper_k rfl rfl (by k_ne) (fun K hK => ?_); go_simp; refine hK _ _ ⟨?_, ?_⟩; (u_none; intro e he; have hm := mem_listed he; simp [go_sem, *] at hm); clear hK K; try w_num
      refine T.goes1 hn rfl (fun _ _ _ => ?_); refine goes_oper_k rfl rfl (by k_ne) (fun K hK => ?_); go_simp; refine hK _ _ ⟨?_, ?_⟩; (u_none; intro e he; have hm := mem_listed he; simp [go_sem, *] at hm); clear hK K; try w_num
      refine T.goes1 hn rfl (fun _ _ _ => ?_); refine goes_oper_k rfl rfl (by k_ne) (fun K hK => ?_); go_simp; refine hK _ _ ⟨?_, ?_⟩; (u_none; intro e he; have hm := mem_listed he; simp [go_sem, *] at hm); clear hK K; try w_num
      refine T.goes1 hn rfl (fun _ _ _ => ?_); refine goes_call rfl rfl (by k_ne) rfl H.f_uLoad (nm_uLoad L) rfl ⟨by u_nil, ?_⟩; walk_nrmf uLoadFn
      refine T.goes1 hn rfl (fun _ _ _ => ?_); rw [stepG_seq]; simp only [goes_go]; refine ⟨by u_nil, ?_⟩
      refine T.goes1 hn rfl (fun _ _ _ => ?_); rw [stepG_region]; simp only [goes_go, List.size_toArray, List.length_cons, List.length_nil, Nat.reduceAdd, Nat.zero_add, List.range, List.range.loop]; refine ⟨by u_nil, ?_⟩
      refine T.goes1 hn rfl (fun _ _ _ => ?_); refine goes_oper_k rfl rfl (by k_ne) (fun K hK => ?_); go_simp; refine hK _ _ ⟨?_, ?_⟩; (u_none; intro e he; have hm := mem_listed he; simp [go_sem, *] at hm); clear hK K; try w_num
      refine T.goes1 hn rfl (fun _ _ _ => ?_); rw [stepG_region_end]; simp only [goes_go]; refine ⟨by u_nil, ?_⟩
      refine T.goes1 hn rfl (fun _ _ _ => ?_); rw [stepG_seq]; simp only [goes_go]; refine ⟨by u_nil, ?_⟩
      refine T.goes1 hn rfl (fun _ _ _ => ?_); rw [stepG_region]; simp only [goes_go, List.size_toArray, List.length_cons, List.length_nil, Nat.reduceAdd, Nat.zero_add, List.range, List.range.loop]; refine ⟨by u_nil, ?_⟩
      refine T.goes1 hn rfl (fun _ _ _ => ?_); refine goes_oper_k rfl rfl (by k_ne) (fun K hK => ?_); go_simp; refine hK _ _ ⟨?_, ?_⟩; (u_none; intro e he; have hm := mem_listed he; simp [go_sem, *] at hm); clear hK K; try w_num
      refine T.goes1 hn rfl (fun _ _ _ => ?_); refine goes_oper_k rfl rfl (by k_ne) (fun K hK => ?_); go_simp; refine hK _ _ ⟨?_, ?_⟩; (u_none; intro e he; have hm := mem_listed he; simp [go_sem, *] at hm); clear hK K; try w_num
      refine T.goes1 hn rfl (fun _ _ _ => ?_); refine goes_oper_k rfl rfl (by k_ne) (fun K hK => ?_); go_simp; refine hK _ _ ⟨?_, ?_⟩; (u_none; intro e he; have hm := mem_listed he; simp [go_sem, *] at hm); clear hK K; try w_num
      refine T.le (m := (mT + 400 * m + 140) + 1) (by omega) (Act.wgp κ .p6 sp rfl rfl (fun w4 r hk1 => ⟨_, _, _, _, stepG_load_atomic (v := 0) rfl rfl (by k_ne) rfl H.f_loadU64 (x_loadU64_n L) (x_loadU64_b L) (x_loadU64_x L) .u64 (x_loadU64_f L) rfl hk1.1, .ld6 w4, ?_⟩))
      refine T.hold (w := w) ?_ ⟨r.size, r.cell, r.grow⟩
      replace hn := par_neat hn0 (some (κ, .p8, sp))
      walk_nrm
      clear r
      refine T.goes1 hn rfl (fun _ _ _ => ?_); refine goes_oper_k rfl rfl (by k_ne) (fun K hK => ?_); go_simp; refine hK _ _ ⟨?_, ?_⟩; (u_none; intro e he; have hm := mem_listed he; simp [go_sem, *] at hm); clear hK K; try w_num
      refine T.goes1 hn rfl (fun _ _ _ => ?_); rw [stepG_region_end]; simp only [goes_go]; refine ⟨by u_nil, ?_⟩
      refine T.goes1 hn rfl (fun _ _ _ => ?_); rw [stepG_ret']; simp only [goes_go]; refine ⟨by u_nil, ?_⟩
      refine T.goes1 hn rfl (fun _ _ _ => ?_); refine goes_leave1 rfl rfl H.f_uLoad rfl ⟨by u_nil, ?_⟩; walk_nrm
      refine T.goes1 hn rfl (fun _ _ _ => ?_); refine goes_oper_k rfl rfl (by k_ne) (fun K hK => ?_); go_simp; refine hK _ _ ⟨?_, ?_⟩; (u_none; intro e he; have hm := mem_listed he; simp [go_sem, *] at hm); clear hK K; try w_num
      refine T.goes1 hn rfl (fun _ _ _ => ?_); refine goes_oper_k rfl rfl (by k_ne) (fun K hK => ?_); go_simp; refine hK _ _ ⟨?_, ?_⟩; (u_none; intro e he; have hm := mem_listed he; simp [go_sem, *] at hm); clear hK K; try w_num
      refine T.goes1 hn rfl (fun _ _ _ => ?_); rw [stepG_region_end]; simp only [goes_go]; refine ⟨by u_nil, ?_⟩
      refine T.goes1 hn rfl (fun _ _ _ => ?_); rw [stepG_seq]; simp only [goes_go]; refine ⟨by u_nil, ?_⟩
      refine T.goes1 hn rfl (fun _ _ _ => ?_); rw [stepG_cond (t := true) rfl]; simp only [goes_go, if_true, if_false, Bool.false_eq_true, ↓reduceIte]; refine ⟨by u_nil, ?_⟩
      refine T.goes1 hn rfl (fun _ _ _ => ?_); rw [stepG_seq]; simp only [goes_go]; refine ⟨by u_nil, ?_⟩
      refine T.goes1 hn rfl (fun _ _ _ => ?_); rw [stepG_region]; simp only [goes_go, List.size_toArray, List.length_cons, List.length_nil, Nat.reduceAdd, Nat.zero_add, List.range, List.range.loop]; refine ⟨by u_nil, ?_⟩
      refine T.le (m := (mT + 400 * m + 120) + 1) (by omega) (Act.wgp κ .p8 sp rfl rfl (fun w5 r _ => ⟨_, _, _, _, stepG_mark0 .enable (by simp) rfl rfl (by k_ne) rfl H.f_enable (x_enable_n L) (x_enable_b L) (x_enable_x L) (x_enable_f L), .en8 w5, ?_⟩))
      refine T.hold (w := w) ?_ ⟨r.size, r.cell, r.grow⟩
      replace hn := par_neat hn0 (some (κ, .p9, sp))
      walk_nrm
      clear r
      refine T.goes1 hn rfl (fun _ _ _ => ?_); rw [stepG_region_end]; simp only [goes_go]; refine ⟨by u_nil, ?_⟩
      refine T.goes1 hn rfl (fun _ _ _ => ?_); rw [stepG_region]; simp only [goes_go, List.size_toArray, List.length_cons, List.length_nil, Nat.reduceAdd, Nat.zero_add, List.range, List.range.loop]; refine ⟨by u_nil, ?_⟩
      refine T.goes1 hn rfl (fun _ _ _ => ?_); refine goes_oper_k rfl rfl (by k_ne) (fun K hK => ?_); go_simp; refine hK _ _ ⟨?_, ?_⟩; (u_none; intro e he; have hm := mem_listed he; simp [go_sem, *] at hm); clear hK K; try w_num
      refine T.goes1 hn rfl (fun _ _ hL => ?_); refine goes_oper_k rfl rfl (by k_ne) (fun Kx hKx => ?_); have hcv := run_convert_to_unsafe (P := P) H.underlying_tWgP H.underlying_tUP H.room_tWg (hL κ (.inl ⟨_, _, rfl⟩)).cellSt.choose_spec; have hce := fun es => events_convert_to_unsafe (P := P) H.underlying_tWgP H.underlying_tUP H.room_tWg (hL κ (.inl ⟨_, _, rfl⟩)).cellSt.choose_spec es; go_simp; refine hKx _ _ ⟨?_, ?_⟩; (u_none; intro ex hex; have hmx := mem_listed hex; simp [go_sem, hce] at hmx); clear hKx Kx hcv hce
      refine T.le (m := (mT + 400 * m + 60) + 1) (by omega) (Act.close κ sp rfl hk rfl (fun w6 r => ⟨_, stepG_markAt .acquire (by simp) rfl rfl (by k_ne) rfl H.f_acquire (x_acquire_n L) (x_acquire_b L) (x_acquire_x L) (x_acquire_f L) (ad := ⟨κ.Wg, 0, none⟩) (by simp [Go.Act.eval]), fun X x1 x2 x3 => ?_⟩))
      replace hT := hT w6 X ⟨r.size, r.cell, r.grow⟩ x1 x2 x3
      replace hn : Cx.Neat { c with O := fun a => c.O a ∨ X a, par := none, lk := 0 } := ⟨fun a ha hu => ha.elim (fun h => hn0.ou a h hu) (fun h => (x2 a h).2.1 hu), fun a hz => ⟨fun ha => ha.elim (hn0.oz a hz).1 (fun h => (x2 a h).2.2 hz), (hn0.oz a hz).2⟩⟩
      clear r x1 x2 x3
      walk_nrm
      refine T.goes1 hn rfl (fun _ _ _ => ?_); rw [stepG_region_end]; simp only [goes_go]; refine ⟨by u_nil, ?_⟩
      refine T.goes1 hn rfl (fun _ _ _ => ?_); rw [stepG_seq]; simp only [goes_go]; refine ⟨by u_nil, ?_⟩
      refine T.goes1 hn rfl (fun _ _ _ => ?_); rw [stepG_seq]; simp only [goes_go]; refine ⟨by u_nil, ?_⟩
      refine T.goes1 hn rfl (fun _ _ _ => ?_); rw [stepG_region]; simp only [goes_go, List.size_toArray, List.length_cons, List.length_nil, Nat.reduceAdd, Nat.zero_add, List.range, List.range.loop]; refine ⟨by u_nil, ?_⟩
      refine T.goes1 hn rfl (fun _ _ _ => ?_); refine goes_oper_k rfl rfl (by k_ne) (fun K hK => ?_); go_simp; refine hK _ _ ⟨?_, ?_⟩; (u_none; intro e he; have hm := mem_listed he; simp [go_sem, *] at hm); clear hK K; try w_num
      refine T.goes1 hn rfl (fun _ _ _ => ?_); rw [stepG_region_end]; simp only [goes_go]; refine ⟨by u_nil, ?_⟩
      refine T.goes1 hn rfl (fun _ _ _ => ?_); rw [stepG_cond (t := false) rfl]; simp only [goes_go, if_true, if_false, Bool.false_eq_true, ↓reduceIte]; refine ⟨by u_nil, ?_⟩
      refine T.goes1 hn rfl (fun _ _ _ => ?_); rw [stepG_skip]; simp only [goes_go]; refine ⟨by u_nil, ?_⟩
      refine T.goes1 hn rfl (fun _ _ _ => ?_); rw [stepG_ret']; simp only [goes_go]; refine ⟨by u_nil, ?_⟩
      refine T.goes1 hn rfl (fun _ _ _ => ?_); refine goes_leave0 rfl rfl H.f_wait rfl ⟨by u_nil, ?_⟩; walk_nrm
      exact T.le (by omega) hT
    · have hst' : w2.cell? κ.st = some (.int .u64 ((v' * K32 : Nat) : Int)) := hst
      refine ⟨_, _, _, _, stepG_cas_miss (v := ((v' * K32 : Nat) : Int)) (old := S) (n := S + 1) rfl rfl (by k_ne) rfl H.f_casU64 (x_casU64_n L) (x_casU64_b L) (x_casU64_x L) .u64 (x_casU64_f L) rfl rfl rfl hst' hfz (by rw [← hS]; simp only [K32]; omega), .miss w2 v v' hst, ?_⟩
      clear hst hst' hsm hfz
      refine T.hold (w := w) ?_ ⟨r.size, r.cell, r.grow⟩
      replace hn := par_neat hn0 (some (κ, .p7 v', sp))
      walk_nrm
      clear r
      replace IH := IH v' (by omega)
      refine T.le (m := (mT + 400 * m + 30) + 20) (by omega) ?_
      refine T.goes1 hn rfl (fun _ _ _ => ?_); refine goes_oper_k rfl rfl (by k_ne) (fun K hK => ?_); go_simp; refine hK _ _ ⟨?_, ?_⟩; (u_none; intro e he; have hm := mem_listed he; simp [go_sem, *] at hm); clear hK K; try w_num
      refine T.goes1 hn rfl (fun _ _ _ => ?_); rw [stepG_region_end]; simp only [goes_go]; refine ⟨by u_nil, ?_⟩
      refine T.goes1 hn rfl (fun _ _ _ => ?_); rw [stepG_ret']; simp only [goes_go]; refine ⟨by u_nil, ?_⟩
      refine T.goes1 hn rfl (fun _ _ _ => ?_); refine goes_leave1 rfl rfl H.f_uCas rfl ⟨by u_nil, ?_⟩; walk_nrm
      refine T.goes1 hn rfl (fun _ _ _ => ?_); rw [stepG_region_end]; simp only [goes_go]; refine ⟨by u_nil, ?_⟩
      refine T.goes1 hn rfl (fun _ _ _ => ?_); rw [stepG_cond (t := false) rfl]; simp only [goes_go, if_true, if_false, Bool.false_eq_true, ↓reduceIte]; refine ⟨by u_nil, ?_⟩
      refine T.goes1 hn rfl (fun _ _ _ => ?_); rw [stepG_skip]; simp only [goes_go]; refine ⟨by u_nil, ?_⟩
      refine T.goes1 hn rfl (fun _ _ _ => ?_); rw [stepG_inBlock]; simp only [goes_go]; refine ⟨by u_nil, ?_⟩
      refine T.goes1 hn rfl (fun _ _ _ => ?_); rw [stepG_inLoop]; simp only [goes_go]; refine ⟨by u_nil, ?_⟩
      exact T.le (by omega) (IH _ (by simp) (by simp))
/-- from the loop's head -/
theorem wait_head (H : WgLib P L) {κ : Crew} {sp mT : Nat} {b : Bool} {c : Cx} {w : World} (hn0 : c.Neat) (hk : 0 < sp) (hd : ∀ a, c.O a ∨ c.U a ∨ c.Z a → a ≠ κ.st ∧ a ≠ κ.sm) {b₀ : Frame} {a₀ : Go.Act} {ops₀ : Array Oper} {i₀ : Nat} {rest₀ : List Nat} {k₀ : List Item} {cs : List Frame}
    (hT : Joined κ c w (fun c' w' => T P Post (mT) b c' (G (b₀.at (a₀.put ((ops₀[i₀]?).bind (·.dst)) (.tuple #[])) (.inRegion ops₀ rest₀ :: k₀)) cs) w')) : ∀ (n m : Nat), m < n → m ≤ 2097152 → ∀ Tt : Array Value, Tt.size = 84 → Tt[0]? = some (.pointer (some ⟨κ.Wg, 0, none⟩)) → T P Post (mT + 400 * (m + 1)) b { c with par := some (κ, .p7 m, sp) } (G ((base L.wait).at ⟨Tt, []⟩ [.code (L7 L), .inLoop (L7 L), .inBlock 0]) (b₀.at a₀ (.inRegion ops₀ (i₀ :: rest₀) :: k₀) :: cs)) w
  | 0, _, h, _ => by omega
  | n + 1, m, h, hm => fun Tt h1 h2 => wait_round H hn0 hk hd hT (.inr rfl) hm (fun m' hm' => wait_head H hn0 hk hd hT n m' (by omega) (by omega)) h1 h2
set_option maxRecDepth 100000 in
set_option maxHeartbeats 16000000 in
/-- the starter waits for its crew -/
theorem wait_walk (H : WgLib P L) {κ : Crew} {sp mT : Nat} {b : Bool} {c : Cx} {w : World} (hn0 : c.Neat) {M : Nat} (hM1 : 1048576 ≤ M) (hM2 : M ≤ 2097152) (hp : c.par = some (κ, .p0, sp)) (hk : 0 < sp) (hd : ∀ a, c.O a ∨ c.U a ∨ c.Z a → a ≠ κ.st ∧ a ≠ κ.sm) {b₀ : Frame} {a₀ : Go.Act} {ops₀ : Array Oper} {i₀ : Nat} {rest₀ : List Nat} {k₀ : List Item} {cs : List Frame}
    (hT : Joined κ c w (fun c' w' => T P Post (mT) b c' (G (b₀.at (a₀.put ((ops₀[i₀]?).bind (·.dst)) (.tuple #[])) (.inRegion ops₀ rest₀ :: k₀)) cs) w')) :
    T P Post (mT + 400 * (M + 4)) b c (G ((base L.wait).at ⟨#[.pointer (some ⟨κ.Wg, 0, none⟩), undef, undef, undef, undef, undef, undef, undef, undef, undef, undef, undef, undef, undef, undef, undef, undef, undef, undef, undef, undef, undef, undef, undef, undef, undef, undef, undef, undef, undef, undef, undef, undef, undef, undef, undef, undef, undef, undef, undef, undef, undef, undef, undef, undef, undef, undef, undef, undef, undef, undef, undef, undef, undef, undef, undef, undef, undef, undef, undef, undef, undef, undef, undef, undef, undef, undef, undef, undef, undef, undef, undef, undef, undef, undef, undef, undef, undef, undef, undef, undef, undef, undef, undef], []⟩ [.code (body_wait L)]) (b₀.at a₀ (.inRegion ops₀ (i₀ :: rest₀) :: k₀) :: cs)) w := by
  lib_facts
  have hn := hn0
  simp only [body_wait, waitFn, Option.getD_some]
  generalize hfu : mT + 400 * (M + 4) = fu
  refine T.le (m := (mT + 400 * (M + 2)) + 20) (by omega) ?_
  refine T.goes1 hn rfl (fun _ _ _ => ?_); rw [stepG_seq]; simp only [goes_go]; refine ⟨by u_nil, ?_⟩
  refine T.goes1 hn rfl (fun _ _ _ => ?_); rw [stepG_cond (t := true) rfl]; simp only [goes_go, if_true, if_false, Bool.false_eq_true, ↓reduceIte]; refine ⟨by u_nil, ?_⟩
  refine T.goes1 hn rfl (fun _ _ _ => ?_); rw [stepG_region]; simp only [goes_go, List.size_toArray, List.length_cons, List.length_nil, Nat.reduceAdd, Nat.zero_add, List.range, List.range.loop]; refine ⟨by u_nil, ?_⟩
  refine T.le (m := (mT + 400 * (M + 1) + 50) + 1) (by omega) (Act.wgp κ .p0 sp hp rfl (fun w1 r _ => ⟨_, _, _, _, stepG_mark0 .disable (by simp) rfl rfl (by k_ne) rfl H.f_disable (x_disable_n L) (x_disable_b L) (x_disable_x L) (x_disable_f L), .dis w1, ?_⟩))
  refine T.hold (w := w) ?_ ⟨r.size, r.cell, r.grow⟩
  replace hn := par_neat hn0 (some (κ, .p1, sp))
  walk_nrm
  clear r
  refine T.le (m := (mT + 400 * (M + 1)) + 10) (by omega) ?_
  refine T.goes1 hn rfl (fun _ _ _ => ?_); rw [stepG_region_end]; simp only [goes_go]; refine ⟨by u_nil, ?_⟩
  refine T.goes1 hn rfl (fun _ _ _ => ?_); rw [stepG_block]; simp only [goes_go]; refine ⟨by u_nil, ?_⟩
  refine T.goes1 hn rfl (fun _ _ _ => ?_); rw [stepG_loop]; simp only [goes_go]; refine ⟨by u_nil, ?_⟩
  exact T.le (by omega) (wait_round H hn0 hk hd hT (.inl ⟨rfl, hM1⟩) hM2 (fun m' hm' => wait_head H hn0 hk hd hT (m' + 1) m' (by omega) (by omega)) (by simp) (by simp))
end Go.Farm
