/- The walk through (*WaitGroup).Add(1), by the starter. -/
import Derived.Test.YtidadgibhmiojaaGs
import Derived.Conc.WgGenN2
namespace Go.Farm
open Go.Conc Go.RowKit Go.Conc.Lib Go.ConcR.Gen Go.ConcN.Gen
open Go.ConcR (DC0)
variable {P : Program} {Post : Value → World → Prop} {L : WgLink}
theorem dc0_eq : ∀ (w w' : World) (es : Array Event), DC0 w w' es → w' = w ∧ es = #[] := fun _ _ _ h => h
theorem LiveC.par {c : Cx} {w : World} {κ : Crew} {ps ps' : PS} {k k' : Nat} (h : LiveC c w) (hp : c.par = some (κ, ps, k)) : LiveC { c with par := some (κ, ps', k') } w := by
  rintro κ2 (⟨ps2, k2, h2⟩ | h2)
  · have h2 : some (κ, ps', k') = some (κ2, ps2, k2) := h2
    injection h2 with e; injection e with e _
    subst e
    exact h κ (.inl ⟨_, _, hp⟩)
  · exact h κ2 (.inr h2)
set_option maxRecDepth 100000 in
set_option maxHeartbeats 8000000 in
theorem add_walk (H : WgLib P L) {κ : Crew} {sp mT : Nat} {b : Bool} {c : Cx} (hc : c.Neat) (hp : c.par = some (κ, .p0, sp)) {b₀ : Frame} {a₀ : Go.Act} {ops₀ : Array Oper} {i₀ : Nat} {rest₀ : List Nat} {k₀ : List Item} {cs : List Frame} {w : World} (hF : LiveC c w) (hd : ∀ a, c.O a ∨ c.U a ∨ c.Z a → a ≠ κ.st ∧ a ≠ κ.sm)
    (hT : T P Post mT b { c with par := some (κ, .p3, sp) } (G (b₀.at (a₀.put ((ops₀[i₀]?).bind (·.dst)) (.tuple #[])) (.inRegion ops₀ rest₀ :: k₀)) cs) w) :
    T P Post (mT + 300) b c (G ((base L.add).at ⟨#[.pointer (some ⟨κ.Wg, 0, none⟩), .int .i64 1, undef, undef, undef, undef, undef, undef, undef, undef, undef, undef, undef, undef, undef, undef, undef, undef, undef, undef, undef, undef, undef, undef, undef, undef, undef, undef, undef, undef, undef, undef, undef, undef, undef, undef, undef, undef, undef, undef, undef, undef, undef, undef, undef, undef, undef, undef, undef, undef, undef, undef, undef, undef, undef, undef, undef, undef, undef, undef, undef, undef, undef, undef, undef, undef, undef, undef, undef, undef, undef, undef, undef, undef, undef, undef, undef, undef, undef, undef, undef, undef, undef, undef, undef, undef, undef, undef, undef, undef, undef, undef, undef, undef, undef, undef, undef, undef, undef, undef, undef, undef, undef, undef, undef, undef, undef, undef, undef, undef, undef, undef, undef, undef, undef, undef, undef], []⟩ [.code (body_add L)]) (b₀.at a₀ (.inRegion ops₀ (i₀ :: rest₀) :: k₀) :: cs)) w := by
  lib_facts
  simp only [body_add, addFn, Option.getD_some]
  refine T.le (m := (mT + 230) + 12) (by omega) (T.of_slide (c := c) (Stop := fun g' _ => T P Post (mT + 230) b c g' w) ⟨hc.ou, hc.oz⟩ dc0_eq hF (fun _ _ h => h) (w := w) ?_)
  u_c stepG_seq (fun _ h => h) hF
  u_cond true (fun _ h => h) hF
  u_c stepG_seq (fun _ h => h) hF
  u_c stepG_seq (fun _ h => h) hF
  u_reg (fun _ h => h) hF
  u_op (fun _ h => h) hF
  u_op (fun _ h => h) hF
  u_c stepG_region_end (fun _ h => h) hF
  u_cond false (fun _ h => h) hF
  u_c stepG_skip (fun _ h => h) hF
  u_c stepG_seq (fun _ h => h) hF
  u_reg (fun _ h => h) hF
  refine Goes.stop (fun _ hF => ?_)
  refine T.le (m := (mT + 220) + 1) (by omega) (Act.wgp κ .p0 sp hp rfl (fun w1 r _ => ⟨_, _, _, _, stepG_mark0 .disable (by simp) rfl rfl (by k_ne) rfl H.f_disable (x_disable_n L) (x_disable_b L) (x_disable_x L) (x_disable_f L), .dis w1, ?_⟩))
  walk_nrm
  replace hF := LiveC.par (ps' := .p1) (k' := sp) r.live hp
  replace hT := hT.hold (w1 := w1) ⟨r.size, r.cell, r.grow⟩
  clear r
  refine T.le (m := (mT + 170) + 40) (by omega) (T.of_slide (c := { c with par := some (κ, .p1, sp) }) (Stop := fun g' _ => T P Post (mT + 170) b { c with par := some (κ, .p1, sp) } g' w1) ⟨hc.ou, hc.oz⟩ dc0_eq hF (fun _ _ h => h) (w := w1) ?_)
  u_c stepG_region_end (fun _ h => h) hF
  u_reg (fun _ h => h) hF
  u_defer (fun _ h => h) hF
  u_c stepG_region_end (fun _ h => h) hF
  u_c stepG_seq (fun _ h => h) hF
  u_reg (fun _ h => h) hF
  u_op (fun _ h => h) hF
  u_c stepG_region_end (fun _ h => h) hF
  u_c stepG_seq (fun _ h => h) hF
  u_c stepG_seq (fun _ h => h) hF
  u_reg (fun _ h => h) hF
  u_bub (fun _ h => h) hF
  u_c stepG_region_end (fun _ h => h) hF
  u_cond false (fun _ h => h) hF
  u_c stepG_skip (fun _ h => h) hF
  u_c stepG_seq (fun _ h => h) hF
  u_reg (fun _ h => h) hF
  u_op (fun _ h => h) hF
  u_op (fun _ h => h) hF
  u_op (fun _ h => h) hF
  u_op (fun _ h => h) hF
  u_op (fun _ h => h) hF
  u_op (fun _ h => h) hF
  u_call H.f_uAdd (nm_uAdd L) uAddFn (fun _ h => h) hF
  u_c stepG_seq (fun _ h => h) hF
  u_reg (fun _ h => h) hF
  u_op (fun _ h => h) hF
  u_c stepG_region_end (fun _ h => h) hF
  u_c stepG_seq (fun _ h => h) hF
  u_reg (fun _ h => h) hF
  u_op (fun _ h => h) hF
  u_op (fun _ h => h) hF
  u_op (fun _ h => h) hF
  u_op (fun _ h => h) hF
  refine Goes.stop (fun _ hF => ?_)
  refine T.le (m := (mT + 165) + 1) (by omega) (Act.wgp κ .p1 sp rfl rfl (fun w2 r hk => ?_))
  obtain ⟨v, hv, hst, hsm, hfz⟩ := hk
  replace hF := r.live
  replace hT := hT.hold (w1 := w2) ⟨r.size, r.cell, r.grow⟩
  clear r
  rcases Nat.eq_zero_or_pos v with rfl | hvp
  · have e0 : IntKind.u64.wrap (((0 * K32 : Nat) : Int) + 4294967296) = (((0 + 1) * K32 : Nat) : Int) := by decide
    refine ⟨_, _, _, _, (stepG_add_atomic rfl rfl (by k_ne) rfl H.f_addU64 (x_addU64_n L) (x_addU64_b L) (x_addU64_x L) .u64 (x_addU64_f L) rfl rfl hst hfz).trans (by rw [e0]; rfl), .add w2 0 hst, ?_⟩
    replace hT := hT.hold (w1 := w2.setCell κ.st (.int .u64 (((0 + 1) * K32 : Nat) : Int))) ⟨by rw [World.size_setCell]; exact Nat.le_refl _, fun a ha => ⟨World.cell?_setCell_other _ _ _ _ (Ne.symm (hd a ha).1), World.frozen?_setCell _ _ _ _⟩, Grow.set _ _ _⟩
    generalize w2.setCell κ.st (.int .u64 (((0 + 1) * K32 : Nat) : Int)) = w3 at hT ⊢
    have e1 : (((0 + 1) * K32 : Nat) : Int) = 4294967296 := by decide
    simp only [e1]
    clear hst hsm hfz hv e0 e1
    replace hF := LiveC.par (ps' := .p2) (k' := sp) hF rfl
    walk_nrm
    refine T.le (m := (mT + 80) + 80) (by omega) (T.of_slide (c := { c with par := some (κ, .p2, sp) }) (Stop := fun g' _ => T P Post (mT + 80) b { c with par := some (κ, .p2, sp) } g' w3) ⟨hc.ou, hc.oz⟩ dc0_eq hF (fun _ _ h => h) (w := w3) ?_)
    u_op (fun _ h => h) hF
    u_c stepG_region_end (fun _ h => h) hF
    u_c stepG_ret' (fun _ h => h) hF
    u_leave1 H.f_uAdd (fun _ h => h) hF
    u_op (fun _ h => h) hF
    u_c stepG_region_end (fun _ h => h) hF
    u_c stepG_seq (fun _ h => h) hF
    u_c stepG_seq (fun _ h => h) hF
    u_reg (fun _ h => h) hF
    u_op (fun _ h => h) hF
    u_op (fun _ h => h) hF
    u_op (fun _ h => h) hF
    u_op (fun _ h => h) hF
    u_skip (fun _ h => h) hF
    u_skip (fun _ h => h) hF
    u_op (fun _ h => h) hF
    u_c stepG_region_end (fun _ h => h) hF
    u_cond false (fun _ h => h) hF
    u_c stepG_skip (fun _ h => h) hF
    u_c stepG_seq (fun _ h => h) hF
    u_reg (fun _ h => h) hF
    u_op (fun _ h => h) hF
    u_op (fun _ h => h) hF
    u_op (fun _ h => h) hF
    u_op (fun _ h => h) hF
    u_c stepG_region_end (fun _ h => h) hF
    u_c stepG_seq (fun _ h => h) hF
    u_reg (fun _ h => h) hF
    u_op (fun _ h => h) hF
    u_op (fun _ h => h) hF
    u_op (fun _ h => h) hF
    u_op (fun _ h => h) hF
    u_c stepG_region_end (fun _ h => h) hF
    u_c stepG_seq (fun _ h => h) hF
    u_c stepG_seq (fun _ h => h) hF
    u_reg (fun _ h => h) hF
    u_op (fun _ h => h) hF
    u_op (fun _ h => h) hF
    u_op (fun _ h => h) hF
    u_op (fun _ h => h) hF
    u_op (fun _ h => h) hF
    u_op (fun _ h => h) hF
    u_op (fun _ h => h) hF
    u_op (fun _ h => h) hF
    u_op (fun _ h => h) hF
    u_op (fun _ h => h) hF
    u_c stepG_region_end (fun _ h => h) hF
    u_cond true (fun _ h => h) hF
    u_reg (fun _ h => h) hF
    u_op (fun _ h => h) hF
    u_op (fun _ h => h) hF
    u_op (fun _ h => h) hF
    u_conv H.underlying_tPU32 H.room_tU32 (Live.cellSm (hF κ (.inl ⟨_, _, rfl⟩))).choose_spec (fun _ h => h) hF
    refine Goes.stop (fun _ hF => ?_)
    refine T.le (m := (mT + 70) + 1) (by omega) (Act.wgp κ .p2 sp rfl rfl (fun w4 r _ => ⟨_, _, _, _, stepG_markAt .read (by simp) rfl rfl (by k_ne) rfl H.f_raceRead (x_raceRead_n L) (x_raceRead_b L) (x_raceRead_x L) (x_raceRead_f L) (ad := ⟨κ.Wg, 1, none⟩) (by simp [Go.Act.eval]), .sread w4, ?_⟩))
    replace hF := r.live
    replace hT := hT.hold (w1 := w4) ⟨r.size, r.cell, r.grow⟩
    clear r
    walk_nrm
    refine T.le (m := (mT + 3) + 60) (by omega) (T.of_slide (c := { c with par := some (κ, .p2, sp) }) (Stop := fun g' _ => T P Post (mT + 3) b { c with par := some (κ, .p2, sp) } g' w4) ⟨hc.ou, hc.oz⟩ dc0_eq hF (fun _ _ h => h) (w := w4) ?_)
    u_c stepG_region_end (fun _ h => h) hF
    u_c stepG_seq (fun _ h => h) hF
    u_c stepG_seq (fun _ h => h) hF
    u_reg (fun _ h => h) hF
    u_op (fun _ h => h) hF
    u_op (fun _ h => h) hF
    u_c stepG_region_end (fun _ h => h) hF
    u_cond false (fun _ h => h) hF
    u_c stepG_skip (fun _ h => h) hF
    u_c stepG_seq (fun _ h => h) hF
    u_c stepG_seq (fun _ h => h) hF
    u_reg (fun _ h => h) hF
    u_op (fun _ h => h) hF
    u_op (fun _ h => h) hF
    u_op (fun _ h => h) hF
    u_skip (fun _ h => h) hF
    u_skip (fun _ h => h) hF
    u_op (fun _ h => h) hF
    u_op (fun _ h => h) hF
    u_skip (fun _ h => h) hF
    u_skip (fun _ h => h) hF
    u_skip (fun _ h => h) hF
    u_skip (fun _ h => h) hF
    u_op (fun _ h => h) hF
    u_c stepG_region_end (fun _ h => h) hF
    u_cond false (fun _ h => h) hF
    u_c stepG_skip (fun _ h => h) hF
    u_c stepG_seq (fun _ h => h) hF
    u_c stepG_seq (fun _ h => h) hF
    u_reg (fun _ h => h) hF
    u_op (fun _ h => h) hF
    u_op (fun _ h => h) hF
    u_op (fun _ h => h) hF
    u_skip (fun _ h => h) hF
    u_skip (fun _ h => h) hF
    u_op (fun _ h => h) hF
    u_c stepG_region_end (fun _ h => h) hF
    u_cond true (fun _ h => h) hF
    u_c stepG_ret' (fun _ h => h) hF
    refine Goes.stop (fun _ hF => ?_)
    refine T.le (m := (mT + 2) + 1) (by omega) (Act.wgp κ .p2 sp rfl rfl (fun w5 r _ => ⟨_, _, _, _, stepG_unwind_entry (v := .tuple #[]) (evs := #[mkE .enable]) rfl H.f_enable (x_enable_n L) (x_enable_b L) (x_enable_x L) (x_enable_f L) (by simp [Extern.Race.none_]) (by simp [mkE]) (by simp [mkE]), .en2 w5, ?_⟩))
    replace hF := LiveC.par (ps' := .p3) (k' := sp) r.live rfl
    replace hT := hT.hold (w1 := w5) ⟨r.size, r.cell, r.grow⟩
    clear r
    refine T.le (m := mT + 1) (by omega) (T.of_slide (c := { c with par := some (κ, .p3, sp) }) (Stop := fun g' _ => T P Post mT b { c with par := some (κ, .p3, sp) } g' w5) ⟨hc.ou, hc.oz⟩ dc0_eq hF (fun _ _ h => h) (w := w5) ?_)
    u_leave0 H.f_add (fun _ h => h) hF
    exact Goes.stop (fun _ _ => hT)
  · obtain ⟨V, hV⟩ : ∃ V : Int, V = (v : Int) + 1 := ⟨_, rfl⟩
    obtain ⟨S, hS⟩ : ∃ S : Int, S = V * 4294967296 := ⟨_, rfl⟩
    have eS : IntKind.u64.wrap (((v * K32 : Nat) : Int) + 4294967296) = S := by rw [IntKind.wrap_u64, hS, hV]; simp only [K32]; omega
    have eN : (((v + 1) * K32 : Nat) : Int) = S := by rw [hS, hV]; simp only [K32]; omega
    have a1 : S / 4294967296 = V := by rw [hS]; omega
    have b1 : bits .and .u64 S 2147483648 = 0 := by rw [hS, hV]; have := Go.ConcN.st_flag (v + 1) 0 (by omega) (by omega); simpa using this
    have b2 : bits .and .u64 S 2147483647 = 0 := by rw [hS, hV]; have := Go.ConcN.st_waiters (v + 1) 0 (by omega) (by omega); simpa using this
    have c1 : IntKind.i32.wrap V = V := by rw [IntKind.wrap_i32]; omega
    have hV1 : 1 < V := by omega
    have hV2 : V < 2147483648 := by omega
    have q1 : (V == 1) = false := by simp; omega
    have q2 : decide (V = 1) = false := decide_eq_false (by omega)
    have q3 : decide (V < 0) = false := decide_eq_false (by omega)
    have q4 : decide (0 < V) = true := decide_eq_true (by omega)
    have q5 : (V == 0) = false := by simp; omega
    have q6 : decide (V = 0) = false := decide_eq_false (by omega)
    refine ⟨_, _, _, _, (stepG_add_atomic rfl rfl (by k_ne) rfl H.f_addU64 (x_addU64_n L) (x_addU64_b L) (x_addU64_x L) .u64 (x_addU64_f L) rfl rfl hst hfz).trans (by rw [eS, ← eN]; rfl), .add w2 v hst, ?_⟩
    replace hT := hT.hold (w1 := w2.setCell κ.st (.int .u64 (((v + 1) * K32 : Nat) : Int))) ⟨by rw [World.size_setCell]; exact Nat.le_refl _, fun a ha => ⟨World.cell?_setCell_other _ _ _ _ (Ne.symm (hd a ha).1), World.frozen?_setCell _ _ _ _⟩, Grow.set _ _ _⟩
    generalize w2.setCell κ.st (.int .u64 (((v + 1) * K32 : Nat) : Int)) = w3 at hT ⊢
    simp only [eN]
    clear hst hsm hfz hv hS hV eS eN hvp
    clear v
    replace hF := LiveC.par (ps' := .p2) (k' := sp) hF rfl
    walk_nrm
    refine T.le (m := (mT + 3) + 120) (by omega) (T.of_slide (c := { c with par := some (κ, .p2, sp) }) (Stop := fun g' _ => T P Post (mT + 3) b { c with par := some (κ, .p2, sp) } g' w3) ⟨hc.ou, hc.oz⟩ dc0_eq hF (fun _ _ h => h) (w := w3) ?_)
    u_op (fun _ h => h) hF
    u_c stepG_region_end (fun _ h => h) hF
    u_c stepG_ret' (fun _ h => h) hF
    u_leave1 H.f_uAdd (fun _ h => h) hF
    u_op (fun _ h => h) hF
    u_c stepG_region_end (fun _ h => h) hF
    u_c stepG_seq (fun _ h => h) hF
    u_c stepG_seq (fun _ h => h) hF
    u_reg (fun _ h => h) hF
    u_op (fun _ h => h) hF
    u_op (fun _ h => h) hF
    u_op (fun _ h => h) hF
    u_op (fun _ h => h) hF
    u_skip (fun _ h => h) hF
    u_skip (fun _ h => h) hF
    u_op (fun _ h => h) hF
    u_c stepG_region_end (fun _ h => h) hF
    u_cnd false (fun _ h => h) hF
    u_c stepG_skip (fun _ h => h) hF
    u_c stepG_seq (fun _ h => h) hF
    u_reg (fun _ h => h) hF
    u_op (fun _ h => h) hF
    u_op (fun _ h => h) hF
    u_op (fun _ h => h) hF
    u_op (fun _ h => h) hF
    u_c stepG_region_end (fun _ h => h) hF
    u_c stepG_seq (fun _ h => h) hF
    u_reg (fun _ h => h) hF
    u_op (fun _ h => h) hF
    u_op (fun _ h => h) hF
    u_op (fun _ h => h) hF
    u_op (fun _ h => h) hF
    u_c stepG_region_end (fun _ h => h) hF
    u_c stepG_seq (fun _ h => h) hF
    u_c stepG_seq (fun _ h => h) hF
    u_reg (fun _ h => h) hF
    u_op (fun _ h => h) hF
    u_op (fun _ h => h) hF
    u_op (fun _ h => h) hF
    u_op (fun _ h => h) hF
    u_op (fun _ h => h) hF
    u_op (fun _ h => h) hF
    u_op (fun _ h => h) hF
    u_op (fun _ h => h) hF
    u_op (fun _ h => h) hF
    u_op (fun _ h => h) hF
    u_c stepG_region_end (fun _ h => h) hF
    u_cnd false (fun _ h => h) hF
    u_c stepG_skip (fun _ h => h) hF
    u_c stepG_seq (fun _ h => h) hF
    u_c stepG_seq (fun _ h => h) hF
    u_reg (fun _ h => h) hF
    u_op (fun _ h => h) hF
    u_op (fun _ h => h) hF
    u_c stepG_region_end (fun _ h => h) hF
    u_cnd false (fun _ h => h) hF
    u_c stepG_skip (fun _ h => h) hF
    u_c stepG_seq (fun _ h => h) hF
    u_c stepG_seq (fun _ h => h) hF
    u_reg (fun _ h => h) hF
    u_op (fun _ h => h) hF
    u_op (fun _ h => h) hF
    u_op (fun _ h => h) hF
    u_skip (fun _ h => h) hF
    u_skip (fun _ h => h) hF
    u_op (fun _ h => h) hF
    u_op (fun _ h => h) hF
    u_skip (fun _ h => h) hF
    u_skip (fun _ h => h) hF
    u_skip (fun _ h => h) hF
    u_skip (fun _ h => h) hF
    u_op (fun _ h => h) hF
    u_c stepG_region_end (fun _ h => h) hF
    u_cnd false (fun _ h => h) hF
    u_c stepG_skip (fun _ h => h) hF
    u_c stepG_seq (fun _ h => h) hF
    u_c stepG_seq (fun _ h => h) hF
    u_reg (fun _ h => h) hF
    u_op (fun _ h => h) hF
    u_op (fun _ h => h) hF
    u_op (fun _ h => h) hF
    u_skip (fun _ h => h) hF
    u_skip (fun _ h => h) hF
    u_op (fun _ h => h) hF
    u_c stepG_region_end (fun _ h => h) hF
    u_cnd true (fun _ h => h) hF
    u_c stepG_ret' (fun _ h => h) hF
    refine Goes.stop (fun _ hF => ?_)
    refine T.le (m := (mT + 2) + 1) (by omega) (Act.wgp κ .p2 sp rfl rfl (fun w5 r _ => ⟨_, _, _, _, stepG_unwind_entry (v := .tuple #[]) (evs := #[mkE .enable]) rfl H.f_enable (x_enable_n L) (x_enable_b L) (x_enable_x L) (x_enable_f L) (by simp [Extern.Race.none_]) (by simp [mkE]) (by simp [mkE]), .en2 w5, ?_⟩))
    replace hF := LiveC.par (ps' := .p3) (k' := sp) r.live rfl
    replace hT := hT.hold (w1 := w5) ⟨r.size, r.cell, r.grow⟩
    clear r
    refine T.le (m := mT + 1) (by omega) (T.of_slide (c := { c with par := some (κ, .p3, sp) }) (Stop := fun g' _ => T P Post mT b { c with par := some (κ, .p3, sp) } g' w5) ⟨hc.ou, hc.oz⟩ dc0_eq hF (fun _ _ h => h) (w := w5) ?_)
    u_leave0 H.f_add (fun _ h => h) hF
    exact Goes.stop (fun _ _ => hT)
end Go.Farm
