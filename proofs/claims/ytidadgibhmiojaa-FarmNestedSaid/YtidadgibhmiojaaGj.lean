/- A worker counts itself off; the last one wakes the starter. -/
import Derived.Test.YtidadgibhmiojaaGi
namespace Go.Farm
open Go.Conc Go.RowKit
open Go.ConcN (sumTo upd sumTo_upd upd_ne upd_same sumTo_congr le_sumTo)
variable {P : Program} {Post : Value → World → Prop} {B : Nat} {w0 : World} {gs : Array Goroutine} {w w' : World} {t : Trace} {Γ Γ' : Nat → GS} {own own' : Addr → Owner} {cv cv' : Nat → Nat} {la la' : Nat → Option Nat} {rels rels' : Nat → Nat → Prop}
theorem nocount_end (t : Trace) : ∀ x, t.size ≤ x → ¬ t.counts x := by
  rintro x hx ⟨b, hb, -⟩
  obtain ⟨op, hop, -⟩ := touch_of hb
  have := (Array.getElem?_eq_some_iff.1 hop).1
  omega
theorem nocount_list {s i : Nat} : ∀ (u : List MemOp) {t : Trace}, (∀ op ∈ u, op.g = i ∧ op.act ≠ .mark .enable ∧ ∀ b, op.act.touch? = some b → b.kind = .atomic) → 1 ≤ Deaf t i → (∀ x, s ≤ x → ¬ t.counts x) →
    (∀ x, s ≤ x → ¬ (t ++ u.toArray).counts x) ∧ 1 ≤ Deaf (t ++ u.toArray) i
  | [], t, _, hd, h => by simpa using ⟨h, hd⟩
  | y :: u, t, hu, hd, h => by
    have e : t ++ (y :: u).toArray = (t ++ #[y]) ++ u.toArray := by simp
    obtain ⟨h1, h2, h3⟩ := hu y (by simp)
    rw [e]
    refine nocount_list u (fun op hop => hu op (by simp [hop])) ?_ (nocount_push h (.inr ⟨by rw [h1]; exact hd, h3⟩))
    rw [Deaf_push]
    unfold deafStep
    split
    · split <;> omega
    · rename_i e'; exact absurd e' h2
    · exact hd
/-- events of one that is deaf, of atomic acts alone, count for nothing -/
theorem nocount_deaf {i : Nat} {fn : FuncId} {pos : String} {es : Array Event} (hd : 1 ≤ Deaf t i) (hes : ∀ e ∈ es, MemAct.ofEvent e ≠ .mark .enable ∧ ∀ b, (MemAct.ofEvent e).touch? = some b → b.kind = .atomic) :
    (∀ x, t.size ≤ x → ¬ (t ++ MemOp.ofEvents i fn pos es).counts x) ∧ 1 ≤ Deaf (t ++ MemOp.ofEvents i fn pos es) i := by
  have e : MemOp.ofEvents i fn pos es = (es.toList.map fun e => ({ g := i, fn, pos, act := .ofEvent e } : MemOp)).toArray := by rw [ofEvents_eq]; obtain ⟨l⟩ := es; simp
  rw [e]
  refine nocount_list _ (fun op hop => ?_) hd (nocount_end t)
  obtain ⟨e, he, rfl⟩ := List.mem_map.1 hop
  exact ⟨rfl, (hes e (by simpa using he)).1, (hes e (by simpa using he)).2⟩
theorem nocount_mute {i : Nat} {fn : FuncId} {pos : String} {es : Array Event} (hes : ∀ e ∈ es, (MemAct.ofEvent e).touch? = none) : ∀ x, t.size ≤ x → ¬ (t ++ MemOp.ofEvents i fn pos es).counts x := fun x hx hc => by
  obtain ⟨h1, -⟩ := counts_mute (t := t) (fun op hop => by obtain ⟨e, he, rfl⟩ := Go.Conc.mem_ofEvents hop; exact hes e he) hc
  omega
/-- a worker that has released turns the group -/
theorem step_worker (hI : Inv P Post B w0 gs w t Γ own cv la rels) {i p : Nat} {g g' : Goroutine} {es : Array Event} {κ : Crew} {ms : MS} {lb n : Nat} {J : Nat → Prop} {ms' : Option MS} {l' : Option Nat} {ps : PS} {k : Nat}
    (hi : gs[i]? = some g) (hq : (Γ i).quit = false) (hc : (Γ i).c = Cx.bare κ ms lb J) (hms : ms ≠ .m0) (hms' : ms' ≠ some .m0) (hp : (Γ i).boss = p) (hpp : (Γ p).c.par = some (κ, ps, k))
    (hw : w' = w ∨ ∃ x : Value, w' = w.setCell κ.st x ∨ w' = w.setCell κ.sm x)
    (hval : ∃ st sm : Nat, w'.cell? κ.st = some (.int .u64 st) ∧ w'.cell? κ.sm = some (.int .u32 sm) ∧ GVal ps (counted gs.size (upd Γ i ⟨n, Cx.bare κ (ms'.getD .m0) lb J, ms'.isNone, p⟩) p + ps.pend) (lastOf (upd Γ i ⟨n, Cx.bare κ (ms'.getD .m0) lb J, ms'.isNone, p⟩) l' p) st sm)
    (hcount : isCnt ms' ≤ isCnt (some ms)) (hl : ∀ x, x < gs.size → (isLast ((upd Γ i ⟨n, Cx.bare κ (ms'.getD .m0) lb J, ms'.isNone, p⟩ x).stage p) = true ↔ l' = some x)) (hlN : ∀ x, l' = some x → x < gs.size)
    (hes : ∀ e ∈ es, GE κ e ∧ e ≠ mkE (.read κ.sm) ∧ e ≠ mkE (.write κ.sm)) (hd : ∀ m, ms' = some m → deafBehind ms.deaf es = m.deaf)
    (hcn : ∀ x, t.size ≤ x → ¬ (t ++ MemOp.ofEvents i g.frame.fn g.frame.place es).counts x)
    (hsm : w'.cell? κ.sm = w.cell? κ.sm ∨ (mayWake P g && g'.status != .blocked && g'.status != .waiting) = true)
    (hthr : Thr P Post (t ++ MemOp.ofEvents i g.frame.fn g.frame.place es) w' i g' ⟨n, Cx.bare κ (ms'.getD .m0) lb J, ms'.isNone, p⟩) :
    Inv P Post B w0 ((gs.map (woken P g g' w')).setIfInBounds i g') w' (t ++ MemOp.ofEvents i g.frame.fn g.frame.place es) (upd Γ i ⟨n, Cx.bare κ (ms'.getD .m0) lb J, ms'.isNone, p⟩) own cv (upd la p l') rels := by
  have hlt : i < gs.size := (Array.getElem?_eq_some_iff.1 hi).1
  have hm : (Γ i).c.mem = some (κ, ms, lb, J) := by rw [hc]; rfl
  have hpr : (Γ i).c.par = none := by rw [hc]; rfl
  have hi0 : 0 < i := by
    rcases Nat.eq_zero_or_pos i with h | h
    · subst h; rw [hI.main.2] at hm; cases hm
    · exact h
  obtain ⟨κ', ms2, lb', J', ps2, k2', k1, k2, k3, k4, k5, k6⟩ := hI.mem i hlt hi0 hq
  rw [hm] at k1
  injection k1 with e; injection e with e1 e; injection e with e2 e; injection e with e3 e4
  subst e1; subst e2; subst e3; subst e4
  rw [hp] at k2 k3 k4 k5
  have hC := hI.crew p κ ps k (by omega) k3 hpp
  have hne : i ≠ p := by omega
  have hbst := hI.ti.big κ.st (by rw [hC.st]; simp)
  have hbsm := hI.ti.big κ.sm (by rw [hC.sm]; simp)
  have hB1 := hI.base κ.st (by rw [hC.st]; simp)
  have hB2 := hI.base κ.sm (by rw [hC.sm]; simp)
  have hcell : ∀ a, a ≠ κ.st → a ≠ κ.sm → w'.cell? a = w.cell? a := fun a h1 h2 => by
    rcases hw with rfl | ⟨x, rfl | rfl⟩
    · rfl
    · exact World.cell?_setCell_other _ _ _ _ (Ne.symm h1)
    · exact World.cell?_setCell_other _ _ _ _ (Ne.symm h2)
  have hfz : ∀ a, w'.frozen? a = w.frozen? a := fun a => by
    rcases hw with rfl | ⟨x, rfl | rfl⟩
    · rfl
    · exact World.frozen?_setCell _ _ _ _
    · exact World.frozen?_setCell _ _ _ _
  have hsz : w'.heap.size = w.heap.size := by
    rcases hw with rfl | ⟨x, rfl | rfl⟩
    · rfl
    · exact World.size_setCell _ _ _
    · exact World.size_setCell _ _ _
  have hnec : ∀ a, own a ≠ .grp p → a ≠ κ.st ∧ a ≠ κ.sm := fun a h => ⟨fun e => h (e ▸ hC.st), fun e => h (e ▸ hC.sm)⟩
  have s0 : (Γ i).stage p = some ms := stage_of hq hp hm
  have s1 : (⟨n, Cx.bare κ (ms'.getD .m0) lb J, ms'.isNone, p⟩ : GS).stage p = ms' := by
    cases ms' with
    | none => exact stage_quit rfl
    | some m => exact stage_of (s := ⟨n, Cx.bare κ m lb J, false, p⟩) rfl rfl rfl
  have a0 : (Γ i).act p = 0 := by
    unfold GS.act
    rw [if_pos ⟨hq, hp⟩, hm]
    cases ms <;> first | rfl | exact absurd rfl hms
  have a1 : (⟨n, Cx.bare κ (ms'.getD .m0) lb J, ms'.isNone, p⟩ : GS).act p = 0 := by
    cases ms' with
    | none => rfl
    | some m => cases m with
      | m0 => exact absurd rfl hms'
      | _ => unfold GS.act Cx.bare; simp
  have hstx : ∀ x, x ≠ i → (upd Γ i ⟨n, Cx.bare κ (ms'.getD .m0) lb J, ms'.isNone, p⟩ x).stage p = (Γ x).stage p := fun x hx => by rw [upd_ne Γ _ hx]
  have ea : active gs.size (upd Γ i ⟨n, Cx.bare κ (ms'.getD .m0) lb J, ms'.isNone, p⟩) p = active gs.size Γ p := by
    have := sumTo_upd Γ (⟨n, Cx.bare κ (ms'.getD .m0) lb J, ms'.isNone, p⟩ : GS) (fun s => s.act p) hlt
    rw [a0, a1] at this
    exact this
  have ec : counted gs.size (upd Γ i ⟨n, Cx.bare κ (ms'.getD .m0) lb J, ms'.isNone, p⟩) p ≤ counted gs.size Γ p := by
    have := sumTo_upd Γ (⟨n, Cx.bare κ (ms'.getD .m0) lb J, ms'.isNone, p⟩ : GS) (fun s => isCnt (s.stage p)) hlt
    rw [s0, s1] at this
    unfold counted
    omega
  have hrel : ∃ r, rels p r := hC.relm i hlt ms s0 hms
  refine step_crew hI (p := p) (κ := κ) (ps := ps) (ps' := ps) (k := k) (k' := k) (S := fun a => a = κ.st ∨ a = κ.sm) (cv' := cv) (la' := upd la p l') (own' := own) hi hq (by omega) k3 hpp
    ⟨by rw [hsz]; exact Nat.le_refl _, fun a _ _ _ hS => hcell a (fun e => hS (.inl e)) (fun e => hS (.inr e)), fun a _ => hfz a, fun a u hu => by
      rcases hw with rfl | ⟨x, rfl | rfl⟩
      · exact ⟨u, hu⟩
      · exact (Grow.set w _ _).ex a u hu
      · exact (Grow.set w _ _).ex a u hu⟩ hsz (fun a ha => .inl (by rcases ha with rfl | rfl; exact hC.st; exact hC.sm)) hthr (fun a => .inl rfl) hp.symm (.inr ⟨hi0, hp⟩)
    (fun _ => ⟨hpr, fun _ => rfl, rfl, rfl⟩) (fun h => absurd h hne) (fun _ hq' => ?_) (fun _ => Nat.le_refl _) (fun q hqp => ⟨rfl, upd_ne _ _ hqp⟩) ?_ (fun hq' => ?_) (fun _ a h => h.elim) (fun _ a h => h.elim) (fun _ a h => h.elim) ?_ (fun e he b hb => ?_) (fun e he => ?_) (fun e he a => ?_) (.inr hcn) (fun _ => hsm) ?_
  · cases ms' with
    | none => cases hq'
    | some m => exact ⟨κ, m, lb, J, ms, lb, J, rfl, hm, by rw [hp]; exact k5, fun _ => rfl⟩
  · rw [upd_same]
    refine ⟨hC.st, hC.sm, hC.cn, hval, by rw [hfz, hfz, hfz]; exact hC.fz, by rw [hcell _ (hnec _ (by rw [hC.cn]; simp)).1 (hnec _ (by rw [hC.cn]; simp)).2]; exact hC.cc, by rw [ea]; exact hC.cb, hC.kb, Nat.le_trans ec hC.vb, hl, hlN, hC.pool, hC.inj,
      fun j hj hcj => ?_, fun _ => .inr hrel, hC.full, hC.stable, fun r hr => (hC.rels r hr).app _, hC.small, fun _ _ _ _ _ => hrel⟩
    rcases hC.task j hj hcj with ⟨x, lbx, Jx, h1, h2, h3, h4, h5⟩ | ⟨X, h1, h2⟩
    · have hx : x ≠ i := fun e => by
        subst e
        rw [hm] at h4
        injection h4 with e; injection e with _ e; injection e with e _
        exact hms e
      exact .inl ⟨x, lbx, Jx, h1, by rw [upd_ne Γ _ hx]; exact h2, by rw [upd_ne Γ _ hx]; exact h3, by rw [upd_ne Γ _ hx]; exact h4, h5⟩
    · refine .inr ⟨X, h1, hC.stable j X w w' (fun a ha => ?_) h2⟩
      obtain ⟨r, hr⟩ := h1 a ha
      exact ⟨hcell a (hnec a (by rw [hr]; simp)).1 (hnec a (by rw [hr]; simp)).2, hfz a⟩
  · cases ms' with
    | none => cases hq'
    | some m =>
      rw [Deaf_own, hI.deaf i hlt hq]
      have e1 : (Γ i).c.deaf = ms.deaf := by rw [hc]; show 0 + ms.deaf = _; omega
      have e2 : (Cx.bare κ m lb J).deaf = m.deaf := by show 0 + m.deaf = _; omega
      rw [e1, hd m rfl]
      exact e2.symm
  · unfold LF
    rw [upd_same]
    refine ⟨fun h => ?_, fun h => ?_⟩
    · cases ms' with
      | none => cases h.2.1
      | some m =>
        have := h.2.2 κ m lb J rfl
        exact absurd (by rw [this]) hms'
    · exact absurd (h.2.2 κ ms lb J hm) hms
  · obtain ⟨h1, h2, h3⟩ := hes e he
    rcases h1 with rfl | rfl | rfl | rfl | rfl | rfl | rfl | rfl <;> simp only [mkE, rdE, wrE, MemAct.ofEvent, MemAct.touch?, Option.some.injEq, reduceCtorEq, if_true] at hb <;> subst hb
    · exact ⟨κ.st, rfl, .inl ⟨.inl hC.st, rfl⟩⟩
    · exact ⟨κ.st, rfl, .inl ⟨.inl hC.st, rfl⟩⟩
    · exact ⟨κ.sm, rfl, .inl ⟨.inl hC.sm, rfl⟩⟩
    · exact ⟨κ.sm, rfl, .inl ⟨.inl hC.sm, rfl⟩⟩
    · exact absurd rfl h2
    · exact absurd rfl h3
  · rcases (hes e he).1 with rfl | rfl | rfl | rfl | rfl | rfl | rfl | rfl <;> first | exact hbst | exact hbsm | trivial
  · rcases (hes e he).1 with rfl | rfl | rfl | rfl | rfl | rfl | rfl | rfl <;> simp [mkE, rdE, wrE, MemAct.ofEvent]
  · rcases hw with rfl | ⟨x, rfl | rfl⟩
    · exact hI.old
    · exact hI.old.setCell hB1 x
    · exact hI.old.setCell hB2 x
end Go.Farm
