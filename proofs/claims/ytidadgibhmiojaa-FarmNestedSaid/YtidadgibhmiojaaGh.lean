/- The starter's steps on its group. -/
import Derived.Test.YtidadgibhmiojaaGg
namespace Go.Farm
open Go.Conc Go.RowKit
open Go.ConcN (sumTo upd sumTo_upd upd_ne upd_same sumTo_congr le_sumTo)
variable {P : Program} {Post : Value → World → Prop} {B : Nat} {w0 : World} {gs : Array Goroutine} {w w' : World} {t : Trace} {Γ Γ' : Nat → GS} {own own' : Addr → Owner} {cv cv' : Nat → Nat} {la la' : Nat → Option Nat} {rels rels' : Nat → Nat → Prop}
/-- the group's cells turn, and what the starter is at -/
theorem CrewOk.turn {N : Nat} {u : Trace} {c1 : Nat} {l1 : Option Nat} {rel : Nat → Prop} {p : Nat} {κ : Crew} {ps ps' : PS} {k : Nat}
    (h : CrewOk N Γ own t c1 l1 rel w p κ ps k)
    (hval : ∃ st sm : Nat, w'.cell? κ.st = some (.int .u64 st) ∧ w'.cell? κ.sm = some (.int .u32 sm) ∧ GVal ps' (counted N Γ p + ps'.pend) (lastOf Γ l1 p) st sm)
    (hcn : w'.cell? κ.cn = w.cell? κ.cn) (hfz : ∀ a, a = κ.st ∨ a = κ.sm ∨ a = κ.cn → w'.frozen? a = w.frozen? a)
    (hr : ∀ a r, own a = .ret p r → w'.cell? a = w.cell? a ∧ w'.frozen? a = w.frozen? a)
    (hstage : ∀ i, (Γ' i).stage p = (Γ i).stage p) (hact : ∀ i, (Γ' i).act p = (Γ i).act p)
    (htask : ∀ i, i < N → (Γ i).quit = false → (Γ i).boss = p → ∀ lb J, (Γ i).c.mem = some (κ, .m0, lb, J) → (Γ' i).quit = false ∧ (Γ' i).boss = p ∧ (Γ' i).c.mem = some (κ, .m0, lb, J)) :
    CrewOk N Γ' own (t ++ u) c1 l1 rel w' p κ ps' k := by
  have ec : counted N Γ' p = counted N Γ p := sumTo_congr fun i hi => by rw [hstage i]
  have ea : active N Γ' p = active N Γ p := sumTo_congr fun i hi => hact i
  have el : lastOf Γ' l1 p = lastOf Γ l1 p := by
    unfold lastOf
    cases l1 with
    | none => rfl
    | some i => exact hstage i
  refine ⟨h.st, h.sm, h.cn, by rw [ec, el]; exact hval, ?_, by rw [hcn]; exact h.cc, by rw [ea]; exact h.cb, h.kb, by rw [ec]; exact h.vb, fun i hi => by rw [hstage i]; exact h.lk i hi, h.lN, h.pool, h.inj,
    fun j hj hc => ?_, fun hk => ?_, h.full, h.stable, fun r hr => (h.rels r hr).app u, h.small, fun i hi ms => by rw [hstage i]; exact h.relm i hi ms⟩
  · rw [hfz _ (.inl rfl), hfz _ (.inr (.inl rfl)), hfz _ (.inr (.inr rfl))]; exact h.fz
  · rcases h.task j hj hc with ⟨i, lb, J, h1, h2, h3, h4, h5⟩ | ⟨X, h1, h2⟩
    · obtain ⟨k1, k2, k3⟩ := htask i h1 h2 h3 lb J h4
      exact .inl ⟨i, lb, J, h1, k1, k2, k3, h5⟩
    · refine .inr ⟨X, h1, h.stable j X w w' (fun a ha => ?_) h2⟩
      obtain ⟨r, hr'⟩ := h1 a ha
      exact hr a r hr'
  · rcases h.some1 hk with ⟨i, hi, hs⟩ | hr
    · exact .inl ⟨i, hi, by rw [hstage i]; exact hs⟩
    · exact .inr hr
/-- one that has a crew has not released -/
theorem live_of_par (hI : Inv P Post B w0 gs w t Γ own cv la rels) {i : Nat} (hi : i < gs.size) (hq : (Γ i).quit = false) {x : Crew × PS × Nat} (hp : (Γ i).c.par = some x) : LF gs.size Γ i := by
  apply Classical.byContradiction
  intro h
  obtain ⟨κ, ms, lb, J, h1, -⟩ := bare_of hI hi hq h
  rw [h1] at hp
  cases hp
theorem deaf_of {c : Cx} {κ : Crew} {ps : PS} {k : Nat} (hm : ∀ κ ms lb J, c.mem = some (κ, ms, lb, J) → ms = .m0) (hp : c.par = some (κ, ps, k)) : c.deaf = ps.deaf := by
  unfold Cx.deaf
  rw [hp]
  cases h : c.mem with
  | none => rfl
  | some x =>
    obtain ⟨κ', ms, lb, J⟩ := x
    have := hm κ' ms lb J h
    subst this
    rfl
/-- what a step on a group lists -/
def GE (κ : Crew) (e : Event) : Prop := e = mkE .disable ∨ e = mkE .enable ∨ e = rdE κ.st ∨ e = wrE κ.st ∨ e = rdE κ.sm ∨ e = wrE κ.sm ∨ e = mkE (.read κ.sm) ∨ e = mkE (.write κ.sm)
/-- the starter turns its group -/
theorem step_own (hI : Inv P Post B w0 gs w t Γ own cv la rels) {i : Nat} {g g' : Goroutine} {es : Array Event} {κ : Crew} {ps ps' : PS} {k n : Nat} 
    (hi : gs[i]? = some g) (hq : (Γ i).quit = false) (hpar : (Γ i).c.par = some (κ, ps, k))
    (hw : w' = w ∨ ∃ x : Value, w' = w.setCell κ.st x ∨ w' = w.setCell κ.sm x)
    (hval : ∃ st sm : Nat, w'.cell? κ.st = some (.int .u64 st) ∧ w'.cell? κ.sm = some (.int .u32 sm) ∧ GVal ps' (counted gs.size Γ i + ps'.pend) (lastOf Γ (la i) i) st sm)
    (hes : ∀ e ∈ es, GE κ e) (hd : deafBehind ps.deaf es = ps'.deaf)
    (hthr : Thr P Post (t ++ MemOp.ofEvents i g.frame.fn g.frame.place es) w' i g' ⟨n, { (Γ i).c with par := some (κ, ps', k) }, false, (Γ i).boss⟩) :
    Inv P Post B w0 ((gs.map (woken P g g' w')).setIfInBounds i g') w' (t ++ MemOp.ofEvents i g.frame.fn g.frame.place es) (upd Γ i ⟨n, { (Γ i).c with par := some (κ, ps', k) }, false, (Γ i).boss⟩) own cv la rels := by
  have hlt : i < gs.size := (Array.getElem?_eq_some_iff.1 hi).1
  have hC := hI.crew i κ ps k hlt hq hpar
  have hL := live_of_par hI hlt hq hpar
  have hbst := hI.ti.big κ.st (by rw [hC.st]; simp)
  have hbsm := hI.ti.big κ.sm (by rw [hC.sm]; simp)
  have hB1 := hI.base κ.st (by rw [hC.st]; simp)
  have hB2 := hI.base κ.sm (by rw [hC.sm]; simp)
  have hcell : ∀ a, a ≠ κ.st → a ≠ κ.sm → w'.cell? a = w.cell? a := fun a h1 h2 => by
    rcases hw with rfl | ⟨x, rfl | rfl⟩
    · rfl
    · exact World.cell?_setCell_other _ _ _ _ (Ne.symm h1)
    · exact World.cell?_setCell_other _ _ _ _ (Ne.symm h2)
  have hfz : ∀ a, w'.frozen? a = w.frozen? a := fun a => by
    rcases hw with rfl | ⟨x, rfl | rfl⟩
    · rfl
    · exact World.frozen?_setCell _ _ _ _
    · exact World.frozen?_setCell _ _ _ _
  have hsz : w'.heap.size = w.heap.size := by
    rcases hw with rfl | ⟨x, rfl | rfl⟩
    · rfl
    · exact World.size_setCell _ _ _
    · exact World.size_setCell _ _ _
  have hne : ∀ a, own a ≠ .grp i → a ≠ κ.st ∧ a ≠ κ.sm := fun a h => ⟨fun e => h (e ▸ hC.st), fun e => h (e ▸ hC.sm)⟩
  have hst : ∀ j, (upd Γ i ⟨n, { (Γ i).c with par := some (κ, ps', k) }, false, (Γ i).boss⟩ j).stage i = (Γ j).stage i ∧ (upd Γ i ⟨n, { (Γ i).c with par := some (κ, ps', k) }, false, (Γ i).boss⟩ j).act i = (Γ j).act i := fun j => stage_upd hq.symm rfl rfl
  refine step_crew hI (p := i) (κ := κ) (ps := ps) (ps' := ps') (k := k) (k' := k) (S := fun a => a = κ.st ∨ a = κ.sm) (cv' := cv) (la' := la) (own' := own) hi hq hlt hq hpar
    ⟨by rw [hsz]; exact Nat.le_refl _, fun a _ _ _ hS => hcell a (fun e => hS (.inl e)) (fun e => hS (.inr e)), fun a _ => hfz a, fun a u hu => by
      rcases hw with rfl | ⟨x, rfl | rfl⟩
      · exact ⟨u, hu⟩
      · exact (Grow.set w _ _).ex a u hu
      · exact (Grow.set w _ _).ex a u hu⟩ hsz (fun a ha => .inl (by rcases ha with rfl | rfl; exact hC.st; exact hC.sm)) hthr (fun a => .inl rfl) rfl (.inl ⟨rfl, rfl⟩)
    (fun h => absurd rfl h) (fun _ => ⟨rfl, rfl⟩) (fun h0 _ => ?_) (fun _ => Nat.le_refl _) (fun _ _ => ⟨rfl, rfl⟩) ?_ (fun _ => ?_) (fun _ a h => h) (fun _ a h => .inl h) (fun _ a h => h) ?_ (fun e he b hb => ?_) (fun e he => ?_) (fun e he a => ?_) (.inl hL) (fun h => absurd rfl h) ?_
  · obtain ⟨κ', ms, lb, J, ps1, kk, k1, -, -, -, k5, k6⟩ := hI.mem i hlt h0 hq
    refine ⟨κ', ms, lb, J, ms, lb, J, k1, k1, k5, fun hms => ?_⟩
    have := hL.2.2 κ' ms lb J k1
    exact absurd this hms
  · refine hC.turn hval (hcell _ (hne _ (by rw [hC.cn]; simp)).1 (hne _ (by rw [hC.cn]; simp)).2) (fun a _ => hfz a) (fun a r ha => ⟨hcell a (hne a (by rw [ha]; simp)).1 (hne a (by rw [ha]; simp)).2, hfz a⟩) (fun j => (hst j).1) (fun j => (hst j).2) (fun j _ h1 h2 lb J h3 => ?_)
    by_cases hj : j = i
    · subst hj; rw [upd_same]; exact ⟨rfl, h2, h3⟩
    · rw [upd_ne Γ _ hj]; exact ⟨h1, h2, h3⟩
  · rw [Deaf_own, hI.deaf i hlt hq, deaf_of hL.2.2 hpar, hd]
    exact (deaf_of (c := { (Γ i).c with par := some (κ, ps', k) }) hL.2.2 rfl).symm
  · unfold LF
    rw [upd_same]
    exact ⟨fun h => ⟨h.1, hq, h.2.2⟩, fun h => ⟨h.1, rfl, h.2.2⟩⟩
  · rcases hes e he with rfl | rfl | rfl | rfl | rfl | rfl | rfl | rfl <;> simp only [mkE, rdE, wrE, MemAct.ofEvent, MemAct.touch?, Option.some.injEq, reduceCtorEq, if_true] at hb <;> subst hb
    · exact ⟨κ.st, rfl, .inl ⟨.inl hC.st, rfl⟩⟩
    · exact ⟨κ.st, rfl, .inl ⟨.inl hC.st, rfl⟩⟩
    · exact ⟨κ.sm, rfl, .inl ⟨.inl hC.sm, rfl⟩⟩
    · exact ⟨κ.sm, rfl, .inl ⟨.inl hC.sm, rfl⟩⟩
    · exact ⟨κ.sm, rfl, .inr ⟨hC.sm, rfl⟩⟩
    · exact ⟨κ.sm, rfl, .inr ⟨hC.sm, rfl⟩⟩
  · rcases hes e he with rfl | rfl | rfl | rfl | rfl | rfl | rfl | rfl <;> first | exact hbst | exact hbsm | trivial
  · rcases hes e he with rfl | rfl | rfl | rfl | rfl | rfl | rfl | rfl <;> simp [mkE, rdE, wrE, MemAct.ofEvent]
  · rcases hw with rfl | ⟨x, rfl | rfl⟩
    · exact hI.old
    · exact hI.old.setCell hB1 x
    · exact hI.old.setCell hB2 x
/-- what the starter meets -/
theorem CrewOk.pok {N : Nat} {c1 : Nat} {l1 : Option Nat} {rel : Nat → Prop} {p : Nat} {κ : Crew} {ps : PS} {k : Nat} (h : CrewOk N Γ own t c1 l1 rel w p κ ps k) : POk κ ps w := by
  obtain ⟨st, sm, h1, h2, h3⟩ := h.val
  have hv := h.vb
  have hk := h.kb
  cases ps with
  | p1 =>
    obtain ⟨-, rfl, rfl⟩ := h3
    exact ⟨counted N Γ p + PS.p1.pend, by show counted N Γ p + 0 ≤ _; omega, h1, h2, h.fz.1⟩
  | p4 v =>
    obtain ⟨-, rfl, rfl, h4⟩ := h3
    exact ⟨counted N Γ p + (PS.p4 v).pend, h4, h1, h2, h.fz.1⟩
  | p7 v =>
    obtain ⟨-, rfl, rfl, h4⟩ := h3
    exact ⟨counted N Γ p + (PS.p7 v).pend, h4, h1, h2, h.fz.1⟩
  | p6 =>
    obtain ⟨-, -, rfl, rfl⟩ := h3
    exact ⟨h1, h2⟩
  | _ => trivial
theorem st_ne_sm (κ : Crew) : κ.st ≠ κ.sm := by
  intro h
  injection h with _ h _
  cases h
theorem u64_inj {a b : Nat} (h : (some (Value.int .u64 (a : Int)) : Option Value) = some (.int .u64 (b : Int))) : a = b := by
  injection h with h
  injection h with _ h
  exact Int.ofNat.inj h
/-- ████ the starter's step ████ -/
theorem step_wgp (hI : Inv P Post B w0 gs w t Γ own cv la rels) {i : Nat} {g g' : Goroutine} {es : Array Event} {κ : Crew} {ps ps' : PS} {k n : Nat}
    (hi : gs[i]? = some g) (hq : (Γ i).quit = false) (hpar : (Γ i).c.par = some (κ, ps, k)) (hst : PStep κ ps w w' es ps')
    (hT : T P Post n (i == 0) { (Γ i).c with par := some (κ, ps', k) } g' w') :
    Inv P Post B w0 ((gs.map (woken P g g' w')).setIfInBounds i g') w' (t ++ MemOp.ofEvents i g.frame.fn g.frame.place es) (upd Γ i ⟨n, { (Γ i).c with par := some (κ, ps', k) }, false, (Γ i).boss⟩) own cv la rels := by
  have hlt : i < gs.size := (Array.getElem?_eq_some_iff.1 hi).1
  have hC := hI.crew i κ ps k hlt hq hpar
  obtain ⟨st, sm, h1, h2, h3⟩ := hC.val
  have hthr : Thr P Post (t ++ MemOp.ofEvents i g.frame.fn g.frame.place es) w' i g' ⟨n, { (Γ i).c with par := some (κ, ps', k) }, false, (Γ i).boss⟩ := by
    unfold Thr
    rw [if_neg (by simp)]
    exact ⟨g', hT, .inl rfl⟩
  cases hst with
  | dis => exact step_own hI hi hq hpar (.inl rfl) ⟨st, sm, h1, h2, h3⟩ (fun e he => by simp at he; exact .inl he) rfl hthr
  | add _ v h =>
    obtain ⟨e1, e2, e3⟩ := h3
    subst e2
    have e4 : counted gs.size Γ i + PS.p1.pend = v := by
      have := u64_inj (h1.symm.trans h)
      unfold K32 at this
      omega
    refine step_own hI hi hq hpar (.inr ⟨_, .inl rfl⟩) ⟨(v + 1) * K32, sm, World.cell?_setCell_same _ _ _ h1, (World.cell?_setCell_other _ _ _ _ (st_ne_sm κ)).trans h2, e1, ?_, e3⟩ (fun e he => by simp at he; rcases he with rfl | rfl; exact .inr (.inr (.inl rfl)); exact .inr (.inr (.inr (.inl rfl)))) rfl hthr
    show (v + 1) * K32 = (counted gs.size Γ i + 1) * K32
    have : counted gs.size Γ i + 0 = v := e4
    rw [← this]
  | sread => exact step_own hI hi hq hpar (.inl rfl) ⟨st, sm, h1, h2, h3⟩ (fun e he => by simp at he; subst he; exact .inr (.inr (.inr (.inr (.inr (.inr (.inl rfl))))))) rfl hthr
  | en2 => exact step_own hI hi hq hpar (.inl rfl) ⟨st, sm, h1, h2, h3⟩ (fun e he => by simp at he; exact .inr (.inl he)) rfl hthr
  | ld0 _ h =>
    obtain ⟨e1, e2, e3⟩ := h3
    have e4 := u64_inj (h1.symm.trans h)
    refine step_own hI hi hq hpar (.inl rfl) ⟨st, sm, h1, h2, ?_, e1, e4, e3⟩ (fun e he => by simp at he; subst he; exact .inr (.inr (.inl rfl))) rfl hthr
    show counted gs.size Γ i + 0 = 0
    have : st = (counted gs.size Γ i + 0) * K32 := e2
    unfold K32 at this
    omega
  | ld _ v h hv =>
    obtain ⟨e1, e2, e3⟩ := h3
    have e4 : counted gs.size Γ i + 0 = v := by
      have := u64_inj (h1.symm.trans h)
      have e5 : st = (counted gs.size Γ i + 0) * K32 := e2
      unfold K32 at this e5
      omega
    exact step_own hI hi hq hpar (.inl rfl) ⟨st, sm, h1, h2, e1, e2, e3, Nat.le_of_eq e4⟩ (fun e he => by simp at he; subst he; exact .inr (.inr (.inl rfl))) rfl hthr
  | ld7 _ m v h hv =>
    obtain ⟨e1, e2, e3, -⟩ := h3
    have e4 : counted gs.size Γ i + 0 = v := by
      have := u64_inj (h1.symm.trans h)
      have e5 : st = (counted gs.size Γ i + 0) * K32 := e2
      unfold K32 at this e5
      omega
    exact step_own hI hi hq hpar (.inl rfl) ⟨st, sm, h1, h2, e1, e2, e3, Nat.le_of_eq e4⟩ (fun e he => by simp at he; subst he; exact .inr (.inr (.inl rfl))) rfl hthr
  | ld07 _ m h =>
    obtain ⟨e1, e2, e3, -⟩ := h3
    have e4 := u64_inj (h1.symm.trans h)
    refine step_own hI hi hq hpar (.inl rfl) ⟨st, sm, h1, h2, ?_, e1, e4, e3⟩ (fun e he => by simp at he; subst he; exact .inr (.inr (.inl rfl))) rfl hthr
    show counted gs.size Γ i + 0 = 0
    have : st = (counted gs.size Γ i + 0) * K32 := e2
    unfold K32 at this
    omega
  | hit _ v h hv =>
    obtain ⟨e1, e2, e3, -⟩ := h3
    have e4 : counted gs.size Γ i + 0 = v := by
      have := u64_inj (h1.symm.trans h)
      have e5 : st = (counted gs.size Γ i + 0) * K32 := e2
      unfold K32 at this e5
      omega
    refine step_own hI hi hq hpar (.inr ⟨_, .inl rfl⟩) ⟨v * K32 + 1, sm, World.cell?_setCell_same _ _ _ h1, (World.cell?_setCell_other _ _ _ _ (st_ne_sm κ)).trans h2, .inl ⟨e1, ?_, ?_, e3⟩⟩ (fun e he => by simp at he; rcases he with rfl | rfl; exact .inr (.inr (.inl rfl)); exact .inr (.inr (.inr (.inl rfl)))) rfl hthr
    · show 1 ≤ counted gs.size Γ i + 0
      omega
    · show v * K32 + 1 = (counted gs.size Γ i + 0) * K32 + 1
      rw [e4]
  | miss _ v m h =>
    obtain ⟨e1, e2, e3, -⟩ := h3
    have e4 : counted gs.size Γ i + 0 = m := by
      have := u64_inj (h1.symm.trans h)
      have e5 : st = (counted gs.size Γ i + 0) * K32 := e2
      unfold K32 at this e5
      omega
    exact step_own hI hi hq hpar (.inl rfl) ⟨st, sm, h1, h2, e1, e2, e3, Nat.le_of_eq e4⟩ (fun e he => by simp at he; subst he; exact .inr (.inr (.inl rfl))) rfl hthr
  | swrite => exact step_own hI hi hq hpar (.inl rfl) ⟨st, sm, h1, h2, h3⟩ (fun e he => by simp at he; subst he; exact .inr (.inr (.inr (.inr (.inr (.inr (.inr rfl))))))) rfl hthr
  | ld6 => exact step_own hI hi hq hpar (.inl rfl) ⟨st, sm, h1, h2, h3⟩ (fun e he => by simp at he; subst he; exact .inr (.inr (.inl rfl))) rfl hthr
  | en8 => exact step_own hI hi hq hpar (.inl rfl) ⟨st, sm, h1, h2, h3⟩ (fun e he => by simp at he; exact .inr (.inl he)) rfl hthr
/-- the starter takes what the last one has left for it -/
theorem step_acq (hI : Inv P Post B w0 gs w t Γ own cv la rels) {i : Nat} {g g' : Goroutine} {κ : Crew} {k n : Nat}
    (hi : gs[i]? = some g) (hq : (Γ i).quit = false) (hpar : (Γ i).c.par = some (κ, .p5, k)) (h1 : w.cell? κ.sm = some (.int .u32 (1 : Nat)))
    (hT : T P Post n (i == 0) { (Γ i).c with par := some (κ, .p6, k) } g' (w.setCell κ.sm (.int .u32 (0 : Nat)))) :
    Inv P Post B w0 ((gs.map (woken P g g' (w.setCell κ.sm (.int .u32 (0 : Nat))))).setIfInBounds i g') (w.setCell κ.sm (.int .u32 (0 : Nat))) (t ++ MemOp.ofEvents i g.frame.fn g.frame.place (semE κ.sm)) (upd Γ i ⟨n, { (Γ i).c with par := some (κ, .p6, k) }, false, (Γ i).boss⟩) own cv la rels := by
  have hlt : i < gs.size := (Array.getElem?_eq_some_iff.1 hi).1
  have hC := hI.crew i κ .p5 k hlt hq hpar
  obtain ⟨st, sm, h2, h3, h4⟩ := hC.val
  have e1 : sm = 1 := by
    rw [h3] at h1
    injection h1 with h; injection h with _ h
    exact Int.ofNat.inj h
  subst e1
  have h5 : counted gs.size Γ i + PS.p5.pend = 0 ∧ lastOf Γ (la i) i = none ∧ st = 0 := by
    rcases h4 with ⟨_, _, _, h⟩ | ⟨_, _, _, h⟩ | ⟨_, _, _, h⟩ | ⟨e1, e2, e3, _⟩
    · cases h
    · cases h
    · cases h
    · exact ⟨e1, e2, e3⟩
  refine step_own hI hi hq hpar (.inr ⟨_, .inr rfl⟩) ⟨st, 0, (World.cell?_setCell_other _ _ _ _ (Ne.symm (st_ne_sm κ))).trans h2, World.cell?_setCell_same _ _ _ h3, h5.1, h5.2.1, h5.2.2, rfl⟩ (fun e he => ?_) rfl ?_
  · simp [semE] at he
    rcases he with rfl | rfl | rfl | rfl
    · exact .inl rfl
    · exact .inr (.inr (.inr (.inr (.inl rfl))))
    · exact .inr (.inr (.inr (.inr (.inr (.inl rfl)))))
    · exact .inr (.inl rfl)
  · unfold Thr
    rw [if_neg (by simp)]
    exact ⟨g', hT, .inl rfl⟩
end Go.Farm
