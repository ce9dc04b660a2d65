/- A worker's steps: it draws a task; it counts itself off; the last one wakes the starter. -/
import Derived.Test.YtidadgibhmiojaaGh
namespace Go.Farm
open Go.Conc Go.RowKit
open Go.ConcN (sumTo upd sumTo_upd upd_ne upd_same sumTo_congr le_sumTo)
variable {P : Program} {Post : Value → World → Prop} {B : Nat} {w0 : World} {gs : Array Goroutine} {w w' : World} {t : Trace} {Γ Γ' : Nat → GS} {own own' : Addr → Owner} {cv cv' : Nat → Nat} {la la' : Nat → Option Nat} {rels rels' : Nat → Nat → Prop}
/-- the starter sleeps -/
theorem step_block (hI : Inv P Post B w0 gs w t Γ own cv la rels) {i : Nat} {g : Goroutine} {κ : Crew} {k : Nat}
    (hi : gs[i]? = some g) (hq : (Γ i).quit = false) (hpar : (Γ i).c.par = some (κ, .p5, k)) (h0 : w.cell? κ.sm = some (.int .u32 (0 : Nat))) (ho : g.offers = none)
    (hT : T P Post (Γ i).n (i == 0) (Γ i).c g w) :
    Inv P Post B w0 ((gs.map (woken P g { g with status := .blocked } w)).setIfInBounds i { g with status := .blocked }) w (t ++ MemOp.ofEvents i g.frame.fn g.frame.place #[]) Γ own cv la rels := by
  have hlt : i < gs.size := (Array.getElem?_eq_some_iff.1 hi).1
  have hC := hI.crew i κ .p5 k hlt hq hpar
  have e0 : { (Γ i).c with par := some (κ, .p5, k) } = (Γ i).c := by rw [← hpar]
  have e1 : (⟨(Γ i).n, { (Γ i).c with par := some (κ, .p5, k) }, false, (Γ i).boss⟩ : GS) = Γ i := by rw [e0, ← hq]
  have e2 : upd Γ i (Γ i) = Γ := by
    funext j
    by_cases h : j = i
    · subst h; rw [upd_same]
    · rw [upd_ne Γ _ h]
  have := step_own (n := (Γ i).n) (g' := { g with status := .blocked }) (es := #[]) (ps' := .p5) (w' := w) hI hi hq hpar (.inl rfl) hC.val (fun e he => by simp at he) rfl (by
    rw [e1]
    unfold Thr
    rw [if_neg (by rw [hq]; simp)]
    exact ⟨g, hT, .inr ⟨rfl, ho, κ, k, hpar, h0⟩⟩)
  rw [e1, e2] at this
  exact this
theorem stage_of {s : GS} {p : Nat} (hq : s.quit = false) (hb : s.boss = p) {κ : Crew} {ms : MS} {lb : Nat} {J : Nat → Prop} (hm : s.c.mem = some (κ, ms, lb, J)) : s.stage p = some ms := by
  unfold GS.stage
  rw [if_pos ⟨hq, hb⟩, hm]
  rfl
theorem stage_quit {s : GS} {p : Nat} (hq : s.quit = true) : s.stage p = none := by
  unfold GS.stage
  rw [if_neg (by rw [hq]; simp)]
/-- ████ a worker draws a task ████ -/
theorem step_tick (hI : Inv P Post B w0 gs w t Γ own cv la rels) {i : Nat} {g g' : Goroutine} {κ : Crew} {lb n j : Nat} {J : Nat → Prop} {c' : Cx}
    (hi : gs[i]? = some g) (hq : (Γ i).quit = false) (hm : (Γ i).c.mem = some (κ, .m0, lb, J)) (hpr : (Γ i).c.par = none) (hlb : lb ≤ κ.n)
    (hj : cv (Γ i).boss = j)
    (hc' : (j < κ.n ∧ c' = { (Γ i).c with U := fun a => (Γ i).c.U a ∨ a = κ.cell j, mem := some (κ, .m0, j + 1, fun x => J x ∨ x = j) }) ∨ (κ.n ≤ j ∧ c' = { (Γ i).c with mem := some (κ, .m0, j + 1, J) }))
    (hT : T P Post n (i == 0) c' g' (w.setCell κ.cn (.int .i64 ((j + 1 : Nat) : Int)))) :
    ∃ own' cv', Inv P Post B w0 ((gs.map (woken P g g' (w.setCell κ.cn (.int .i64 ((j + 1 : Nat) : Int))))).setIfInBounds i g') (w.setCell κ.cn (.int .i64 ((j + 1 : Nat) : Int))) (t ++ MemOp.ofEvents i g.frame.fn g.frame.place #[rdE κ.cn, wrE κ.cn]) (upd Γ i ⟨n, c', false, (Γ i).boss⟩) own' cv' la rels := by
  classical
  have hlt : i < gs.size := (Array.getElem?_eq_some_iff.1 hi).1
  have hi0 : 0 < i := by
    rcases Nat.eq_zero_or_pos i with h | h
    · subst h; rw [hI.main.2] at hm; cases hm
    · exact h
  obtain ⟨κ', ms', lb', J', ps, k, k1, k2, k3, k4, k5, k6⟩ := hI.mem i hlt hi0 hq
  rw [hm] at k1
  injection k1 with e; injection e with e1 e; injection e with e2 e; injection e with e3 e4
  subst e1; subst e2; subst e3; subst e4
  obtain ⟨p, hp⟩ : ∃ p, (Γ i).boss = p := ⟨_, rfl⟩
  rw [hp] at k2 k3 k4 k5 hj
  have hC := hI.crew p κ ps k (by omega) k3 k4
  have hne : i ≠ p := by omega
  have hbcn := hI.ti.big κ.cn (by rw [hC.cn]; simp)
  have hBcn := hI.base κ.cn (by rw [hC.cn]; simp)
  have m' : c'.mem = some (κ, .m0, j + 1, (fun x => J x ∨ (j < κ.n ∧ x = j))) := by
    rcases hc' with ⟨h, rfl⟩ | ⟨h, rfl⟩
    · show some (κ, MS.m0, j + 1, fun x => J x ∨ x = j) = _
      congr; funext x; simp [h]
    · show some (κ, MS.m0, j + 1, J) = _
      congr; funext x; simp [Nat.not_lt.2 h]
  have pr' : c'.par = none := by rcases hc' with ⟨_, rfl⟩ | ⟨_, rfl⟩ <;> exact hpr
  let w1 := w.setCell κ.cn (.int .i64 ((j + 1 : Nat) : Int))
  let o' : Addr → Owner := fun a => if j < κ.n ∧ a = κ.cell j then .un i else own a
  let Γ1 := upd Γ i ⟨n, c', false, (Γ i).boss⟩
  have hcell : ∀ a, a ≠ κ.cn → w1.cell? a = w.cell? a := fun a h => World.cell?_setCell_other _ _ _ _ (Ne.symm h)
  have hfz : ∀ a, w1.frozen? a = w.frozen? a := fun a => World.frozen?_setCell _ _ _ _
  have cne : ∀ a, own a ≠ .cnt p → a ≠ κ.cn := fun a h e => h (e ▸ hC.cn)
  have o1 : ∀ a, own a ≠ .pool p → o' a = own a := fun a h => by
    show (if _ then _ else _) = _
    rw [if_neg]
    rintro ⟨h1, rfl⟩
    exact h (hC.pool j h1 (by rw [hj]; exact Nat.le_refl _))
  have s0 : (Γ i).stage p = some .m0 := stage_of hq hp hm
  have s1 : (⟨n, c', false, (Γ i).boss⟩ : GS).stage p = some .m0 := stage_of (s := ⟨n, c', false, (Γ i).boss⟩) rfl hp m'
  have hst : ∀ x, (Γ1 x).stage p = (Γ x).stage p := fun x => by
    by_cases hx : x = i
    · subst hx; show (upd Γ x _ x).stage p = _; rw [upd_same, s0, s1]
    · show (upd Γ i _ x).stage p = _; rw [upd_ne Γ _ hx]
  have ec : counted gs.size Γ1 p = counted gs.size Γ p := sumTo_congr fun x _ => by rw [hst x]
  have el : lastOf Γ1 (la p) p = lastOf Γ (la p) p := by
    unfold lastOf
    cases la p with
    | none => rfl
    | some x => exact hst x
  have a0 : (Γ i).act p = 1 := by unfold GS.act; rw [if_pos ⟨hq, hp⟩, hm]; simp [hlb]
  have a1 : (⟨n, c', false, (Γ i).boss⟩ : GS).act p = if j + 1 ≤ κ.n then 1 else 0 := by
    unfold GS.act
    simp only [hp, m']
    simp
  have ea : active gs.size Γ1 p + 1 = active gs.size Γ p + (if j + 1 ≤ κ.n then 1 else 0) := by
    have := sumTo_upd Γ (⟨n, c', false, (Γ i).boss⟩ : GS) (fun s => s.act p) hlt
    rw [a0, a1] at this
    exact this
  have hcb : (j + 1 - κ.n) + active gs.size Γ1 p ≤ k := by
    have := hC.cb
    rw [hj] at this
    split at ea <;> omega
  refine ⟨o', upd cv p (j + 1), step_crew hI (p := p) (κ := κ) (ps := ps) (ps' := ps) (k := k) (k' := k) (S := fun a => a = κ.cn) (cv' := upd cv p (j + 1)) (la' := la) (own' := o') hi hq (by omega) k3 k4
    ⟨by rw [World.size_setCell]; exact Nat.le_refl _, fun a _ _ _ hS => hcell a hS, fun a _ => hfz a, (Grow.set w _ _).ex⟩ (World.size_setCell _ _ _) (fun a ha => .inr (by rw [ha]; exact hC.cn)) ?_ (fun a => ?_) rfl (.inr ⟨hi0, hp⟩)
    (fun _ => ⟨hpr, fun _ => pr', rfl, rfl⟩) (fun h => absurd h hne) (fun _ _ => ⟨κ, .m0, j + 1, _, .m0, lb, J, m', hm, by rw [hp, upd_same]; exact Nat.le_refl _, fun h => absurd rfl h⟩) (fun q => ?_) (fun q hqp => ⟨upd_ne _ _ hqp, rfl⟩) ?_ (fun _ => ?_) (fun _ a h => ?_) (fun _ a h => ?_) (fun _ a h => ?_) ?_ (fun e he b hb => ?_) (fun e he => ?_) (fun e he a => ?_) (.inl ?_) (fun _ => .inl ?_) (hI.old.setCell hBcn _)⟩
  · unfold Thr
    rw [if_neg (by simp)]
    exact ⟨g', hT, .inl rfl⟩
  · by_cases h : j < κ.n ∧ a = κ.cell j
    · refine .inr ⟨?_, if_pos h⟩
      rw [h.2]; exact hC.pool j h.1 (by rw [hj]; exact Nat.le_refl _)
    · exact .inl (if_neg h)
  · by_cases hqp : q = p
    · subst hqp; rw [upd_same, hj]; omega
    · rw [upd_ne _ _ hqp]; exact Nat.le_refl _
  · -- the crew
    rw [upd_same]
    refine ⟨(o1 _ (by rw [hC.st]; simp)).trans hC.st, (o1 _ (by rw [hC.sm]; simp)).trans hC.sm, (o1 _ (by rw [hC.cn]; simp)).trans hC.cn, ?_, ?_, World.cell?_setCell_same _ _ _ hC.cc, hcb, hC.kb, by rw [ec]; exact hC.vb, fun x hx => by rw [hst x]; exact hC.lk x hx, hC.lN,
      fun j' hj' hc => ?_, hC.inj, fun j' hj' hc => ?_, fun hk => ?_, fun hr => ?_, hC.stable, fun r hr => (hC.rels r hr).app _, hC.small, fun x hx ms => by rw [hst x]; exact hC.relm x hx ms⟩
    · obtain ⟨st, sm, h1, h2, h3⟩ := hC.val
      exact ⟨st, sm, (hcell _ (cne _ (by rw [hC.st]; simp))).trans h1, (hcell _ (cne _ (by rw [hC.sm]; simp))).trans h2, by rw [ec, el]; exact h3⟩
    · show w1.frozen? _ = _ ∧ w1.frozen? _ = _ ∧ w1.frozen? _ = _
      rw [hfz, hfz, hfz]; exact hC.fz
    · show (if _ then _ else _) = _
      rw [if_neg]
      · exact hC.pool j' hj' (by rw [hj]; omega)
      · rintro ⟨h1, h2⟩
        have := hC.inj j' j hj' h1 h2
        omega
    · by_cases hjj : j' = j
      · subst hjj
        exact .inl ⟨i, j' + 1, _, hlt, by show (upd Γ i _ i).quit = _; rw [upd_same], by show (upd Γ i _ i).boss = _; rw [upd_same]; exact hp, by show (upd Γ i _ i).c.mem = _; rw [upd_same]; exact m', by exact Or.inr ⟨hj', rfl⟩⟩
      · rcases hC.task j' hj' (by rw [hj]; omega) with ⟨x, lbx, Jx, h1, h2, h3, h4, h5⟩ | ⟨X, h1, h2⟩
        · by_cases hx : x = i
          · subst hx
            rw [hm] at h4
            injection h4 with e; injection e with _ e; injection e with _ e; injection e with _ e4
            subst e4
            exact .inl ⟨x, j + 1, _, hlt, by show (upd Γ x _ x).quit = _; rw [upd_same], by show (upd Γ x _ x).boss = _; rw [upd_same]; exact hp, by show (upd Γ x _ x).c.mem = _; rw [upd_same]; exact m', by exact Or.inl h5⟩
          · exact .inl ⟨x, lbx, Jx, h1, by show (upd Γ i _ x).quit = _; rw [upd_ne Γ _ hx]; exact h2, by show (upd Γ i _ x).boss = _; rw [upd_ne Γ _ hx]; exact h3, by show (upd Γ i _ x).c.mem = _; rw [upd_ne Γ _ hx]; exact h4, h5⟩
        · refine .inr ⟨X, fun a ha => ?_, hC.stable j' X w w1 (fun a ha => ?_) h2⟩
          · obtain ⟨r, hr⟩ := h1 a ha
            exact ⟨r, (o1 a (by rw [hr]; simp)).trans hr⟩
          · obtain ⟨r, hr⟩ := h1 a ha
            exact ⟨hcell a (cne a (by rw [hr]; simp)), hfz a⟩
    · rcases hC.some1 hk with ⟨x, hx, hs⟩ | hr
      · exact .inl ⟨x, hx, by rw [hst x]; exact hs⟩
      · exact .inr hr
    · have := hC.full hr
      rw [hj] at this
      omega
  · rw [Deaf_own, hI.deaf i hlt hq]
    unfold Cx.deaf
    simp only [hpr, hm, pr', m']
    have hlk : c'.lk = (Γ i).c.lk := by rcases hc' with ⟨_, rfl⟩ | ⟨_, rfl⟩ <;> rfl
    rw [hlk]
    rfl
  · rcases hc' with ⟨_, rfl⟩ | ⟨_, rfl⟩ <;> exact h
  · rcases hc' with ⟨hjn, rfl⟩ | ⟨_, rfl⟩
    · rcases h with h | h
      · exact .inl h
      · exact .inr (if_pos ⟨hjn, h⟩)
    · exact .inl h
  · rcases hc' with ⟨_, rfl⟩ | ⟨_, rfl⟩ <;> exact h
  · unfold LF
    rw [upd_same]
    refine ⟨fun _ => ⟨hlt, hq, fun κ2 ms2 lb2 J2 h => ?_⟩, fun _ => ⟨hlt, rfl, fun κ2 ms2 lb2 J2 h => ?_⟩⟩
    · rw [hm] at h; injection h with e; injection e with _ e; injection e with e _; exact e.symm
    · have h' : c'.mem = _ := h
      rw [m'] at h'; injection h' with e; injection e with _ e; injection e with e _; exact e.symm
  · simp at he
    rcases he with rfl | rfl <;> simp only [rdE, wrE, MemAct.ofEvent, MemAct.touch?, Option.some.injEq, if_true] at hb <;> subst hb
    · exact ⟨κ.cn, rfl, .inl ⟨.inr hC.cn, rfl⟩⟩
    · exact ⟨κ.cn, rfl, .inl ⟨.inr hC.cn, rfl⟩⟩
  · simp at he
    rcases he with rfl | rfl <;> exact hbcn
  · simp at he
    rcases he with rfl | rfl <;> simp [rdE, wrE, MemAct.ofEvent]
  · refine ⟨hlt, hq, fun κ2 ms2 lb2 J2 h => ?_⟩
    rw [hm] at h; injection h with e; injection e with _ e; injection e with e _; exact e.symm
  · exact hcell _ (cne _ (by rw [hC.sm]; simp))
end Go.Farm
