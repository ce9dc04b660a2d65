/- A worker counts itself off; the last one wakes the starter: case by case. -/
import Derived.Test.YtidadgibhmiojaaGj
namespace Go.Farm
open Go.Conc Go.RowKit
open Go.ConcN (sumTo upd sumTo_upd upd_ne upd_same sumTo_congr le_sumTo)
variable {P : Program} {Post : Value → World → Prop} {B : Nat} {w0 : World} {gs : Array Goroutine} {w w' : World} {t : Trace} {Γ Γ' : Nat → GS} {own own' : Addr → Owner} {cv cv' : Nat → Nat} {la la' : Nat → Option Nat} {rels rels' : Nat → Nat → Prop}
variable {N : Nat} {c1 : Nat} {l1 : Option Nat} {rel : Nat → Prop} {p : Nat} {κ : Crew} {ps : PS} {k : Nat}
theorem CrewOk.one {i : Nat} (hs : (Γ i).stage p = some .m0 ∨ (Γ i).stage p = some .m1 ∨ (Γ i).stage p = some .m2) (hi : i < N) : 1 ≤ counted N Γ p := by
  have := le_sumTo (f := fun i => isCnt ((Γ i).stage p)) hi
  rcases hs with h | h | h <;> (simp only [h, isCnt] at this; exact this)
theorem CrewOk.notlast (h : CrewOk N Γ own t c1 l1 rel w p κ ps k) {i : Nat} (hi : i < N) (hs : isLast ((Γ i).stage p) = false) : l1 ≠ some i := fun e => by
  have := (h.lk i hi).2 e
  rw [hs] at this; cases this
theorem CrewOk.nolast (h : CrewOk N Γ own t c1 l1 rel w p κ ps k) (hl : lastOf Γ l1 p = none) : l1 = none := by
  cases e : l1 with
  | none => rfl
  | some x =>
    have h1 := (h.lk x (h.lN x e)).2 e
    rw [e] at hl
    have h2 : (Γ x).stage p = none := hl
    rw [h2] at h1; cases h1
/-- the last one at work: the starter waits for it -/
theorem CrewOk.last (h : CrewOk N Γ own t c1 l1 rel w p κ ps k) {i : Nat} {ms : MS} (hi : i < N) (hs : (Γ i).stage p = some ms) (hm : ms = .m3 ∨ ms = .m4 ∨ ms = .m5) :
    l1 = some i ∧ ps = .p5 ∧ counted N Γ p = 0 ∧ w.cell? κ.st = some (.int .u64 ((if ms = .m5 then 0 else 1 : Nat) : Int)) ∧ w.cell? κ.sm = some (.int .u32 (0 : Nat)) := by
  have e1 : l1 = some i := (h.lk i hi).1 (by rw [hs]; rcases hm with rfl | rfl | rfl <;> rfl)
  have e2 : lastOf Γ l1 p = some ms := by rw [e1]; exact hs
  obtain ⟨st, sm, h1, h2, h3⟩ := h.val
  rw [e2] at h3
  refine ⟨e1, ?_⟩
  cases ps with
  | p5 =>
    rcases h3 with ⟨x, _⟩ | ⟨x1, x2, rfl, rfl⟩ | ⟨x1, x2, rfl, rfl⟩ | ⟨_, x, _⟩
    · cases x
    · refine ⟨rfl, x1, ?_, h2⟩
      rw [if_neg (by rintro rfl; rcases x2 with x | x <;> cases x)]
      exact h1
    · refine ⟨rfl, x1, ?_, h2⟩
      rw [if_pos (Option.some.inj x2)]
      exact h1
    · cases x
  | p6 => cases h3.2.1
  | p8 => cases h3.2.1
  | p9 => cases h3.2.1
  | _ => cases h3.1
/-- what one meets that counts itself off -/
theorem CrewOk.two (h : CrewOk N Γ own t c1 l1 rel w p κ ps k) {i : Nat} (hi : i < N) (hs : (Γ i).stage p = some .m2) :
    ∃ v wt : Nat, wt ≤ 1 ∧ v ≤ 1048576 ∧ w.cell? κ.st = some (.int .u64 ((v + 1) * K32 + wt : Nat)) ∧ w.cell? κ.sm = some (.int .u32 (0 : Nat)) ∧ lastOf Γ l1 p = none ∧ counted N Γ p + ps.pend = v + 1 ∧ ((ps = .p5 ∧ wt = 1) ∨ (wt = 0 ∧ ps ≠ .p5 ∧ ps ≠ .p6 ∧ ps ≠ .p8 ∧ ps ≠ .p9)) := by
  have h1 := CrewOk.one (N := N) (.inr (.inr hs)) hi
  have hv := h.vb
  have hk := h.kb
  obtain ⟨st, sm, h2, h3, h4⟩ := h.val
  obtain ⟨c, hc⟩ : ∃ c, counted N Γ p = c + 1 := ⟨counted N Γ p - 1, by omega⟩
  have hpd : ps.pend ≤ 1 := by cases ps <;> simp [PS.pend]
  rw [hc] at h4 ⊢
  have fin : ∀ ps' : PS, ps'.pend ≤ 1 → (ps' ≠ .p5 ∧ ps' ≠ .p6 ∧ ps' ≠ .p8 ∧ ps' ≠ .p9) → (lastOf Γ l1 p = none ∧ st = (c + 1 + ps'.pend) * K32 ∧ sm = 0) →
      ∃ v wt : Nat, wt ≤ 1 ∧ v ≤ 1048576 ∧ w.cell? κ.st = some (.int .u64 ((v + 1) * K32 + wt : Nat)) ∧ w.cell? κ.sm = some (.int .u32 (0 : Nat)) ∧ lastOf Γ l1 p = none ∧ c + 1 + ps'.pend = v + 1 ∧ ((ps' = .p5 ∧ wt = 1) ∨ (wt = 0 ∧ ps' ≠ .p5 ∧ ps' ≠ .p6 ∧ ps' ≠ .p8 ∧ ps' ≠ .p9)) := by
    intro ps' hp1 hps ⟨x1, x2, x3⟩
    subst x2; subst x3
    refine ⟨c + ps'.pend, 0, by omega, by omega, ?_, h3, x1, by omega, .inr ⟨rfl, hps⟩⟩
    rw [h2]
    have : (c + 1 + ps'.pend) * K32 = (c + ps'.pend + 1) * K32 + 0 := by unfold K32; omega
    rw [this]
  cases ps with
  | p5 =>
    rcases h4 with ⟨x1, x2, rfl, rfl⟩ | ⟨x1, _⟩ | ⟨x1, _⟩ | ⟨x1, _⟩
    · exact ⟨c, 1, by omega, by omega, h2, h3, x1, rfl, .inl ⟨rfl, rfl⟩⟩
    · exact absurd x1 (by show c + 1 + 0 ≠ 0; omega)
    · exact absurd x1 (by show c + 1 + 0 ≠ 0; omega)
    · exact absurd x1 (by show c + 1 + 0 ≠ 0; omega)
  | p6 => exact absurd h4.1 (by show c + 1 + 0 ≠ 0; omega)
  | p8 => exact absurd h4.1 (by show c + 1 + 0 ≠ 0; omega)
  | p9 => exact absurd h4.1 (by show c + 1 + 0 ≠ 0; omega)
  | p4 m => exact fin _ hpd (by simp) ⟨h4.1, h4.2.1, h4.2.2.1⟩
  | p7 m => exact fin _ hpd (by simp) ⟨h4.1, h4.2.1, h4.2.2.1⟩
  | _ => exact fin _ hpd (by simp) h4
theorem CrewOk.bnd (h : CrewOk N Γ own t c1 l1 rel w p κ ps k) (m : Nat) (hp : ps = .p4 m ∨ ps = .p7 m) : counted N Γ p + ps.pend ≤ m := by
  obtain ⟨st, sm, h2, h3, h4⟩ := h.val
  rcases hp with rfl | rfl <;> exact h4.2.2.2
theorem CrewOk.mok (h : CrewOk N Γ own t c1 l1 rel w p κ ps k) {i : Nat} {ms : MS} (hi : i < N) (hs : (Γ i).stage p = some ms) : MOk κ ms w := by
  cases ms with
  | m2 =>
    obtain ⟨v, wt, h1, h2, h3, h4, -⟩ := h.two hi hs
    exact ⟨v, wt, h1, h2, h3, h4, h.fz.1⟩
  | m3 =>
    obtain ⟨-, -, -, h3, h4⟩ := h.last hi hs (.inl rfl)
    exact ⟨h3, h4, h.fz.1⟩
  | m4 =>
    obtain ⟨-, -, -, h3, h4⟩ := h.last hi hs (.inr (.inl rfl))
    exact ⟨h3, h4, h.fz.1⟩
  | m5 =>
    obtain ⟨-, -, -, h3, h4⟩ := h.last hi hs (.inr (.inr rfl))
    exact ⟨h3, h4, h.fz.2.1⟩
  | _ => trivial
theorem Thr.quits {i : Nat} {g : Goroutine} {s : GS} (h : s.quit = true) (h1 : i ≠ 0) (h2 : QuitsD P s.n (Deaf t i) g) : Thr P Post t w i g s := by
  unfold Thr
  rw [if_pos h]
  exact ⟨h1, h2⟩
theorem Thr.runs {i : Nat} {g : Goroutine} {s : GS} (h : s.quit = false) (h1 : T P Post s.n (i == 0) s.c g w) : Thr P Post t w i g s := by
  unfold Thr
  rw [if_neg (by rw [h]; simp)]
  exact ⟨g, h1, .inl rfl⟩
/-- ████ a worker's step on the group ████ -/
theorem step_wgm (hI : Inv P Post B w0 gs w t Γ own cv la rels) {i : Nat} {g g' : Goroutine} {es : Array Event} {κ : Crew} {ms : MS} {lb n : Nat} {J : Nat → Prop} {ms' : Option MS}
    (hi : gs[i]? = some g) (hq : (Γ i).quit = false) (hc : (Γ i).c = Cx.bare κ ms lb J) (hw : ms = .m5 → mayWake P g = true) (hst : MStep κ ms w w' es ms')
    (hT : ∀ m, ms' = some m → T P Post n (i == 0) (Cx.bare κ m lb J) g' w') (hQ : ms' = none → QuitsD P n 1 g') :
    ∃ la', Inv P Post B w0 ((gs.map (woken P g g' w')).setIfInBounds i g') w' (t ++ MemOp.ofEvents i g.frame.fn g.frame.place es) (upd Γ i ⟨n, Cx.bare κ (ms'.getD .m0) lb J, ms'.isNone, (Γ i).boss⟩) own cv la' rels := by
  have hlt : i < gs.size := (Array.getElem?_eq_some_iff.1 hi).1
  have hm : (Γ i).c.mem = some (κ, ms, lb, J) := by rw [hc]; rfl
  have hi0 : 0 < i := by
    rcases Nat.eq_zero_or_pos i with h | h
    · subst h; rw [hI.main.2] at hm; cases hm
    · exact h
  obtain ⟨κ', ms2, lb', J', ps, k, k1, k2, k3, k4, k5, k6⟩ := hI.mem i hlt hi0 hq
  rw [hm] at k1
  injection k1 with e; injection e with e1 e; injection e with e2 e; injection e with e3 e4
  subst e1; subst e2; subst e3; subst e4
  obtain ⟨p, hp⟩ : ∃ p, (Γ i).boss = p := ⟨_, rfl⟩
  rw [hp] at k2 k3 k4 k5 ⊢
  have hC := hI.crew p κ ps k (by omega) k3 k4
  have s0 : (Γ i).stage p = some ms := stage_of hq hp hm
  have hdf : Deaf t i = ms.deaf := by rw [hI.deaf i hlt hq, hc]; show 0 + ms.deaf = _; omega
  -- what turns in the numbers
  have hcount : ∀ s : GS, counted gs.size (upd Γ i s) p + isCnt (some ms) = counted gs.size Γ p + isCnt (s.stage p) := fun s => by
    have := sumTo_upd Γ s (fun s => isCnt (s.stage p)) hlt
    rw [s0] at this
    exact this
  have s1 : ms' ≠ some .m0 → (⟨n, Cx.bare κ (ms'.getD .m0) lb J, ms'.isNone, p⟩ : GS).stage p = ms' := fun _ => by
    cases ms' with
    | none => exact stage_quit rfl
    | some m => exact stage_of (s := ⟨n, Cx.bare κ m lb J, false, p⟩) rfl rfl rfl
  have hcnt : ms' ≠ some .m0 → counted gs.size (upd Γ i ⟨n, Cx.bare κ (ms'.getD .m0) lb J, ms'.isNone, p⟩) p + isCnt (some ms) = counted gs.size Γ p + isCnt ms' := fun h => by
    have := hcount ⟨n, Cx.bare κ (ms'.getD .m0) lb J, ms'.isNone, p⟩
    rw [s1 h] at this
    exact this
  have hlast : ∀ s : GS, la p ≠ some i → lastOf (upd Γ i s) (la p) p = lastOf Γ (la p) p := fun s h => by
    unfold lastOf
    cases e : la p with
    | none => rfl
    | some x =>
      have hx : x ≠ i := fun e' => h (by rw [e, e'])
      show (upd Γ i s x).stage p = _
      rw [upd_ne Γ s hx]; rfl
  have hthr : Thr P Post (t ++ MemOp.ofEvents i g.frame.fn g.frame.place es) w' i g' ⟨n, Cx.bare κ (ms'.getD .m0) lb J, ms'.isNone, p⟩ := by
    cases hms : ms' with
    | none =>
      refine Thr.quits rfl (by omega) ?_
      have : Deaf (t ++ MemOp.ofEvents i g.frame.fn g.frame.place es) i = 1 := by
        rw [Deaf_own, hdf]
        subst hms
        generalize hx : (none : Option MS) = x at hst
        cases hst with
        | dis => cases hx
        | dec => rfl
        | ld => cases hx
        | sto => cases hx
        | sem => rfl
      rw [this]
      exact hQ hms
    | some m => exact Thr.runs rfl (hT m hms)
  have keepl : ∀ s : GS, la p ≠ some i → isLast (s.stage p) = false → ∀ x, x < gs.size → (isLast ((upd Γ i s x).stage p) = true ↔ la p = some x) := fun s h1 h2 x hx => by
    by_cases hxi : x = i
    · subst hxi; rw [upd_same, h2]; exact ⟨fun h => (by cases h), fun h => absurd h h1⟩
    · rw [upd_ne Γ s hxi]; exact hC.lk x hx
  have deafT : ms.deaf = 1 → (∀ e ∈ es, MemAct.ofEvent e ≠ .mark .enable ∧ ∀ b, (MemAct.ofEvent e).touch? = some b → b.kind = .atomic) → ∀ x, t.size ≤ x → ¬ (t ++ MemOp.ofEvents i g.frame.fn g.frame.place es).counts x := fun h h2 =>
    (nocount_deaf (by rw [hdf, h]; exact Nat.le_refl _) h2).1
  have rw2 : ∀ (a : Addr) (b : Touch), ((MemAct.ofEvent (rdE a)).touch? = some b ∨ (MemAct.ofEvent (wrE a)).touch? = some b) → b.kind = .atomic := fun a b h => by
    rcases h with h | h <;> (simp only [rdE, wrE, MemAct.ofEvent, MemAct.touch?, Option.some.injEq, if_true] at h; subst h; rfl)
  obtain ⟨st, sm, v1, v2, v3⟩ := hC.val
  cases hst with
  | dis =>
    have hnl := hC.notlast hlt (by rw [s0]; rfl)
    refine ⟨_, step_worker (p := p) (l' := la p) hI hi hq hc (by simp) (by simp) hp k4 (.inl rfl) ⟨st, sm, v1, v2, ?_⟩ (by exact Nat.le_refl _) (keepl _ hnl (by rw [s1 (by simp)]; rfl)) hC.lN (fun e he => ?_) (fun m h => ?_) (nocount_mute fun e he => ?_) (.inl rfl) hthr⟩
    · have e1 := Nat.add_right_cancel (hcnt (by simp))
      rw [e1, hlast _ hnl]; exact v3
    · simp at he; subst he; exact ⟨.inl rfl, by simp [mkE], by simp [mkE]⟩
    · injection h with h; subst h; rfl
    · simp at he; subst he; rfl
  | dec _ v wt hwt h =>
    obtain ⟨v', wt', w1, -, w3, w4, w5, w6, w7⟩ := hC.two hlt s0
    have e0 := u64_inj (w3.symm.trans h)
    have e1 : v' = v ∧ wt' = wt := by unfold K32 at e0; omega
    obtain ⟨rfl, rfl⟩ := e1
    have hnl := hC.notlast hlt (by rw [s0]; rfl)
    have hln := hC.nolast w5
    have hes : ∀ e ∈ #[rdE κ.st, wrE κ.st], GE κ e ∧ e ≠ mkE (.read κ.sm) ∧ e ≠ mkE (.write κ.sm) := fun e he => by
      simp at he
      rcases he with rfl | rfl
      · exact ⟨.inr (.inr (.inl rfl)), by simp [rdE, mkE], by simp [rdE, mkE]⟩
      · exact ⟨.inr (.inr (.inr (.inl rfl))), by simp [wrE, mkE], by simp [wrE, mkE]⟩
    have hno : ∀ x, t.size ≤ x → ¬ (t ++ MemOp.ofEvents i g.frame.fn g.frame.place #[rdE κ.st, wrE κ.st]).counts x := deafT rfl fun e he => by
      simp at he
      rcases he with rfl | rfl
      · exact ⟨by simp [rdE, MemAct.ofEvent], fun b hb => rw2 _ b (.inl hb)⟩
      · exact ⟨by simp [wrE, MemAct.ofEvent], fun b hb => rw2 _ b (.inr hb)⟩
    have hsm2 := World.cell?_setCell_other w κ.st κ.sm (.int .u64 ((v' * K32 + wt' : Nat) : Int)) (st_ne_sm κ)
    by_cases hz : v' = 0 ∧ wt' = 1
    · simp only [if_pos hz] at hT hQ hthr s1 hcnt ⊢
      refine ⟨_, step_worker (p := p) (l' := some i) hI hi hq hc (by simp) (by simp) hp k4 (.inr ⟨_, .inl rfl⟩) ⟨v' * K32 + wt', 0, World.cell?_setCell_same _ _ _ v1, hsm2.trans w4, ?_⟩ (by simp [isCnt]) (fun x hx => ?_) (fun x hx => by injection hx with hx; subst hx; exact hlt) hes (fun m h => by injection h with h; subst h; rfl) hno (.inl hsm2) hthr⟩
      · have := hcnt (by simp)
        simp only [isCnt] at this
        rcases w7 with ⟨rfl, -⟩ | ⟨h7, -⟩
        · refine .inr (.inl ⟨?_, .inl ?_, ?_, rfl⟩)
          · show counted gs.size (upd Γ i _) p + 0 = 0
            have : counted gs.size Γ p + 0 = v' + 1 := w6
            omega
          · show (upd Γ i _ i).stage p = _
            rw [upd_same]; exact s1 (by simp)
          · rw [hz.1, hz.2, Nat.zero_mul]
        · omega
      · by_cases hxi : x = i
        · subst hxi; rw [upd_same]
          exact ⟨fun _ => rfl, fun _ => by rw [s1 (by simp)]; rfl⟩
        · rw [upd_ne Γ _ hxi]
          refine ⟨fun h2 => ?_, fun h2 => by injection h2 with h2; exact absurd h2.symm hxi⟩
          have := (hC.lk x hx).1 h2
          rw [hln] at this; cases this
    · simp only [if_neg hz] at hT hQ hthr s1 hcnt ⊢
      refine ⟨_, step_worker (p := p) (l' := la p) hI hi hq hc (by simp) (by simp) hp k4 (.inr ⟨_, .inl rfl⟩) ⟨v' * K32 + wt', 0, World.cell?_setCell_same _ _ _ v1, hsm2.trans w4, ?_⟩ (by simp [isCnt]) (keepl _ hnl (by rw [s1 (by simp)]; rfl)) hC.lN hes (fun m h => by cases h) hno (.inl hsm2) hthr⟩
      have := hcnt (by simp)
      simp only [isCnt] at this
      rw [hlast _ hnl, w5]
      generalize counted gs.size (upd Γ i _) p = cc at this ⊢
      have e5 : cc + ps.pend = v' := by omega
      rw [e5]
      rcases w7 with ⟨rfl, rfl⟩ | ⟨rfl, h7⟩
      · exact .inl ⟨rfl, by omega, rfl, rfl⟩
      · have hB : ∀ m, (ps = .p4 m ∨ ps = .p7 m) → v' ≤ m := fun m h => by have := hC.bnd m h; omega
        cases ps <;> first | exact ⟨rfl, Nat.add_zero _, rfl⟩ | exact ⟨rfl, Nat.add_zero _, rfl, hB _ (.inl rfl)⟩ | exact ⟨rfl, Nat.add_zero _, rfl, hB _ (.inr rfl)⟩ | simp at h7
  | ld =>
    obtain ⟨l1, rfl, l3, l4, l5⟩ := hC.last hlt s0 (.inl rfl)
    have hno : ∀ x, t.size ≤ x → ¬ (t ++ MemOp.ofEvents i g.frame.fn g.frame.place #[rdE κ.st]).counts x := deafT rfl fun e he => by
      simp at he; subst he
      exact ⟨by simp [rdE, MemAct.ofEvent], fun b hb => rw2 _ b (.inl hb)⟩
    refine ⟨_, step_worker (p := p) (l' := la p) hI hi hq hc (by simp) (by simp) hp k4 (.inl rfl) ⟨1, 0, l4, l5, .inr (.inl ⟨?_, .inr ?_, rfl, rfl⟩)⟩ (by simp [isCnt]) (fun x hx => ?_) hC.lN (fun e he => ?_) (fun m h => ?_) hno (.inl rfl) hthr⟩
    · have := hcnt (by simp)
      simp only [isCnt] at this
      show counted gs.size (upd Γ i _) p + 0 = 0
      omega
    · rw [l1]; show (upd Γ i _ i).stage p = _; rw [upd_same]; exact s1 (by simp)
    · by_cases hxi : x = i
      · subst hxi; rw [upd_same, s1 (by simp)]; exact ⟨fun _ => l1, fun _ => rfl⟩
      · rw [upd_ne Γ _ hxi]; exact hC.lk x hx
    · simp at he; subst he; exact ⟨.inr (.inr (.inl rfl)), by simp [rdE, mkE], by simp [rdE, mkE]⟩
    · injection h with h; subst h; rfl
  | sto =>
    obtain ⟨l1, rfl, l3, l4, l5⟩ := hC.last hlt s0 (.inr (.inl rfl))
    have hno : ∀ x, t.size ≤ x → ¬ (t ++ MemOp.ofEvents i g.frame.fn g.frame.place #[wrE κ.st]).counts x := deafT rfl fun e he => by
      simp at he; subst he
      exact ⟨by simp [wrE, MemAct.ofEvent], fun b hb => rw2 _ b (.inr hb)⟩
    have hsm2 := World.cell?_setCell_other w κ.st κ.sm (.int .u64 ((0 : Nat) : Int)) (st_ne_sm κ)
    refine ⟨_, step_worker (p := p) (l' := la p) hI hi hq hc (by simp) (by simp) hp k4 (.inr ⟨_, .inl rfl⟩) ⟨0, 0, World.cell?_setCell_same _ _ _ v1, hsm2.trans l5, .inr (.inr (.inl ⟨?_, ?_, rfl, rfl⟩))⟩ (by simp [isCnt]) (fun x hx => ?_) hC.lN (fun e he => ?_) (fun m h => ?_) hno (.inl hsm2) hthr⟩
    · have := hcnt (by simp)
      simp only [isCnt] at this
      show counted gs.size (upd Γ i _) p + 0 = 0
      omega
    · rw [l1]; show (upd Γ i _ i).stage p = _; rw [upd_same]; exact s1 (by simp)
    · by_cases hxi : x = i
      · subst hxi; rw [upd_same, s1 (by simp)]; exact ⟨fun _ => l1, fun _ => rfl⟩
      · rw [upd_ne Γ _ hxi]; exact hC.lk x hx
    · simp at he; subst he; exact ⟨.inr (.inr (.inr (.inl rfl))), by simp [wrE, mkE], by simp [wrE, mkE]⟩
    · injection h with h; subst h; rfl
  | sem =>
    obtain ⟨l1, rfl, l3, l4, l5⟩ := hC.last hlt s0 (.inr (.inr rfl))
    have hst2 := World.cell?_setCell_other w κ.sm κ.st (.int .u32 ((1 : Nat) : Int)) (Ne.symm (st_ne_sm κ))
    have hno : ∀ x, t.size ≤ x → ¬ (t ++ MemOp.ofEvents i g.frame.fn g.frame.place (semE κ.sm)).counts x := by
      have e : t ++ MemOp.ofEvents i g.frame.fn g.frame.place (semE κ.sm) = (t ++ MemOp.ofEvents i g.frame.fn g.frame.place #[mkE .disable, rdE κ.sm, wrE κ.sm]) ++ #[{ g := i, fn := g.frame.fn, pos := g.frame.place, act := .ofEvent (mkE .enable) }] := by
        simp [semE, MemOp.ofEvents]
      rw [e]
      refine nocount_push (nocount_deaf (by rw [hdf]; exact Nat.le_refl _) fun e he => ?_).1 (.inl rfl)
      simp at he
      rcases he with rfl | rfl | rfl
      · exact ⟨by simp [mkE, MemAct.ofEvent], fun b hb => by simp [mkE, MemAct.ofEvent, MemAct.touch?] at hb⟩
      · exact ⟨by simp [rdE, MemAct.ofEvent], fun b hb => rw2 _ b (.inl hb)⟩
      · exact ⟨by simp [wrE, MemAct.ofEvent], fun b hb => rw2 _ b (.inr hb)⟩
    refine ⟨_, step_worker (p := p) (l' := none) hI hi hq hc (by simp) (by simp) hp k4 (.inr ⟨_, .inr rfl⟩) ⟨0, 1, hst2.trans l4, World.cell?_setCell_same _ _ _ v2, .inr (.inr (.inr ⟨?_, rfl, rfl, rfl⟩))⟩ (by simp [isCnt]) (fun x hx => ?_) (fun x h => by cases h) (fun e he => ?_) (fun m h => by cases h) hno (.inr ?_) hthr⟩
    · have := hcnt (by simp)
      simp only [isCnt] at this
      show counted gs.size (upd Γ i _) p + 0 = 0
      omega
    · by_cases hxi : x = i
      · subst hxi; rw [upd_same, s1 (by simp)]; exact ⟨fun h => (by cases h), fun h => by cases h⟩
      · rw [upd_ne Γ _ hxi]
        refine ⟨fun h => ?_, fun h => by cases h⟩
        have := (hC.lk x hx).1 h
        rw [l1] at this
        injection this with this
        exact absurd this.symm hxi
    · simp [semE] at he
      rcases he with rfl | rfl | rfl | rfl
      · exact ⟨.inl rfl, by simp [mkE], by simp [mkE]⟩
      · exact ⟨.inr (.inr (.inr (.inr (.inl rfl)))), by simp [rdE, mkE], by simp [rdE, mkE]⟩
      · exact ⟨.inr (.inr (.inr (.inr (.inr (.inl rfl))))), by simp [wrE, mkE], by simp [wrE, mkE]⟩
      · exact ⟨.inr (.inl rfl), by simp [mkE], by simp [mkE]⟩
    · rw [hw rfl]
      rcases (hQ rfl).status with h | h <;> rw [h] <;> rfl
end Go.Farm
