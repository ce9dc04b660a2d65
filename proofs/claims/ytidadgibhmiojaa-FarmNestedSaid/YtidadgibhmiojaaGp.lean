/- From the entry to the return, on every tape. -/
import Derived.Test.YtidadgibhmiojaaGo
namespace Go.Farm
open Go.Conc Go.RowKit
open Go.ConcN (sumTo upd sumTo_upd upd_ne upd_same sumTo_congr le_sumTo sumTo_le sumTo_upd_out)
variable {P : Program} {Post : Value → World → Prop} {B : Nat} {w0 : World} {gs : Array Goroutine} {w w' : World} {t : Trace} {Γ Γ' : Nat → GS} {own own' : Addr → Owner} {cv cv' : Nat → Nat} {la la' : Nat → Option Nat} {rels rels' : Nat → Nat → Prop}
def GS.wt (s : GS) : Nat := if s.quit = true then s.n else 3 ^ s.n
def runs (gs : Array Goroutine) : Nat := sumTo gs.size fun i => match gs[i]? with | some g => if g.status == .running then 1 else 0 | none => 0
def Lt (a b : Nat × Nat) : Prop := (Prod.lex Nat.lt_wfRel Nat.lt_wfRel).rel a b
theorem Lt.wf : WellFounded Lt := (Prod.lex Nat.lt_wfRel Nat.lt_wfRel).wf
def MI (P : Program) (Post : Value → World → Prop) (B : Nat) (w0 : World) (μ : Nat × Nat) (m : Machine) (t : Trace) : Prop :=
  ∃ gs w sl Γ own cv la rels, m = crowd gs w sl ∧ Inv P Post B w0 gs w t Γ own cv la rels ∧ μ = (sumTo gs.size fun i => (Γ i).wt, runs gs)
theorem wt_pos (n : Nat) : n < 3 ^ n := by
  induction n with
  | zero => simp
  | succ n ih => rw [Nat.pow_succ]; omega
theorem wt_le (n : Nat) (c : Cx) (q : Bool) (b : Nat) : (⟨n, c, q, b⟩ : GS).wt ≤ 3 ^ n := by
  unfold GS.wt
  split
  · exact Nat.le_of_lt (wt_pos n)
  · exact Nat.le_refl _
theorem next_of {i : Nat} {g g' : Goroutine} {es : Array Event} {s' : GS} {sl : Option (Nat × Nat)} {μ2 : Nat} (hi : gs[i]? = some g) (hstep : stepG P (i == 0) g w = .go g' w' es)
    (hI' : Inv P Post B w0 ((gs.map (woken P g g' w')).setIfInBounds i g') w' (t ++ MemOp.ofEvents i g.frame.fn g.frame.place es) (upd Γ i s') own' cv' la' rels') (hw : s'.wt < (Γ i).wt) :
    ∃ m' ops μ', runT P (crowd gs w sl) i = (.next m', ops) ∧ Lt μ' (sumTo gs.size fun i => (Γ i).wt, μ2) ∧ MI P Post B w0 μ' m' (t ++ ops) := by
  refine ⟨_, _, _, runT_crowd_go hi hstep, ?_, _, _, _, _, _, _, _, _, rfl, hI', rfl⟩
  refine Prod.Lex.left _ _ ?_
  have hlt := (Array.getElem?_eq_some_iff.1 hi).1
  have := sumTo_upd Γ s' GS.wt hlt
  show sumTo _ _ < sumTo _ _
  simp only [Array.size_setIfInBounds, Array.size_map]
  omega
theorem pow_lt (n : Nat) {x : Nat} (h : x ≤ 3 ^ n) : x < 3 ^ (n + 1) := by
  have : 0 < 3 ^ n := Nat.pow_pos (by omega)
  rw [Nat.pow_succ]; omega
/-- ████ a step of the machine ████ -/
theorem machine_step : ∀ μ m t, MI P Post B w0 μ m t →
    (∃ o w ops, stepT P m = (.ended o w, ops) ∧ Fine P Post B w0 m o w (t ++ ops)) ∨ (∃ m' ops μ', stepT P m = (.next m', ops) ∧ Lt μ' μ ∧ MI P Post B w0 μ' m' (t ++ ops)) := by
  rintro μ m t ⟨gs, w1, sl, Γ, own, cv, la, rels, rfl, hI0, rfl⟩
  obtain ⟨i, g, d, sl', hi, hrun, hstep⟩ := crowd_pick (P := P) (w := w1) (sl := sl) hI0.awake hI0.someone
  rw [hstep]
  have hI := hI0.at d
  have hlt : i < gs.size := (Array.getElem?_eq_some_iff.1 hi).1
  generalize hw1 : w1.at d = w at hI ⊢
  have hthr := hI.thr i g hi
  unfold Thr at hthr
  by_cases hq : (Γ i).quit = true
  · rw [if_pos hq] at hthr
    obtain ⟨hi0, hQ⟩ := hthr
    cases hn : (Γ i).n with
    | zero =>
      rw [hn] at hQ
      have := hQ.1
      rw [hrun] at this; cases this
    | succ n =>
      rw [hn] at hQ
      rcases hQ with ⟨h, -⟩ | ⟨-, g', es, h1, h2, h3⟩
      · rw [hrun] at h; cases h
      · have hb : (i == 0) = false := beq_false_of_ne hi0
        refine .inr (next_of hi (by rw [hb]; exact h2 w) (step_quit hI hi hq hi0 h1 h3) ?_)
        unfold GS.wt
        rw [if_pos rfl, if_pos hq, hn]
        exact Nat.lt_succ_self n
  · have hq' : (Γ i).quit = false := by simpa using hq
    rw [if_neg hq] at hthr
    obtain ⟨g0, hT, hg⟩ := hthr
    have hg0 : g = g0 := by
      rcases hg with h | ⟨h, -⟩
      · exact h
      · rw [h] at hrun; cases hrun
    subst hg0
    have hr := hI.rely0 hlt hq'
    cases hn : (Γ i).n with
    | zero => rw [hn] at hT; exact hT.elim
    | succ n =>
      have hwt : ∀ c q b, (⟨n, c, q, b⟩ : GS).wt < (Γ i).wt := fun c q b => by
        have e : (Γ i).wt = 3 ^ (n + 1) := by unfold GS.wt; rw [if_neg hq, hn]
        rw [e]
        exact pow_lt n (wt_le n c q b)
      have hTn : T P Post (Γ i).n (i == 0) (Γ i).c g w := hT
      rw [hn] at hT
      have hA : Act P Post (T P Post n) (QuitsD P n 1) (i == 0) (Γ i).c g w := hT
      generalize hb : (i == 0) = b at hA
      cases hA with
      | idle hs h =>
        obtain ⟨g', w', es, c', h1, h2, h3⟩ := h w hr
        obtain ⟨own', hI'⟩ := step_idle hI hi hq' h2 (by rw [hb]; exact h3)
        exact .inr (next_of hi (by rw [hb]; exact h1) hI' (hwt _ _ _))
      | opn hs h =>
        obtain ⟨g', κ, c', h1, h2, h3⟩ := h w hr
        obtain ⟨own', cv', la', hI'⟩ := step_opn hI hi hq' h2 (by rw [hb]; exact h3)
        exact .inr (next_of hi (by rw [hb]; exact h1) hI' (hwt _ _ _))
      | wgp κ ps sp hp hs h =>
        obtain ⟨g', w', es, ps', h1, h2, h3⟩ := h w hr (hI.crew i κ ps sp hlt hq' hp).pok
        exact .inr (next_of hi (by rw [hb]; exact h1) (step_wgp hI hi hq' hp h2 (by rw [hb]; exact h3)) (hwt _ _ _))
      | acq κ sp hp hs ho hbl h =>
        have hC := hI.crew i κ .p5 sp hlt hq' hp
        obtain ⟨st, sm, v1, v2, v3⟩ := hC.val
        have hsm : sm = 0 ∨ sm = 1 := by
          rcases v3 with ⟨-, -, -, x⟩ | ⟨-, -, -, x⟩ | ⟨-, -, -, x⟩ | ⟨-, -, -, x⟩
          · exact .inl x
          · exact .inl x
          · exact .inl x
          · exact .inr x
        rcases hsm with rfl | rfl
        · have hI' := step_block hI hi hq' hp v2 ho hTn
          refine .inr ⟨_, _, _, runT_crowd_go hi (by rw [hb]; exact hbl w hr v2), ?_, _, _, _, _, _, _, _, _, rfl, hI', rfl⟩
          have ew : gs.map (woken P g { g with status := .blocked } w) = gs := by
            have : woken P g { g with status := .blocked } w = id := by
              funext o
              unfold woken
              rw [if_neg (by simp)]
              rfl
            rw [this, Array.map_id]
          rw [ew]
          have e1 : (sumTo (gs.setIfInBounds i { g with status := .blocked }).size fun i => (Γ i).wt) = sumTo gs.size fun i => (Γ i).wt := by simp
          rw [e1]
          refine Prod.Lex.right _ ?_
          show runs _ < runs _
          have h2 := sumTo_upd (fun j => gs[j]?) (some { g with status := .blocked }) (fun x => match x with | some g => if g.status == .running then 1 else 0 | none => 0) hlt
          have h3 : runs (gs.setIfInBounds i { g with status := .blocked }) = sumTo gs.size (fun a => (fun x => match x with | some g => if g.status == .running then 1 else 0 | none => 0) (upd (fun j => gs[j]?) i (some { g with status := .blocked }) a)) := by
            unfold runs
            rw [Array.size_setIfInBounds]
            refine sumTo_congr fun j hj => ?_
            by_cases hji : j = i
            · subst hji
              rw [upd_same, Array.getElem?_setIfInBounds_self_of_lt hlt]
            · rw [upd_ne _ _ hji, Array.getElem?_setIfInBounds_ne (Ne.symm hji)]
          rw [h3]
          simp only [hi, hrun] at h2
          unfold runs
          simp at h2 ⊢
          omega
        · obtain ⟨g', h1, h2⟩ := h w hr v2 hC.fz.2.1
          exact .inr (next_of hi (by rw [hb]; exact h1) (step_acq hI hi hq' hp v2 (by rw [hb]; exact h2)) (hwt _ _ _))
      | spawn κ sp hp hk hs h =>
        obtain ⟨g', ch, Z', h1, h2, h3, h4⟩ := h w hr
        refine .inr ⟨_, _, (sumTo ((gs.setIfInBounds i g').push ch).size fun j => (upd (upd Γ i ⟨n, { (Γ i).c with par := some (κ, .p0, sp + 1) }, false, (Γ i).boss⟩) gs.size ⟨n, ⟨none3, none3, Z', none, some (κ, .m0, 0, fun _ => False), 0⟩, false, i⟩ j).wt, runs ((gs.setIfInBounds i g').push ch)), runT_crowd_spawn hi (by rw [hb]; exact h1), ?_, ?_⟩
        rotate_left
        · have e : MemOp.ofEvents i g.frame.fn g.frame.place #[] = #[] := by rw [ofEvents_eq]; simp
          rw [e]
          exact ⟨_, _, _, _, _, _, _, _, rfl, step_spawn hI hi hq' hp hk h2 (by rw [hb]; exact h3) h4 (x := { g := i, fn := g.frame.fn, pos := g.frame.place, act := .go gs.size }) (y := { g := gs.size, fn := ch.frame.fn, pos := g.frame.place, act := .start }) ⟨rfl, rfl⟩ ⟨rfl, rfl⟩, rfl⟩
        · refine Prod.Lex.left _ _ ?_
          have hsz : ((gs.setIfInBounds i g').push ch).size = gs.size + 1 := by simp
          rw [hsz]
          show sumTo gs.size _ + GS.wt _ < _
          rw [upd_same]
          have h5 := sumTo_upd Γ (⟨n, { (Γ i).c with par := some (κ, .p0, sp + 1) }, false, (Γ i).boss⟩ : GS) GS.wt hlt
          have h6 := sumTo_upd_out (upd Γ i (⟨n, { (Γ i).c with par := some (κ, .p0, sp + 1) }, false, (Γ i).boss⟩ : GS)) (⟨n, ⟨none3, none3, Z', none, some (κ, .m0, 0, fun _ => False), 0⟩, false, i⟩ : GS) GS.wt (Nat.le_refl gs.size)
          have e1 : (Γ i).wt = 3 ^ (n + 1) := by unfold GS.wt; rw [if_neg hq, hn]
          have e2 := wt_le n { (Γ i).c with par := some (κ, .p0, sp + 1) } false (Γ i).boss
          have e3 := wt_le n ⟨none3, none3, Z', none, some (κ, .m0, 0, fun _ => False), 0⟩ false i
          have e4 : 0 < 3 ^ n := Nat.pow_pos (by omega)
          rw [Nat.pow_succ] at e1
          rw [h6]
          omega
      | close κ sp hp hk hs h =>
        obtain ⟨g', h1, h2⟩ := h w hr
        obtain ⟨c', own', rels', hI'⟩ := step_close hI hi hq' hp hk (fun X x1 x2 x3 => by rw [hb]; exact h2 X x1 x2 x3)
        exact .inr (next_of hi (by rw [hb]; exact h1) hI' (hwt _ _ _))
      | tick κ lb J hm hp hlb hs h =>
        have hi0 : 0 < i := by
          rcases Nat.eq_zero_or_pos i with h0 | h0
          · subst h0; cases hb
          · exact h0
        obtain ⟨κ', ms', lb', J', ps, k, k1, k2, k3, k4, k5, k6⟩ := hI.mem i hlt hi0 hq'
        rw [hm] at k1
        injection k1 with e; injection e with e1 e; injection e with e2 e; injection e with e3 e4
        subst e1; subst e2; subst e3; subst e4
        have hC := hI.crew (Γ i).boss κ ps k (by omega) k3 k4
        have hcb := hC.cb
        have hkb := hC.kb
        have hsml := hC.small
        obtain ⟨g', h1, h2, h3⟩ := h w hr (cv (Γ i).boss) k5 (by omega) hC.cc hC.fz.2.2
        by_cases hj : cv (Γ i).boss < κ.n
        · obtain ⟨own', cv', hI'⟩ := step_tick hI hi hq' hm hp hlb rfl (.inl ⟨hj, rfl⟩) (by rw [hb]; exact h2 hj)
          exact .inr (next_of hi (by rw [hb]; exact h1) hI' (hwt _ _ _))
        · obtain ⟨own', cv', hI'⟩ := step_tick hI hi hq' hm hp hlb rfl (.inr ⟨Nat.le_of_not_lt hj, rfl⟩) (by rw [hb]; exact h3 (Nat.le_of_not_lt hj))
          exact .inr (next_of hi (by rw [hb]; exact h1) hI' (hwt _ _ _))
      | rel κ lb J hm hp hl hlb hs h =>
        obtain ⟨g', h1, h2, h3⟩ := h w hr
        obtain ⟨own', rels', hI'⟩ := step_rel hI hi hq' hm hp hl hlb h2 (by rw [hb]; exact h3)
        exact .inr (next_of hi (by rw [hb]; exact h1) hI' (hwt _ _ _))
      | wgm κ ms lb J hm hw hs h =>
        have hi0 : 0 < i := by
          rcases Nat.eq_zero_or_pos i with h0 | h0
          · subst h0; cases hb
          · exact h0
        have hmm : (Γ i).c.mem = some (κ, ms, lb, J) := by rw [hm]; rfl
        obtain ⟨κ', ms', lb', J', ps, k, k1, k2, k3, k4, k5, k6⟩ := hI.mem i hlt hi0 hq'
        rw [hmm] at k1
        injection k1 with e; injection e with e1 e; injection e with e2 e; injection e with e3 e4
        subst e1; subst e2; subst e3; subst e4
        have hC := hI.crew (Γ i).boss κ ps k (by omega) k3 k4
        obtain ⟨g', w', es, ms', h1, h2, h3, h4⟩ := h w hr (hC.mok hlt (stage_of hq' rfl hmm))
        obtain ⟨la', hI'⟩ := step_wgm hI hi hq' hm hw h2 (fun m hm' => by rw [hb]; exact h3 m hm') h4
        exact .inr (next_of hi (by rw [hb]; exact h1) hI' (hwt _ _ _))
      | ret hp hs h =>
        have hi0 : i = 0 := by simpa using hb
        subst hi0
        obtain ⟨v, es, h1, h2, h3⟩ := h w hr
        exact .inl ⟨_, _, _, runT_many_ended hi h1, hI.fine hp h2 h3⟩
/-- ████ FROM THE ENTRY TO THE RETURN, ON EVERY TAPE ████ -/
theorem farm_runs {n : Nat} {g : Goroutine} {w : World} (h : T P Post n true ⟨none3, none3, none3, none, none, 0⟩ g w) :
    ∃ N last o w' t', runNT P (N + 1) (solo g w) #[] = (.ended o w', t') ∧ runN P N (solo g w) = .next last ∧ step P last = .ended o w' ∧ Fine P Post w.heap.size w last o w' t' := by
  refine run_of_inv (r := Lt) Lt.wf (MI P Post w.heap.size w) (Fine P Post w.heap.size w) machine_step _ (solo g w) #[] ⟨#[g], w, none, fun _ => ⟨n, ⟨none3, none3, none3, none, none, 0⟩, false, 0⟩, fun _ => .free, fun _ => 0, fun _ => none, fun _ _ => False, rfl, ?_, rfl⟩
  have hem : ∀ x b, touchAt (#[] : Trace) x = some b → False := fun x b hx => by
    obtain ⟨op, hop, -⟩ := touch_of hx
    simp at hop
  refine ⟨by simp, fun i gi hi => ?_, ⟨rfl, rfl⟩, fun i hi h0 => ?_, fun p κ ps k _ _ hp => (by cases hp), fun p r hr => hr.elim, fun i _ _ => rfl, fun j _ => rfl, fun i _ _ a ha => ha.elim, fun i _ _ a ha => ha.elim, ?_, fun a ha => absurd rfl ha, Nat.le_refl _, Below.refl _ _⟩
  · have hi0 : i = 0 := by
      have := (Array.getElem?_eq_some_iff.1 hi).1
      simp at this; exact this
    subst hi0
    have : gi = g := by simpa using hi.symm
    subst this
    exact Thr.runs rfl h
  · simp at hi; omega
  · exact ⟨fun said ⟨i, j, _, ⟨a, b, ha, _⟩, _⟩ => hem i a ha, fun a i ho => (by cases ho), fun a ho => (by rcases ho with ⟨_, h⟩ | ⟨_, h⟩ <;> cases h), fun a i hz => hz.2.2.elim, fun a i hz => hz.2.2.elim, fun a p r ho => (by cases ho), fun a p ho => (by rcases ho with h | h <;> cases h), fun x ⟨b, hb, _⟩ => (hem x b hb).elim, fun op hop => (by simp at hop), fun op hop => (by simp at hop), fun a ha => absurd rfl ha⟩
#print axioms farm_runs
end Go.Farm
