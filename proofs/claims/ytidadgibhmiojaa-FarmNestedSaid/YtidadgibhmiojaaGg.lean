/- A step of one goroutine's on a crew's own cells. -/
import Derived.Test.YtidadgibhmiojaaGf
namespace Go.Farm
open Go.Conc Go.RowKit
open Go.ConcN (sumTo upd sumTo_upd upd_ne upd_same sumTo_congr le_sumTo)
variable {P : Program} {Post : Value → World → Prop} {B : Nat} {w0 : World} {gs : Array Goroutine} {w w' : World} {t : Trace} {Γ : Nat → GS} {own own' : Addr → Owner} {cv cv' : Nat → Nat} {la la' : Nat → Option Nat} {rels : Nat → Nat → Prop}
/-- a touch more that does not count -/
theorem nocount_push {s : Nat} {op : MemOp} (h : ∀ x, s ≤ x → ¬ t.counts x) (hop : op.act.touch? = none ∨ (1 ≤ Deaf t op.g ∧ ∀ b, op.act.touch? = some b → b.kind = .atomic)) : ∀ x, s ≤ x → ¬ (t ++ #[op]).counts x := by
  intro x hx hc
  rcases Nat.lt_or_ge x t.size with hlt | hge
  · exact h x hx ((counts_old hlt).1 hc)
  · obtain ⟨b, hb, -, hk⟩ := hc
    obtain ⟨op', hop', hob⟩ := touch_of hb
    rcases getElem?_append_cases hop' with ⟨h1, _⟩ | ⟨_, hm⟩
    · omega
    · obtain rfl : op' = op := by simpa using hm
      have hx' : x = t.size := by
        have := (Array.getElem?_eq_some_iff.1 hop').1
        simp at this; omega
      subst hx'
      rcases hop with h1 | ⟨h1, h2⟩
      · rw [h1] at hob; cases hob
      · rcases hk with hk | ⟨gg, hg, hd⟩
        · exact hk (h2 b hob)
        · have : gg = op'.g := by
            simp only [Trace.g?, hop', Option.map_some, Option.some.injEq] at hg
            exact hg.symm
          subst this
          rw [deaf_old (Nat.le_refl _)] at hd
          unfold Deaf at h1
          omega
/-- ████ i's step on the cells of p's crew ████ -/
theorem step_crew (hI : Inv P Post B w0 gs w t Γ own cv la rels) {i p : Nat} {g g' : Goroutine} {es : Array Event} {s' : GS} {κ : Crew} {ps ps' : PS} {k k' : Nat} {S : AS}
    (hi : gs[i]? = some g) (hq : (Γ i).quit = false) (hp : p < gs.size) (hpq : (Γ p).quit = false) (hpar : (Γ p).c.par = some (κ, ps, k))
    (hch : WCh own i S w w') (hsz : w'.heap.size = w.heap.size) (hS : ∀ a, S a → own a = .grp p ∨ own a = .cnt p)
    (hthr : Thr P Post (t ++ MemOp.ofEvents i g.frame.fn g.frame.place es) w' i g' s')
    (hown : ∀ a, own' a = own a ∨ (own a = .pool p ∧ own' a = .un i))
    (hboss : s'.boss = (Γ i).boss)
    (hme : (s'.quit = false ∧ s'.c.mem = (Γ i).c.mem) ∨ (0 < i ∧ (Γ i).boss = p))
    (hpari : i ≠ p → (Γ i).c.par = none ∧ (s'.quit = false → s'.c.par = none) ∧ ps' = ps ∧ k' = k)
    (hparp : i = p → s'.quit = false ∧ s'.c.par = some (κ, ps', k'))
    (hmi : 0 < i → s'.quit = false → ∃ κ' ms lb J ms0 lb0 J0, s'.c.mem = some (κ', ms, lb, J) ∧ (Γ i).c.mem = some (κ', ms0, lb0, J0) ∧ lb ≤ cv' (Γ i).boss ∧ (ms ≠ .m0 → s'.c = Cx.bare κ' ms lb J))
    (hcv : ∀ q, cv q ≤ cv' q) (hcvq : ∀ q, q ≠ p → cv' q = cv q ∧ la' q = la q)
    (hcrewp : CrewOk gs.size (upd Γ i s') own' (t ++ MemOp.ofEvents i g.frame.fn g.frame.place es) (cv' p) (la' p) (rels p) w' p κ ps' k')
    (hdeaf : s'.quit = false → Deaf (t ++ MemOp.ofEvents i g.frame.fn g.frame.place es) i = s'.c.deaf)
    (hO : s'.quit = false → ∀ a, s'.c.O a → (Γ i).c.O a) (hU : s'.quit = false → ∀ a, s'.c.U a → (Γ i).c.U a ∨ own' a = .un i) (hZ : s'.quit = false → ∀ a, s'.c.Z a → (Γ i).c.Z a)
    (hlf : LF gs.size (upd Γ i s') i ↔ LF gs.size Γ i)
    (htouch : ∀ e ∈ es, ∀ b, (MemAct.ofEvent e).touch? = some b → ∃ a, b.loc = .cell a ∧ (((own a = .grp p ∨ own a = .cnt p) ∧ b.kind = .atomic) ∨ (own a = .grp i ∧ b.kind = .said)))
    (hlow : ∀ e ∈ es, (MemAct.ofEvent e).low w.heap.size) (hnr : ∀ e ∈ es, ∀ a, MemAct.ofEvent e ≠ .mark (.release a))
    (hc : LF gs.size Γ i ∨ ∀ x, t.size ≤ x → ¬ (t ++ MemOp.ofEvents i g.frame.fn g.frame.place es).counts x)
    (hsm : i ≠ p → w'.cell? κ.sm = w.cell? κ.sm ∨ (mayWake P g && g'.status != .blocked && g'.status != .waiting) = true)
    (hold : Below B w0 w') :
    Inv P Post B w0 ((gs.map (woken P g g' w')).setIfInBounds i g') w' (t ++ MemOp.ofEvents i g.frame.fn g.frame.place es) (upd Γ i s') own' cv' la' rels := by
  have hlt : i < gs.size := (Array.getElem?_eq_some_iff.1 hi).1
  have hbig := hI.ti.big
  have ok : ∀ a, (∀ q, own a ≠ .pool q) → own' a = own a := fun a h => by
    rcases hown a with e | ⟨e, -⟩
    · exact e
    · exact absurd e (h p)
  have okp : ∀ a q, own a = .pool q → q ≠ p → own' a = .pool q := fun a q h hne => by
    rcases hown a with e | ⟨e, -⟩
    · rw [e]; exact h
    · rw [h] at e; injection e with e; exact absurd e hne
  have nS : ∀ a, own a ≠ .grp p → own a ≠ .cnt p → ¬ S a := fun a h1 h2 h => (hS a h).elim h1 h2
  have hupne : ∀ j, j ≠ i → upd Γ i s' j = Γ j := fun j hj => upd_ne Γ s' hj
  have hkeepcrew : ∀ q κq psq kq, q ≠ p → q < gs.size → (Γ q).quit = false → (Γ q).c.par = some (κq, psq, kq) →
      CrewOk gs.size (upd Γ i s') own' (t ++ MemOp.ofEvents i g.frame.fn g.frame.place es) (cv' q) (la' q) (rels q) w' q κq psq kq := fun q κq psq kq hqp hqN hqq hqpar => by
    rw [(hcvq q hqp).1, (hcvq q hqp).2]
    have same : ∀ a, own a = .grp q ∨ own a = .cnt q ∨ (∃ r, own a = .ret q r) → own' a = own a ∧ w'.cell? a = w.cell? a ∧ w'.frozen? a = w.frozen? a := fun a h => by
      have h1 : own a ≠ .ow i := by rcases h with h | h | ⟨r, h⟩ <;> rw [h] <;> simp
      have h2 : own a ≠ .un i := by rcases h with h | h | ⟨r, h⟩ <;> rw [h] <;> simp
      have h3 : own a ≠ .free := by rcases h with h | h | ⟨r, h⟩ <;> rw [h] <;> simp
      have h4 : ∀ q', own a ≠ .pool q' := fun q' => by rcases h with h | h | ⟨r, h⟩ <;> rw [h] <;> simp
      have h5 : own a ≠ .grp p := by rcases h with h | h | ⟨r, h⟩ <;> rw [h] <;> simp [hqp]
      have h6 : own a ≠ .cnt p := by rcases h with h | h | ⟨r, h⟩ <;> rw [h] <;> simp [hqp]
      exact ⟨ok a h4, hch.cell a (hbig a h3) h1 h2 (nS a h5 h6), hch.fz a (hbig a h3)⟩
    have hst : ∀ j, j < gs.size → (upd Γ i s' j).stage q = (Γ j).stage q ∧ (upd Γ i s' j).act q = (Γ j).act q := fun j _ => by
      by_cases hj : j = i
      · subst hj
        rw [upd_same]
        unfold GS.stage GS.act
        rcases hme with ⟨e1, e2⟩ | ⟨_, e1⟩
        · rw [e1, hboss, e2, hq]; exact ⟨rfl, rfl⟩
        · rw [hboss, e1]
          have : ¬ (p = q) := fun e => hqp e.symm
          simp [this]
      · rw [hupne j hj]; exact ⟨rfl, rfl⟩
    refine (hI.crew q κq psq kq hqN hqq hqpar).keep (fun a ha => same a (by rcases ha with h | h <;> simp [h])) (fun a ha => okp a q ha hqp) (fun a r ha => ?_) (fun j hj => (hst j hj).1) (fun j hj => (hst j hj).2) (fun j _ h1 h2 lb J h3 => ?_)
    · obtain ⟨k1, k2, k3⟩ := same a (.inr (.inr ⟨r, ha⟩))
      exact ⟨k1.trans ha, k2, k3⟩
    · by_cases hj : j = i
      · subst hj
        rw [upd_same]
        rcases hme with ⟨e1, e2⟩ | ⟨_, e1⟩
        · exact ⟨e1, hboss.trans h2, lb, J, e2.trans h3, fun _ x => x⟩
        · rw [h2] at e1; exact absurd e1 hqp
      · rw [hupne j hj]; exact ⟨h1, h2, lb, J, h3, fun _ x => x⟩
  have hcrewall : ∀ q κq psq kq, q < gs.size → (upd Γ i s' q).quit = false → (upd Γ i s' q).c.par = some (κq, psq, kq) →
      CrewOk gs.size (upd Γ i s') own' (t ++ MemOp.ofEvents i g.frame.fn g.frame.place es) (cv' q) (la' q) (rels q) w' q κq psq kq := fun q κq psq kq hqN hqq hqpar => by
    by_cases hqp : q = p
    · subst hqp
      by_cases hqi : i = q
      · subst hqi
        rw [upd_same] at hqpar
        rw [(hparp rfl).2] at hqpar
        injection hqpar with e; injection e with e1 e; injection e with e2 e3
        subst e1; subst e2; subst e3
        exact hcrewp
      · rw [hupne q (Ne.symm hqi), hpar] at hqpar
        obtain ⟨-, -, f1, f2⟩ := hpari hqi
        injection hqpar with e; injection e with e1 e; injection e with e2 e3
        subst e1; subst e2; subst e3
        rw [f1, f2] at hcrewp
        exact hcrewp
    · by_cases hqi : q = i
      · subst hqi
        rw [upd_same] at hqpar hqq
        rw [(hpari hqp).2.1 hqq] at hqpar; cases hqpar
      · rw [hupne q hqi] at hqpar hqq
        exact hkeepcrew q κq psq kq hqp hqN hqq hqpar
  have hlive : ∀ q κq psq kq, q < gs.size → (Γ q).quit = false → (Γ q).c.par = some (κq, psq, kq) → Live κq w' := fun q κq psq kq hqN hqq hqpar => by
    by_cases hqp : q = p
    · subst hqp
      rw [hpar] at hqpar
      injection hqpar with e; injection e with e1 e
      subst e1
      exact hcrewp.live
    · exact (hkeepcrew q κq psq kq hqp hqN hqq hqpar).live
  refine hI.go (cv' := cv') (la' := la') (rels' := rels) (own' := own') hi hthr (fun j hj hji hjq => rely_of hI hch (fun a ha => ⟨p, hS a ha⟩) hlive hj hji hjq) (fun j κj kj hj hji hjq hjp => ?_) (fun h0 => ?_) ?_ hcrewall ?_ hdeaf
    (fun h a ha => ?_) (fun h a ha => ?_) (fun a j hji => ⟨fun h => ?_, fun h => ?_⟩) ?_ (fun a ha => ?_) (by rw [hsz]; exact hI.bsz) hold
  · by_cases hjp' : j = p
    · subst hjp'
      rw [hpar] at hjp
      injection hjp with e; injection e with e1 e
      subst e1
      exact hsm (Ne.symm hji)
    · have h1 := (hI.crew j κj .p5 kj hj hjq hjp).sm
      exact .inl (hch.cell _ (hbig _ (by rw [h1]; simp)) (by rw [h1]; simp) (by rw [h1]; simp) (nS _ (by rw [h1]; simp [hjp']) (by rw [h1]; simp)))
  · rcases hme with ⟨e1, e2⟩ | ⟨e1, -⟩
    · refine ⟨e1, e2.trans ?_⟩
      rw [h0]; exact hI.main.2
    · omega
  · intro j hj h0 hjq
    -- the crew of j's boss
    have hb : ∀ b κb psb kb, (Γ b).quit = false → (Γ b).c.par = some (κb, psb, kb) → (upd Γ i s' b).quit = false ∧ ∃ ps1 k1, (upd Γ i s' b).c.par = some (κb, ps1, k1) := fun b κb psb kb h1 h2 => by
      by_cases hbi : b = i
      · subst hbi
        by_cases hbp : b = p
        · subst hbp
          rw [upd_same]
          rw [hpar] at h2
          injection h2 with e; injection e with e1 e
          subst e1
          exact ⟨(hparp rfl).1, ps', k', (hparp rfl).2⟩
        · rw [(hpari hbp).1] at h2; cases h2
      · rw [hupne b hbi]; exact ⟨h1, psb, kb, h2⟩
    by_cases hji : j = i
    · subst hji
      rw [upd_same] at hjq ⊢
      obtain ⟨κ', ms, lb, J, ms0, lb0, J0, k1, k2, k3, k4⟩ := hmi h0 hjq
      obtain ⟨κ2, ms2, lb2, J2, ps2, kk2, l1, l2, l3, l4, -, -⟩ := hI.mem j hj h0 hq
      rw [k2] at l1
      injection l1 with e; injection e with e1 e
      subst e1
      obtain ⟨m1, ps1, kk1, m2⟩ := hb _ _ _ _ l3 l4
      rw [hboss]
      exact ⟨κ', ms, lb, J, ps1, kk1, k1, l2, m1, m2, k3, k4⟩
    · rw [hupne j hji] at hjq ⊢
      obtain ⟨κ2, ms2, lb2, J2, ps2, kk2, l1, l2, l3, l4, l5, l6⟩ := hI.mem j hj h0 hjq
      obtain ⟨m1, ps1, kk1, m2⟩ := hb _ _ _ _ l3 l4
      exact ⟨κ2, ms2, lb2, J2, ps1, kk1, l1, l2, m1, m2, Nat.le_trans l5 (hcv _), l6⟩
  · intro q r hr
    obtain ⟨h1, h2, ⟨κq, psq, kq⟩, h3⟩ := hI.norel q r hr
    refine ⟨h1, ?_⟩
    by_cases hqi : q = i
    · subst hqi
      by_cases hqp : q = p
      · rw [upd_same]; exact ⟨(hparp hqp).1, _, (hparp hqp).2⟩
      · rw [(hpari hqp).1] at h3; cases h3
    · rw [hupne q hqi]; exact ⟨h2, _, h3⟩
  · have h1 := hI.owO i hlt hq a (hO h a ha)
    rw [ok a (by rw [h1]; simp)]; exact h1
  · rcases hU h a ha with h2 | h2
    · have h1 := hI.owU i hlt hq a h2
      rw [ok a (by rw [h1]; simp)]; exact h1
    · exact h2
  · rw [ok a (by rw [h]; simp)]; exact h
  · rw [ok a (by rw [h]; simp)]; exact h
  · have hL : LF gs.size (upd Γ i s') = LF gs.size Γ := by
      funext j
      by_cases hji : j = i
      · subst hji; exact propext hlf
      · unfold LF; rw [hupne j hji]
    rw [hL]
    refine hI.ti.app _ ofEvents_g ⟨by rw [hsz]; exact Nat.le_refl _, fun a j h => ?_, fun a j h => ?_, fun a q h => ?_, fun a q r h => ?_, fun a q h => ?_, fun a q h => ?_, fun j a h => ?_, fun a h => ?_⟩ (fun op hop b hb => ?_) (fun op hop => ?_) (fun op hop a => ?_) hc
    · rcases hown a with e | ⟨-, e⟩
      · exact .inl (e ▸ h)
      · rw [e] at h; cases h
    · rcases hown a with e | ⟨e1, e⟩
      · exact .inl (e ▸ h)
      · rw [e] at h; injection h with e2; exact .inr ⟨e2.symm, .inr ⟨p, e1⟩⟩
    · rcases hown a with e | ⟨-, e⟩
      · exact .inl (e ▸ h)
      · rw [e] at h; cases h
    · rcases hown a with e | ⟨-, e⟩
      · exact e ▸ h
      · rw [e] at h; cases h
    · rcases hown a with e | ⟨-, e⟩
      · exact .inl (e ▸ h)
      · rw [e] at h; cases h
    · rcases hown a with e | ⟨-, e⟩
      · exact .inl (e ▸ h)
      · rw [e] at h; cases h
    · obtain ⟨h1, h2, h3⟩ := h
      have h4 : ZF gs.size Γ j a := by
        by_cases hji : j = i
        · subst hji; rw [upd_same] at h2 h3; exact ⟨h1, hq, hZ h2 a h3⟩
        · rw [hupne j hji] at h2 h3; exact ⟨h1, h2, h3⟩
      have hro := hI.ti.zro a j h4
      exact ⟨(ok a (by rw [hro]; simp)).trans hro, .inl h4⟩
    · rw [hsz]
      rcases hown a with e | ⟨e1, -⟩
      · rw [e] at h; exact hbig a h
      · exact hbig a (by rw [e1]; simp)
    · obtain ⟨e, he, rfl⟩ := Go.Conc.mem_ofEvents hop
      obtain ⟨a, h1, h2⟩ := htouch e he b hb
      rcases h2 with ⟨h2, h3⟩ | ⟨h2, h3⟩
      · exact ⟨a, h1, .inr (.inr (.inl ⟨⟨p, h2⟩, h3, ok a (fun q => by rcases h2 with h | h <;> rw [h] <;> simp)⟩))⟩
      · exact ⟨a, h1, .inr (.inr (.inr ⟨h2, h3, ok a (fun q => by rw [h2]; simp)⟩))⟩
    · obtain ⟨e, he, rfl⟩ := Go.Conc.mem_ofEvents hop
      rw [hsz]; exact hlow e he
    · obtain ⟨e, he, rfl⟩ := Go.Conc.mem_ofEvents hop
      exact hnr e he a
  · rcases hown a with e | ⟨e, -⟩
    · rw [e] at ha; exact hI.base a ha
    · exact hI.base a (by rw [e]; simp)
end Go.Farm
