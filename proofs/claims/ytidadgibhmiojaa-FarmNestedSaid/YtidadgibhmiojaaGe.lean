/- From one step to the next: what is asked of a step so that all is held behind it. -/
import Derived.Test.YtidadgibhmiojaaGd
namespace Go.Farm
open Go.Conc Go.RowKit
open Go.ConcN (sumTo upd sumTo_upd upd_ne upd_same sumTo_congr le_sumTo)
variable {P : Program} {Post : Value → World → Prop} {B : Nat} {w0 : World} {gs : Array Goroutine} {w w' : World} {t : Trace} {Γ : Nat → GS} {own own' : Addr → Owner} {cv cv' : Nat → Nat} {la la' : Nat → Option Nat} {rels rels' : Nat → Nat → Prop}
theorem ofEvents_g {i : Nat} {fn : FuncId} {pos : String} {es : Array Event} : ∀ op ∈ MemOp.ofEvents i fn pos es, op.g = i := fun op hop => by
  obtain ⟨e, _, rfl⟩ := Go.Conc.mem_ofEvents hop
  rfl
theorem woken_of_running {g g' o : Goroutine} {w : World} (h : o.status = .running) : woken P g g' w o = o := by
  unfold woken
  split
  · exact again_running _ (.inl h)
  · rfl
theorem woken_blocked {g g' o : Goroutine} {w : World} (h : o.status = .running) (ho : o.offers = none) :
    woken P g g' w { o with status := .blocked } = o ∨ (woken P g g' w { o with status := .blocked } = { o with status := .blocked } ∧ (mayWake P g && g'.status != .blocked && g'.status != .waiting) = false) := by
  unfold woken
  split
  · left
    unfold Goroutine.again
    simp only [ho]
    cases o
    simp_all
  · rename_i hc
    exact .inr ⟨rfl, by simpa using hc⟩
/-- the others, behind a step of i's -/
theorem Thr.other {i j : Nat} {g g' gj : Goroutine} {s : GS} (u : Trace) (hu : ∀ op ∈ u, op.g = i) (hij : j ≠ i) (h : Thr P Post t w j gj s) (hr : s.quit = false → Rely s.c w w')
    (hsm : ∀ κ k, s.quit = false → s.c.par = some (κ, .p5, k) → w'.cell? κ.sm = w.cell? κ.sm ∨ (mayWake P g && g'.status != .blocked && g'.status != .waiting) = true) : Thr P Post (t ++ u) w' j (woken P g g' w' gj) s := by
  unfold Thr at h ⊢
  split
  · rename_i hq
    rw [if_pos hq] at h
    refine ⟨h.1, ?_⟩
    rw [woken_quitsD h.2, Deaf_other t (Ne.symm hij) u hu]
    exact h.2
  · rename_i hq
    rw [if_neg hq] at h
    have hq' : s.quit = false := by simpa using hq
    obtain ⟨g0, hT, hg⟩ := h
    refine ⟨g0, hT.rely (hr hq'), ?_⟩
    rcases hg with rfl | ⟨rfl, ho, κ, k, hp, hv⟩
    · exact .inl (woken_of_running hT.running)
    · rcases woken_blocked (P := P) (g := g) (g' := g') (w := w') hT.running ho with e | ⟨e, he⟩
      · exact .inl e
      · refine .inr ⟨e, ho, κ, k, hp, ?_⟩
        rcases hsm κ k hq' hp with e1 | e1
        · rw [e1]; exact hv
        · rw [he] at e1; cases e1
/-- all that a step of i's that goes on must give -/
theorem Inv.go (hI : Inv P Post B w0 gs w t Γ own cv la rels) {i : Nat} {g g' : Goroutine} {es : Array Event} {s' : GS} (hi : gs[i]? = some g)
    (hthr : Thr P Post (t ++ MemOp.ofEvents i g.frame.fn g.frame.place es) w' i g' s')
    (hrel : ∀ j, j < gs.size → j ≠ i → (Γ j).quit = false → Rely (Γ j).c w w')
    (hsm : ∀ j κ k, j < gs.size → j ≠ i → (Γ j).quit = false → (Γ j).c.par = some (κ, .p5, k) → w'.cell? κ.sm = w.cell? κ.sm ∨ (mayWake P g && g'.status != .blocked && g'.status != .waiting) = true)
    (hmain : i = 0 → s'.quit = false ∧ s'.c.mem = none)
    (hmem : ∀ j, j < gs.size → 0 < j → (upd Γ i s' j).quit = false → ∃ κ ms lb J ps k, (upd Γ i s' j).c.mem = some (κ, ms, lb, J) ∧ (upd Γ i s' j).boss < j ∧ (upd Γ i s' (upd Γ i s' j).boss).quit = false ∧
      (upd Γ i s' (upd Γ i s' j).boss).c.par = some (κ, ps, k) ∧ lb ≤ cv' (upd Γ i s' j).boss ∧ (ms ≠ .m0 → (upd Γ i s' j).c = Cx.bare κ ms lb J))
    (hcrew : ∀ p κ ps k, p < gs.size → (upd Γ i s' p).quit = false → (upd Γ i s' p).c.par = some (κ, ps, k) →
      CrewOk gs.size (upd Γ i s') own' (t ++ MemOp.ofEvents i g.frame.fn g.frame.place es) (cv' p) (la' p) (rels' p) w' p κ ps k)
    (hnorel : ∀ p r, rels' p r → p < gs.size ∧ (upd Γ i s' p).quit = false ∧ ∃ x, (upd Γ i s' p).c.par = some x)
    (hdeaf : s'.quit = false → Deaf (t ++ MemOp.ofEvents i g.frame.fn g.frame.place es) i = s'.c.deaf)
    (hO : s'.quit = false → ∀ a, s'.c.O a → own' a = .ow i) (hU : s'.quit = false → ∀ a, s'.c.U a → own' a = .un i)
    (hkeep : ∀ a j, j ≠ i → (own a = .ow j → own' a = .ow j) ∧ (own a = .un j → own' a = .un j))
    (hti : TI (t ++ MemOp.ofEvents i g.frame.fn g.frame.place es) own' (ZF gs.size (upd Γ i s')) (LF gs.size (upd Γ i s')) rels' w'.heap.size)
    (hbase : ∀ a, own' a ≠ .free → B ≤ a.block) (hbsz : B ≤ w'.heap.size) (hold : Below B w0 w') :
    Inv P Post B w0 ((gs.map (woken P g g' w')).setIfInBounds i g') w' (t ++ MemOp.ofEvents i g.frame.fn g.frame.place es) (upd Γ i s') own' cv' la' rels' := by
  have hlt : i < gs.size := (Array.getElem?_eq_some_iff.1 hi).1
  have hsz : ((gs.map (woken P g g' w')).setIfInBounds i g').size = gs.size := by simp
  refine ⟨by rw [hsz]; exact hI.pos, fun j gj hj => ?_, ?_, by rw [hsz]; exact hmem, by rw [hsz]; exact hcrew, by rw [hsz]; exact hnorel, fun j hj hq => ?_, fun j hj => ?_, fun j hj hq a ha => ?_, fun j hj hq a ha => ?_, by rw [hsz]; exact hti, hbase, hbsz, hold⟩
  · by_cases hji : j = i
    · subst hji
      rw [Array.getElem?_setIfInBounds_self_of_lt (by simpa using hlt)] at hj
      obtain rfl := Option.some.inj hj
      rw [upd_same]
      exact hthr
    · rw [Array.getElem?_setIfInBounds_ne (Ne.symm hji), Array.getElem?_map] at hj
      obtain ⟨y, hy, rfl⟩ := Option.map_eq_some_iff.1 hj
      have hjlt : j < gs.size := (Array.getElem?_eq_some_iff.1 hy).1
      rw [upd_ne Γ s' hji]
      exact (hI.thr j y hy).other _ ofEvents_g hji (fun hq => hrel j hjlt hji hq) (fun κ k hq hp => hsm j κ k hjlt hji hq hp)
  · by_cases h0 : 0 = i
    · subst h0; rw [upd_same]; exact hmain rfl
    · rw [upd_ne Γ s' h0]; exact hI.main
  · rw [hsz] at hj
    by_cases hji : j = i
    · subst hji; rw [upd_same] at hq ⊢; exact hdeaf hq
    · rw [upd_ne Γ s' hji] at hq ⊢
      rw [Deaf_other t (Ne.symm hji) _ ofEvents_g]
      exact hI.deaf j hj hq
  · rw [hsz] at hj
    rw [Deaf_other t (g' := i) (by omega) _ ofEvents_g]
    exact hI.above j hj
  · rw [hsz] at hj
    by_cases hji : j = i
    · subst hji; rw [upd_same] at hq ha; exact hO hq a ha
    · rw [upd_ne Γ s' hji] at hq ha
      exact (hkeep a j hji).1 (hI.owO j hj hq a ha)
  · rw [hsz] at hj
    by_cases hji : j = i
    · subst hji; rw [upd_same] at hq ha; exact hU hq a ha
    · rw [upd_ne Γ s' hji] at hq ha
      exact (hkeep a j hji).2 (hI.owU j hj hq a ha)
/-- a crew whose cells, numbers and members are as they were -/
theorem CrewOk.keep {N : Nat} {Γ Γ' : Nat → GS} {u : Trace} {c1 : Nat} {l1 : Option Nat} {rel : Nat → Prop} {p : Nat} {κ : Crew} {ps : PS} {k : Nat}
    (h : CrewOk N Γ own t c1 l1 rel w p κ ps k)
    (hg : ∀ a, own a = .grp p ∨ own a = .cnt p → own' a = own a ∧ w'.cell? a = w.cell? a ∧ w'.frozen? a = w.frozen? a)
    (hp : ∀ a, own a = .pool p → own' a = .pool p)
    (hr : ∀ a r, own a = .ret p r → own' a = .ret p r ∧ w'.cell? a = w.cell? a ∧ w'.frozen? a = w.frozen? a)
    (hstage : ∀ i, i < N → (Γ' i).stage p = (Γ i).stage p) (hact : ∀ i, i < N → (Γ' i).act p = (Γ i).act p)
    (htask : ∀ i, i < N → (Γ i).quit = false → (Γ i).boss = p → ∀ lb J, (Γ i).c.mem = some (κ, .m0, lb, J) → (Γ' i).quit = false ∧ (Γ' i).boss = p ∧ ∃ lb' J', (Γ' i).c.mem = some (κ, .m0, lb', J') ∧ ∀ j, J j → J' j) :
    CrewOk N Γ' own' (t ++ u) c1 l1 rel w' p κ ps k := by
  have ec : counted N Γ' p = counted N Γ p := sumTo_congr fun i hi => by rw [hstage i hi]
  have ea : active N Γ' p = active N Γ p := sumTo_congr fun i hi => hact i hi
  have el : lastOf Γ' l1 p = lastOf Γ l1 p := by
    unfold lastOf
    cases hl : l1 with
    | none => rfl
    | some i => exact hstage i (h.lN i hl)
  have g1 := hg κ.st (.inl h.st)
  have g2 := hg κ.sm (.inl h.sm)
  have g3 := hg κ.cn (.inr h.cn)
  refine ⟨g1.1.trans h.st, g2.1.trans h.sm, g3.1.trans h.cn, ?_, ?_, by rw [g3.2.1]; exact h.cc, by rw [ea]; exact h.cb, h.kb, by rw [ec]; exact h.vb, fun i hi => by rw [hstage i hi]; exact h.lk i hi, h.lN, fun j hj hc => hp _ (h.pool j hj hc), h.inj,
    fun j hj hc => ?_, fun hk => ?_, h.full, h.stable, fun r hr => (h.rels r hr).app u, h.small, fun i hi ms => by rw [hstage i hi]; exact h.relm i hi ms⟩
  · obtain ⟨st, sm, h1, h2, h3⟩ := h.val
    exact ⟨st, sm, by rw [g1.2.1]; exact h1, by rw [g2.2.1]; exact h2, by rw [ec, el]; exact h3⟩
  · rw [g1.2.2, g2.2.2, g3.2.2]; exact h.fz
  · rcases h.task j hj hc with ⟨i, lb, J, h1, h2, h3, h4, h5⟩ | ⟨X, h1, h2⟩
    · obtain ⟨k1, k2, lb', J', k3, k4⟩ := htask i h1 h2 h3 lb J h4
      exact .inl ⟨i, lb', J', h1, k1, k2, k3, k4 j h5⟩
    · refine .inr ⟨X, fun a ha => ?_, h.stable j X w w' (fun a ha => ?_) h2⟩
      · obtain ⟨r, hr'⟩ := h1 a ha
        exact ⟨r, (hr a r hr').1⟩
      · obtain ⟨r, hr'⟩ := h1 a ha
        exact (hr a r hr').2
  · rcases h.some1 hk with ⟨i, hi, hs⟩ | hr
    · exact .inl ⟨i, hi, by rw [hstage i hi]; exact hs⟩
    · exact .inr hr
end Go.Farm
