/- An ordinary step. -/
import Derived.Test.YtidadgibhmiojaaGe
namespace Go.Farm
open Go.Conc Go.RowKit
open Go.ConcN (sumTo upd sumTo_upd upd_ne upd_same sumTo_congr le_sumTo)
variable {P : Program} {Post : Value → World → Prop} {B : Nat} {w0 : World} {gs : Array Goroutine} {w w' : World} {t : Trace} {Γ : Nat → GS} {own own' : Addr → Owner} {cv : Nat → Nat} {la : Nat → Option Nat} {rels : Nat → Nat → Prop}
/-- i's step turns cells of its own, and cells of S -/
structure WCh (own : Addr → Owner) (i : Nat) (S : AS) (w w' : World) : Prop where
  size : w.heap.size ≤ w'.heap.size
  cell : ∀ a, a.block < w.heap.size → own a ≠ .ow i → own a ≠ .un i → ¬ S a → w'.cell? a = w.cell? a
  fz : ∀ a, a.block < w.heap.size → w'.frozen? a = w.frozen? a
  ex : ∀ a u, w.cell? a = some u → ∃ u', w'.cell? a = some u'
theorem WCh.refl (own : Addr → Owner) (i : Nat) (S : AS) (w : World) : WCh own i S w w := ⟨Nat.le_refl _, fun _ _ _ _ _ => rfl, fun _ _ => rfl, fun _ u h => ⟨u, h⟩⟩
theorem rely_of (hI : Inv P Post B w0 gs w t Γ own cv la rels) {i : Nat} {S : AS} (hc : WCh own i S w w') (hS : ∀ a, S a → ∃ p, own a = .grp p ∨ own a = .cnt p)
    (hl : ∀ p κ ps k, p < gs.size → (Γ p).quit = false → (Γ p).c.par = some (κ, ps, k) → Live κ w') {j : Nat} (hj : j < gs.size) (hji : j ≠ i) (hq : (Γ j).quit = false) : Rely (Γ j).c w w' := by
  have hne : ∀ a, (Γ j).c.O a ∨ (Γ j).c.U a ∨ (Γ j).c.Z a → ∃ o, own a = o ∧ o ≠ .ow i ∧ o ≠ .un i ∧ o ≠ .free ∧ ∀ p, o ≠ .grp p ∧ o ≠ .cnt p := fun a ha => by
    rcases ha with h | h | h
    · exact ⟨_, hI.owO j hj hq a h, by simp [hji], by simp, by simp, by simp⟩
    · exact ⟨_, hI.owU j hj hq a h, by simp, by simp [hji], by simp, by simp⟩
    · exact ⟨_, hI.ti.zro a j ⟨hj, hq, h⟩, by simp, by simp, by simp, by simp⟩
  refine ⟨hc.size, fun a ha => ?_, fun κ hk => ?_, ⟨hc.size, hc.fz, hc.ex⟩⟩
  · obtain ⟨o, h1, h2, h3, h4, h5⟩ := hne a ha
    have hb := hI.ti.big a (by rw [h1]; exact h4)
    refine ⟨hc.cell a hb (by rw [h1]; exact h2) (by rw [h1]; exact h3) (fun hs => ?_), hc.fz a hb⟩
    obtain ⟨p, hp⟩ := hS a hs
    rw [h1] at hp
    rcases hp with hp | hp
    · exact (h5 p).1 hp
    · exact (h5 p).2 hp
  · rcases hk with ⟨ps, k, hp⟩ | ⟨ms, lb, J, hm⟩
    · exact hl j κ ps k hj hq hp
    · have h0 : 0 < j := by
        rcases Nat.eq_zero_or_pos j with rfl | h
        · rw [hI.main.2] at hm; cases hm
        · exact h
      obtain ⟨κ', ms', lb', J', ps, k, h1, h2, h3, h4, -⟩ := hI.mem j hj h0 hq
      rw [hm] at h1
      injection h1 with e
      injection e with e1 e
      subst e1
      exact hl _ κ ps k (by omega) h3 h4
theorem CrewOk.live {N : Nat} {c1 : Nat} {l1 : Option Nat} {rel : Nat → Prop} {p : Nat} {κ : Crew} {ps : PS} {k : Nat} (h : CrewOk N Γ own t c1 l1 rel w p κ ps k) : Live κ w := by
  obtain ⟨st, sm, h1, h2, -⟩ := h.val
  exact ⟨st, sm, h1, h2⟩
theorem Inv.rely0 (hI : Inv P Post B w0 gs w t Γ own cv la rels) {j : Nat} (hj : j < gs.size) (hq : (Γ j).quit = false) : Rely (Γ j).c w w := by
  refine ⟨Nat.le_refl _, fun _ _ => ⟨rfl, rfl⟩, fun κ hk => ?_, Grow.refl _⟩
  rcases hk with ⟨ps, k, hp⟩ | ⟨ms, lb, J, hm⟩
  · exact (hI.crew j κ ps k hj hq hp).live
  · have h0 : 0 < j := by
      rcases Nat.eq_zero_or_pos j with rfl | h
      · rw [hI.main.2] at hm; cases hm
      · exact h
    obtain ⟨κ', ms', lb', J', ps, k, h1, h2, h3, h4, -⟩ := hI.mem j hj h0 hq
    rw [hm] at h1
    injection h1 with e
    injection e with e1 e
    subst e1
    exact (hI.crew _ κ ps k (by omega) h3 h4).live
/-- a ghost that keeps who it is of, its crew, keeps the crews' numbers -/
theorem stage_upd {i j p : Nat} {s' : GS} (h1 : s'.quit = (Γ i).quit) (h2 : s'.boss = (Γ i).boss) (h3 : s'.c.mem = (Γ i).c.mem) : (upd Γ i s' j).stage p = (Γ j).stage p ∧ (upd Γ i s' j).act p = (Γ j).act p := by
  by_cases hj : j = i
  · subst hj
    rw [upd_same]
    unfold GS.stage GS.act
    rw [h1, h2, h3]
    exact ⟨rfl, rfl⟩
  · rw [upd_ne Γ s' hj]
    exact ⟨rfl, rfl⟩
theorem evs_touch {c : Cx} {e : Event} {b : Touch} (h : EvOk c e) (hb : (MemAct.ofEvent e).touch? = some b) : ∃ a, e.loc = .cell a ∧ b.loc = .cell a ∧ b.write = e.write ∧ (if e.write then c.O a else c.O a ∨ c.Z a) := by
  obtain ⟨loc, wr, sy⟩ := e
  cases loc with
  | cell a =>
    simp only [EvOk] at h
    simp only [MemAct.ofEvent, MemAct.touch?, Option.some.injEq] at hb
    subst hb
    exact ⟨a, rfl, rfl, rfl, h⟩
  | mark m =>
    simp only [EvOk] at h
    simp only [MemAct.ofEvent] at hb
    rcases h with ⟨f, rfl⟩ | rfl | ⟨x, rfl | rfl, -⟩ | ⟨rfl | rfl, -⟩ <;> simp [MemAct.touch?] at hb
  | _ => exact h.elim
theorem evs_mark {c : Cx} {e : Event} (h : EvOk c e) : ((e.loc ≠ .mark .disable ∧ e.loc ≠ .mark .enable) ∨ (c.par = none ∧ c.mem = none)) ∧ ∀ a, MemAct.ofEvent e ≠ .mark (.release a) := by
  obtain ⟨loc, wr, sy⟩ := e
  cases loc with
  | cell a => refine ⟨.inl ⟨by simp, by simp⟩, fun b => by simp [MemAct.ofEvent]⟩
  | mark m =>
    simp only [EvOk] at h
    rcases h with ⟨f, rfl⟩ | rfl | ⟨x, rfl | rfl, -⟩ | ⟨hm, hn⟩
    · simp [MemAct.ofEvent]
    · simp [MemAct.ofEvent]
    · simp [MemAct.ofEvent]
    · simp [MemAct.ofEvent]
    · refine ⟨.inr hn, fun b => ?_⟩
      rcases hm with rfl | rfl <;> simp [MemAct.ofEvent]
  | _ => exact h.elim
theorem evs_low {c : Cx} {e : Event} {size : Nat} (h : EvOk c e) (hs : ∀ a, c.O a ∨ c.Z a → a.block < size) : (MemAct.ofEvent e).low size := by
  obtain ⟨loc, wr, sy⟩ := e
  cases loc with
  | cell a =>
    simp only [EvOk] at h
    show (Loc.cell a).low size
    refine hs a ?_
    split at h
    · exact .inl h
    · exact h
  | mark m =>
    simp only [EvOk] at h
    rcases h with ⟨f, rfl⟩ | rfl | ⟨x, rfl | rfl, hx⟩ | ⟨rfl | rfl, -⟩
    · simp [MemAct.ofEvent, MemAct.low]
    · simp [MemAct.ofEvent, MemAct.low]
    · exact hs x (.inl hx)
    · exact hs x (.inl hx)
    · simp [MemAct.ofEvent, MemAct.low]
    · simp [MemAct.ofEvent, MemAct.low]
  | _ => exact h.elim
/-- who lives: not one that has released -/
theorem bare_of (hI : Inv P Post B w0 gs w t Γ own cv la rels) {i : Nat} (hi : i < gs.size) (hq : (Γ i).quit = false) (h : ¬ LF gs.size Γ i) : ∃ κ ms lb J, (Γ i).c = Cx.bare κ ms lb J ∧ ms ≠ .m0 ∧ (Γ i).c.mem = some (κ, ms, lb, J) := by
  have : ∃ κ ms lb J, (Γ i).c.mem = some (κ, ms, lb, J) ∧ ms ≠ .m0 := by
    apply Classical.byContradiction
    intro hn
    refine h ⟨hi, hq, fun κ ms lb J hm => ?_⟩
    apply Classical.byContradiction
    intro hms
    exact hn ⟨κ, ms, lb, J, hm, hms⟩
  obtain ⟨κ, ms, lb, J, hm, hms⟩ := this
  have h0 : 0 < i := by
    rcases Nat.eq_zero_or_pos i with rfl | h
    · rw [hI.main.2] at hm; cases hm
    · exact h
  obtain ⟨κ', ms', lb', J', ps, k, h1, -, -, -, -, h6⟩ := hI.mem i hi h0 hq
  rw [hm] at h1
  injection h1 with e
  injection e with e1 e
  injection e with e2 e
  injection e with e3 e4
  subst e1; subst e2; subst e3; subst e4
  exact ⟨κ, ms, lb, J, h6 hms, hms, hm⟩
/-- ████ an ordinary step ████ -/
theorem step_idle (hI : Inv P Post B w0 gs w t Γ own cv la rels) {i : Nat} {g g' : Goroutine} {es : Array Event} {c' : Cx} {n : Nat} (hi : gs[i]? = some g) (hq : (Γ i).quit = false)
    (hId : Idle (Γ i).c w w' es c') (hT : T P Post n (i == 0) c' g' w') :
    ∃ own', Inv P Post B w0 ((gs.map (woken P g g' w')).setIfInBounds i g') w' (t ++ MemOp.ofEvents i g.frame.fn g.frame.place es) (upd Γ i ⟨n, c', false, (Γ i).boss⟩) own' cv la rels := by
  classical
  have hlt : i < gs.size := (Array.getElem?_eq_some_iff.1 hi).1
  have hO := hI.owO i hlt hq
  have hU := hI.owU i hlt hq
  have hZ : ∀ a, (Γ i).c.Z a → own a = .ro := fun a ha => hI.ti.zro a i ⟨hlt, hq, ha⟩
  have hbig := hI.ti.big
  have free_new : ∀ a : Addr, w.heap.size ≤ a.block → own a = .free := fun a ha => Classical.byContradiction fun hn => by have := hbig a hn; omega
  let o' : Addr → Owner := fun a => if c'.O a then .ow i else if c'.U a then .un i else if c'.Z a then .ro else if own a = .ow i ∨ own a = .un i then .free else own a
  -- where a cell of c' comes from
  have srcOU : ∀ a, c'.O a ∨ c'.U a → own a = .ow i ∨ own a = .un i ∨ w.heap.size ≤ a.block := fun a ha => by
    rcases hId.own a ha with h | h | h
    · exact .inl (hO a h)
    · exact .inr (.inl (hU a h))
    · exact .inr (.inr h.1)
  have srcZ : ∀ a, c'.Z a → ((Γ i).c.Z a ∧ own a = .ro) ∨ own a = .ow i ∨ own a = .un i ∨ w.heap.size ≤ a.block := fun a ha => by
    rcases hId.ro a ha with h | h | h | h
    · exact .inl ⟨h, hZ a h⟩
    · exact .inr (.inl (hO a h))
    · exact .inr (.inr (.inl (hU a h)))
    · exact .inr (.inr (.inr h.1))
  have oO : ∀ a, c'.O a → o' a = .ow i := fun a h => if_pos h
  have oU : ∀ a, c'.U a → o' a = .un i := fun a h => by
    show (if c'.O a then _ else _) = _
    rw [if_neg (fun e => hId.ou a e h), if_pos h]
  have oZ : ∀ a, c'.Z a → o' a = .ro := fun a h => by
    show (if c'.O a then _ else _) = _
    rw [if_neg (hId.oz a h).1, if_neg (hId.oz a h).2, if_pos h]
  -- a cell that is neither i's nor new is let be
  have oK : ∀ a, own a ≠ .ow i → own a ≠ .un i → own a ≠ .free → o' a = own a := fun a h1 h2 h3 => by
    have hb := hbig a h3
    show (if c'.O a then _ else _) = _
    rw [if_neg (fun e => by rcases srcOU a (.inl e) with h | h | h; exact h1 h; exact h2 h; omega),
      if_neg (fun e => by rcases srcOU a (.inr e) with h | h | h; exact h1 h; exact h2 h; omega)]
    by_cases hz : c'.Z a
    · rw [if_pos hz]
      rcases srcZ a hz with ⟨-, h⟩ | h | h | h
      · exact h.symm
      · exact absurd h h1
      · exact absurd h h2
      · omega
    · rw [if_neg hz, if_neg (fun e => e.elim h1 h2)]
  have oC : ∀ a, o' a = .ow i ∧ c'.O a ∨ o' a = .un i ∧ c'.U a ∨ o' a = .ro ∧ c'.Z a ∨ o' a = .free ∨ (o' a = own a ∧ own a ≠ .ow i ∧ own a ≠ .un i) := fun a => by
    by_cases h1 : c'.O a
    · exact .inl ⟨oO a h1, h1⟩
    by_cases h2 : c'.U a
    · exact .inr (.inl ⟨oU a h2, h2⟩)
    by_cases h3 : c'.Z a
    · exact .inr (.inr (.inl ⟨oZ a h3, h3⟩))
    by_cases h4 : own a = .ow i ∨ own a = .un i
    · refine .inr (.inr (.inr (.inl ?_)))
      show (if c'.O a then _ else _) = _
      rw [if_neg h1, if_neg h2, if_neg h3, if_pos h4]
    · refine .inr (.inr (.inr (.inr ⟨?_, fun e => h4 (.inl e), fun e => h4 (.inr e)⟩)))
      show (if c'.O a then _ else _) = _
      rw [if_neg h1, if_neg h2, if_neg h3, if_neg h4]
  have hch : WCh own i (fun _ => False) w w' := ⟨hId.size, fun a hb h1 h2 _ => hId.cell a hb (fun e => e.elim (fun e => h1 (hO a e)) (fun e => h2 (hU a e))), fun a hb => hId.frozen a hb, hId.ex⟩
  have hlow' : ∀ a, c'.O a ∨ c'.U a ∨ c'.Z a → a.block < w'.heap.size := fun a ha => by
    have key : (own a = .ow i ∨ own a = .un i ∨ own a = .ro) ∨ a.block < w'.heap.size := by
      rcases ha with h | h | h
      · rcases hId.own a (.inl h) with k | k | k
        · exact .inl (.inl (hO a k))
        · exact .inl (.inr (.inl (hU a k)))
        · exact .inr k.2
      · rcases hId.own a (.inr h) with k | k | k
        · exact .inl (.inl (hO a k))
        · exact .inl (.inr (.inl (hU a k)))
        · exact .inr k.2
      · rcases hId.ro a h with k | k | k | k
        · exact .inl (.inr (.inr (hZ a k)))
        · exact .inl (.inl (hO a k))
        · exact .inl (.inr (.inl (hU a k)))
        · exact .inr k.2
    rcases key with h | h
    · exact Nat.lt_of_lt_of_le (hbig a (by rcases h with h | h | h <;> rw [h] <;> simp)) hId.size
    · exact h
  have same : ∀ a, (∃ p, own a = .grp p ∨ own a = .cnt p ∨ own a = .pool p ∨ ∃ r, own a = .ret p r) → o' a = own a ∧ w'.cell? a = w.cell? a ∧ w'.frozen? a = w.frozen? a := fun a ⟨p, hp⟩ => by
    have h1 : own a ≠ .ow i := by rcases hp with h | h | h | ⟨r, h⟩ <;> rw [h] <;> simp
    have h2 : own a ≠ .un i := by rcases hp with h | h | h | ⟨r, h⟩ <;> rw [h] <;> simp
    have h3 : own a ≠ .free := by rcases hp with h | h | h | ⟨r, h⟩ <;> rw [h] <;> simp
    exact ⟨oK a h1 h2 h3, hch.cell a (hbig a h3) h1 h2 (fun e => e), hch.fz a (hbig a h3)⟩
  have hup : ∀ p, (upd Γ i ⟨n, c', false, (Γ i).boss⟩ p).quit = (Γ p).quit ∧ (upd Γ i ⟨n, c', false, (Γ i).boss⟩ p).boss = (Γ p).boss ∧ (upd Γ i ⟨n, c', false, (Γ i).boss⟩ p).c.mem = (Γ p).c.mem ∧ (upd Γ i ⟨n, c', false, (Γ i).boss⟩ p).c.par = (Γ p).c.par := fun p => by
    by_cases hp : p = i
    · subst hp; rw [upd_same]; exact ⟨hq.symm, rfl, hId.mem, hId.par⟩
    · rw [upd_ne Γ _ hp]; exact ⟨rfl, rfl, rfl, rfl⟩
  have hcrew : ∀ p κ ps k, p < gs.size → (Γ p).quit = false → (Γ p).c.par = some (κ, ps, k) →
      CrewOk gs.size (upd Γ i ⟨n, c', false, (Γ i).boss⟩) o' (t ++ MemOp.ofEvents i g.frame.fn g.frame.place es) (cv p) (la p) (rels p) w' p κ ps k := fun p κ ps k hp hpq hpar => by
    refine (hI.crew p κ ps k hp hpq hpar).keep (fun a ha => ?_) (fun a ha => ?_) (fun a r ha => ?_) (fun j _ => ?_) (fun j _ => ?_) (fun j _ h1 h2 lb J h3 => ?_)
    · exact same a ⟨p, by rcases ha with h | h <;> simp [h]⟩
    · rw [(same a ⟨p, by simp [ha]⟩).1]; exact ha
    · obtain ⟨k1, k2, k3⟩ := same a ⟨p, .inr (.inr (.inr ⟨r, ha⟩))⟩
      exact ⟨k1.trans ha, k2, k3⟩
    · exact (stage_upd (s' := ⟨n, c', false, (Γ i).boss⟩) hq.symm rfl hId.mem).1
    · exact (stage_upd (s' := ⟨n, c', false, (Γ i).boss⟩) hq.symm rfl hId.mem).2
    · obtain ⟨e1, e2, e3, -⟩ := hup j
      exact ⟨e1.trans h1, e2.trans h2, lb, J, e3.trans h3, fun _ x => x⟩
  refine ⟨o', hI.go (cv' := cv) (la' := la) (rels' := rels) (own' := o') hi ?_ (fun j hj hji hjq => rely_of hI hch (fun _ e => e.elim) (fun p κ ps k hp hpq hpar => (hcrew p κ ps k hp hpq hpar).live) hj hji hjq)
    (fun j κ k hj hji hjq hp => .inl ?_) (fun h0 => ⟨rfl, ?_⟩) ?_ (fun p κ ps k hp hpq hpar => ?_) ?_ (fun _ => ?_) (fun _ a h => oO a h) (fun _ a h => oU a h) (fun a j hji => ⟨fun h => ?_, fun h => ?_⟩) ?_ (fun a ha => ?_) (Nat.le_trans hI.bsz hId.size) ?_⟩
  · unfold Thr
    rw [if_neg (by simp)]
    exact ⟨g', hT, .inl rfl⟩
  · have := (hI.crew j κ .p5 k hj hjq hp).sm
    exact (same κ.sm ⟨j, .inl this⟩).2.1
  · subst h0
    show c'.mem = none
    rw [hId.mem]; exact hI.main.2
  · intro j hj h0 hjq
    obtain ⟨e1, e2, e3, -⟩ := hup j
    rw [e1] at hjq
    obtain ⟨κ, ms, lb, J, ps, k, k1, k2, k3, k4, k5, k6⟩ := hI.mem j hj h0 hjq
    obtain ⟨f1, -, -, f4⟩ := hup (Γ j).boss
    refine ⟨κ, ms, lb, J, ps, k, e3.trans k1, by rw [e2]; exact k2, by rw [e2, f1]; exact k3, by rw [e2, f4]; exact k4, by rw [e2]; exact k5, fun hms => ?_⟩
    by_cases hji : j = i
    · subst hji
      rw [upd_same]
      show c' = _
      rw [hId.bare κ ms lb J k1 hms]
      exact k6 hms
    · rw [upd_ne Γ _ hji]; exact k6 hms
  · obtain ⟨e1, -, -, e4⟩ := hup p
    rw [e1] at hpq
    rw [e4] at hpar
    exact hcrew p κ ps k hp hpq hpar
  · intro p r hr
    obtain ⟨h1, h2, x, h3⟩ := hI.norel p r hr
    obtain ⟨e1, -, -, e4⟩ := hup p
    exact ⟨h1, e1.trans h2, x, e4.trans h3⟩
  · rw [Deaf_own, hI.deaf i hlt hq]
    show deafBehind (Γ i).c.deaf es = c'.deaf
    by_cases hn : (Γ i).c.par = none ∧ (Γ i).c.mem = none
    · have h1 : (Γ i).c.deaf = (Γ i).c.lk := by unfold Cx.deaf; rw [hn.1, hn.2]; rfl
      have h2 : c'.deaf = c'.lk := by unfold Cx.deaf; rw [hId.par, hId.mem, hn.1, hn.2]; rfl
      rw [h1, h2, hId.lk]
    · have hst := deafBehind_still (es := es) (fun e he => (evs_mark (hId.evs e he)).1.resolve_right (by rw [hId.par, hId.mem]; exact hn))
      rw [hst]
      have h3 : c'.lk = (Γ i).c.lk := by rw [hId.lk, hst]
      unfold Cx.deaf
      rw [hId.par, hId.mem, h3]
  · rw [oK a (by rw [h]; simp [hji]) (by rw [h]; simp) (by rw [h]; simp)]; exact h
  · rw [oK a (by rw [h]; simp) (by rw [h]; simp [hji]) (by rw [h]; simp)]; exact h
  · -- the trace
    have hzf : ∀ j a, ZF gs.size (upd Γ i ⟨n, c', false, (Γ i).boss⟩) j a → (j = i ∧ c'.Z a) ∨ (j ≠ i ∧ ZF gs.size Γ j a) := fun j a ⟨h1, h2, h3⟩ => by
      by_cases hji : j = i
      · subst hji; rw [upd_same] at h3; exact .inl ⟨rfl, h3⟩
      · rw [upd_ne Γ _ hji] at h2 h3; exact .inr ⟨hji, h1, h2, h3⟩
    have hlf : LF gs.size (upd Γ i ⟨n, c', false, (Γ i).boss⟩) = LF gs.size Γ := by
      funext j
      unfold LF
      obtain ⟨e1, -, e3, -⟩ := hup j
      rw [e1, e3]
    rw [hlf]
    refine hI.ti.app _ ofEvents_g ⟨hId.size, fun a j h => ?_, fun a j h => ?_, fun a p h => ?_, fun a p r h => ?_, fun a p h => ?_, fun a p h => ?_, fun j a h => ?_, fun a h => ?_⟩ (fun op hop b hb => ?_) (fun op hop => ?_) (fun op hop a => ?_) ?_
    · rcases oC a with ⟨h1, h2⟩ | ⟨h1, -⟩ | ⟨h1, -⟩ | h1 | ⟨h1, h2, -⟩
      · rw [h1] at h; injection h with e; subst e
        rcases srcOU a (.inl h2) with k | k | k
        · exact .inl k
        · exact .inr ⟨rfl, .inl k⟩
        · exact .inr ⟨rfl, .inr k⟩
      · rw [h1] at h; cases h
      · rw [h1] at h; cases h
      · rw [h1] at h; cases h
      · exact .inl (h1 ▸ h)
    · rcases oC a with ⟨h1, -⟩ | ⟨h1, h2⟩ | ⟨h1, -⟩ | h1 | ⟨h1, -, -⟩
      · rw [h1] at h; cases h
      · rw [h1] at h; injection h with e; subst e
        rcases hId.un a h2 with k | k
        · exact .inl (hU a k)
        · exact .inr ⟨rfl, .inl k.1⟩
      · rw [h1] at h; cases h
      · rw [h1] at h; cases h
      · exact .inl (h1 ▸ h)
    · rcases oC a with ⟨h1, -⟩ | ⟨h1, -⟩ | ⟨h1, -⟩ | h1 | ⟨h1, -, -⟩
      · rw [h1] at h; cases h
      · rw [h1] at h; cases h
      · rw [h1] at h; cases h
      · rw [h1] at h; cases h
      · exact .inl (h1 ▸ h)
    · rcases oC a with ⟨h1, -⟩ | ⟨h1, -⟩ | ⟨h1, -⟩ | h1 | ⟨h1, -, -⟩
      · rw [h1] at h; cases h
      · rw [h1] at h; cases h
      · rw [h1] at h; cases h
      · rw [h1] at h; cases h
      · exact h1 ▸ h
    · rcases oC a with ⟨h1, -⟩ | ⟨h1, -⟩ | ⟨h1, -⟩ | h1 | ⟨h1, -, -⟩
      · rw [h1] at h; cases h
      · rw [h1] at h; cases h
      · rw [h1] at h; cases h
      · rw [h1] at h; cases h
      · exact .inl (h1 ▸ h)
    · rcases oC a with ⟨h1, -⟩ | ⟨h1, -⟩ | ⟨h1, -⟩ | h1 | ⟨h1, -, -⟩
      · rw [h1] at h; cases h
      · rw [h1] at h; cases h
      · rw [h1] at h; cases h
      · rw [h1] at h; cases h
      · exact .inl (h1 ▸ h)
    · rcases hzf j a h with ⟨rfl, hz⟩ | ⟨hji, hz⟩
      · refine ⟨oZ a hz, ?_⟩
        rcases srcZ a hz with ⟨k, -⟩ | k | k | k
        · exact .inl ⟨hlt, hq, k⟩
        · exact .inr ⟨rfl, .inl k⟩
        · exact .inr ⟨rfl, .inr (.inl k)⟩
        · exact .inr ⟨rfl, .inr (.inr k)⟩
      · have hro := hI.ti.zro a j hz
        exact ⟨(oK a (by rw [hro]; simp) (by rw [hro]; simp) (by rw [hro]; simp)).trans hro, .inl hz⟩
    · rcases oC a with ⟨-, h1⟩ | ⟨-, h1⟩ | ⟨-, h1⟩ | h1 | ⟨h1, -, -⟩
      · exact hlow' a (.inl h1)
      · exact hlow' a (.inr (.inl h1))
      · exact hlow' a (.inr (.inr h1))
      · exact absurd h1 h
      · rw [h1] at h; exact Nat.lt_of_lt_of_le (hbig a h) hId.size
    · obtain ⟨e, he, rfl⟩ := Go.Conc.mem_ofEvents hop
      obtain ⟨a, -, h2, h3, h4⟩ := evs_touch (hId.evs e he) hb
      have own1 : c'.O a → Touches own o' (ZF gs.size Γ) w.heap.size i b := fun hO' => ⟨a, h2, .inl ⟨srcOU a (.inl hO'), .inl (oO a hO')⟩⟩
      cases hw : e.write with
      | true => rw [hw] at h4; exact own1 (by simpa using h4)
      | false =>
        rw [hw] at h4 h3
        rcases (by simpa using h4 : c'.O a ∨ c'.Z a) with h5 | h5
        · exact own1 h5
        · rcases srcZ a h5 with ⟨k1, k2⟩ | k | k | k
          · exact ⟨a, h2, .inr (.inl ⟨k2, ⟨hlt, hq, k1⟩, h3, oZ a h5⟩)⟩
          · exact ⟨a, h2, .inl ⟨.inl k, .inr (.inl (oZ a h5))⟩⟩
          · exact ⟨a, h2, .inl ⟨.inr (.inl k), .inr (.inl (oZ a h5))⟩⟩
          · exact ⟨a, h2, .inl ⟨.inr (.inr k), .inr (.inl (oZ a h5))⟩⟩
    · obtain ⟨e, he, rfl⟩ := Go.Conc.mem_ofEvents hop
      exact evs_low (hId.evs e he) (fun a ha => hlow' a (ha.elim .inl (fun x => .inr (.inr x))))
    · obtain ⟨e, he, rfl⟩ := Go.Conc.mem_ofEvents hop
      exact (evs_mark (hId.evs e he)).2 a
    · by_cases hL : LF gs.size Γ i
      · exact .inl hL
      · refine .inr fun x hx ⟨b, hb, _⟩ => ?_
        obtain ⟨κ, ms, lb, J, hb1, hms, hm⟩ := bare_of hI hlt hq hL
        have hc' := hId.bare κ ms lb J hm hms
        obtain ⟨op, hop, hob⟩ := touch_of hb
        rcases getElem?_append_cases hop with ⟨hlt2, _⟩ | ⟨_, hmem⟩
        · omega
        · obtain ⟨e, he, rfl⟩ := Go.Conc.mem_ofEvents hmem
          obtain ⟨a, -, -, -, h4⟩ := evs_touch (hId.evs e he) hob
          rw [hc', hb1] at h4
          cases hw : e.write <;> rw [hw] at h4 <;> simp [Cx.bare, none3] at h4
  · rcases oC a with ⟨-, h1⟩ | ⟨-, h1⟩ | ⟨-, h1⟩ | h1 | ⟨h1, -, -⟩
    · rcases srcOU a (.inl h1) with k | k | k
      · exact hI.base a (by rw [k]; simp)
      · exact hI.base a (by rw [k]; simp)
      · exact Nat.le_trans hI.bsz k
    · rcases srcOU a (.inr h1) with k | k | k
      · exact hI.base a (by rw [k]; simp)
      · exact hI.base a (by rw [k]; simp)
      · exact Nat.le_trans hI.bsz k
    · rcases srcZ a h1 with ⟨-, k⟩ | k | k | k
      · exact hI.base a (by rw [k]; simp)
      · exact hI.base a (by rw [k]; simp)
      · exact hI.base a (by rw [k]; simp)
      · exact Nat.le_trans hI.bsz k
    · exact absurd h1 ha
    · rw [h1] at ha; exact hI.base a ha
  · refine hI.old.trans ⟨hId.os, hId.tape, hId.output, hId.size, fun k hk => hId.block k (Nat.lt_of_lt_of_le hk hI.bsz) fun a ha hOU => ?_⟩
    have : B ≤ a.block := hI.base a (by rcases hOU with h | h; rw [hO a h]; simp; rw [hU a h]; simp)
    omega
end Go.Farm
