/- Somebody can always go on; the end. -/
import Derived.Test.YtidadgibhmiojaaGn
namespace Go.Farm
open Go.Conc Go.RowKit
open Go.ConcN (sumTo upd sumTo_upd upd_ne upd_same sumTo_congr le_sumTo sumTo_le sumTo_upd_out)
variable {P : Program} {Post : Value → World → Prop} {B : Nat} {w0 : World} {gs : Array Goroutine} {w w' : World} {t : Trace} {Γ Γ' : Nat → GS} {own own' : Addr → Owner} {cv cv' : Nat → Nat} {la la' : Nat → Option Nat} {rels rels' : Nat → Nat → Prop}
/-- a draw turns nothing -/
theorem Inv.at (hI : Inv P Post B w0 gs w t Γ own cv la rels) (d : Nat) : Inv P Post B w0 gs (w.at d) t Γ own cv la rels := by
  have hc : ∀ a, (w.at d).cell? a = w.cell? a := fun _ => rfl
  have hf : ∀ a, (w.at d).frozen? a = w.frozen? a := fun _ => rfl
  refine ⟨hI.pos, fun i g hg => ?_, hI.main, hI.mem, fun q κq psq kq h1 h2 h3 => ?_, hI.norel, hI.deaf, hI.above, hI.owO, hI.owU, hI.ti, hI.base, hI.bsz, hI.old.trans ⟨rfl, rfl, rfl, Nat.le_refl _, fun _ _ => rfl⟩⟩
  · have hlt : i < gs.size := (Array.getElem?_eq_some_iff.1 hg).1
    have := hI.thr i g hg
    unfold Thr at this ⊢
    split
    · rename_i hq
      rw [if_pos hq] at this; exact this
    · rename_i hq
      rw [if_neg hq] at this
      obtain ⟨g0, hT, h⟩ := this
      have hr := hI.rely0 hlt (by simpa using hq)
      exact ⟨g0, hT.rely ⟨Nat.le_refl _, fun _ _ => ⟨rfl, rfl⟩, hr.live, ⟨Nat.le_refl _, fun _ _ => rfl, fun _ u h => ⟨u, h⟩⟩⟩, h⟩
  · have h := hI.crew q κq psq kq h1 h2 h3
    exact ⟨h.st, h.sm, h.cn, h.val, h.fz, h.cc, h.cb, h.kb, h.vb, h.lk, h.lN, h.pool, h.inj, fun j hj hcj => (h.task j hj hcj).imp id (fun ⟨X, k1, k2⟩ => ⟨X, k1, h.stable j X w (w.at d) (fun _ _ => ⟨rfl, rfl⟩) k2⟩), h.some1, h.full, h.stable, h.rels, h.small, h.relm⟩
theorem Inv.awake (hI : Inv P Post B w0 gs w t Γ own cv la rels) : ∀ g ∈ gs, awake g := fun g hg => by
  obtain ⟨i, hi, rfl⟩ := Array.mem_iff_getElem.1 hg
  have := hI.thr i gs[i] (by simp [hi])
  unfold Thr at this
  split at this
  · rcases this.2.status with h | h
    · exact awake_of (.inl h)
    · exact awake_of (.inr (.inr h))
  · obtain ⟨g0, hT, h | ⟨h, -⟩⟩ := this
    · exact awake_of (.inl (by rw [h]; exact hT.running))
    · exact awake_of (.inr (.inl (by rw [h])))
/-- ████ somebody can go on ████ -/
theorem Inv.someone (hI : Inv P Post B w0 gs w t Γ own cv la rels) : ∃ (i : Nat) (g : Goroutine), gs[i]? = some g ∧ g.status = .running := by
  apply Classical.byContradiction
  intro hno
  have key : ∀ d p, gs.size - p ≤ d → p < gs.size → (Γ p).quit = false → False := by
    intro d
    induction d with
    | zero => intro p h1 h2; omega
    | succ d ih =>
      intro p h1 h2 h3
      have hthr := hI.thr p gs[p] (by simp [h2])
      unfold Thr at hthr
      rw [if_neg (by rw [h3]; simp)] at hthr
      obtain ⟨g0, hT, h | ⟨-, -, κ, k, hp, hs⟩⟩ := hthr
      · exact hno ⟨p, gs[p], by simp [h2], by rw [h]; exact hT.running⟩
      · have hC := hI.crew p κ .p5 k h2 h3 hp
        obtain ⟨st, sm, -, v2, v3⟩ := hC.val
        have hsm : sm = 0 := by
          rw [hs] at v2
          injection v2 with e; injection e with _ e
          exact (Int.ofNat.inj e).symm
        -- one of p's is at work
        have hm : ∃ j, j < gs.size ∧ ((Γ j).stage p).isSome = true := by
          have hl : ∀ ms, lastOf Γ (la p) p = some ms → ∃ j, j < gs.size ∧ ((Γ j).stage p).isSome = true := fun ms h => by
            unfold lastOf at h
            cases e : la p with
            | none => rw [e] at h; cases h
            | some x =>
              rw [e] at h
              have h' : (Γ x).stage p = some ms := h
              exact ⟨x, hC.lN x e, by rw [h']; rfl⟩
          rcases v3 with ⟨-, x2, -, -⟩ | ⟨-, x2 | x2, -, -⟩ | ⟨-, x2, -, -⟩ | ⟨-, -, -, x2⟩
          · apply Classical.byContradiction
            intro hn
            have : counted gs.size Γ p = 0 := sumTo_zero fun j hj => by
              cases e : (Γ j).stage p with
              | none => rfl
              | some ms => exact absurd ⟨j, hj, by rw [e]; rfl⟩ hn
            have x2' : 1 ≤ counted gs.size Γ p + 0 := x2
            omega
          · exact hl _ x2
          · exact hl _ x2
          · exact hl _ x2
          · omega
        obtain ⟨j, hj, hsj⟩ := hm
        have hqb : (Γ j).quit = false ∧ (Γ j).boss = p := by
          apply Classical.byContradiction
          intro hn
          unfold GS.stage at hsj
          rw [if_neg hn] at hsj
          cases hsj
        have h0 : 0 < j := by
          rcases Nat.eq_zero_or_pos j with rfl | h
          · unfold GS.stage at hsj
            rw [if_pos hqb, hI.main.2] at hsj
            cases hsj
          · exact h
        obtain ⟨_, _, _, _, _, _, -, hb, -⟩ := hI.mem j hj h0 hqb.1
        rw [hqb.2] at hb
        exact ih j (by omega) hj hqb.1
  exact key gs.size 0 (by omega) hI.pos hI.main.1
/-- with the starter at its end, all others only leave -/
theorem Inv.alone (hI : Inv P Post B w0 gs w t Γ own cv la rels) (hp : (Γ 0).c.par = none) : ∀ i, i < gs.size → (Γ i).quit = false → i = 0 := by
  intro i
  induction i using Nat.strongRecOn with
  | _ i ih =>
    intro hi hq
    rcases Nat.eq_zero_or_pos i with h | h
    · exact h
    · obtain ⟨κ, ms, lb, J, ps, k, -, k2, k3, k4, -⟩ := hI.mem i hi h hq
      have := ih _ k2 (by omega) k3
      rw [this, hp] at k4
      cases k4
/-- what a run that has ended hands over -/
def Fine (P : Program) (Post : Value → World → Prop) (B : Nat) (w0 : World) (m : Machine) (o : Outcome) (w' : World) (t' : Trace) : Prop :=
  (∃ v, o = .done v ∧ Post v w') ∧ (∀ said, ¬ Race said t') ∧ t'.HandedOver ∧ m.OnlyLeaving P ∧ m.EndHearing P t' ∧ Below B w0 w'
/-- ████ the end ████ -/
theorem Inv.fine (hI : Inv P Post B w0 gs w t Γ own cv la rels) {g : Goroutine} {v : Value} {es : Array Event} {sl : Option (Nat × Nat)} {wm : World} (hp : (Γ 0).c.par = none)
    (hes : ∀ e ∈ es, EvOk (Γ 0).c e) (hpost : Post v w) : Fine P Post B w0 (crowd gs wm sl) (.done v) w (t ++ MemOp.ofEvents 0 g.frame.fn g.frame.place es) := by
  have hq := hI.main.1
  have hL : LF gs.size Γ 0 := ⟨hI.pos, hq, fun κ ms lb J h => by rw [hI.main.2] at h; cases h⟩
  have hO := hI.owO 0 hI.pos hq
  have hti : TI (t ++ MemOp.ofEvents 0 g.frame.fn g.frame.place es) own (ZF gs.size Γ) (LF gs.size Γ) rels w.heap.size := by
    refine hI.ti.app _ ofEvents_g ⟨Nat.le_refl _, fun a j h => .inl h, fun a j h => .inl h, fun a q h => .inl h, fun a q r h => h, fun a q h => .inl h, fun a q h => .inl h, fun j a h => ⟨hI.ti.zro a j h, .inl h⟩, hI.ti.big⟩ (fun op hop b hb => ?_) (fun op hop => ?_) (fun op hop a => ?_) (.inl hL)
    · obtain ⟨e, he, rfl⟩ := Go.Conc.mem_ofEvents hop
      obtain ⟨a, -, h2, h3, h4⟩ := evs_touch (hes e he) hb
      cases hw : e.write with
      | true =>
        rw [hw] at h4
        have h5 := hO a (by simpa using h4)
        exact ⟨a, h2, .inl ⟨.inl h5, .inl h5⟩⟩
      | false =>
        rw [hw] at h4 h3
        rcases (by simpa using h4 : (Γ 0).c.O a ∨ (Γ 0).c.Z a) with h5 | h5
        · have h6 := hO a h5
          exact ⟨a, h2, .inl ⟨.inl h6, .inl h6⟩⟩
        · have h6 := hI.ti.zro a 0 ⟨hI.pos, hq, h5⟩
          exact ⟨a, h2, .inr (.inl ⟨h6, ⟨hI.pos, hq, h5⟩, h3, h6⟩)⟩
    · obtain ⟨e, he, rfl⟩ := Go.Conc.mem_ofEvents hop
      refine evs_low (hes e he) (fun a ha => hI.ti.big a ?_)
      rcases ha with ha | ha
      · rw [hO a ha]; simp
      · rw [hI.ti.zro a 0 ⟨hI.pos, hq, ha⟩]; simp
    · obtain ⟨e, he, rfl⟩ := Go.Conc.mem_ofEvents hop
      exact (evs_mark (hes e he)).2 a
  refine ⟨⟨v, rfl, hpost⟩, hti.race, fun x gx hx hx0 hcx => ?_, ⟨fun g' hg' => ?_, rfl⟩, fun i g' hi hi0 => ?_, hI.old⟩
  · rcases hti.over x hcx with ⟨j, h1, h2⟩ | ⟨p, r, h1, -⟩
    · have hj : j = 0 := hI.alone hp j h1.1 h1.2.1
      subst hj
      obtain ⟨kk, op, h3, h4, h5⟩ := h2
      refine ⟨kk, by simp [Trace.g?, h3, h4], ?_⟩
      rcases h5 with rfl | h5
      · simp [Trace.g?, h3, h4] at hx
        exact absurd hx.symm hx0
      · exact h5
    · obtain ⟨k1, k2, z, k3⟩ := hI.norel p r h1
      have := hI.alone hp p k1 k2
      subst this
      rw [hp] at k3; cases k3
  · -- the others only leave
    have hg2 : g' ∈ gs.toList.drop 1 := hg'
    obtain ⟨i, hi, rfl⟩ := List.mem_iff_getElem.1 hg2
    simp only [List.length_drop, Array.length_toList] at hi
    have hthr := hI.thr (i + 1) gs[i + 1] (by simp)
    have hqq : (Γ (i + 1)).quit = true := by
      cases h : (Γ (i + 1)).quit with
      | true => rfl
      | false => have := hI.alone hp (i + 1) (by omega) h; omega
    unfold Thr at hthr
    rw [if_pos hqq] at hthr
    have e : (gs.toList.drop 1)[i] = gs[i + 1] := by simp
    rw [e]
    exact ⟨_, hthr.2.leaves⟩
  · have hi' : gs[i]? = some g' := hi
    have hlt := (Array.getElem?_eq_some_iff.1 hi').1
    have hthr := hI.thr i g' hi'
    have hqq : (Γ i).quit = true := by
      cases h : (Γ i).quit with
      | true => rfl
      | false => exact absurd (hI.alone hp i hlt h) hi0
    unfold Thr at hthr
    rw [if_pos hqq] at hthr
    have hd := Deaf_other t (g := i) (g' := 0) (Ne.symm hi0) (MemOp.ofEvents 0 g.frame.fn g.frame.place es) ofEvents_g
    refine ⟨(Γ i).n, ?_⟩
    show Goroutine.endsWith P wm (Γ i).n g' (Deaf (t ++ MemOp.ofEvents 0 g.frame.fn g.frame.place es) i) = some 0
    rw [hd]
    exact hthr.2.hears wm
end Go.Farm
