/- A crew is set up. -/
import Derived.Test.YtidadgibhmiojaaGk
namespace Go.Farm
open Go.Conc Go.RowKit
open Go.ConcN (sumTo upd sumTo_upd upd_ne upd_same sumTo_congr le_sumTo sumTo_le)
variable {P : Program} {Post : Value → World → Prop} {B : Nat} {w0 : World} {gs : Array Goroutine} {w w' : World} {t : Trace} {Γ Γ' : Nat → GS} {own own' : Addr → Owner} {cv cv' : Nat → Nat} {la la' : Nat → Option Nat} {rels rels' : Nat → Nat → Prop}
/-- who has no crew has no workers -/
theorem nobody_of (hI : Inv P Post B w0 gs w t Γ own cv la rels) {i : Nat} (hpar : (Γ i).c.par = none) {j : Nat} (hj : j < gs.size) : (Γ j).stage i = none ∧ (Γ j).act i = 0 := by
  unfold GS.stage GS.act
  by_cases h : (Γ j).quit = false ∧ (Γ j).boss = i
  · rw [if_pos h, if_pos h]
    rcases Nat.eq_zero_or_pos j with h0 | h0
    · subst h0; rw [hI.main.2]; exact ⟨rfl, rfl⟩
    · obtain ⟨κ', ms, lb, J, ps, k, -, -, -, k4, -⟩ := hI.mem j hj h0 h.1
      rw [h.2, hpar] at k4
      cases k4
  · rw [if_neg h, if_neg h]; exact ⟨rfl, rfl⟩
theorem sumTo_zero {f : Nat → Nat} {j : Nat} (h : ∀ i, i < j → f i = 0) : sumTo j f = 0 := by
  have := sumTo_le (f := f) (c := 0) (j := j) (fun i hi => by rw [h i hi]; exact Nat.le_refl _)
  omega
theorem deaf_none {c : Cx} (hm : ∀ κ ms lb J, c.mem = some (κ, ms, lb, J) → ms = .m0) (hp : c.par = none) (hl : c.lk = 0) : c.deaf = 0 := by
  unfold Cx.deaf
  rw [hp, hl]
  cases h : c.mem with
  | none => rfl
  | some x =>
    obtain ⟨κ', ms, lb, J⟩ := x
    have := hm κ' ms lb J h
    subst this
    rfl
/-- ████ a crew is set up ████ -/
theorem step_opn (hI : Inv P Post B w0 gs w t Γ own cv la rels) {i : Nat} {g g' : Goroutine} {κ : Crew} {n : Nat} {c' : Cx}
    (hi : gs[i]? = some g) (hq : (Γ i).quit = false) (ho : Opens (Γ i).c κ w c') (hT : T P Post n (i == 0) c' g' w) :
    ∃ own' cv' la', Inv P Post B w0 ((gs.map (woken P g g' w)).setIfInBounds i g') w (t ++ MemOp.ofEvents i g.frame.fn g.frame.place #[]) (upd Γ i ⟨n, c', false, (Γ i).boss⟩) own' cv' la' rels := by
  classical
  have hlt : i < gs.size := (Array.getElem?_eq_some_iff.1 hi).1
  have hU := hI.owU i hlt hq
  have hL : LF gs.size Γ i := by
    apply Classical.byContradiction
    intro h
    obtain ⟨κ', ms, lb, J, h1, -⟩ := bare_of hI hlt hq h
    have := ho.u1
    rw [h1] at this
    exact this
  have hms : ∀ κ' ms lb J, c'.mem = some (κ', ms, lb, J) → ms = .m0 := fun κ' ms lb J h => hL.2.2 κ' ms lb J (by rw [← ho.mem]; exact h)
  let o' : Addr → Owner := fun a => if a = κ.st ∨ a = κ.sm then .grp i else if a = κ.cn then .cnt i else if ∃ j, j < κ.n ∧ a = κ.cell j then .pool i else own a
  have hcst : κ.cn ≠ κ.st := fun e => ho.cw (congrArg Addr.block e)
  have hcsm : κ.cn ≠ κ.sm := fun e => ho.cw (congrArg Addr.block e)
  have o1 : o' κ.st = .grp i := if_pos (.inl rfl)
  have o2 : o' κ.sm = .grp i := if_pos (.inr rfl)
  have o3 : o' κ.cn = .cnt i := by
    show (if _ then _ else _) = _
    rw [if_neg (fun e => e.elim hcst hcsm), if_pos rfl]
  have o4 : ∀ j, j < κ.n → o' (κ.cell j) = .pool i := fun j hj => by
    obtain ⟨f1, f2, f3⟩ := ho.far j hj
    show (if _ then _ else _) = _
    rw [if_neg (fun e => e.elim f1 f2), if_neg f3, if_pos ⟨j, hj, rfl⟩]
  have oC : ∀ a, (own a = .un i ∧ (o' a = .grp i ∨ o' a = .cnt i ∨ o' a = .pool i)) ∨ o' a = own a := fun a => by
    by_cases h1 : a = κ.st ∨ a = κ.sm
    · refine .inl ⟨?_, .inl (if_pos h1)⟩
      rcases h1 with rfl | rfl
      · exact hU _ ho.u1
      · exact hU _ ho.u2
    by_cases h2 : a = κ.cn
    · subst h2; exact .inl ⟨hU _ ho.u3, .inr (.inl o3)⟩
    by_cases h3 : ∃ j, j < κ.n ∧ a = κ.cell j
    · obtain ⟨j, hj, rfl⟩ := h3
      exact .inl ⟨hU _ (ho.u4 j hj), .inr (.inr (o4 j hj))⟩
    · refine .inr ?_
      show (if _ then _ else _) = _
      rw [if_neg h1, if_neg h2, if_neg h3]
  have oK : ∀ a, own a ≠ .un i → o' a = own a := fun a h => by
    rcases oC a with ⟨h1, -⟩ | h1
    · exact absurd h1 h
    · exact h1
  have hmem1 : ∀ x, (upd Γ i ⟨n, c', false, (Γ i).boss⟩ x).quit = (Γ x).quit ∧ (upd Γ i ⟨n, c', false, (Γ i).boss⟩ x).boss = (Γ x).boss ∧ (upd Γ i ⟨n, c', false, (Γ i).boss⟩ x).c.mem = (Γ x).c.mem := fun x => by
    by_cases hx : x = i
    · subst hx; rw [upd_same]; exact ⟨hq.symm, rfl, ho.mem⟩
    · rw [upd_ne Γ _ hx]; exact ⟨rfl, rfl, rfl⟩
  have hst : ∀ x q, (upd Γ i ⟨n, c', false, (Γ i).boss⟩ x).stage q = (Γ x).stage q ∧ (upd Γ i ⟨n, c', false, (Γ i).boss⟩ x).act q = (Γ x).act q := fun x q => stage_upd (s' := ⟨n, c', false, (Γ i).boss⟩) hq.symm rfl ho.mem
  have hnb : ∀ j, j < gs.size → (Γ j).stage i = none ∧ (Γ j).act i = 0 := fun j hj => nobody_of hI ho.none hj
  have norel0 : ∀ r, ¬ rels i r := fun r hr => by
    obtain ⟨-, -, x, hx⟩ := hI.norel i r hr
    rw [ho.none] at hx; cases hx
  have ec : counted gs.size (upd Γ i ⟨n, c', false, (Γ i).boss⟩) i = 0 := sumTo_zero fun x hx => by rw [(hst x i).1, (hnb x hx).1]; rfl
  have ea : active gs.size (upd Γ i ⟨n, c', false, (Γ i).boss⟩) i = 0 := sumTo_zero fun x hx => by rw [(hst x i).2, (hnb x hx).2]
  have hkeep : ∀ q κq psq kq, q ≠ i → q < gs.size → (Γ q).quit = false → (Γ q).c.par = some (κq, psq, kq) →
      CrewOk gs.size (upd Γ i ⟨n, c', false, (Γ i).boss⟩) o' (t ++ MemOp.ofEvents i g.frame.fn g.frame.place #[]) (upd cv i 0 q) (upd la i none q) (rels q) w q κq psq kq := fun q κq psq kq hqi hqN hqq hqpar => by
    rw [upd_ne _ _ hqi, upd_ne _ _ hqi]
    refine (hI.crew q κq psq kq hqN hqq hqpar).keep (fun a ha => ⟨oK a (by rcases ha with h | h <;> rw [h] <;> simp), rfl, rfl⟩) (fun a ha => (oK a (by rw [ha]; simp)).trans ha) (fun a r ha => ⟨(oK a (by rw [ha]; simp)).trans ha, rfl, rfl⟩) (fun j _ => (hst j q).1) (fun j _ => (hst j q).2) (fun j _ h1 h2 lb J h3 => ?_)
    obtain ⟨e1, e2, e3⟩ := hmem1 j
    exact ⟨e1.trans h1, e2.trans h2, lb, J, e3.trans h3, fun _ x => x⟩
  refine ⟨o', upd cv i 0, upd la i none, hI.go (own' := o') (cv' := upd cv i 0) (la' := upd la i none) (rels' := rels) hi (Thr.runs rfl hT) (fun j hj hji hjq => rely_of hI (WCh.refl own i (fun _ => False) w) (fun _ e => e.elim) (fun q κq psq kq hqN hqq hqpar => (hI.crew q κq psq kq hqN hqq hqpar).live) hj hji hjq)
    (fun j κj kj _ _ _ _ => .inl rfl) (fun h0 => ⟨rfl, ?_⟩) (fun j hj h0 hjq => ?_) (fun q κq psq kq hqN hqq hqpar => ?_) (fun q r hr => ?_) (fun _ => ?_) (fun _ a ha => ?_) (fun _ a ha => ?_) (fun a j hji => ⟨fun h => (oK a (by rw [h]; simp)).trans h, fun h => (oK a (by rw [h]; simp [hji])).trans h⟩) ?_ (fun a ha => ?_) hI.bsz hI.old⟩
  · show c'.mem = none
    rw [ho.mem, h0]; exact hI.main.2
  · obtain ⟨e1, e2, e3⟩ := hmem1 j
    rw [e1] at hjq
    obtain ⟨κ2, ms, lb, J, ps, k, k1, k2, k3, k4, k5, k6⟩ := hI.mem j hj h0 hjq
    have hbi : (Γ j).boss ≠ i := fun e => by rw [e, ho.none] at k4; cases k4
    refine ⟨κ2, ms, lb, J, ps, k, e3.trans k1, by rw [e2]; exact k2, by rw [e2, upd_ne Γ _ hbi]; exact k3, by rw [e2, upd_ne Γ _ hbi]; exact k4, by rw [e2, upd_ne _ _ hbi]; exact k5, fun h => ?_⟩
    by_cases hji : j = i
    · subst hji
      exact absurd (hL.2.2 κ2 ms lb J k1) h
    · rw [upd_ne Γ _ hji]; exact k6 h
  · by_cases hqi : q = i
    · subst hqi
      rw [upd_same] at hqpar
      have hqpar : c'.par = some (κq, psq, kq) := hqpar
      rw [ho.par] at hqpar
      injection hqpar with e; injection e with e1 e; injection e with e2 e3
      subst e1; subst e2; subst e3
      rw [upd_same, upd_same]
      refine ⟨o1, o2, o3, ⟨0, 0, ho.v1, ho.v2, rfl, ?_, rfl⟩, ⟨ho.z1, ho.z2, ho.z3⟩, ho.v3, ?_, by omega, by rw [ec]; exact Nat.le_refl _, fun x hx => ?_, fun x h => (by cases h), fun j hj _ => o4 j hj, ho.inj, fun j _ h => (by omega), fun h => (by omega), fun ⟨r, hr⟩ => absurd hr (norel0 r), ho.stable, fun r hr => absurd hr (norel0 r), ho.small, fun x hx ms h => ?_⟩
      · rw [ec]; show 0 = (0 + 0) * K32; rfl
      · rw [ea]; omega
      · rw [(hst x q).1, (hnb x hx).1]; exact ⟨fun h => (by cases h), fun h => (by cases h)⟩
      · rw [(hst x q).1, (hnb x hx).1] at h; cases h
    · rw [upd_ne Γ _ hqi] at hqq hqpar
      exact hkeep q κq psq kq hqi hqN hqq hqpar
  · obtain ⟨h1, h2, x, h3⟩ := hI.norel q r hr
    have hqi : q ≠ i := fun e => by rw [e, ho.none] at h3; cases h3
    rw [upd_ne Γ _ hqi]
    exact ⟨h1, h2, x, h3⟩
  · rw [Deaf_own, hI.deaf i hlt hq, deaf_none hL.2.2 ho.none ho.lk]
    exact (deaf_of hms ho.par).symm
  · have h1 := hI.owO i hlt hq a (by rw [← ho.O]; exact ha)
    exact (oK a (by rw [h1]; simp)).trans h1
  · obtain ⟨h1, h2, h3, h4, h5⟩ := ho.sub a ha
    show (if _ then _ else _) = _
    rw [if_neg (fun e => e.elim h2 h3), if_neg h4, if_neg (fun ⟨j, hj, e⟩ => h5 j hj e)]
    exact hU a h1
  · have hLF : LF gs.size (upd Γ i ⟨n, c', false, (Γ i).boss⟩) = LF gs.size Γ := by
      funext j
      obtain ⟨e1, -, e3⟩ := hmem1 j
      unfold LF; rw [e1, e3]
    rw [hLF]
    refine hI.ti.app _ ofEvents_g ⟨Nat.le_refl _, fun a j h => ?_, fun a j h => ?_, fun a q h => ?_, fun a q r h => ?_, fun a q h => ?_, fun a q h => ?_, fun j a h => ?_, fun a h => ?_⟩ (fun op hop b hb => ?_) (fun op hop => ?_) (fun op hop a => ?_) (.inl hL)
    · rcases oC a with ⟨-, e | e | e⟩ | e
      · rw [e] at h; cases h
      · rw [e] at h; cases h
      · rw [e] at h; cases h
      · exact .inl (e ▸ h)
    · rcases oC a with ⟨-, e | e | e⟩ | e
      · rw [e] at h; cases h
      · rw [e] at h; cases h
      · rw [e] at h; cases h
      · exact .inl (e ▸ h)
    · rcases oC a with ⟨e, -⟩ | e
      · exact .inr e
      · exact .inl (e ▸ h)
    · rcases oC a with ⟨-, e | e | e⟩ | e
      · rw [e] at h; cases h
      · rw [e] at h; cases h
      · rw [e] at h; cases h
      · exact e ▸ h
    · rcases oC a with ⟨e, -⟩ | e
      · exact .inr e
      · exact .inl (e ▸ h)
    · rcases oC a with ⟨e, -⟩ | e
      · exact .inr e
      · exact .inl (e ▸ h)
    · obtain ⟨h1, h2, h3⟩ := h
      have h4 : ZF gs.size Γ j a := by
        by_cases hji : j = i
        · subst hji; rw [upd_same] at h3; exact ⟨h1, hq, by rw [← ho.Z]; exact h3⟩
        · rw [upd_ne Γ _ hji] at h2 h3; exact ⟨h1, h2, h3⟩
      have hro := hI.ti.zro a j h4
      exact ⟨(oK a (by rw [hro]; simp)).trans hro, .inl h4⟩
    · rcases oC a with ⟨e, -⟩ | e
      · exact hI.ti.big a (by rw [e]; simp)
      · rw [e] at h; exact hI.ti.big a h
    · obtain ⟨e, he, rfl⟩ := Go.Conc.mem_ofEvents hop
      simp at he
    · obtain ⟨e, he, rfl⟩ := Go.Conc.mem_ofEvents hop
      simp at he
    · obtain ⟨e, he, rfl⟩ := Go.Conc.mem_ofEvents hop
      simp at he
  · rcases oC a with ⟨e, -⟩ | e
    · exact hI.base a (by rw [e]; simp)
    · rw [e] at ha; exact hI.base a ha
end Go.Farm
