/- A worker releases; the starter acquires. -/
import Derived.Test.YtidadgibhmiojaaGl
namespace Go.Farm
open Go.Conc Go.RowKit
open Go.ConcN (sumTo upd sumTo_upd upd_ne upd_same sumTo_congr le_sumTo sumTo_le)
variable {P : Program} {Post : Value → World → Prop} {B : Nat} {w0 : World} {gs : Array Goroutine} {w w' : World} {t : Trace} {Γ Γ' : Nat → GS} {own own' : Addr → Owner} {cv cv' : Nat → Nat} {la la' : Nat → Option Nat} {rels rels' : Nat → Nat → Prop}
theorem ofEvents_one (i : Nat) (fn : FuncId) (pos : String) (e : Event) : MemOp.ofEvents i fn pos #[e] = #[{ g := i, fn, pos, act := .ofEvent e }] := by
  rw [ofEvents_eq]; simp
/-- ████ a worker releases ████ -/
theorem step_rel (hI : Inv P Post B w0 gs w t Γ own cv la rels) {i : Nat} {g g' : Goroutine} {κ : Crew} {lb n : Nat} {J : Nat → Prop}
    (hi : gs[i]? = some g) (hq : (Γ i).quit = false) (hm : (Γ i).c.mem = some (κ, .m0, lb, J)) (hpr : (Γ i).c.par = none) (hl : (Γ i).c.lk = 0) (hlb : κ.n < lb)
    (hD : ∀ j, J j → κ.D j (fun a => (Γ i).c.O a ∨ (Γ i).c.U a) w) (hT : T P Post n (i == 0) (Cx.bare κ .m1 lb J) g' w) :
    ∃ own' rels', Inv P Post B w0 ((gs.map (woken P g g' w)).setIfInBounds i g') w (t ++ MemOp.ofEvents i g.frame.fn g.frame.place #[mkE (.releaseMerge κ.st)]) (upd Γ i ⟨n, Cx.bare κ .m1 lb J, false, (Γ i).boss⟩) own' cv la rels' := by
  classical
  have hlt : i < gs.size := (Array.getElem?_eq_some_iff.1 hi).1
  have hi0 : 0 < i := by
    rcases Nat.eq_zero_or_pos i with h | h
    · subst h; rw [hI.main.2] at hm; cases hm
    · exact h
  obtain ⟨κ', ms', lb', J', ps, k, k1, k2, k3, k4, k5, k6⟩ := hI.mem i hlt hi0 hq
  rw [hm] at k1
  injection k1 with e; injection e with e1 e; injection e with e2 e; injection e with e3 e4
  subst e1; subst e2; subst e3; subst e4
  obtain ⟨p, hp⟩ : ∃ p, (Γ i).boss = p := ⟨_, rfl⟩
  rw [hp] at k2 k3 k4 k5 ⊢
  have hC := hI.crew p κ ps k (by omega) k3 k4
  have hO := hI.owO i hlt hq
  have hU := hI.owU i hlt hq
  let o' : Addr → Owner := fun a => if own a = .ow i ∨ own a = .un i then .ret p t.size else own a
  let r' : Nat → Nat → Prop := fun q r => rels q r ∨ (q = p ∧ r = t.size)
  have oK : ∀ a, own a ≠ .ow i → own a ≠ .un i → o' a = own a := fun a h1 h2 => if_neg (fun e => e.elim h1 h2)
  have oR : ∀ a, (Γ i).c.O a ∨ (Γ i).c.U a → o' a = .ret p t.size := fun a h => if_pos (h.imp (hO a) (hU a))
  have hdf : Deaf t i = 0 := by
    rw [hI.deaf i hlt hq]
    exact deaf_none (fun κ2 ms2 lb2 J2 h => by rw [hm] at h; injection h with e; injection e with _ e; injection e with e _; exact e.symm) hpr hl
  have s0 : (Γ i).stage p = some .m0 := stage_of hq hp hm
  have s1 : (⟨n, Cx.bare κ .m1 lb J, false, p⟩ : GS).stage p = some .m1 := stage_of (s := ⟨n, Cx.bare κ .m1 lb J, false, p⟩) rfl rfl rfl
  have a0 : (Γ i).act p = 0 := by unfold GS.act; rw [if_pos ⟨hq, hp⟩, hm]; simp [Nat.not_le.2 hlb]
  have a1 : (⟨n, Cx.bare κ .m1 lb J, false, p⟩ : GS).act p = 0 := by unfold GS.act Cx.bare; simp
  have ec : counted gs.size (upd Γ i ⟨n, Cx.bare κ .m1 lb J, false, p⟩) p = counted gs.size Γ p := by
    have := sumTo_upd Γ (⟨n, Cx.bare κ .m1 lb J, false, p⟩ : GS) (fun s => isCnt (s.stage p)) hlt
    rw [s0, s1] at this
    exact Nat.add_right_cancel this
  have ea : active gs.size (upd Γ i ⟨n, Cx.bare κ .m1 lb J, false, p⟩) p = active gs.size Γ p := by
    have := sumTo_upd Γ (⟨n, Cx.bare κ .m1 lb J, false, p⟩ : GS) (fun s => s.act p) hlt
    rw [a0, a1] at this
    exact this
  have hnl := hC.notlast hlt (by rw [s0]; rfl)
  have el : lastOf (upd Γ i ⟨n, Cx.bare κ .m1 lb J, false, p⟩) (la p) p = lastOf Γ (la p) p := by
    unfold lastOf
    cases e : la p with
    | none => rfl
    | some x =>
      have hx : x ≠ i := fun e' => hnl (by rw [e, e'])
      show (upd Γ i _ x).stage p = _
      rw [upd_ne Γ _ hx]; rfl
  have hop : MemOp.ofEvents i g.frame.fn g.frame.place #[mkE (.releaseMerge κ.st)] = #[{ g := i, fn := g.frame.fn, pos := g.frame.place, act := .mark (.releaseMerge κ.st) }] := ofEvents_one _ _ _ _
  have hne : ∀ j, j < gs.size → 0 < j → (Γ j).quit = false → (Γ j).boss ≠ i := fun j hj h0 hjq e => by
    obtain ⟨_, _, _, _, _, _, -, -, -, k4', -⟩ := hI.mem j hj h0 hjq
    rw [e, hpr] at k4'; cases k4'
  have hkeep : ∀ q κq psq kq, q < gs.size → (Γ q).quit = false → (Γ q).c.par = some (κq, psq, kq) →
      CrewOk gs.size (upd Γ i ⟨n, Cx.bare κ .m1 lb J, false, p⟩) o' (t ++ MemOp.ofEvents i g.frame.fn g.frame.place #[mkE (.releaseMerge κ.st)]) (cv q) (la q) (r' q) w q κq psq kq := fun q κq psq kq hqN hqq hqpar => by
    by_cases hqp : q = p
    · subst hqp
      rw [k4] at hqpar
      injection hqpar with e; injection e with e1 e; injection e with e2 e3
      subst e1; subst e2; subst e3
      have hrn : r' q t.size := .inr ⟨rfl, rfl⟩
      refine ⟨(oK _ (by rw [hC.st]; simp) (by rw [hC.st]; simp)).trans hC.st, (oK _ (by rw [hC.sm]; simp) (by rw [hC.sm]; simp)).trans hC.sm, (oK _ (by rw [hC.cn]; simp) (by rw [hC.cn]; simp)).trans hC.cn, by rw [ec, el]; exact hC.val, hC.fz, hC.cc, by rw [ea]; exact hC.cb, hC.kb, by rw [ec]; exact hC.vb, fun x hx => ?_, hC.lN,
        fun j hj hc => ?_, hC.inj, fun j hj hc => ?_, fun _ => .inr ⟨_, hrn⟩, fun _ => by omega, hC.stable, fun r hr => ?_, hC.small, fun _ _ _ _ _ => ⟨_, hrn⟩⟩
      · by_cases hxi : x = i
        · subst hxi; rw [upd_same, s1]; exact ⟨fun h => (by cases h), fun h => absurd h hnl⟩
        · rw [upd_ne Γ _ hxi]; exact hC.lk x hx
      · have := hC.pool j hj hc
        exact (oK _ (by rw [this]; simp) (by rw [this]; simp)).trans this
      · rcases hC.task j hj hc with ⟨x, lbx, Jx, h1, h2, h3, h4, h5⟩ | ⟨X, h1, h2⟩
        · by_cases hxi : x = i
          · subst hxi
            rw [hm] at h4
            injection h4 with e; injection e with _ e; injection e with _ e; injection e with _ e4
            subst e4
            exact .inr ⟨_, fun a ha => ⟨t.size, oR a ha⟩, hD j h5⟩
          · exact .inl ⟨x, lbx, Jx, h1, by rw [upd_ne Γ _ hxi]; exact h2, by rw [upd_ne Γ _ hxi]; exact h3, by rw [upd_ne Γ _ hxi]; exact h4, h5⟩
        · refine .inr ⟨X, fun a ha => ?_, h2⟩
          obtain ⟨r, hr⟩ := h1 a ha
          exact ⟨r, (oK a (by rw [hr]; simp) (by rw [hr]; simp)).trans hr⟩
      · rcases hr with hr | ⟨-, rfl⟩
        · exact (hC.rels r hr).app _
        · rw [hop]; exact IsRel.new rfl hdf
    · have er : r' q = rels q := by
        funext r
        exact propext ⟨fun h => h.elim id (fun h => absurd h.1 hqp), .inl⟩
      rw [er]
      refine (hI.crew q κq psq kq hqN hqq hqpar).keep (fun a ha => ⟨oK a (by rcases ha with h | h <;> rw [h] <;> simp) (by rcases ha with h | h <;> rw [h] <;> simp), rfl, rfl⟩) (fun a ha => (oK a (by rw [ha]; simp) (by rw [ha]; simp)).trans ha) (fun a r ha => ⟨(oK a (by rw [ha]; simp) (by rw [ha]; simp)).trans ha, rfl, rfl⟩) (fun j _ => ?_) (fun j _ => ?_) (fun j _ h1 h2 lb2 J2 h3 => ?_)
      · by_cases hji : j = i
        · subst hji; rw [upd_same]; unfold GS.stage; simp [hp, Ne.symm hqp]
        · rw [upd_ne Γ _ hji]
      · by_cases hji : j = i
        · subst hji; rw [upd_same]; unfold GS.act; simp [hp, Ne.symm hqp]
        · rw [upd_ne Γ _ hji]
      · have hji : j ≠ i := fun e => by subst e; rw [hp] at h2; exact hqp h2.symm
        rw [upd_ne Γ _ hji]
        exact ⟨h1, h2, lb2, J2, h3, fun _ x => x⟩
  refine ⟨o', r', hI.go (own' := o') (cv' := cv) (la' := la) (rels' := r') hi (Thr.runs rfl hT) (fun j hj hji hjq => rely_of hI (WCh.refl own i (fun _ => False) w) (fun _ e => e.elim) (fun q κq psq kq hqN hqq hqpar => (hI.crew q κq psq kq hqN hqq hqpar).live) hj hji hjq)
    (fun j κj kj _ _ _ _ => .inl rfl) (fun h0 => by omega) (fun j hj h0 hjq => ?_) (fun q κq psq kq hqN hqq hqpar => ?_) (fun q r hr => ?_) (fun _ => ?_) (fun _ a ha => ha.elim) (fun _ a ha => ha.elim) (fun a j hji => ⟨fun h => (oK a (by rw [h]; simp [hji]) (by rw [h]; simp)).trans h, fun h => (oK a (by rw [h]; simp) (by rw [h]; simp [hji])).trans h⟩) ?_ (fun a ha => ?_) hI.bsz hI.old⟩
  · by_cases hji : j = i
    · subst hji
      rw [upd_same]
      exact ⟨κ, .m1, lb, J, ps, k, rfl, k2, by rw [upd_ne Γ _ (by show p ≠ j; omega)]; exact k3, by rw [upd_ne Γ _ (by show p ≠ j; omega)]; exact k4, k5, fun _ => rfl⟩
    · rw [upd_ne Γ _ hji] at hjq ⊢
      rw [upd_ne Γ _ (hne j hj h0 hjq)]
      exact hI.mem j hj h0 hjq
  · by_cases hqi : q = i
    · subst hqi; rw [upd_same] at hqpar; cases hqpar
    · rw [upd_ne Γ _ hqi] at hqq hqpar
      exact hkeep q κq psq kq hqN hqq hqpar
  · have hx : q < gs.size ∧ (Γ q).quit = false ∧ ∃ x, (Γ q).c.par = some x := by
      rcases hr with hr | ⟨rfl, -⟩
      · exact hI.norel q r hr
      · exact ⟨by omega, k3, _, k4⟩
    have hqi : q ≠ i := fun e => by
      obtain ⟨-, -, x, hx⟩ := hx
      rw [e, hpr] at hx; cases hx
    rw [upd_ne Γ _ hqi]; exact hx
  · rw [Deaf_own, hdf]; rfl
  · rw [hop]
    have hlf : LF gs.size (upd Γ i ⟨n, Cx.bare κ .m1 lb J, false, p⟩) = fun j => LF gs.size Γ j ∧ j ≠ i := by
      funext j
      by_cases hji : j = i
      · subst hji
        refine propext ⟨fun h => ?_, fun h => absurd rfl h.2⟩
        have h3 := h.2.2
        rw [upd_same] at h3
        cases h3 κ .m1 lb J rfl
      · unfold LF; rw [upd_ne Γ _ hji]
        exact propext ⟨fun h => ⟨h, hji⟩, fun h => h.1⟩
    rw [hlf]
    refine hI.ti.release (p := p) (s := κ.st) rfl rfl (hI.ti.big _ (by rw [hC.st]; simp)) (fun a => rfl) (fun j a h => ?_)
    obtain ⟨h1, h2, h3⟩ := h
    by_cases hji : j = i
    · subst hji; rw [upd_same] at h3; exact h3.elim
    · rw [upd_ne Γ _ hji] at h2 h3; exact ⟨hji, h1, h2, h3⟩
  · by_cases h : own a = .ow i ∨ own a = .un i
    · exact hI.base a (by rcases h with h | h <;> rw [h] <;> simp)
    · have : o' a = own a := if_neg h
      rw [this] at ha; exact hI.base a ha
/-- nobody is at work for a starter that has been woken -/
theorem CrewOk.idle9 {N : Nat} {c1 : Nat} {l1 : Option Nat} {rel : Nat → Prop} {p : Nat} {κ : Crew} {k : Nat} (h : CrewOk N Γ own t c1 l1 rel w p κ .p9 k) {i : Nat} (hi : i < N) : (Γ i).stage p = none := by
  obtain ⟨st, sm, -, -, h1, h2, -, -⟩ := h.val
  have h0 : counted N Γ p = 0 := h1
  have hn := h.nolast h2
  cases e : (Γ i).stage p with
  | none => rfl
  | some ms =>
    cases ms with
    | m0 => have := CrewOk.one (N := N) (.inl e) hi; omega
    | m1 => have := CrewOk.one (N := N) (.inr (.inl e)) hi; omega
    | m2 => have := CrewOk.one (N := N) (.inr (.inr e)) hi; omega
    | _ => have := (h.lk i hi).1 (by rw [e]; rfl); rw [hn] at this; cases this
/-- ████ the starter acquires ████ -/
theorem step_close (hI : Inv P Post B w0 gs w t Γ own cv la rels) {i : Nat} {g g' : Goroutine} {κ : Crew} {k n : Nat}
    (hi : gs[i]? = some g) (hq : (Γ i).quit = false) (hpar : (Γ i).c.par = some (κ, .p9, k)) (hk : 0 < k)
    (hT : ∀ X : AS, (∀ a, X a → a.block < w.heap.size) → (∀ a, X a → ¬ (Γ i).c.O a ∧ ¬ (Γ i).c.U a ∧ ¬ (Γ i).c.Z a) → (∀ j, j < κ.n → ∃ Y : AS, (∀ a, Y a → X a) ∧ κ.D j Y w) → T P Post n (i == 0) { (Γ i).c with O := fun a => (Γ i).c.O a ∨ X a, par := none, lk := 0 } g' w) :
    ∃ c' own' rels', Inv P Post B w0 ((gs.map (woken P g g' w)).setIfInBounds i g') w (t ++ MemOp.ofEvents i g.frame.fn g.frame.place #[mkE (.acquire κ.st)]) (upd Γ i ⟨n, c', false, (Γ i).boss⟩) own' cv la rels' := by
  have hlt : i < gs.size := (Array.getElem?_eq_some_iff.1 hi).1
  have hC := hI.crew i κ .p9 k hlt hq hpar
  have hL := live_of_par hI hlt hq hpar
  have hO := hI.owO i hlt hq
  have hU := hI.owU i hlt hq
  have hidle : ∀ j, j < gs.size → (Γ j).stage i = none := fun j hj => hC.idle9 hj
  obtain ⟨r0, hr0⟩ : ∃ r, rels i r := by
    rcases hC.some1 hk with ⟨x, hx, h⟩ | h
    · rw [hidle x hx] at h; cases h
    · exact h
  have hfull := hC.full ⟨r0, hr0⟩
  let o' : Addr → Owner := fun a => (match own a with | .ret q r => if q = i then .ow i else .ret q r | .pool q => if q = i then .ow i else .pool q | .grp q => if q = i then .free else .grp q | .cnt q => if q = i then .free else .cnt q | o => o)
  let X : AS := fun a => ∃ r, own a = .ret i r
  let c' : Cx := { (Γ i).c with O := fun a => (Γ i).c.O a ∨ X a, par := none, lk := 0 }
  have hT' : T P Post n (i == 0) c' g' w := hT X (fun a ⟨r, h⟩ => hI.ti.big a (by rw [h]; simp)) (fun a ⟨r, h⟩ => ⟨fun e => (by rw [hO a e] at h; cases h), fun e => (by rw [hU a e] at h; cases h), fun e => (by rw [hI.ti.zro a i ⟨hlt, hq, e⟩] at h; cases h)⟩) (fun j hj => by
    rcases hC.task j hj (by omega) with ⟨x, lbx, Jx, h1, h2, h3, h4, h5⟩ | ⟨Y, h1, h2⟩
    · have := stage_of h2 h3 h4
      rw [hidle x h1] at this; cases this
    · exact ⟨Y, h1, h2⟩)
  have oS : ∀ a, (∀ r, own a ≠ .ret i r) → own a ≠ .pool i → own a ≠ .grp i → own a ≠ .cnt i → o' a = own a := fun a h1 h2 h3 h4 => by
    show (match own a with | .ret q r => if q = i then Owner.ow i else .ret q r | .pool q => if q = i then .ow i else .pool q | .grp q => if q = i then .free else .grp q | .cnt q => if q = i then .free else .cnt q | o => o) = own a
    cases e : own a with
    | ret q r => exact if_neg (fun h => h1 r (by rw [e, h]))
    | pool q => exact if_neg (fun h => h2 (by rw [e, h]))
    | grp q => exact if_neg (fun h => h3 (by rw [e, h]))
    | cnt q => exact if_neg (fun h => h4 (by rw [e, h]))
    | _ => rfl
  have oX : ∀ a, X a → o' a = .ow i := fun a ⟨r, h⟩ => by
    show (match own a with | .ret q r => if q = i then Owner.ow i else .ret q r | .pool q => if q = i then .ow i else .pool q | .grp q => if q = i then .free else .grp q | .cnt q => if q = i then .free else .cnt q | o => o) = _
    rw [h]; exact if_pos rfl
  have oF : ∀ a, own a = .free → o' a = .free := fun a h => (oS a (by rw [h]; simp) (by rw [h]; simp) (by rw [h]; simp) (by rw [h]; simp)).trans h
  have hne : ∀ j, j < gs.size → 0 < j → (Γ j).quit = false → (Γ j).boss ≠ i := fun j hj h0 hjq e => by
    obtain ⟨κ2, ms2, lb2, J2, _, _, k1, -⟩ := hI.mem j hj h0 hjq
    have := stage_of hjq e k1
    rw [hidle j hj] at this; cases this
  have hmem1 : ∀ x, (upd Γ i ⟨n, c', false, (Γ i).boss⟩ x).quit = (Γ x).quit ∧ (upd Γ i ⟨n, c', false, (Γ i).boss⟩ x).boss = (Γ x).boss ∧ (upd Γ i ⟨n, c', false, (Γ i).boss⟩ x).c.mem = (Γ x).c.mem := fun x => by
    by_cases hx : x = i
    · subst hx; rw [upd_same]; exact ⟨hq.symm, rfl, rfl⟩
    · rw [upd_ne Γ _ hx]; exact ⟨rfl, rfl, rfl⟩
  have hst : ∀ x q, (upd Γ i ⟨n, c', false, (Γ i).boss⟩ x).stage q = (Γ x).stage q ∧ (upd Γ i ⟨n, c', false, (Γ i).boss⟩ x).act q = (Γ x).act q := fun x q => stage_upd (s' := ⟨n, c', false, (Γ i).boss⟩) hq.symm rfl rfl
  have hop : MemOp.ofEvents i g.frame.fn g.frame.place #[mkE (.acquire κ.st)] = #[{ g := i, fn := g.frame.fn, pos := g.frame.place, act := .mark (.acquire κ.st) }] := ofEvents_one _ _ _ _
  refine ⟨c', o', fun q r => rels q r ∧ q ≠ i, hI.go (own' := o') (cv' := cv) (la' := la) (rels' := fun q r => rels q r ∧ q ≠ i) hi (Thr.runs rfl hT') (fun j hj hji hjq => rely_of hI (WCh.refl own i (fun _ => False) w) (fun _ e => e.elim) (fun q κq psq kq hqN hqq hqpar => (hI.crew q κq psq kq hqN hqq hqpar).live) hj hji hjq)
    (fun j κj kj _ _ _ _ => .inl rfl) (fun h0 => ⟨rfl, ?_⟩) (fun j hj h0 hjq => ?_) (fun q κq psq kq hqN hqq hqpar => ?_) (fun q r hr => ?_) (fun _ => ?_) (fun _ a ha => ?_) (fun _ a ha => ?_) (fun a j hji => ⟨fun h => (oS a (by rw [h]; simp) (by rw [h]; simp) (by rw [h]; simp) (by rw [h]; simp)).trans h, fun h => (oS a (by rw [h]; simp) (by rw [h]; simp) (by rw [h]; simp) (by rw [h]; simp)).trans h⟩) ?_ (fun a ha => hI.base a fun e => ha (oF a e)) hI.bsz hI.old⟩
  · show (Γ i).c.mem = none
    rw [h0]; exact hI.main.2
  · obtain ⟨e1, e2, e3⟩ := hmem1 j
    rw [e1] at hjq
    obtain ⟨κ2, ms, lb, J, ps, k, k1, k2, k3, k4, k5, k6⟩ := hI.mem j hj h0 hjq
    have hbi := hne j hj h0 hjq
    refine ⟨κ2, ms, lb, J, ps, k, e3.trans k1, by rw [e2]; exact k2, by rw [e2, upd_ne Γ _ hbi]; exact k3, by rw [e2, upd_ne Γ _ hbi]; exact k4, by rw [e2]; exact k5, fun h => ?_⟩
    by_cases hji : j = i
    · subst hji
      exact absurd (hL.2.2 κ2 ms lb J k1) h
    · rw [upd_ne Γ _ hji]; exact k6 h
  · by_cases hqi : q = i
    · subst hqi; rw [upd_same] at hqpar; cases hqpar
    · rw [upd_ne Γ _ hqi] at hqq hqpar
      have er : (fun r => rels q r ∧ q ≠ i) = rels q := by
        funext r
        exact propext ⟨fun h => h.1, fun h => ⟨h, hqi⟩⟩
      rw [er]
      refine (hI.crew q κq psq kq hqN hqq hqpar).keep (fun a ha => ⟨oS a (by rcases ha with h | h <;> rw [h] <;> simp) (by rcases ha with h | h <;> rw [h] <;> simp) (by rcases ha with h | h <;> rw [h] <;> simp [hqi]) (by rcases ha with h | h <;> rw [h] <;> simp [hqi]), rfl, rfl⟩)
        (fun a ha => (oS a (by rw [ha]; simp) (by rw [ha]; simp [hqi]) (by rw [ha]; simp) (by rw [ha]; simp)).trans ha) (fun a r ha => ⟨(oS a (by rw [ha]; simp [hqi]) (by rw [ha]; simp) (by rw [ha]; simp) (by rw [ha]; simp)).trans ha, rfl, rfl⟩) (fun j _ => (hst j q).1) (fun j _ => (hst j q).2) (fun j _ h1 h2 lb J h3 => ?_)
      obtain ⟨e1, e2, e3⟩ := hmem1 j
      exact ⟨e1.trans h1, e2.trans h2, lb, J, e3.trans h3, fun _ x => x⟩
  · obtain ⟨h1, h2, x, h3⟩ := hI.norel q r hr.1
    rw [upd_ne Γ _ hr.2]
    exact ⟨h1, h2, x, h3⟩
  · rw [Deaf_own, hI.deaf i hlt hq, deaf_of hL.2.2 hpar]
    exact (deaf_none (c := c') hL.2.2 rfl rfl).symm
  · rcases ha with ha | ha
    · have h := hO a ha
      exact (oS a (by rw [h]; simp) (by rw [h]; simp) (by rw [h]; simp) (by rw [h]; simp)).trans h
    · exact oX a ha
  · have h := hU a ha
    exact (oS a (by rw [h]; simp) (by rw [h]; simp) (by rw [h]; simp) (by rw [h]; simp)).trans h
  · have hLF : LF gs.size (upd Γ i ⟨n, c', false, (Γ i).boss⟩) = LF gs.size Γ := by
      funext j
      obtain ⟨e1, -, e3⟩ := hmem1 j
      unfold LF; rw [e1, e3]
    have hZF : ZF gs.size (upd Γ i ⟨n, c', false, (Γ i).boss⟩) = ZF gs.size Γ := by
      funext j a
      unfold ZF
      by_cases hji : j = i
      · subst hji; rw [upd_same, hq]
      · rw [upd_ne Γ _ hji]
    rw [hLF, hZF, hop]
    exact hI.ti.acquire (p := i) (s := κ.st) rfl rfl (by rw [hI.deaf i hlt hq, deaf_of hL.2.2 hpar]; rfl) (hI.ti.big _ (by rw [hC.st]; simp)) hL hC.rels (fun a => rfl)
end Go.Farm
