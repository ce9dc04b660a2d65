/- One that only leaves; a worker is started. -/
import Derived.Test.YtidadgibhmiojaaGm
namespace Go.Farm
open Go.Conc Go.RowKit
open Go.ConcN (sumTo upd sumTo_upd upd_ne upd_same sumTo_congr le_sumTo sumTo_le sumTo_upd_out)
variable {P : Program} {Post : Value → World → Prop} {B : Nat} {w0 : World} {gs : Array Goroutine} {w w' : World} {t : Trace} {Γ Γ' : Nat → GS} {own own' : Addr → Owner} {cv cv' : Nat → Nat} {la la' : Nat → Option Nat} {rels rels' : Nat → Nat → Prop}
theorem mute_cases {e : Event} (h : e.mute = true) : MemAct.ofEvent e = .mark .disable ∨ MemAct.ofEvent e = .mark .enable := by
  obtain ⟨loc, wr, sy⟩ := e
  cases loc with
  | mark m => cases m <;> first | exact .inl rfl | exact .inr rfl | simp [Event.mute] at h
  | _ => simp [Event.mute] at h
/-- ████ one that only leaves ████ -/
theorem step_quit (hI : Inv P Post B w0 gs w t Γ own cv la rels) {i n : Nat} {g g' : Goroutine} {es : Array Event} (hi : gs[i]? = some g) (hq : (Γ i).quit = true) (hi0 : i ≠ 0)
    (hes : ∀ e ∈ es, e.mute = true) (hQ : QuitsD P n (deafBehind (Deaf t i) es) g') :
    Inv P Post B w0 ((gs.map (woken P g g' w)).setIfInBounds i g') w (t ++ MemOp.ofEvents i g.frame.fn g.frame.place es) (upd Γ i ⟨n, (Γ i).c, true, (Γ i).boss⟩) own cv la rels := by
  have hlt : i < gs.size := (Array.getElem?_eq_some_iff.1 hi).1
  have hst : ∀ x q, (upd Γ i ⟨n, (Γ i).c, true, (Γ i).boss⟩ x).stage q = (Γ x).stage q ∧ (upd Γ i ⟨n, (Γ i).c, true, (Γ i).boss⟩ x).act q = (Γ x).act q := fun x q => stage_upd (s' := ⟨n, (Γ i).c, true, (Γ i).boss⟩) hq.symm rfl rfl
  have hsame : ∀ x, (upd Γ i ⟨n, (Γ i).c, true, (Γ i).boss⟩ x).quit = (Γ x).quit ∧ (upd Γ i ⟨n, (Γ i).c, true, (Γ i).boss⟩ x).boss = (Γ x).boss ∧ (upd Γ i ⟨n, (Γ i).c, true, (Γ i).boss⟩ x).c = (Γ x).c := fun x => by
    by_cases hx : x = i
    · subst hx; rw [upd_same]; exact ⟨hq.symm, rfl, rfl⟩
    · rw [upd_ne Γ _ hx]; exact ⟨rfl, rfl, rfl⟩
  refine hI.go (own' := own) (cv' := cv) (la' := la) (rels' := rels) hi (Thr.quits rfl hi0 (by rw [Deaf_own]; exact hQ)) (fun j hj hji hjq => rely_of hI (WCh.refl own i (fun _ => False) w) (fun _ e => e.elim) (fun q κq psq kq hqN hqq hqpar => (hI.crew q κq psq kq hqN hqq hqpar).live) hj hji hjq)
    (fun j κj kj _ _ _ _ => .inl rfl) (fun h0 => absurd h0 hi0) (fun j hj h0 hjq => ?_) (fun q κq psq kq hqN hqq hqpar => ?_) (fun q r hr => ?_) (fun h => by cases h) (fun h => by cases h) (fun h => by cases h) (fun a j _ => ⟨id, id⟩) ?_ hI.base hI.bsz hI.old
  · obtain ⟨e1, e2, e3⟩ := hsame j
    rw [e1] at hjq
    obtain ⟨f1, f2, f3⟩ := hsame (Γ j).boss
    rw [e2, e3, f1, f3]
    exact hI.mem j hj h0 hjq
  · obtain ⟨e1, e2, e3⟩ := hsame q
    rw [e1] at hqq
    rw [e3] at hqpar
    refine (hI.crew q κq psq kq hqN hqq hqpar).keep (fun a _ => ⟨rfl, rfl, rfl⟩) (fun a h => h) (fun a r h => ⟨h, rfl, rfl⟩) (fun j _ => (hst j q).1) (fun j _ => (hst j q).2) (fun j _ h1 h2 lb J h3 => ?_)
    obtain ⟨k1, k2, k3⟩ := hsame j
    exact ⟨k1.trans h1, k2.trans h2, lb, J, by rw [k3]; exact h3, fun _ x => x⟩
  · obtain ⟨e1, e2, e3⟩ := hsame q
    rw [e1, e3]
    exact hI.norel q r hr
  · have hLF : LF gs.size (upd Γ i ⟨n, (Γ i).c, true, (Γ i).boss⟩) = LF gs.size Γ := by
      funext j
      obtain ⟨e1, -, e3⟩ := hsame j
      unfold LF; rw [e1, e3]
    have hZF : ZF gs.size (upd Γ i ⟨n, (Γ i).c, true, (Γ i).boss⟩) = ZF gs.size Γ := by
      funext j a
      obtain ⟨e1, -, e3⟩ := hsame j
      unfold ZF; rw [e1, e3]
    rw [hLF, hZF]
    refine hI.ti.mute _ (fun op hop => ?_) (fun op hop => ?_) (Nat.le_refl _) (fun op hop a => ?_)
    · obtain ⟨e, he, rfl⟩ := Go.Conc.mem_ofEvents hop
      rcases mute_cases (hes e he) with h | h <;> (simp only [h]; rfl)
    · obtain ⟨e, he, rfl⟩ := Go.Conc.mem_ofEvents hop
      exact low_mute (hes e he) _
    · obtain ⟨e, he, rfl⟩ := Go.Conc.mem_ofEvents hop
      rcases mute_cases (hes e he) with h | h <;> simp [h]
/-- ████ a worker is started ████ -/
theorem step_spawn (hI : Inv P Post B w0 gs w t Γ own cv la rels) {i n k : Nat} {g g' ch : Goroutine} {κ : Crew} {Z' : AS} (hi : gs[i]? = some g) (hq : (Γ i).quit = false) (hpar : (Γ i).c.par = some (κ, .p3, k)) (hk : k < 1024)
    (hZ : ∀ a, Z' a → (Γ i).c.Z a) (hT : T P Post n (i == 0) { (Γ i).c with par := some (κ, .p0, k + 1) } g' w) (hC' : T P Post n false ⟨none3, none3, Z', none, some (κ, .m0, 0, fun _ => False), 0⟩ ch w)
    {x y : MemOp} (hx : x.g = i ∧ x.act = .go gs.size) (hy : y.g = gs.size ∧ y.act = .start) :
    Inv P Post B w0 ((gs.setIfInBounds i g').push ch) w (t ++ #[x, y]) (upd (upd Γ i ⟨n, { (Γ i).c with par := some (κ, .p0, k + 1) }, false, (Γ i).boss⟩) gs.size ⟨n, ⟨none3, none3, Z', none, some (κ, .m0, 0, fun _ => False), 0⟩, false, i⟩) own cv la rels := by
  have hlt : i < gs.size := (Array.getElem?_eq_some_iff.1 hi).1
  have hC := hI.crew i κ .p3 k hlt hq hpar
  have hL := live_of_par hI hlt hq hpar
  have hne : i ≠ gs.size := by omega
  generalize hs1 : (⟨n, { (Γ i).c with par := some (κ, .p0, k + 1) }, false, (Γ i).boss⟩ : GS) = s1
  generalize hs2 : (⟨n, ⟨none3, none3, Z', none, some (κ, .m0, 0, fun _ => False), 0⟩, false, i⟩ : GS) = s2
  have d1 : s1.quit = false ∧ s1.boss = (Γ i).boss ∧ s1.c.mem = (Γ i).c.mem ∧ s1.c.par = some (κ, .p0, k + 1) ∧ s1.c.O = (Γ i).c.O ∧ s1.c.U = (Γ i).c.U ∧ s1.c.Z = (Γ i).c.Z ∧ s1.n = n := by subst hs1; exact ⟨rfl, rfl, rfl, rfl, rfl, rfl, rfl, rfl⟩
  obtain ⟨q1, b1, m1, p1, O1, U1, Z1, n1⟩ := d1
  have uG : ∀ j, j ≠ i → j ≠ gs.size → upd (upd Γ i s1) gs.size s2 j = Γ j := fun j h1 h2 => by rw [upd_ne _ _ h2, upd_ne _ _ h1]
  have uI : upd (upd Γ i s1) gs.size s2 i = s1 := by rw [upd_ne _ _ hne, upd_same]
  have uN : upd (upd Γ i s1) gs.size s2 gs.size = s2 := upd_same _ _ _
  have hmem1 : ∀ j, j < gs.size → (upd (upd Γ i s1) gs.size s2 j).quit = (Γ j).quit ∧ (upd (upd Γ i s1) gs.size s2 j).boss = (Γ j).boss ∧ (upd (upd Γ i s1) gs.size s2 j).c.mem = (Γ j).c.mem := fun j hj => by
    by_cases h : j = i
    · subst h; rw [uI]; exact ⟨q1.trans hq.symm, b1, m1⟩
    · rw [uG j h (by omega)]; exact ⟨rfl, rfl, rfl⟩
  have hst : ∀ j q, j < gs.size → (upd (upd Γ i s1) gs.size s2 j).stage q = (Γ j).stage q ∧ (upd (upd Γ i s1) gs.size s2 j).act q = (Γ j).act q := fun j q hj => by
    obtain ⟨e1, e2, e3⟩ := hmem1 j hj
    unfold GS.stage GS.act
    rw [e1, e2, e3]; exact ⟨rfl, rfl⟩
  have st2 : s2.stage i = some .m0 := by subst hs2; exact stage_of (s := ⟨n, ⟨none3, none3, Z', none, some (κ, .m0, 0, fun _ => False), 0⟩, false, i⟩) rfl rfl rfl
  have st2' : ∀ q, q ≠ i → s2.stage q = none ∧ s2.act q = 0 := fun q h => by subst hs2; unfold GS.stage GS.act; simp [Ne.symm h]
  have ac2 : s2.act i ≤ 1 := by subst hs2; unfold GS.act; simp
  have ec : ∀ q, counted (gs.size + 1) (upd (upd Γ i s1) gs.size s2) q = counted gs.size Γ q + isCnt (s2.stage q) := fun q => by
    show sumTo gs.size _ + isCnt ((upd (upd Γ i s1) gs.size s2 gs.size).stage q) = _
    rw [uN]
    congr 1
    exact sumTo_congr fun j hj => by rw [(hst j q hj).1]
  have ea : ∀ q, active (gs.size + 1) (upd (upd Γ i s1) gs.size s2) q = active gs.size Γ q + s2.act q := fun q => by
    show sumTo gs.size _ + (upd (upd Γ i s1) gs.size s2 gs.size).act q = _
    rw [uN]
    congr 1
    exact sumTo_congr fun j hj => (hst j q hj).2
  have hsz : ((gs.setIfInBounds i g').push ch).size = gs.size + 1 := by simp
  have dfr : ∀ j, Deaf (t ++ #[x, y]) j = Deaf t j := fun j => by
    have e : t ++ #[x, y] = (t ++ #[x]) ++ #[y] := by rw [Array.append_assoc]; rfl
    rw [e, Deaf_push, Deaf_push]
    unfold deafStep
    rw [hx.2, hy.2]
  have hdi : Deaf t i = 0 := by rw [hI.deaf i hlt hq, deaf_of hL.2.2 hpar]; rfl
  have lastE : ∀ q κq psq kq, q < gs.size → (Γ q).quit = false → (Γ q).c.par = some (κq, psq, kq) → lastOf (upd (upd Γ i s1) gs.size s2) (la q) q = lastOf Γ (la q) q := fun q κq psq kq h1 h2 h3 => by
    have hc := hI.crew q κq psq kq h1 h2 h3
    unfold lastOf
    cases e : la q with
    | none => rfl
    | some z => exact (hst z q (hc.lN z e)).1
  -- a crew is as it was, but for its starter's place and its new worker
  have crewC : ∀ q κq psq ps' kq kq', q < gs.size → (Γ q).quit = false → (Γ q).c.par = some (κq, psq, kq) →
      (∃ st sm : Nat, w.cell? κq.st = some (.int .u64 st) ∧ w.cell? κq.sm = some (.int .u32 sm) ∧ GVal ps' (counted gs.size Γ q + isCnt (s2.stage q) + ps'.pend) (lastOf Γ (la q) q) st sm) →
      kq + s2.act q ≤ kq' → kq + isCnt (s2.stage q) ≤ kq' → kq' ≤ 1024 → (kq' = kq ∨ (s2.stage q).isSome = true) → isLast (s2.stage q) = false → (∀ ms, s2.stage q = some ms → ms = .m0) →
      CrewOk (gs.size + 1) (upd (upd Γ i s1) gs.size s2) own (t ++ #[x, y]) (cv q) (la q) (rels q) w q κq ps' kq' := fun q κq psq ps' kq kq' h1 h2 h3 hv hk1 hk2 hk3 hk4 hk5 hk6 => by
    have hc := hI.crew q κq psq kq h1 h2 h3
    refine ⟨hc.st, hc.sm, hc.cn, by rw [ec, lastE q κq psq kq h1 h2 h3]; exact hv, hc.fz, hc.cc, by rw [ea]; have := hc.cb; omega, hk3, by rw [ec]; have := hc.vb; omega, fun j hj => ?_, fun j hj => Nat.lt_succ_of_lt (hc.lN j hj), hc.pool, hc.inj, fun j hj hcj => ?_, fun hk0 => ?_, hc.full, hc.stable, fun r hr => (hc.rels r hr).app _, hc.small, fun j hj ms hms hm0 => ?_⟩
    · rcases Nat.lt_or_ge j gs.size with h | h
      · rw [(hst j q h).1]; exact hc.lk j h
      · have : j = gs.size := by omega
        subst this
        rw [uN, hk5]
        exact ⟨fun h => (by cases h), fun h' => by have := hc.lN _ h'; omega⟩
    · rcases hc.task j hj hcj with ⟨z, lbz, Jz, k1, k2, k3, k4, k5⟩ | h
      · obtain ⟨e1, e2, e3⟩ := hmem1 z k1
        exact .inl ⟨z, lbz, Jz, Nat.lt_succ_of_lt k1, e1.trans k2, e2.trans k3, e3.trans k4, k5⟩
      · exact .inr h
    · rcases hk4 with rfl | h
      · rcases hc.some1 hk0 with ⟨z, hz, hs⟩ | h
        · exact .inl ⟨z, Nat.lt_succ_of_lt hz, by rw [(hst z q hz).1]; exact hs⟩
        · exact .inr h
      · exact .inl ⟨gs.size, Nat.lt_succ_self _, by rw [uN]; exact h⟩
    · rcases Nat.lt_or_ge j gs.size with h | h
      · rw [(hst j q h).1] at hms; exact hc.relm j h ms hms hm0
      · have : j = gs.size := by omega
        subst this
        rw [uN] at hms
        exact absurd (hk6 ms hms) hm0
  have parU : ∀ q, q < gs.size → q ≠ i → (upd (upd Γ i s1) gs.size s2 q).c.par = (Γ q).c.par := fun q h1 h2 => by rw [uG q h2 (by omega)]
  have par2 : s2.c.par = none := by subst hs2; rfl
  refine ⟨by rw [hsz]; omega, fun j gj hj => ?_, ?_, fun j hj h0 hjq => ?_, fun q κq psq kq hqN hqq hqpar => ?_, fun q r hr => ?_, fun j hj hjq => ?_, fun j hj => ?_, fun j hj hjq a ha => ?_, fun j hj hjq a ha => ?_, ?_, hI.base, hI.bsz, hI.old⟩
  · rcases Nat.lt_or_ge j gs.size with h | h
    · rw [Array.getElem?_push_lt (by simpa using h)] at hj
      by_cases hji : j = i
      · subst hji
        rw [uI]
        have : gj = g' := by
          have := Option.some.inj hj
          simpa using this.symm
        subst this
        refine Thr.runs q1 ?_
        subst hs1
        exact hT
      · rw [uG j hji (by omega)]
        have hgj : gs[j]? = some gj := by
          have := Option.some.inj hj
          rw [Array.getElem_setIfInBounds_ne (by simpa using h) (Ne.symm hji)] at this
          rw [← this]; simp
        have := hI.thr j gj hgj
        unfold Thr at this ⊢
        rw [dfr]
        exact this
    · have hjN : j = gs.size := by
        have := (Array.getElem?_eq_some_iff.1 hj).1
        rw [hsz] at this; omega
      subst hjN
      rw [uN]
      have : gj = ch := by
        have e : ((gs.setIfInBounds i g').push ch)[gs.size]? = some ch := by
          have := Array.getElem?_push_size (xs := gs.setIfInBounds i g') (x := ch)
          simpa using this
        rw [e] at hj
        exact (Option.some.inj hj).symm
      subst this
      subst hs2
      refine Thr.runs rfl ?_
      have : (gs.size == 0) = false := beq_false_of_ne (by have := hI.pos; omega)
      rw [this]
      exact hC'
  · by_cases h0 : 0 = i
    · subst h0; rw [uI]; exact ⟨q1, m1.trans hI.main.2⟩
    · rw [uG 0 h0 (by have := hI.pos; omega)]; exact hI.main
  · have hb : ∀ b κb psb kb, b < gs.size → (Γ b).quit = false → (Γ b).c.par = some (κb, psb, kb) → (upd (upd Γ i s1) gs.size s2 b).quit = false ∧ ∃ ps1 k1, (upd (upd Γ i s1) gs.size s2 b).c.par = some (κb, ps1, k1) := fun b κb psb kb h1 h2 h3 => by
      by_cases hbi : b = i
      · subst hbi
        rw [uI]
        rw [hpar] at h3
        injection h3 with e; injection e with e1 e
        subst e1
        exact ⟨q1, _, _, p1⟩
      · rw [uG b hbi (by omega)]; exact ⟨h2, _, _, h3⟩
    rw [hsz] at hj
    rcases Nat.lt_or_ge j gs.size with h | h
    · obtain ⟨e1, e2, e3⟩ := hmem1 j h
      rw [e1] at hjq
      obtain ⟨κ2, ms, lb, J, ps, kk, k1, k2, k3, k4, k5, k6⟩ := hI.mem j h h0 hjq
      obtain ⟨f1, ps1, kk1, f2⟩ := hb _ _ _ _ (by omega) k3 k4
      refine ⟨κ2, ms, lb, J, ps1, kk1, e3.trans k1, by rw [e2]; exact k2, by rw [e2]; exact f1, by rw [e2]; exact f2, by rw [e2]; exact k5, fun hms => ?_⟩
      by_cases hji : j = i
      · subst hji
        exact absurd (hL.2.2 κ2 ms lb J k1) hms
      · rw [uG j hji (by omega)]; exact k6 hms
    · have hjN : j = gs.size := by omega
      subst hjN
      rw [uN]
      subst hs2
      show ∃ κ2 ms lb J ps k2, some (κ, MS.m0, 0, fun _ => False) = some (κ2, ms, lb, J) ∧ i < gs.size ∧ (upd (upd Γ i s1) gs.size _ i).quit = false ∧ (upd (upd Γ i s1) gs.size _ i).c.par = some (κ2, ps, k2) ∧ lb ≤ cv i ∧ _
      rw [uI]
      exact ⟨κ, .m0, 0, _, .p0, k + 1, rfl, hlt, q1, p1, Nat.zero_le _, fun h => absurd rfl h⟩
  · rw [hsz] at hqN ⊢
    rcases Nat.lt_or_ge q gs.size with h | h
    · by_cases hqi : q = i
      · subst hqi
        rw [uI, p1] at hqpar
        injection hqpar with e; injection e with e1 e; injection e with e2 e3
        subst e1; subst e2; subst e3
        refine crewC q κ .p3 .p0 k (k + 1) h hq hpar ?_ (Nat.add_le_add_left ac2 k) (by rw [st2]; exact Nat.le_refl _) (by omega) (.inr (by rw [st2]; rfl)) (by rw [st2]; rfl) (fun ms h => by rw [st2] at h; exact (Option.some.inj h).symm)
        rw [st2]
        exact hC.val
      · have e := uG q hqi (by omega)
        rw [e] at hqq hqpar
        obtain ⟨s0, a0⟩ := st2' q hqi
        refine crewC q κq psq psq kq kq h hqq hqpar ?_ (by rw [a0]; exact Nat.le_refl _) (by rw [s0]; exact Nat.le_refl _) (hI.crew q κq psq kq h hqq hqpar).kb (.inl rfl) (by rw [s0]; rfl) (fun ms h => by rw [s0] at h; cases h)
        rw [s0]
        exact (hI.crew q κq psq kq h hqq hqpar).val
    · have : q = gs.size := by omega
      subst this
      rw [uN, par2] at hqpar; cases hqpar
  · obtain ⟨h1, h2, z, h3⟩ := hI.norel q r hr
    rw [hsz]
    refine ⟨by omega, by rw [(hmem1 q h1).1]; exact h2, ?_⟩
    by_cases hqi : q = i
    · subst hqi; rw [uI]; exact ⟨_, p1⟩
    · rw [parU q h1 hqi]; exact ⟨z, h3⟩
  · rw [dfr]
    rw [hsz] at hj
    rcases Nat.lt_or_ge j gs.size with h | h
    · by_cases hji : j = i
      · subst hji
        rw [uI, hdi]
        exact (deaf_of (fun κ2 ms2 lb2 J2 h => hL.2.2 κ2 ms2 lb2 J2 (by rw [← m1]; exact h)) p1).symm
      · rw [uG j hji (by omega)] at hjq ⊢
        exact hI.deaf j h hjq
    · have : j = gs.size := by omega
      subst this
      rw [uN, hI.above _ (Nat.le_refl _)]
      subst hs2
      rfl
  · rw [dfr]
    rw [hsz] at hj
    exact hI.above j (by omega)
  · rw [hsz] at hj
    rcases Nat.lt_or_ge j gs.size with h | h
    · by_cases hji : j = i
      · subst hji; rw [uI, O1] at ha; exact hI.owO j h hq a ha
      · rw [uG j hji (by omega)] at hjq ha; exact hI.owO j h hjq a ha
    · have : j = gs.size := by omega
      subst this
      rw [uN] at ha
      subst hs2
      exact ha.elim
  · rw [hsz] at hj
    rcases Nat.lt_or_ge j gs.size with h | h
    · by_cases hji : j = i
      · subst hji; rw [uI, U1] at ha; exact hI.owU j h hq a ha
      · rw [uG j hji (by omega)] at hjq ha; exact hI.owU j h hjq a ha
    · have : j = gs.size := by omega
      subst this
      rw [uN] at ha
      subst hs2
      exact ha.elim
  · rw [hsz]
    refine hI.ti.fork hx hy hdi (hI.above _ (Nat.le_refl _)) (fun j a h => ?_) (fun j h => ?_)
    · obtain ⟨h1, h2, h3⟩ := h
      rcases Nat.lt_or_ge j gs.size with h | h
      · by_cases hji : j = i
        · subst hji; rw [uI, Z1] at h3; exact .inl ⟨h, hq, h3⟩
        · rw [uG j hji (by omega)] at h2 h3; exact .inl ⟨h, h2, h3⟩
      · have : j = gs.size := by omega
        subst this
        rw [uN] at h3
        subst hs2
        exact .inr ⟨rfl, hlt, hq, hZ a h3⟩
    · obtain ⟨h1, h2, h3⟩ := h
      obtain ⟨e1, e2, e3⟩ := hmem1 j h1
      exact ⟨by omega, e1.trans h2, fun κ2 ms lb J h => h3 κ2 ms lb J (by rw [← e3]; exact h)⟩
end Go.Farm
