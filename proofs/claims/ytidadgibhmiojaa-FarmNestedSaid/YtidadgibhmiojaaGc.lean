/- What is held of the trace, at a release, an acquire, a go statement, a step of one that only leaves. -/
import Derived.Test.YtidadgibhmiojaaGb
namespace Go.Farm
open Go.Conc
theorem touchAt_push {t : Trace} {op : MemOp} {x : Nat} {b : Touch} (h : touchAt (t ++ #[op]) x = some b) (hop : op.act.touch? = none) : touchAt t x = some b ∧ x < t.size := by
  obtain ⟨y, hy, hyb⟩ := touch_of h
  rcases getElem?_append_cases hy with ⟨hlt, hy'⟩ | ⟨_, hm⟩
  · exact ⟨by rw [touchAt_of hy']; exact hyb, hlt⟩
  · obtain rfl : y = op := by simpa using hm
    rw [hop] at hyb; cases hyb
theorem touchAt_app {t u : Trace} {x : Nat} {b : Touch} (h : touchAt (t ++ u) x = some b) (hu : ∀ op ∈ u, op.act.touch? = none) : touchAt t x = some b ∧ x < t.size := by
  obtain ⟨y, hy, hyb⟩ := touch_of h
  rcases getElem?_append_cases hy with ⟨hlt, hy'⟩ | ⟨_, hm⟩
  · exact ⟨by rw [touchAt_of hy']; exact hyb, hlt⟩
  · rw [hu y hm] at hyb; cases hyb
theorem noRace_mute {said : Bool} {t u : Trace} (h : ¬ Race said t) (hu : ∀ op ∈ u, op.act.touch? = none) : ¬ Race said (t ++ u) := by
  rintro ⟨i, j, hij, ⟨a, b, ha, hb, hc⟩, n1, n2⟩
  obtain ⟨ha', hi⟩ := touchAt_app (t := t) (u := u) (x := i) (b := a) ha hu
  obtain ⟨hb', hj⟩ := touchAt_app (t := t) (u := u) (x := j) (b := b) hb hu
  exact h ⟨i, j, hij, ⟨a, b, ha', hb', hc⟩, fun e => n1 (hb_app u e), fun e => n2 (hb_app u e)⟩
theorem counts_mute {t u : Trace} {x : Nat} (hu : ∀ op ∈ u, op.act.touch? = none) (h : (t ++ u).counts x) : x < t.size ∧ t.counts x := by
  obtain ⟨b, hb, h1⟩ := h
  obtain ⟨-, hx⟩ := touchAt_app (t := t) (u := u) hb hu
  exact ⟨hx, (counts_old hx).1 ⟨b, hb, h1⟩⟩
/-- steps that touch nothing -/
theorem TI.mute {t : Trace} {own : Addr → Owner} {Z : Nat → AS} {live : Nat → Prop} {rels : Nat → Nat → Prop} {size size' : Nat} (h : TI t own Z live rels size)
    (u : Trace) (hu : ∀ op ∈ u, op.act.touch? = none) (hlow : ∀ op ∈ u, op.act.low size') (hsz : size ≤ size') (hnr : ∀ op ∈ u, ∀ a, op.act ≠ .mark (.release a)) : TI (t ++ u) own Z live rels size' := by
  have tt : ∀ {x : Nat} {b : Touch}, touchAt (t ++ u) x = some b → touchAt t x = some b := fun hb => (touchAt_app hb hu).1
  refine ⟨fun said => noRace_mute (h.race said) hu, fun a i ho x b hb hl => (h.ow a i ho x b (tt hb) hl).app u, fun a ho x b hb => h.un a ho x b (tt hb), h.zro, fun a i hz x b hb hl hw => (h.ro a i hz x b (tt hb) hl hw).app u,
    fun a p r ho => ⟨(h.ret a p r ho).1, fun x b hb hl => ((h.ret a p r ho).2 x b (tt hb) hl).app u⟩, fun a p ho x b hb hl => ⟨(h.shr a p ho x b (tt hb) hl).1, fun hs => ⟨((h.shr a p ho x b (tt hb) hl).2 hs).1, ((h.shr a p ho x b (tt hb) hl).2 hs).2.app u⟩⟩,
    fun x hx => ?_, fun op hop => ?_, fun op hop => ?_, fun a ha => Nat.lt_of_lt_of_le (h.big a ha) hsz⟩
  · obtain ⟨_, hx'⟩ := counts_mute hu hx
    rcases h.over x hx' with ⟨j, h1, h2⟩ | ⟨p, r, h1, h2⟩
    · exact .inl ⟨j, h1, h2.app u⟩
    · exact .inr ⟨p, r, h1, h2.app u⟩
  · rcases Array.mem_append.1 hop with h1 | h1
    · exact h.norel op h1
    · exact hnr op h1
  · rcases Array.mem_append.1 hop with h1 | h1
    · exact MemAct.low_mono hsz (h.low op h1)
    · exact hlow op h1
/-- a worker releases for p: what it has passes into that release -/
theorem TI.release {t : Trace} {own : Addr → Owner} {Z : Nat → AS} {live : Nat → Prop} {rels : Nat → Nat → Prop} {size i p : Nat} {s : Addr} (h : TI t own Z live rels size)
    {op : MemOp} (hg : op.g = i) (hact : op.act = .mark (.releaseMerge s)) (hs : s.block < size)
    {own' : Addr → Owner} {Z' : Nat → AS} (hown : ∀ a, own' a = (if own a = .ow i ∨ own a = .un i then .ret p t.size else own a)) (hZ : ∀ j a, Z' j a → j ≠ i ∧ Z j a) :
    TI (t ++ #[op]) own' Z' (fun j => live j ∧ j ≠ i) (fun q r => rels q r ∨ (q = p ∧ r = t.size)) size := by
  have ht : op.act.touch? = none := by rw [hact]; rfl
  have hu : ∀ y ∈ #[op], y.act.touch? = none := fun y hy => by have e : y = op := (by simpa using hy); rw [e]; exact ht
  have tt : ∀ {x : Nat} {b : Touch}, touchAt (t ++ #[op]) x = some b → touchAt t x = some b := fun hb => (touchAt_app hb hu).1
  have hlast : (t ++ #[op])[t.size]? = some op := by rw [Array.getElem?_append_right (Nat.le_refl _)]; simp
  have kb : ∀ x, Knows t i x → Before (t ++ #[op]) x t.size := fun x hk => .inr (hk.hb_new (Nat.le_refl _) hlast hg)
  have keep : ∀ a o, own' a = o → (∀ r, o ≠ .ret p r) → own a = o := fun a o e hne => by
    rw [hown] at e
    split at e
    · exact absurd e.symm (hne _)
    · exact e
  refine ⟨fun said => noRace_mute (h.race said) hu, fun a j ho x b hb hl => (h.ow a j (keep a _ ho (fun _ => by simp)) x b (tt hb) hl).app _, fun a ho x b hb => ?_, fun a j hz => ?_, fun a j hz x b hb hl hw => (h.ro a j (hZ j a hz).2 x b (tt hb) hl hw).app _,
    fun a q r ho => ?_, fun a q ho x b hb hl => ?_, fun x hx => ?_, fun y hy => ?_, fun y hy => ?_, fun a ha => ?_⟩
  · refine h.un a ?_ x b (tt hb)
    rcases ho with ⟨j, h1⟩ | ⟨q, h1⟩
    · exact .inl ⟨j, keep a _ h1 (fun _ => by simp)⟩
    · exact .inr ⟨q, keep a _ h1 (fun _ => by simp)⟩
  · have h1 := h.zro a j (hZ j a hz).2
    rw [hown, h1]; simp
  · rw [hown] at ho
    split at ho
    · rename_i hc
      injection ho with e1 e2
      subst e1
      subst e2
      refine ⟨.inr ⟨rfl, rfl⟩, fun x b hb hl => ?_⟩
      rcases hc with hc | hc
      · exact kb x (h.ow a i hc x b (tt hb) hl)
      · exact absurd hl (h.un a (.inl ⟨i, hc⟩) x b (tt hb))
    · obtain ⟨h1, h2⟩ := h.ret a q r ho
      exact ⟨.inl h1, fun x b hb hl => (h2 x b (tt hb) hl).app _⟩
  · have ho' : own a = .grp q ∨ own a = .cnt q := ho.imp (fun e => keep a _ e (fun _ => by simp)) (fun e => keep a _ e (fun _ => by simp))
    obtain ⟨h1, h2⟩ := h.shr a q ho' x b (tt hb) hl
    refine ⟨h1, fun hs => ⟨?_, (h2 hs).2.app _⟩⟩
    have := (h2 hs).1
    rw [hown, this]; simp
  · obtain ⟨hlt, hx'⟩ := counts_mute hu hx
    rcases h.over x hx' with ⟨j, h1, h2⟩ | ⟨q, r, h1, h2⟩
    · by_cases hj : j = i
      · subst hj
        exact .inr ⟨p, t.size, .inr ⟨rfl, rfl⟩, kb x h2⟩
      · exact .inl ⟨j, ⟨h1, hj⟩, h2.app _⟩
    · exact .inr ⟨q, r, .inl h1, h2.app _⟩
  · rcases Array.mem_append.1 hy with h1 | h1
    · exact h.norel y h1
    · obtain rfl : y = op := by simpa using h1
      intro a; rw [hact]; simp
  · rcases Array.mem_append.1 hy with h1 | h1
    · exact h.low y h1
    · obtain rfl : y = op := by simpa using h1
      rw [hact]; exact hs
  · refine h.big a fun e => ha ?_
    rw [hown, e]; simp
/-- a release of the group s -/
def IsRel (t : Trace) (s : Addr) (r : Nat) : Prop := t.act? r = some (.mark (.releaseMerge s)) ∧ t.heard r
theorem IsRel.app {t : Trace} {s : Addr} {r : Nat} (u : Trace) (h : IsRel t s r) : IsRel (t ++ u) s r := by
  have hr := lt_of_act? h.1
  exact ⟨by rw [act?_old hr]; exact h.1, (heard_old hr).2 h.2⟩
theorem IsRel.new {t : Trace} {s : Addr} {op : MemOp} (hact : op.act = .mark (.releaseMerge s)) (hd : Deaf t op.g = 0) : IsRel (t ++ #[op]) s t.size := by
  have hlast : (t ++ #[op])[t.size]? = some op := by rw [Array.getElem?_append_right (Nat.le_refl _)]; simp
  exact ⟨by rw [act?_of hlast, hact], op.g, by simp [Trace.g?], by rw [deaf_old (Nat.le_refl _)]; exact hd⟩
/-- the starter p acquires: it knows all that lies ahead of the releases for it -/
theorem TI.acquire {t : Trace} {own : Addr → Owner} {Z : Nat → AS} {live : Nat → Prop} {rels : Nat → Nat → Prop} {size p : Nat} {s : Addr} (h : TI t own Z live rels size)
    {op : MemOp} (hg : op.g = p) (hact : op.act = .mark (.acquire s)) (hd : Deaf t p = 0) (hs : s.block < size) (hlive : live p) (hrel : ∀ r, rels p r → IsRel t s r)
    {own' : Addr → Owner} (hown : ∀ a, own' a = (match own a with | .ret q r => if q = p then .ow p else .ret q r | .pool q => if q = p then .ow p else .pool q | .grp q => if q = p then .free else .grp q | .cnt q => if q = p then .free else .cnt q | o => o)) :
    TI (t ++ #[op]) own' Z live (fun q r => rels q r ∧ q ≠ p) size := by
  have ht : op.act.touch? = none := by rw [hact]; rfl
  have hu : ∀ y ∈ #[op], y.act.touch? = none := fun y hy => by have e : y = op := (by simpa using hy); rw [e]; exact ht
  have tt : ∀ {x : Nat} {b : Touch}, touchAt (t ++ #[op]) x = some b → touchAt t x = some b := fun hb => (touchAt_app hb hu).1
  have hlast : (t ++ #[op])[t.size]? = some op := by rw [Array.getElem?_append_right (Nat.le_refl _)]; simp
  have hheard : (t ++ #[op]).heard t.size := ⟨p, by simp [Trace.g?, hg], by rw [deaf_old (Nat.le_refl _)]; exact hd⟩
  have norel : ∀ k a, (t ++ #[op]).act? k ≠ some (.mark (.release a)) := fun k a e => by
    obtain ⟨y, hy, hya⟩ := Option.map_eq_some_iff.1 e
    rcases getElem?_append_cases hy with ⟨_, hy'⟩ | ⟨_, hm⟩
    · exact h.norel y (Array.mem_of_getElem? hy') a hya
    · obtain rfl : y = op := by simpa using hm
      rw [hact] at hya; cases hya
  have learn : ∀ r x, rels p r → Before t x r → Knows (t ++ #[op]) p x := fun r x hr hb => by
    have h1 := (hrel r hr).app #[op]
    have hlt : r < t.size := lt_of_act? (hrel r hr).1
    have edge : HappensBefore (t ++ #[op]) r t.size := .single (.inr ⟨.marked hlt (.inr h1.1) (by rw [act?_of hlast, hact]) (fun k _ _ => norel k s), h1.2, hheard⟩)
    exact ⟨t.size, op, hlast, hg, .inr ((hb.app #[op]).hb edge)⟩
  refine ⟨fun said => noRace_mute (h.race said) hu, fun a j ho x b hb hl => ?_, fun a ho x b hb => ?_, fun a j hz => ?_, fun a j hz x b hb hl hw => (h.ro a j hz x b (tt hb) hl hw).app _,
    fun a q r ho => ?_, fun a q ho x b hb hl => ?_, fun x hx => ?_, fun y hy => ?_, fun y hy => ?_, fun a ha => ?_⟩
  · rw [hown] at ho
    cases e : own a with
    | ow k =>
      simp only [e] at ho
      injection ho with e1
      subst e1
      exact (h.ow a k e x b (tt hb) hl).app _
    | ret q r =>
      simp only [e] at ho
      split at ho
      · rename_i hq
        subst hq
        injection ho with e1
        subst e1
        obtain ⟨h1, h2⟩ := h.ret a _ r e
        exact learn r x h1 (h2 x b (tt hb) hl)
      · cases ho
    | pool q => exact absurd hl (h.un a (.inr ⟨q, e⟩) x b (tt hb))
    | grp q => simp only [e] at ho; split at ho <;> cases ho
    | cnt q => simp only [e] at ho; split at ho <;> cases ho
    | free => simp [e] at ho
    | un k => simp [e] at ho
    | ro => simp [e] at ho
  · refine h.un a ?_ x b (tt hb)
    rcases ho with ⟨k, ho⟩ | ⟨q, ho⟩ <;> rw [hown] at ho <;> cases e : own a <;> simp only [e] at ho <;> first | (injection ho with e1; subst e1; first | exact .inl ⟨_, rfl⟩ | exact .inr ⟨_, rfl⟩) | (split at ho <;> first | (cases ho; done) | (injection ho with e1; subst e1; exact .inr ⟨_, rfl⟩)) | cases ho
  · have h1 := h.zro a j hz
    rw [hown]; simp [h1]
  · rw [hown] at ho
    cases e : own a with
    | ret q' r' =>
      simp only [e] at ho
      split at ho
      · cases ho
      · rename_i hq
        injection ho with e1 e2
        subst e1
        subst e2
        obtain ⟨h1, h2⟩ := h.ret a _ _ e
        exact ⟨⟨h1, hq⟩, fun x b hb hl => (h2 x b (tt hb) hl).app _⟩
    | pool q => simp only [e] at ho; split at ho <;> cases ho
    | grp q => simp only [e] at ho; split at ho <;> cases ho
    | cnt q => simp only [e] at ho; split at ho <;> cases ho
    | free => simp [e] at ho
    | un k => simp [e] at ho
    | ow k => simp [e] at ho
    | ro => simp [e] at ho
  · have src : (own a = .grp q ∧ own' a = .grp q) ∨ (own a = .cnt q ∧ own' a = .cnt q) := by
      have hk := hown a
      cases e : own a with
      | grp q' =>
        simp only [e] at hk
        split at hk
        · rcases ho with ho | ho <;> rw [hk] at ho <;> cases ho
        · rcases ho with ho | ho <;> rw [hk] at ho
          · injection ho with e1; subst e1; exact .inl ⟨rfl, hk⟩
          · cases ho
      | cnt q' =>
        simp only [e] at hk
        split at hk
        · rcases ho with ho | ho <;> rw [hk] at ho <;> cases ho
        · rcases ho with ho | ho <;> rw [hk] at ho
          · cases ho
          · injection ho with e1; subst e1; exact .inr ⟨rfl, hk⟩
      | ret q' r' => simp only [e] at hk; split at hk <;> rcases ho with ho | ho <;> rw [hk] at ho <;> cases ho
      | pool q' => simp only [e] at hk; split at hk <;> rcases ho with ho | ho <;> rw [hk] at ho <;> cases ho
      | free => simp only [e] at hk; rcases ho with ho | ho <;> rw [hk] at ho <;> cases ho
      | un k => simp only [e] at hk; rcases ho with ho | ho <;> rw [hk] at ho <;> cases ho
      | ow k => simp only [e] at hk; rcases ho with ho | ho <;> rw [hk] at ho <;> cases ho
      | ro => simp only [e] at hk; rcases ho with ho | ho <;> rw [hk] at ho <;> cases ho
    have ho' : own a = .grp q ∨ own a = .cnt q := src.imp (·.1) (·.1)
    obtain ⟨h1, h2⟩ := h.shr a q ho' x b (tt hb) hl
    refine ⟨h1, fun hs => ⟨?_, (h2 hs).2.app _⟩⟩
    rcases src with ⟨_, e⟩ | ⟨e, _⟩
    · exact e
    · have := (h2 hs).1; rw [e] at this; cases this
  · obtain ⟨hlt, hx'⟩ := counts_mute hu hx
    rcases h.over x hx' with ⟨j, h1, h2⟩ | ⟨q, r, h1, h2⟩
    · exact .inl ⟨j, h1, h2.app _⟩
    · by_cases hq : q = p
      · subst hq
        exact .inl ⟨q, hlive, learn r x h1 h2⟩
      · exact .inr ⟨q, r, ⟨h1, hq⟩, h2.app _⟩
  · rcases Array.mem_append.1 hy with h1 | h1
    · exact h.norel y h1
    · obtain rfl : y = op := by simpa using h1
      intro a; rw [hact]; simp
  · rcases Array.mem_append.1 hy with h1 | h1
    · exact h.low y h1
    · obtain rfl : y = op := by simpa using h1
      rw [hact]; exact hs
  · refine h.big a fun e => ha ?_
    rw [hown, e]
end Go.Farm
