/- A tree's list of paths turned: one node turned, one come, one gone, one moved with all that lies below it. What holds of a tree as a function from paths to nodes; that each act keeps it. The whole tree in memory, with its numbers; what a turn of it leaves. make's act walked: a new name in a directory. make walked: what is wrong, or the act. -/
import Derived.Test.YtpdcjdangnfeiaaGreatDoorYd
import Derived.Test.YtpdcjdangnfeiaaGreatDoorYe
import Derived.Deep.RegionHeld3
section
open Go Go.Maps Go.RowKit Go.Proofs.YtpdcjdangnfeiaaGreatDoor.Ta Go.Proofs.YtpdcjdangnfeiaaGreatDoor.Tb Go.Proofs.YtpdcjdangnfeiaaGreatDoor.Tc Go.Proofs.YtpdcjdangnfeiaaGreatDoor.Tf
namespace Go.Proofs.YtpdcjdangnfeiaaGreatDoor.Ub
abbrev Es := List (Path × Sh)
def turnE (es : Es) (p : Path) (g : Sh → Sh) : Es := es.map (fun e => if e.1 = p then (e.1, g e.2) else e)
def delE (es : Es) (p : Path) : Es := es.filter (fun e => !decide (e.1 = p))
def mvP (f t p : Path) : Path := if f <+: p then t ++ p.drop f.length else p
def mvE (es : Es) (f t : Path) : Es := es.map (fun e => (mvP f t e.1, e.2))
def Nd1 (es : Es) : Prop := (es.map (·.1)).Nodup
theorem gp_iff {es : Es} (hn : Nd1 es) {p : Path} {s : Sh} : gp es p = some s ↔ (p, s) ∈ es := ⟨gp_mem, mem_gp hn⟩
theorem gp_cons (es : Es) (p q : Path) (s : Sh) : gp ((p, s) :: es) q = if p = q then some s else gp es q := by
  unfold gp
  rw [List.find?_cons]
  by_cases h : p = q
  · simp [h]
  · simp [h]
theorem gp_none {es : Es} {p : Path} (h : ∀ e ∈ es, e.1 ≠ p) : gp es p = none := by
  unfold gp
  rw [Option.map_eq_none_iff, List.find?_eq_none]
  intro e he
  simpa using h e he
theorem gp_none_iff {es : Es} {p : Path} : gp es p = none ↔ ∀ e ∈ es, e.1 ≠ p := by
  refine ⟨fun h e he hp => ?_, gp_none⟩
  unfold gp at h
  rw [Option.map_eq_none_iff, List.find?_eq_none] at h
  exact absurd (h e he) (by simpa using hp)
theorem gp_turn (es : Es) (p : Path) (g : Sh → Sh) (q : Path) : gp (turnE es p g) q = if q = p then (gp es q).map g else gp es q := by
  induction es with
  | nil => simp [turnE, gp]
  | cons e es ih =>
    obtain ⟨r, s⟩ := e
    have hc : turnE ((r, s) :: es) p g = (if r = p then (r, g s) else (r, s)) :: turnE es p g := rfl
    rw [hc]
    by_cases h : r = p
    · subst h
      rw [if_pos rfl, gp_cons, gp_cons, ih]
      by_cases h2 : r = q
      · subst h2; simp
      · rw [if_neg h2, if_neg h2]
    · rw [if_neg h, gp_cons, gp_cons, ih]
      by_cases h2 : r = q
      · subst h2; simp [h]
      · rw [if_neg h2, if_neg h2]
theorem nd_turn {es : Es} (h : Nd1 es) (p : Path) (g : Sh → Sh) : Nd1 (turnE es p g) := by
  have : (turnE es p g).map (·.1) = es.map (·.1) := by
    unfold turnE
    rw [List.map_map]
    refine List.map_congr_left fun e _ => ?_
    simp only [Function.comp]
    split <;> rfl
  unfold Nd1
  rw [this]; exact h
theorem gp_del (es : Es) (p q : Path) : gp (delE es p) q = if q = p then none else gp es q := by
  by_cases h : q = p
  · subst h
    rw [if_pos rfl]
    refine gp_none fun e he hp => ?_
    have := (List.mem_filter.1 he).2
    simp [hp] at this
  · rw [if_neg h]
    unfold gp delE
    rw [List.find?_filter]
    congr 2
    funext e
    by_cases h2 : e.1 = q
    · simp [h2, h]
    · simp [h2]
theorem nd_del {es : Es} (h : Nd1 es) (p : Path) : Nd1 (delE es p) :=
  List.Nodup.sublist (List.filter_sublist.map _) h
theorem pre_drop {f p : Path} (h : f <+: p) : f ++ p.drop f.length = p := List.prefix_iff_eq_append.1 h
theorem mvP_inj {es : Es} {f t : Path} (hfree : ∀ e ∈ es, ¬ t <+: e.1) : ∀ a ∈ es, ∀ b ∈ es, mvP f t a.1 = mvP f t b.1 → a.1 = b.1 := by
  intro a ha b hb h
  unfold mvP at h
  by_cases h1 : f <+: a.1 <;> by_cases h2 : f <+: b.1
  · rw [if_pos h1, if_pos h2] at h
    have := List.append_cancel_left h
    rw [← pre_drop h1, ← pre_drop h2, this]
  · rw [if_pos h1, if_neg h2] at h
    exact absurd (h ▸ List.prefix_append _ _) (hfree b hb)
  · rw [if_neg h1, if_pos h2] at h
    exact absurd (h ▸ List.prefix_append _ _) (hfree a ha)
  · rw [if_neg h1, if_neg h2] at h; exact h
theorem nd_mv {es : Es} (h : Nd1 es) {f t : Path} (hfree : ∀ e ∈ es, ¬ t <+: e.1) : Nd1 (mvE es f t) := by
  unfold Nd1 mvE
  rw [List.map_map]
  unfold Nd1 List.Nodup at h
  rw [List.pairwise_map] at h
  refine List.pairwise_map.2 (List.Pairwise.imp_of_mem ?_ h)
  intro a b ha hb hne e
  exact hne (mvP_inj hfree a ha b hb e)
theorem gp_mv {es : Es} (h : Nd1 es) {f t : Path} (hfree : ∀ e ∈ es, ¬ t <+: e.1) (q : Path) :
    gp (mvE es f t) q = if t <+: q then gp es (f ++ q.drop t.length) else if f <+: q then none else gp es q := by
  have hn := nd_mv h hfree (f := f)
  have key : ∀ s, gp (mvE es f t) q = some s ↔ ∃ p, (p, s) ∈ es ∧ mvP f t p = q := by
    intro s
    rw [gp_iff hn]
    unfold mvE
    rw [List.mem_map]
    constructor
    · rintro ⟨⟨p, s'⟩, hm, he⟩
      simp only [Prod.mk.injEq] at he
      obtain ⟨h1, rfl⟩ := he
      exact ⟨p, hm, h1⟩
    · rintro ⟨p, hm, hp⟩
      exact ⟨(p, s), hm, by simp [hp]⟩
  by_cases h1 : t <+: q
  · rw [if_pos h1]
    apply Option.ext
    intro s
    rw [key, gp_iff h]
    constructor
    · rintro ⟨p, hm, hp⟩
      unfold mvP at hp
      by_cases h2 : f <+: p
      · rw [if_pos h2] at hp
        have : q.drop t.length = p.drop f.length := by rw [← hp]; simp
        rw [this, pre_drop h2]; exact hm
      · rw [if_neg h2] at hp
        exact absurd (hp ▸ h1) (hfree _ hm)
    · intro hm
      refine ⟨_, hm, ?_⟩
      unfold mvP
      rw [if_pos (List.prefix_append _ _)]
      simp [pre_drop h1]
  · rw [if_neg h1]
    by_cases h2 : f <+: q
    · rw [if_pos h2]
      cases hg : gp (mvE es f t) q with
      | none => rfl
      | some s =>
        obtain ⟨p, hm, hp⟩ := (key s).1 hg
        unfold mvP at hp
        by_cases h3 : f <+: p
        · rw [if_pos h3] at hp
          exact absurd (hp ▸ List.prefix_append _ _) h1
        · rw [if_neg h3] at hp
          exact absurd (hp ▸ h2) h3
    · rw [if_neg h2]
      apply Option.ext
      intro s
      rw [key, gp_iff h]
      constructor
      · rintro ⟨p, hm, hp⟩
        unfold mvP at hp
        by_cases h3 : f <+: p
        · rw [if_pos h3] at hp
          exact absurd (hp ▸ List.prefix_append _ _) h1
        · rw [if_neg h3] at hp
          exact hp ▸ hm
      · intro hm
        exact ⟨q, hm, by unfold mvP; rw [if_neg h2]⟩
theorem snd_mv (es : Es) (f t : Path) : (mvE es f t).map (·.2) = es.map (·.2) := by
  unfold mvE; rw [List.map_map]; rfl
theorem turn_split {es : Es} (hn : Nd1 es) {p : Path} {s : Sh} (h : gp es p = some s) : ∃ a b, es.map (·.2) = a ++ s :: b ∧ ∀ g, (turnE es p g).map (·.2) = a ++ g s :: b := by
  induction es with
  | nil => simp [gp] at h
  | cons e es ih =>
    obtain ⟨r, x⟩ := e
    rw [gp_cons] at h
    have hn2 : r ∉ es.map (·.1) ∧ Nd1 es := List.nodup_cons.1 hn
    by_cases hr : r = p
    · subst hr
      rw [if_pos rfl] at h
      cases h
      refine ⟨[], es.map (·.2), rfl, fun g => ?_⟩
      have : turnE es r g = es := by
        unfold turnE
        refine (List.map_congr_left fun e he => ?_).trans (List.map_id _)
        rw [if_neg (fun h2 => hn2.1 (List.mem_map.2 ⟨e, he, h2⟩))]; rfl
      show ((if r = r then (r, g s) else (r, s)) :: turnE es r g).map (·.2) = _
      rw [this, if_pos rfl]; rfl
    · rw [if_neg hr] at h
      obtain ⟨a, b, e1, e2⟩ := ih hn2.2 h
      refine ⟨x :: a, b, ?_, fun g => ?_⟩
      · rw [List.map_cons, e1]; rfl
      · show ((if r = p then (r, g x) else (r, x)) :: turnE es p g).map (·.2) = _
        rw [if_neg hr, List.map_cons, e2]; rfl
theorem len_turn (es : Es) (p : Path) (g : Sh → Sh) : (turnE es p g).length = es.length := by unfold turnE; rw [List.length_map]
theorem len_mv (es : Es) (f t : Path) : (mvE es f t).length = es.length := by unfold mvE; rw [List.length_map]
theorem len_del {es : Es} (hn : Nd1 es) {p : Path} {s : Sh} (h : gp es p = some s) : (delE es p).length + 1 = es.length := by
  induction es with
  | nil => simp [gp] at h
  | cons e es ih =>
    obtain ⟨r, x⟩ := e
    rw [gp_cons] at h
    have hn2 : r ∉ es.map (·.1) ∧ Nd1 es := List.nodup_cons.1 hn
    unfold delE
    rw [List.filter_cons]
    by_cases hr : r = p
    · subst hr
      rw [if_neg (by simp)]
      have : es.filter (fun e => !decide (e.1 = r)) = es := List.filter_eq_self.2 (fun e he => by
        have : e.1 ≠ r := fun h2 => hn2.1 (List.mem_map.2 ⟨e, he, h2⟩)
        simp [this])
      rw [this]; rfl
    · rw [if_neg hr] at h
      rw [if_pos (by simp [hr])]
      have := ih hn2.2 h
      unfold delE at this
      simp only [List.length_cons]
      omega
end Go.Proofs.YtpdcjdangnfeiaaGreatDoor.Ub
open Go.Proofs.YtpdcjdangnfeiaaGreatDoor.Ub Go.Proofs.YtpdcjdangnfeiaaGreatDoor.Pb
namespace Go.Proofs.YtpdcjdangnfeiaaGreatDoor.Uc
abbrev Fn := Path → Option Sh
def onF (a : Fn) (p : Path) (g : Sh → Sh) : Fn := fun q => if q = p then (a q).map g else a q
def setF (a : Fn) (p : Path) (s : Sh) : Fn := fun q => if p = q then some s else a q
def delF (a : Fn) (p : Path) : Fn := fun q => if q = p then none else a q
def mvF (a : Fn) (f t : Path) : Fn := fun q => if t <+: q then a (f ++ q.drop t.length) else if f <+: q then none else a q
/-- A directory as it should be, its names leading where K says. -/
structure Dr (d : Sh) (K : ByteArray → Option Nat) : Prop where
  kids : ∀ x, kid d.D x = K x
  bare : d.data = []
  full : ∀ x, has d.D (keyL x) = (kid d.D x).isSome
  tidy : Tidy d.D
structure WfF (a : Fn) : Prop where
  root : ∃ s, a [] = some s ∧ s.dir = true
  par : ∀ p x s, a (p ++ [x]) = some s → ∃ d, a p = some d ∧ d.dir = true
  dr : ∀ p d, a p = some d → d.dir = true → Dr d (fun x => (a (p ++ [x])).map (·.nb))
  nm : ∀ p s, a p = some s → ∀ x ∈ p, nmL x.data.toList = true
/-- A turn of a node that leaves where it lies, and whether it is a directory. -/
structure Lv (d d' : Sh) : Prop where
  nb : d'.nb = d.nb
  dir : d'.dir = d.dir
  mb : d'.mb = d.mb
structure Put (d d' : Sh) (x : ByteArray) (b : Nat) : Prop extends Lv d d' where
  data : d'.data = d.data
  D : d'.D = d.D.put (keyL x) (ptrD (some b))
structure Take (d d' : Sh) (x : ByteArray) : Prop extends Lv d d' where
  data : d'.data = d.data
  D : d'.D = d.D.del (keyL x)
theorem Dr.put {d d' : Sh} {x : ByteArray} {b : Nat} {K : ByteArray → Option Nat} (h : Dr d K) (p : Put d d' x b) : Dr d' (fun y => if y = x then some b else K y) := by
  refine ⟨fun y => ?_, p.data.trans h.bare, fun y => ?_, ?_⟩
  · rw [p.D]
    by_cases e : y = x
    · subst e; rw [if_pos rfl, kid_put_same h.tidy.isMap]
    · rw [if_neg e, kid_put_other e, h.kids]
  · rw [p.D]
    by_cases e : y = x
    · subst e; rw [kid_put_same h.tidy.isMap, has_put_same h.tidy.isMap (isKey y)]; rfl
    · rw [kid_put_other e, has_put_other (fun h => e (keyL_inj.1 h)), h.full]
  · rw [p.D]; exact h.tidy.put (isKey x) _
theorem Dr.take {d d' : Sh} {x : ByteArray} {K : ByteArray → Option Nat} (h : Dr d K) (p : Take d d' x) : Dr d' (fun y => if y = x then none else K y) := by
  refine ⟨fun y => ?_, p.data.trans h.bare, fun y => ?_, ?_⟩
  · rw [p.D]
    by_cases e : y = x
    · subst e; rw [if_pos rfl, kid_del_same]
    · rw [if_neg e, kid_del_other e, h.kids]
  · rw [p.D]
    by_cases e : y = x
    · subst e; rw [kid_del_same, has_del_same]; rfl
    · rw [kid_del_other e, has_del_other (fun h => e (keyL_inj.1 h)), h.full]
  · rw [p.D]; exact h.tidy.del _
theorem Dr.congr {d : Sh} {K K' : ByteArray → Option Nat} (h : Dr d K) (e : ∀ x, K x = K' x) : Dr d K' := ⟨fun x => (h.kids x).trans (e x), h.bare, h.full, h.tidy⟩
theorem Dr.fresh (s : Sh) (h1 : s.data = []) (h2 : s.D = .map []) : Dr s (fun _ => none) := by
  refine ⟨fun x => ?_, h1, fun x => ?_, ?_⟩
  · rw [h2, kid_empty]
  · rw [h2, kid_empty]; rfl
  · rw [h2]; exact tidy_empty
theorem snoc_inj {p q : Path} {x y : ByteArray} (h : p ++ [x] = q ++ [y]) : p = q ∧ x = y := by
  have := List.append_inj' h rfl
  exact ⟨this.1, by simpa using this.2⟩
theorem snoc_ne (p : Path) (x : ByteArray) : p ++ [x] ≠ p := by
  intro h
  have := congrArg List.length h
  simp at this
theorem WfF.none_below {a : Fn} (h : WfF a) {p : Path} (hp : ∀ d, a p = some d → d.dir = false) (x : ByteArray) : a (p ++ [x]) = none := by
  cases hg : a (p ++ [x]) with
  | none => rfl
  | some s =>
    obtain ⟨d, h1, h2⟩ := h.par p x s hg
    rw [hp d h1] at h2
    cases h2
/-- Nothing lies anywhere below what is not there, or has no names. -/
theorem WfF.none_under {a : Fn} (h : WfF a) {p : Path} (hp : ∀ x, a (p ++ [x]) = none) : ∀ (r : Path), r ≠ [] → a (p ++ r) = none := by
  intro r
  induction hn : r.length generalizing r with
  | zero => intro hr; exact absurd (List.length_eq_zero_iff.1 hn) hr
  | succ n ih =>
    intro hr
    obtain ⟨r', x, rfl⟩ : ∃ r' x, r = r' ++ [x] := ⟨r.dropLast, r.getLast hr, (List.dropLast_concat_getLast hr).symm⟩
    by_cases h0 : r' = []
    · subst h0; exact hp x
    · have := ih r' (by simpa using hn) h0
      rw [← List.append_assoc]
      exact h.none_below (by intro d hd; rw [this] at hd; cases hd) x
theorem onF_nb {a : Fn} {p : Path} {g : Sh → Sh} (hg : ∀ d, a p = some d → Lv d (g d)) (q : Path) : (onF a p g q).map (·.nb) = (a q).map (·.nb) := by
  unfold onF
  by_cases e : q = p
  · subst e
    rw [if_pos rfl]
    cases h : a q with
    | none => rfl
    | some d => simp [(hg d h).nb]
  · rw [if_neg e]
theorem onF_dir {a : Fn} {p : Path} {g : Sh → Sh} (hg : ∀ d, a p = some d → Lv d (g d)) {q : Path} : (∃ d, a q = some d ∧ d.dir = true) → ∃ d, onF a p g q = some d ∧ d.dir = true := by
  rintro ⟨d, h1, h2⟩
  unfold onF
  by_cases e : q = p
  · subst e
    rw [if_pos rfl, h1]
    exact ⟨g d, rfl, by rw [(hg d h1).dir]; exact h2⟩
  · rw [if_neg e]; exact ⟨d, h1, h2⟩
theorem onF_some {a : Fn} {p : Path} {g : Sh → Sh} {q : Path} {s : Sh} (h : onF a p g q = some s) : ∃ d, a q = some d ∧ (q = p → s = g d) ∧ (q ≠ p → s = d) := by
  unfold onF at h
  by_cases e : q = p
  · rw [if_pos e] at h
    obtain ⟨d, h1, h2⟩ := Option.map_eq_some_iff.1 h
    exact ⟨d, h1, fun _ => h2.symm, fun n => absurd e n⟩
  · rw [if_neg e] at h
    exact ⟨s, h, fun n => absurd n e, fun _ => rfl⟩
/-- A file is turned. -/
theorem WfF.file {a : Fn} (h : WfF a) {p : Path} {g : Sh → Sh} (hg : ∀ d, a p = some d → Lv d (g d) ∧ d.dir = false) : WfF (onF a p g) := by
  have hl : ∀ d, a p = some d → Lv d (g d) := fun d hd => (hg d hd).1
  refine ⟨onF_dir hl h.root, fun q x s hs => ?_, fun q d hd hdir => ?_, fun q s hs => ?_⟩
  · obtain ⟨d, h1, -⟩ := onF_some hs
    exact onF_dir hl (h.par q x d h1)
  · obtain ⟨d0, h1, h2, h3⟩ := onF_some hd
    by_cases e : q = p
    · subst e
      have := hg d0 h1
      rw [h2 rfl, this.1.dir, this.2] at hdir
      cases hdir
    · have hd0 := h3 e
      subst hd0
      exact (h.dr q d h1 hdir).congr fun x => (onF_nb hl _).symm
  · obtain ⟨d, h1, -⟩ := onF_some hs
    exact h.nm q d h1
/-- A new name in a directory. -/
theorem WfF.make {a : Fn} (h : WfF a) {p : Path} {x : ByteArray} {d fr : Sh} {g : Sh → Sh} (hd : a p = some d) (hdir : d.dir = true) (hx : a (p ++ [x]) = none) (hn : nmL x.data.toList = true) (hg : Put d (g d) x fr.nb) (h1 : fr.data = []) (h2 : fr.D = .map []) :
    WfF (setF (onF a p g) (p ++ [x]) fr) := by
  have hl : ∀ d, a p = some d → Lv d (g d) := fun d' hd' => by rw [hd] at hd'; cases hd'; exact hg.toLv
  have hset : ∀ q, p ++ [x] ≠ q → setF (onF a p g) (p ++ [x]) fr q = onF a p g q := fun q hq => by unfold setF; rw [if_neg hq]
  have hsame : setF (onF a p g) (p ++ [x]) fr (p ++ [x]) = some fr := by unfold setF; rw [if_pos rfl]
  have hdirs : ∀ q, (∃ d, a q = some d ∧ d.dir = true) → ∃ d, setF (onF a p g) (p ++ [x]) fr q = some d ∧ d.dir = true := by
    intro q hq
    have hne : p ++ [x] ≠ q := by rintro rfl; obtain ⟨d, h1, -⟩ := hq; rw [hx] at h1; cases h1
    rw [hset q hne]
    exact onF_dir hl hq
  refine ⟨hdirs _ h.root, fun q y s hs => ?_, fun q s hs hsd => ?_, fun q s hs => ?_⟩
  · by_cases e : p ++ [x] = q ++ [y]
    · obtain ⟨rfl, rfl⟩ := snoc_inj e
      exact hdirs _ ⟨d, hd, hdir⟩
    · rw [hset _ e] at hs
      obtain ⟨d', h3, -⟩ := onF_some hs
      exact hdirs _ (h.par q y d' h3)
  · by_cases e : p ++ [x] = q
    · subst e
      rw [hsame] at hs
      cases hs
      refine (Dr.fresh fr h1 h2).congr fun y => ?_
      rw [hset _ (fun e => snoc_ne _ _ e.symm)]
      rw [onF_nb hl, h.none_below (by intro d' hd'; rw [hx] at hd'; cases hd')]
      rfl
    · rw [hset _ e] at hs
      obtain ⟨d', h3, h4, h5⟩ := onF_some hs
      by_cases e2 : q = p
      · subst e2
        rw [h4 rfl]
        rw [hd] at h3
        cases h3
        refine ((h.dr q d hd hdir).put hg).congr fun y => ?_
        by_cases e3 : y = x
        · subst e3; rw [if_pos rfl, hsame]; rfl
        · rw [if_neg e3, hset _ (fun e => e3 (snoc_inj e).2.symm), onF_nb hl]
      · have := h5 e2
        subst this
        refine (h.dr q s h3 hsd).congr fun y => ?_
        rw [hset _ (fun e => e2 (snoc_inj e).1.symm), onF_nb hl]
  · by_cases e : p ++ [x] = q
    · subst e
      intro y hy
      rcases List.mem_append.1 hy with hy | hy
      · exact h.nm p d hd y hy
      · rw [List.mem_singleton.1 hy]; exact hn
    · rw [hset _ e] at hs
      obtain ⟨d', h3, -⟩ := onF_some hs
      exact h.nm q d' h3
/-- A name goes out of a directory. -/
theorem WfF.take {a : Fn} (h : WfF a) {p : Path} {x : ByteArray} {d : Sh} {g : Sh → Sh} (hd : a p = some d) (hdir : d.dir = true) (hx : ∀ y, a (p ++ [x] ++ [y]) = none) (hg : Take d (g d) x) :
    WfF (delF (onF a p g) (p ++ [x])) := by
  have hl : ∀ d, a p = some d → Lv d (g d) := fun d' hd' => by rw [hd] at hd'; cases hd'; exact hg.toLv
  have hset : ∀ q, q ≠ p ++ [x] → delF (onF a p g) (p ++ [x]) q = onF a p g q := fun q hq => by unfold delF; rw [if_neg hq]
  have hsame : delF (onF a p g) (p ++ [x]) (p ++ [x]) = none := by unfold delF; rw [if_pos rfl]
  have hdirs : ∀ q, q ≠ p ++ [x] → (∃ d, a q = some d ∧ d.dir = true) → ∃ d, delF (onF a p g) (p ++ [x]) q = some d ∧ d.dir = true := by
    intro q hne hq
    rw [hset q hne]
    exact onF_dir hl hq
  have hsome : ∀ q s, delF (onF a p g) (p ++ [x]) q = some s → q ≠ p ++ [x] ∧ onF a p g q = some s := by
    intro q s hs
    by_cases e : q = p ++ [x]
    · subst e; rw [hsame] at hs; cases hs
    · rw [hset q e] at hs; exact ⟨e, hs⟩
  refine ⟨hdirs _ (by simp) h.root, fun q y s hs => ?_, fun q s hs hsd => ?_, fun q s hs => ?_⟩
  · obtain ⟨e, hs⟩ := hsome _ _ hs
    obtain ⟨d', h3, -⟩ := onF_some hs
    refine hdirs _ ?_ (h.par q y d' h3)
    rintro rfl
    rw [hx] at h3; cases h3
  · obtain ⟨e, hs⟩ := hsome _ _ hs
    obtain ⟨d', h3, h4, h5⟩ := onF_some hs
    by_cases e2 : q = p
    · subst e2
      rw [h4 rfl]
      rw [hd] at h3
      cases h3
      refine ((h.dr q d hd hdir).take hg).congr fun y => ?_
      by_cases e3 : y = x
      · subst e3; rw [if_pos rfl, hsame]; rfl
      · rw [if_neg e3, hset _ (fun e => e3 (snoc_inj e).2), onF_nb hl]
    · have := h5 e2
      subst this
      refine (h.dr q s h3 hsd).congr fun y => ?_
      rw [hset _ (fun e => e2 (snoc_inj e).1), onF_nb hl]
  · obtain ⟨e, hs⟩ := hsome _ _ hs
    obtain ⟨d', h3, -⟩ := onF_some hs
    exact h.nm q d' h3
theorem pre_snoc {t q : Path} {y : ByteArray} (h : t <+: q ++ [y]) (hn : ¬ t <+: q) : t = q ++ [y] := by
  rcases List.prefix_concat_iff.1 h with h | h
  · exact h
  · exact absurd h hn
theorem drop_snoc {t q : Path} (h : t <+: q) (f : Path) (y : ByteArray) : f ++ (q ++ [y]).drop t.length = f ++ q.drop t.length ++ [y] := by
  rw [List.drop_append_of_le_length h.length_le, List.append_assoc]
section
variable {a a' : Fn} {fp tp : Path} {fx tx : ByteArray} {s df dt : Sh}
/-- What lies at one path, with all below it, comes to another one. -/
theorem WfF.mv (h : WfF a) (hs : a (fp ++ [fx]) = some s) (hft : ¬ fp ++ [fx] <+: tp ++ [tx]) (hun : ∀ r, r ≠ [] → a (tp ++ [tx] ++ r) = none) (htf : ¬ tp ++ [tx] <+: fp ++ [fx]) (hdt : a tp = some dt) (hdir : dt.dir = true) (hdf : a fp = some df) (hdir2 : df.dir = true)
    (htx : nmL tx.data.toList = true)
    (h0 : ∀ q, q ≠ fp → q ≠ tp → a' q = mvF a (fp ++ [fx]) (tp ++ [tx]) q) (h1 : fp ≠ tp → ∃ d1, a' fp = some d1 ∧ Take df d1 fx) (h2 : fp ≠ tp → ∃ d2, a' tp = some d2 ∧ Put dt d2 tx s.nb)
    (h3 : fp = tp → ∃ d2, a' fp = some d2 ∧ Lv df d2 ∧ Dr d2 (fun y => if y = tx then some s.nb else if y = fx then none else (a (fp ++ [y])).map (·.nb))) : WfF a' := by
  have nfp : ¬ tp ++ [tx] <+: fp := fun e => htf (e.trans (List.prefix_append _ _))
  have ntp : ¬ tp ++ [tx] <+: tp := fun e => by have := e.length_le; simp at this; omega
  have ffp : ¬ fp ++ [fx] <+: fp := fun e => by have := e.length_le; simp at this; omega
  have ftp : ¬ fp ++ [fx] <+: tp := fun e => hft (e.trans (List.prefix_append _ _))
  have mfp : mvF a (fp ++ [fx]) (tp ++ [tx]) fp = some df := by unfold mvF; rw [if_neg nfp, if_neg ffp]; exact hdf
  have mtp : mvF a (fp ++ [fx]) (tp ++ [tx]) tp = some dt := by unfold mvF; rw [if_neg ntp, if_neg ftp]; exact hdt
  -- what a' holds, beside what M holds
  have hrel : ∀ q, ∃ o, mvF a (fp ++ [fx]) (tp ++ [tx]) q = o ∧ ((o = none ∧ a' q = none) ∨ ∃ d d', o = some d ∧ a' q = some d' ∧ Lv d d') := by
    intro q
    refine ⟨_, rfl, ?_⟩
    by_cases e1 : q = fp
    · subst e1
      by_cases e2 : q = tp
      · obtain ⟨d2, h4, h5, -⟩ := h3 e2
        exact .inr ⟨df, d2, mfp, h4, h5⟩
      · obtain ⟨d1, h4, h5⟩ := h1 e2
        exact .inr ⟨df, d1, mfp, h4, h5.toLv⟩
    · by_cases e2 : q = tp
      · subst e2
        obtain ⟨d1, h4, h5⟩ := h2 (fun e => e1 e.symm)
        exact .inr ⟨dt, d1, mtp, h4, h5.toLv⟩
      · rw [h0 q e1 e2]
        cases hM : mvF a (fp ++ [fx]) (tp ++ [tx]) q with
        | none => exact .inl ⟨rfl, rfl⟩
        | some d => exact .inr ⟨d, d, rfl, rfl, ⟨rfl, rfl, rfl⟩⟩
  have hnb : ∀ q, (a' q).map (·.nb) = (mvF a (fp ++ [fx]) (tp ++ [tx]) q).map (·.nb) := by
    intro q
    obtain ⟨o, ho, h4⟩ := hrel q
    rw [ho]
    rcases h4 with ⟨rfl, h5⟩ | ⟨d, d', rfl, h5, h6⟩
    · rw [h5]
    · rw [h5]; simp [h6.nb]
  have hup : ∀ q d, mvF a (fp ++ [fx]) (tp ++ [tx]) q = some d → d.dir = true → ∃ d', a' q = some d' ∧ d'.dir = true := by
    intro q d hd hdd
    obtain ⟨o, ho, h4⟩ := hrel q
    rw [hd] at ho
    subst ho
    rcases h4 with ⟨h5, -⟩ | ⟨d1, d', h5, h6, h7⟩
    · cases h5
    · cases h5; exact ⟨d', h6, h7.dir.trans hdd⟩
  have hdn : ∀ q d', a' q = some d' → ∃ d, mvF a (fp ++ [fx]) (tp ++ [tx]) q = some d ∧ d.dir = d'.dir := by
    intro q d' hd
    obtain ⟨o, ho, h4⟩ := hrel q
    rcases h4 with ⟨-, h5⟩ | ⟨d1, d2, rfl, h6, h7⟩
    · rw [h5] at hd; cases hd
    · rw [h6] at hd; cases hd; exact ⟨d1, ho, h7.dir.symm⟩
  -- the names of a directory behind the move
  have hK : ∀ q y, ¬ tp ++ [tx] <+: q → ¬ fp ++ [fx] <+: q → mvF a (fp ++ [fx]) (tp ++ [tx]) (q ++ [y]) = if q ++ [y] = tp ++ [tx] then some s else if q ++ [y] = fp ++ [fx] then none else a (q ++ [y]) := by
    intro q y n1 n2
    unfold mvF
    by_cases e : tp ++ [tx] <+: q ++ [y]
    · have e1 := pre_snoc e n1
      rw [if_pos e, if_pos e1.symm, ← e1]
      simpa using hs
    · rw [if_neg e, if_neg (fun (e2 : q ++ [y] = tp ++ [tx]) => e (by rw [e2]; exact List.prefix_rfl))]
      by_cases e3 : fp ++ [fx] <+: q ++ [y]
      · have e1 := pre_snoc e3 n2
        rw [if_pos e3, if_pos e1.symm]
      · rw [if_neg e3, if_neg (fun (e2 : q ++ [y] = fp ++ [fx]) => e3 (by rw [e2]; exact List.prefix_rfl))]
  refine ⟨?_, fun q y s' hs' => ?_, fun q d' hd hdd => ?_, fun q s' hs' => ?_⟩
  · obtain ⟨r, h4, h5⟩ := h.root
    refine hup [] r ?_ h5
    unfold mvF
    rw [if_neg (by simp), if_neg (by simp)]; exact h4
  · obtain ⟨d, hM, -⟩ := hdn _ _ hs'
    by_cases e : tp ++ [tx] <+: q
    · unfold mvF at hM
      rw [if_pos (e.trans (List.prefix_append _ _)), drop_snoc e] at hM
      obtain ⟨d2, h4, h5⟩ := h.par _ _ _ hM
      refine hup q d2 ?_ h5
      unfold mvF
      rw [if_pos e]; exact h4
    · by_cases e2 : fp ++ [fx] <+: q
      · exfalso
        unfold mvF at hM
        by_cases e3 : tp ++ [tx] <+: q ++ [y]
        · have := pre_snoc e3 e
          exact hft (this ▸ e2.trans (List.prefix_append _ _))
        · rw [if_neg e3, if_pos (e2.trans (List.prefix_append _ _))] at hM
          cases hM
      · rw [hK q y e e2] at hM
        by_cases e3 : q ++ [y] = tp ++ [tx]
        · obtain ⟨rfl, rfl⟩ := snoc_inj e3
          exact hup q dt mtp hdir
        · rw [if_neg e3] at hM
          by_cases e4 : q ++ [y] = fp ++ [fx]
          · rw [if_pos e4] at hM; cases hM
          · rw [if_neg e4] at hM
            obtain ⟨d2, h4, h5⟩ := h.par _ _ _ hM
            refine hup q d2 ?_ h5
            unfold mvF
            rw [if_neg e, if_neg e2]; exact h4
  · by_cases e : tp ++ [tx] <+: q
    · have e1 : q ≠ fp := fun e1 => nfp (e1 ▸ e)
      have e2 : q ≠ tp := fun e1 => ntp (e1 ▸ e)
      rw [h0 q e1 e2] at hd
      have hd1 := hd
      unfold mvF at hd1
      rw [if_pos e] at hd1
      refine (h.dr _ _ hd1 hdd).congr fun y => ?_
      rw [hnb]
      unfold mvF
      rw [if_pos (e.trans (List.prefix_append _ _)), drop_snoc e]
    · obtain ⟨d, hM, hdd2⟩ := hdn _ _ hd
      have e2 : ¬ fp ++ [fx] <+: q := by
        intro e2
        unfold mvF at hM
        rw [if_neg e, if_pos e2] at hM
        cases hM
      have hq : a q = some d := by
        unfold mvF at hM
        rw [if_neg e, if_neg e2] at hM; exact hM
      by_cases e3 : q = fp
      · subst e3
        rw [hdf] at hq
        cases hq
        by_cases e4 : q = tp
        · obtain ⟨d2, h4, -, h6⟩ := h3 e4
          rw [h4] at hd
          cases hd
          refine h6.congr fun y => ?_
          rw [hnb, hK q y e e2]
          subst e4
          by_cases e5 : y = tx
          · subst e5; simp
          · rw [if_neg e5, if_neg (fun e6 => e5 (snoc_inj e6).2)]
            by_cases e7 : y = fx
            · subst e7; simp
            · rw [if_neg e7, if_neg (fun e6 => e7 (snoc_inj e6).2)]
        · obtain ⟨d2, h4, h5⟩ := h1 e4
          rw [h4] at hd
          cases hd
          refine ((h.dr q df hdf hdir2).take h5).congr fun y => ?_
          rw [hnb, hK q y e e2, if_neg (fun e6 => e4 (snoc_inj e6).1)]
          by_cases e7 : y = fx
          · subst e7; simp
          · rw [if_neg e7, if_neg (fun e6 => e7 (snoc_inj e6).2)]
      · by_cases e4 : q = tp
        · subst e4
          obtain ⟨d2, h4, h5⟩ := h2 (fun e => e3 e.symm)
          rw [hdt] at hq
          cases hq
          rw [h4] at hd
          cases hd
          refine ((h.dr q dt hdt hdir).put h5).congr fun y => ?_
          rw [hnb, hK q y e e2]
          by_cases e5 : y = tx
          · subst e5; simp
          · rw [if_neg e5, if_neg (fun e6 => e5 (snoc_inj e6).2), if_neg (fun e6 => e3 (snoc_inj e6).1)]
        · rw [h0 q e3 e4, hM] at hd
          cases hd
          refine (h.dr q _ hq hdd).congr fun y => ?_
          rw [hnb, hK q y e e2, if_neg (fun e6 => e4 (snoc_inj e6).1), if_neg (fun e6 => e3 (snoc_inj e6).1)]
  · obtain ⟨d, hM, -⟩ := hdn _ _ hs'
    unfold mvF at hM
    by_cases e : tp ++ [tx] <+: q
    · rw [if_pos e] at hM
      have hn := h.nm _ _ hM
      intro y hy
      rw [← pre_drop e] at hy
      rcases List.mem_append.1 hy with hy | hy
      · rcases List.mem_append.1 hy with hy | hy
        · exact h.nm tp dt hdt y hy
        · rw [List.mem_singleton.1 hy]; exact htx
      · exact hn y (List.mem_append.2 (.inr hy))
    · rw [if_neg e] at hM
      by_cases e2 : fp ++ [fx] <+: q
      · rw [if_pos e2] at hM; cases hM
      · rw [if_neg e2] at hM
        exact h.nm q d hM
end
end Go.Proofs.YtpdcjdangnfeiaaGreatDoor.Uc
open Go.Proofs.YtpdcjdangnfeiaaGreatDoorW.PrintWords Go.Proofs.YtpdcjdangnfeiaaGreatDoorW.PrintLast Go.Proofs.YtpdcjdangnfeiaaGreatDoorW.PrintMore Go.Proofs.YtpdcjdangnfeiaaGreatDoor.Te Go.Proofs.YtpdcjdangnfeiaaGreatDoor.Qa Go.Proofs.YtpdcjdangnfeiaaGreatDoor.Qb Go.Proofs.YtpdcjdangnfeiaaGreatDoor.Qc Go.Proofs.YtpdcjdangnfeiaaGreatDoor.Qd Go.Proofs.YtpdcjdangnfeiaaGreatDoor.Qe Go.Proofs.YtpdcjdangnfeiaaGreatDoor.Ua Go.Proofs.YtpdcjdangnfeiaaGreatDoor.Uc
namespace Go.Proofs.YtpdcjdangnfeiaaGreatDoor.Ud
structure St (w : World) (B tb : Nat) (es : Es) (n i m : Nat) : Prop where
  sto : Sto Tryz.prog 85 9 w B (es.map (·.2))
  nd : Nd1 es
  wf : WfF (gp es)
  tre : ∃ r, gp es [] = some r ∧ Tre w B tb r.nb n i
  lim : ∀ e ∈ es, e.2.slots ≤ m ∧ e.2.data.length ≤ 8458240 ∧ size e.2.D ≤ m
  num : n ≤ 16384 + 20000 * m ∧ i ≤ 256 + m
/-- A node as the plain law sees it. -/
def toN (s : Sh) : N := ⟨s.dir, s.data, s.slots, if s.dir then size s.D else 0⟩
def absE (es : Es) : Path → Option N := fun p => (gp es p).map toN
/-- The blocks of a tree. -/
def Bk (tb : Nat) (es : Es) (b : Nat) : Prop := b = tb ∨ ∃ s ∈ es.map (·.2), b ∈ blks s
/-- What a turn may do to memory. -/
structure Turn (w w' : World) (B tb : Nat) (es es' : Es) : Prop where
  fr : Fr w w' (Bk tb es)
  low : Below B w w'
  new : ∀ b, Bk tb es' b → Bk tb es b ∨ w.heap.size ≤ b
theorem St.ok {w : World} {B tb n i m : Nat} {es : Es} (h : St w B tb es n i m) {p : Path} {s : Sh} (hs : gp es p = some s) : Nd w B s :=
  h.sto.ok s (List.mem_map.2 ⟨(p, s), gp_mem hs, rfl⟩)
theorem St.limp {w : World} {B tb n i m : Nat} {es : Es} (h : St w B tb es n i m) {p : Path} {s : Sh} (hs : gp es p = some s) : s.slots ≤ m ∧ s.data.length ≤ 8458240 ∧ size s.D ≤ m := h.lim _ (gp_mem hs)
theorem Tre.keep {w w' : World} {B tb r n i : Nat} (h : Tre w B tb r n i) (e : w'.heap[tb]? = w.heap[tb]?) : Tre w' B tb r n i := ⟨h.1, e.trans h.2⟩
theorem Tre.lt {w : World} {B tb r n i : Nat} (h : Tre w B tb r n i) : tb < w.heap.size := (Array.getElem?_eq_some_iff.1 h.2).1
theorem Tre.noB {w : World} {B tb r n i : Nat} (h : Tre w B tb r n i) : NoB w tb := by
  refine noB_cells h.2 ?_
  intro v hv y e
  subst e
  simp at hv
theorem St.below {w w' : World} {B tb n i m : Nat} {es : Es} (h : St w B tb es n i m) (hb : Below w.heap.size w w') : St w' B tb es n i m := by
  obtain ⟨r, h1, h2⟩ := h.tre
  exact ⟨h.sto.below hb, h.nd, h.wf, ⟨r, h1, Tre.keep h2 (hb.block _ (Tre.lt h2))⟩, h.lim, h.num⟩
theorem St.mono {w : World} {B tb n i m m' : Nat} {es : Es} (h : St w B tb es n i m) (hm : m ≤ m') : St w B tb es n i m' :=
  ⟨h.sto, h.nd, h.wf, h.tre, fun e he => ⟨by have := (h.lim e he).1; omega, (h.lim e he).2.1, by have := (h.lim e he).2.2; omega⟩, by have := h.num; omega⟩
theorem St.tr {w : World} {B tb n i m : Nat} {es : Es} (h : St w B tb es n i m) : Tre2 w B es :=
  ⟨h.sto, h.nd, h.wf.root, h.wf.par, fun p d h1 h2 => (h.wf.dr p d h1 h2).kids, fun p d h1 h2 => (h.wf.dr p d h1 h2).bare⟩
theorem ne_node {w : World} {B B' tb r n i : Nat} {s : Sh} (h : Tre w B tb r n i) (ho : Nd w B' s) : tb ∉ blks s := by
  have h1 : tb ≠ s.nb := by
    rintro rfl
    obtain ⟨dv, hc, -⟩ := ho.cells
    rw [h.2] at hc
    cases hc
  have h2 : s.dir = true → tb ≠ s.mb := by
    rintro hd rfl
    obtain ⟨es, clock, he, -⟩ := (ho.kids hd).2
    rw [h.2] at he
    cases he
  unfold blks
  split
  · rename_i hd
    simp only [List.mem_cons, List.not_mem_nil, or_false, not_or]
    exact ⟨h1, h2 hd⟩
  · simpa using h1
theorem St.tb {w : World} {B tb n i m : Nat} {es : Es} (h : St w B tb es n i m) : ∀ s ∈ es.map (·.2), tb ∉ blks s := by
  intro s hs
  obtain ⟨r, -, h2⟩ := h.tre
  exact ne_node h2 (h.sto.ok s hs)
theorem St.bk {w : World} {B tb n i m : Nat} {es : Es} (h : St w B tb es n i m) {b : Nat} (hb : Bk tb es b) : b < w.heap.size ∧ NoB w b ∧ B ≤ b := by
  obtain ⟨r, -, h2⟩ := h.tre
  rcases hb with rfl | ⟨s, hs, hb⟩
  · exact ⟨Tre.lt h2, Tre.noB h2, h2.1⟩
  · exact Tc.Ok.blk_lt (h.sto.ok s hs) b hb
theorem Turn.of_below {w w' : World} {B tb n i m : Nat} {es : Es} (h : St w B tb es n i m) (hb : Below w.heap.size w w') (hB : B ≤ w.heap.size) : Turn w w' B tb es es :=
  ⟨Fr.of_below hb _ (fun _ hx _ => (h.bk hx).2.1), hb.mono hB, fun _ h => .inl h⟩
theorem St.base {w : World} {B tb n i m : Nat} {es : Es} (h : St w B tb es n i m) : B ≤ w.heap.size := by
  obtain ⟨r, -, h2⟩ := h.tre
  have := Tre.lt h2
  have := h2.1
  omega
theorem Turn.trans {w w1 w2 : World} {B tb : Nat} {es es1 es2 : Es} (h : Turn w w1 B tb es es1) (k : Turn w1 w2 B tb es1 es2) : Turn w w2 B tb es es2 := by
  refine ⟨⟨Nat.le_trans h.fr.size k.fr.size, fun b hb hn => ?_, h.fr.noB⟩, h.low.trans k.low, fun b hb => ?_⟩
  · refine (k.fr.block b (Nat.lt_of_lt_of_le hb h.fr.size) fun hk => ?_).trans (h.fr.block b hb hn)
    rcases h.new b hk with h1 | h1
    · exact hn h1
    · omega
  · rcases k.new b hb with h1 | h1
    · exact h.new b h1
    · have := h.fr.size; exact .inr (by omega)
theorem sto_turn {w w' : World} {B : Nat} {es : Es} {p : Path} {s : Sh} {g : Sh → Sh} (xs : List Sh) (h : Sto Tryz.prog 85 9 w B (xs ++ es.map (·.2))) (hn : Nd1 es) (hg : gp es p = some s) (hf : Fr w w' (fun b => b ∈ blks s)) (ho : Nd w' B (g s)) (hb : blks (g s) = blks s) :
    Sto Tryz.prog 85 9 w' B (xs ++ (turnE es p g).map (·.2)) := by
  obtain ⟨a, b, e1, e2⟩ := turn_split hn hg
  rw [e1, ← List.append_assoc] at h
  rw [e2, ← List.append_assoc]
  exact h.turn hf ho hb
theorem lim_turn {es : Es} {p : Path} {s : Sh} {g : Sh → Sh} {Q : Sh → Prop} (hn : Nd1 es) (hg : gp es p = some s) (h : ∀ e ∈ es, Q e.2) (hs : Q (g s)) : ∀ e ∈ turnE es p g, Q e.2 := by
  intro e he
  obtain ⟨e0, h0, rfl⟩ := List.mem_map.1 he
  by_cases h1 : e0.1 = p
  · rw [if_pos h1]
    obtain ⟨q, x⟩ := e0
    subst h1
    rw [mem_gp hn h0] at hg
    cases hg
    exact hs
  · rw [if_neg h1]; exact h e0 h0
theorem gp_turnF (es : Es) (p : Path) (g : Sh → Sh) : gp (turnE es p g) = onF (gp es) p g := funext fun q => gp_turn es p g q
theorem gp_consF (es : Es) (p : Path) (s : Sh) : gp ((p, s) :: es) = setF (gp es) p s := funext fun q => gp_cons es p q s
theorem gp_delF (es : Es) (p : Path) : gp (delE es p) = delF (gp es) p := funext fun q => gp_del es p q
theorem gp_mvF {es : Es} (h : Nd1 es) {f t : Path} (hfree : ∀ e ∈ es, ¬ t <+: e.1) : gp (mvE es f t) = mvF (gp es) f t := funext fun q => gp_mv h hfree q
/-- What a directory wants for one name more. -/
theorem allB_step (s : Nat) (h : s ≤ 10000) : allB (s * 512) + 1 ≤ allB ((s + 1) * 512) := by
  have h1 : blocksB (s * 512) = s := by unfold blocksB; rw [if_neg (by omega)]; omega
  have h2 : blocksB ((s + 1) * 512) = s + 1 := by unfold blocksB; rw [if_neg (by omega)]; omega
  unfold allB innerB
  rw [h1, h2]
  repeat' split
  all_goals omega
theorem grows_toN {s : Sh} (hd : s.dir = true) (hs : s.slots ≤ 10000) : growsZ s = ((growsA (toN s) : Nat) : Int) := by
  unfold growsZ growsA toN
  simp only [hd, if_true]
  have := allB_step s.slots hs
  have e : blocksN s = allB (s.slots * 512) := by unfold blocksN; rw [if_pos hd]
  have e2 : blocksA ⟨true, s.data, s.slots, size s.D⟩ = allB (s.slots * 512) := rfl
  rw [e, e2]
  by_cases h : size s.D < s.slots * 8
  · rw [if_pos h, if_pos h]; rfl
  · rw [if_neg h, if_neg h]; omega
theorem grows_pos {s : Sh} (hd : s.dir = true) (hs : s.slots ≤ 10000) : 0 < growsZ s ↔ ¬ size s.D < s.slots * 8 := by
  unfold growsZ
  have := allB_step s.slots hs
  have e : blocksN s = allB (s.slots * 512) := by unfold blocksN; rw [if_pos hd]
  rw [e]
  by_cases h : size s.D < s.slots * 8
  · rw [if_pos h]; exact iff_of_false (by omega) (by simpa using h)
  · rw [if_neg h]; exact iff_of_true (by omega) h
theorem put_toN {s : Sh} {x : ByteArray} {b : Nat} (hd : s.dir = true) (hs : s.slots ≤ 10000) (ht : Tidy s.D) (hx : has s.D (keyL x) = false) : toN (putSh s x b) = putA (toN s) := by
  unfold toN putSh putA
  simp only [hd, if_true]
  have := grows_pos hd hs
  rw [size_put ht, hx]
  by_cases h : size s.D < s.slots * 8
  · rw [if_neg (by rw [this]; simpa using h), if_pos h]; rfl
  · rw [if_pos (this.2 h), if_neg h]; rfl
theorem putSh_put (s : Sh) (x : ByteArray) (b : Nat) : Put s (putSh s x b) x b := ⟨⟨rfl, rfl, rfl⟩, rfl, rfl⟩
theorem putSh_slots (s : Sh) (x : ByteArray) (b : Nat) : (putSh s x b).slots ≤ s.slots + 1 := by unfold putSh; dsimp only; split <;> omega
/-- Stores into the tree's own block. -/
theorem Fr.cell {w : World} {tb j : Nat} (v : Value) (hb : NoB w tb) : Fr w (w.setCell ⟨tb, j, none⟩ v) (fun b => b = tb) :=
  ⟨by simp [World.setCell], fun i _ hn => Below.heap_setCell w ⟨tb, j, none⟩ v i hn, fun i h _ => by rw [h]; exact hb⟩
end Go.Proofs.YtpdcjdangnfeiaaGreatDoor.Ud
open Go.Proofs.YtpdcjdangnfeiaaGreatDoor.Ud
namespace Go.Proofs.YtpdcjdangnfeiaaGreatDoor.Ue
theorem fresh_any (dir : Bool) (w : World) : Calls Tryz.prog 19 #[.bool dir] w fun e w' => e = .returned (.pointer (some ⟨w.heap.size, 0, none⟩)) ∧ Nd w' w.heap.size (freshSh dir w.heap.size) ∧ Below w.heap.size w w' := by
  cases dir
  · exact (fresh_file w).mono fun _ _ h => ⟨h.1, h.2.1, h.2.2.1⟩
  · exact (fresh_dir w).mono fun _ _ h => ⟨h.1, h.2.1, h.2.2.1⟩
/-- What an act leaves. -/
def ActPost (w : World) (B tb : Nat) (es : Es) (_n i m : Nat) (s' : S) (e : Ending) (w' : World) : Prop :=
  e = .returned (.tuple #[]) ∧ ∃ es' n' i', St w' B tb es' n' i' (m + 1) ∧ (⟨absE es', n', i'⟩ : S) = s' ∧ Turn w w' B tb es es' ∧ es'.length + i' = es.length + i
theorem cell_fr {w w' : World} {X : Nat → Prop} (h : Fr w w' X) {b o : Nat} {v : Value} (hb : ¬ X b) (hc : w.cell? ⟨b, o, none⟩ = some v) : w'.cell? ⟨b, o, none⟩ = some v := by
  rw [← hc]
  exact World.cell?_of_block (a := ⟨b, o, none⟩) (h.block b (World.block_lt_of_cell? w _ hc) hb)
theorem heap_fr {w w' : World} {X : Nat → Prop} (h : Fr w w' X) {b : Nat} {o : Obj} (hb : ¬ X b) (hc : w.heap[b]? = some o) : w'.heap[b]? = some o :=
  (h.block b (Array.getElem?_eq_some_iff.1 hc).1 hb).trans hc
theorem Fr.cell2 {w : World} {tb j k : Nat} (v u : Value) (hb : NoB w tb) : Fr w ((w.setCell ⟨tb, j, none⟩ v).setCell ⟨tb, k, none⟩ u) (fun b => b = tb) :=
  ⟨by simp [World.setCell], fun i _ hn => (Below.heap_setCell _ ⟨tb, k, none⟩ u i hn).trans (Below.heap_setCell w ⟨tb, j, none⟩ v i hn), fun i h _ => by rw [h]; exact hb⟩
theorem Fr.drew {w W : World} {X : Nat → Prop} (h : Fr w W X) : Fr w W.drew X := ⟨h.size, h.block, h.noB⟩
section
variable {w : World} {B tb n i m : Nat} {es : Es} {p : Path} {x : ByteArray} {d : Sh} {dir : Bool}
set_option maxHeartbeats 2000000 in
set_option maxRecDepth 100000 in
theorem make_walk {bs bd bt bm : Nat} (h : St w B tb es n i m) (hg : gp es p = some d) (hd : d.dir = true) (hm : m ≤ 2000) (hxs : x.size ≤ 1000000)
    (hne : ∀ b ∈ [bs, bd, bt, bm], ¬ Bk tb es b) (c0 : w.cell? ⟨bs, 0, none⟩ = some (.pointer (some ⟨d.nb, 0, none⟩))) (c1 : w.cell? ⟨bs, 1, none⟩ = some (.string x)) (cd : w.cell? ⟨bd, 0, none⟩ = some (.bool dir))
    (ct : w.cell? ⟨bt, 0, none⟩ = some (.pointer (some ⟨tb, 0, none⟩))) (cm : w.cell? ⟨bm, 0, none⟩ = some (.int .i64 (growsZ d))) (hi : 1 ≤ i) (hn : growsZ d ≤ n) :
    Calls Tryz.prog 67 #[.pointer (some ⟨bs, 0, none⟩), .pointer (some ⟨bd, 0, none⟩), .pointer (some ⟨bt, 0, none⟩), .pointer (some ⟨bm, 0, none⟩)] w fun e w' => e = .returned (.tuple #[]) ∧
      ∃ nb w1 w2, w.heap.size ≤ nb ∧ Nd w1 nb (freshSh dir nb) ∧ Below w.heap.size w w1 ∧ Nd w2 B (putSh d x nb) ∧ Fr w1 w2 (fun b => b ∈ blks d) ∧ Below B w1 w2 ∧ Fr w2 w' (fun b => b = tb) ∧ Below B w2 w' ∧ ∀ r, Tre w B tb r n i → Tre w' B tb r (n - (growsZ d).toNat) (i - 1) := by
  have H := Lib.hid h
  have l := h.limp hg
  have hbl := Lib.hid (fun b hb => (h.bk (b := b) hb).1)
  have hN := Lib.hid (h.ok hg)
  have hblk : ∀ b, b ∈ blks d → Bk tb es b := fun b hb => .inr ⟨d, List.mem_map.2 ⟨(p, d), gp_mem hg, rfl⟩, hb⟩
  have HBLK := Lib.hid hblk
  have HNE := Lib.hid hne
  have HT := Lib.hid h.tre
  have HB := Lib.hid h.base
  obtain ⟨r0, hr0, ht0⟩ := h.tre
  have u1 : w.cell? ⟨tb, 1, none⟩ = some (.int .i64 n) := blk_cell ht0.2 1
  have u2 : w.cell? ⟨tb, 2, none⟩ = some (.int .i64 i) := blk_cell ht0.2 2
  have g1 := blk_frozen ht0.2 1
  have g2 := blk_frozen ht0.2 2
  have HTB := Lib.hid (h.tb d (List.mem_map.2 ⟨(p, d), gp_mem hg, rfl⟩))
  have HTL := Lib.hid ht0.1
  have HU := Lib.hid (show w.heap[tb]? = _ from ht0.2)
  obtain ⟨l1, l2, l3⟩ := l
  obtain ⟨G, hG⟩ : ∃ G, growsZ d = G := ⟨_, rfl⟩
  rw [hG] at cm hn
  have HG := Lib.hid hG
  have hG0 : 0 ≤ G := by rw [← hG, grows_toN hd (by omega)]; omega
  have hnum := h.num
  have wi : IntKind.i64.wrap ((i : Int) - 1) = (i : Int) - 1 := by rw [IntKind.wrap_i64]; omega
  have wn : IntKind.i64.wrap ((n : Int) - G) = (n : Int) - G := by rw [IntKind.wrap_i64]; omega
  have hS : w.cell? ⟨bs, 0, none⟩ = some (.pointer (some ⟨d.nb, 0, none⟩)) ∧ w.cell? ⟨bs, 1, none⟩ = some (.string x) ∧ w.cell? ⟨bd, 0, none⟩ = some (.bool dir) := ⟨c0, c1, cd⟩
  have HS0 := Lib.hid hS
  have HD := Lib.hid hd
  have CT := Lib.hid ct
  have CM := Lib.hid cm
  have hmap : (∀ (fn : Fn) (first cap : Array Value) (w : World), (Instr.makeFunc fn first cap).run Tryz.prog w = .ok (.func fn first cap) w) := fun _ _ _ _ => rfl
  clear hG hblk hne h hg hd ht0 hr0 hS hmap ct cm u1 u2 g1 g2
  go_enter Tryz.func67, Tryz.ntmps67
  go_wp2_with fail
  go_region_held3 (fun W => W.cell? ⟨bs, 0, none⟩ = some (.pointer (some ⟨d.nb, 0, none⟩)) ∧ W.cell? ⟨bs, 1, none⟩ = some (.string x) ∧ W.cell? ⟨bd, 0, none⟩ = some (.bool dir)) (first | exact HS2.out | exact HS1.out | exact HS0.out | fail) (first | (go_at_call 19; refine (fresh_any dir _).mono ?_; rintro e w1 ⟨rfl, hf, hb⟩; have HF := Lib.hid hf; have HB1 := Lib.hid (((Below.refl w.heap.size w).drew).trans hb); have HS1 := Lib.hid (show _ ∧ _ ∧ _ from ⟨keepC hb HS0.out.1, keepC hb HS0.out.2.1, keepC hb HS0.out.2.2⟩); clear hf hb) | (go_at_call 68; refine (put_any x w.heap.size (Nd.below hN.out HB1.out) HD.out (by omega) (by omega) (by omega) hxs).mono ?_; rintro e w2 ⟨rfl, hp, hfr, hbe⟩; have HP := Lib.hid hp; have HFR := Lib.hid hfr; have HBE := Lib.hid hbe; have HS2 := Lib.hid (show _ ∧ _ ∧ _ from ⟨cell_fr hfr (fun hx => HNE.out bs (by simp) (HBLK.out _ hx)) HS1.out.1, cell_fr hfr (fun hx => HNE.out bs (by simp) (HBLK.out _ hx)) HS1.out.2.1, cell_fr hfr (fun hx => HNE.out bd (by simp) (HBLK.out _ hx)) HS1.out.2.2⟩); clear hp hfr hbe) | fail)
  have hU2 : w2.heap[tb]? = _ := heap_fr HFR.out HTB.out ((HB1.out.block tb (hbl.out tb (.inl rfl))).trans HU.out)
  have HU2 := Lib.hid hU2
  have ct2 : w2.cell? ⟨bt, 0, none⟩ = some (.pointer (some ⟨tb, 0, none⟩)) := cell_fr HFR.out (fun hx => HNE.out bt (by simp) (HBLK.out _ hx)) (keepC HB1.out CT.out)
  have cm2 : w2.cell? ⟨bm, 0, none⟩ = some (.int .i64 G) := cell_fr HFR.out (fun hx => HNE.out bm (by simp) (HBLK.out _ hx)) (keepC HB1.out CM.out)
  have u1 : w2.cell? ⟨tb, 1, none⟩ = some (.int .i64 n) := blk_cell hU2 1
  have u2 : w2.cell? ⟨tb, 2, none⟩ = some (.int .i64 i) := blk_cell hU2 2
  have f1 := blk_frozen hU2 1
  have f2 := blk_frozen hU2 2
  have n1 : bt ≠ tb := fun e => HNE.out bt (by simp) (.inl e)
  have n2 : bm ≠ tb := fun e => HNE.out bm (by simp) (.inl e)
  clear hU2 c0 c1 cd
  go_wp2_with fail
  go_region
  go_wp2_with fail
  go_end0
  refine ⟨rfl, w.heap.size, w1, w2, Nat.le_refl _, HF.out, HB1.out, HP.out, HFR.out, HBE.out, ?_, ?_, ?_⟩
  · exact Fr.drew (Fr.cell2 _ _ (Tre.noB (B := B) (r := r0.nb) (n := n) (i := i) ⟨HTL.out, HU2.out⟩))
  · exact ((((Below.refl B w2).setCell HTL.out _).setCell HTL.out _).drew)
  · intro r hr
    have e : r = r0.nb := by
      have h1 := hr.2
      rw [HU.out] at h1
      simpa using h1.symm
    subst e
    refine ⟨HTL.out, (blk_set (blk_set HU2.out 2 _) 1 _).trans ?_⟩
    have e1 : (i : Int) - 1 = ((i - 1 : Nat) : Int) := by omega
    have e2 : (n : Int) - G = ((n - G.toNat : Nat) : Int) := by omega
    rw [e1, e2, HG.out]
    rfl
theorem Ok.low {P : Program} {tn k : TypeId} {w : World} {B B' : Nat} {s : Sh} (h : Ok P tn k w B' s) (hB : B ≤ B') : Ok P tn k w B s :=
  ⟨Nat.le_trans hB h.base, h.cells, fun hd => ⟨Nat.le_trans hB (h.kids hd).1, (h.kids hd).2⟩⟩
theorem blks_fresh (dir : Bool) (nb : Nat) : (blks (freshSh dir nb)).Nodup ∧ ∀ b ∈ blks (freshSh dir nb), nb ≤ b := by
  cases dir <;> simp [blks, freshSh]
theorem bk_turn {es : Es} {p : Path} {g : Sh → Sh} (hg : ∀ s, blks (g s) = blks s) {s' : Sh} (h : s' ∈ (turnE es p g).map (·.2)) : ∃ s ∈ es.map (·.2), blks s' = blks s := by
  obtain ⟨e, he, rfl⟩ := List.mem_map.1 h
  obtain ⟨e0, h0, rfl⟩ := List.mem_map.1 he
  refine ⟨e0.2, List.mem_map.2 ⟨e0, h0, rfl⟩, ?_⟩
  by_cases h1 : e0.1 = p
  · rw [if_pos h1]; exact hg _
  · rw [if_neg h1]
theorem Sto.keepTb {w w' : World} {r : Nat} {σ : List Sh} (h : Sto Tryz.prog 85 9 w B σ) (ht : Tre w B tb r n i) (hf : Fr w w' (fun b => b = tb)) : Sto Tryz.prog 85 9 w' B σ :=
  h.fr hf (fun b hb s hs => by rw [hb]; exact ne_node ht (h.ok s hs))
theorem Turn.of3 {w1 w2 w' : World} {X : Nat → Prop} {es' : Es} (h : St w B tb es n i m) (hb : Below w.heap.size w w1) (f : Fr w1 w2 X) (hX : ∀ b, X b → Bk tb es b) (l : Below B w1 w2) (f2 : Fr w2 w' (fun b => b = tb)) (l2 : Below B w2 w')
    (hn : ∀ s ∈ es'.map (·.2), (∃ s0 ∈ es.map (·.2), blks s = blks s0) ∨ ∀ b ∈ blks s, w.heap.size ≤ b) : Turn w w' B tb es es' := by
  refine ⟨⟨Nat.le_trans hb.size (Nat.le_trans f.size f2.size), fun b hlt hbk => ?_, fun b hbk _ => (h.bk hbk).2.1⟩, (hb.mono h.base).trans (l.trans l2), fun b hbk => ?_⟩
  · have h1 := Nat.lt_of_lt_of_le hlt hb.size
    exact ((f2.block b (Nat.lt_of_lt_of_le h1 f.size) (fun e => hbk (.inl e))).trans (f.block b h1 (fun e => hbk (hX b e)))).trans (hb.block b hlt)
  · rcases hbk with rfl | ⟨s, hs, hbs⟩
    · exact .inl (.inl rfl)
    · rcases hn s hs with ⟨s0, h0, e⟩ | h0
      · exact .inl (.inr ⟨s0, h0, e ▸ hbs⟩)
      · exact .inr (h0 b hbs)
theorem putSh_blks (s : Sh) (x : ByteArray) (b : Nat) : blks (putSh s x b) = blks s := rfl
theorem abs_make {es : Es} {p : Path} {x : ByteArray} {nb : Nat} (hg : gp es p = some d) (hd : d.dir = true) (hs : d.slots ≤ 10000) (hw : WfF (gp es)) (hx : gp es (p ++ [x]) = none) :
    absE ((p ++ [x], freshSh dir nb) :: turnE es p (fun s => putSh s x nb)) = onA (setA (absE es) (p ++ [x]) (freshA dir)) p putA := by
  funext q
  unfold absE onA setA
  rw [gp_cons, gp_turn]
  have hdr := hw.dr p d hg hd
  by_cases e : q = p
  · subst e
    rw [if_neg (fun e => snoc_ne _ _ e), if_pos rfl, if_pos rfl, if_neg (fun e => snoc_ne _ _ e.symm), hg]
    have hh : has d.D (keyL x) = false := by rw [hdr.full, hdr.kids, hx]; rfl
    simp only [hg, Option.map_some]
    rw [put_toN hd hs hdr.tidy hh]
  · rw [if_neg e, if_neg e]
    by_cases e2 : p ++ [x] = q
    · subst e2
      rw [if_pos rfl, if_pos rfl]
      cases dir <;> rfl
    · rw [if_neg e2, if_neg (fun h => e2 h.symm)]
/-- make's act. -/
theorem make_do {bs bd bt bm : Nat} (h : St w B tb es n i m) (hg : gp es p = some d) (hd : d.dir = true) (hm : m ≤ 2000) (hx : gp es (p ++ [x]) = none) (hnm : nmL x.data.toList = true) (hxs : x.size ≤ 1000000)
    (hne : ∀ b ∈ [bs, bd, bt, bm], ¬ Bk tb es b) (c0 : w.cell? ⟨bs, 0, none⟩ = some (.pointer (some ⟨d.nb, 0, none⟩))) (c1 : w.cell? ⟨bs, 1, none⟩ = some (.string x)) (cd : w.cell? ⟨bd, 0, none⟩ = some (.bool dir))
    (ct : w.cell? ⟨bt, 0, none⟩ = some (.pointer (some ⟨tb, 0, none⟩))) (cm : w.cell? ⟨bm, 0, none⟩ = some (.int .i64 (growsZ d))) (hi : 1 ≤ i) (hn : growsZ d ≤ n) :
    Calls Tryz.prog 67 #[.pointer (some ⟨bs, 0, none⟩), .pointer (some ⟨bd, 0, none⟩), .pointer (some ⟨bt, 0, none⟩), .pointer (some ⟨bm, 0, none⟩)] w (ActPost w B tb es n i m (makeS ⟨absE es, n, i⟩ (p ++ [x]) dir)) := by
  refine (make_walk h hg hd hm hxs hne c0 c1 cd ct cm hi hn).mono ?_
  rintro e w' ⟨rfl, nb, w1, w2, hnb, hf, hb1, hp, hfr, hbe, hf2, hbe2, htre⟩
  have l := h.limp hg
  have hG := grows_toN hd (show d.slots ≤ 10000 by omega)
  have hB := h.base
  obtain ⟨r, hr, ht⟩ := h.tre
  have hbf := blks_fresh dir nb
  have htb := h.tb d (List.mem_map.2 ⟨(p, d), gp_mem hg, rfl⟩)
  have hT2 : Tre w2 B tb r.nb n i := Tre.keep ht ((hfr.block tb (Nat.lt_of_lt_of_le (Tre.lt ht) hb1.size) htb).trans (hb1.block tb (Tre.lt ht)))
  have s1 : Sto Tryz.prog 85 9 w1 B ([freshSh dir nb] ++ es.map (·.2)) := by
    refine Sto.add (h.sto.below hb1) (Ok.low hf (Nat.le_trans hB hnb)) hbf.1 fun s hs b hb1 hb2 => ?_
    have := hbf.2 b hb1
    have := (h.bk (.inr ⟨s, hs, hb2⟩)).1
    omega
  have s2 := sto_turn [freshSh dir nb] s1 h.nd hg (g := fun s => putSh s x nb) hfr hp (putSh_blks d x nb)
  have s3 := Sto.keepTb s2 hT2 hf2
  have hwf := h.wf.make hg hd hx hnm (g := fun s => putSh s x nb) (fr := freshSh dir nb) (putSh_put d x nb) rfl rfl
  refine ⟨rfl, (p ++ [x], freshSh dir nb) :: turnE es p (fun s => putSh s x nb), n - (growsZ d).toNat, i - 1, ⟨s3, ?_, ?_, ?_, ?_, ?_⟩, ?_, ?_, ?_⟩
  · refine List.nodup_cons.2 ⟨fun hm => ?_, nd_turn h.nd _ _⟩
    obtain ⟨e, he, e1⟩ := List.mem_map.1 hm
    have : gp (turnE es p (fun s => putSh s x nb)) (p ++ [x]) = none := by rw [gp_turn, if_neg (snoc_ne p x), hx]
    exact gp_none_iff.1 this e he e1
  · rw [gp_consF, gp_turnF]; exact hwf
  · rw [gp_consF, gp_turnF]
    unfold setF
    by_cases e : ([] : Path) = p
    · subst e
      rw [if_neg (by simp)]
      unfold onF
      rw [if_pos rfl, hr]
      exact ⟨putSh r x nb, rfl, htre _ ht⟩
    · rw [if_neg (by simp)]
      unfold onF
      rw [if_neg e, hr]
      exact ⟨r, rfl, htre _ ht⟩
  · intro e he
    rcases List.mem_cons.1 he with rfl | he
    · cases dir <;> simp [freshSh, size]
    · refine lim_turn (g := fun s => putSh s x nb) (Q := fun s => s.slots ≤ m + 1 ∧ s.data.length ≤ 8458240 ∧ size s.D ≤ m + 1) h.nd hg (fun e he => ?_) ⟨?_, ?_, ?_⟩ e he
      · have := h.lim e he; omega
      · have := putSh_slots d x nb; omega
      · show d.data.length ≤ _; omega
      · show size (d.D.put (keyL x) (ptrD (some nb))) ≤ _
        rw [size_put (h.wf.dr p d hg hd).tidy]
        split <;> omega
  · have := h.num; omega
  · unfold makeS
    rw [abs_make hg hd (by omega) h.wf hx]
    have e1 : (p ++ [x]).dropLast = p := by simp
    have e2 : wantA (absE es p) = (growsZ d).toNat := by unfold absE; rw [hg, hG]; rfl
    simp only [e1, e2]
  · refine Turn.of3 h hb1 hfr (fun b hb => .inr ⟨d, List.mem_map.2 ⟨(p, d), gp_mem hg, rfl⟩, hb⟩) hbe hf2 hbe2 fun s hs => ?_
    rw [List.map_cons] at hs
    rcases List.mem_cons.1 hs with rfl | hs
    · exact .inr fun b hb => Nat.le_trans hnb (hbf.2 b hb)
    · exact .inl (bk_turn (g := fun s => putSh s x nb) (fun s => putSh_blks s x nb) hs)
  · rw [List.length_cons, len_turn]; omega
end
end Go.Proofs.YtpdcjdangnfeiaaGreatDoor.Ue
open Go.Proofs.YtpdcjdangnfeiaaGreatDoor.Ue
namespace Go.Proofs.YtpdcjdangnfeiaaGreatDoor.Uf
/-- What a plan hands back: what is wrong, or an act. -/
def PlanPost (w : World) (B tb : Nat) (es : Es) (n i m : Nat) (E : Int) (s' : S) (e : Ending) (w' : World) : Prop :=
  Below w.heap.size w w' ∧ ∃ f, e = .returned (.tuple #[f, .int .i64 E]) ∧ (E = 0 → ∃ k caps, f = .func (.func k) #[] caps ∧ Enters Tryz.prog k ∧ Calls Tryz.prog k caps w' (ActPost w' B tb es n i m s'))
def ErrPost (w : World) (E : Int) (e : Ending) (w' : World) : Prop := Below w.heap.size w w' ∧ ∃ f, e = .returned (.tuple #[f, .int .i64 E])
theorem ErrPost.plan {w w' : World} {B tb : Nat} {es : Es} {n i m : Nat} {E : Int} {s' : S} {e : Ending} (h : ErrPost w E e w') (hE : E ≠ 0) : PlanPost w B tb es n i m E s' e w' := by
  obtain ⟨h1, f, h2⟩ := h
  exact ⟨h1, f, h2, fun h => absurd h hE⟩
section
variable {w : World} {B tb n i m : Nat} {es : Es} {p : Path} {x : ByteArray} {d : Sh} {dir : Bool}
set_option maxHeartbeats 2000000 in
set_option maxRecDepth 100000 in
theorem make_exists (a : Addr) (uv nv xv : Value) : Calls Tryz.prog 37 #[.pointer (some ⟨tb, 0, none⟩), .agg #[uv, nv, .pointer (some a), xv], .bool dir] w (ErrPost w 9) := by
  go_enter Tryz.func37, Tryz.ntmps37
  go_wp2
  go_ret2
  exact ⟨(((Below.refl _ _).alloc (Nat.le_refl _) _).alloc (by simp) _).alloc (by simp; omega) _, _, rfl⟩
theorem St.cells {w : World} {B tb n i m : Nat} {es : Es} (h : St w B tb es n i m) : ∃ r, gp es [] = some r ∧ w.heap[tb]? = some (.cells #[.pointer (some ⟨r.nb, 0, none⟩), .int .i64 n, .int .i64 i] 55 (0, 0)) := by
  obtain ⟨r, h1, h2⟩ := h.tre
  exact ⟨r, h1, h2.2⟩
def mk3 (w : World) (tb : Nat) (sv : Array Value) (dir : Bool) : World := ((w.alloc (.cells #[.pointer (some ⟨tb, 0, none⟩)] 25)).alloc (.cells sv 91)).alloc (.cells #[.bool dir] 4)
theorem mk3_below (w : World) (tb : Nat) (sv : Array Value) (dir : Bool) : Below w.heap.size w (mk3 w tb sv dir) := (((Below.refl _ _).alloc (Nat.le_refl _) _).alloc (by simp) _).alloc (by simp; omega) _
theorem mk3_size (w : World) (tb : Nat) (sv : Array Value) (dir : Bool) : (mk3 w tb sv dir).heap.size = w.heap.size + 3 := by simp [mk3]
theorem mk3_0 (w : World) (tb : Nat) (sv : Array Value) (dir : Bool) : (mk3 w tb sv dir).heap[w.heap.size]? = some (.cells #[.pointer (some ⟨tb, 0, none⟩)] 25 (0, 0)) := blk_alloc (blk_alloc (Go.heap_alloc_new _ _) _) _
theorem mk3_1 (w : World) (tb : Nat) (sv : Array Value) (dir : Bool) : (mk3 w tb sv dir).heap[w.heap.size + 1]? = some (.cells sv 91 (0, 0)) := by
  have := Go.heap_alloc_new (w.alloc (.cells #[.pointer (some ⟨tb, 0, none⟩)] 25)) (.cells sv 91)
  rw [World.size_alloc] at this
  exact blk_alloc this _
theorem mk3_2 (w : World) (tb : Nat) (sv : Array Value) (dir : Bool) : (mk3 w tb sv dir).heap[w.heap.size + 2]? = some (.cells #[.bool dir] 4 (0, 0)) := by
  have := Go.heap_alloc_new ((w.alloc (.cells #[.pointer (some ⟨tb, 0, none⟩)] 25)).alloc (.cells sv 91)) (.cells #[.bool dir] 4)
  rw [World.size_alloc, World.size_alloc] at this
  exact this
set_option maxHeartbeats 2000000 in
set_option maxRecDepth 100000 in
theorem make_none (xv : Value) (h : St w B tb es n i m) (hg : gp es p = some d) (hd : d.dir = true) (hm : m ≤ 2000) (hx : gp es (p ++ [x]) = none) (hnm : nmL x.data.toList = true) (hxs : x.size ≤ 1000000) :
    Calls Tryz.prog 37 #[.pointer (some ⟨tb, 0, none⟩), .agg #[.pointer (some ⟨d.nb, 0, none⟩), .string x, .pointer none, xv], .bool dir] w (PlanPost w B tb es n i m (if i = 0 ∨ n < growsA (toN d) then 7 else 0) (makeS ⟨absE es, n, i⟩ (p ++ [x]) dir)) := by
  have l := h.limp hg
  have hG := grows_toN hd (show d.slots ≤ 10000 by omega)
  obtain ⟨g, hgg⟩ : ∃ g, growsA (toN d) = g := ⟨_, rfl⟩
  rw [hgg] at hG ⊢
  have H := Lib.hid h
  obtain ⟨r, hr, ht⟩ := St.cells h
  have hb0 := mk3_below w tb #[.pointer (some ⟨d.nb, 0, none⟩), .string x, .pointer none, xv] dir
  have HM := Lib.hid hb0
  have HGR := Lib.hid (fun W (hW : Nd W B d) => hG ▸ grows_any hW hd (by omega) (by omega) (by omega))
  have HN := Lib.hid (Nd.below (h.ok hg) hb0)
  have HT := Lib.hid ht
  have HGZ := Lib.hid hG
  have hnum := h.num
  clear ht hG hgg hr
  by_cases k : i = 0 ∨ n < g
  · rw [if_pos k]
    suffices hs : Calls Tryz.prog 37 #[.pointer (some ⟨tb, 0, none⟩), .agg #[.pointer (some ⟨d.nb, 0, none⟩), .string x, .pointer none, xv], .bool dir] w (ErrPost w 7) from hs.mono fun _ _ h => h.plan (by decide)
    clear h hb0
    by_cases k1 : i = 0
    · subst k1
      clear k
      go_enter Tryz.func37, Tryz.ntmps37
      go_wp2_with fail
      refine (HGR.out _ HN.out).mono ?_
      rintro e w4 ⟨rfl, hb⟩
      have HB := Lib.hid (bt HM.out hb)
      have HB4 := Lib.hid hb
      clear hb
      go_wp2_with fail
      have u2 : (w4.alloc (Obj.cells #[Value.int IntKind.i64 (g : Int)] 3)).cell? ⟨tb, 2, none⟩ = some (.int .i64 0) := keepC ((Below.refl _ _).alloc (Nat.le_refl _) _) (keepC HB.out (blk_cell HT.out 2))
      have v3 : (w4.alloc (Obj.cells #[Value.int IntKind.i64 (g : Int)] 3)).cell? ⟨w.heap.size, 0, none⟩ = some (.pointer (some ⟨tb, 0, none⟩)) := keepC ((Below.refl _ _).alloc (Nat.le_refl _) _) (keepC HB4.out (blk_cell (mk3_0 w tb _ dir) 0))
      go_quiet (fail)
      go_wp2
      go_ret2
      exact ⟨((HB.out.alloc HB.out.size _).trans ((bdraw _ _).mono (by have := HB.out.size; simp; omega))), _, rfl⟩
    · have k2 : n < g := by omega
      have k3 : (n : Int) < (g : Int) := by omega
      have k4 : ((i : Int) == 0) = false := by simp; omega
      clear k
      go_enter Tryz.func37, Tryz.ntmps37
      go_wp2_with fail
      refine (HGR.out _ HN.out).mono ?_
      rintro e w4 ⟨rfl, hb⟩
      have HB := Lib.hid (bt HM.out hb)
      have HB4 := Lib.hid hb
      clear hb
      go_wp2_with fail
      have u2 : (w4.alloc (Obj.cells #[Value.int IntKind.i64 (g : Int)] 3)).cell? ⟨tb, 2, none⟩ = some (.int .i64 i) := keepC ((Below.refl _ _).alloc (Nat.le_refl _) _) (keepC HB.out (blk_cell HT.out 2))
      have u1 : (w4.alloc (Obj.cells #[Value.int IntKind.i64 (g : Int)] 3)).cell? ⟨tb, 1, none⟩ = some (.int .i64 n) := keepC ((Below.refl _ _).alloc (Nat.le_refl _) _) (keepC HB.out (blk_cell HT.out 1))
      have v3 : (w4.alloc (Obj.cells #[Value.int IntKind.i64 (g : Int)] 3)).cell? ⟨w.heap.size, 0, none⟩ = some (.pointer (some ⟨tb, 0, none⟩)) := keepC ((Below.refl _ _).alloc (Nat.le_refl _) _) (keepC HB4.out (blk_cell (mk3_0 w tb _ dir) 0))
      have v8 : (w4.alloc (Obj.cells #[Value.int IntKind.i64 (g : Int)] 3)).cell? ⟨w4.heap.size, 0, none⟩ = some (.int .i64 g) := blk_cell (Go.heap_alloc_new _ _) 0
      go_quiet (fail)
      go_wp2
      go_ret2
      exact ⟨((HB.out.alloc HB.out.size _).trans ((bdraw _ _).mono (by have := HB.out.size; simp; omega))), _, rfl⟩
  · rw [if_neg k]
    have k3 : ¬ (n : Int) < (g : Int) := by omega
    have k4 : ((i : Int) == 0) = false := by simp; omega
    have HK := Lib.hid k
    have hmk : ∀ (fn : Fn) (first cap : Array Value) (w : World), (Instr.makeFunc fn first cap).run Tryz.prog w = .ok (.func fn first cap) w := fun _ _ _ _ => rfl
    have HX := Lib.hid hx
    clear k h hb0 hx
    go_enter Tryz.func37, Tryz.ntmps37
    go_wp2_with fail
    refine (HGR.out _ HN.out).mono ?_
    rintro e w4 ⟨rfl, hb⟩
    have HB := Lib.hid (bt HM.out hb)
    have HB4 := Lib.hid hb
    clear hb
    go_wp2_with fail
    have u2 : (w4.alloc (Obj.cells #[Value.int IntKind.i64 (g : Int)] 3)).cell? ⟨tb, 2, none⟩ = some (.int .i64 i) := keepC ((Below.refl _ _).alloc (Nat.le_refl _) _) (keepC HB.out (blk_cell HT.out 2))
    have u1 : (w4.alloc (Obj.cells #[Value.int IntKind.i64 (g : Int)] 3)).cell? ⟨tb, 1, none⟩ = some (.int .i64 n) := keepC ((Below.refl _ _).alloc (Nat.le_refl _) _) (keepC HB.out (blk_cell HT.out 1))
    have v3 : (w4.alloc (Obj.cells #[Value.int IntKind.i64 (g : Int)] 3)).cell? ⟨w.heap.size, 0, none⟩ = some (.pointer (some ⟨tb, 0, none⟩)) := keepC ((Below.refl _ _).alloc (Nat.le_refl _) _) (keepC HB4.out (blk_cell (mk3_0 w tb _ dir) 0))
    have v8 : (w4.alloc (Obj.cells #[Value.int IntKind.i64 (g : Int)] 3)).cell? ⟨w4.heap.size, 0, none⟩ = some (.int .i64 g) := blk_cell (Go.heap_alloc_new _ _) 0
    go_quiet (fail)
    go_wp2
    go_ret2
    have hk : Below (w4.alloc (Obj.cells #[Value.int IntKind.i64 (g : Int)] 3)).heap.size (w4.alloc (Obj.cells #[Value.int IntKind.i64 (g : Int)] 3)) ((w4.alloc (Obj.cells #[Value.int IntKind.i64 (g : Int)] 3)).drewN nq) := bdraw _ _
    have hbW : Below w.heap.size w ((w4.alloc (Obj.cells #[Value.int IntKind.i64 (g : Int)] 3)).drewN nq) := (HB.out.alloc HB.out.size _).trans (hk.mono (by have := HB.out.size; simp; omega))
    have hW4 : Below (mk3 w tb #[.pointer (some ⟨d.nb, 0, none⟩), .string x, .pointer none, xv] dir).heap.size (mk3 w tb #[.pointer (some ⟨d.nb, 0, none⟩), .string x, .pointer none, xv] dir) ((w4.alloc (Obj.cells #[Value.int IntKind.i64 (g : Int)] 3)).drewN nq) := (HB4.out.alloc HB4.out.size _).trans (hk.mono (by have := HB4.out.size; simp; omega))
    have hsz : w.heap.size + 3 ≤ w4.heap.size := by have := HB4.out.size; rw [mk3_size] at this; exact this
    refine ⟨hbW, _, rfl, fun _ => ⟨67, _, rfl, enters_of Tryz.func67 (by kernel_rfl) rfl, ?_⟩⟩
    refine make_do (H.out.below hbW) hg hd hm HX.out hnm hxs (fun b hb hk => ?_) (keepC hW4 (blk_cell (mk3_1 w tb _ dir) 0)) (keepC hW4 (blk_cell (mk3_1 w tb _ dir) 1)) (keepC hW4 (blk_cell (mk3_2 w tb _ dir) 0)) (keepC hW4 (blk_cell (mk3_0 w tb _ dir) 0)) ?_ (by have := HK.out; omega) (by rw [HGZ.out]; omega)
    · have := (H.out.bk hk).1
      simp at hb
      omega
    · rw [HGZ.out]; exact v8
end
end Go.Proofs.YtpdcjdangnfeiaaGreatDoor.Uf
end
