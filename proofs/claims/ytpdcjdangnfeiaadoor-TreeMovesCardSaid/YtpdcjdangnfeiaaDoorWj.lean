/- TreeMoves: the plain part: what is renamed there and back again. -/
import Derived.Test.YtpdcjdangnfeiaaDoorWe
namespace Go.Proofs.YtpdcjdangnfeiaaDoor.Wj
open Go Go.Maps Go.RowKit Go.Proofs.YtpdcjdangnfeiaaDoor.Pb Go.Proofs.YtpdcjdangnfeiaaDoor.PPth Go.Proofs.YtpdcjdangnfeiaaDoorW.PrintWords Go.Proofs.YtpdcjdangnfeiaaDoorW.PrintLast Go.Proofs.YtpdcjdangnfeiaaDoorW.PrintMore Go.Proofs.YtpdcjdangnfeiaaDoor.Ta Go.Proofs.YtpdcjdangnfeiaaDoor.Tb Go.Proofs.YtpdcjdangnfeiaaDoor.Tc Go.Proofs.YtpdcjdangnfeiaaDoor.Te Go.Proofs.YtpdcjdangnfeiaaDoor.Tf Go.Proofs.YtpdcjdangnfeiaaDoor.Qa Go.Proofs.YtpdcjdangnfeiaaDoor.Qb Go.Proofs.YtpdcjdangnfeiaaDoor.Qc Go.Proofs.YtpdcjdangnfeiaaDoor.Qd Go.Proofs.YtpdcjdangnfeiaaDoor.Qe Go.Proofs.YtpdcjdangnfeiaaDoor.Qf Go.Proofs.YtpdcjdangnfeiaaDoor.Ua Go.Proofs.YtpdcjdangnfeiaaDoor.Ub Go.Proofs.YtpdcjdangnfeiaaDoor.Uc Go.Proofs.YtpdcjdangnfeiaaDoor.Ud Go.Proofs.YtpdcjdangnfeiaaDoor.Ue Go.Proofs.YtpdcjdangnfeiaaDoor.Uf Go.Proofs.YtpdcjdangnfeiaaDoor.Ba Go.Proofs.YtpdcjdangnfeiaaDoor.Ug Go.Proofs.YtpdcjdangnfeiaaDoor.Uh Go.Proofs.YtpdcjdangnfeiaaDoor.Ui Go.Proofs.YtpdcjdangnfeiaaDoor.Uj Go.Proofs.YtpdcjdangnfeiaaDoor.Uk Go.Proofs.YtpdcjdangnfeiaaDoor.Ul Go.Proofs.YtpdcjdangnfeiaaDoor.Um Go.Proofs.YtpdcjdangnfeiaaDoor.Un Go.Proofs.YtpdcjdangnfeiaaDoor.Uo Go.Proofs.YtpdcjdangnfeiaaDoor.Up Go.Proofs.YtpdcjdangnfeiaaDoor.Uq Go.Proofs.YtpdcjdangnfeiaaDoor.Ur Go.Proofs.YtpdcjdangnfeiaaDoor.Us Go.Proofs.YtpdcjdangnfeiaaDoor.Ut Go.Proofs.YtpdcjdangnfeiaaDoor.Uu Go.Proofs.YtpdcjdangnfeiaaDoor.Uv Go.Proofs.YtpdcjdangnfeiaaDoor.Uw Go.Proofs.YtpdcjdangnfeiaaDoor.Ux Go.Proofs.YtpdcjdangnfeiaaDoor.Uy Go.Proofs.YtpdcjdangnfeiaaDoor.Uz Go.Proofs.YtpdcjdangnfeiaaDoor.Va Go.Proofs.YtpdcjdangnfeiaaDoor.Vb Go.Proofs.YtpdcjdangnfeiaaDoor.Vc Go.Proofs.YtpdcjdangnfeiaaDoor.Vd Go.Proofs.YtpdcjdangnfeiaaDoor.Ve Go.Proofs.YtpdcjdangnfeiaaDoor.Wa Go.Proofs.YtpdcjdangnfeiaaDoor.Wb Go.Proofs.YtpdcjdangnfeiaaDoor.Wc Go.Proofs.YtpdcjdangnfeiaaDoor.Wd Go.Proofs.YtpdcjdangnfeiaaDoor.We
/-- A plain tree is well formed. -/
structure WfA (a : Path → Option N) : Prop where
  root : ∃ n, a [] = some n ∧ n.dir = true
  par : ∀ p x n, a (p ++ [x]) = some n → ∃ d, a p = some d ∧ d.dir = true ∧ 0 < d.k
theorem At.wfA {w : World} {B tb m : Nat} {q : Int} {s : S} (h : At w B tb q s m) : WfA s.a := by
  obtain ⟨-, -, es, n, i, h, rfl⟩ := h
  refine ⟨?_, fun p x n hn => ?_⟩
  · obtain ⟨r, h1, h2⟩ := h.wf.root
    exact ⟨toN r, by show (gp es []).map toN = _; rw [h1]; rfl, h2⟩
  · obtain ⟨t, ht, rfl⟩ := Option.map_eq_some_iff.1 (show (gp es (p ++ [x])).map toN = some n from hn)
    obtain ⟨d, h1, h2⟩ := h.wf.par p x t ht
    have dr := h.wf.dr p d h1 h2
    have e1 : has d.D (keyL x) = true := by rw [dr.full, dr.kids, ht]; rfl
    refine ⟨toN d, by show (gp es p).map toN = _; rw [h1]; rfl, h2, ?_⟩
    unfold toN
    dsimp only
    rw [if_pos h2]
    obtain ⟨es2, hes, -⟩ := dr.tidy
    rw [hes] at e1 ⊢
    cases es2 with
    | nil => simp [has_eq] at e1
    | cons e l => simp [size]
/-- No directory has more names than slots. -/
def R (n : N) : Prop := n.dir = true → n.k ≤ n.slots * 8
def Room (a : Path → Option N) : Prop := ∀ p n, a p = some n → R n
theorem Room.set {a : Path → Option N} (h : Room a) (p : Path) {n : N} (hn : R n) : Room (setA a p n) := by
  intro q x hx
  unfold setA at hx
  split at hx
  · cases hx; exact hn
  · exact h q x hx
theorem Room.del {a : Path → Option N} (h : Room a) (p : Path) : Room (delA a p) := by
  intro q x hx
  unfold delA at hx
  split at hx
  · cases hx
  · exact h q x hx
theorem Room.on {a : Path → Option N} (h : Room a) (p : Path) {g : N → N} (hg : ∀ n, R n → R (g n)) : Room (onA a p g) := by
  intro q x hx
  unfold onA at hx
  split at hx
  · obtain ⟨y, hy, rfl⟩ := Option.map_eq_some_iff.1 hx
    exact hg y (h q y hy)
  · exact h q x hx
theorem Room.mv {a : Path → Option N} (h : Room a) (f t : Path) : Room (mvA a f t) := by
  intro q x hx
  unfold mvA at hx
  split at hx
  · exact h _ x hx
  · split at hx
    · cases hx
    · exact h q x hx
theorem R_put (n : N) (h : R n) : R (putA n) := by
  intro hd
  have := h hd
  unfold putA
  dsimp only
  split <;> omega
theorem R_take (n : N) (h : R n) : R (takeA n) := by
  intro hd
  have := h hd
  unfold takeA
  dsimp only
  omega
theorem Room.root : Room rootA := by
  intro q n h
  unfold rootA at h
  split at h
  · cases h; intro _; exact Nat.le_refl _
  · cases h
theorem Room.do {s : S} (h : Room s.a) (o : O) : Room (doS s o).a := by
  unfold doS
  split
  · exact h
  unfold planS
  split
  · exact (h.set _ (fun _ => Nat.zero_le _)).on _ R_put
  split
  · unfold appS
    split
    · exact h
    · rename_i x hx
      exact h.set _ (fun hd => h _ x hx hd)
  split
  · unfold cutS
    split
    · exact h
    · rename_i x hx
      exact h.set _ (fun hd => h _ x hx hd)
  split
  · unfold remS
    split
    · exact h
    · exact (h.del _).on _ R_take
  unfold moveS
  split
  · exact h
  split
  · exact (h.mv _ _).on _ R_take
  · exact ((h.mv _ _).on _ R_take).on _ R_put
theorem wayA_iff (a : Path → Option N) : ∀ (r p : Path), wayA a p r = 0 ↔ ∀ q, q <+: r → q ≠ r → ∃ d, a (p ++ q) = some d ∧ d.dir = true
  | [], p => by
    refine ⟨fun _ q h1 h2 => absurd (List.prefix_nil.1 h1) h2, fun _ => rfl⟩
  | x :: r, p => by
    have ih := wayA_iff a r (p ++ [x])
    constructor
    · intro h q h1 h2
      unfold wayA at h
      cases hp : a p with
      | none => rw [hp] at h; simp at h
      | some d =>
        rw [hp] at h
        dsimp only at h
        split at h
        · rename_i hd
          cases q with
          | nil => exact ⟨d, by rw [List.append_nil]; exact hp, hd⟩
          | cons y q =>
            obtain ⟨rfl, h3⟩ := List.cons_prefix_cons.1 h1
            obtain ⟨d2, h4, h5⟩ := ih.1 h q h3 (fun e => h2 (by rw [e]))
            exact ⟨d2, by rwa [List.append_assoc, List.singleton_append] at h4, h5⟩
        · simp at h
    · intro h
      obtain ⟨d, h1, h2⟩ := h [] List.nil_prefix (by simp)
      rw [List.append_nil] at h1
      unfold wayA
      rw [h1]
      dsimp only
      rw [if_pos h2]
      refine ih.2 fun q h3 h4 => ?_
      obtain ⟨d2, h5, h6⟩ := h (x :: q) (List.cons_prefix_cons.2 ⟨rfl, h3⟩) (fun e => h4 (List.cons.inj e).2)
      exact ⟨d2, by rwa [List.append_assoc, List.singleton_append], h6⟩
theorem WfA.up {a : Path → Option N} (h : WfA a) : ∀ (r p : Path) (n : N), a (p ++ r) = some n → r ≠ [] → ∃ d, a p = some d ∧ d.dir = true ∧ 0 < d.k := by
  intro r
  induction hk : r.length generalizing r with
  | zero => intro p n _ hr; exact absurd (List.length_eq_zero_iff.1 hk) hr
  | succ k ih =>
    intro p n hn hr
    obtain ⟨r', x, rfl⟩ : ∃ r' x, r = r' ++ [x] := ⟨r.dropLast, r.getLast hr, (List.dropLast_concat_getLast hr).symm⟩
    rw [← List.append_assoc] at hn
    obtain ⟨d, h1, h2, h3⟩ := h.par (p ++ r') x n hn
    by_cases e : r' = []
    · subst e; rw [List.append_nil] at h1; exact ⟨d, h1, h2, h3⟩
    · exact ih r' (by simpa using hk) p d h1 e
theorem WfA.pre {a : Path → Option N} (h : WfA a) {l q : Path} {n : N} (hl : a l = some n) (hq : q <+: l) (hne : q ≠ l) : ∃ d, a q = some d ∧ d.dir = true ∧ 0 < d.k := by
  obtain ⟨r, rfl⟩ := hq
  exact h.up r q n hl (by rintro rfl; exact hne (List.append_nil q).symm)
theorem WfA.none {a : Path → Option N} (h : WfA a) {m q : Path} (hm : a m = none) (hq : m <+: q) : a q = none := by
  cases hx : a q with
  | none => rfl
  | some n =>
    by_cases e : m = q
    · subst e; rw [hm] at hx; cases hx
    · obtain ⟨d, h1, -⟩ := h.pre hx hq e
      rw [hm] at h1; cases h1
def oRen (a b : ByteArray) : O := ⟨7, a, b, [], 0⟩
theorem doE_ren (s : S) (pa pb : ByteArray) : doE s (oRen pa pb) = if (splitP pa).2 ≠ 0 then (splitP pa).2 else if (splitP pb).2 ≠ 0 then (splitP pb).2 else if wayA s.a [] (splitP pa).1 ≠ 0 then wayA s.a [] (splitP pa).1 else moveE s (splitP pa).1 (splitP pb).1 := by
  unfold doE planE oRen
  simp
theorem doS_ren (s : S) (pa pb : ByteArray) (h : doE s (oRen pa pb) = 0) : doS s (oRen pa pb) = moveS s (splitP pa).1 (splitP pb).1 := by
  unfold doS
  rw [if_neg (by simpa using h)]
  unfold planS oRen
  simp
theorem last_pre {l : Path} (h : l ≠ []) : l.dropLast <+: l ∧ l.dropLast ≠ l := by
  refine ⟨List.dropLast_prefix l, fun e => ?_⟩
  have := congrArg List.length e
  rw [List.length_dropLast] at this
  have := List.length_pos_iff.2 h
  omega
/-- The move itself, where nothing lies at its end. -/
structure Mv (s : S) (l m : Path) (y : N) : Prop where
  wf : WfA s.a
  at1 : s.a l = some y
  at2 : s.a m = none
  l0 : l ≠ []
  m0 : m ≠ []
  up : ∃ d, s.a m.dropLast = some d ∧ d.dir = true
  nb : ¬ l <+: m
theorem Mv.nb2 {s : S} {l m : Path} {y : N} (h : Mv s l m y) : ¬ m <+: l := by
  intro hp
  have := h.wf.none h.at2 hp
  rw [h.at1] at this
  cases this
theorem Mv.ne {s : S} {l m : Path} {y : N} (h : Mv s l m y) : l ≠ m := by
  rintro rfl
  exact h.nb (List.prefix_refl _)
theorem Mv.eq {s : S} {l m : Path} {y : N} (h : Mv s l m y) : moveS s l m = ⟨onA (onA (mvA s.a l m) l.dropLast takeA) m.dropLast putA, s.blocks - (if l.dropLast = m.dropLast then 0 else wantA (s.a m.dropLast)), s.inodes⟩ := by
  unfold moveS
  rw [if_neg h.ne, h.at2]
theorem onA_kd (a : Path → Option N) (p : Path) (g : N → N) (hg : ∀ n, kdN (g n) = kdN n) (r : Path) : (onA a p g r).map kdN = (a r).map kdN := by
  unfold onA
  split
  · rw [Option.map_map]
    congr 1
    funext n
    exact hg n
  · rfl
theorem onA_dir {a : Path → Option N} {q : Path} (p : Path) {g : N → N} (hg : ∀ n, (g n).dir = n.dir) (h : ∃ d, a q = some d ∧ d.dir = true) : ∃ d, onA a p g q = some d ∧ d.dir = true := by
  obtain ⟨d, h1, h2⟩ := h
  unfold onA
  split
  · exact ⟨g d, by rw [h1]; rfl, by rw [hg]; exact h2⟩
  · exact ⟨d, h1, h2⟩
theorem onA_ne {a : Path → Option N} {p q : Path} (g : N → N) (h : q ≠ p) : onA a p g q = a q := by unfold onA; rw [if_neg h]
section
variable {s : S} {l m : Path} {y : N}
/-- Proper fronts of either end stay directories. -/
theorem Mv.front (h : Mv s l m y) {q : Path} (h1 : ¬ m <+: q) (h2 : ¬ l <+: q) (hd : ∃ d, s.a q = some d ∧ d.dir = true) : ∃ d, (moveS s l m).a q = some d ∧ d.dir = true := by
  rw [h.eq]
  refine onA_dir _ (fun _ => rfl) (onA_dir _ (fun _ => rfl) ?_)
  unfold mvA
  rw [if_neg h1, if_neg h2]
  exact hd
theorem Mv.frontL (h : Mv s l m y) {q : Path} (hq : q <+: l) (hne : q ≠ l) : ∃ d, (moveS s l m).a q = some d ∧ d.dir = true := by
  obtain ⟨d, h1, h2, -⟩ := h.wf.pre h.at1 hq hne
  refine h.front (fun hp => h.nb2 (hp.trans hq)) (fun hp => hne ?_) ⟨d, h1, h2⟩
  exact (List.prefix_iff_eq_take.1 hq).trans (by rw [List.take_of_length_le hp.length_le])
theorem Mv.frontM (h : Mv s l m y) {q : Path} (hq : q <+: m) (hne : q ≠ m) : ∃ d, (moveS s l m).a q = some d ∧ d.dir = true := by
  have hd : ∃ d, s.a q = some d ∧ d.dir = true := by
    obtain ⟨d, h1, h2⟩ := h.up
    have hq2 : q <+: m.dropLast := by
      refine List.prefix_of_prefix_length_le hq (List.dropLast_prefix m) ?_
      have := hq.length_le
      have h3 : q.length ≠ m.length := fun e => hne ((List.prefix_iff_eq_take.1 hq).trans (by rw [e, List.take_length]))
      rw [List.length_dropLast]
      omega
    by_cases e : q = m.dropLast
    · subst e; exact ⟨d, h1, h2⟩
    · obtain ⟨d2, h4, h5, -⟩ := h.wf.pre h1 hq2 e
      exact ⟨d2, h4, h5⟩
  refine h.front (fun hp => hne ?_) (fun hp => h.nb (hp.trans hq)) hd
  exact (List.prefix_iff_eq_take.1 hq).trans (by rw [List.take_of_length_le hp.length_le])
theorem Mv.atM (h : Mv s l m y) : (moveS s l m).a m = some y := by
  rw [h.eq]
  have h1 : m ≠ m.dropLast := fun e => (last_pre h.m0).2 e.symm
  have h2 : m ≠ l.dropLast := fun e => by
    obtain ⟨d, h3, -⟩ := h.wf.pre h.at1 (last_pre h.l0).1 (last_pre h.l0).2
    rw [← e, h.at2] at h3
    cases h3
  show onA (onA (mvA s.a l m) l.dropLast takeA) m.dropLast putA m = some y
  rw [onA_ne _ h1, onA_ne _ h2]
  unfold mvA
  rw [if_pos (List.prefix_refl _), List.drop_length, List.append_nil, h.at1]
theorem Mv.atL (h : Mv s l m y) : (moveS s l m).a l = none := by
  rw [h.eq]
  have h1 : l ≠ l.dropLast := fun e => (last_pre h.l0).2 e.symm
  have h2 : l ≠ m.dropLast := fun e => h.nb (e ▸ List.dropLast_prefix m)
  show onA (onA (mvA s.a l m) l.dropLast takeA) m.dropLast putA l = none
  rw [onA_ne _ h2, onA_ne _ h1]
  unfold mvA
  rw [if_neg h.nb2, if_pos (List.prefix_refl _)]
theorem Mv.back_room (h : Mv s l m y) (hr : Room s.a) (hne : m.dropLast ≠ l.dropLast) : wantA ((moveS s l m).a l.dropLast) = 0 := by
  obtain ⟨d, h1, h2, h3⟩ := h.wf.pre h.at1 (last_pre h.l0).1 (last_pre h.l0).2
  have h4 : ¬ m <+: l.dropLast := fun hp => h.nb2 (hp.trans (last_pre h.l0).1)
  have h5 : ¬ l <+: l.dropLast := fun hp => by
    have := hp.length_le
    rw [List.length_dropLast] at this
    have := List.length_pos_iff.2 h.l0
    omega
  have e : (moveS s l m).a l.dropLast = some (takeA d) := by
    rw [h.eq]
    show onA (onA (mvA s.a l m) l.dropLast takeA) m.dropLast putA l.dropLast = _
    rw [onA_ne _ (fun e => hne e.symm)]
    unfold onA
    rw [if_pos rfl]
    unfold mvA
    rw [if_neg h4, if_neg h5, h1]; rfl
  rw [e]
  have := hr _ d h1 h2
  unfold wantA growsA takeA
  dsimp only
  rw [if_pos (by omega)]
theorem mv_kd (a : Path → Option N) (f t r : Path) : (mvA a f t r).map kdN = if t <+: r then (a (f ++ r.drop t.length)).map kdN else if f <+: r then Option.none else (a r).map kdN := by
  unfold mvA
  split
  · rfl
  · split <;> rfl
theorem Mv.same (h : Mv s l m y) (h2 : Mv (moveS s l m) m l y) : SA (moveS (moveS s l m) m l).a s.a := by
  have hk : ∀ r, ((moveS s l m).a r).map kdN = (mvA s.a l m r).map kdN := fun r => by
    rw [h.eq]
    show (onA (onA (mvA s.a l m) l.dropLast takeA) m.dropLast putA r).map kdN = _
    rw [onA_kd _ _ putA (fun _ => rfl), onA_kd _ _ takeA (fun _ => rfl)]
  intro r
  rw [h2.eq]
  show (onA (onA (mvA (moveS s l m).a m l) m.dropLast takeA) l.dropLast putA r).map kdN = _
  rw [onA_kd _ _ putA (fun _ => rfl), onA_kd _ _ takeA (fun _ => rfl), mv_kd]
  by_cases c1 : l <+: r
  · rw [if_pos c1, hk, mv_kd]
    obtain ⟨u, rfl⟩ := c1
    rw [List.drop_left, if_pos (List.prefix_append _ _), List.drop_left]
  · rw [if_neg c1]
    by_cases c2 : m <+: r
    · rw [if_pos c2, h.wf.none h.at2 c2]; rfl
    · rw [if_neg c2, hk, mv_kd, if_neg c2, if_neg c1]
end
theorem moves_law (s : S) (hw : WfA s.a) (hr : Room s.a) (pa pb : ByteArray) (E1 : doE s (oRen pa pb) = 0) (Eb : (lkA s.a pb).2 ≠ 0) (hw1 : WfA (doS s (oRen pa pb)).a) :
    ∃ y, lkA s.a pa = (some y, 0) ∧ lkA (doS s (oRen pa pb)).a pb = (some y, 0) ∧ lkA (doS s (oRen pa pb)).a pa = (none, 8) ∧ ¬ SA (doS s (oRen pa pb)).a s.a ∧ doE (doS s (oRen pa pb)) (oRen pb pa) = 0 ∧ SA (doS (doS s (oRen pa pb)) (oRen pb pa)).a s.a := by
  rw [doS_ren s pa pb E1] at hw1 ⊢
  rw [doE_ren] at E1
  obtain ⟨l, hl⟩ : ∃ l, (splitP pa).1 = l := ⟨_, rfl⟩
  obtain ⟨m, hm⟩ : ∃ m, (splitP pb).1 = m := ⟨_, rfl⟩
  rw [hl, hm] at E1 hw1 ⊢
  by_cases ec1 : (splitP pa).2 ≠ 0
  · rw [if_pos ec1] at E1; exact absurd E1 ec1
  have c1 : (splitP pa).2 = 0 := by simpa using ec1
  rw [if_neg ec1] at E1
  by_cases ec2 : (splitP pb).2 ≠ 0
  · rw [if_pos ec2] at E1; exact absurd E1 ec2
  have c2 : (splitP pb).2 = 0 := by simpa using ec2
  rw [if_neg ec2] at E1
  by_cases ec3 : wayA s.a [] l ≠ 0
  · rw [if_pos ec3] at E1; exact absurd E1 ec3
  have c3 : wayA s.a [] l = 0 := by simpa using ec3
  rw [if_neg ec3] at E1
  unfold moveE at E1
  cases hy : s.a l with
  | none => rw [hy] at E1; simp at E1
  | some y =>
    rw [hy] at E1
    dsimp only at E1
    by_cases c4 : l = [] ∨ m = []
    · rw [if_pos c4] at E1; simp at E1
    rw [if_neg c4] at E1
    by_cases ec5 : wayA s.a [] m ≠ 0
    · rw [if_pos ec5] at E1; exact absurd E1 ec5
    have c5 : wayA s.a [] m = 0 := by simpa using ec5
    rw [if_neg ec5] at E1
    by_cases c6 : l <+: m ∧ l ≠ m
    · rw [if_pos c6] at E1; simp at E1
    rw [if_neg c6] at E1
    have lk_at : ∀ (a : Path → Option N) (p : ByteArray) (n : N), (splitP p).2 = 0 → wayA a [] (splitP p).1 = 0 → a (splitP p).1 = some n → lkA a p = (some n, 0) := by
      intro a p n h1 h2 h3
      unfold lkA
      rw [if_neg (by simpa using h1), if_neg (by simpa using h2), h3]
    have hnone : s.a m = none := by
      cases hx : s.a m with
      | none => rfl
      | some x => exact absurd (by rw [lk_at s.a pb x c2 (by rw [hm]; exact c5) (by rw [hm]; exact hx)]) Eb
    have hne : l ≠ m := by
      rintro rfl
      rw [hy] at hnone; cases hnone
    have l0 : l ≠ [] := fun e => c4 (.inl e)
    have m0 : m ≠ [] := fun e => c4 (.inr e)
    have upm := (wayA_iff s.a m []).1 c5 m.dropLast (last_pre m0).1 (last_pre m0).2
    rw [List.nil_append] at upm
    have M : Mv s l m y := ⟨hw, hy, hnone, l0, m0, upm, fun h => c6 ⟨h, hne⟩⟩
    have upl := M.frontL (last_pre l0).1 (last_pre l0).2
    have M2 : Mv (moveS s l m) m l y := ⟨hw1, M.atM, M.atL, m0, l0, upl, M.nb2⟩
    have w1 : wayA (moveS s l m).a [] m = 0 := (wayA_iff _ _ _).2 fun q h1 h2 => by rw [List.nil_append]; exact M.frontM h1 h2
    have w2 : wayA (moveS s l m).a [] l = 0 := (wayA_iff _ _ _).2 fun q h1 h2 => by rw [List.nil_append]; exact M.frontL h1 h2
    have E2 : doE (moveS s l m) (oRen pb pa) = 0 := by
      rw [doE_ren, if_neg (by simpa using c2), if_neg (by simpa using c1), hm, hl, if_neg (by simpa using w1)]
      unfold moveE
      rw [M.atM]
      dsimp only
      rw [if_neg (fun h => c4 h.symm), if_neg (by simpa using w2), if_neg (fun h => M.nb2 h.1), if_neg (fun e => hne e.symm), M.atL]
      dsimp only
      rw [if_neg]
      rintro ⟨h1, h2⟩
      rw [M.back_room hr h1] at h2
      omega
    refine ⟨y, lk_at _ _ _ c1 (by rw [hl]; exact c3) (by rw [hl]; exact hy), lk_at _ _ _ c2 (by rw [hm]; exact w1) (by rw [hm]; exact M.atM), ?_, fun h => ?_, E2, ?_⟩
    · unfold lkA
      rw [if_neg (by simpa using c1), hl, if_neg (by simpa using w2), M.atL]
    · have := h l
      rw [M.atL, hy] at this
      cases this
    · rw [doS_ren _ _ _ E2, hm, hl]
      exact M.same M2
end Go.Proofs.YtpdcjdangnfeiaaDoor.Wj
