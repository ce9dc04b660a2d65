/- A tree's twin: the list of its nodes, put together name by name. No program in sight. Two trees in memory, apart from each other: what Do, Same make of them. All paths of a tree, name by name; their texts; how many there are. No program in sight. -/
import Derived.Test.YtpdcjdangnfeiaaGreatDoorZn
section
open Go Go.Maps Go.RowKit Go.Proofs.YtpdcjdangnfeiaaGreatDoor.Pb Go.Proofs.YtpdcjdangnfeiaaGreatDoor.PPth Go.Proofs.YtpdcjdangnfeiaaGreatDoorW.PrintWords Go.Proofs.YtpdcjdangnfeiaaGreatDoorW.PrintLast Go.Proofs.YtpdcjdangnfeiaaGreatDoorW.PrintMore Go.Proofs.YtpdcjdangnfeiaaGreatDoor.Ta Go.Proofs.YtpdcjdangnfeiaaGreatDoor.Tb Go.Proofs.YtpdcjdangnfeiaaGreatDoor.Tc Go.Proofs.YtpdcjdangnfeiaaGreatDoor.Te Go.Proofs.YtpdcjdangnfeiaaGreatDoor.Tf Go.Proofs.YtpdcjdangnfeiaaGreatDoor.Qa Go.Proofs.YtpdcjdangnfeiaaGreatDoor.Qb Go.Proofs.YtpdcjdangnfeiaaGreatDoor.Qc Go.Proofs.YtpdcjdangnfeiaaGreatDoor.Qd Go.Proofs.YtpdcjdangnfeiaaGreatDoor.Qe Go.Proofs.YtpdcjdangnfeiaaGreatDoor.Qf Go.Proofs.YtpdcjdangnfeiaaGreatDoor.Ua Go.Proofs.YtpdcjdangnfeiaaGreatDoor.Ub Go.Proofs.YtpdcjdangnfeiaaGreatDoor.Uc Go.Proofs.YtpdcjdangnfeiaaGreatDoor.Ud Go.Proofs.YtpdcjdangnfeiaaGreatDoor.Ue Go.Proofs.YtpdcjdangnfeiaaGreatDoor.Uf Go.Proofs.YtpdcjdangnfeiaaGreatDoor.Ba Go.Proofs.YtpdcjdangnfeiaaGreatDoor.Ug Go.Proofs.YtpdcjdangnfeiaaGreatDoor.Uh Go.Proofs.YtpdcjdangnfeiaaGreatDoor.Ui Go.Proofs.YtpdcjdangnfeiaaGreatDoor.Uj Go.Proofs.YtpdcjdangnfeiaaGreatDoor.Uk Go.Proofs.YtpdcjdangnfeiaaGreatDoor.Ul Go.Proofs.YtpdcjdangnfeiaaGreatDoor.Um Go.Proofs.YtpdcjdangnfeiaaGreatDoor.Un Go.Proofs.YtpdcjdangnfeiaaGreatDoor.Uo Go.Proofs.YtpdcjdangnfeiaaGreatDoor.Up Go.Proofs.YtpdcjdangnfeiaaGreatDoor.Uq Go.Proofs.YtpdcjdangnfeiaaGreatDoor.Ur Go.Proofs.YtpdcjdangnfeiaaGreatDoor.Us Go.Proofs.YtpdcjdangnfeiaaGreatDoor.Ut Go.Proofs.YtpdcjdangnfeiaaGreatDoor.Uu Go.Proofs.YtpdcjdangnfeiaaGreatDoor.Uv Go.Proofs.YtpdcjdangnfeiaaGreatDoor.Uw Go.Proofs.YtpdcjdangnfeiaaGreatDoor.Ux Go.Proofs.YtpdcjdangnfeiaaGreatDoor.Uy Go.Proofs.YtpdcjdangnfeiaaGreatDoor.Uz Go.Proofs.YtpdcjdangnfeiaaGreatDoor.Va Go.Proofs.YtpdcjdangnfeiaaGreatDoor.Vb Go.Proofs.YtpdcjdangnfeiaaGreatDoor.Vc Go.Proofs.YtpdcjdangnfeiaaGreatDoor.Vd Go.Proofs.YtpdcjdangnfeiaaGreatDoor.Ve Go.Proofs.YtpdcjdangnfeiaaGreatDoor.Wa Go.Proofs.YtpdcjdangnfeiaaGreatDoor.Wb Go.Proofs.YtpdcjdangnfeiaaGreatDoor.Wc
namespace Go.Proofs.YtpdcjdangnfeiaaGreatDoor.Wd
def under (x : ByteArray) (fs : Es) : Es := fs.map fun e => (x :: e.1, e.2)
theorem under_snd (x : ByteArray) (fs : Es) : (under x fs).map (·.2) = fs.map (·.2) := by
  unfold under
  rw [List.map_map]; rfl
theorem gp_under (x : ByteArray) : ∀ (fs : Es) (r : Path), gp (under x fs) (x :: r) = gp fs r
  | [], _ => rfl
  | (q, s) :: fs, r => by
    have ih := gp_under x fs r
    show gp ((x :: q, s) :: under x fs) (x :: r) = _
    rw [gp_cons, gp_cons, ih]
    by_cases e : q = r
    · rw [if_pos e, if_pos (by rw [e])]
    · rw [if_neg e, if_neg (fun h => e (List.cons.inj h).2)]
theorem gp_under_ne {x y : ByteArray} (h : y ≠ x) : ∀ (fs : Es) (r : Path), gp (under x fs) (y :: r) = none
  | [], _ => rfl
  | (q, s) :: fs, r => by
    show gp ((x :: q, s) :: under x fs) (y :: r) = _
    rw [gp_cons, if_neg (fun e => h (List.cons.inj e).1.symm)]
    exact gp_under_ne h fs r
theorem gp_under_nil (x : ByteArray) : ∀ (fs : Es), gp (under x fs) [] = none
  | [] => rfl
  | (q, s) :: fs => by
    show gp ((x :: q, s) :: under x fs) [] = _
    rw [gp_cons, if_neg (by simp)]
    exact gp_under_nil x fs
theorem gp_app (a b : Es) (q : Path) : gp (a ++ b) q = (gp a q).or (gp b q) := by
  induction a with
  | nil => simp [gp]
  | cons e a ih =>
    obtain ⟨p, s⟩ := e
    rw [List.cons_append, gp_cons, gp_cons, ih]
    by_cases h : p = q
    · rw [if_pos h, if_pos h]; rfl
    · rw [if_neg h, if_neg h]
theorem Sto.append {w : World} {B : Nat} {σ τ : List Sh} (h : Sto Tryz.prog 85 9 w B σ) (k : Sto Tryz.prog 85 9 w B τ) (hd : ∀ s ∈ σ, ∀ t ∈ τ, ∀ b ∈ blks s, b ∉ blks t) : Sto Tryz.prog 85 9 w B (σ ++ τ) := by
  refine ⟨fun s hs => ?_, ?_⟩
  · rcases List.mem_append.1 hs with hs | hs
    · exact h.ok s hs
    · exact k.ok s hs
  · rw [List.flatMap_append, List.nodup_append]
    refine ⟨h.nd, k.nd, fun i hi j hj e => ?_⟩
    subst e
    obtain ⟨s, hs, hb⟩ := List.mem_flatMap.1 hi
    obtain ⟨t, ht, hb2⟩ := List.mem_flatMap.1 hj
    exact hd s hs t ht i hb hb2
theorem Sto.low {w : World} {B B' : Nat} {σ : List Sh} (h : Sto Tryz.prog 85 9 w B' σ) (hB : B ≤ B') : Sto Tryz.prog 85 9 w B σ := ⟨fun s hs => Ue.Ok.low (h.ok s hs) hB, h.nd⟩
/-- What a twin is. -/
structure Tw (w : World) (B nb : Nat) (es : Es) (p : Path) (fs : Es) : Prop where
  sto : Sto Tryz.prog 85 9 w B (fs.map (·.2))
  nd : Nd1 fs
  root : ∃ r, gp fs [] = some r ∧ r.nb = nb
  same : ∀ r, (gp fs r).map toN = (gp es (p ++ r)).map toN
  dr : ∀ q d, gp fs q = some d → d.dir = true → Dr d (fun x => (gp fs (q ++ [x])).map (·.nb))
  file : ∀ e ∈ fs, e.2.dir = false → e.2.D = .map []
/-- What is done of it. -/
structure Acc (es : Es) (p : Path) (D D' : DataW Nat) (left : Lit → Bool) (acc : Es) : Prop where
  nd : Nd1 acc
  nil : gp acc [] = none
  out : ∀ x, ¬ (has D (keyL x) = true ∧ left (keyL x) = false) → ∀ r, gp acc (x :: r) = none
  same : ∀ x, has D (keyL x) = true ∧ left (keyL x) = false → (∀ r, (gp acc (x :: r)).map toN = (gp es (p ++ x :: r)).map toN) ∧ kid D' x = (gp acc [x]).map (·.nb)
  dr : ∀ x q d, gp acc (x :: q) = some d → d.dir = true → Dr d (fun y => (gp acc (x :: (q ++ [y]))).map (·.nb))
  tidy : Tidy D'
  keys : ∀ x, has D' (keyL x) = has D (keyL x)
  full : ∀ x, has D' (keyL x) = (kid D' x).isSome
  size : size D' = size D
  file : ∀ e ∈ acc, e.2.dir = false → e.2.D = .map []
theorem Acc.start (es : Es) (p : Path) {d : Sh} {K : ByteArray → Option Nat} (h : Dr d K) : Acc es p d.D d.D (has d.D) [] := by
  have hno : ∀ x, ¬ (has d.D (keyL x) = true ∧ has d.D (keyL x) = false) := fun x h => by rw [h.1] at h; exact absurd h.2 (by simp)
  exact ⟨List.nodup_nil, rfl, fun _ _ _ => rfl, fun x hx => absurd hx (hno x), (fun x q d hd => by cases hd), h.tidy, fun _ => rfl, h.full, rfl, (fun e he => by cases he)⟩
theorem strike (left : Lit → Bool) (x y : ByteArray) : (left (keyL y) && !(keyL y).sameKey (keyL x)) = if y = x then false else left (keyL y) := by
  by_cases e : y = x
  · subst e
    rw [if_pos rfl, WideAt.sameKey_self (isKey y)]
    simp
  · rw [if_neg e]
    have : (keyL y).sameKey (keyL x) = false := by
      cases h : (keyL y).sameKey (keyL x)
      · rfl
      · exact absurd (keyL_inj.1 (WideAt.sameKey_eq h)) e
    rw [this]
    simp
theorem Acc.step {es : Es} {p : Path} {D D' : DataW Nat} {left : Lit → Bool} {acc : Es} (h : Acc es p D D' left acc) {w : World} {B nb : Nat} {x : ByteArray} {fs : Es} (hl : left (keyL x) = true) (hD : has D (keyL x) = true) (t : Tw w B nb es (p ++ [x]) fs) :
    Acc es p D (D'.put (keyL x) (ptrD (some nb))) (fun z => left z && !z.sameKey (keyL x)) (under x fs ++ acc) := by
  have hno : ¬ (has D (keyL x) = true ∧ left (keyL x) = false) := by rw [hl]; simp
  have hx : ∀ r, gp (under x fs ++ acc) (x :: r) = gp fs r := fun r => by rw [gp_app, gp_under, h.out x hno, Option.or_none]
  have hy : ∀ y, y ≠ x → ∀ r, gp (under x fs ++ acc) (y :: r) = gp acc (y :: r) := fun y e r => by rw [gp_app, gp_under_ne e, Option.none_or]
  have hlx : (left (keyL x) && !(keyL x).sameKey (keyL x)) = false := by rw [strike, if_pos rfl]
  have hly : ∀ y, y ≠ x → (left (keyL y) && !(keyL y).sameKey (keyL x)) = left (keyL y) := fun y e => by rw [strike, if_neg e]
  have hm : IsMap D' := h.tidy.isMap
  refine ⟨?_, ?_, fun y hn r => ?_, fun y hd => ?_, fun y q d hg hdir => ?_, h.tidy.put (isKey x) _, fun y => ?_, fun y => ?_, ?_, fun e he hf => ?_⟩
  · show ((under x fs ++ acc).map (·.1)).Nodup
    rw [List.map_append, List.nodup_append]
    refine ⟨?_, h.nd, ?_⟩
    · have e : (under x fs).map (·.1) = (fs.map (·.1)).map (fun q => x :: q) := by unfold under; rw [List.map_map, List.map_map]; rfl
      rw [e]
      refine List.pairwise_map.2 ((show (fs.map (·.1)).Pairwise _ from t.nd).imp ?_)
      intro a b hab e
      exact hab (List.cons.inj e).2
    · intro a ha b hb e
      subst e
      obtain ⟨e1, h1, rfl⟩ := List.mem_map.1 ha
      obtain ⟨e2, h2, rfl⟩ := List.mem_map.1 h1
      obtain ⟨⟨q, s⟩, h3, h4⟩ := List.mem_map.1 hb
      have h5 := mem_gp h.nd h3
      have h4 : q = x :: e2.1 := h4
      rw [h4, h.out x hno] at h5
      cases h5
  · rw [gp_app, gp_under_nil, h.nil]; rfl
  · by_cases e : y = x
    · subst e
      exact absurd ⟨hD, hlx⟩ hn
    · rw [hy y e]
      exact h.out y (fun hd => hn ⟨hd.1, (hly y e).trans hd.2⟩) r
  · by_cases e : y = x
    · subst e
      obtain ⟨r0, hr0, hnb⟩ := t.root
      refine ⟨fun r => ?_, ?_⟩
      · rw [hx, t.same, List.append_assoc, List.singleton_append]
      · rw [hx, hr0, kid_put_same hm, ← hnb]; rfl
    · have hd2 : has D (keyL y) = true ∧ left (keyL y) = false := ⟨hd.1, (hly y e).symm.trans hd.2⟩
      obtain ⟨a1, a2⟩ := h.same y hd2
      refine ⟨fun r => ?_, ?_⟩
      · rw [hy y e]; exact a1 r
      · rw [hy y e, kid_put_other e]; exact a2
  · by_cases e : y = x
    · subst e
      rw [hx] at hg
      exact (t.dr q d hg hdir).congr fun z => by rw [hx]
    · rw [hy y e] at hg
      exact (h.dr y q d hg hdir).congr fun z => by rw [hy y e]
  · by_cases e : y = x
    · subst e
      rw [has_put_same hm (isKey y), hD]
    · rw [has_put_other (fun h => e (keyL_inj.1 h)), h.keys]
  · by_cases e : y = x
    · subst e
      rw [has_put_same hm (isKey y), kid_put_same hm]; rfl
    · rw [has_put_other (fun h => e (keyL_inj.1 h)), kid_put_other e, h.full]
  · rw [size_put h.tidy, h.keys, hD, ← h.size]; rfl
  · rcases List.mem_append.1 he with he | he
    · obtain ⟨e2, h2, rfl⟩ := List.mem_map.1 he
      exact t.file e2 h2 hf
    · exact h.file e he hf
theorem Acc.done {es : Es} {p : Path} {D' : DataW Nat} {left : Lit → Bool} {acc : Es} {d r : Sh} (h : Acc es p d.D D' left acc) (hl : ∀ k, left k = false) (hw : WfF (gp es)) (hg : gp es p = some d) (hd : d.dir = true) (hr : r.dir = true ∧ r.data = d.data ∧ r.slots = d.slots ∧ r.D = D') {w : World} {B : Nat} (hs : Sto Tryz.prog 85 9 w B (r :: acc.map (·.2))) :
    Tw w B r.nb es p (([], r) :: acc) := by
  obtain ⟨r1, r2, r3, r4⟩ := hr
  have dr := hw.dr p d hg hd
  have hx : ∀ x q, gp ((([] : Path), r) :: acc) (x :: q) = gp acc (x :: q) := fun x q => by rw [gp_cons, if_neg (by simp)]
  have h0 : gp ((([] : Path), r) :: acc) [] = some r := by rw [gp_cons, if_pos rfl]
  have hdone : ∀ x, has d.D (keyL x) = true → has d.D (keyL x) = true ∧ left (keyL x) = false := fun x hx => ⟨hx, hl _⟩
  refine ⟨hs, ?_, ⟨r, h0, rfl⟩, fun q => ?_, fun q x hx2 hdir => ?_, fun e he hf => ?_⟩
  · show (([] : Path) :: acc.map (·.1)).Nodup
    rw [List.nodup_cons]
    refine ⟨fun hm => ?_, h.nd⟩
    obtain ⟨⟨q, s⟩, h3, h4⟩ := List.mem_map.1 hm
    have h4 : q = [] := h4
    subst h4
    have h5 := mem_gp h.nd h3
    rw [h.nil] at h5
    cases h5
  · cases q with
    | nil =>
      rw [h0, List.append_nil, hg]
      show some (toN r) = some (toN d)
      unfold toN
      rw [r1, r2, r3, r4, hd, h.size]
    | cons x q =>
      rw [hx]
      by_cases hh : has d.D (keyL x) = true
      · exact (h.same x (hdone x hh)).1 q
      · rw [h.out x (fun hn => hh hn.1)]
        have h1 : gp es (p ++ [x]) = none := by
          have e1 : has d.D (keyL x) = (gp es (p ++ [x])).isSome := by rw [dr.full, dr.kids]; cases gp es (p ++ [x]) <;> rfl
          rw [e1] at hh
          cases hq : gp es (p ++ [x]) <;> simp_all
        have h2 : gp es ((p ++ [x]) ++ q) = none := by
          by_cases hq : q = []
          · subst hq; rwa [List.append_nil]
          · exact hw.none_under (fun y => hw.none_below (fun d' hd' => by rw [h1] at hd'; cases hd') y) q hq
        rw [List.append_assoc, List.singleton_append] at h2
        rw [h2]
  · cases q with
    | nil =>
      rw [h0] at hx2
      obtain rfl := Option.some.inj hx2
      refine ⟨fun y => ?_, r2.trans dr.bare, fun y => by rw [r4]; exact h.full y, by rw [r4]; exact h.tidy⟩
      rw [List.nil_append, hx, r4]
      by_cases hh : has d.D (keyL y) = true
      · exact (h.same y (hdone y hh)).2
      · rw [h.out y (fun hn => hh hn.1)]
        have h1 := h.full y
        rw [h.keys] at h1
        cases hk : kid D' y with
        | none => rfl
        | some z => rw [hk] at h1; exact absurd h1 (by simpa using hh)
    | cons x' q =>
      rw [hx] at hx2
      exact (h.dr x' q x hx2 hdir).congr fun z => by rw [List.cons_append, hx]
  · rcases List.mem_cons.1 he with rfl | he
    · rw [r1] at hf; cases hf
    · exact h.file e he hf
/-- A file's twin. -/
theorem tw_file {es : Es} {p : Path} {d r : Sh} (hw : WfF (gp es)) (hg : gp es p = some d) (hd : d.dir = false) (hr : r.dir = false ∧ r.data = d.data ∧ r.slots = d.slots) (hD : r.D = .map []) {w : World} {B : Nat} (ho : Nd w B r) : Tw w B r.nb es p [([], r)] := by
  obtain ⟨r1, r2, r3⟩ := hr
  have h0 : gp [(([] : Path), r)] [] = some r := by rw [gp_cons, if_pos rfl]
  have hx : ∀ x q, gp [(([] : Path), r)] (x :: q) = none := fun x q => by rw [gp_cons, if_neg (by simp)]; rfl
  refine ⟨⟨fun s hs => ?_, ?_⟩, ?_, ⟨r, h0, rfl⟩, fun q => ?_, fun q x hx2 hdir => ?_, fun e he hf => ?_⟩
  · have : s = r := by simpa using hs
    rw [this]; exact ho
  · show ([r].flatMap blks).Nodup
    rw [List.flatMap_cons, List.flatMap_nil, List.append_nil]
    unfold blks
    rw [if_neg (by simp [r1])]
    simp
  · show ([([] : Path)]).Nodup
    simp
  · cases q with
    | nil =>
      rw [h0, List.append_nil, hg]
      show some (toN r) = some (toN d)
      unfold toN
      rw [r1, r2, r3, hd]; rfl
    | cons x q =>
      rw [hx, hw.none_under (fun y => hw.none_below (fun d' hd' => by rw [hg] at hd'; cases hd'; exact hd) y) (x :: q) (by simp)]
  · cases q with
    | nil =>
      rw [h0] at hx2
      obtain rfl := Option.some.inj hx2
      rw [r1] at hdir
      cases hdir
    | cons x' q => rw [hx] at hx2; cases hx2
  · have : e = ([], r) := by simpa using he
    rw [this]; exact hD
end Go.Proofs.YtpdcjdangnfeiaaGreatDoor.Wd
open Go.Proofs.YtpdcjdangnfeiaaGreatDoor.Wd
namespace Go.Proofs.YtpdcjdangnfeiaaGreatDoor.We
theorem st_other {w w' : World} {B tb n i m : Nat} {es : Es} {X : Nat → Prop} (h : St w B tb es n i m) (hf : Fr w w' X) (hX : ∀ b, X b → ¬ Bk tb es b) : St w' B tb es n i m := by
  obtain ⟨r, h1, h2⟩ := h.tre
  exact ⟨h.sto.fr hf (fun i hx s hs hb => hX i hx (.inr ⟨s, hs, hb⟩)), h.nd, h.wf, ⟨r, h1, Tre.keep h2 (hf.block tb (Tre.lt h2) (fun hx => hX tb hx (.inl rfl)))⟩, h.lim, h.num⟩
/-- Two trees, apart. -/
def At2 (w : World) (B1 t1 : Nat) (s1 : S) (m1 B2 t2 : Nat) (s2 : S) (m2 : Nat) (q : Int) : Prop :=
  0 < B1 ∧ 0 < B2 ∧ w.cell? ⟨0, 0, none⟩ = some (.int .i64 q) ∧ ∃ es1 n1 i1 es2 n2 i2, St w B1 t1 es1 n1 i1 m1 ∧ (⟨absE es1, n1, i1⟩ : S) = s1 ∧ St w B2 t2 es2 n2 i2 m2 ∧ (⟨absE es2, n2, i2⟩ : S) = s2 ∧ ∀ b, Bk t1 es1 b → ¬ Bk t2 es2 b
section
variable {w : World} {B1 t1 m1 B2 t2 m2 : Nat} {s1 s2 : S} {q : Int}
theorem At2.left (h : At2 w B1 t1 s1 m1 B2 t2 s2 m2 q) : At w B1 t1 q s1 m1 := by
  obtain ⟨p1, p2, hq, es1, n1, i1, es2, n2, i2, h1, e1, h2, e2, -⟩ := h
  exact ⟨p1, hq, es1, n1, i1, h1, e1⟩
theorem At2.symm (h : At2 w B1 t1 s1 m1 B2 t2 s2 m2 q) : At2 w B2 t2 s2 m2 B1 t1 s1 m1 q := by
  obtain ⟨p1, p2, hq, es1, n1, i1, es2, n2, i2, h1, e1, h2, e2, hd⟩ := h
  exact ⟨p2, p1, hq, es2, n2, i2, es1, n1, i1, h2, e2, h1, e1, fun b hb hb2 => hd b hb2 hb⟩
theorem At2.right (h : At2 w B1 t1 s1 m1 B2 t2 s2 m2 q) : At w B2 t2 q s2 m2 := h.symm.left
theorem At2.below {w' : World} (h : At2 w B1 t1 s1 m1 B2 t2 s2 m2 q) (hb : Below w.heap.size w w') : At2 w' B1 t1 s1 m1 B2 t2 s2 m2 q := by
  obtain ⟨p1, p2, hq, es1, n1, i1, es2, n2, i2, h1, e1, h2, e2, hd⟩ := h
  exact ⟨p1, p2, keepC hb hq, es1, n1, i1, es2, n2, i2, h1.below hb, e1, h2.below hb, e2, hd⟩
end
def kdN (n : N) : Bool × List UInt8 := (n.dir, n.data)
/-- Alike. -/
def SA (a1 a2 : Path → Option N) : Prop := ∀ r, (a1 r).map kdN = (a2 r).map kdN
theorem SB_SA (es1 es2 : Es) : SB (gp es1) (gp es2) [] ↔ SA (absE es1) (absE es2) := by
  have e : ∀ (es : Es) r, (absE es r).map kdN = (gp es r).map kd := fun es r => by
    unfold absE
    rw [Option.map_map]; rfl
  unfold SB SA
  constructor
  · intro h r
    rw [e, e]
    exact h r
  · intro h r
    have := h r
    rw [e, e] at this
    exact this
section
open Classical
variable {w : World} {B1 t1 m1 B2 t2 m2 : Nat} {s1 s2 : S} {q : Int}
set_option maxHeartbeats 1000000 in
set_option maxRecDepth 100000 in
/-- Same. -/
theorem same_at2 (h : At2 w B1 t1 s1 m1 B2 t2 s2 m2 q) : Calls Tryz.prog 13 #[.pointer (some ⟨t1, 0, none⟩), .pointer (some ⟨t2, 0, none⟩)] w fun e w' => e = .returned (.bool (decide (SA s1.a s2.a))) ∧ At2 w' B1 t1 s1 m1 B2 t2 s2 m2 q ∧ Below w.heap.size w w' := by
  have H := Lib.hid h
  obtain ⟨p1, p2, hq, es1, n1, i1, es2, n2, i2, h1, rfl, h2, rfl, hd⟩ := h
  obtain ⟨r1, g1, T1⟩ := h1.tre
  obtain ⟨r2, g2, T2⟩ := h2.tre
  obtain ⟨k, hk⟩ := exists_bound es1
  have hc : ∀ W, Below w.heap.size w W → Calls Tryz.prog 27 #[.pointer (some ⟨r1.nb, 0, none⟩), .pointer (some ⟨r2.nb, 0, none⟩)] W fun e w' => e = .returned (.bool (decide (SA (absE es1) (absE es2)))) ∧ Below W.heap.size W w' := by
    intro W hb
    refine (same_any h1.sto.nd h2.sto.nd h1.wf h2.wf k [] r1 r2 g1 g2 (fun q s h => by have := hk q s h; simpa using this) W (h1.sto.below hb) (h2.sto.below hb)).mono ?_
    rintro e w' ⟨rfl, hg⟩
    refine ⟨?_, grown_below hg⟩
    rw [decide_eq_decide.2 (SB_SA es1 es2)]
  have c1 : w.cell? ⟨t1, 0, none⟩ = some (.pointer (some ⟨r1.nb, 0, none⟩)) := blk_cell T1.2 0
  have c2 : w.cell? ⟨t2, 0, none⟩ = some (.pointer (some ⟨r2.nb, 0, none⟩)) := blk_cell T2.2 0
  have HC := Lib.hid hc
  dsimp only at H ⊢
  generalize decide (SA (absE es1) (absE es2)) = R at HC ⊢
  clear hc hq h1 h2 hd g1 g2 T1 T2 hk
  go_enter Tryz.func13, Tryz.ntmps13
  go_wp2_with fail
  have HS := Lib.hid (show ∀ W, Below w.heap.size w W → (fun W : World => W.cell? ⟨t1, 0, none⟩ = some (.pointer (some ⟨r1.nb, 0, none⟩)) ∧ W.cell? ⟨t2, 0, none⟩ = some (.pointer (some ⟨r2.nb, 0, none⟩))) W from fun W hb => ⟨keepC hb c1, keepC hb c2⟩)
  have HS0 := Lib.hid (kp0 (T := fun W : World => W.cell? ⟨t1, 0, none⟩ = some (.pointer (some ⟨r1.nb, 0, none⟩)) ∧ W.cell? ⟨t2, 0, none⟩ = some (.pointer (some ⟨r2.nb, 0, none⟩))) HS.out)
  go_region_held3 (fun W => Below w.heap.size w W ∧ W.cell? ⟨t1, 0, none⟩ = some (.pointer (some ⟨r1.nb, 0, none⟩)) ∧ W.cell? ⟨t2, 0, none⟩ = some (.pointer (some ⟨r2.nb, 0, none⟩))) (first | exact kpC (T := fun W : World => W.cell? ⟨t1, 0, none⟩ = some (.pointer (some ⟨r1.nb, 0, none⟩)) ∧ W.cell? ⟨t2, 0, none⟩ = some (.pointer (some ⟨r2.nb, 0, none⟩))) hb (by assumption) HS.out | exact kp1 (T := fun W : World => W.cell? ⟨t1, 0, none⟩ = some (.pointer (some ⟨r1.nb, 0, none⟩)) ∧ W.cell? ⟨t2, 0, none⟩ = some (.pointer (some ⟨r2.nb, 0, none⟩))) HS0.out HS.out | exact HS0.out | fail) (first | (go_at_call 27; refine (HC.out _ (And.left (by assumption))).mono ?_; rintro e w1 ⟨rfl, hb⟩) | fail)
  have hs : Below w.heap.size w w1 := And.left (by assumption)
  have HB := Lib.hid hs
  clear hs
  go_wp2
  go_ret
  exact ⟨rfl, H.out.below HB.out, HB.out⟩
theorem same_true (h : At2 w B1 t1 s1 m1 B2 t2 s2 m2 q) (hs : SA s1.a s2.a) : Calls Tryz.prog 13 #[.pointer (some ⟨t1, 0, none⟩), .pointer (some ⟨t2, 0, none⟩)] w fun e w' => e = .returned (.bool true) ∧ At2 w' B1 t1 s1 m1 B2 t2 s2 m2 q ∧ Below w.heap.size w w' := by
  have := same_at2 h
  rwa [decide_eq_true hs] at this
end
end Go.Proofs.YtpdcjdangnfeiaaGreatDoor.We
open Go.Proofs.YtpdcjdangnfeiaaGreatDoor.We
namespace Go.Proofs.YtpdcjdangnfeiaaGreatDoor.Wm
open Go.Sort
/-- A directory's names, rising. -/
def names (s : Sh) : List ByteArray := (namesL s).map Qa.tb
theorem own_strs {w : World} {b n : Nat} {D : DataW Nat} (h : w.ownsMap Tryz.prog 9 ptrR b n D) : (strKeys D).Nodup ∧ ∀ l, l ∈ strKeys D ↔ has D (.string l) = true := by
  have hk := own_keys h
  obtain ⟨es, rfl, hp, hi⟩ := h.entries law9
  have hmh := fun k => mem_has (k := k) hi
  have hkey : ∀ p ∈ es, ∃ s, p.1 = keyL s := fun p hp2 => hk p.1 ((hmh p.1).2 (List.mem_map.2 ⟨p, hp2, rfl⟩))
  have e : strKeys (.map es : DataW Nat) = es.map fun p => strOf p.1 := rfl
  rw [e]
  constructor
  · refine List.pairwise_map.2 (hp.imp_of_mem ?_)
    intro a b ha hb hab e2
    obtain ⟨x, hx⟩ := hkey a ha
    obtain ⟨y, hy⟩ := hkey b hb
    rw [hx, hy] at hab e2
    have : x.data.toList = y.data.toList := e2
    exact hab (by unfold keyL; rw [this])
  · intro l
    rw [hmh]
    constructor
    · intro hl
      obtain ⟨p, hp2, rfl⟩ := List.mem_map.1 hl
      obtain ⟨x, hx⟩ := hkey p hp2
      exact List.mem_map.2 ⟨p, hp2, by rw [hx]; rfl⟩
    · intro hl
      obtain ⟨p, hp2, hpe⟩ := List.mem_map.1 hl
      exact List.mem_map.2 ⟨p, hp2, by rw [hpe]; rfl⟩
theorem tb_data (l : List UInt8) : (Qa.tb l).data.toList = l := by unfold Qa.tb; simp
theorem names_facts {w : World} {B : Nat} {s : Sh} (h : Nd w B s) (hd : s.dir = true) : (names s).Nodup ∧ (∀ x, x ∈ names s ↔ has s.D (keyL x) = true) ∧ (namesL s).Pairwise (· < ·) := by
  obtain ⟨h1, h2⟩ := own_strs (h.kids hd).2
  have hperm : (namesL s).Perm (strKeys s.D) := List.mergeSort_perm _ _
  have hnd : (namesL s).Nodup := hperm.nodup_iff.2 h1
  refine ⟨?_, fun x => ?_, ?_⟩
  · refine List.pairwise_map.2 (hnd.imp ?_)
    intro a b hab e
    have := congrArg (fun z : ByteArray => z.data.toList) e
    simp only [tb_data] at this
    exact hab this
  · unfold names
    rw [List.mem_map]
    constructor
    · rintro ⟨l, hl, rfl⟩
      have := (h2 l).1 (hperm.mem_iff.1 hl)
      unfold keyL
      rw [tb_data]; exact this
    · intro hx
      exact ⟨x.data.toList, hperm.mem_iff.2 ((h2 _).2 hx), by cases x; rfl⟩
  · have hle : (namesL s).Pairwise (fun a b => leB a b = true) := List.pairwise_mergeSort (fun a b c h1 h2 => by simp only [leB, decide_eq_true_eq] at *; exact List.le_trans h1 h2) (fun a b => by simp only [leB, Bool.or_eq_true, decide_eq_true_eq]; exact List.le_total a b) _
    refine (hle.and hnd).imp ?_
    rintro a b ⟨h3, h4⟩
    simp only [leB, decide_eq_true_eq] at h3
    by_cases h5 : a < b
    · exact h5
    · exact absurd (List.le_antisymm h3 (List.not_lt.1 h5)) h4
/-- A path's text, as Walk makes it. -/
def tx (p : Path) : ByteArray := p.foldl (fun t x => t ++ ⟨#[47]⟩ ++ x) ByteArray.empty
theorem tx_snoc (p : Path) (x : ByteArray) : tx (p ++ [x]) = tx p ++ ⟨#[47]⟩ ++ x := by
  unfold tx
  rw [List.foldl_append]; rfl
theorem tx_data (p : Path) (x : ByteArray) : (tx (p ++ [x])).data.toList = (tx p).data.toList ++ 47 :: x.data.toList := by
  rw [tx_snoc, ByteArray.toList_data_append, ByteArray.toList_data_append, List.append_assoc]; rfl
theorem stroke_inj {l m x y : List UInt8} (hx : (47 : UInt8) ∉ x) (hy : (47 : UInt8) ∉ y) (h : l ++ 47 :: x = m ++ 47 :: y) : l = m ∧ x = y := by
  rcases List.append_eq_append_iff.1 h with ⟨u, rfl, h2⟩ | ⟨u, rfl, h2⟩
  · cases u with
    | nil => simp at h2; exact ⟨by simp, h2⟩
    | cons c u =>
      rw [List.cons_append] at h2
      obtain ⟨-, h3⟩ := List.cons.inj h2
      exact absurd (by rw [h3]; simp) hx
  · cases u with
    | nil => simp at h2; exact ⟨by simp, h2.symm⟩
    | cons c u =>
      rw [List.cons_append] at h2
      obtain ⟨-, h3⟩ := List.cons.inj h2
      exact absurd (by rw [h3]; simp) hy
theorem ba_ext {a b : ByteArray} (h : a.data.toList = b.data.toList) : a = b := by
  cases a with | mk a => cases b with | mk b =>
  simp at h
  rw [h]
def NoSt (p : Path) : Prop := ∀ x ∈ p, (47 : UInt8) ∉ x.data.toList
theorem tx_inj : ∀ (n : Nat) (p q : Path), p.length ≤ n → NoSt p → NoSt q → tx p = tx q → p = q := by
  intro n
  induction n with
  | zero =>
    intro p q hn _ _ h
    have : p = [] := List.length_eq_zero_iff.1 (by omega)
    subst this
    by_cases hq : q = []
    · exact hq.symm
    · obtain ⟨q', y, rfl⟩ : ∃ q' y, q = q' ++ [y] := ⟨q.dropLast, q.getLast hq, (List.dropLast_concat_getLast hq).symm⟩
      have := congrArg (fun z : ByteArray => z.data.toList) h
      simp only [tx_data] at this
      exact absurd this.symm (by simp [tx])
  | succ n ih =>
    intro p q hn hp hq h
    by_cases hp0 : p = []
    · subst hp0; exact ih [] q (by simp) hp hq h
    obtain ⟨p', x, rfl⟩ : ∃ p' x, p = p' ++ [x] := ⟨p.dropLast, p.getLast hp0, (List.dropLast_concat_getLast hp0).symm⟩
    by_cases hq0 : q = []
    · subst hq0
      have := congrArg (fun z : ByteArray => z.data.toList) h
      simp only [tx_data] at this
      exact absurd this (by simp [tx])
    obtain ⟨q', y, rfl⟩ : ∃ q' y, q = q' ++ [y] := ⟨q.dropLast, q.getLast hq0, (List.dropLast_concat_getLast hq0).symm⟩
    have h1 := congrArg (fun z : ByteArray => z.data.toList) h
    simp only [tx_data] at h1
    obtain ⟨h2, h3⟩ := stroke_inj (hp x (by simp)) (hq y (by simp)) h1
    rw [ih p' q' (by simp at hn; omega) (fun z hz => hp z (by simp [hz])) (fun z hz => hq z (by simp [hz])) (ba_ext h2), ba_ext h3]
theorem tx_ne {p : Path} (h : p ≠ []) : tx p ≠ ByteArray.empty := by
  intro e
  obtain ⟨q', y, rfl⟩ : ∃ q' y, p = q' ++ [y] := ⟨p.dropLast, p.getLast h, (List.dropLast_concat_getLast h).symm⟩
  have := congrArg (fun z : ByteArray => z.data.toList) e
  simp only [tx_data] at this
  have h2 := congrArg List.length this
  rw [List.length_append, List.length_cons] at h2
  have h3 : ByteArray.empty.data.toList.length = 0 := rfl
  omega
/-- All paths below one, as Walk goes. -/
def paths (a : Uc.Fn) : Nat → Path → List Path
  | 0, _ => []
  | k + 1, p => match a p with
    | none => []
    | some s => if s.dir then (names s).flatMap (fun x => (p ++ [x]) :: paths a k (p ++ [x])) else []
/-- The names are those that are there. -/
def NmOk (a : Uc.Fn) : Prop := ∀ p s, a p = some s → s.dir = true → (names s).Nodup ∧ ∀ x, x ∈ names s ↔ (a (p ++ [x])).isSome = true
theorem St.nmOk {w : World} {B tb n i m : Nat} {es : Es} (h : St w B tb es n i m) : NmOk (gp es) := by
  intro p s hs hd
  obtain ⟨h1, h2, -⟩ := names_facts (h.ok hs) hd
  refine ⟨h1, fun x => ?_⟩
  have dr := h.wf.dr p s hs hd
  rw [h2, dr.full, dr.kids]
  cases gp es (p ++ [x]) <;> simp
theorem paths_below {a : Uc.Fn} (hn : NmOk a) : ∀ (k : Nat) (p q : Path), q ∈ paths a k p → ∃ r, r ≠ [] ∧ q = p ++ r ∧ (a q).isSome = true := by
  intro k
  induction k with
  | zero => intro p q h; cases h
  | succ k ih =>
    intro p q h
    unfold paths at h
    cases hs : a p with
    | none => rw [hs] at h; cases h
    | some s =>
      rw [hs] at h
      dsimp only at h
      by_cases hd : s.dir = true
      · rw [if_pos hd] at h
        obtain ⟨x, hx, hq⟩ := List.mem_flatMap.1 h
        have h1 := ((hn p s hs hd).2 x).1 hx
        rcases List.mem_cons.1 hq with rfl | hq
        · exact ⟨[x], by simp, rfl, h1⟩
        · obtain ⟨r, -, rfl, h3⟩ := ih _ _ hq
          exact ⟨x :: r, by simp, by simp, h3⟩
      · rw [if_neg hd] at h; cases h
theorem paths_mem {a : Uc.Fn} (hw : WfF a) (hn : NmOk a) : ∀ (k : Nat) (p r : Path), (∀ q, (a q).isSome = true → q.length ≤ p.length + k) → r ≠ [] → (a (p ++ r)).isSome = true → p ++ r ∈ paths a k p := by
  intro k
  induction k with
  | zero =>
    intro p r hk hr h
    have := hk _ h
    rw [List.length_append] at this
    have := List.length_pos_iff.2 hr
    omega
  | succ k ih =>
    intro p r hk hr h
    obtain ⟨x, r', rfl⟩ := List.exists_cons_of_ne_nil hr
    have e : p ++ x :: r' = (p ++ [x]) ++ r' := by simp
    rw [e] at h ⊢
    have hx : (a (p ++ [x])).isSome = true := by
      cases hc : a (p ++ [x]) with
      | some s => rfl
      | none =>
        by_cases h0 : r' = []
        · subst h0; rw [List.append_nil, hc] at h; exact h
        · rw [hw.none_under (fun y => hw.none_below (fun d hd => by rw [hc] at hd; cases hd) y) r' h0] at h; cases h
    obtain ⟨t, ht⟩ := Option.isSome_iff_exists.1 hx
    obtain ⟨s, hs, hd⟩ := hw.par p x t ht
    unfold paths
    rw [hs]
    dsimp only
    rw [if_pos hd]
    refine List.mem_flatMap.2 ⟨x, ((hn p s hs hd).2 x).2 hx, ?_⟩
    by_cases h0 : r' = []
    · subst h0; rw [List.append_nil]; exact List.mem_cons_self
    · exact List.mem_cons_of_mem _ (ih (p ++ [x]) r' (fun q hq => by have := hk q hq; rw [List.length_append, List.length_singleton]; omega) h0 h)
theorem paths_nodup {a : Uc.Fn} (hn : NmOk a) : ∀ (k : Nat) (p : Path), (paths a k p).Nodup := by
  intro k
  induction k with
  | zero => intro p; exact List.nodup_nil
  | succ k ih =>
    intro p
    unfold paths
    cases hs : a p with
    | none => exact List.nodup_nil
    | some s =>
      dsimp only
      by_cases hd : s.dir = true
      · rw [if_pos hd]
        refine List.pairwise_flatMap.2 ⟨fun x _ => ?_, ((hn p s hs hd).1).imp ?_⟩
        · refine List.nodup_cons.2 ⟨fun hm => ?_, ih _⟩
          obtain ⟨r, hr, he, -⟩ := paths_below hn _ _ _ hm
          exact hr (by simpa using he.symm)
        · intro x y hxy q1 h1 q2 h2 e
          have key : ∀ (z : ByteArray) (q : Path), q ∈ (p ++ [z]) :: paths a k (p ++ [z]) → ∃ r, q = p ++ z :: r := by
            intro z q hq
            rcases List.mem_cons.1 hq with rfl | hq
            · exact ⟨[], rfl⟩
            · obtain ⟨r, -, rfl, -⟩ := paths_below hn _ _ _ hq
              exact ⟨r, by simp⟩
          obtain ⟨r1, e1⟩ := key x q1 h1
          obtain ⟨r2, e2⟩ := key y q2 h2
          rw [e1, e2] at e
          exact hxy (List.cons.inj (List.append_cancel_left e)).1
      · rw [if_neg hd]; exact List.nodup_nil
/-- How many paths there are. -/
theorem paths_len {w : World} {B tb n i m : Nat} {es : Es} (h : St w B tb es n i m) {k : Nat} (hk : ∀ q s, gp es q = some s → q.length ≤ k) : (paths (gp es) k []).length + 1 = es.length := by
  have hn := St.nmOk h
  have h1 : ([] :: paths (gp es) k []).Nodup := by
    refine List.nodup_cons.2 ⟨fun hm => ?_, paths_nodup hn _ _⟩
    obtain ⟨r, hr, he, -⟩ := paths_below hn _ _ _ hm
    exact hr (by simpa using he.symm)
  have h2 : (es.map (·.1)).Nodup := h.nd
  have e1 : ∀ q, q ∈ ([] :: paths (gp es) k []) ↔ q ∈ es.map (·.1) := by
    intro q
    have hes : q ∈ es.map (·.1) ↔ (gp es q).isSome = true := by
      constructor
      · intro hq
        obtain ⟨e, he, rfl⟩ := List.mem_map.1 hq
        rw [mem_gp h.nd he]; rfl
      · intro hq
        obtain ⟨s, hs⟩ := Option.isSome_iff_exists.1 hq
        exact List.mem_map.2 ⟨(q, s), gp_mem hs, rfl⟩
    rw [hes]
    constructor
    · intro hq
      rcases List.mem_cons.1 hq with rfl | hq
      · obtain ⟨r, hr, -⟩ := h.wf.root
        rw [hr]; rfl
      · obtain ⟨r, -, -, h3⟩ := paths_below hn _ _ _ hq
        exact h3
    · intro hq
      by_cases h0 : q = []
      · subst h0; exact List.mem_cons_self
      · refine List.mem_cons_of_mem _ ?_
        have := paths_mem h.wf hn k [] q (fun q hq => by obtain ⟨s, hs⟩ := Option.isSome_iff_exists.1 hq; have := hk q s hs; simpa using this) h0 (by simpa using hq)
        simpa using this
  have l1 := len_le _ _ h1 fun x hx => (e1 x).1 hx
  have l2 := len_le _ _ h2 fun x hx => (e1 x).2 hx
  rw [List.length_map] at l1 l2
  rw [List.length_cons] at l1 l2
  omega
/-- What Walk tells of a path. -/
abbrev Row := ByteArray × N
def rowOf (a : Uc.Fn) (q : Path) : Row := (tx q, ((a q).map toN).getD ⟨false, [], 0, 0⟩)
def rows (a : Uc.Fn) (k : Nat) (p : Path) : List Row := (paths a k p).map (rowOf a)
def lastT (l : List Row) : ByteArray := match l.getLast? with
  | none => ByteArray.empty
  | some x => x.1
theorem lastT_snoc (l : List Row) (x : Row) : lastT (l ++ [x]) = x.1 := by unfold lastT; rw [List.getLast?_concat]
/-- No text comes behind itself. -/
theorem rows_apart {a : Uc.Fn} (hw : WfF a) (hn : NmOk a) (k : Nat) {pre : List Row} {x : Row} (h : pre ++ [x] <+: rows a k []) : x.1 ≠ lastT pre := by
  have hnst : ∀ q, q ∈ paths a k [] → NoSt q := by
    intro q hq x hx
    obtain ⟨r, -, -, h3⟩ := paths_below hn _ _ _ hq
    obtain ⟨s, hs⟩ := Option.isSome_iff_exists.1 h3
    intro h47
    exact noStroke (hw.nm q s hs x hx) 47 h47 rfl
  have hnd : ((rows a k []).map (·.1)).Nodup := by
    unfold rows
    rw [List.map_map]
    refine List.pairwise_map.2 ((paths_nodup hn k []).imp_of_mem ?_)
    intro q1 q2 h1 h2 hne e
    exact hne (tx_inj _ q1 q2 (Nat.le_refl _) (hnst q1 h1) (hnst q2 h2) e)
  have hmem : x ∈ rows a k [] := h.subset (by simp)
  obtain ⟨q, hq, hqx⟩ := List.mem_map.1 hmem
  intro e
  by_cases h0 : pre = []
  · subst h0
    have : x.1 = ByteArray.empty := e
    rw [← hqx] at this
    obtain ⟨r, hr, he, -⟩ := paths_below hn _ _ _ hq
    exact tx_ne (p := q) (by rw [he]; simpa using hr) this
  · obtain ⟨pre', y, rfl⟩ : ∃ p' y, pre = p' ++ [y] := ⟨pre.dropLast, pre.getLast h0, (List.dropLast_concat_getLast h0).symm⟩
    rw [lastT_snoc] at e
    obtain ⟨t, ht⟩ := h
    rw [← ht] at hnd
    simp only [List.map_append, List.map_cons, List.map_nil, List.append_assoc] at hnd
    rw [List.nodup_append] at hnd
    have h2 := hnd.2.1
    simp [e] at h2
theorem rows_dir {a : Uc.Fn} {k : Nat} {p : Path} {s : Sh} (hs : a p = some s) (hd : s.dir = true) : rows a (k + 1) p = (names s).flatMap (fun x => rowOf a (p ++ [x]) :: rows a k (p ++ [x])) := by
  unfold rows
  rw [show paths a (k + 1) p = (names s).flatMap (fun x => (p ++ [x]) :: paths a k (p ++ [x])) by
    conv => lhs; unfold paths
    rw [hs]
    dsimp only
    rw [if_pos hd]]
  rw [List.map_flatMap]
  rfl
theorem rows_file {a : Uc.Fn} {k : Nat} {p : Path} {s : Sh} (hs : a p = some s) (hd : s.dir = false) : rows a k p = [] := by
  unfold rows
  cases k with
  | zero => rfl
  | succ k =>
    unfold paths
    rw [hs]
    dsimp only
    rw [if_neg (by simp [hd])]; rfl
end Go.Proofs.YtpdcjdangnfeiaaGreatDoor.Wm
end
