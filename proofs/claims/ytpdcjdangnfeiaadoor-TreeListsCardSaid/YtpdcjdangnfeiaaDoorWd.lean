/- A tree's twin: the list of its nodes, put together name by name. No program in sight. -/
import Derived.Test.YtpdcjdangnfeiaaDoorWc

namespace Go.Proofs.YtpdcjdangnfeiaaDoor.Wd
open Go Go.Maps Go.RowKit Go.Proofs.YtpdcjdangnfeiaaDoor.Pb Go.Proofs.YtpdcjdangnfeiaaDoor.PPth Go.Proofs.YtpdcjdangnfeiaaDoorW.PrintWords Go.Proofs.YtpdcjdangnfeiaaDoorW.PrintLast Go.Proofs.YtpdcjdangnfeiaaDoorW.PrintMore Go.Proofs.YtpdcjdangnfeiaaDoor.Ta Go.Proofs.YtpdcjdangnfeiaaDoor.Tb Go.Proofs.YtpdcjdangnfeiaaDoor.Tc Go.Proofs.YtpdcjdangnfeiaaDoor.Te Go.Proofs.YtpdcjdangnfeiaaDoor.Tf Go.Proofs.YtpdcjdangnfeiaaDoor.Qa Go.Proofs.YtpdcjdangnfeiaaDoor.Qb Go.Proofs.YtpdcjdangnfeiaaDoor.Qc Go.Proofs.YtpdcjdangnfeiaaDoor.Qd Go.Proofs.YtpdcjdangnfeiaaDoor.Qe Go.Proofs.YtpdcjdangnfeiaaDoor.Qf Go.Proofs.YtpdcjdangnfeiaaDoor.Ua Go.Proofs.YtpdcjdangnfeiaaDoor.Ub Go.Proofs.YtpdcjdangnfeiaaDoor.Uc Go.Proofs.YtpdcjdangnfeiaaDoor.Ud Go.Proofs.YtpdcjdangnfeiaaDoor.Ue Go.Proofs.YtpdcjdangnfeiaaDoor.Uf Go.Proofs.YtpdcjdangnfeiaaDoor.Ba Go.Proofs.YtpdcjdangnfeiaaDoor.Ug Go.Proofs.YtpdcjdangnfeiaaDoor.Uh Go.Proofs.YtpdcjdangnfeiaaDoor.Ui Go.Proofs.YtpdcjdangnfeiaaDoor.Uj Go.Proofs.YtpdcjdangnfeiaaDoor.Uk Go.Proofs.YtpdcjdangnfeiaaDoor.Ul Go.Proofs.YtpdcjdangnfeiaaDoor.Um Go.Proofs.YtpdcjdangnfeiaaDoor.Un Go.Proofs.YtpdcjdangnfeiaaDoor.Uo Go.Proofs.YtpdcjdangnfeiaaDoor.Up Go.Proofs.YtpdcjdangnfeiaaDoor.Uq Go.Proofs.YtpdcjdangnfeiaaDoor.Ur Go.Proofs.YtpdcjdangnfeiaaDoor.Us Go.Proofs.YtpdcjdangnfeiaaDoor.Ut Go.Proofs.YtpdcjdangnfeiaaDoor.Uu Go.Proofs.YtpdcjdangnfeiaaDoor.Uv Go.Proofs.YtpdcjdangnfeiaaDoor.Uw Go.Proofs.YtpdcjdangnfeiaaDoor.Ux Go.Proofs.YtpdcjdangnfeiaaDoor.Uy Go.Proofs.YtpdcjdangnfeiaaDoor.Uz Go.Proofs.YtpdcjdangnfeiaaDoor.Va Go.Proofs.YtpdcjdangnfeiaaDoor.Vb Go.Proofs.YtpdcjdangnfeiaaDoor.Vc Go.Proofs.YtpdcjdangnfeiaaDoor.Vd Go.Proofs.YtpdcjdangnfeiaaDoor.Ve Go.Proofs.YtpdcjdangnfeiaaDoor.Wa Go.Proofs.YtpdcjdangnfeiaaDoor.Wb Go.Proofs.YtpdcjdangnfeiaaDoor.Wc
def under (x : ByteArray) (fs : Es) : Es := fs.map fun e => (x :: e.1, e.2)
theorem under_snd (x : ByteArray) (fs : Es) : (under x fs).map (·.2) = fs.map (·.2) := by
  unfold under
  rw [List.map_map]; rfl
theorem gp_under (x : ByteArray) : ∀ (fs : Es) (r : Path), gp (under x fs) (x :: r) = gp fs r
  | [], _ => rfl
  | (q, s) :: fs, r => by
    have ih := gp_under x fs r
    show gp ((x :: q, s) :: under x fs) (x :: r) = _
    rw [gp_cons, gp_cons, ih]
    by_cases e : q = r
    · rw [if_pos e, if_pos (by rw [e])]
    · rw [if_neg e, if_neg (fun h => e (List.cons.inj h).2)]
theorem gp_under_ne {x y : ByteArray} (h : y ≠ x) : ∀ (fs : Es) (r : Path), gp (under x fs) (y :: r) = none
  | [], _ => rfl
  | (q, s) :: fs, r => by
    show gp ((x :: q, s) :: under x fs) (y :: r) = _
    rw [gp_cons, if_neg (fun e => h (List.cons.inj e).1.symm)]
    exact gp_under_ne h fs r
theorem gp_under_nil (x : ByteArray) : ∀ (fs : Es), gp (under x fs) [] = none
  | [] => rfl
  | (q, s) :: fs => by
    show gp ((x :: q, s) :: under x fs) [] = _
    rw [gp_cons, if_neg (by simp)]
    exact gp_under_nil x fs
theorem gp_app (a b : Es) (q : Path) : gp (a ++ b) q = (gp a q).or (gp b q) := by
  induction a with
  | nil => simp [gp]
  | cons e a ih =>
    obtain ⟨p, s⟩ := e
    rw [List.cons_append, gp_cons, gp_cons, ih]
    by_cases h : p = q
    · rw [if_pos h, if_pos h]; rfl
    · rw [if_neg h, if_neg h]
theorem Sto.append {w : World} {B : Nat} {σ τ : List Sh} (h : Sto Tryd.prog 67 9 w B σ) (k : Sto Tryd.prog 67 9 w B τ) (hd : ∀ s ∈ σ, ∀ t ∈ τ, ∀ b ∈ blks s, b ∉ blks t) : Sto Tryd.prog 67 9 w B (σ ++ τ) := by
  refine ⟨fun s hs => ?_, ?_⟩
  · rcases List.mem_append.1 hs with hs | hs
    · exact h.ok s hs
    · exact k.ok s hs
  · rw [List.flatMap_append, List.nodup_append]
    refine ⟨h.nd, k.nd, fun i hi j hj e => ?_⟩
    subst e
    obtain ⟨s, hs, hb⟩ := List.mem_flatMap.1 hi
    obtain ⟨t, ht, hb2⟩ := List.mem_flatMap.1 hj
    exact hd s hs t ht i hb hb2
theorem Sto.low {w : World} {B B' : Nat} {σ : List Sh} (h : Sto Tryd.prog 67 9 w B' σ) (hB : B ≤ B') : Sto Tryd.prog 67 9 w B σ := ⟨fun s hs => Ue.Ok.low (h.ok s hs) hB, h.nd⟩
/-- What a twin is. -/
structure Tw (w : World) (B nb : Nat) (es : Es) (p : Path) (fs : Es) : Prop where
  sto : Sto Tryd.prog 67 9 w B (fs.map (·.2))
  nd : Nd1 fs
  root : ∃ r, gp fs [] = some r ∧ r.nb = nb
  same : ∀ r, (gp fs r).map toN = (gp es (p ++ r)).map toN
  dr : ∀ q d, gp fs q = some d → d.dir = true → Dr d (fun x => (gp fs (q ++ [x])).map (·.nb))
  file : ∀ e ∈ fs, e.2.dir = false → e.2.D = .map []
/-- What is done of it. -/
structure Acc (es : Es) (p : Path) (D D' : DataW Nat) (left : Lit → Bool) (acc : Es) : Prop where
  nd : Nd1 acc
  nil : gp acc [] = none
  out : ∀ x, ¬ (has D (keyL x) = true ∧ left (keyL x) = false) → ∀ r, gp acc (x :: r) = none
  same : ∀ x, has D (keyL x) = true ∧ left (keyL x) = false → (∀ r, (gp acc (x :: r)).map toN = (gp es (p ++ x :: r)).map toN) ∧ kid D' x = (gp acc [x]).map (·.nb)
  dr : ∀ x q d, gp acc (x :: q) = some d → d.dir = true → Dr d (fun y => (gp acc (x :: (q ++ [y]))).map (·.nb))
  tidy : Tidy D'
  keys : ∀ x, has D' (keyL x) = has D (keyL x)
  full : ∀ x, has D' (keyL x) = (kid D' x).isSome
  size : size D' = size D
  file : ∀ e ∈ acc, e.2.dir = false → e.2.D = .map []
theorem Acc.start (es : Es) (p : Path) {d : Sh} {K : ByteArray → Option Nat} (h : Dr d K) : Acc es p d.D d.D (has d.D) [] := by
  have hno : ∀ x, ¬ (has d.D (keyL x) = true ∧ has d.D (keyL x) = false) := fun x h => by rw [h.1] at h; exact absurd h.2 (by simp)
  exact ⟨List.nodup_nil, rfl, fun _ _ _ => rfl, fun x hx => absurd hx (hno x), (fun x q d hd => by cases hd), h.tidy, fun _ => rfl, h.full, rfl, (fun e he => by cases he)⟩
theorem strike (left : Lit → Bool) (x y : ByteArray) : (left (keyL y) && !(keyL y).sameKey (keyL x)) = if y = x then false else left (keyL y) := by
  by_cases e : y = x
  · subst e
    rw [if_pos rfl, WideAt.sameKey_self (isKey y)]
    simp
  · rw [if_neg e]
    have : (keyL y).sameKey (keyL x) = false := by
      cases h : (keyL y).sameKey (keyL x)
      · rfl
      · exact absurd (keyL_inj.1 (WideAt.sameKey_eq h)) e
    rw [this]
    simp
theorem Acc.step {es : Es} {p : Path} {D D' : DataW Nat} {left : Lit → Bool} {acc : Es} (h : Acc es p D D' left acc) {w : World} {B nb : Nat} {x : ByteArray} {fs : Es} (hl : left (keyL x) = true) (hD : has D (keyL x) = true) (t : Tw w B nb es (p ++ [x]) fs) :
    Acc es p D (D'.put (keyL x) (ptrD (some nb))) (fun z => left z && !z.sameKey (keyL x)) (under x fs ++ acc) := by
  have hno : ¬ (has D (keyL x) = true ∧ left (keyL x) = false) := by rw [hl]; simp
  have hx : ∀ r, gp (under x fs ++ acc) (x :: r) = gp fs r := fun r => by rw [gp_app, gp_under, h.out x hno, Option.or_none]
  have hy : ∀ y, y ≠ x → ∀ r, gp (under x fs ++ acc) (y :: r) = gp acc (y :: r) := fun y e r => by rw [gp_app, gp_under_ne e, Option.none_or]
  have hlx : (left (keyL x) && !(keyL x).sameKey (keyL x)) = false := by rw [strike, if_pos rfl]
  have hly : ∀ y, y ≠ x → (left (keyL y) && !(keyL y).sameKey (keyL x)) = left (keyL y) := fun y e => by rw [strike, if_neg e]
  have hm : IsMap D' := h.tidy.isMap
  refine ⟨?_, ?_, fun y hn r => ?_, fun y hd => ?_, fun y q d hg hdir => ?_, h.tidy.put (isKey x) _, fun y => ?_, fun y => ?_, ?_, fun e he hf => ?_⟩
  · show ((under x fs ++ acc).map (·.1)).Nodup
    rw [List.map_append, List.nodup_append]
    refine ⟨?_, h.nd, ?_⟩
    · have e : (under x fs).map (·.1) = (fs.map (·.1)).map (fun q => x :: q) := by unfold under; rw [List.map_map, List.map_map]; rfl
      rw [e]
      refine List.pairwise_map.2 ((show (fs.map (·.1)).Pairwise _ from t.nd).imp ?_)
      intro a b hab e
      exact hab (List.cons.inj e).2
    · intro a ha b hb e
      subst e
      obtain ⟨e1, h1, rfl⟩ := List.mem_map.1 ha
      obtain ⟨e2, h2, rfl⟩ := List.mem_map.1 h1
      obtain ⟨⟨q, s⟩, h3, h4⟩ := List.mem_map.1 hb
      have h5 := mem_gp h.nd h3
      have h4 : q = x :: e2.1 := h4
      rw [h4, h.out x hno] at h5
      cases h5
  · rw [gp_app, gp_under_nil, h.nil]; rfl
  · by_cases e : y = x
    · subst e
      exact absurd ⟨hD, hlx⟩ hn
    · rw [hy y e]
      exact h.out y (fun hd => hn ⟨hd.1, (hly y e).trans hd.2⟩) r
  · by_cases e : y = x
    · subst e
      obtain ⟨r0, hr0, hnb⟩ := t.root
      refine ⟨fun r => ?_, ?_⟩
      · rw [hx, t.same, List.append_assoc, List.singleton_append]
      · rw [hx, hr0, kid_put_same hm, ← hnb]; rfl
    · have hd2 : has D (keyL y) = true ∧ left (keyL y) = false := ⟨hd.1, (hly y e).symm.trans hd.2⟩
      obtain ⟨a1, a2⟩ := h.same y hd2
      refine ⟨fun r => ?_, ?_⟩
      · rw [hy y e]; exact a1 r
      · rw [hy y e, kid_put_other e]; exact a2
  · by_cases e : y = x
    · subst e
      rw [hx] at hg
      exact (t.dr q d hg hdir).congr fun z => by rw [hx]
    · rw [hy y e] at hg
      exact (h.dr y q d hg hdir).congr fun z => by rw [hy y e]
  · by_cases e : y = x
    · subst e
      rw [has_put_same hm (isKey y), hD]
    · rw [has_put_other (fun h => e (keyL_inj.1 h)), h.keys]
  · by_cases e : y = x
    · subst e
      rw [has_put_same hm (isKey y), kid_put_same hm]; rfl
    · rw [has_put_other (fun h => e (keyL_inj.1 h)), kid_put_other e, h.full]
  · rw [size_put h.tidy, h.keys, hD, ← h.size]; rfl
  · rcases List.mem_append.1 he with he | he
    · obtain ⟨e2, h2, rfl⟩ := List.mem_map.1 he
      exact t.file e2 h2 hf
    · exact h.file e he hf
theorem Acc.done {es : Es} {p : Path} {D' : DataW Nat} {left : Lit → Bool} {acc : Es} {d r : Sh} (h : Acc es p d.D D' left acc) (hl : ∀ k, left k = false) (hw : WfF (gp es)) (hg : gp es p = some d) (hd : d.dir = true) (hr : r.dir = true ∧ r.data = d.data ∧ r.slots = d.slots ∧ r.D = D') {w : World} {B : Nat} (hs : Sto Tryd.prog 67 9 w B (r :: acc.map (·.2))) :
    Tw w B r.nb es p (([], r) :: acc) := by
  obtain ⟨r1, r2, r3, r4⟩ := hr
  have dr := hw.dr p d hg hd
  have hx : ∀ x q, gp ((([] : Path), r) :: acc) (x :: q) = gp acc (x :: q) := fun x q => by rw [gp_cons, if_neg (by simp)]
  have h0 : gp ((([] : Path), r) :: acc) [] = some r := by rw [gp_cons, if_pos rfl]
  have hdone : ∀ x, has d.D (keyL x) = true → has d.D (keyL x) = true ∧ left (keyL x) = false := fun x hx => ⟨hx, hl _⟩
  refine ⟨hs, ?_, ⟨r, h0, rfl⟩, fun q => ?_, fun q x hx2 hdir => ?_, fun e he hf => ?_⟩
  · show (([] : Path) :: acc.map (·.1)).Nodup
    rw [List.nodup_cons]
    refine ⟨fun hm => ?_, h.nd⟩
    obtain ⟨⟨q, s⟩, h3, h4⟩ := List.mem_map.1 hm
    have h4 : q = [] := h4
    subst h4
    have h5 := mem_gp h.nd h3
    rw [h.nil] at h5
    cases h5
  · cases q with
    | nil =>
      rw [h0, List.append_nil, hg]
      show some (toN r) = some (toN d)
      unfold toN
      rw [r1, r2, r3, r4, hd, h.size]
    | cons x q =>
      rw [hx]
      by_cases hh : has d.D (keyL x) = true
      · exact (h.same x (hdone x hh)).1 q
      · rw [h.out x (fun hn => hh hn.1)]
        have h1 : gp es (p ++ [x]) = none := by
          have e1 : has d.D (keyL x) = (gp es (p ++ [x])).isSome := by rw [dr.full, dr.kids]; cases gp es (p ++ [x]) <;> rfl
          rw [e1] at hh
          cases hq : gp es (p ++ [x]) <;> simp_all
        have h2 : gp es ((p ++ [x]) ++ q) = none := by
          by_cases hq : q = []
          · subst hq; rwa [List.append_nil]
          · exact hw.none_under (fun y => hw.none_below (fun d' hd' => by rw [h1] at hd'; cases hd') y) q hq
        rw [List.append_assoc, List.singleton_append] at h2
        rw [h2]
  · cases q with
    | nil =>
      rw [h0] at hx2
      obtain rfl := Option.some.inj hx2
      refine ⟨fun y => ?_, r2.trans dr.bare, fun y => by rw [r4]; exact h.full y, by rw [r4]; exact h.tidy⟩
      rw [List.nil_append, hx, r4]
      by_cases hh : has d.D (keyL y) = true
      · exact (h.same y (hdone y hh)).2
      · rw [h.out y (fun hn => hh hn.1)]
        have h1 := h.full y
        rw [h.keys] at h1
        cases hk : kid D' y with
        | none => rfl
        | some z => rw [hk] at h1; exact absurd h1 (by simpa using hh)
    | cons x' q =>
      rw [hx] at hx2
      exact (h.dr x' q x hx2 hdir).congr fun z => by rw [List.cons_append, hx]
  · rcases List.mem_cons.1 he with rfl | he
    · rw [r1] at hf; cases hf
    · exact h.file e he hf
/-- A file's twin. -/
theorem tw_file {es : Es} {p : Path} {d r : Sh} (hw : WfF (gp es)) (hg : gp es p = some d) (hd : d.dir = false) (hr : r.dir = false ∧ r.data = d.data ∧ r.slots = d.slots) (hD : r.D = .map []) {w : World} {B : Nat} (ho : Nd w B r) : Tw w B r.nb es p [([], r)] := by
  obtain ⟨r1, r2, r3⟩ := hr
  have h0 : gp [(([] : Path), r)] [] = some r := by rw [gp_cons, if_pos rfl]
  have hx : ∀ x q, gp [(([] : Path), r)] (x :: q) = none := fun x q => by rw [gp_cons, if_neg (by simp)]; rfl
  refine ⟨⟨fun s hs => ?_, ?_⟩, ?_, ⟨r, h0, rfl⟩, fun q => ?_, fun q x hx2 hdir => ?_, fun e he hf => ?_⟩
  · have : s = r := by simpa using hs
    rw [this]; exact ho
  · show ([r].flatMap blks).Nodup
    rw [List.flatMap_cons, List.flatMap_nil, List.append_nil]
    unfold blks
    rw [if_neg (by simp [r1])]
    simp
  · show ([([] : Path)]).Nodup
    simp
  · cases q with
    | nil =>
      rw [h0, List.append_nil, hg]
      show some (toN r) = some (toN d)
      unfold toN
      rw [r1, r2, r3, hd]; rfl
    | cons x q =>
      rw [hx, hw.none_under (fun y => hw.none_below (fun d' hd' => by rw [hg] at hd'; cases hd'; exact hd) y) (x :: q) (by simp)]
  · cases q with
    | nil =>
      rw [h0] at hx2
      obtain rfl := Option.some.inj hx2
      rw [r1] at hdir
      cases hdir
    | cons x' q => rw [hx] at hx2; cases hx2
  · have : e = ([], r) := by simpa using he
    rw [this]; exact hD
end Go.Proofs.YtpdcjdangnfeiaaDoor.Wd
