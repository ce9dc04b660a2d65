/- The rows that the document's Walk tells, and the tree's. No program in sight. -/
import Derived.Test.YtpdcjdangnfeiaaGreatDoorZg
import Derived.Test.YtpdcjdangnfeiaaGreatDoorZo
import Derived.Sort.Walk0
section
open Go Go.RowKit Go.Proofs.YtpdcjdangnfeiaaGreatDoor.Pb Go.Proofs.YtpdcjdangnfeiaaGreatDoor.PPrf Go.Proofs.YtpdcjdangnfeiaaGreatDoorW.PrintWords Go.Proofs.YtpdcjdangnfeiaaGreatDoorW.PrintLast Go.Proofs.YtpdcjdangnfeiaaGreatDoorW.PrintMore Go.Proofs.YtpdcjdangnfeiaaGreatDoor.Qa Go.Proofs.YtpdcjdangnfeiaaGreatDoor.Tb Go.Proofs.YtpdcjdangnfeiaaGreatDoor.Rb Go.Proofs.YtpdcjdangnfeiaaGreatDoor.Ba Go.Proofs.YtpdcjdangnfeiaaGreatDoor.Rd Go.Proofs.YtpdcjdangnfeiaaGreatDoor.Te Go.Proofs.YtpdcjdangnfeiaaGreatDoor.Rq Go.Proofs.YtpdcjdangnfeiaaGreatDoor.Ua Go.Proofs.YtpdcjdangnfeiaaGreatDoor.Wm
namespace Go.Proofs.YtpdcjdangnfeiaaGreatDoor.Rc
structure RR where
  p : ByteArray
  dir : Bool
  sz : Nat
  kids : Nat
  b : List UInt8
def rowR (L : List T) (j : Nat) (q : ByteArray) : RR := ⟨q, (thL L j).dir, if (thL L j).dir then 0 else (thL L j).B.length, if (thL L j).dir then (nmR (thL L j).S).length else 0, (thL L j).B⟩
def kidR (L : List T) (k : Nat) (x : ByteArray) : Nat := (K (thL L k).S x).getD 0
def rowsR (L : List T) : Nat → Nat → ByteArray → List RR
  | 0, _, _ => []
  | f + 1, k, q => (nmR (thL L k).S).flatMap fun x => rowR L (kidR L k x) (q ++ ⟨#[47]⟩ ++ x) :: if (thL L (kidR L k x)).dir then rowsR L f (kidR L k x) (q ++ ⟨#[47]⟩ ++ x) else []
/-- Names, rising. -/
def Up (l : List ByteArray) : Prop := l.Pairwise fun a b => a.data.toList < b.data.toList
theorem ltN_iff (x y : ByteArray) : ltN x y = true ↔ y.data.toList < x.data.toList := by
  unfold ltN
  rw [Go.Proofs.bytesLess_eq, decide_eq_true_eq, Lib.toList_data, Lib.toList_data]
theorem ba_ext2 {a b : ByteArray} (h : a.data.toList = b.data.toList) : a = b := ba_ext h
theorem lt_of_nlt {a b : List UInt8} (h1 : ¬ a < b) (h2 : a ≠ b) : b < a := by
  by_cases h3 : b < a
  · exact h3
  · exact absurd (List.le_antisymm (List.not_lt.1 h3) (List.not_lt.1 h1)) h2
theorem insR_up {out : List ByteArray} {x : ByteArray} (h : Up out) (hx : x ∉ out) : Up (insR out x) := by
  induction out with
  | nil => simp [insR, Up]
  | cons y out ih =>
    have h' := List.pairwise_cons.1 h
    have hx' : x ≠ y ∧ x ∉ out := by simpa using hx
    by_cases c : ltN x y = true
    · have e : insR (y :: out) x = y :: insR out x := by simp [insR, c]
      rw [e]
      refine List.pairwise_cons.2 ⟨fun z hz => ?_, ih h'.2 hx'.2⟩
      have hz' : z ∈ out ∨ z = x := by
        unfold insR at hz
        rw [List.append_assoc, List.mem_append, List.mem_append] at hz
        rcases hz with hz | hz | hz
        · exact .inl (List.takeWhile_subset _ hz)
        · exact .inr (by simpa using hz)
        · exact .inl (List.dropWhile_subset _ hz)
      rcases hz' with hz' | rfl
      · exact h'.1 z hz'
      · exact (ltN_iff _ _).1 c
    · have e : insR (y :: out) x = x :: y :: out := by simp [insR, c]
      rw [e]
      have hxy : x.data.toList < y.data.toList := lt_of_nlt (fun h => c ((ltN_iff _ _).2 h)) (fun e => hx'.1 (ba_ext2 e).symm)
      refine List.pairwise_cons.2 ⟨fun z hz => ?_, h⟩
      rcases List.mem_cons.1 hz with rfl | hz
      · exact hxy
      · exact List.lt_trans hxy (h'.1 z hz)
theorem mem_insR {out : List ByteArray} {x z : ByteArray} : z ∈ insR out x ↔ z ∈ out ∨ z = x := by
  unfold insR
  conv => rhs; rw [← List.takeWhile_append_dropWhile (p := ltN x) (l := out)]
  simp only [List.mem_append, List.mem_singleton]
  constructor
  · rintro ((h | h) | h)
    · exact .inl (.inl h)
    · exact .inr h
    · exact .inl (.inr h)
  · rintro ((h | h) | h)
    · exact .inl (.inl h)
    · exact .inr h
    · exact .inl (.inr h)
theorem nmF_up : ∀ (S : List S106) (out : List ByteArray), Up out → S.Pairwise (fun e f => e.f0 = f.f0 → e.f0 = ByteArray.empty) → (∀ e ∈ S, e.f0 ∉ out) → ByteArray.empty ∉ out → Up (nmF out S) ∧ ∀ z, z ∈ nmF out S ↔ z ∈ out ∨ (z ≠ ByteArray.empty ∧ ∃ e ∈ S, e.f0 = z)
  | [], out, h, _, _, _ => ⟨h, fun z => by simp [nmF]⟩
  | e :: S, out, h, hp, hd, h0 => by
    have hp' := List.pairwise_cons.1 hp
    unfold nmF
    by_cases c : e.f0 = ByteArray.empty
    · rw [if_pos c]
      obtain ⟨h1, h2⟩ := nmF_up S out h hp'.2 (fun e he => hd e (by simp [he])) h0
      refine ⟨h1, fun z => ?_⟩
      rw [h2]
      constructor
      · rintro (h | ⟨h, e', he, hf⟩)
        · exact .inl h
        · exact .inr ⟨h, e', by simp [he], hf⟩
      · rintro (h | ⟨h, e', he, hf⟩)
        · exact .inl h
        · rcases List.mem_cons.1 he with rfl | he
          · exact absurd (hf.symm.trans c) h
          · exact .inr ⟨h, e', he, hf⟩
    · rw [if_neg c]
      have hne : e.f0 ∉ out := hd e (by simp)
      obtain ⟨h1, h2⟩ := nmF_up S (insR out e.f0) (insR_up h hne) hp'.2 (fun f hf => by
        rw [mem_insR]
        rintro (h | h)
        · exact hd f (by simp [hf]) h
        · exact c (hp'.1 f hf h.symm)) (by
        rw [mem_insR]
        rintro (h | h)
        · exact h0 h
        · exact c h.symm)
      refine ⟨h1, fun z => ?_⟩
      rw [h2, mem_insR]
      constructor
      · rintro ((h | h) | ⟨h, e', he, hf⟩)
        · exact .inl h
        · exact .inr ⟨by rw [h]; exact c, e, by simp, h.symm⟩
        · exact .inr ⟨h, e', by simp [he], hf⟩
      · rintro (h | ⟨h, e', he, hf⟩)
        · exact .inl (.inl h)
        · rcases List.mem_cons.1 he with rfl | he
          · exact .inl (.inr hf.symm)
          · exact .inr ⟨h, e', he, hf⟩
theorem Uq.pair {S : List S106} (h : Uq S) : S.Pairwise (fun e f => e.f0 = f.f0 → e.f0 = ByteArray.empty) := by
  rw [List.pairwise_iff_getElem]
  intro i j hi hj hij he
  by_cases c : S[i].f0 = ByteArray.empty
  · exact c
  · have := h i j _ _ (List.getElem?_eq_getElem hi) (List.getElem?_eq_getElem hj) he c
    omega
theorem nmR_up {S : List S106} (h : Uq S) : Up (nmR S) ∧ ∀ z, z ∈ nmR S ↔ (K S z).isSome = true := by
  obtain ⟨h1, h2⟩ := nmF_up S [] (by simp [Up]) h.pair (by simp) (by simp)
  refine ⟨h1, fun z => ?_⟩
  unfold nmR
  rw [h2]
  constructor
  · rintro (h | ⟨hz, e, he, hf⟩)
    · simp at h
    · cases hk : K S z with
      | some k => rfl
      | none => exact absurd hf ((K_none h hz).1 hk e he)
  · intro hk
    obtain ⟨k, hk⟩ := Option.isSome_iff_exists.1 hk
    obtain ⟨hz, i, e, hi, hf, -⟩ := (K_iff h).1 hk
    exact .inr ⟨hz, e, List.mem_of_getElem? hi, hf⟩
theorem up_ext : ∀ {l m : List ByteArray}, Up l → Up m → (∀ z, z ∈ l ↔ z ∈ m) → l = m
  | [], [], _, _, _ => rfl
  | [], y :: m, _, _, h => absurd ((h y).2 (by simp)) (by simp)
  | x :: l, [], _, _, h => absurd ((h x).1 (by simp)) (by simp)
  | x :: l, y :: m, hl, hm, h => by
    have hl' := List.pairwise_cons.1 hl
    have hm' := List.pairwise_cons.1 hm
    have irr : ∀ z : ByteArray, ¬ z.data.toList < z.data.toList := fun z => List.lt_irrefl _
    have e : x = y := by
      rcases List.mem_cons.1 ((h x).1 (by simp)) with h1 | h1
      · exact h1
      · rcases List.mem_cons.1 ((h y).2 (by simp)) with h2 | h2
        · exact h2.symm
        · exact absurd (List.lt_trans (hm'.1 x h1) (hl'.1 y h2)) (irr y)
    subst e
    rw [up_ext hl'.2 hm'.2 fun z => ?_]
    constructor
    · intro hz
      rcases List.mem_cons.1 ((h z).1 (List.mem_cons_of_mem _ hz)) with rfl | h1
      · exact absurd (hl'.1 z hz) (irr z)
      · exact h1
    · intro hz
      rcases List.mem_cons.1 ((h z).2 (List.mem_cons_of_mem _ hz)) with rfl | h1
      · exact absurd (hm'.1 z hz) (irr z)
      · exact h1
/-- The names of the tree's directories rise. -/
def NmS (a : Uc.Fn) : Prop := ∀ p s, a p = some s → s.dir = true → (Vc.namesL s).Pairwise (· < ·)
theorem names_up {a : Uc.Fn} (h : NmS a) {p : Wy} {s : Sh} (hs : a p = some s) (hd : s.dir = true) : Up (names s) := by
  unfold names
  refine List.pairwise_map.2 ((h p s hs hd).imp ?_)
  intro x y hxy
  rw [tb_data, tb_data]
  exact hxy
section
variable {es : Ub.Es} {L : List T} {ix : Wy → Option Nat}
theorem abs_some {p : Wy} {s : Sh} (h : Tf.gp es p = some s) : Ud.absE es p = some (Ud.toN s) := by unfold Ud.absE; rw [h]; rfl
theorem rel_gp (h : Rel L (Ud.absE es) ix) {p : Wy} {s : Sh} (hs : Tf.gp es p = some s) : ∃ k, ix p = some k ∧ Ud.toN s = nodeT (thL L k) := by
  cases hi : ix p with
  | none => have := h.anone.1 hi; rw [abs_some hs] at this; cases this
  | some k => exact ⟨k, rfl, by have := h.asome hi; rw [abs_some hs] at this; exact Option.some.inj this⟩
theorem gp_iff2 (h : Rel L (Ud.absE es) ix) {p : Wy} : (Tf.gp es p).isSome = (ix p).isSome := by
  cases hs : Tf.gp es p with
  | some s => obtain ⟨k, hk, -⟩ := rel_gp h hs; rw [hk]; rfl
  | none =>
    have : Ud.absE es p = none := by unfold Ud.absE; rw [hs]; rfl
    rw [h.anone.2 this]; rfl
theorem names_eq (h : Rel L (Ud.absE es) ix) (hn : NmOk (Tf.gp es)) (hs : NmS (Tf.gp es)) {p : Wy} {s : Sh} {k : Nat} (hp : Tf.gp es p = some s) (hd : s.dir = true) (hk : ix p = some k) : names s = nmR (thL L k).S := by
  have hN := (h.at_ p k hk).2
  obtain ⟨u1, u2⟩ := nmR_up hN.uniq
  refine up_ext (names_up hs hp hd) u1 fun z => ?_
  rw [(hn p s hp hd).2, u2, gp_iff2 h, hN.kid]
def toRR (r : Row) : RR := ⟨r.1, r.2.dir, r.2.data.length, r.2.k, r.2.data⟩
theorem rows_eq (h : Rel L (Ud.absE es) ix) (hn : NmOk (Tf.gp es)) (hs : NmS (Tf.gp es)) : ∀ (f : Nat) (p : Wy) (s : Sh) (k : Nat), Tf.gp es p = some s → s.dir = true → ix p = some k → rowsR L f k (tx p) = (rows (Tf.gp es) f p).map toRR := by
  intro f
  induction f with
  | zero => intro p s k _ _ _; simp [rowsR, rows, paths]
  | succ f ih =>
    intro p s k hp hd hk
    have hN := (h.at_ p k hk).2
    rw [rows_dir hp hd, rowsR, ← names_eq h hn hs hp hd hk, List.map_flatMap, List.flatMap_def, List.flatMap_def]
    refine congrArg List.flatten (List.map_congr_left fun x hx => ?_)
    have hsx := (((hn p s hp hd).2 x).1 hx)
    obtain ⟨t, ht⟩ := Option.isSome_iff_exists.1 hsx
    obtain ⟨j, hj, hjt⟩ := rel_gp h ht
    have hkid : kidR L k x = j := by
      unfold kidR
      have := hN.kid x
      rw [hj] at this
      rw [← this]; rfl
    have hNj := (h.at_ _ j hj).2
    rw [hkid, List.map_cons, ← tx_snoc]
    have hdt : t.dir = (thL L j).dir := congrArg N.dir hjt
    have e1 : rowR L j (tx (p ++ [x])) = toRR (rowOf (Tf.gp es) (p ++ [x])) := by
      unfold toRR rowOf rowR
      rw [ht, Option.map_some, Option.getD_some, hjt]
      unfold nodeT
      cases hdj : (thL L j).dir with
      | true => simp [hNj.dirB hdj, nmR_len]
      | false => simp [hNj.file hdj, cnt]
    rw [e1]
    refine congrArg _ ?_
    cases hdj : (thL L j).dir with
    | true => rw [if_pos rfl]; exact ih _ t j ht (by rw [hdt, hdj]) hj
    | false => rw [if_neg (by simp), rows_file ht (by rw [hdt, hdj])]; rfl
theorem st_nmS {w : World} {B tb n i m : Nat} (h : Ud.St w B tb es n i m) : NmS (Tf.gp es) := fun p s hs hd => (names_facts (h.ok hs) hd).2.2
theorem nost {a : Uc.Fn} (hw : Uc.WfF a) {q : Wy} (hq : (a q).isSome = true) : NoSt q := by
  obtain ⟨s, hs⟩ := Option.isSome_iff_exists.1 hq
  intro x hx h47
  exact noStroke (hw.nm q s hs x hx) 47 h47 rfl
end
section
variable {es1 es2 : Ub.Es} {L1 L2 : List T} {ix1 ix2 : Wy → Option Nat}
theorem root_gp {es : Ub.Es} {L : List T} {ix : Wy → Option Nat} (h : Rel L (Ud.absE es) ix) : ∃ s, Tf.gp es [] = some s ∧ s.dir = true ∧ s.data = [] := by
  have h1 := h.asome h.root
  unfold Ud.absE at h1
  obtain ⟨s, hs, he⟩ := Option.map_eq_some_iff.1 h1
  have hd : s.dir = (thL L 0).dir := congrArg N.dir he
  have hB : s.data = (thL L 0).B := congrArg N.data he
  refine ⟨s, hs, by rw [hd, h.rdir], by rw [hB, (h.at_ [] 0 h.root).2.dirB h.rdir]⟩
theorem half (h1 : Rel L1 (Ud.absE es1) ix1) (h2 : Rel L2 (Ud.absE es2) ix2) (w1 : Uc.WfF (Tf.gp es1)) (w2 : Uc.WfF (Tf.gp es2)) (n1 : NmOk (Tf.gp es1)) (n2 : NmOk (Tf.gp es2)) {f : Nat} (hf : ∀ q, (Tf.gp es1 q).isSome = true → q.length ≤ f)
    (h : (rows (Tf.gp es1) f []).map toRR = (rows (Tf.gp es2) f []).map toRR) : ∀ r s, Tf.gp es1 r = some s → ∃ t, Tf.gp es2 r = some t ∧ t.dir = s.dir ∧ t.data = s.data := by
  intro r s hs
  by_cases h0 : r = []
  · subst h0
    obtain ⟨s1, a1, a2, a3⟩ := root_gp h1
    obtain ⟨s2, b1, b2, b3⟩ := root_gp h2
    rw [hs] at a1
    cases a1
    exact ⟨s2, b1, by rw [a2, b2], by rw [a3, b3]⟩
  · have hm := paths_mem w1 n1 f [] r (by simpa using hf) h0 (by rw [List.nil_append, hs]; rfl)
    rw [List.nil_append] at hm
    have hmem : toRR (rowOf (Tf.gp es1) r) ∈ (rows (Tf.gp es1) f []).map toRR := List.mem_map.2 ⟨_, List.mem_map.2 ⟨r, hm, rfl⟩, rfl⟩
    rw [h] at hmem
    obtain ⟨y, hy, hye⟩ := List.mem_map.1 hmem
    obtain ⟨r', hr', rfl⟩ := List.mem_map.1 hy
    obtain ⟨-, -, -, hsome⟩ := paths_below n2 _ _ _ hr'
    have hx : tx r' = tx r := congrArg RR.p hye
    have := tx_inj _ r' r (Nat.le_refl _) (nost w2 hsome) (nost w1 (by rw [hs]; rfl)) hx
    subst this
    obtain ⟨t, ht⟩ := Option.isSome_iff_exists.1 hsome
    have d1 := congrArg RR.dir hye
    have d2 := congrArg RR.b hye
    unfold toRR rowOf at d1 d2
    rw [ht, hs] at d1 d2
    exact ⟨t, ht, d1, d2⟩
theorem rows_sa (h1 : Rel L1 (Ud.absE es1) ix1) (h2 : Rel L2 (Ud.absE es2) ix2) (w1 : Uc.WfF (Tf.gp es1)) (w2 : Uc.WfF (Tf.gp es2)) (n1 : NmOk (Tf.gp es1)) (n2 : NmOk (Tf.gp es2)) (s1 : NmS (Tf.gp es1)) (s2 : NmS (Tf.gp es2)) {f : Nat} (hf1 : ∀ q, (Tf.gp es1 q).isSome = true → q.length ≤ f) (hf2 : ∀ q, (Tf.gp es2 q).isSome = true → q.length ≤ f) :
    rowsR L1 f 0 ByteArray.empty = rowsR L2 f 0 ByteArray.empty ↔ We.SA (Ud.absE es1) (Ud.absE es2) := by
  obtain ⟨z1, a1, a2, a3⟩ := root_gp h1
  obtain ⟨z2, b1, b2, b3⟩ := root_gp h2
  have e1 := rows_eq h1 n1 s1 f [] z1 0 a1 a2 h1.root
  have e2 := rows_eq h2 n2 s2 f [] z2 0 b1 b2 h2.root
  rw [show tx [] = ByteArray.empty from rfl] at e1 e2
  rw [e1, e2]
  constructor
  · intro h r
    unfold Ud.absE
    cases c1 : Tf.gp es1 r with
    | some s =>
      obtain ⟨t, ht, d1, d2⟩ := half h1 h2 w1 w2 n1 n2 hf1 h r s c1
      rw [ht]
      simp [We.kdN, Ud.toN, d1, d2]
    | none =>
      cases c2 : Tf.gp es2 r with
      | none => rfl
      | some t =>
        obtain ⟨s, hs, -⟩ := half h2 h1 w2 w1 n2 n1 hf2 h.symm r t c2
        rw [hs] at c1; cases c1
  · intro h
    have hk : ∀ p, ((Tf.gp es1 p).map fun s => (s.dir, s.data)) = (Tf.gp es2 p).map fun s => (s.dir, s.data) := by
      intro p
      have := h p
      unfold Ud.absE at this
      rw [Option.map_map, Option.map_map] at this
      exact this
    have hsm : ∀ p, (Tf.gp es1 p).isSome = (Tf.gp es2 p).isSome := by
      intro p
      have := congrArg Option.isSome (hk p)
      simpa using this
    have hnm : ∀ p x y, Tf.gp es1 p = some x → Tf.gp es2 p = some y → x.dir = true → y.dir = true → names x = names y := by
      intro p x y hx hy dx dy
      refine up_ext (names_up s1 hx dx) (names_up s2 hy dy) fun z => ?_
      rw [(n1 p x hx dx).2, (n2 p y hy dy).2, hsm]
    have hpt : ∀ f p, paths (Tf.gp es1) f p = paths (Tf.gp es2) f p := by
      intro f
      induction f with
      | zero => intro p; rfl
      | succ f ih =>
        intro p
        unfold paths
        have hp := hk p
        cases c1 : Tf.gp es1 p with
        | none =>
          rw [c1] at hp
          cases c2 : Tf.gp es2 p with
          | none => rfl
          | some y => rw [c2] at hp; simp at hp
        | some x =>
          rw [c1] at hp
          cases c2 : Tf.gp es2 p with
          | none => rw [c2] at hp; simp at hp
          | some y =>
            rw [c2] at hp
            simp only [Option.map_some, Option.some.injEq, Prod.mk.injEq] at hp
            dsimp only
            cases dx : x.dir with
            | false => rw [← hp.1, dx]; simp
            | true =>
              have dy : y.dir = true := by rw [← hp.1, dx]
              rw [dy, if_pos rfl, if_pos rfl, hnm p x y c1 c2 dx dy, List.flatMap_def, List.flatMap_def]
              exact congrArg List.flatten (List.map_congr_left fun z _ => by rw [ih])
    unfold rows
    rw [hpt, List.map_map, List.map_map]
    refine List.map_congr_left fun q hq => ?_
    obtain ⟨r, -, -, hq2⟩ := paths_below n2 _ _ _ hq
    obtain ⟨t, ht⟩ := Option.isSome_iff_exists.1 hq2
    have hq1 : (Tf.gp es1 q).isSome = true := by rw [hsm]; exact hq2
    obtain ⟨s, hs⟩ := Option.isSome_iff_exists.1 hq1
    have hp := hk q
    rw [hs, ht] at hp
    simp only [Option.map_some, Option.some.injEq, Prod.mk.injEq] at hp
    obtain ⟨k1, i1, j1⟩ := rel_gp h1 hs
    obtain ⟨k2, i2, j2⟩ := rel_gp h2 ht
    have hkk : (Ud.toN s).k = (Ud.toN t).k := by
      rw [j1, j2]
      show cnt _ = cnt _
      have N1 := (h1.at_ _ _ i1).2
      have N2 := (h2.at_ _ _ i2).2
      have d1 : s.dir = (thL L1 k1).dir := congrArg N.dir j1
      have d2 : t.dir = (thL L2 k2).dir := congrArg N.dir j2
      cases dx : s.dir with
      | false => rw [N1.file (by rw [← d1, dx]), N2.file (by rw [← d2, ← hp.1, dx])]
      | true =>
        have dy : t.dir = true := by rw [← hp.1, dx]
        rw [← nmR_len, ← nmR_len, ← names_eq h1 n1 s1 hs dx i1, ← names_eq h2 n2 s2 ht dy i2, hnm q s t hs ht dx dy]
    show toRR (rowOf (Tf.gp es1) q) = toRR (rowOf (Tf.gp es2) q)
    unfold toRR rowOf
    rw [hs, ht, Option.map_some, Option.map_some, Option.getD_some, Option.getD_some, hkk]
    show RR.mk _ s.dir s.data.length _ s.data = RR.mk _ t.dir t.data.length _ t.data
    rw [hp.1, hp.2]
end
end Go.Proofs.YtpdcjdangnfeiaaGreatDoor.Rc
end
