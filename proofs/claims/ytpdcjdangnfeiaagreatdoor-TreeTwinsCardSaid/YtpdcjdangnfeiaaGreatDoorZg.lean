/- The document's things by number against the plain tree: what ties them, and how each change keeps it. No program in sight. Rows of slots as what they say of names: put, take, rename. No program in sight. Each act on the document's things is the plain tree's act. No program in sight. -/
import Derived.Test.YtpdcjdangnfeiaaGreatDoorZf
section
open Go Go.RowKit Go.Proofs.YtpdcjdangnfeiaaGreatDoor.Pb Go.Proofs.YtpdcjdangnfeiaaGreatDoor.PPrf Go.Proofs.YtpdcjdangnfeiaaGreatDoorW.PrintWords Go.Proofs.YtpdcjdangnfeiaaGreatDoorW.PrintLast Go.Proofs.YtpdcjdangnfeiaaGreatDoorW.PrintMore Go.Proofs.YtpdcjdangnfeiaaGreatDoor.Qa Go.Proofs.YtpdcjdangnfeiaaGreatDoor.Tb Go.Proofs.YtpdcjdangnfeiaaGreatDoor.Rb Go.Proofs.YtpdcjdangnfeiaaGreatDoor.Ba Go.Proofs.YtpdcjdangnfeiaaGreatDoor.Rd Go.Proofs.YtpdcjdangnfeiaaGreatDoor.Te Go.Proofs.YtpdcjdangnfeiaaGreatDoor.Rq Go.Proofs.YtpdcjdangnfeiaaGreatDoor.Ua
namespace Go.Proofs.YtpdcjdangnfeiaaGreatDoor.Rc
abbrev Wy := List ByteArray
/-- Where a name leads. -/
def K (S : List S106) (x : ByteArray) : Option Nat := (atL S x).map fun i => (inoL S i - 1).toNat
def cnt (S : List S106) : Nat := (S.filter fun e => !isE e).length
/-- Names stand once. -/
def Uq (S : List S106) : Prop := ∀ (i j : Nat) (e f : S106), S[i]? = some e → S[j]? = some f → e.f0 = f.f0 → e.f0 ≠ ByteArray.empty → i = j
def nodeT (t : T) : N := ⟨t.dir, t.B, slotsL t.S, cnt t.S⟩
structure NdT (t : T) (n : Option N) (kid : ByteArray → Option Nat) : Prop where
  is : t.is = true
  nd : n = some (nodeT t)
  kid : ∀ x, kid x = K t.S x
  file : t.dir = false → t.S = []
  dirB : t.dir = true → t.B = []
  uniq : Uq t.S
structure Rel (L : List T) (a : Wy → Option N) (ix : Wy → Option Nat) : Prop where
  root : ix [] = some 0
  rdir : (thL L 0).dir = true
  at_ : ∀ p k, ix p = some k → k < L.length ∧ NdT (thL L k) (a p) (fun x => ix (p ++ [x]))
  inj : ∀ p q k, ix p = some k → ix q = some k → p = q
  none_ : ∀ p, ix p = none → a p = none ∧ ∀ x, ix (p ++ [x]) = none
theorem K_emp (S : List S106) : K S ByteArray.empty = none := by simp [K, atL]
theorem K_nil (x : ByteArray) : K [] x = none := by
  unfold K atL
  by_cases h : x = ByteArray.empty <;> simp [h]
theorem Rel.sub {L : List T} {a : Wy → Option N} {ix : Wy → Option Nat} (h : Rel L a ix) {p : Wy} (hp : ix p = none) : ∀ r : Wy, ix (p ++ r) = none := by
  intro r
  induction r generalizing p with
  | nil => simpa using hp
  | cons x r ih =>
    have := ih ((h.none_ p hp).2 x)
    simpa using this
theorem Rel.anone {L : List T} {a : Wy → Option N} {ix : Wy → Option Nat} (h : Rel L a ix) {p : Wy} : ix p = none ↔ a p = none := by
  constructor
  · exact fun hp => (h.none_ p hp).1
  · intro hp
    cases hi : ix p with
    | none => rfl
    | some k =>
      have := (h.at_ p k hi).2.nd
      rw [hp] at this
      cases this
theorem Rel.asome {L : List T} {a : Wy → Option N} {ix : Wy → Option Nat} (h : Rel L a ix) {p : Wy} {k : Nat} (hi : ix p = some k) : a p = some (nodeT (thL L k)) := (h.at_ p k hi).2.nd
/-- A walk through the things is a walk through the tree. -/
theorem Rel.walk {L : List T} {a : Wy → Option N} {ix : Wy → Option Nat} (h : Rel L a ix) : ∀ (r p : Wy) (k : Nat), ix p = some k →
    (walkL L k r).2 = (if wayA a p r ≠ 0 then wayA a p r else if (a (p ++ r)).isSome then 0 else 8) ∧ ((walkL L k r).2 = 0 → ix (p ++ r) = some (walkL L k r).1) ∧ (∀ k', ix (p ++ r) = some k' → walkL L k r = (k', 0)) := by
  intro r
  induction r with
  | nil =>
    intro p k hk
    have ha := h.asome hk
    refine ⟨by simp [walkL, wayA, ha], fun _ => by simpa [walkL] using hk, fun k' hk' => ?_⟩
    rw [List.append_nil, hk] at hk'
    cases hk'
    rfl
  | cons x r ih =>
    intro p k hk
    have ha := h.asome hk
    have hn := (h.at_ p k hk).2
    have ew : wayA a p (x :: r) = if (thL L k).dir then wayA a (p ++ [x]) r else 11 := by
      simp only [wayA, ha, nodeT]
    have hap : p ++ x :: r = p ++ [x] ++ r := by simp
    rw [ew, hap]
    cases hd : (thL L k).dir with
    | false =>
      have e1 : walkL L k (x :: r) = (0, 11) := by simp [walkL, hd]
      have hs : ix (p ++ [x] ++ r) = none := h.sub (by have := hn.kid x; rw [hn.file hd, K_nil] at this; exact this) r
      rw [e1]
      refine ⟨by simp, fun h => by simp at h, fun k' hk' => by rw [hs] at hk'; cases hk'⟩
    | true =>
      have hkid := hn.kid x
      cases hat : atL (thL L k).S x with
      | none =>
        have hx : ix (p ++ [x]) = none := by rw [hkid, K, hat]; rfl
        have e1 : walkL L k (x :: r) = (0, 8) := by simp [walkL, hd, hat]
        have hs : ix (p ++ [x] ++ r) = none := h.sub hx r
        have hsa := h.anone.1 hs
        have hxa := h.anone.1 hx
        rw [e1]
        refine ⟨?_, fun h => by simp at h, fun k' hk' => by rw [hs] at hk'; cases hk'⟩
        cases r with
        | nil => simp [wayA, hxa]
        | cons y r => simp [wayA, hxa]
      | some i =>
        have hx : ix (p ++ [x]) = some (inoL (thL L k).S i - 1).toNat := by rw [hkid, K, hat]; rfl
        have e1 : walkL L k (x :: r) = walkL L (inoL (thL L k).S i - 1).toNat r := by simp [walkL, hd, hat]
        rw [e1]
        simpa using ih (p ++ [x]) _ hx
theorem thL_set {L : List T} {k a : Nat} (t : T) (hk : k < L.length) : thL (L.set k t) a = if a = k then t else thL L a := by
  unfold thL
  rw [List.getD_eq_getElem?_getD, List.getD_eq_getElem?_getD]
  by_cases h : a = k
  · subst h
    rw [List.getElem?_set_self hk, if_pos rfl]; rfl
  · rw [List.getElem?_set_ne (Ne.symm h), if_neg h]
/-- Bytes of a file change. -/
theorem Rel.bytes {L : List T} {a : Wy → Option N} {ix : Wy → Option Nat} (h : Rel L a ix) {p : Wy} {k : Nat} (hp : ix p = some k) (hd : (thL L k).dir = false) (B : List UInt8) :
    Rel (L.set k { thL L k with B := B }) (setA a p ⟨false, B, 0, 0⟩) ix := by
  have hk := (h.at_ p k hp).1
  have hS := (h.at_ p k hp).2.file hd
  refine ⟨h.root, ?_, fun q j hj => ?_, h.inj, fun q hq => ?_⟩
  · rw [thL_set _ hk]
    split
    · rename_i e; subst e; rw [h.rdir] at hd; cases hd
    · exact h.rdir
  · have h1 := h.at_ q j hj
    refine ⟨by rw [List.length_set]; exact h1.1, ?_⟩
    rw [thL_set _ hk]
    by_cases e : j = k
    · subst e
      have := h.inj q p j hj hp
      subst this
      rw [if_pos rfl]
      refine ⟨h1.2.is, by simp [setA, nodeT, hd, hS, slotsL, cnt], fun x => h1.2.kid x, h1.2.file, fun hd' => ?_, h1.2.uniq⟩
      rw [hd] at hd'; cases hd'
    · rw [if_neg e]
      have hne : q ≠ p := by rintro rfl; rw [hj] at hp; cases hp; exact e rfl
      exact ⟨h1.2.is, by simp [setA, hne, h1.2.nd], h1.2.kid, h1.2.file, h1.2.dirB, h1.2.uniq⟩
  · have hne : q ≠ p := by rintro rfl; rw [hq] at hp; cases hp
    exact ⟨by simp [setA, hne, (h.none_ q hq).1], (h.none_ q hq).2⟩
theorem snoc_ne2 (p : Wy) (x : ByteArray) : p ++ [x] ≠ p := fun h => by simpa using congrArg List.length h
theorem snoc_inj2 {p q : Wy} {x y : ByteArray} (h : p ++ [x] = q ++ [y]) : p = q ∧ x = y := by
  have := List.append_inj' h rfl
  exact ⟨this.1, by simpa using this.2⟩
/-- A thing is put into a directory. -/
theorem Rel.put {L L' : List T} {a a' : Wy → Option N} {ix : Wy → Option Nat} (h : Rel L a ix) {p : Wy} {x : ByteArray} {k j : Nat} {d : Bool} {S' : List S106} (hp : ix p = some k) (hx : ix (p ++ [x]) = none) (hfree : ∀ q, ix q ≠ some j) (hlen : L.length ≤ L'.length) (hj : j < L'.length)
    (hLj : thL L' j = ⟨true, d, [], []⟩) (hLk : thL L' k = { thL L k with S := S' }) (hLo : ∀ i, i < L.length → i ≠ k → i ≠ j → thL L' i = thL L i) (hdir : (thL L k).dir = true) (hK : ∀ z, K S' z = if z = x then some j else K (thL L k).S z) (hU : Uq S')
    (hap : a' p = some (nodeT (thL L' k))) (hax : a' (p ++ [x]) = some (nodeT (thL L' j))) (hao : ∀ q, q ≠ p → q ≠ p ++ [x] → a' q = a q) :
    Rel L' a' (fun q => if q = p ++ [x] then some j else ix q) := by
  have hjk : j ≠ k := fun e => hfree p (by rw [hp, e])
  have hsub := fun r => h.sub hx r
  refine ⟨?_, ?_, fun q i hi => ?_, fun q q' i hi hi' => ?_, fun q hq => ?_⟩
  · try dsimp only
    rw [if_neg (by simp)]; exact h.root
  · by_cases e : 0 = k
    · subst e; rw [hLk]; exact hdir
    · rw [hLo 0 (h.at_ [] 0 h.root).1 e (fun e => hfree [] (by rw [h.root, e]))]; exact h.rdir
  · try dsimp only at hi ⊢
    by_cases e : q = p ++ [x]
    · subst e
      rw [if_pos rfl] at hi
      cases hi
      refine ⟨hj, ?_⟩
      rw [hLj]
      refine ⟨rfl, by rw [hax, hLj], fun z => ?_, fun _ => rfl, fun _ => rfl, fun i j e f hi => by simp at hi⟩
      rw [if_neg (snoc_ne2 _ _), (h.none_ _ hx).2, K_nil]
    · rw [if_neg e] at hi
      have h1 := h.at_ q i hi
      refine ⟨by omega, ?_⟩
      by_cases e2 : i = k
      · subst e2
        have := h.inj q p i hi hp
        subst this
        rw [hLk]
        refine ⟨h1.2.is, by rw [hap, hLk], fun z => ?_, fun hd => ?_, h1.2.dirB, hU⟩
        · show (if q ++ [z] = q ++ [x] then some j else ix (q ++ [z])) = K S' z
          rw [hK]
          by_cases ez : z = x
          · subst ez; simp
          · rw [if_neg (fun e => ez (snoc_inj2 e).2), if_neg ez]; exact h1.2.kid z
        · exact absurd (hdir.symm.trans hd) (by simp)
      · rw [hLo i h1.1 e2 (fun e => hfree q (by rw [hi, e]))]
        have hqp : q ≠ p := by rintro rfl; rw [hi] at hp; cases hp; exact e2 rfl
        refine ⟨h1.2.is, by rw [hao q hqp e]; exact h1.2.nd, fun z => ?_, h1.2.file, h1.2.dirB, h1.2.uniq⟩
        rw [if_neg (fun e => hqp (snoc_inj2 e).1)]
        exact h1.2.kid z
  · try dsimp only at hi hi'
    by_cases e : q = p ++ [x] <;> by_cases e' : q' = p ++ [x]
    · rw [e, e']
    · rw [if_pos e] at hi
      rw [if_neg e'] at hi'
      cases hi
      exact absurd hi' (hfree q')
    · rw [if_neg e] at hi
      rw [if_pos e'] at hi'
      cases hi'
      exact absurd hi (hfree q)
    · rw [if_neg e] at hi
      rw [if_neg e'] at hi'
      exact h.inj q q' i hi hi'
  · try dsimp only at hq ⊢
    by_cases e : q = p ++ [x]
    · rw [if_pos e] at hq; cases hq
    · rw [if_neg e] at hq
      have hqp : q ≠ p := by rintro rfl; rw [hq] at hp; cases hp
      refine ⟨by rw [hao q hqp e]; exact (h.none_ q hq).1, fun z => ?_⟩
      rw [if_neg (fun e => hqp (snoc_inj2 e).1)]
      exact (h.none_ q hq).2 z
/-- A thing without kids is taken out of its directory. -/
theorem Rel.take {L L' : List T} {a a' : Wy → Option N} {ix : Wy → Option Nat} (h : Rel L a ix) {p : Wy} {x : ByteArray} {k j : Nat} {S' : List S106} (hp : ix p = some k) (hx : ix (p ++ [x]) = some j) (hleaf : ∀ z, ix (p ++ [x] ++ [z]) = none) (hlen : L.length ≤ L'.length)
    (hLk : thL L' k = { thL L k with S := S' }) (hLo : ∀ i, i < L.length → i ≠ k → i ≠ j → thL L' i = thL L i) (hK : ∀ z, K S' z = if z = x then none else K (thL L k).S z) (hU : Uq S')
    (hap : a' p = some (nodeT (thL L' k))) (hax : a' (p ++ [x]) = none) (hao : ∀ q, q ≠ p → q ≠ p ++ [x] → a' q = a q) :
    Rel L' a' (fun q => if q = p ++ [x] then none else ix q) := by
  have hjk : j ≠ k := by rintro rfl; exact snoc_ne2 p x (h.inj _ _ _ hx hp)
  have hdk : (thL L k).dir = true := by
    cases hd : (thL L k).dir with
    | true => rfl
    | false =>
      have h1 := (h.at_ p k hp).2
      have := h1.kid x
      rw [h1.file hd, K_nil] at this
      simp only [hx] at this
      cases this
  refine ⟨?_, ?_, fun q i hi => ?_, fun q q' i hi hi' => ?_, fun q hq => ?_⟩
  · try dsimp only
    rw [if_neg (by simp)]; exact h.root
  · by_cases e : 0 = k
    · subst e; rw [hLk]; exact h.rdir
    · rw [hLo 0 (h.at_ [] 0 h.root).1 e (by rintro rfl; have := h.inj _ _ _ hx h.root; simp at this)]; exact h.rdir
  · try dsimp only at hi ⊢
    by_cases e : q = p ++ [x]
    · rw [if_pos e] at hi; cases hi
    · rw [if_neg e] at hi
      have h1 := h.at_ q i hi
      refine ⟨by omega, ?_⟩
      by_cases e2 : i = k
      · subst e2
        have := h.inj q p i hi hp
        subst this
        rw [hLk]
        refine ⟨h1.2.is, by rw [hap, hLk], fun z => ?_, fun hd => ?_, h1.2.dirB, hU⟩
        · show (if q ++ [z] = q ++ [x] then none else ix (q ++ [z])) = K S' z
          rw [hK]
          by_cases ez : z = x
          · subst ez; simp
          · rw [if_neg (fun e => ez (snoc_inj2 e).2), if_neg ez]; exact h1.2.kid z
        · exact absurd (hdk.symm.trans hd) (by simp)
      · have hij : i ≠ j := by rintro rfl; exact e (h.inj _ _ _ hi hx)
        rw [hLo i h1.1 e2 hij]
        have hqp : q ≠ p := by rintro rfl; rw [hi] at hp; cases hp; exact e2 rfl
        refine ⟨h1.2.is, by rw [hao q hqp e]; exact h1.2.nd, fun z => ?_, h1.2.file, h1.2.dirB, h1.2.uniq⟩
        rw [if_neg (fun e => hqp (snoc_inj2 e).1)]
        exact h1.2.kid z
  · try dsimp only at hi hi'
    split at hi
    · cases hi
    · split at hi'
      · cases hi'
      · exact h.inj q q' i hi hi'
  · try dsimp only at hq ⊢
    by_cases e : q = p ++ [x]
    · subst e
      refine ⟨hax, fun z => ?_⟩
      rw [if_neg (snoc_ne2 _ _)]
      exact hleaf z
    · rw [if_neg e] at hq
      have hqp : q ≠ p := by rintro rfl; rw [hq] at hp; cases hp
      refine ⟨by rw [hao q hqp e]; exact (h.none_ q hq).1, fun z => ?_⟩
      rw [if_neg (fun e => hqp (snoc_inj2 e).1)]
      exact (h.none_ q hq).2 z
def mvX (ix : Wy → Option Nat) (f t : Wy) : Wy → Option Nat := fun q => if t <+: q then ix (f ++ q.drop t.length) else if f <+: q then none else ix q
theorem pre_snoc2 {t q : Wy} {z : ByteArray} (h : t <+: q ++ [z]) (hn : ¬ t <+: q) : t = q ++ [z] := by
  rcases List.prefix_concat_iff.1 h with h | h
  · exact h
  · exact absurd h hn
/-- A thing, and all that is below it, gets another name. -/
theorem Rel.mv {L L' : List T} {a a' : Wy → Option N} {ix : Wy → Option Nat} (h : Rel L a ix) {fp tp : Wy} {fx tx : ByteArray} {kf kt kx : Nat} {Sf St : List S106} (hf : ix fp = some kf) (ht : ix tp = some kt) (hx : ix (fp ++ [fx]) = some kx)
    (hnp : ¬ (fp ++ [fx]) <+: tp) (hne : fp ++ [fx] ≠ tp ++ [tx]) (hleaf : ∀ z, ix (tp ++ [tx] ++ [z]) = none) (hlen : L.length ≤ L'.length) (hdt : (thL L kt).dir = true)
    (hLf : thL L' kf = { thL L kf with S := Sf }) (hLt : thL L' kt = { thL L kt with S := St }) (hLo : ∀ i, i < L.length → i ≠ kf → i ≠ kt → ix (tp ++ [tx]) ≠ some i → thL L' i = thL L i)
    (hK1 : kf ≠ kt → (∀ z, K Sf z = if z = fx then none else K (thL L kf).S z) ∧ ∀ z, K St z = if z = tx then some kx else K (thL L kt).S z)
    (hK2 : kf = kt → ∀ z, K Sf z = if z = tx then some kx else if z = fx then none else K (thL L kf).S z) (hUf : Uq Sf) (hUt : Uq St)
    (haf : a' fp = some (nodeT (thL L' kf))) (hat : a' tp = some (nodeT (thL L' kt))) (hao : ∀ q, q ≠ fp → q ≠ tp → a' q = mvA a (fp ++ [fx]) (tp ++ [tx]) q) :
    Rel L' a' (mvX ix (fp ++ [fx]) (tp ++ [tx])) := by
  have hdf : (thL L kf).dir = true := by
    cases hd : (thL L kf).dir with
    | true => rfl
    | false =>
      have h1 := (h.at_ fp kf hf).2
      have := h1.kid fx
      rw [h1.file hd, K_nil] at this
      simp only [hx] at this
      cases this
  have hleaf2 : ∀ r, r ≠ [] → ix (tp ++ [tx] ++ r) = none := by
    intro r hr
    cases r with
    | nil => exact absurd rfl hr
    | cons z r => have := h.sub (hleaf z) r; simpa using this
  have hntf : ¬ (tp ++ [tx]) <+: fp := by
    rintro ⟨r, hr⟩
    by_cases e : r = []
    · subst e
      rw [List.append_nil] at hr
      have := hleaf fx
      rw [hr, hx] at this
      cases this
    · have := hleaf2 r e
      rw [hr, hf] at this
      cases this
  have hntt : ¬ (tp ++ [tx]) <+: tp := by
    rintro ⟨r, hr⟩
    have := congrArg List.length hr
    simp at this
  have hnff : ¬ (fp ++ [fx]) <+: fp := by
    rintro ⟨r, hr⟩
    have := congrArg List.length hr
    simp at this
  have hft : ¬ (fp ++ [fx]) <+: (tp ++ [tx]) := fun hh => hne (pre_snoc2 hh hnp)
  have kfp : ∀ q, ix q = some kf → q = fp := fun q hq => h.inj _ _ _ hq hf
  have ktp : ∀ q, ix q = some kt → q = tp := fun q hq => h.inj _ _ _ hq ht
  have hmt : ∀ r, mvX ix (fp ++ [fx]) (tp ++ [tx]) (tp ++ [tx] ++ r) = ix (fp ++ [fx] ++ r) := by
    intro r
    unfold mvX
    rw [if_pos ⟨r, rfl⟩, List.drop_left]
  have hmo : ∀ q, ¬ (tp ++ [tx]) <+: q → ¬ (fp ++ [fx]) <+: q → mvX ix (fp ++ [fx]) (tp ++ [tx]) q = ix q := by
    intro q h1 h2
    unfold mvX
    rw [if_neg h1, if_neg h2]
  have hmf : ∀ q, ¬ (tp ++ [tx]) <+: q → (fp ++ [fx]) <+: q → mvX ix (fp ++ [fx]) (tp ++ [tx]) q = none := by
    intro q h1 h2
    unfold mvX
    rw [if_neg h1, if_pos h2]
  refine ⟨?_, ?_, fun q i hi => ?_, fun q q' i hi hi' => ?_, fun q hq => ?_⟩
  · rw [hmo [] (by simp) (by simp)]; exact h.root
  · by_cases e : 0 = kf
    · subst e; rw [hLf]; exact h.rdir
    · by_cases e2 : 0 = kt
      · subst e2; rw [hLt]; exact h.rdir
      · rw [hLo 0 (h.at_ [] 0 h.root).1 e e2 (fun hh => by have := h.inj _ _ _ hh h.root; simp at this)]; exact h.rdir
  · by_cases c1 : (tp ++ [tx]) <+: q
    · obtain ⟨r, rfl⟩ := c1
      rw [hmt] at hi
      have h1 := h.at_ _ i hi
      have n1 : i ≠ kf := by rintro rfl; exact hnff ⟨r, kfp _ hi⟩
      have n2 : i ≠ kt := by rintro rfl; exact hnp ⟨r, ktp _ hi⟩
      have n3 : ix (tp ++ [tx]) ≠ some i := fun hh => hft ⟨r, h.inj _ _ _ hi hh⟩
      refine ⟨by omega, ?_⟩
      rw [hLo i h1.1 n1 n2 n3]
      have q1 : tp ++ [tx] ++ r ≠ fp := fun e => hntf ⟨r, e⟩
      have q2 : tp ++ [tx] ++ r ≠ tp := fun e => hntt ⟨r, e⟩
      refine ⟨h1.2.is, ?_, fun z => ?_, h1.2.file, h1.2.dirB, h1.2.uniq⟩
      · rw [hao _ q1 q2, mvA, if_pos ⟨r, rfl⟩, List.drop_left]
        exact h1.2.nd
      · have := hmt (r ++ [z])
        rw [← List.append_assoc] at this
        rw [this]
        have := h1.2.kid z
        simpa using this
    · by_cases c2 : (fp ++ [fx]) <+: q
      · rw [hmf q c1 c2] at hi; cases hi
      · rw [hmo q c1 c2] at hi
        have h1 := h.at_ q i hi
        refine ⟨by omega, ?_⟩
        have kidq : ∀ z, q ++ [z] ≠ tp ++ [tx] → q ++ [z] ≠ fp ++ [fx] → mvX ix (fp ++ [fx]) (tp ++ [tx]) (q ++ [z]) = ix (q ++ [z]) := fun z z1 z2 => hmo _ (fun hh => z1 (pre_snoc2 hh c1).symm) (fun hh => z2 (pre_snoc2 hh c2).symm)
        by_cases e1 : i = kf
        · subst e1
          have := kfp q hi
          subst this
          rw [hLf]
          refine ⟨h1.2.is, by rw [haf, hLf], fun z => ?_, fun hd => absurd (hdf.symm.trans hd) (by simp), h1.2.dirB, hUf⟩
          show mvX ix (q ++ [fx]) (tp ++ [tx]) (q ++ [z]) = K Sf z
          by_cases e2 : i = kt
          · subst e2
            have := ktp q hi
            subst this
            rw [hK2 rfl]
            by_cases z1 : z = tx
            · subst z1
              rw [if_pos rfl]
              have := hmt []
              rw [List.append_nil, List.append_nil] at this
              rw [this]; exact hx
            · rw [if_neg z1]
              by_cases z2 : z = fx
              · subst z2
                rw [if_pos rfl]
                exact hmf _ (fun hh => z1 (snoc_inj2 (pre_snoc2 hh c1)).2.symm) (List.prefix_refl _)
              · rw [if_neg z2, kidq z (fun e => z1 (snoc_inj2 e).2) (fun e => z2 (snoc_inj2 e).2)]
                exact h1.2.kid z
          · have hqt : q ≠ tp := by rintro rfl; rw [hi] at ht; cases ht; exact e2 rfl
            rw [(hK1 e2).1]
            by_cases z2 : z = fx
            · subst z2
              rw [if_pos rfl]
              exact hmf _ (fun hh => hqt (snoc_inj2 (pre_snoc2 hh c1)).1.symm) (List.prefix_refl _)
            · rw [if_neg z2, kidq z (fun e => hqt (snoc_inj2 e).1) (fun e => z2 (snoc_inj2 e).2)]
              exact h1.2.kid z
        · have hqf : q ≠ fp := by rintro rfl; rw [hi] at hf; cases hf; exact e1 rfl
          by_cases e2 : i = kt
          · subst e2
            have := ktp q hi
            subst this
            rw [hLt]
            refine ⟨h1.2.is, by rw [hat, hLt], fun z => ?_, fun hd => absurd (hdt.symm.trans hd) (by simp), h1.2.dirB, hUt⟩
            show mvX ix (fp ++ [fx]) (q ++ [tx]) (q ++ [z]) = K St z
            rw [(hK1 (fun e => e1 e.symm)).2]
            by_cases z1 : z = tx
            · subst z1
              rw [if_pos rfl]
              have := hmt []
              rw [List.append_nil, List.append_nil] at this
              rw [this]; exact hx
            · rw [if_neg z1, kidq z (fun e => z1 (snoc_inj2 e).2) (fun e => hqf (snoc_inj2 e).1)]
              exact h1.2.kid z
          · have hqt : q ≠ tp := by rintro rfl; rw [hi] at ht; cases ht; exact e2 rfl
            have n3 : ix (tp ++ [tx]) ≠ some i := fun hh => c1 (by rw [h.inj _ _ _ hi hh]; exact List.prefix_refl _)
            rw [hLo i h1.1 e1 e2 n3]
            refine ⟨h1.2.is, ?_, fun z => ?_, h1.2.file, h1.2.dirB, h1.2.uniq⟩
            · rw [hao q hqf hqt, mvA, if_neg c1, if_neg c2]
              exact h1.2.nd
            · rw [kidq z (fun e => hqt (snoc_inj2 e).1) (fun e => hqf (snoc_inj2 e).1)]
              exact h1.2.kid z
  · by_cases c1 : (tp ++ [tx]) <+: q <;> by_cases c1' : (tp ++ [tx]) <+: q'
    · obtain ⟨r, rfl⟩ := c1
      obtain ⟨r', rfl⟩ := c1'
      rw [hmt] at hi hi'
      have := List.append_cancel_left (h.inj _ _ _ hi hi')
      rw [this]
    · obtain ⟨r, rfl⟩ := c1
      rw [hmt] at hi
      by_cases c2 : (fp ++ [fx]) <+: q'
      · rw [hmf q' c1' c2] at hi'; cases hi'
      · rw [hmo q' c1' c2] at hi'
        exact absurd ⟨r, h.inj _ _ _ hi hi'⟩ c2
    · obtain ⟨r, rfl⟩ := c1'
      rw [hmt] at hi'
      by_cases c2 : (fp ++ [fx]) <+: q
      · rw [hmf q c1 c2] at hi; cases hi
      · rw [hmo q c1 c2] at hi
        exact absurd ⟨r, h.inj _ _ _ hi' hi⟩ c2
    · by_cases c2 : (fp ++ [fx]) <+: q
      · rw [hmf q c1 c2] at hi; cases hi
      · by_cases c2' : (fp ++ [fx]) <+: q'
        · rw [hmf q' c1' c2'] at hi'; cases hi'
        · rw [hmo q c1 c2] at hi
          rw [hmo q' c1' c2'] at hi'
          exact h.inj _ _ _ hi hi'
  · by_cases c1 : (tp ++ [tx]) <+: q
    · obtain ⟨r, rfl⟩ := c1
      rw [hmt] at hq
      have q1 : tp ++ [tx] ++ r ≠ fp := fun e => hntf ⟨r, e⟩
      have q2 : tp ++ [tx] ++ r ≠ tp := fun e => hntt ⟨r, e⟩
      refine ⟨?_, fun z => ?_⟩
      · rw [hao _ q1 q2, mvA, if_pos ⟨r, rfl⟩, List.drop_left]
        exact (h.none_ _ hq).1
      · have := hmt (r ++ [z])
        rw [← List.append_assoc] at this
        rw [this]
        have := (h.none_ _ hq).2 z
        simpa using this
    · have c3 : ∀ z, (tp ++ [tx]) <+: q ++ [z] → q = tp := fun z hh => (snoc_inj2 (pre_snoc2 hh c1)).1.symm
      by_cases c2 : (fp ++ [fx]) <+: q
      · have q1 : q ≠ fp := by rintro rfl; exact hnff c2
        have q2 : q ≠ tp := by rintro rfl; exact hnp c2
        refine ⟨?_, fun z => hmf _ (fun hh => q2 (c3 z hh)) (c2.trans (List.prefix_append _ _))⟩
        rw [hao _ q1 q2, mvA, if_neg c1, if_pos c2]
      · rw [hmo q c1 c2] at hq
        have q1 : q ≠ fp := by rintro rfl; rw [hq] at hf; cases hf
        have q2 : q ≠ tp := by rintro rfl; rw [hq] at ht; cases ht
        refine ⟨?_, fun z => ?_⟩
        · rw [hao _ q1 q2, mvA, if_neg c1, if_neg c2]
          exact (h.none_ q hq).1
        · rw [hmo _ (fun hh => q2 (c3 z hh)) (fun hh => q1 (snoc_inj2 (pre_snoc2 hh c2)).1.symm)]
          exact (h.none_ q hq).2 z
end Go.Proofs.YtpdcjdangnfeiaaGreatDoor.Rc
namespace Go.Proofs.YtpdcjdangnfeiaaGreatDoor.Rc
theorem inoL_get {S : List S106} {i : Nat} {e : S106} (h : S[i]? = some e) : inoL S i = e.f1 := by
  unfold inoL
  rw [List.getD_eq_getElem?_getD, h, Option.getD_some]
theorem atL_iff {S : List S106} (hU : Uq S) {z : ByteArray} {i : Nat} : atL S z = some i ↔ z ≠ ByteArray.empty ∧ ∃ e, S[i]? = some e ∧ e.f0 = z := by
  constructor
  · intro h
    obtain ⟨e, h1, h2, h3⟩ := atL_some h
    exact ⟨h3, e, h1, h2⟩
  · rintro ⟨hz, e, h1, h2⟩
    cases h : atL S z with
    | none => exact absurd h2 (atL_none hz h e (List.mem_of_getElem? h1))
    | some j =>
      obtain ⟨f, h3, h4, -⟩ := atL_some h
      rw [hU i j e f h1 h3 (h2.trans h4.symm) (by rw [h2]; exact hz)]
theorem K_iff {S : List S106} (hU : Uq S) {z : ByteArray} {k : Nat} : K S z = some k ↔ z ≠ ByteArray.empty ∧ ∃ (i : Nat) (e : S106), S[i]? = some e ∧ e.f0 = z ∧ (e.f1 - 1).toNat = k := by
  unfold K
  rw [Option.map_eq_some_iff]
  constructor
  · rintro ⟨i, h, h2⟩
    obtain ⟨hz, e, h3, h4⟩ := (atL_iff hU).1 h
    rw [inoL_get h3] at h2
    exact ⟨hz, i, e, h3, h4, h2⟩
  · rintro ⟨hz, i, e, h3, h4, h2⟩
    exact ⟨i, (atL_iff hU).2 ⟨hz, e, h3, h4⟩, by rw [inoL_get h3]; exact h2⟩
theorem K_none {S : List S106} (hU : Uq S) {z : ByteArray} (hz : z ≠ ByteArray.empty) : K S z = none ↔ ∀ e ∈ S, e.f0 ≠ z := by
  rw [Option.eq_none_iff_forall_ne_some]
  constructor
  · intro h e he hf
    obtain ⟨i, hi⟩ := List.mem_iff_getElem?.1 he
    exact h _ ((K_iff hU).2 ⟨hz, i, e, hi, hf, rfl⟩)
  · intro h k hk
    obtain ⟨-, i, e, hi, hf, -⟩ := (K_iff hU).1 hk
    exact h e (List.mem_of_getElem? hi) hf
theorem K_none' {S : List S106} {z : ByteArray} : K S z = none ↔ atL S z = none := by
  unfold K
  rw [Option.map_eq_none_iff]
theorem get_setS {S : List S106} {i j : Nat} {e' e : S106} (hi : i < S.length) : (S.set i e')[j]? = some e ↔ (j = i ∧ e = e') ∨ (j ≠ i ∧ S[j]? = some e) := by
  by_cases h : j = i
  · subst h
    rw [List.getElem?_set_self hi]
    simp [eq_comm]
  · rw [List.getElem?_set_ne (Ne.symm h)]
    simp [h]
theorem Uq_set {S : List S106} (hU : Uq S) {i : Nat} (hi : i < S.length) (e' : S106) (hv : e'.f0 = ByteArray.empty ∨ ∀ (j : Nat) (f : S106), S[j]? = some f → f.f0 = e'.f0 → j = i) : Uq (S.set i e') := by
  intro j1 j2 e f h1 h2 h3 h4
  rw [get_setS hi] at h1 h2
  rcases h1 with ⟨rfl, rfl⟩ | ⟨n1, h1⟩ <;> rcases h2 with ⟨rfl, rfl⟩ | ⟨n2, h2⟩
  · rfl
  · rcases hv with hv | hv
    · exact absurd hv h4
    · exact (hv j2 f h2 h3.symm).symm
  · rcases hv with hv | hv
    · exact absurd (h3.trans hv) h4
    · exact hv j1 e h1 h3
  · exact hU j1 j2 e f h1 h2 h3 h4
theorem K_set {S : List S106} (hU : Uq S) {i : Nat} {e0 : S106} (hi : S[i]? = some e0) (e' : S106) (hv : e'.f0 = ByteArray.empty ∨ ∀ (j : Nat) (f : S106), S[j]? = some f → f.f0 = e'.f0 → j = i) (z : ByteArray) :
    K (S.set i e') z = if z = e'.f0 ∧ z ≠ ByteArray.empty then some (e'.f1 - 1).toNat else if z = e0.f0 then none else K S z := by
  have hlt := (List.getElem?_eq_some_iff.1 hi).1
  have hU' := Uq_set hU hlt e' hv
  apply Option.ext
  intro k
  rw [K_iff hU']
  constructor
  · rintro ⟨hz, j, e, h1, h2, h3⟩
    rw [get_setS hlt] at h1
    rcases h1 with ⟨rfl, rfl⟩ | ⟨n1, h1⟩
    · rw [if_pos ⟨h2.symm, hz⟩, h3]
    · rw [if_neg, if_neg]
      · exact (K_iff hU).2 ⟨hz, j, e, h1, h2, h3⟩
      · intro hc
        exact n1 (hU j i e e0 h1 hi (h2.trans hc) (by rw [h2]; exact hz))
      · rintro ⟨hc, -⟩
        rcases hv with hv | hv
        · exact hz (hc.trans hv)
        · exact n1 (hv j e h1 (h2.trans hc))
  · intro h
    split at h
    · rename_i hc
      cases h
      exact ⟨hc.2, i, e', (get_setS hlt).2 (.inl ⟨rfl, rfl⟩), hc.1.symm, rfl⟩
    · split at h
      · cases h
      · rename_i c1 c2
        obtain ⟨hz, j, e, h1, h2, h3⟩ := (K_iff hU).1 h
        refine ⟨hz, j, e, (get_setS hlt).2 (.inr ⟨?_, h1⟩), h2, h3⟩
        rintro rfl
        rw [hi] at h1
        cases h1
        exact c2 h2.symm
theorem Uq_add {S : List S106} (hU : Uq S) (e' : S106) (hv : ∀ e ∈ S, e.f0 ≠ e'.f0) : Uq (S ++ [e']) := by
  intro j1 j2 e f h1 h2 h3 h4
  rw [List.getElem?_append] at h1 h2
  by_cases c1 : j1 < S.length <;> by_cases c2 : j2 < S.length
  · rw [if_pos c1] at h1; rw [if_pos c2] at h2; exact hU _ _ _ _ h1 h2 h3 h4
  · rw [if_pos c1] at h1; rw [if_neg c2] at h2
    have hf : f = e' := by
      have := List.mem_of_getElem? h2
      simpa using this
    subst hf
    exact absurd h3 (hv e (List.mem_of_getElem? h1))
  · rw [if_neg c1] at h1; rw [if_pos c2] at h2
    have hf : e = e' := by
      have := List.mem_of_getElem? h1
      simpa using this
    subst hf
    exact absurd h3.symm (hv f (List.mem_of_getElem? h2))
  · rw [if_neg c1] at h1; rw [if_neg c2] at h2
    have l1 := (List.getElem?_eq_some_iff.1 h1).1
    have l2 := (List.getElem?_eq_some_iff.1 h2).1
    simp only [List.length_singleton] at l1 l2
    omega
theorem K_add {S : List S106} (hU : Uq S) (e' : S106) (h0 : e'.f0 ≠ ByteArray.empty) (hv : ∀ e ∈ S, e.f0 ≠ e'.f0) (z : ByteArray) : K (S ++ [e']) z = if z = e'.f0 then some (e'.f1 - 1).toNat else K S z := by
  have hU' := Uq_add hU e' hv
  apply Option.ext
  intro k
  rw [K_iff hU']
  constructor
  · rintro ⟨hz, j, e, h1, h2, h3⟩
    rw [List.getElem?_append] at h1
    by_cases c1 : j < S.length
    · rw [if_pos c1] at h1
      rw [if_neg (fun hc => hv e (List.mem_of_getElem? h1) (h2.trans hc))]
      exact (K_iff hU).2 ⟨hz, j, e, h1, h2, h3⟩
    · rw [if_neg c1] at h1
      have hf : e = e' := by
        have := List.mem_of_getElem? h1
        simpa using this
      subst hf
      rw [if_pos h2.symm, h3]
  · intro h
    split at h
    · rename_i hc
      subst hc
      cases h
      exact ⟨h0, S.length, e', by simp, rfl, rfl⟩
    · obtain ⟨hz, j, e, h1, h2, h3⟩ := (K_iff hU).1 h
      refine ⟨hz, j, e, ?_, h2, h3⟩
      rw [List.getElem?_append_left (List.getElem?_eq_some_iff.1 h1).1]
      exact h1
theorem cnt_eq (S : List S106) : cnt S = S.countP (fun e => !isE e) := by
  unfold cnt
  rw [List.countP_eq_length_filter]
theorem cnt_set {S : List S106} {i : Nat} {e0 : S106} (hi : S[i]? = some e0) (e' : S106) : cnt (S.set i e') + (if isE e0 then 0 else 1) = cnt S + (if isE e' then 0 else 1) := by
  have hlt := (List.getElem?_eq_some_iff.1 hi).1
  have he := (List.getElem?_eq_some_iff.1 hi).2
  rw [cnt_eq, cnt_eq, List.countP_set hlt, he]
  have hle : (if isE e0 = true then 0 else 1) ≤ S.countP (fun e => !isE e) := by
    split
    · exact Nat.zero_le _
    · rename_i hn
      exact List.countP_pos_iff.2 ⟨e0, List.mem_of_getElem? hi, by simpa using hn⟩
  obtain ⟨C, hC⟩ : ∃ C, S.countP (fun e => !isE e) = C := ⟨_, rfl⟩
  rw [hC] at hle ⊢
  clear hC
  cases h1 : isE e0 <;> cases h2 : isE e' <;> simp [h1] at hle ⊢ <;> omega
theorem cnt_le (S : List S106) : cnt S ≤ S.length := by
  unfold cnt
  exact List.length_filter_le _ _
theorem cnt_full {S : List S106} (h : S.findIdx? isE = none) : cnt S = S.length := by
  unfold cnt
  rw [List.filter_eq_self.2]
  intro e he
  have := List.findIdx?_eq_none_iff.1 h e he
  simp [this]
theorem cnt_room {S : List S106} {i : Nat} (h : S.findIdx? isE = some i) : cnt S < S.length := by
  obtain ⟨h1, h2, -⟩ := List.findIdx?_eq_some_iff_getElem.1 h
  have h3 := cnt_set (List.getElem?_eq_getElem h1) ⟨⟨#[65]⟩, 0⟩
  rw [if_pos h2] at h3
  have h4 : isE ⟨⟨#[65]⟩, 0⟩ = false := by decide
  rw [h4] at h3
  have := cnt_le (S.set i ⟨⟨#[65]⟩, 0⟩)
  rw [List.length_set] at this
  simp at h3
  omega
theorem isE_ne {x : ByteArray} (m : Int) (hx : x ≠ ByteArray.empty) : isE ⟨x, m⟩ = false := by simp [isE, hx]
theorem isE_emp (m : Int) : isE ⟨ByteArray.empty, m⟩ = true := by simp [isE]
/-- A name put. -/
theorem putL_facts {S : List S106} (hU : Uq S) {x : ByteArray} (hx : x ≠ ByteArray.empty) (ha : atL S x = none) (m : Int) :
    Uq (putL S x m) ∧ (∀ z, K (putL S x m) z = if z = x then some (m - 1).toNat else K S z) ∧ cnt (putL S x m) = cnt S + 1 ∧ slotsL (putL S x m) = (if cnt S < slotsL S * 8 then slotsL S else slotsL S + 1) ∧ (∀ e ∈ putL S x m, e ∈ S ∨ e = ⟨x, m⟩) := by
  have hno := atL_none hx ha
  have hcl := cnt_le S
  unfold putL
  cases hf : S.findIdx? isE with
  | some i =>
    obtain ⟨h1, h2, -⟩ := List.findIdx?_eq_some_iff_getElem.1 hf
    have hi := List.getElem?_eq_getElem h1
    have he0 : S[i].f0 = ByteArray.empty := by simpa [isE] using h2
    have hv : (⟨x, m⟩ : S106).f0 = ByteArray.empty ∨ ∀ (j : Nat) (f : S106), S[j]? = some f → f.f0 = (⟨x, m⟩ : S106).f0 → j = i := .inr fun j f hj he => absurd he (hno f (List.mem_of_getElem? hj))
    have hc := cnt_set hi ⟨x, m⟩
    rw [if_pos h2, isE_ne m hx] at hc
    have hr := cnt_room hf
    dsimp only
    refine ⟨Uq_set hU h1 _ hv, fun z => ?_, by simpa using hc, ?_, fun e he => List.mem_or_eq_of_mem_set he⟩
    · rw [K_set hU hi _ hv, he0]
      by_cases hz : z = x
      · rw [if_pos ⟨hz, by rw [hz]; exact hx⟩, if_pos hz]
      · rw [if_neg (fun h => hz h.1), if_neg hz]
        split
        · rename_i h; rw [h, K_emp]
        · rfl
    · unfold slotsL
      rw [List.length_set, if_pos (by omega)]
  | none =>
    have hc := cnt_full hf
    dsimp only
    refine ⟨Uq_add hU _ hno, fun z => K_add hU _ hx hno z, ?_, ?_, fun e he => by simpa using he⟩
    · rw [cnt_eq, List.countP_append, ← cnt_eq]
      simp [isE_ne m hx]
    · unfold slotsL
      rw [List.length_append, List.length_singleton]
      split <;> omega
/-- A name taken out. -/
theorem takeL_facts {S : List S106} (hU : Uq S) {x : ByteArray} {i : Nat} (ha : atL S x = some i) :
    takeS S x = S.set i ⟨ByteArray.empty, 0⟩ ∧ Uq (takeS S x) ∧ (∀ z, K (takeS S x) z = if z = x then none else K S z) ∧ cnt (takeS S x) = cnt S - 1 ∧ 0 < cnt S ∧ slotsL (takeS S x) = slotsL S ∧ (∀ e ∈ takeS S x, e ∈ S ∨ e = ⟨ByteArray.empty, 0⟩) ∧ (takeS S x).length = S.length := by
  have e1 : takeS S x = S.set i ⟨ByteArray.empty, 0⟩ := by unfold takeS; rw [ha]
  obtain ⟨e, hi, hf, hx⟩ := atL_some ha
  have h1 := (List.getElem?_eq_some_iff.1 hi).1
  have hc := cnt_set hi ⟨ByteArray.empty, 0⟩
  have he : isE e = false := by simp [isE, hf, hx]
  rw [he, isE_emp] at hc
  rw [e1]
  simp only [Bool.false_eq_true, if_false, if_true] at hc
  refine ⟨rfl, Uq_set hU h1 _ (.inl rfl), fun z => ?_, by omega, by omega, by unfold slotsL; rw [List.length_set], fun e he => List.mem_or_eq_of_mem_set he, by rw [List.length_set]⟩
  rw [K_set hU hi _ (.inl rfl), hf, if_neg (fun h => h.2 h.1)]
/-- A name's number changed. -/
theorem inoL_facts {S : List S106} (hU : Uq S) {y : ByteArray} {i : Nat} (ha : atL S y = some i) (m : Int) :
    Uq (S.set i ⟨y, m⟩) ∧ (∀ z, K (S.set i ⟨y, m⟩) z = if z = y then some (m - 1).toNat else K S z) ∧ cnt (S.set i ⟨y, m⟩) = cnt S ∧ slotsL (S.set i ⟨y, m⟩) = slotsL S ∧ (∀ e ∈ S.set i ⟨y, m⟩, e ∈ S ∨ e = ⟨y, m⟩) ∧ ∀ x, atL (S.set i ⟨y, m⟩) x = atL S x := by
  obtain ⟨e, hi, hf, hy⟩ := atL_some ha
  have h1 := (List.getElem?_eq_some_iff.1 hi).1
  have hc := cnt_set hi ⟨y, m⟩
  have he : isE e = false := by simp [isE, hf, hy]
  rw [he, isE_ne m hy] at hc
  have hv : (⟨y, m⟩ : S106).f0 = ByteArray.empty ∨ ∀ (j : Nat) (f : S106), S[j]? = some f → f.f0 = (⟨y, m⟩ : S106).f0 → j = i := .inr fun j f hj he => hU j i f e hj hi (he.trans hf.symm) (by rw [he]; exact hy)
  refine ⟨Uq_set hU h1 _ hv, fun z => ?_, by simpa using hc, by unfold slotsL; rw [List.length_set], fun e he => List.mem_or_eq_of_mem_set he, fun x => by rw [← hf]; exact atL_ino hi m x⟩
  rw [K_set hU hi _ hv, hf]
  by_cases hz : z = y
  · rw [if_pos ⟨hz, by rw [hz]; exact hy⟩, if_pos hz]
  · rw [if_neg (fun h => hz h.1), if_neg hz, if_neg hz]
/-- A name changed. -/
theorem moveL_facts {S : List S106} (hU : Uq S) {x y : ByteArray} {i : Nat} (ha : atL S x = some i) (hy : y ≠ ByteArray.empty) (hb : atL S y = none) :
    moveS S x y = S.set i ⟨y, inoL S i⟩ ∧ Uq (moveS S x y) ∧ (∀ z, K (moveS S x y) z = if z = y then K S x else if z = x then none else K S z) ∧ cnt (moveS S x y) = cnt S ∧ slotsL (moveS S x y) = slotsL S ∧ (∀ e ∈ moveS S x y, e ∈ S ∨ e = ⟨y, inoL S i⟩) ∧ (moveS S x y).length = S.length := by
  have e1 : moveS S x y = S.set i ⟨y, inoL S i⟩ := by unfold moveS; rw [ha]
  have hno := atL_none hy hb
  obtain ⟨e, hi, hf, hx⟩ := atL_some ha
  have h1 := (List.getElem?_eq_some_iff.1 hi).1
  have hc := cnt_set hi ⟨y, inoL S i⟩
  have he : isE e = false := by simp [isE, hf, hx]
  rw [he, isE_ne _ hy] at hc
  have hv : (⟨y, inoL S i⟩ : S106).f0 = ByteArray.empty ∨ ∀ (j : Nat) (f : S106), S[j]? = some f → f.f0 = (⟨y, inoL S i⟩ : S106).f0 → j = i := .inr fun j f hj he => absurd he (hno f (List.mem_of_getElem? hj))
  rw [e1]
  refine ⟨rfl, Uq_set hU h1 _ hv, fun z => ?_, by simpa using hc, by unfold slotsL; rw [List.length_set], fun e he => List.mem_or_eq_of_mem_set he, by rw [List.length_set]⟩
  rw [K_set hU hi _ hv, hf]
  by_cases hz : z = y
  · rw [if_pos ⟨hz, by rw [hz]; exact hy⟩, if_pos hz]
    unfold K
    rw [ha]
    rfl
  · rw [if_neg (fun h => hz h.1), if_neg hz]
/-- How much a directory grows. -/
theorem grow_eq {S : List S106} (hU : Uq S) {x : ByteArray} (hx : x ≠ ByteArray.empty) (ha : atL S x = none) (m : Int) (hl : S.length ≤ 50000) : (needL (putL S x m) : Int) - (needL S : Int) = (growsA ⟨true, [], slotsL S, cnt S⟩ : Nat) := by
  have h := (putL_facts hU hx ha m).2.2.2.1
  unfold needL growsA blocksA
  rw [h]
  dsimp only
  by_cases c : cnt S < slotsL S * 8
  · rw [if_pos c, if_pos c]; omega
  · rw [if_neg c, if_neg c]
    have h3 : slotsL S ≤ 10000 := by unfold slotsL; omega
    have h2 := Ud.allB_step (slotsL S) h3
    simp only [if_true]
    omega
theorem nmF_len : ∀ (S : List S106) (out : List ByteArray), (nmF out S).length = out.length + cnt S
  | [], out => by simp [nmF, cnt]
  | e :: S, out => by
    unfold nmF
    by_cases h : e.f0 = ByteArray.empty
    · rw [if_pos h, nmF_len S out]
      simp [cnt, isE, h]
    · rw [if_neg h, nmF_len S, insR_len]
      simp [cnt, isE, h]
      omega
theorem nmR_len (S : List S106) : (nmR S).length = cnt S := by rw [nmR, nmF_len]; simp
theorem nmR_nil {S : List S106} : nmR S = [] ↔ cnt S = 0 := by rw [← nmR_len, List.length_eq_zero_iff]
theorem K_of_cnt {S : List S106} (h : cnt S = 0) (z : ByteArray) : K S z = none := by
  rw [K_none']
  cases hz : atL S z with
  | none => rfl
  | some i =>
    obtain ⟨e, h1, h2, h3⟩ := atL_some hz
    have h4 : cnt S = S.countP (fun e => !isE e) := cnt_eq S
    have h5 : 0 < S.countP (fun e => !isE e) := List.countP_pos_iff.2 ⟨e, List.mem_of_getElem? h1, by simp [isE, h2, h3]⟩
    omega
end Go.Proofs.YtpdcjdangnfeiaaGreatDoor.Rc
namespace Go.Proofs.YtpdcjdangnfeiaaGreatDoor.Rc
structure Tied (r : RS) (s : Ua.S) (M : Nat) (ix : Wy → Option Nat) : Prop where
  rel : Rel r.L s.a ix
  wf : WfL r.L M
  n : r.n = s.blocks
  m : r.m = s.inodes
  bn : s.blocks ≤ 20000 * M
  bm : s.inodes ≤ 100 * M
def Out (r : RS) (s : Ua.S) (M : Nat) (z : RS × Int) (E : Int) (s' : Ua.S) : Prop := z.2 = E ∧ (E = 0 → ∃ ix', Tied z.1 s' (M + 1) ix') ∧ (E ≠ 0 → z.1 = r)
theorem Out.err {r : RS} {s s' : Ua.S} {M : Nat} {E : Int} (h : E ≠ 0) : Out r s M (r, E) E s' := ⟨rfl, fun e => absurd e h, fun _ => rfl⟩
theorem Out.ok {r r' : RS} {s s' : Ua.S} {M : Nat} {ix' : Wy → Option Nat} (h : Tied r' s' (M + 1) ix') : Out r s M (r', 0) 0 s' := ⟨rfl, fun _ => ⟨ix', h⟩, fun e => absurd rfl e⟩
theorem wayA_snoc (a : Wy → Option N) (x : ByteArray) : ∀ r q : Wy, wayA a q (r ++ [x]) = if wayA a q r ≠ 0 then wayA a q r else match a (q ++ r) with
    | none => 8
    | some d => if d.dir then 0 else 11 := by
  intro r
  induction r with
  | nil => intro q; cases h : a q <;> simp [wayA, h]
  | cons y r ih =>
    intro q
    have e : q ++ y :: r = q ++ [y] ++ r := by simp
    rw [List.cons_append]
    unfold wayA
    cases h : a q with
    | none => simp
    | some d =>
      have ih' := ih (q ++ [y])
      rw [← e] at ih'
      obtain ⟨dd, dt, sl, kk⟩ := d
      dsimp only
      rw [ih']
      cases dd
      · simp only [ne_eq, not_true_eq_false, not_false_eq_true, ↓reduceIte, reduceCtorEq, Int.reduceEq, Option.isSome_some, Option.isSome_none]
      · simp only [ne_eq, not_true_eq_false, not_false_eq_true, ↓reduceIte, reduceCtorEq, Int.reduceEq, Option.isSome_some, Option.isSome_none]
theorem _root_.Go.Proofs.YtpdcjdangnfeiaaGreatDoor.Rd.WfL.mono {L : List T} {M M' : Nat} (h : WfL L M) (hM : M ≤ M') : WfL L M' := ⟨by have := h.len; omega, fun k x hx => by have := h.sz k x hx; omega, h.ino⟩
theorem _root_.Go.Proofs.YtpdcjdangnfeiaaGreatDoor.Rd.WfL.set {L : List T} {M M' k : Nat} (h : WfL L M) (hM : M ≤ M') (t : T) (hS : t.S.length ≤ M') (hB : t.B.length ≤ 8458240) (hI : ∀ e ∈ t.S, e.f0 ≠ ByteArray.empty → 1 ≤ e.f1 ∧ e.f1 ≤ L.length) : WfL (L.set k t) M' := by
  refine ⟨by rw [List.length_set]; have := h.len; omega, fun j x hx => ?_, fun j x hx e he h0 => ?_⟩
  · rcases get_of_set hx with ⟨-, rfl, -⟩ | ⟨-, hx⟩
    · exact ⟨hS, hB⟩
    · have := h.sz j x hx; omega
  · rw [List.length_set]
    rcases get_of_set hx with ⟨-, rfl, -⟩ | ⟨-, hx⟩
    · exact hI e he h0
    · exact h.ino j x hx e he h0
theorem _root_.Go.Proofs.YtpdcjdangnfeiaaGreatDoor.Rd.WfL.at_ {L : List T} {M k : Nat} (h : WfL L M) (hk : k < L.length) : (thL L k).S.length ≤ M ∧ (thL L k).B.length ≤ 8458240 ∧ ∀ e ∈ (thL L k).S, e.f0 ≠ ByteArray.empty → 1 ≤ e.f1 ∧ e.f1 ≤ L.length :=
  ⟨(h.sz k _ (thL_get hk)).1, (h.sz k _ (thL_get hk)).2, h.ino k _ (thL_get hk)⟩
theorem fresh_facts (L : List T) (x : T) : L.length ≤ (freshL L x).1.length ∧ (freshL L x).1.length ≤ L.length + 1 ∧ (freshL L x).2 < (freshL L x).1.length ∧ thL (freshL L x).1 (freshL L x).2 = x ∧ (∀ i, i < L.length → i ≠ (freshL L x).2 → thL (freshL L x).1 i = thL L i) ∧ (∀ i, i < L.length → (thL L i).is = true → i ≠ (freshL L x).2) := by
  unfold freshL
  cases h : L.findIdx? (fun t => !t.is) with
  | some j =>
    obtain ⟨h1, h2, -⟩ := List.findIdx?_eq_some_iff_getElem.1 h
    dsimp only
    refine ⟨by simp, by simp, by simpa using h1, thL_set_self x h1, fun i hi hne => thL_set_ne x hne, fun i hi his => ?_⟩
    rintro rfl
    have e : thL L i = L[i] := by unfold thL; rw [List.getD_eq_getElem?_getD, List.getElem?_eq_getElem h1]; rfl
    rw [e] at his
    simp [his] at h2
  | none =>
    dsimp only
    refine ⟨by simp, by simp, by simp, ?_, fun i hi hne => ?_, fun i hi his => by omega⟩
    · unfold thL; rw [List.getD_eq_getElem?_getD]; simp
    · unfold thL; rw [List.getD_eq_getElem?_getD, List.getD_eq_getElem?_getD, List.getElem?_append_left hi]
theorem _root_.Go.Proofs.YtpdcjdangnfeiaaGreatDoor.Rd.WfL.fresh {L : List T} {M : Nat} (h : WfL L M) (d : Bool) : WfL (freshL L ⟨true, d, [], []⟩).1 (M + 1) := by
  unfold freshL
  cases hf : L.findIdx? (fun t => !t.is) with
  | some j => exact h.set (by omega) _ (by simp) (by simp) (by simp)
  | none =>
    dsimp only
    refine ⟨by have := h.len; simp; omega, fun k x hx => ?_, fun k x hx e he h0 => ?_⟩
    · rw [List.getElem?_append] at hx
      split at hx
      · have := h.sz k x hx; omega
      · have := List.mem_of_getElem? hx
        simp at this
        subst this
        simp
    · rw [List.getElem?_append] at hx
      split at hx
      · have := h.ino k x hx e he h0
        simp only [List.length_append, List.length_singleton]
        omega
      · have := List.mem_of_getElem? hx
        simp at this
        subst this
        simp at he
section
variable {r : RS} {s : Ua.S} {M : Nat} {ix : Wy → Option Nat}
/-- Where a walk ends. -/
theorem Tied.walk (h : Tied r s M ix) (p : Wy) : (walkL r.L 0 p).2 = (if wayA s.a [] p ≠ 0 then wayA s.a [] p else if (s.a p).isSome then 0 else 8) ∧ ((walkL r.L 0 p).2 = 0 → ix p = some (walkL r.L 0 p).1) ∧ (∀ k', ix p = some k' → walkL r.L 0 p = (k', 0)) := by
  have := h.rel.walk p [] 0 h.rel.root
  rwa [List.nil_append] at this
/-- The directory ahead of a name. -/
theorem Tied.ahead (h : Tied r s M ix) (p : Wy) (x : ByteArray) : wayA s.a [] (p ++ [x]) = if (walkL r.L 0 p).2 ≠ 0 then (walkL r.L 0 p).2 else if (thL r.L (walkL r.L 0 p).1).dir then 0 else 11 := by
  obtain ⟨w1, w2, -⟩ := h.walk p
  rw [wayA_snoc, List.nil_append]
  by_cases c : (walkL r.L 0 p).2 = 0
  · have ha := h.rel.asome (w2 c)
    rw [c] at w1
    have cw : wayA s.a [] p = 0 := by
      by_cases cw : wayA s.a [] p = 0
      · exact cw
      · rw [if_pos cw] at w1; exact absurd w1.symm cw
    rw [if_neg (by simp [cw]), if_neg (by simp [c]), ha]
    rfl
  · rw [if_pos c]
    by_cases cw : wayA s.a [] p = 0
    · rw [if_neg (by simp [cw])] at w1 ⊢
      cases ha : s.a p with
      | none => rw [ha] at w1; simp at w1; simp [w1]
      | some d => rw [ha] at w1; simp at w1; exact absurd w1 c
    · rw [if_pos cw] at w1 ⊢; exact w1.symm
theorem Tied.some_iff (h : Tied r s M ix) (p : Wy) : (s.a p).isSome = (ix p).isSome := by
  cases hp : ix p with
  | none => rw [h.rel.anone.1 hp]; rfl
  | some k => rw [h.rel.asome hp]; rfl
theorem Tied.kid (h : Tied r s M ix) {p : Wy} {k : Nat} (hp : ix p = some k) (x : ByteArray) : ix (p ++ [x]) = K (thL r.L k).S x := (h.rel.at_ p k hp).2.kid x
theorem K_some {S : List S106} {x : ByteArray} : (K S x).isSome = (atL S x).isSome := by simp [K]
theorem Tied.way0 (h : Tied r s M ix) {p : Wy} (hp : (ix p).isSome) : wayA s.a [] p = 0 := by
  obtain ⟨k, hk⟩ := Option.isSome_iff_exists.1 hp
  have w1 := (h.walk p).1
  rw [(h.walk p).2.2 k hk] at w1
  dsimp only at w1
  by_cases cw : wayA s.a [] p = 0
  · exact cw
  · rw [if_pos cw] at w1; exact absurd w1.symm cw
theorem make_rel (h : Tied r s M ix) (hM : M ≤ 40000) (p : Wy) (x : ByteArray) (d : Bool) (hx : x ≠ ByteArray.empty) :
    Out r s M (makeR2 r p x d) (if wayA s.a [] (p ++ [x]) ≠ 0 then wayA s.a [] (p ++ [x]) else makeE s (p ++ [x])) (makeS s (p ++ [x]) d) := by
  rw [h.ahead]
  obtain ⟨-, w2, -⟩ := h.walk p
  unfold makeR2
  obtain ⟨⟨k, E⟩, hke⟩ : ∃ z, walkL r.L 0 p = z := ⟨_, rfl⟩
  rw [hke] at w2 ⊢
  dsimp only at w2 ⊢
  by_cases c1 : E = 0
  case neg =>
    rw [if_pos c1, if_pos c1, if_pos c1]
    exact Out.err c1
  subst c1
  simp only [ne_eq, not_true_eq_false, not_false_eq_true, ↓reduceIte, reduceCtorEq, Int.reduceEq, Option.isSome_some, Option.isSome_none]
  have hp := w2 rfl
  obtain ⟨hk, hN⟩ := h.rel.at_ p k hp
  have hkid := h.kid hp x
  obtain ⟨f1, f2, f3⟩ := h.wf.at_ hk
  cases hd : (thL r.L k).dir with
  | false =>
    simp only [ne_eq, not_true_eq_false, not_false_eq_true, ↓reduceIte, reduceCtorEq, Int.reduceEq, Option.isSome_some, Option.isSome_none]
    exact Out.err (by simp)
  | true =>
  simp only [ne_eq, not_true_eq_false, not_false_eq_true, ↓reduceIte, reduceCtorEq, Int.reduceEq, Option.isSome_some, Option.isSome_none]
  unfold makeE
  rw [h.some_iff, hkid, K_some, List.dropLast_concat, hN.nd]
  cases ha : atL (thL r.L k).S x with
  | some i =>
    simp only [ne_eq, not_true_eq_false, not_false_eq_true, ↓reduceIte, reduceCtorEq, Int.reduceEq, Option.isSome_some, Option.isSome_none]
    exact Out.err (by simp)
  | none =>
  simp only [ne_eq, not_true_eq_false, not_false_eq_true, ↓reduceIte, reduceCtorEq, Int.reduceEq, Option.isSome_some, Option.isSome_none]
  have hB := hN.dirB hd
  have hg := grow_eq hN.uniq hx ha 1 (by omega)
  have hnt : nodeT (thL r.L k) = ⟨true, [], slotsL (thL r.L k).S, cnt (thL r.L k).S⟩ := by unfold nodeT; rw [hd, hB]
  have hwant : wantA (some (nodeT (thL r.L k))) = growsA ⟨true, [], slotsL (thL r.L k).S, cnt (thL r.L k).S⟩ := by rw [hnt]; rfl
  rw [hwant, hg]
  obtain ⟨G, hG⟩ : ∃ G, growsA ⟨true, [], slotsL (thL r.L k).S, cnt (thL r.L k).S⟩ = G := ⟨_, rfl⟩
  rw [hG] at hwant ⊢
  by_cases cF : s.inodes = 0 ∨ s.blocks < G
  · have cR : r.m = 0 ∨ (G : Int) > r.n := by rw [h.n, h.m]; omega
    rw [if_pos cF, if_pos cR]
    exact Out.err (by simp)
  have cR : ¬ (r.m = 0 ∨ (G : Int) > r.n) := by rw [h.n, h.m]; omega
  rw [if_neg cF, if_neg cR]
  obtain ⟨g1, g2, g3, g4, g5, g6⟩ := fresh_facts r.L ⟨true, d, [], []⟩
  have hwf := h.wf.fresh d
  obtain ⟨⟨fL, j⟩, hfe⟩ : ∃ z, freshL r.L ⟨true, d, [], []⟩ = z := ⟨_, rfl⟩
  rw [hfe] at g1 g2 g3 g4 g5 g6 hwf ⊢
  dsimp only at g1 g2 g3 g4 g5 g6 hwf ⊢
  obtain ⟨p1, p2, p3, p4, p5⟩ := putL_facts hN.uniq hx ha ((j : Int) + 1)
  have hkj : k ≠ j := g6 k hk hN.is
  have hkf : k < fL.length := by omega
  have ek : thL (fL.set k { thL fL k with S := putL (thL r.L k).S x ((j : Int) + 1) }) k = { thL r.L k with S := putL (thL r.L k).S x ((j : Int) + 1) } := by
    rw [thL_set_self _ hkf, g5 k hk hkj]
  have ej : thL (fL.set k { thL fL k with S := putL (thL r.L k).S x ((j : Int) + 1) }) j = ⟨true, d, [], []⟩ := by
    rw [thL_set_ne _ (Ne.symm hkj), g4]
  refine Out.ok (ix' := fun q => if q = p ++ [x] then some j else ix q) ⟨?_, ?_, ?_, ?_, ?_, ?_⟩
  · refine h.rel.put (S' := putL (thL r.L k).S x ((j : Int) + 1)) (d := d) (k := k) hp ?_ ?_ ?_ ?_ ej ek ?_ hd ?_ p1 ?_ ?_ ?_
    · rw [hkid, K_none']; exact ha
    · exact fun q hq => absurd rfl (g6 j (h.rel.at_ q j hq).1 (h.rel.at_ q j hq).2.is)
    · rw [List.length_set]; exact g1
    · rw [List.length_set]; exact g3
    · intro i hi n1 n2
      rw [thL_set_ne _ n1, g5 i hi n2]
    · intro z
      rw [p2]
      have : ((j : Int) + 1 - 1).toNat = j := by omega
      rw [this]
    · rw [ek]
      unfold makeS
      dsimp only
      rw [List.dropLast_concat]
      unfold onA setA
      rw [if_pos rfl, if_neg (fun e => snoc_ne2 p x e.symm), hN.nd]
      simp only [Option.map_some, putA, nodeT, p3, p4]
    · rw [ej]
      unfold makeS
      dsimp only
      rw [List.dropLast_concat]
      unfold onA setA
      rw [if_neg (snoc_ne2 p x), if_pos rfl]
      simp [freshA, nodeT, slotsL, cnt]
    · intro q n1 n2
      unfold makeS
      dsimp only
      rw [List.dropLast_concat]
      unfold onA setA
      rw [if_neg n1, if_neg n2]
  · refine hwf.set (by omega) _ ?_ ?_ ?_
    · have := putL_len (thL r.L k).S x ((j : Int) + 1)
      show (putL (thL r.L k).S x ((j : Int) + 1)).length ≤ M + 1
      omega
    · show (thL fL k).B.length ≤ _
      rw [g5 k hk hkj]; exact f2
    · intro e he h0
      rcases p5 e he with he | rfl
      · have := f3 e he h0; omega
      · show 1 ≤ (j : Int) + 1 ∧ (j : Int) + 1 ≤ fL.length
        omega
  · show r.n - (G : Int) = ((s.blocks - wantA (s.a (p ++ [x]).dropLast) : Nat) : Int)
    rw [List.dropLast_concat, hN.nd, hwant, h.n]
    omega
  · show r.m - 1 = ((s.inodes - 1 : Nat) : Int)
    rw [h.m]
    omega
  · show s.blocks - wantA (s.a (p ++ [x]).dropLast) ≤ _
    have := h.bn
    omega
  · show s.inodes - 1 ≤ _
    have := h.bm
    omega
theorem setA_data (h : Tied r s M ix) {p : Wy} {k : Nat} (hp : ix p = some k) (hd : (thL r.L k).dir = false) (B : List UInt8) : (⟨false, B, 0, 0⟩ : N) = { nodeT (thL r.L k) with data := B } := by
  have hS := (h.rel.at_ p k hp).2.file hd
  unfold nodeT
  rw [hd, hS]
  rfl
theorem data_rel (h : Tied r s M ix) (l : Wy) (o : O) (hk3 : o.kind = 3 ∨ o.kind = 4) :
    Out r s M (dataR r o l) (if wayA s.a [] l ≠ 0 then wayA s.a [] l else if o.kind = 3 then appE s o.data.length (s.a l) else cutE o.n (s.a l)) (if o.kind = 3 then appS s l o.data (s.a l) else cutS s l o.n.toNat (s.a l)) := by
  obtain ⟨w1, w2, -⟩ := h.walk l
  unfold dataR
  obtain ⟨⟨k, E⟩, hke⟩ : ∃ z, walkL r.L 0 l = z := ⟨_, rfl⟩
  rw [hke] at w1 w2 ⊢
  dsimp only at w1 w2 ⊢
  by_cases c1 : E = 0
  case neg =>
    rw [if_pos c1]
    by_cases cw : wayA s.a [] l = 0
    · rw [if_neg (by simp [cw])] at w1
      cases ha : s.a l with
      | none =>
        rw [ha] at w1
        rw [if_neg (by simp [cw])]
        have e8 : E = 8 := by simpa using w1
        subst e8
        have e : (if o.kind = 3 then appE s o.data.length none else cutE o.n none) = 8 := by split <;> rfl
        rw [e]
        exact Out.err (by simp)
      | some d => rw [ha] at w1; simp at w1; exact absurd w1 c1
    · rw [if_pos cw] at w1
      rw [if_pos cw, ← w1]
      exact Out.err c1
  subst c1
  have hp := w2 rfl
  obtain ⟨hk, hN⟩ := h.rel.at_ l k hp
  obtain ⟨f1, f2, f3⟩ := h.wf.at_ hk
  have cw := h.way0 (p := l) (by rw [hp]; rfl)
  rw [cw, hN.nd]
  simp only [ne_eq, not_true_eq_false, not_false_eq_true, ↓reduceIte, reduceCtorEq, Int.reduceEq, Option.isSome_some, Option.isSome_none]
  cases hd : (thL r.L k).dir with
  | true =>
    rw [if_pos rfl]
    have e : (if o.kind = 3 then appE s o.data.length (some (nodeT (thL r.L k))) else cutE o.n (some (nodeT (thL r.L k)))) = 10 := by
      split
      · unfold appE nodeT; dsimp only; rw [if_pos hd]
      · unfold cutE nodeT; dsimp only; rw [if_pos hd]
    rw [e]
    exact Out.err (by simp)
  | false =>
  rw [if_neg (by simp)]
  have hdn : ¬ (nodeT (thL r.L k)).dir = true := by show ¬ (thL r.L k).dir = true; simp [hd]
  have hdd : (nodeT (thL r.L k)).data = (thL r.L k).B := rfl
  rcases hk3 with hk3 | hk3
  · rw [if_neg (by omega), if_pos hk3, if_pos hk3]
    unfold appE appS moreR moreE
    dsimp only
    rw [if_neg hdn, hdd]
    by_cases e5 : 8458240 - (thL r.L k).B.length < o.data.length
    · rw [if_pos e5]
      have e5' : (o.data.length : Int) > 8458240 - ((thL r.L k).B.length : Int) := by omega
      rw [if_pos e5', if_neg (show ¬ (5 : Int) = 0 by simp)]
      exact Out.err (by simp)
    · rw [if_neg e5]
      have e5' : ¬ (o.data.length : Int) > 8458240 - ((thL r.L k).B.length : Int) := by omega
      rw [if_neg e5']
      have hmono := Ui.allB_mono (a := (thL r.L k).B.length) (b := (thL r.L k).B.length + o.data.length) (by omega) (by omega)
      by_cases e7 : s.blocks < allB ((thL r.L k).B.length + o.data.length) - allB (thL r.L k).B.length
      · rw [if_pos e7]
        have e7' : (allB ((thL r.L k).B.length + o.data.length) : Int) - (allB (thL r.L k).B.length : Int) > r.n := by rw [h.n]; omega
        rw [if_pos e7', if_neg (show ¬ (7 : Int) = 0 by simp)]
        exact Out.err (by simp)
      · rw [if_neg e7]
        have e7' : ¬ (allB ((thL r.L k).B.length + o.data.length) : Int) - (allB (thL r.L k).B.length : Int) > r.n := by rw [h.n]; omega
        rw [if_neg e7', if_pos rfl]
        refine Out.ok (ix' := ix) ⟨?_, ?_, ?_, h.m, ?_, ?_⟩
        · have := h.rel.bytes hp hd ((thL r.L k).B ++ o.data)
          rw [setA_data h hp hd] at this
          exact this
        · refine h.wf.set (by omega) _ (by show (thL r.L k).S.length ≤ _; omega) ?_ f3
          show ((thL r.L k).B ++ o.data).length ≤ _
          rw [List.length_append]; omega
        · show r.n - _ = ((s.blocks - (allB ((thL r.L k).B.length + o.data.length) - allB (thL r.L k).B.length) : Nat) : Int)
          rw [h.n]; omega
        · show s.blocks - _ ≤ _
          have := h.bn; omega
        · show s.inodes ≤ _
          have := h.bm; omega
  · rw [if_pos hk3, if_neg (by omega), if_neg (by omega)]
    unfold cutE cutS cutR
    dsimp only
    rw [if_neg hdn, hdd]
    by_cases e1 : o.n < 0 ∨ ((thL r.L k).B.length : Int) < o.n
    · rw [if_pos e1, if_pos e1]
      exact Out.err (by simp)
    · rw [if_neg e1, if_neg e1]
      have hmono := Ui.allB_mono (a := o.n.toNat) (b := (thL r.L k).B.length) (by omega) (by omega)
      have hle := Qb.allB_le (thL r.L k).B.length
      refine Out.ok (ix' := ix) ⟨?_, ?_, ?_, h.m, ?_, ?_⟩
      · have := h.rel.bytes hp hd ((thL r.L k).B.take o.n.toNat)
        rw [setA_data h hp hd] at this
        exact this
      · refine h.wf.set (by omega) _ (by show (thL r.L k).S.length ≤ _; omega) ?_ f3
        show ((thL r.L k).B.take o.n.toNat).length ≤ _
        rw [List.length_take]; omega
      · show r.n + _ - _ = ((s.blocks + (allB (thL r.L k).B.length - allB o.n.toNat) : Nat) : Int)
        rw [h.n]; omega
      · show s.blocks + _ ≤ _
        have := h.bn; omega
      · show s.inodes ≤ _
        have := h.bm; omega
theorem blocks_eq (t : T) : blocksA (nodeT t) = blocksT t := by
  unfold blocksA blocksT nodeT
  rfl
theorem blocksT_le (t : T) : blocksT t ≤ 20000 := by
  unfold blocksT
  split <;> exact Qb.allB_le _
/-- What a way to a thing tells of the directory that it is in. -/
theorem Tied.parent (h : Tied r s M ix) {p : Wy} {x : ByteArray} {j : Nat} (hx : ix (p ++ [x]) = some j) : ∃ k i, ix p = some k ∧ walkL r.L 0 p = (k, 0) ∧ atL (thL r.L k).S x = some i ∧ (inoL (thL r.L k).S i - 1).toNat = j ∧ k ≠ j ∧ (thL r.L k).dir = true ∧ x ≠ ByteArray.empty := by
  cases hp : ix p with
  | none => rw [(h.rel.none_ p hp).2] at hx; cases hx
  | some k =>
    have hkid := h.kid hp x
    rw [hx] at hkid
    obtain ⟨i, hi, hj⟩ := Option.map_eq_some_iff.1 hkid.symm
    refine ⟨k, i, rfl, (h.walk p).2.2 k hp, hi, hj, ?_, ?_, (atL_some hi).choose_spec.2.2⟩
    · rintro rfl
      exact snoc_ne2 p x (h.rel.inj _ _ _ hx hp)
    · cases hd : (thL r.L k).dir with
      | true => rfl
      | false =>
        have := (h.rel.at_ p k hp).2.file hd
        rw [this] at hi
        simp [atL] at hi
theorem remove_hat (h : Tied r s M ix) (p : Wy) (x : ByteArray) : (walkL r.L 0 (p ++ [x])).2 = 0 → (walkL r.L 0 p).1 ≠ (walkL r.L 0 (p ++ [x])).1 ∧ ∃ i, atL (thL r.L (walkL r.L 0 p).1).S x = some i := by
  intro h0
  obtain ⟨k, i, h1, h2, h3, h4, h5, -⟩ := h.parent ((h.walk (p ++ [x])).2.1 h0)
  rw [h2]
  exact ⟨h5, i, h3⟩
theorem root_rel (h : Tied r s M ix) (d : Bool) (s' : Ua.S) : Out r s M (r, if d then 13 else 10) (if wayA s.a [] [] ≠ 0 then wayA s.a [] [] else remE [] d (s.a [])) s' := by
  rw [show wayA s.a [] [] = 0 from rfl, h.rel.asome h.rel.root, if_neg (show ¬ (0 : Int) ≠ 0 by simp)]
  unfold remE nodeT
  dsimp only
  rw [h.rel.rdir]
  cases d with
  | true => exact Out.err (by simp)
  | false => exact Out.err (by simp)
theorem remove_rel (h : Tied r s M ix) (p : Wy) (x : ByteArray) (d : Bool) :
    Out r s M (removeR2 r p x d) (if wayA s.a [] (p ++ [x]) ≠ 0 then wayA s.a [] (p ++ [x]) else remE (p ++ [x]) d (s.a (p ++ [x]))) (remS s (p ++ [x]) (s.a (p ++ [x]))) := by
  obtain ⟨w1, w2, -⟩ := h.walk (p ++ [x])
  unfold removeR2
  obtain ⟨⟨j, E⟩, hke⟩ : ∃ z, walkL r.L 0 (p ++ [x]) = z := ⟨_, rfl⟩
  rw [hke] at w1 w2 ⊢
  dsimp only at w1 w2 ⊢
  by_cases c1 : E = 0
  case neg =>
    rw [if_pos c1]
    by_cases cw : wayA s.a [] (p ++ [x]) = 0
    · rw [if_neg (by simp [cw])] at w1
      cases ha : s.a (p ++ [x]) with
      | none =>
        rw [ha] at w1
        rw [if_neg (by simp [cw])]
        have e8 : E = 8 := by simpa using w1
        subst e8
        exact Out.err (by simp)
      | some d => rw [ha] at w1; simp at w1; exact absurd w1 c1
    · rw [if_pos cw] at w1
      rw [if_pos cw, ← w1]
      exact Out.err c1
  subst c1
  have hx := w2 rfl
  obtain ⟨k, i, hp, hwk, hat, hij, hkj, hdk, hx0⟩ := h.parent hx
  obtain ⟨hj, hNj⟩ := h.rel.at_ _ j hx
  obtain ⟨hk, hN⟩ := h.rel.at_ p k hp
  obtain ⟨f1, f2, f3⟩ := h.wf.at_ hk
  have cw := h.way0 (p := p ++ [x]) (by rw [hx]; rfl)
  rw [cw, hNj.nd, if_neg (show ¬ (0 : Int) ≠ 0 by simp), if_neg (show ¬ (0 : Int) ≠ 0 by simp)]
  unfold remE nodeT
  dsimp only
  have hempty : (thL r.L j).dir = d → ¬ (d = true ∧ nmR (thL r.L j).S ≠ []) → cnt (thL r.L j).S = 0 := by
    intro h1 h2
    cases d with
    | false => rw [hNj.file h1]; rfl
    | true =>
      by_cases c : nmR (thL r.L j).S = []
      · exact nmR_nil.1 c
      · exact absurd ⟨rfl, c⟩ h2
  by_cases e11 : d = true ∧ (thL r.L j).dir = false
  · rw [if_pos e11, if_neg (show ¬ ((thL r.L j).dir = true ∧ d = false) by simp [e11.1]), if_pos ⟨e11.2, e11.1⟩]
    exact Out.err (by simp)
  by_cases e10 : d = false ∧ (thL r.L j).dir = true
  · rw [if_neg e11, if_pos e10, if_pos ⟨e10.2, e10.1⟩]
    exact Out.err (by simp)
  rw [if_neg e11, if_neg e10, if_neg (show ¬ ((thL r.L j).dir = true ∧ d = false) from fun h => e10 ⟨h.2, h.1⟩), if_neg (show ¬ ((thL r.L j).dir = false ∧ d = true) from fun h => e11 ⟨h.2, h.1⟩)]
  by_cases e13 : d = true ∧ nmR (thL r.L j).S ≠ []
  · have : 0 < cnt (thL r.L j).S := by rw [← nmR_len]; exact List.length_pos_iff.2 e13.2
    rw [if_pos e13, if_pos ⟨e13.1, .inr this⟩]
    exact Out.err (by simp)
  have hdj : (thL r.L j).dir = d := by
    cases d <;> cases hh : (thL r.L j).dir <;> simp [hh] at e11 e10 ⊢
  have hc0 := hempty hdj e13
  rw [if_neg e13, if_neg (show ¬ (d = true ∧ (p ++ [x] = [] ∨ 0 < cnt (thL r.L j).S)) by
    rintro ⟨-, h | h⟩
    · simp at h
    · omega)]
  rw [hwk]
  dsimp only
  obtain ⟨t1, t2, t3, t4, t5, t6, t7, t8⟩ := takeL_facts hN.uniq hat
  have ejk : thL (r.L.set j noT) k = thL r.L k := thL_set_ne _ hkj
  have hks : k < (r.L.set j noT).length := by rw [List.length_set]; exact hk
  have ek : thL (remL r.L j k x) k = { thL r.L k with S := takeS (thL r.L k).S x } := by
    unfold remL
    rw [thL_set_self _ hks, ejk]
  have hlen : (remL r.L j k x).length = r.L.length := by unfold remL; rw [List.length_set, List.length_set]
  have hb := h.bn
  have hbm := h.bm
  have hbl := blocksT_le (thL r.L j)
  refine Out.ok (ix' := fun q => if q = p ++ [x] then none else ix q) ⟨?_, ?_, ?_, ?_, ?_, ?_⟩
  · refine h.rel.take (S' := takeS (thL r.L k).S x) (k := k) (j := j) hp hx ?_ (by rw [hlen]; exact Nat.le_refl _) ek ?_ t3 t2 ?_ ?_ ?_
    · intro z
      rw [h.kid hx, K_of_cnt hc0]
    · intro i hi n1 n2
      unfold remL
      rw [thL_set_ne _ n1, thL_set_ne _ n2]
    · rw [ek]
      unfold remS
      dsimp only
      rw [List.dropLast_concat]
      unfold onA delA
      rw [if_pos rfl, if_neg (fun e => snoc_ne2 p x e.symm), hN.nd]
      simp only [Option.map_some, takeA, nodeT, t4, t6]
    · unfold remS
      dsimp only
      rw [List.dropLast_concat]
      unfold onA delA
      rw [if_neg (snoc_ne2 p x), if_pos rfl]
    · intro q n1 n2
      unfold remS
      dsimp only
      rw [List.dropLast_concat]
      unfold onA delA
      rw [if_neg n1, if_neg n2]
  · unfold remL
    have hw1 := h.wf.set (k := j) (M' := M + 1) (by omega) noT (by simp [noT]) (by simp [noT]) (by simp [noT])
    refine hw1.set (by omega) _ ?_ ?_ ?_
    · rw [ejk]; show (takeS (thL r.L k).S x).length ≤ _; omega
    · rw [ejk]; exact f2
    · rw [ejk, List.length_set]
      intro e he h0
      rcases t7 e he with he | rfl
      · exact f3 e he h0
      · exact absurd rfl h0
  · show r.n + _ = ((s.blocks + blocksA (nodeT (thL r.L j)) : Nat) : Int)
    rw [blocks_eq, h.n]; omega
  · show r.m + 1 = ((s.inodes + 1 : Nat) : Int)
    rw [h.m]; omega
  · show s.blocks + blocksA (nodeT (thL r.L j)) ≤ _
    rw [blocks_eq]; omega
  · show s.inodes + 1 ≤ _
    omega
end
end Go.Proofs.YtpdcjdangnfeiaaGreatDoor.Rc
end
