/- Same: whether two trees in memory are alike, told exactly. -/
import Derived.Test.YtpdcjdangnfeiaaDoorWb
namespace Go.Proofs.YtpdcjdangnfeiaaDoor.Wc
open Go Go.Maps Go.RowKit Go.Proofs.YtpdcjdangnfeiaaDoor.Pb Go.Proofs.YtpdcjdangnfeiaaDoor.PPth Go.Proofs.YtpdcjdangnfeiaaDoorW.PrintWords Go.Proofs.YtpdcjdangnfeiaaDoorW.PrintLast Go.Proofs.YtpdcjdangnfeiaaDoorW.PrintMore Go.Proofs.YtpdcjdangnfeiaaDoor.Ta Go.Proofs.YtpdcjdangnfeiaaDoor.Tb Go.Proofs.YtpdcjdangnfeiaaDoor.Tc Go.Proofs.YtpdcjdangnfeiaaDoor.Te Go.Proofs.YtpdcjdangnfeiaaDoor.Tf Go.Proofs.YtpdcjdangnfeiaaDoor.Qa Go.Proofs.YtpdcjdangnfeiaaDoor.Qb Go.Proofs.YtpdcjdangnfeiaaDoor.Qc Go.Proofs.YtpdcjdangnfeiaaDoor.Qd Go.Proofs.YtpdcjdangnfeiaaDoor.Qe Go.Proofs.YtpdcjdangnfeiaaDoor.Qf Go.Proofs.YtpdcjdangnfeiaaDoor.Ua Go.Proofs.YtpdcjdangnfeiaaDoor.Ub Go.Proofs.YtpdcjdangnfeiaaDoor.Uc Go.Proofs.YtpdcjdangnfeiaaDoor.Ud Go.Proofs.YtpdcjdangnfeiaaDoor.Ue Go.Proofs.YtpdcjdangnfeiaaDoor.Uf Go.Proofs.YtpdcjdangnfeiaaDoor.Ba Go.Proofs.YtpdcjdangnfeiaaDoor.Ug Go.Proofs.YtpdcjdangnfeiaaDoor.Uh Go.Proofs.YtpdcjdangnfeiaaDoor.Ui Go.Proofs.YtpdcjdangnfeiaaDoor.Uj Go.Proofs.YtpdcjdangnfeiaaDoor.Uk Go.Proofs.YtpdcjdangnfeiaaDoor.Ul Go.Proofs.YtpdcjdangnfeiaaDoor.Um Go.Proofs.YtpdcjdangnfeiaaDoor.Un Go.Proofs.YtpdcjdangnfeiaaDoor.Uo Go.Proofs.YtpdcjdangnfeiaaDoor.Up Go.Proofs.YtpdcjdangnfeiaaDoor.Uq Go.Proofs.YtpdcjdangnfeiaaDoor.Ur Go.Proofs.YtpdcjdangnfeiaaDoor.Us Go.Proofs.YtpdcjdangnfeiaaDoor.Ut Go.Proofs.YtpdcjdangnfeiaaDoor.Uu Go.Proofs.YtpdcjdangnfeiaaDoor.Uv Go.Proofs.YtpdcjdangnfeiaaDoor.Uw Go.Proofs.YtpdcjdangnfeiaaDoor.Ux Go.Proofs.YtpdcjdangnfeiaaDoor.Uy Go.Proofs.YtpdcjdangnfeiaaDoor.Uz Go.Proofs.YtpdcjdangnfeiaaDoor.Va Go.Proofs.YtpdcjdangnfeiaaDoor.Vb Go.Proofs.YtpdcjdangnfeiaaDoor.Vc Go.Proofs.YtpdcjdangnfeiaaDoor.Vd Go.Proofs.YtpdcjdangnfeiaaDoor.Ve Go.Proofs.YtpdcjdangnfeiaaDoor.Wa Go.Proofs.YtpdcjdangnfeiaaDoor.Wb
section lists
open Classical
theorem len_le {α : Type} : ∀ (l m : List α), l.Nodup → (∀ x ∈ l, x ∈ m) → l.length ≤ m.length
  | [], _, _, _ => Nat.zero_le _
  | a :: l, m, hn, hs => by
    rw [List.nodup_cons] at hn
    have h1 := len_le l (m.erase a) hn.2 fun x hx => by
      have hne : x ≠ a := fun e => hn.1 (e ▸ hx)
      exact (List.mem_erase_of_ne hne).2 (hs x (List.mem_cons_of_mem _ hx))
    have h2 := List.length_erase_of_mem (hs a (List.mem_cons_self))
    have h3 := List.length_pos_of_mem (hs a (List.mem_cons_self))
    rw [List.length_cons]
    omega
theorem sub_of_len {α : Type} {l m : List α} (hn : l.Nodup) (hs : ∀ x ∈ l, x ∈ m) (hl : m.length ≤ l.length) : ∀ x ∈ m, x ∈ l := by
  intro x hx
  by_cases h : x ∈ l
  · exact h
  · have := len_le (x :: l) m (List.nodup_cons.2 ⟨h, hn⟩) fun y hy => by
      rcases List.mem_cons.1 hy with rfl | hy
      · exact hx
      · exact hs y hy
    rw [List.length_cons] at this
    omega
end lists
theorem mem_has {es : List (Lit × DataW Nat)} {k : Lit} (hk : ∀ p ∈ es, WideAt.IsKeyLit p.1) : has (.map es : DataW Nat) k = true ↔ k ∈ es.map (·.1) := by
  have e : has (.map es : DataW Nat) k = es.any (fun p => p.1.sameKey k) := rfl
  rw [e, List.any_eq_true]
  constructor
  · rintro ⟨p, hp, hs⟩
    exact List.mem_map.2 ⟨p, hp, WideAt.sameKey_eq hs⟩
  · intro h
    obtain ⟨p, hp, rfl⟩ := List.mem_map.1 h
    exact ⟨p, hp, WideAt.sameKey_self (hk p hp)⟩
/-- Keys that are texts. -/
def StrKeys (D : DataW Nat) : Prop := ∀ kl, has D kl = true → ∃ s, kl = keyL s
theorem equal_iff {eqd : DataW Nat → DataW Nat → Bool} {D1 D2 : DataW Nat} (t1 : ∃ es, D1 = .map es ∧ es.Pairwise (fun p q => p.1 ≠ q.1) ∧ ∀ p ∈ es, WideAt.IsKeyLit p.1) (t2 : ∃ es, D2 = .map es ∧ es.Pairwise (fun p q => p.1 ≠ q.1) ∧ ∀ p ∈ es, WideAt.IsKeyLit p.1) (k1 : StrKeys D1) (k2 : StrKeys D2) :
    Lib.equalFuncD eqd D1 D2 = true ↔ ∀ s, has D1 (keyL s) = has D2 (keyL s) ∧ (has D1 (keyL s) = true → eqd (D1.atKey (keyL s) .nil) (D2.atKey (keyL s) .nil) = true) := by
  obtain ⟨es1, rfl, p1, i1⟩ := t1
  obtain ⟨es2, rfl, p2, i2⟩ := t2
  have n1 : (es1.map (·.1)).Nodup := List.pairwise_map.2 p1
  have n2 : (es2.map (·.1)).Nodup := List.pairwise_map.2 p2
  have q1 := fun k => mem_has (k := k) i1
  have q2 := fun k => mem_has (k := k) i2
  unfold Lib.equalFuncD
  rw [Bool.and_eq_true, decide_eq_true_eq, List.all_eq_true]
  have hl : ∀ es : List (Lit × DataW Nat), size (.map es : DataW Nat) = (es.map (·.1)).length := fun es => by rw [List.length_map]; rfl
  rw [hl, hl]
  constructor
  · rintro ⟨hlen, hgood⟩ s
    have hsub : ∀ x ∈ es1.map (·.1), x ∈ es2.map (·.1) := by
      intro x hx
      obtain ⟨p, hp, rfl⟩ := List.mem_map.1 hx
      have := hgood p hp
      unfold Lib.goodD at this
      rw [Bool.and_eq_true] at this
      exact (q2 _).1 this.1
    refine ⟨?_, fun hh => ?_⟩
    · rw [Bool.eq_iff_iff, q1, q2]
      exact ⟨hsub _, sub_of_len n1 hsub (by omega) _⟩
    · obtain ⟨p, hp, he⟩ := List.mem_map.1 ((q1 _).1 hh)
      have := hgood p hp
      unfold Lib.goodD at this
      rw [Bool.and_eq_true, he] at this
      have e : (DataW.map es1).atKey (keyL s) .nil = p.2 := by
        have e1 := WideAt.atKey_mem (d := p.2) .nil (isKey s) p1 (by rw [← he]; exact hp)
        exact e1
      rw [e]
      exact this.2
  · intro h
    have hiff : ∀ x, x ∈ es1.map (·.1) ↔ x ∈ es2.map (·.1) := by
      intro x
      rw [← q1, ← q2]
      constructor
      · intro hx
        obtain ⟨s, rfl⟩ := k1 _ hx
        rw [← (h s).1]; exact hx
      · intro hx
        obtain ⟨s, rfl⟩ := k2 _ hx
        rw [(h s).1]; exact hx
    refine ⟨Nat.le_antisymm (len_le _ _ n1 fun x hx => (hiff x).1 hx) (len_le _ _ n2 fun x hx => (hiff x).2 hx), fun p hp => ?_⟩
    have hm := (q1 _).2 (List.mem_map.2 ⟨p, hp, rfl⟩)
    obtain ⟨s, hs⟩ := k1 _ hm
    rw [hs] at hm
    obtain ⟨h1, h2⟩ := h s
    unfold Lib.goodD
    rw [Bool.and_eq_true, hs, ← h1]
    refine ⟨hm, ?_⟩
    have e : (DataW.map es1).atKey (keyL s) .nil = p.2 := WideAt.atKey_mem .nil (isKey s) p1 (by rw [← hs]; exact hp)
    rw [← e]
    exact h2 hm
theorem own_keys {w : World} {b n : Nat} {D : DataW Nat} (h : w.ownsMap Tryd.prog 9 ptrR b n D) : StrKeys D := by
  obtain ⟨es, clock, _, F, _, rfl⟩ := h
  intro kl hkl
  obtain ⟨p, hp, hs⟩ := List.any_eq_true.1 hkl
  obtain ⟨x, hx, rfl⟩ := List.mem_map.1 (mem_sorted.1 hp)
  obtain ⟨y, hy⟩ := F.reads x hx
  have hk := Go.WideElems.rd_key hy
  have e : (Go.WideElems.rg Tryd.prog 9 ptrR x).1 = y.1 := by rw [Go.WideElems.rg_of hy]
  have e2 : y.1 = kl := e ▸ WideAt.sameKey_eq hs
  rw [e2] at hk
  obtain ⟨t, ht⟩ := keyS_inv _ _ hk
  rw [ht] at hk
  exact ⟨t, keyS_eq hk⟩
theorem own_at {w : World} {b n : Nat} {D : DataW Nat} (h : w.ownsMap Tryd.prog 9 ptrR b n D) (s : ByteArray) (hs : has D (keyL s) = true) : ∃ o, ∀ zd, D.atKey (keyL s) zd = ptrD o := by
  obtain ⟨es, clock, _, F, _, rfl⟩ := h
  obtain ⟨p, hp, hk⟩ := List.any_eq_true.1 hs
  obtain ⟨x, hx, rfl⟩ := List.mem_map.1 (mem_sorted.1 hp)
  obtain ⟨y, hy⟩ := F.reads x hx
  obtain ⟨z, hz, hzd⟩ := Go.WideElems.rd_val hy
  obtain ⟨o, -, ho⟩ := ptrR_inv (d := z.1) (ps := z.2) hz
  refine ⟨o, fun zd => ?_⟩
  have e1 : (Go.WideElems.rg Tryd.prog 9 ptrR x).1 = keyL s := WideAt.sameKey_eq hk
  have e2 : (Go.WideElems.rg Tryd.prog 9 ptrR x).2 = ptrD o := by rw [Go.WideElems.rg_of hy, ← ho]; exact hzd
  refine WideAt.atKey_mem zd (isKey s) ?_ ?_
  · exact ((Go.WideShapes.sorted_perm _).pairwise_iff (fun {_ _} hne => Ne.symm hne)).2 (Maps.fit_apart law9 F)
  · have e3 : Go.WideElems.rg Tryd.prog 9 ptrR x = (keyL s, ptrD o) := Prod.ext e1 e2
    rw [e3] at hp
    exact hp
theorem path_inj : ∀ {es : Es}, ((es.map (·.2)).flatMap blks).Nodup → ∀ {p q : Path} {x y : Sh}, (p, x) ∈ es → (q, y) ∈ es → x.nb = y.nb → p = q
  | [], _, _, _, _, _, hx, _, _ => by cases hx
  | z :: es, h, p, q, x, y, hx, hy, e => by
    rw [List.map_cons, List.flatMap_cons, List.nodup_append] at h
    obtain ⟨-, h2, h3⟩ := h
    rcases List.mem_cons.1 hx with e1 | hx' <;> rcases List.mem_cons.1 hy with e2 | hy'
    · rw [← e2] at e1
      exact congrArg (·.1) e1
    · subst e1
      exact absurd e (h3 _ (nb_mem _) _ (List.mem_flatMap.2 ⟨y, List.mem_map.2 ⟨_, hy', rfl⟩, nb_mem y⟩))
    · subst e2
      exact absurd e.symm (h3 _ (nb_mem _) _ (List.mem_flatMap.2 ⟨x, List.mem_map.2 ⟨_, hx', rfl⟩, nb_mem x⟩))
    · exact path_inj h2 hx' hy' e
/-- What Same looks at. -/
def kd (s : Sh) : Bool × List UInt8 := (s.dir, s.data)
/-- Alike below a path. -/
def SB (a1 a2 : Uc.Fn) (p : Path) : Prop := ∀ r, (a1 (p ++ r)).map kd = (a2 (p ++ r)).map kd
theorem SB_iff {a1 a2 : Uc.Fn} {p : Path} {s1 s2 : Sh} (h1 : a1 p = some s1) (h2 : a2 p = some s2) : SB a1 a2 p ↔ kd s1 = kd s2 ∧ ∀ x, SB a1 a2 (p ++ [x]) := by
  constructor
  · intro h
    refine ⟨?_, fun x r => ?_⟩
    · have := h []
      rw [List.append_nil, h1, h2] at this
      simpa using this
    · have := h (x :: r)
      rwa [List.append_assoc, List.singleton_append]
  · rintro ⟨h, hx⟩ r
    cases r with
    | nil => rw [List.append_nil, h1, h2, Option.map_some, Option.map_some, h]
    | cons x r =>
      have := hx x r
      rwa [List.append_assoc, List.singleton_append] at this
theorem SB_none {a1 a2 : Uc.Fn} {p : Path} (h1 : WfF a1) (h2 : WfF a2) (n1 : a1 p = none) (n2 : a2 p = none) : SB a1 a2 p := by
  have key : ∀ {a : Uc.Fn}, WfF a → a p = none → ∀ r, a (p ++ r) = none := by
    intro a h hn r
    by_cases hr : r = []
    · subst hr; rwa [List.append_nil]
    · exact h.none_under (fun x => h.none_below (fun d hd => by rw [hn] at hd; cases hd) x) r hr
  intro r
  rw [key h1 n1, key h2 n2]
theorem exists_bound (es : Es) : ∃ k, ∀ q s, gp es q = some s → q.length ≤ k := by
  have : ∃ k, ∀ e ∈ es, e.1.length ≤ k := by
    induction es with
    | nil => exact ⟨0, fun e he => by cases he⟩
    | cons e es ih =>
      obtain ⟨k, hk⟩ := ih
      refine ⟨e.1.length + k, fun f hf => ?_⟩
      rcases List.mem_cons.1 hf with rfl | hf
      · omega
      · have := hk f hf; omega
  obtain ⟨k, hk⟩ := this
  exact ⟨k, fun q s h => hk _ (gp_mem h)⟩
theorem grown_below {w w' : World} (h : w.grownBy w' none) : Below w.heap.size w w' := ⟨h.os, h.tape, h.output, h.size, fun k hk => h.block k hk (by simp)⟩
section
open Classical
variable {B1 B2 : Nat} {es1 es2 : Es}
noncomputable def eqN (a1 a2 : Uc.Fn) (p : Path) (xd yd : DataW Nat) : Bool := decide (∃ x s1 s2, a1 (p ++ [x]) = some s1 ∧ a2 (p ++ [x]) = some s2 ∧ xd = ptrD (some s1.nb) ∧ yd = ptrD (some s2.nb) ∧ SB a1 a2 (p ++ [x]))
theorem kid_at {w : World} {B : Nat} {es : Es} (h : Sto Tryd.prog 67 9 w B (es.map (·.2))) (hw : WfF (gp es)) {p : Path} {d : Sh} (hg : gp es p = some d) (hd : d.dir = true) (x : ByteArray) :
    has d.D (keyL x) = (gp es (p ++ [x])).isSome ∧ ∀ s, gp es (p ++ [x]) = some s → ∀ zd, d.D.atKey (keyL x) zd = ptrD (some s.nb) := by
  have hr := hw.dr p d hg hd
  have e1 : has d.D (keyL x) = (gp es (p ++ [x])).isSome := by rw [hr.full, hr.kids]; cases gp es (p ++ [x]) <;> rfl
  refine ⟨e1, fun s hs zd => ?_⟩
  have ho := ((h.ok d (List.mem_map.2 ⟨(p, d), gp_mem hg, rfl⟩)).kids hd).2
  obtain ⟨o, ho⟩ := own_at ho x (by rw [e1, hs]; rfl)
  have := hr.kids x
  rw [kid_of (ho .nil), hs] at this
  rw [ho zd, this]
  rfl
theorem same_step (n1 : ((es1.map (·.2)).flatMap blks).Nodup) (n2 : ((es2.map (·.2)).flatMap blks).Nodup) (f1 : WfF (gp es1)) (f2 : WfF (gp es2)) {p : Path} {s1 s2 : Sh} (g1 : gp es1 p = some s1) (g2 : gp es2 p = some s2) {w : World} (h1 : Sto Tryd.prog 67 9 w B1 (es1.map (·.2))) (h2 : Sto Tryd.prog 67 9 w B2 (es2.map (·.2)))
    (ih : ∀ x t1 t2, gp es1 (p ++ [x]) = some t1 → gp es2 (p ++ [x]) = some t2 → ∀ W, w.grownBy W none → Calls Tryd.prog 30 #[.pointer (some ⟨t1.nb, 0, none⟩), .pointer (some ⟨t2.nb, 0, none⟩)] W fun e w' => e = .returned (.bool (decide (SB (gp es1) (gp es2) (p ++ [x])))) ∧ W.grownBy w' none) :
    Calls Tryd.prog 30 #[.pointer (some ⟨s1.nb, 0, none⟩), .pointer (some ⟨s2.nb, 0, none⟩)] w fun e w' => e = .returned (.bool (decide (SB (gp es1) (gp es2) p))) ∧ w.grownBy w' none := by
  have N1 := h1.ok s1 (List.mem_map.2 ⟨(p, s1), gp_mem g1, rfl⟩)
  have N2 := h2.ok s2 (List.mem_map.2 ⟨(p, s2), gp_mem g2, rfl⟩)
  refine (same_node (eqN (gp es1) (gp es2) p) N1 N2 ?_).mono ?_
  · intro d1 d2 W s x y xd yd xp yp hg hx hy hat hh hat2
    obtain ⟨e1, a1⟩ := kid_at h1 f1 g1 d1 s
    obtain ⟨e2, a2⟩ := kid_at h2 f2 g2 d2 s
    have hh1 : has s1.D (keyL s) = true := has_true_of_atKey hat
    rw [e1] at hh1
    rw [e2] at hh
    obtain ⟨t1, ht1⟩ := Option.isSome_iff_exists.1 hh1
    obtain ⟨t2, ht2⟩ := Option.isSome_iff_exists.1 hh
    have hx1 : xd = ptrD (some t1.nb) := (hat .nil).symm.trans (a1 t1 ht1 .nil)
    have hy1 : yd = ptrD (some t2.nb) := hat2.symm.trans (a2 t2 ht2 .nil)
    obtain ⟨o, rfl, ho⟩ := ptrR_inv hx
    obtain ⟨o2, rfl, ho2⟩ := ptrR_inv hy
    rw [hx1] at ho
    rw [hy1] at ho2
    rw [← ptrD_inj ho, ← ptrD_inj ho2]
    have hq : eqN (gp es1) (gp es2) p xd yd = decide (SB (gp es1) (gp es2) (p ++ [s])) := by
      unfold eqN
      rw [hx1, hy1]
      refine decide_eq_decide.2 ⟨?_, fun h => ⟨s, t1, t2, ht1, ht2, rfl, rfl, h⟩⟩
      rintro ⟨x', u1, u2, hu1, hu2, c1, c2, hSB⟩
      have hn := Option.some.inj (ptrD_inj c1)
      rw [path_inj n1 (gp_mem ht1) (gp_mem hu1) hn]
      exact hSB
    rw [hq]
    exact ih s t1 t2 ht1 ht2 W hg
  · rintro e w' ⟨rfl, hg⟩
    refine ⟨?_, hg⟩
    have key : sameN (eqN (gp es1) (gp es2) p) s1 s2 = decide (SB (gp es1) (gp es2) p) := by
      unfold sameN
      rw [Bool.eq_iff_iff, Bool.and_eq_true, Bool.and_eq_true, decide_eq_true_eq, decide_eq_true_eq, decide_eq_true_eq, SB_iff g1 g2]
      constructor
      · rintro ⟨⟨hd, hdat⟩, hm⟩
        refine ⟨by unfold kd; rw [hd, hdat], fun x => ?_⟩
        by_cases h : s1.dir = true
        · rw [if_pos h] at hm
          have o1 := (N1.kids h).2
          have o2 := (N2.kids (hd ▸ h)).2
          rw [equal_iff (o1.entries law9) (o2.entries law9) (own_keys o1) (own_keys o2)] at hm
          obtain ⟨hh, hm⟩ := hm x
          obtain ⟨e1, a1⟩ := kid_at h1 f1 g1 h x
          obtain ⟨e2, a2⟩ := kid_at h2 f2 g2 (hd ▸ h) x
          rw [e1, e2] at hh
          cases hgx : gp es1 (p ++ [x]) with
          | none =>
            rw [hgx] at hh
            exact SB_none f1 f2 hgx (by cases hq : gp es2 (p ++ [x]) <;> simp_all)
          | some t1 =>
            rw [hgx] at hh
            obtain ⟨t2, ht2⟩ := Option.isSome_iff_exists.1 hh.symm
            have hm := hm (by rw [e1, hgx]; rfl)
            rw [a1 t1 hgx, a2 t2 ht2] at hm
            unfold eqN at hm
            obtain ⟨x', u1, u2, hu1, hu2, c1, c2, hSB⟩ := of_decide_eq_true hm
            rw [path_inj n1 (gp_mem hgx) (gp_mem hu1) (Option.some.inj (ptrD_inj c1))]
            exact hSB
        · have hf : s1.dir = false := by simpa using h
          exact SB_none f1 f2 (f1.none_below (fun d hd2 => by rw [g1] at hd2; cases hd2; exact hf) x) (f2.none_below (fun d hd2 => by rw [g2] at hd2; cases hd2; rw [← hd]; exact hf) x)
      · rintro ⟨hk, hx⟩
        have hd : s1.dir = s2.dir := congrArg Prod.fst hk
        refine ⟨⟨hd, congrArg Prod.snd hk⟩, ?_⟩
        by_cases h : s1.dir = true
        · rw [if_pos h]
          have o1 := (N1.kids h).2
          have o2 := (N2.kids (hd ▸ h)).2
          refine (equal_iff (o1.entries law9) (o2.entries law9) (own_keys o1) (own_keys o2)).2 fun x => ?_
          have hb := hx x []
          rw [List.append_nil] at hb
          obtain ⟨e1, a1⟩ := kid_at h1 f1 g1 h x
          obtain ⟨e2, a2⟩ := kid_at h2 f2 g2 (hd ▸ h) x
          have hs : (gp es1 (p ++ [x])).isSome = (gp es2 (p ++ [x])).isSome := by
            have := congrArg Option.isSome hb
            rwa [Option.isSome_map, Option.isSome_map] at this
          refine ⟨by rw [e1, e2, hs], fun hh => ?_⟩
          rw [e1] at hh
          obtain ⟨t1, ht1⟩ := Option.isSome_iff_exists.1 hh
          rw [hs] at hh
          obtain ⟨t2, ht2⟩ := Option.isSome_iff_exists.1 hh
          unfold eqN
          exact decide_eq_true ⟨x, t1, t2, ht1, ht2, a1 t1 ht1 _, a2 t2 ht2 _, hx x⟩
        · rw [if_neg h]
    rw [key]
theorem same_any (n1 : ((es1.map (·.2)).flatMap blks).Nodup) (n2 : ((es2.map (·.2)).flatMap blks).Nodup) (f1 : WfF (gp es1)) (f2 : WfF (gp es2)) :
    ∀ (k : Nat) (p : Path) (s1 s2 : Sh), gp es1 p = some s1 → gp es2 p = some s2 → (∀ q s, gp es1 q = some s → q.length ≤ p.length + k) → ∀ w, Sto Tryd.prog 67 9 w B1 (es1.map (·.2)) → Sto Tryd.prog 67 9 w B2 (es2.map (·.2)) →
      Calls Tryd.prog 30 #[.pointer (some ⟨s1.nb, 0, none⟩), .pointer (some ⟨s2.nb, 0, none⟩)] w fun e w' => e = .returned (.bool (decide (SB (gp es1) (gp es2) p))) ∧ w.grownBy w' none := by
  intro k
  induction k with
  | zero =>
    intro p s1 s2 g1 g2 hk w h1 h2
    refine same_step n1 n2 f1 f2 g1 g2 h1 h2 fun x t1 t2 ht1 ht2 W hg => ?_
    have := hk _ _ ht1
    rw [List.length_append, List.length_singleton] at this
    omega
  | succ k ih =>
    intro p s1 s2 g1 g2 hk w h1 h2
    refine same_step n1 n2 f1 f2 g1 g2 h1 h2 fun x t1 t2 ht1 ht2 W hg => ?_
    have hb := grown_below hg
    refine ih (p ++ [x]) t1 t2 ht1 ht2 (fun q s hq => ?_) W (h1.below hb) (h2.below hb)
    have := hk q s hq
    rw [List.length_append, List.length_singleton]
    omega
end
end Go.Proofs.YtpdcjdangnfeiaaDoor.Wc
