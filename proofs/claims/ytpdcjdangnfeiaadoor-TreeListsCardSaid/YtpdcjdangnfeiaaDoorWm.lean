/- All paths of a tree, name by name; their texts; how many there are. No program in sight. -/
import Derived.Test.YtpdcjdangnfeiaaDoorWe
namespace Go.Proofs.YtpdcjdangnfeiaaDoor.Wm
open Go Go.Maps Go.RowKit Go.Proofs.YtpdcjdangnfeiaaDoor.Pb Go.Proofs.YtpdcjdangnfeiaaDoor.PPth Go.Proofs.YtpdcjdangnfeiaaDoorW.PrintWords Go.Proofs.YtpdcjdangnfeiaaDoorW.PrintLast Go.Proofs.YtpdcjdangnfeiaaDoorW.PrintMore Go.Proofs.YtpdcjdangnfeiaaDoor.Ta Go.Proofs.YtpdcjdangnfeiaaDoor.Tb Go.Proofs.YtpdcjdangnfeiaaDoor.Tc Go.Proofs.YtpdcjdangnfeiaaDoor.Te Go.Proofs.YtpdcjdangnfeiaaDoor.Tf Go.Proofs.YtpdcjdangnfeiaaDoor.Qa Go.Proofs.YtpdcjdangnfeiaaDoor.Qb Go.Proofs.YtpdcjdangnfeiaaDoor.Qc Go.Proofs.YtpdcjdangnfeiaaDoor.Qd Go.Proofs.YtpdcjdangnfeiaaDoor.Qe Go.Proofs.YtpdcjdangnfeiaaDoor.Qf Go.Proofs.YtpdcjdangnfeiaaDoor.Ua Go.Proofs.YtpdcjdangnfeiaaDoor.Ub Go.Proofs.YtpdcjdangnfeiaaDoor.Uc Go.Proofs.YtpdcjdangnfeiaaDoor.Ud Go.Proofs.YtpdcjdangnfeiaaDoor.Ue Go.Proofs.YtpdcjdangnfeiaaDoor.Uf Go.Proofs.YtpdcjdangnfeiaaDoor.Ba Go.Proofs.YtpdcjdangnfeiaaDoor.Ug Go.Proofs.YtpdcjdangnfeiaaDoor.Uh Go.Proofs.YtpdcjdangnfeiaaDoor.Ui Go.Proofs.YtpdcjdangnfeiaaDoor.Uj Go.Proofs.YtpdcjdangnfeiaaDoor.Uk Go.Proofs.YtpdcjdangnfeiaaDoor.Ul Go.Proofs.YtpdcjdangnfeiaaDoor.Um Go.Proofs.YtpdcjdangnfeiaaDoor.Un Go.Proofs.YtpdcjdangnfeiaaDoor.Uo Go.Proofs.YtpdcjdangnfeiaaDoor.Up Go.Proofs.YtpdcjdangnfeiaaDoor.Uq Go.Proofs.YtpdcjdangnfeiaaDoor.Ur Go.Proofs.YtpdcjdangnfeiaaDoor.Us Go.Proofs.YtpdcjdangnfeiaaDoor.Ut Go.Proofs.YtpdcjdangnfeiaaDoor.Uu Go.Proofs.YtpdcjdangnfeiaaDoor.Uv Go.Proofs.YtpdcjdangnfeiaaDoor.Uw Go.Proofs.YtpdcjdangnfeiaaDoor.Ux Go.Proofs.YtpdcjdangnfeiaaDoor.Uy Go.Proofs.YtpdcjdangnfeiaaDoor.Uz Go.Proofs.YtpdcjdangnfeiaaDoor.Va Go.Proofs.YtpdcjdangnfeiaaDoor.Vb Go.Proofs.YtpdcjdangnfeiaaDoor.Vc Go.Proofs.YtpdcjdangnfeiaaDoor.Vd Go.Proofs.YtpdcjdangnfeiaaDoor.Ve Go.Proofs.YtpdcjdangnfeiaaDoor.Wa Go.Proofs.YtpdcjdangnfeiaaDoor.Wb Go.Proofs.YtpdcjdangnfeiaaDoor.Wc Go.Proofs.YtpdcjdangnfeiaaDoor.Wd Go.Proofs.YtpdcjdangnfeiaaDoor.We
open Go.Sort
/-- A directory's names, rising. -/
def names (s : Sh) : List ByteArray := (namesL s).map Qa.tb
theorem own_strs {w : World} {b n : Nat} {D : DataW Nat} (h : w.ownsMap Tryd.prog 9 ptrR b n D) : (strKeys D).Nodup ∧ ∀ l, l ∈ strKeys D ↔ has D (.string l) = true := by
  have hk := own_keys h
  obtain ⟨es, rfl, hp, hi⟩ := h.entries law9
  have hmh := fun k => mem_has (k := k) hi
  have hkey : ∀ p ∈ es, ∃ s, p.1 = keyL s := fun p hp2 => hk p.1 ((hmh p.1).2 (List.mem_map.2 ⟨p, hp2, rfl⟩))
  have e : strKeys (.map es : DataW Nat) = es.map fun p => strOf p.1 := rfl
  rw [e]
  constructor
  · refine List.pairwise_map.2 (hp.imp_of_mem ?_)
    intro a b ha hb hab e2
    obtain ⟨x, hx⟩ := hkey a ha
    obtain ⟨y, hy⟩ := hkey b hb
    rw [hx, hy] at hab e2
    have : x.data.toList = y.data.toList := e2
    exact hab (by unfold keyL; rw [this])
  · intro l
    rw [hmh]
    constructor
    · intro hl
      obtain ⟨p, hp2, rfl⟩ := List.mem_map.1 hl
      obtain ⟨x, hx⟩ := hkey p hp2
      exact List.mem_map.2 ⟨p, hp2, by rw [hx]; rfl⟩
    · intro hl
      obtain ⟨p, hp2, hpe⟩ := List.mem_map.1 hl
      exact List.mem_map.2 ⟨p, hp2, by rw [hpe]; rfl⟩
theorem tb_data (l : List UInt8) : (Qa.tb l).data.toList = l := by unfold Qa.tb; simp
theorem names_facts {w : World} {B : Nat} {s : Sh} (h : Nd w B s) (hd : s.dir = true) : (names s).Nodup ∧ (∀ x, x ∈ names s ↔ has s.D (keyL x) = true) ∧ (namesL s).Pairwise (· < ·) := by
  obtain ⟨h1, h2⟩ := own_strs (h.kids hd).2
  have hperm : (namesL s).Perm (strKeys s.D) := List.mergeSort_perm _ _
  have hnd : (namesL s).Nodup := hperm.nodup_iff.2 h1
  refine ⟨?_, fun x => ?_, ?_⟩
  · refine List.pairwise_map.2 (hnd.imp ?_)
    intro a b hab e
    have := congrArg (fun z : ByteArray => z.data.toList) e
    simp only [tb_data] at this
    exact hab this
  · unfold names
    rw [List.mem_map]
    constructor
    · rintro ⟨l, hl, rfl⟩
      have := (h2 l).1 (hperm.mem_iff.1 hl)
      unfold keyL
      rw [tb_data]; exact this
    · intro hx
      exact ⟨x.data.toList, hperm.mem_iff.2 ((h2 _).2 hx), by cases x; rfl⟩
  · have hle : (namesL s).Pairwise (fun a b => leB a b = true) := List.pairwise_mergeSort (fun a b c h1 h2 => by simp only [leB, decide_eq_true_eq] at *; exact List.le_trans h1 h2) (fun a b => by simp only [leB, Bool.or_eq_true, decide_eq_true_eq]; exact List.le_total a b) _
    refine (hle.and hnd).imp ?_
    rintro a b ⟨h3, h4⟩
    simp only [leB, decide_eq_true_eq] at h3
    by_cases h5 : a < b
    · exact h5
    · exact absurd (List.le_antisymm h3 (List.not_lt.1 h5)) h4
/-- A path's text, as Walk makes it. -/
def tx (p : Path) : ByteArray := p.foldl (fun t x => t ++ ⟨#[47]⟩ ++ x) ByteArray.empty
theorem tx_snoc (p : Path) (x : ByteArray) : tx (p ++ [x]) = tx p ++ ⟨#[47]⟩ ++ x := by
  unfold tx
  rw [List.foldl_append]; rfl
theorem tx_data (p : Path) (x : ByteArray) : (tx (p ++ [x])).data.toList = (tx p).data.toList ++ 47 :: x.data.toList := by
  rw [tx_snoc, ByteArray.toList_data_append, ByteArray.toList_data_append, List.append_assoc]; rfl
theorem stroke_inj {l m x y : List UInt8} (hx : (47 : UInt8) ∉ x) (hy : (47 : UInt8) ∉ y) (h : l ++ 47 :: x = m ++ 47 :: y) : l = m ∧ x = y := by
  rcases List.append_eq_append_iff.1 h with ⟨u, rfl, h2⟩ | ⟨u, rfl, h2⟩
  · cases u with
    | nil => simp at h2; exact ⟨by simp, h2⟩
    | cons c u =>
      rw [List.cons_append] at h2
      obtain ⟨-, h3⟩ := List.cons.inj h2
      exact absurd (by rw [h3]; simp) hx
  · cases u with
    | nil => simp at h2; exact ⟨by simp, h2.symm⟩
    | cons c u =>
      rw [List.cons_append] at h2
      obtain ⟨-, h3⟩ := List.cons.inj h2
      exact absurd (by rw [h3]; simp) hy
theorem ba_ext {a b : ByteArray} (h : a.data.toList = b.data.toList) : a = b := by
  cases a with | mk a => cases b with | mk b =>
  simp at h
  rw [h]
def NoSt (p : Path) : Prop := ∀ x ∈ p, (47 : UInt8) ∉ x.data.toList
theorem tx_inj : ∀ (n : Nat) (p q : Path), p.length ≤ n → NoSt p → NoSt q → tx p = tx q → p = q := by
  intro n
  induction n with
  | zero =>
    intro p q hn _ _ h
    have : p = [] := List.length_eq_zero_iff.1 (by omega)
    subst this
    by_cases hq : q = []
    · exact hq.symm
    · obtain ⟨q', y, rfl⟩ : ∃ q' y, q = q' ++ [y] := ⟨q.dropLast, q.getLast hq, (List.dropLast_concat_getLast hq).symm⟩
      have := congrArg (fun z : ByteArray => z.data.toList) h
      simp only [tx_data] at this
      exact absurd this.symm (by simp [tx])
  | succ n ih =>
    intro p q hn hp hq h
    by_cases hp0 : p = []
    · subst hp0; exact ih [] q (by simp) hp hq h
    obtain ⟨p', x, rfl⟩ : ∃ p' x, p = p' ++ [x] := ⟨p.dropLast, p.getLast hp0, (List.dropLast_concat_getLast hp0).symm⟩
    by_cases hq0 : q = []
    · subst hq0
      have := congrArg (fun z : ByteArray => z.data.toList) h
      simp only [tx_data] at this
      exact absurd this (by simp [tx])
    obtain ⟨q', y, rfl⟩ : ∃ q' y, q = q' ++ [y] := ⟨q.dropLast, q.getLast hq0, (List.dropLast_concat_getLast hq0).symm⟩
    have h1 := congrArg (fun z : ByteArray => z.data.toList) h
    simp only [tx_data] at h1
    obtain ⟨h2, h3⟩ := stroke_inj (hp x (by simp)) (hq y (by simp)) h1
    rw [ih p' q' (by simp at hn; omega) (fun z hz => hp z (by simp [hz])) (fun z hz => hq z (by simp [hz])) (ba_ext h2), ba_ext h3]
theorem tx_ne {p : Path} (h : p ≠ []) : tx p ≠ ByteArray.empty := by
  intro e
  obtain ⟨q', y, rfl⟩ : ∃ q' y, p = q' ++ [y] := ⟨p.dropLast, p.getLast h, (List.dropLast_concat_getLast h).symm⟩
  have := congrArg (fun z : ByteArray => z.data.toList) e
  simp only [tx_data] at this
  have h2 := congrArg List.length this
  rw [List.length_append, List.length_cons] at h2
  have h3 : ByteArray.empty.data.toList.length = 0 := rfl
  omega
/-- All paths below one, as Walk goes. -/
def paths (a : Uc.Fn) : Nat → Path → List Path
  | 0, _ => []
  | k + 1, p => match a p with
    | none => []
    | some s => if s.dir then (names s).flatMap (fun x => (p ++ [x]) :: paths a k (p ++ [x])) else []
/-- The names are those that are there. -/
def NmOk (a : Uc.Fn) : Prop := ∀ p s, a p = some s → s.dir = true → (names s).Nodup ∧ ∀ x, x ∈ names s ↔ (a (p ++ [x])).isSome = true
theorem St.nmOk {w : World} {B tb n i m : Nat} {es : Es} (h : St w B tb es n i m) : NmOk (gp es) := by
  intro p s hs hd
  obtain ⟨h1, h2, -⟩ := names_facts (h.ok hs) hd
  refine ⟨h1, fun x => ?_⟩
  have dr := h.wf.dr p s hs hd
  rw [h2, dr.full, dr.kids]
  cases gp es (p ++ [x]) <;> simp
theorem paths_below {a : Uc.Fn} (hn : NmOk a) : ∀ (k : Nat) (p q : Path), q ∈ paths a k p → ∃ r, r ≠ [] ∧ q = p ++ r ∧ (a q).isSome = true := by
  intro k
  induction k with
  | zero => intro p q h; cases h
  | succ k ih =>
    intro p q h
    unfold paths at h
    cases hs : a p with
    | none => rw [hs] at h; cases h
    | some s =>
      rw [hs] at h
      dsimp only at h
      by_cases hd : s.dir = true
      · rw [if_pos hd] at h
        obtain ⟨x, hx, hq⟩ := List.mem_flatMap.1 h
        have h1 := ((hn p s hs hd).2 x).1 hx
        rcases List.mem_cons.1 hq with rfl | hq
        · exact ⟨[x], by simp, rfl, h1⟩
        · obtain ⟨r, -, rfl, h3⟩ := ih _ _ hq
          exact ⟨x :: r, by simp, by simp, h3⟩
      · rw [if_neg hd] at h; cases h
theorem paths_mem {a : Uc.Fn} (hw : WfF a) (hn : NmOk a) : ∀ (k : Nat) (p r : Path), (∀ q, (a q).isSome = true → q.length ≤ p.length + k) → r ≠ [] → (a (p ++ r)).isSome = true → p ++ r ∈ paths a k p := by
  intro k
  induction k with
  | zero =>
    intro p r hk hr h
    have := hk _ h
    rw [List.length_append] at this
    have := List.length_pos_iff.2 hr
    omega
  | succ k ih =>
    intro p r hk hr h
    obtain ⟨x, r', rfl⟩ := List.exists_cons_of_ne_nil hr
    have e : p ++ x :: r' = (p ++ [x]) ++ r' := by simp
    rw [e] at h ⊢
    have hx : (a (p ++ [x])).isSome = true := by
      cases hc : a (p ++ [x]) with
      | some s => rfl
      | none =>
        by_cases h0 : r' = []
        · subst h0; rw [List.append_nil, hc] at h; exact h
        · rw [hw.none_under (fun y => hw.none_below (fun d hd => by rw [hc] at hd; cases hd) y) r' h0] at h; cases h
    obtain ⟨t, ht⟩ := Option.isSome_iff_exists.1 hx
    obtain ⟨s, hs, hd⟩ := hw.par p x t ht
    unfold paths
    rw [hs]
    dsimp only
    rw [if_pos hd]
    refine List.mem_flatMap.2 ⟨x, ((hn p s hs hd).2 x).2 hx, ?_⟩
    by_cases h0 : r' = []
    · subst h0; rw [List.append_nil]; exact List.mem_cons_self
    · exact List.mem_cons_of_mem _ (ih (p ++ [x]) r' (fun q hq => by have := hk q hq; rw [List.length_append, List.length_singleton]; omega) h0 h)
theorem paths_nodup {a : Uc.Fn} (hn : NmOk a) : ∀ (k : Nat) (p : Path), (paths a k p).Nodup := by
  intro k
  induction k with
  | zero => intro p; exact List.nodup_nil
  | succ k ih =>
    intro p
    unfold paths
    cases hs : a p with
    | none => exact List.nodup_nil
    | some s =>
      dsimp only
      by_cases hd : s.dir = true
      · rw [if_pos hd]
        refine List.pairwise_flatMap.2 ⟨fun x _ => ?_, ((hn p s hs hd).1).imp ?_⟩
        · refine List.nodup_cons.2 ⟨fun hm => ?_, ih _⟩
          obtain ⟨r, hr, he, -⟩ := paths_below hn _ _ _ hm
          exact hr (by simpa using he.symm)
        · intro x y hxy q1 h1 q2 h2 e
          have key : ∀ (z : ByteArray) (q : Path), q ∈ (p ++ [z]) :: paths a k (p ++ [z]) → ∃ r, q = p ++ z :: r := by
            intro z q hq
            rcases List.mem_cons.1 hq with rfl | hq
            · exact ⟨[], rfl⟩
            · obtain ⟨r, -, rfl, -⟩ := paths_below hn _ _ _ hq
              exact ⟨r, by simp⟩
          obtain ⟨r1, e1⟩ := key x q1 h1
          obtain ⟨r2, e2⟩ := key y q2 h2
          rw [e1, e2] at e
          exact hxy (List.cons.inj (List.append_cancel_left e)).1
      · rw [if_neg hd]; exact List.nodup_nil
/-- How many paths there are. -/
theorem paths_len {w : World} {B tb n i m : Nat} {es : Es} (h : St w B tb es n i m) {k : Nat} (hk : ∀ q s, gp es q = some s → q.length ≤ k) : (paths (gp es) k []).length + 1 = es.length := by
  have hn := St.nmOk h
  have h1 : ([] :: paths (gp es) k []).Nodup := by
    refine List.nodup_cons.2 ⟨fun hm => ?_, paths_nodup hn _ _⟩
    obtain ⟨r, hr, he, -⟩ := paths_below hn _ _ _ hm
    exact hr (by simpa using he.symm)
  have h2 : (es.map (·.1)).Nodup := h.nd
  have e1 : ∀ q, q ∈ ([] :: paths (gp es) k []) ↔ q ∈ es.map (·.1) := by
    intro q
    have hes : q ∈ es.map (·.1) ↔ (gp es q).isSome = true := by
      constructor
      · intro hq
        obtain ⟨e, he, rfl⟩ := List.mem_map.1 hq
        rw [mem_gp h.nd he]; rfl
      · intro hq
        obtain ⟨s, hs⟩ := Option.isSome_iff_exists.1 hq
        exact List.mem_map.2 ⟨(q, s), gp_mem hs, rfl⟩
    rw [hes]
    constructor
    · intro hq
      rcases List.mem_cons.1 hq with rfl | hq
      · obtain ⟨r, hr, -⟩ := h.wf.root
        rw [hr]; rfl
      · obtain ⟨r, -, -, h3⟩ := paths_below hn _ _ _ hq
        exact h3
    · intro hq
      by_cases h0 : q = []
      · subst h0; exact List.mem_cons_self
      · refine List.mem_cons_of_mem _ ?_
        have := paths_mem h.wf hn k [] q (fun q hq => by obtain ⟨s, hs⟩ := Option.isSome_iff_exists.1 hq; have := hk q s hs; simpa using this) h0 (by simpa using hq)
        simpa using this
  have l1 := len_le _ _ h1 fun x hx => (e1 x).1 hx
  have l2 := len_le _ _ h2 fun x hx => (e1 x).2 hx
  rw [List.length_map] at l1 l2
  rw [List.length_cons] at l1 l2
  omega
/-- What Walk tells of a path. -/
abbrev Row := ByteArray × N
def rowOf (a : Uc.Fn) (q : Path) : Row := (tx q, ((a q).map toN).getD ⟨false, [], 0, 0⟩)
def rows (a : Uc.Fn) (k : Nat) (p : Path) : List Row := (paths a k p).map (rowOf a)
def lastT (l : List Row) : ByteArray := match l.getLast? with
  | none => ByteArray.empty
  | some x => x.1
theorem lastT_snoc (l : List Row) (x : Row) : lastT (l ++ [x]) = x.1 := by unfold lastT; rw [List.getLast?_concat]
/-- No text comes behind itself. -/
theorem rows_apart {a : Uc.Fn} (hw : WfF a) (hn : NmOk a) (k : Nat) {pre : List Row} {x : Row} (h : pre ++ [x] <+: rows a k []) : x.1 ≠ lastT pre := by
  have hnst : ∀ q, q ∈ paths a k [] → NoSt q := by
    intro q hq x hx
    obtain ⟨r, -, -, h3⟩ := paths_below hn _ _ _ hq
    obtain ⟨s, hs⟩ := Option.isSome_iff_exists.1 h3
    intro h47
    exact noStroke (hw.nm q s hs x hx) 47 h47 rfl
  have hnd : ((rows a k []).map (·.1)).Nodup := by
    unfold rows
    rw [List.map_map]
    refine List.pairwise_map.2 ((paths_nodup hn k []).imp_of_mem ?_)
    intro q1 q2 h1 h2 hne e
    exact hne (tx_inj _ q1 q2 (Nat.le_refl _) (hnst q1 h1) (hnst q2 h2) e)
  have hmem : x ∈ rows a k [] := h.subset (by simp)
  obtain ⟨q, hq, hqx⟩ := List.mem_map.1 hmem
  intro e
  by_cases h0 : pre = []
  · subst h0
    have : x.1 = ByteArray.empty := e
    rw [← hqx] at this
    obtain ⟨r, hr, he, -⟩ := paths_below hn _ _ _ hq
    exact tx_ne (p := q) (by rw [he]; simpa using hr) this
  · obtain ⟨pre', y, rfl⟩ : ∃ p' y, pre = p' ++ [y] := ⟨pre.dropLast, pre.getLast h0, (List.dropLast_concat_getLast h0).symm⟩
    rw [lastT_snoc] at e
    obtain ⟨t, ht⟩ := h
    rw [← ht] at hnd
    simp only [List.map_append, List.map_cons, List.map_nil, List.append_assoc] at hnd
    rw [List.nodup_append] at hnd
    have h2 := hnd.2.1
    simp [e] at h2
theorem rows_dir {a : Uc.Fn} {k : Nat} {p : Path} {s : Sh} (hs : a p = some s) (hd : s.dir = true) : rows a (k + 1) p = (names s).flatMap (fun x => rowOf a (p ++ [x]) :: rows a k (p ++ [x])) := by
  unfold rows
  rw [show paths a (k + 1) p = (names s).flatMap (fun x => (p ++ [x]) :: paths a k (p ++ [x])) by
    conv => lhs; unfold paths
    rw [hs]
    dsimp only
    rw [if_pos hd]]
  rw [List.map_flatMap]
  rfl
theorem rows_file {a : Uc.Fn} {k : Nat} {p : Path} {s : Sh} (hs : a p = some s) (hd : s.dir = false) : rows a k p = [] := by
  unfold rows
  cases k with
  | zero => rfl
  | succ k =>
    unfold paths
    rw [hs]
    dsimp only
    rw [if_neg (by simp [hd])]; rfl
end Go.Proofs.YtpdcjdangnfeiaaDoor.Wm
