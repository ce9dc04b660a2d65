/- Paths as plain lists of bytes: cutting at strokes, joining, parents, what lies under what. No program in sight. -/
import Derived.Lib.SplitLaws
namespace Go.Proofs.YthgghgecpjnoiaaDoor.Pb

def okC (c : UInt8) : Bool := decide (33 ≤ c.toNat ∧ c.toNat ≤ 126 ∧ c.toNat ≠ 47)
def nmL (l : List UInt8) : Bool := l != [] && decide (l.length ≤ 48) && l != [46] && l != [46, 46] && l.all okC

def cut : List UInt8 → List (List UInt8)
  | [] => [[]]
  | c :: r => if c = 47 then [] :: cut r else match cut r with
    | [] => [[c]]
    | p :: ps => (c :: p) :: ps
theorem cut_ne (l : List UInt8) : cut l ≠ [] := by
  cases l with
  | nil => simp [cut]
  | cons c r =>
    unfold cut
    split
    · simp
    · split <;> simp
theorem cut_stroke (r : List UInt8) : cut (47 :: r) = [] :: cut r := by simp [cut]
theorem cut_other {c : UInt8} (h : c ≠ 47) {r p : List UInt8} {ps : List (List UInt8)} (e : cut r = p :: ps) : cut (c :: r) = (c :: p) :: ps := by
  rw [cut, if_neg h, e]

theorem index_stroke (r : List UInt8) : Lib.index (47 :: r) [47] = 0 := by rw [Lib.index]; simp [List.isPrefixOf]
theorem index_other {c : UInt8} (h : c ≠ 47) (r : List UInt8) : Lib.index (c :: r) [47] = if Lib.index r [47] == -1 then -1 else Lib.index r [47] + 1 := by
  have hp : ([47] : List UInt8).isPrefixOf (c :: r) = false := by simp [List.isPrefixOf, Ne.symm h]
  rw [Lib.index, hp]; simp
theorem index_none {r : List UInt8} (h : Lib.index r [47] = -1) : r.count 47 = 0 := by rw [← Lib.count_one, Lib.count_miss h]

theorem splitK_cut : ∀ l : List UInt8, Lib.splitK [47] 0 (l.count 47) l = cut l
  | [] => rfl
  | c :: r => by
    have ih := splitK_cut r
    by_cases hc : c = 47
    · subst hc
      rw [List.count_cons_self, cut_stroke, ← ih, Lib.splitK, index_stroke]
      simp
    · rw [List.count_cons_of_ne (by simpa using hc)]
      cases hk : r.count 47 with
      | zero =>
        rw [hk] at ih
        exact (cut_other hc ih.symm).symm
      | succ k =>
        rw [hk] at ih
        have hix : ¬ Lib.index r [47] = -1 := fun e => by have := index_none e; omega
        have hge := Lib.index_ge r [47]
        obtain ⟨j, hj⟩ : ∃ j : Nat, Lib.index r [47] = j := ⟨(Lib.index r [47]).toNat, by omega⟩
        rw [Lib.splitK, if_neg (by rw [hj]; simp)] at ih
        rw [Lib.splitK, index_other hc, if_neg (by rw [hj]; simp; omega), if_neg (by rw [hj]; simp)]
        rw [cut_other hc ih.symm, hj]
        have e1 : ((j : Int) + 1).toNat = j + 1 := by omega
        rw [e1, Int.toNat_natCast]
        simp

def joinL (ps : List (List UInt8)) : List UInt8 := if ps = [] then [47] else ps.flatMap fun p => 47 :: p
theorem flat_cut : ∀ r : List UInt8, (cut r).flatMap (fun p => 47 :: p) = 47 :: r
  | [] => rfl
  | c :: r => by
    have ih := flat_cut r
    by_cases hc : c = 47
    · subst hc; rw [cut_stroke, List.flatMap_cons, ih]; rfl
    · cases h : cut r with
      | nil => exact absurd h (cut_ne r)
      | cons p ps =>
        rw [cut_other hc h]
        rw [h, List.flatMap_cons] at ih
        rw [List.flatMap_cons]
        have : p ++ ps.flatMap (fun p => 47 :: p) = r := by simpa using ih
        simp [this]
theorem join_cut (r : List UInt8) : joinL (cut r) = 47 :: r := by rw [joinL, if_neg (cut_ne r), flat_cut]
theorem noStroke {p : List UInt8} (h : nmL p = true) : ∀ c ∈ p, c ≠ 47 := by
  intro c hc e
  simp only [nmL, Bool.and_eq_true] at h
  have := List.all_eq_true.1 h.2 c hc
  subst e
  simp [okC] at this
theorem cut_app : ∀ (p : List UInt8) (r : List UInt8) (_ : ∀ c ∈ p, c ≠ 47) {q : List UInt8} {ps : List (List UInt8)}, cut r = q :: ps → cut (p ++ r) = (p ++ q) :: ps
  | [], _, _, _, _, h => h
  | c :: p, r, hn, _, _, h => cut_other (hn c List.mem_cons_self) (cut_app p r (fun x hx => hn x (List.mem_cons_of_mem _ hx)) h)
theorem cut_flat : ∀ (p : List UInt8) (ps : List (List UInt8)), (∀ q ∈ p :: ps, ∀ c ∈ q, c ≠ (47 : UInt8)) → cut (p ++ ps.flatMap fun q => 47 :: q) = p :: ps
  | p, [], h => by
    have := cut_app p [] (h p List.mem_cons_self) (q := []) (ps := []) rfl
    simpa using this
  | p, q :: ps, h => by
    have ih := cut_flat q ps (fun x hx => h x (List.mem_cons_of_mem _ hx))
    have e : cut (47 :: (q ++ ps.flatMap fun q => 47 :: q)) = [] :: q :: ps := by rw [cut_stroke, ih]
    have := cut_app p _ (h p List.mem_cons_self) e
    simpa [List.flatMap_cons] using this

/-- A path's names, and what is wrong with it. -/
def splitL (l : List UInt8) : List (List UInt8) × Int :=
  if l.length > 256 then ([], 5) else match l with
  | [] => ([], 12)
  | c :: r => if c ≠ 47 then ([], 12) else if r = [] then ([], 0) else if (cut r).all nmL = true then (if (cut r).length > 8 then ([], 5) else (cut r, 0)) else ([], 12)
def chk (ps : List (List UInt8)) : Int := if ps.all nmL = true then (if ps.length > 8 then 5 else 0) else 12
def joinS (ps : List (List UInt8)) : List UInt8 × Int := if chk ps ≠ 0 then ([], chk ps) else if (joinL ps).length > 256 then ([], 5) else (joinL ps, 0)
def parentS (l : List UInt8) : List UInt8 × List UInt8 × Int :=
  if (splitL l).2 ≠ 0 then ([], [], (splitL l).2) else if (splitL l).1 = [] then ([], [], 12) else (joinL (splitL l).1.dropLast, (splitL l).1.getLastD [], 0)
def underS (a b : List UInt8) : Bool := decide ((splitL a).2 = 0 ∧ (splitL b).2 = 0) && (splitL a).1.isPrefixOf (splitL b).1

theorem chk_zero {ps : List (List UInt8)} (h : chk ps = 0) : ps.all nmL = true ∧ ps.length ≤ 8 := by
  unfold chk at h
  by_cases c : ps.all nmL = true
  · rw [if_pos c] at h
    refine ⟨c, ?_⟩
    by_cases c2 : ps.length > 8
    · rw [if_pos c2] at h; exact absurd h (by decide)
    · omega
  · rw [if_neg c] at h; exact absurd h (by decide)
/-- What splits well: its names are names, few, and joined they are it. -/
theorem split_ok {l : List UInt8} (h : (splitL l).2 = 0) : chk (splitL l).1 = 0 ∧ joinL (splitL l).1 = l ∧ l.length ≤ 256 := by
  unfold splitL at h ⊢
  by_cases c1 : l.length > 256
  · rw [if_pos c1] at h; exact absurd h (by decide)
  rw [if_neg c1] at h ⊢
  cases l with
  | nil => exact absurd h (by decide)
  | cons c r =>
    dsimp only at h ⊢
    by_cases c2 : c ≠ 47
    · rw [if_pos c2] at h; exact absurd h (by decide)
    rw [if_neg c2] at h ⊢
    have e : c = 47 := by simpa using c2
    by_cases c3 : r = []
    · rw [if_pos c3]; subst e c3; exact ⟨rfl, rfl, by omega⟩
    rw [if_neg c3] at h ⊢
    by_cases c4 : (cut r).all nmL = true
    · rw [if_pos c4] at h ⊢
      by_cases c5 : (cut r).length > 8
      · rw [if_pos c5] at h; exact absurd h (by decide)
      · rw [if_neg c5]
        refine ⟨?_, ?_, by omega⟩
        · simp only [chk]; rw [if_pos c4, if_neg c5]
        · rw [e]; exact join_cut r
    · rw [if_neg c4] at h; exact absurd h (by decide)
/-- Names that may be, joined, split into themselves. -/
theorem split_join {ps : List (List UInt8)} (h : chk ps = 0) (hl : (joinL ps).length ≤ 256) : splitL (joinL ps) = (ps, 0) := by
  obtain ⟨hall, h8⟩ := chk_zero h
  cases ps with
  | nil => rfl
  | cons p qs =>
    have hn : ∀ q ∈ p :: qs, ∀ c ∈ q, c ≠ (47 : UInt8) := fun q hq => noStroke (List.all_eq_true.1 hall q hq)
    have hp : p ≠ [] := by
      have := List.all_eq_true.1 hall p List.mem_cons_self
      intro e; subst e; simp [nmL] at this
    have ej : joinL (p :: qs) = 47 :: (p ++ qs.flatMap fun q => 47 :: q) := by simp [joinL, List.flatMap_cons]
    have ec := cut_flat p qs hn
    unfold splitL
    rw [if_neg (by omega), ej]
    dsimp only
    rw [if_neg (by simp), if_neg (by simp [hp]), ec, if_pos hall, if_neg (by omega)]
theorem join_take_len (ps : List (List UInt8)) (n : Nat) (h : 1 ≤ (joinL ps).length) : (joinL (ps.take n)).length ≤ (joinL ps).length := by
  unfold joinL at h ⊢
  by_cases c1 : ps = []
  · subst c1; simp
  rw [if_neg c1] at h ⊢
  by_cases c2 : ps.take n = []
  · rw [if_pos c2]; exact h
  rw [if_neg c2]
  conv => rhs; rw [← List.take_append_drop n ps, List.flatMap_append, List.length_append]
  omega
end Go.Proofs.YthgghgecpjnoiaaDoor.Pb
