/- The decoder of dotted lines as a plain machine: what it has put, which lines, when it is over. The program's decoder, as a block of fields with an own row of bytes: its small methods walked. The program's decoder: one byte taken (plain, step), walked. The program's decoder: New, Next, Text, walked. -/
import Derived.Test.YthgghgecpjnoiaaDoorMa
import Derived.Test.YthgghgecpjnoiaaDoorMa
import Derived.StillTailTactics
namespace Go.Proofs.YthgghgecpjnoiaaDoor.Dm
open Go.Proofs.YthgghgecpjnoiaaDoor.Db
/-- The machine: its state, what it has put, what it was given (last byte first), the lines that are done, the line under way, the line's count, whether a line was too long. -/
structure S where
  st : Nat
  out : List UInt8
  rr : List UInt8
  ls : List (List UInt8)
  cur : List UInt8
  ln : Nat
  wd : Bool
def S0 : S := ⟨0, [], [], [], [], 0, false⟩
def put (c : UInt8) (s : S) : S := { s with out := s.out ++ [c], ln := min (s.ln + 1) 1001, wd := s.wd || decide (1000 < min (s.ln + 1) 1001), cur := s.cur ++ [c] }
def plain (c : UInt8) (s : S) : S := { put c s with st := if c = 13 then 4 else 3 }
def bare (c : UInt8) (s : S) : S :=
  if s.st = 0 then (if c = 46 then { s with ln := 0, st := 1 } else plain c { s with ln := 0 })
  else if s.st = 1 then (if c = 13 then { s with st := 2 } else plain c s)
  else if s.st = 2 then (if c = 10 then { s with st := 5 } else plain c (put 13 s))
  else if s.st = 4 ∧ c = 10 then { put 10 s with st := 0, ls := s.ls ++ [s.cur.dropLast], cur := [] }
  else plain c s
def step (c : UInt8) (s : S) : S := { bare c s with rr := c :: s.rr }
def go (s : S) : List UInt8 → S × List UInt8
  | [] => (s, [])
  | c :: r => if s.st = 5 then (s, c :: r) else go (step c s) r
inductive Good : S → Prop
  | init : Good S0
  | step {s : S} (c : UInt8) : Good s → s.st ≠ 5 → Good (step c s)
theorem go_good : ∀ (l : List UInt8) (s : S), Good s → Good (go s l).1
  | [], s, h => h
  | c :: r, s, h => by
    unfold go
    split
    · exact h
    · exact go_good r _ (.step c h (by assumption))
theorem go_over {s : S} (h : s.st = 5) (l : List UInt8) : go s l = (s, l) := by
  cases l with
  | nil => rfl
  | cons c r => rw [go, if_pos h]
theorem go_rest : ∀ (l : List UInt8) (s : S), (go s l).1.st ≠ 5 → (go s l).2 = []
  | [], s, h => rfl
  | c :: r, s, h => by
    unfold go at h ⊢
    split
    · rename_i k; rw [if_pos k] at h; exact absurd k h
    · rename_i k; rw [if_neg k] at h; exact go_rest r _ h
theorem go_app : ∀ (a b : List UInt8) (s : S), go s (a ++ b) = if (go s a).1.st = 5 then ((go s a).1, (go s a).2 ++ b) else go (go s a).1 b
  | [], b, s => by
    by_cases h : s.st = 5
    · simp [go, h, go_over h]
    · simp [go, h]
  | c :: r, b, s => by
    by_cases h : s.st = 5
    · simp [go, h]
    · simp only [List.cons_append, go, if_neg h]
      exact go_app r b _
theorem go_len : ∀ (l : List UInt8) (s : S), (go s l).2.length ≤ l.length
  | [], s => by simp [go]
  | c :: r, s => by
    unfold go
    split
    · simp
    · have := go_len r (step c s); simp; omega
theorem st_le {s : S} (h : Good s) : s.st ≤ 5 := by
  induction h with
  | init => simp [S0]
  | @step s c hs hn ih =>
    simp only [step, bare, plain, put]
    repeat' split
    all_goals (first | omega | (simp only []; omega) | (simp only []; split <;> omega))
/-- How the reference puts: from a byte on; fresh: at a line's begin; prev: the byte ahead is a CR. -/
def refGo (fresh prev : Bool) (out : List UInt8) : List UInt8 → List UInt8
  | [] => out
  | c :: r => if fresh = true ∧ c = 46 then (if r = [] ∨ r = [13] ∨ r = [13, 10] then out else refGo false false out r)
    else refGo (decide (c = 10) && prev && !fresh) (decide (c = 13)) (out ++ [c]) r
def kof (s : S) (r : List UInt8) : List UInt8 :=
  if s.st = 0 then refGo true false s.out r
  else if s.st = 1 then refGo true false s.out (46 :: r)
  else if s.st = 2 then refGo true false s.out (46 :: 13 :: r)
  else if s.st = 4 then refGo false true s.out r
  else if s.st = 5 then refGo true false s.out (46 :: 13 :: 10 :: r)
  else refGo false false s.out r
theorem refGo_plain {fr pr : Bool} {out r : List UInt8} {c : UInt8} (h : ¬ (fr = true ∧ c = 46)) (h2 : ¬ (c = 10 ∧ pr = true ∧ fr = false)) : refGo fr pr out (c :: r) = refGo false (decide (c = 13)) (out ++ [c]) r := by
  rw [refGo, if_neg h]
  congr 1
  cases fr <;> cases pr <;> simp_all
theorem kof_step {s : S} (h : Good s) (hn : s.st ≠ 5) (c : UInt8) (r : List UInt8) : kof s (c :: r) = kof (step c s) r := by
  have hle := st_le h
  have h6 : s.st = 0 ∨ s.st = 1 ∨ s.st = 2 ∨ s.st = 3 ∨ s.st = 4 := by omega
  rcases h6 with k | k | k | k | k
  · by_cases h1 : c = 46
    · simp [kof, step, bare, k, h1]
    · by_cases h2 : c = 13
      · simp [kof, step, bare, k, plain, put, h2, refGo]
      · simp [kof, step, bare, k, h1, plain, put, h2]
        rw [refGo_plain (by simp [h1]) (by simp)]
        simp [h2]
  · by_cases h1 : c = 13
    · simp [kof, step, bare, k, h1]
    · simp [kof, step, bare, k, h1, plain, put]
      rw [refGo, if_pos ⟨rfl, rfl⟩, if_neg (by simp [h1]), refGo_plain (by simp) (by simp)]
      simp [h1]
  · by_cases h1 : c = 10
    · simp [kof, step, bare, k, h1]
    · by_cases h2 : c = 13
      · simp [kof, step, bare, k, plain, put, h2]
        rw [refGo, if_pos ⟨rfl, rfl⟩, if_neg (by simp), refGo_plain (by simp) (by simp), refGo_plain (by simp) (by simp)]
        simp
      · simp [kof, step, bare, k, h1, plain, put, h2]
        rw [refGo, if_pos ⟨rfl, rfl⟩, if_neg (by simp [h1]), refGo_plain (by simp) (by simp), refGo_plain (by simp) (by simp [h1])]
        simp [h2]
  · by_cases h2 : c = 13
    · simp [kof, step, bare, k, plain, put, h2]
      rw [refGo_plain (by simp) (by simp)]; simp
    · simp [kof, step, bare, k, plain, put, h2]
      rw [refGo_plain (by simp) (by simp)]; simp [h2]
  · by_cases h1 : c = 10
    · simp [kof, step, bare, k, put, h1]
      rw [refGo, if_neg (by simp)]; simp
    · by_cases h2 : c = 13
      · simp [kof, step, bare, k, plain, put, h2]
        rw [refGo_plain (by simp) (by simp)]; simp
      · simp [kof, step, bare, k, plain, put, h1, h2]
        rw [refGo_plain (by simp) (by simp [h1])]; simp [h2]
theorem kof_all {s : S} (h : Good s) : ∀ r, refGo true false [] (s.rr.reverse ++ r) = kof s r := by
  induction h with
  | init => intro r; simp [kof, S0]
  | @step s c hs hn ih =>
    intro r
    have e : (step c s).rr.reverse = s.rr.reverse ++ [c] := by simp [step]
    rw [e, List.append_assoc, List.singleton_append, ih, kof_step hs hn]
/-- The reference's text of what was given is what the machine has put. -/
theorem ref_out {s : S} (h : Good s) : refGo true false [] s.rr.reverse = s.out := by
  have h1 := kof_all h []
  rw [List.append_nil] at h1
  rw [h1]
  have hle := st_le h
  have h6 : s.st = 0 ∨ s.st = 1 ∨ s.st = 2 ∨ s.st = 3 ∨ s.st = 4 ∨ s.st = 5 := by omega
  rcases h6 with k | k | k | k | k | k <;> simp [kof, k, refGo]
/-- When it is over. -/
structure Ends (s : S) : Prop where
  a0 : (s.st = 0 ∨ s.st = 5) ↔ (s.rr = [] ∨ [10, 13] <+: s.rr)
  a1 : s.st = 1 ↔ (s.rr = [46] ∨ [46, 10, 13] <+: s.rr)
  a2 : s.st = 2 ↔ (s.rr = [13, 46] ∨ [13, 46, 10, 13] <+: s.rr)
  a4 : (s.st = 4 ∨ s.st = 2) ↔ [13] <+: s.rr
  a5 : s.st = 5 ↔ (s.rr = [10, 13, 46] ∨ [10, 13, 46, 10, 13] <+: s.rr)
theorem ends_of {s : S} (h : Good s) : Ends s := by
  induction h with
  | init => constructor <;> simp [S0]
  | @step s c hs hn ih =>
    have hle := st_le hs
    obtain ⟨a0, a1, a2, a4, a5⟩ := ih
    have h6 : s.st = 0 ∨ s.st = 1 ∨ s.st = 2 ∨ s.st = 3 ∨ s.st = 4 := by omega
    have e : (step c s).rr = c :: s.rr := rfl
    have f : ∀ P : Prop, (False ↔ P) → ¬ P := fun P h p => h.2 p
    rcases h6 with k | k | k | k | k
    all_goals simp only [k] at a0 a1 a2 a4 a5
    all_goals by_cases h1 : c = 46
    all_goals by_cases h2 : c = 13
    all_goals by_cases h3 : c = 10
    all_goals (first | (exfalso; subst h1; revert h2; decide) | (exfalso; subst h1; revert h3; decide) | (exfalso; subst h2; revert h3; decide) | skip)
    all_goals constructor
    all_goals (rw [e]; simp [step, bare, plain, put, k, h1, h2, h3, List.cons_prefix_cons] at a0 a1 a2 a4 a5 ⊢)
    all_goals (first | done | (simp_all [eq_comm]; done) | skip)
theorem over_iff {s : S} (h : Good s) : s.st = 5 ↔ (s.rr.reverse = [46, 13, 10] ∨ [13, 10, 46, 13, 10] <:+ s.rr.reverse) := by
  rw [(ends_of h).a5]
  refine or_congr ?_ ?_
  · rw [List.reverse_eq_iff]; rfl
  · rw [← List.reverse_prefix]
    simp
/-! The lines that were put -/
def lof (s : S) (r : List UInt8) : List (List UInt8) := if s.st = 4 then s.ls ++ lns s.cur.dropLast (13 :: r) else s.ls ++ lns s.cur r
theorem lns_one {cur r : List UInt8} {c : UInt8} (h : c ≠ 13) : lns cur (c :: r) = lns (cur ++ [c]) r := by
  cases r with
  | nil => simp [lns]
  | cons y r => rw [lns_miss (by simp [h])]
theorem lns_two {cur r : List UInt8} {c : UInt8} (h : c ≠ 10) : lns cur (13 :: c :: r) = lns (cur ++ [13]) (c :: r) := lns_miss (by simp [h])
structure Curs (s : S) : Prop where
  c0 : s.st ≠ 3 → s.st ≠ 4 → s.cur = []
  c4 : s.st = 4 → s.cur = s.cur.dropLast ++ [13]
  o4 : s.st = 4 → ∃ o, s.out = o ++ [13]
  o0 : s.st ≠ 3 → s.st ≠ 4 → s.out = [] ∨ ∃ o, s.out = o ++ [13, 10]
  ln : s.st = 1 ∨ s.st = 2 ∨ s.st = 3 ∨ s.st = 4 → s.ln = min s.cur.length 1001
  wd : s.wd = (s.ls.any (fun l => decide (998 < l.length)) || decide (1000 < s.cur.length))
  lines : ∀ r, lns [] (s.out ++ r) = lof s r
theorem wd_put (W : Bool) (n : Nat) : ((W || decide (1000 < n)) || decide (1000 < min (min n 1001 + 1) 1001)) = (W || decide (1000 < n + 1)) := by
  cases W
  · by_cases h : 1000 < n
    · simp [h]; omega
    · simp [h]; omega
  · simp
theorem curs_of {s : S} (h : Good s) : Curs s := by
  induction h with
  | init => constructor <;> simp [S0, lof]
  | @step s c hs hn ih =>
    have hle := st_le hs
    obtain ⟨c0, c4, o4, o0, ln, wd, lines⟩ := ih
    have h6 : s.st = 0 ∨ s.st = 1 ∨ s.st = 2 ∨ s.st = 3 ∨ s.st = 4 := by omega
    rcases h6 with k | k | k | k | k
    · have e := c0 (by omega) (by omega)
      rw [e] at wd
      simp only [List.length_nil] at wd
      by_cases h1 : c = 46
      · constructor
        · simp [step, bare, k, h1, e]
        · simp [step, bare, k, h1]
        · simp [step, bare, k, h1]
        · simp [step, bare, k, h1]; exact o0 (by omega) (by omega)
        · simp [step, bare, k, h1, e]
        · simp [step, bare, k, h1, e, wd]
        · intro r; have := lines r; simpa [step, bare, k, h1, lof] using this
      · by_cases h2 : c = 13
        · constructor
          · simp [step, bare, k, plain, put, h2]
          · simp [step, bare, k, plain, put, h2, e]
          · simp [step, bare, k, plain, put, h2]
          · simp [step, bare, k, plain, put, h2]
          · simp [step, bare, k, plain, put, h2, e]
          · simp [step, bare, k, plain, put, h2, e, wd]
          · intro r; have := lines (13 :: r); simpa [step, bare, k, plain, put, h2, lof, e] using this
        · constructor
          · simp [step, bare, k, plain, put, h1, h2]
          · simp [step, bare, k, plain, put, h1, h2]
          · simp [step, bare, k, plain, put, h1, h2]
          · simp [step, bare, k, plain, put, h1, h2]
          · simp [step, bare, k, plain, put, h1, h2, e]
          · simp [step, bare, k, plain, put, h1, h2, e, wd]
          · intro r; have := lines (c :: r); rw [lof, if_neg (by omega), e, lns_one h2] at this; simpa [step, bare, k, plain, put, h1, h2, lof, e] using this
    · have e := c0 (by omega) (by omega)
      have l0 := ln (by omega)
      rw [e] at wd l0
      simp only [List.length_nil] at wd l0
      by_cases h1 : c = 13
      · constructor
        · simp [step, bare, k, h1, e]
        · simp [step, bare, k, h1]
        · simp [step, bare, k, h1]
        · simp [step, bare, k, h1]; exact o0 (by omega) (by omega)
        · simp [step, bare, k, h1, e, l0]
        · simp [step, bare, k, h1, e, wd]
        · intro r; have := lines r; simpa [step, bare, k, h1, lof] using this
      · constructor
        · simp [step, bare, k, plain, put, h1]
        · simp [step, bare, k, plain, put, h1]
        · simp [step, bare, k, plain, put, h1]
        · simp [step, bare, k, plain, put, h1]
        · simp [step, bare, k, plain, put, h1, e, l0]
        · simp [step, bare, k, plain, put, h1, e, wd, l0]
        · intro r; have := lines (c :: r); rw [lof, if_neg (by omega), e, lns_one h1] at this; simpa [step, bare, k, plain, put, h1, lof, e] using this
    · have e := c0 (by omega) (by omega)
      have l0 := ln (by omega)
      rw [e] at wd l0
      simp only [List.length_nil] at wd l0
      by_cases h1 : c = 10
      · constructor
        · simp [step, bare, k, h1, e]
        · simp [step, bare, k, h1]
        · simp [step, bare, k, h1]
        · simp [step, bare, k, h1]; exact o0 (by omega) (by omega)
        · simp [step, bare, k, h1]
        · simp [step, bare, k, h1, e, wd]
        · intro r; have := lines r; simpa [step, bare, k, h1, lof] using this
      · by_cases h2 : c = 13
        · constructor
          · simp [step, bare, k, plain, put, h2]
          · simp [step, bare, k, plain, put, h2, e]
          · intro _; exact ⟨s.out ++ [13], by simp [step, bare, k, plain, put, h2]⟩
          · simp [step, bare, k, plain, put, h2]
          · simp [step, bare, k, plain, put, h2, e, l0]
          · simp [step, bare, k, plain, put, h2, e, wd, l0]
          · intro r; have := lines (13 :: 13 :: r); rw [lof, if_neg (by omega), e, lns_two (by decide)] at this; simpa [step, bare, k, plain, put, h2, lof, e] using this
        · constructor
          · simp [step, bare, k, plain, put, h1, h2]
          · simp [step, bare, k, plain, put, h1, h2]
          · simp [step, bare, k, plain, put, h1, h2]
          · simp [step, bare, k, plain, put, h1, h2]
          · simp [step, bare, k, plain, put, h1, h2, e, l0]
          · simp [step, bare, k, plain, put, h1, h2, e, wd, l0]
          · intro r; have := lines (13 :: c :: r); rw [lof, if_neg (by omega), e, lns_two h1, lns_one h2] at this; simpa [step, bare, k, plain, put, h1, h2, lof, e] using this
    · have l0 := ln (by omega)
      by_cases h2 : c = 13
      · constructor
        · simp [step, bare, k, plain, put, h2]
        · simp [step, bare, k, plain, put, h2]
        · simp [step, bare, k, plain, put, h2]
        · simp [step, bare, k, plain, put, h2]
        · simp [step, bare, k, plain, put, h2, l0]; omega
        · simp only [step, bare, k, plain, put, h2]
          simp [wd, l0]
          rw [Bool.or_assoc, ← Bool.or_assoc]
          have := wd_put (s.ls.any (fun l => decide (998 < l.length))) s.cur.length
          simpa using this
        · intro r; have := lines (13 :: r); simpa [step, bare, k, plain, put, h2, lof] using this
      · constructor
        · simp [step, bare, k, plain, put, h2]
        · simp [step, bare, k, plain, put, h2]
        · simp [step, bare, k, plain, put, h2]
        · simp [step, bare, k, plain, put, h2]
        · simp [step, bare, k, plain, put, h2, l0]; omega
        · simp only [step, bare, k, plain, put, h2]
          simp [wd, l0]
          have := wd_put (s.ls.any (fun l => decide (998 < l.length))) s.cur.length
          simpa using this
        · intro r; have := lines (c :: r); rw [lof, if_neg (by omega), lns_one h2] at this; simpa [step, bare, k, plain, put, h2, lof] using this
    · have l0 := ln (by omega)
      have e4 := c4 k
      obtain ⟨o, ho⟩ := o4 k
      by_cases h1 : c = 10
      · constructor
        · simp [step, bare, k, put, h1]
        · simp [step, bare, k, put, h1]
        · simp [step, bare, k, put, h1]
        · intro _ _; right; exact ⟨o, by simp [step, bare, k, put, h1, ho]⟩
        · simp [step, bare, k, put, h1]
        · simp only [step, bare, k, put, h1]
          simp [wd, l0]
          have := wd_put (s.ls.any (fun l => decide (998 < l.length))) s.cur.length
          have e5 : decide (998 < s.cur.length - 1) = decide (1000 < s.cur.length + 1) := by
            by_cases q : 999 < s.cur.length
            · rw [decide_eq_true (by omega), decide_eq_true (by omega)]
            · rw [decide_eq_false (by omega), decide_eq_false (by omega)]
          rw [e5]
          simpa using this
        · intro r; have := lines (10 :: r); rw [lof, if_pos k, lns_hit] at this; simpa [step, bare, k, put, h1, lof] using this
      · have e6 : ∀ r, lns s.cur.dropLast (13 :: c :: r) = lns s.cur (c :: r) := fun r => by rw [lns_two h1, ← e4]
        by_cases h2 : c = 13
        · constructor
          · simp [step, bare, k, plain, put, h2]
          · simp [step, bare, k, plain, put, h2]
          · simp [step, bare, k, plain, put, h2]
          · simp [step, bare, k, plain, put, h2]
          · simp [step, bare, k, plain, put, h2, l0]; omega
          · simp only [step, bare, k, plain, put, h2]
            simp [wd, l0]
            have := wd_put (s.ls.any (fun l => decide (998 < l.length))) s.cur.length
            simpa using this
          · intro r; have := lines (c :: r); rw [lof, if_pos k, e6, h2] at this; simpa [step, bare, k, plain, put, h2, lof] using this
        · constructor
          · simp [step, bare, k, plain, put, h1, h2]
          · simp [step, bare, k, plain, put, h1, h2]
          · simp [step, bare, k, plain, put, h1, h2]
          · simp [step, bare, k, plain, put, h1, h2]
          · simp [step, bare, k, plain, put, h1, h2, l0]; omega
          · simp only [step, bare, k, plain, put, h1, h2]
            simp [wd, l0]
            have := wd_put (s.ls.any (fun l => decide (998 < l.length))) s.cur.length
            simpa using this
          · intro r; have := lines (c :: r); rw [lof, if_pos k, e6, lns_one h2] at this; simpa [step, bare, k, plain, put, h1, h2, lof] using this
theorem out_whole {s : S} (h : Good s) (h5 : s.st = 5) : wholeL s.out = s.out := by
  rcases (curs_of h).o0 (by omega) (by omega) with e | ⟨o, e⟩
  · rw [e]; rfl
  · unfold wholeL
    rw [if_pos]
    right
    rw [e, List.isSuffixOf_iff_suffix]
    exact ⟨o, rfl⟩
theorem out_lines {s : S} (h : Good s) (h5 : s.st = 5) : linesL s.out = s.ls := by
  have h1 := (curs_of h).lines []
  rw [List.append_nil] at h1
  rw [linesL, out_whole h h5, h1, lof, if_neg (by omega), (curs_of h).c0 (by omega) (by omega)]
  simp [lns]
/-- A line was too long. -/
theorem wide_iff {s : S} (h : Good s) (h5 : s.st = 5) : s.wd = (linesL s.out).any (fun l => decide (998 < l.length)) := by
  rw [out_lines h h5, (curs_of h).wd, (curs_of h).c0 (by omega) (by omega)]
  simp
theorem out_len {s : S} (h : Good s) : s.out.length + (if s.st = 2 then 2 else if s.st = 1 then 1 else 0) ≤ s.rr.length := by
  induction h with
  | init => simp [S0]
  | @step s c hs hn ih =>
    have hle := st_le hs
    have h6 : s.st = 0 ∨ s.st = 1 ∨ s.st = 2 ∨ s.st = 3 ∨ s.st = 4 := by omega
    rcases h6 with k | k | k | k | k
    all_goals simp only [k] at ih
    all_goals by_cases h1 : c = 46
    all_goals by_cases h2 : c = 13
    all_goals by_cases h3 : c = 10
    all_goals simp [step, bare, plain, put, k, h1, h2, h3] at ih ⊢
    all_goals omega
/-! A message that is encoded comes back -/
def nb (b : Bool) : List UInt8 → Prop
  | [] => True
  | c :: r => ¬ (b = true ∧ c = 10) ∧ nb (decide (c = 13)) r
theorem nb_left : ∀ (q : List UInt8) (b : Bool) (x : List UInt8), nb b (q ++ x) → nb b q
  | [], _, _, _ => trivial
  | _ :: q, _, x, h => ⟨h.1, nb_left q _ x h.2⟩
theorem nb_snoc : ∀ (q : List UInt8) (b : Bool) (x y : UInt8), nb b (q ++ [x]) → ¬ (x = 13 ∧ y = 10) → nb b (q ++ [x] ++ [y])
  | [], b, x, y, h, k => by
    refine ⟨h.1, ?_, trivial⟩
    intro h2
    exact k ⟨by simpa using h2.1, h2.2⟩
  | _ :: q, _, x, y, h, k => ⟨h.1, nb_snoc q _ x y h.2 k⟩
theorem lns_nb : ∀ (l cur : List UInt8), (∀ x ∈ l.head?, nb false (cur ++ [x])) → ∀ p ∈ lns cur l, nb false p
  | [], cur, _, p, hp => by simp [lns] at hp
  | [_], cur, _, p, hp => by simp [lns] at hp
  | x :: y :: r, cur, h, p, hp => by
    have h1 := h x (by simp)
    by_cases k : x = 13 ∧ y = 10
    · obtain ⟨rfl, rfl⟩ := k
      rw [lns_hit] at hp
      rcases List.mem_cons.1 hp with rfl | hp
      · exact nb_left _ _ _ h1
      · refine lns_nb r [] (fun z _ => ⟨by simp, trivial⟩) p hp
    · rw [lns_miss k] at hp
      refine lns_nb (y :: r) (cur ++ [x]) (fun z hz => ?_) p hp
      obtain rfl : y = z := by simpa using hz
      exact nb_snoc _ _ _ _ h1 k
theorem lns_flat : ∀ (l cur : List UInt8), crlf <:+ l → cur ++ l = (lns cur l).flatMap (fun s => s ++ crlf)
  | [], cur, h => by simp [crlf] at h
  | [z], cur, h => by
    have := h.length_le
    simp [crlf] at this
  | x :: y :: r, cur, h => by
    by_cases k : x = 13 ∧ y = 10
    · obtain ⟨rfl, rfl⟩ := k
      rw [lns_hit, List.flatMap_cons]
      by_cases hr : r = []
      · subst hr; simp [lns, crlf]
      · have h2 : crlf <:+ r := by
          obtain ⟨t, ht⟩ := h
          match t, ht with
          | [], ht => simp [crlf] at ht; exact absurd ht.symm (by simpa using hr)
          | [a], ht =>
            have h0 : [a] ++ [(13 : UInt8), 10] = 13 :: 10 :: r := ht
            simp at h0
          | a :: b :: t, ht =>
            have h0 : a :: b :: (t ++ crlf) = 13 :: 10 :: r := ht
            simp at h0
            exact ⟨t, h0.2.2⟩
        have := lns_flat r [] h2
        rw [← this]
        simp [crlf]
    · rw [lns_miss k]
      have h2 : crlf <:+ y :: r := by
        obtain ⟨t, ht⟩ := h
        match t, ht with
        | [], ht =>
          have h0 : [(13 : UInt8), 10] = x :: y :: r := ht
          simp at h0
          exact absurd ⟨h0.1.symm, h0.2.1.symm⟩ k
        | a :: t, ht =>
          have h0 : a :: (t ++ crlf) = x :: y :: r := ht
          simp at h0
          exact ⟨t, h0.2⟩
      rw [← lns_flat (y :: r) (cur ++ [x]) h2]
      simp
theorem whole_flat (l : List UInt8) : wholeL l = (linesL l).flatMap (fun s => s ++ crlf) := by
  unfold linesL
  by_cases h : l = []
  · subst h; rfl
  · have h2 : crlf <:+ wholeL l := by
      unfold wholeL
      split
      · rename_i k
        rcases k with k | k
        · exact absurd k h
        · exact List.isSuffixOf_iff_suffix.1 k
      · exact List.suffix_append _ _
    have := lns_flat (wholeL l) [] h2
    simpa using this
theorem whole_idem (l : List UInt8) : wholeL (wholeL l) = wholeL l := by
  have h : wholeL l = [] ∨ crlf.isSuffixOf (wholeL l) = true := by
    unfold wholeL
    split
    · assumption
    · right; rw [List.isSuffixOf_iff_suffix]; exact List.suffix_append _ _
  show (if wholeL l = [] ∨ crlf.isSuffixOf (wholeL l) = true then wholeL l else wholeL l ++ crlf) = _
  rw [if_pos h]
theorem lines_whole (l : List UInt8) : linesL (wholeL l) = linesL l := by
  unfold linesL
  rw [whole_idem]
theorem run_rest : ∀ (q : List UInt8) (b : Bool) (s : S) (r : List UInt8), s.st = (if b then 4 else 3) → nb b q → ∃ s' : S, s'.st = 0 ∧ s'.out = s.out ++ q ++ crlf ∧ go s (q ++ crlf ++ r) = go s' r
  | [], b, s, r, hs, _ => by
    refine ⟨step 10 (step 13 s), ?_, ?_, ?_⟩
    · cases b <;> simp [step, bare, hs, plain, put]
    · cases b <;> simp [step, bare, hs, plain, put, crlf]
    · cases b <;> simp [go, crlf, step, bare, hs, plain, put]
  | c :: q, b, s, r, hs, hq => by
    have h1 : step c s = { plain c s with rr := c :: s.rr } := by
      cases b
      · simp [step, bare, hs]
      · have : ¬ c = 10 := fun e => hq.1 ⟨rfl, e⟩
        simp [step, bare, hs, this]
    obtain ⟨s', e1, e2, e3⟩ := run_rest q (decide (c = 13)) (step c s) r (by rw [h1]; by_cases h : c = 13 <;> simp [plain, h]) hq.2
    refine ⟨s', e1, ?_, ?_⟩
    · rw [e2, h1]; simp [plain, put]
    · rw [← e3]
      simp only [List.cons_append, go]
      rw [if_neg (by rw [hs]; cases b <;> simp)]
theorem run_line (p : List UInt8) (s : S) (r : List UInt8) (hs : s.st = 0) (hp : nb false p) : ∃ s' : S, s'.st = 0 ∧ s'.out = s.out ++ (p ++ crlf) ∧ go s (dotL p ++ r) = go s' r := by
  cases p with
  | nil =>
    refine ⟨step 10 (step 13 s), ?_, ?_, ?_⟩
    · simp [step, bare, hs, plain, put]
    · simp [step, bare, hs, plain, put, crlf]
    · simp [go, dotL, crlf, step, bare, hs, plain, put]
  | cons c q =>
    by_cases k : c = 46
    · subst k
      have h1 : step 46 (step 46 s) = { plain 46 { s with ln := 0, st := 1 } with rr := 46 :: 46 :: s.rr } := by simp [step, bare, hs, plain, put]
      obtain ⟨s', e1, e2, e3⟩ := run_rest q false (step 46 (step 46 s)) r (by rw [h1]; simp [plain]) hp.2
      refine ⟨s', e1, ?_, ?_⟩
      · rw [e2, h1]; simp [plain, put]
      · rw [← e3]
        simp [go, dotL, hs, step, bare]
    · have h1 : step c s = { plain c { s with ln := 0 } with rr := c :: s.rr } := by simp [step, bare, hs, k]
      obtain ⟨s', e1, e2, e3⟩ := run_rest q (decide (c = 13)) (step c s) r (by rw [h1]; by_cases h : c = 13 <;> simp [plain, h]) hp.2
      refine ⟨s', e1, ?_, ?_⟩
      · rw [e2, h1]; simp [plain, put]
      · rw [← e3]
        simp [go, dotL, hs, k]
theorem run_body : ∀ (ps : List (List UInt8)) (s : S) (r : List UInt8), s.st = 0 → (∀ p ∈ ps, nb false p) → ∃ s' : S, s'.st = 0 ∧ s'.out = s.out ++ ps.flatMap (fun p => p ++ crlf) ∧ go s (bodyL ps ++ r) = go s' r
  | [], s, r, hs, _ => ⟨s, hs, by simp, by simp [bodyL]⟩
  | p :: ps, s, r, hs, h => by
    obtain ⟨s1, a1, a2, a3⟩ := run_line p s (bodyL ps ++ r) hs (h p (by simp))
    obtain ⟨s2, b1, b2, b3⟩ := run_body ps s1 r a1 (fun q hq => h q (by simp [hq]))
    refine ⟨s2, b1, ?_, ?_⟩
    · rw [b2, a2]; simp [List.flatMap_cons]
    · rw [← b3, ← a3]; simp [bodyL, List.flatMap_cons]
/-- Encoded bytes, with bytes behind: just the message comes back, and the bytes behind are left. -/
theorem back (l more : List UInt8) : ∃ s : S, go S0 (encL l ++ more) = (s, more) ∧ s.st = 5 ∧ s.out = wholeL l ∧ Good s := by
  obtain ⟨s1, a1, a2, a3⟩ := run_body (linesL l) S0 ([46, 13, 10] ++ more) rfl (lns_nb _ [] (fun z _ => ⟨by simp, trivial⟩))
  have e : go S0 (encL l ++ more) = (step 10 (step 13 (step 46 s1)), more) := by
    rw [encL, List.append_assoc, a3]
    simp only [List.cons_append, List.nil_append, go]
    rw [if_neg (by omega), if_neg (by simp [step, bare, a1]), if_neg (by simp [step, bare, a1])]
    rw [go_over (by simp [step, bare, a1])]
  refine ⟨_, e, by simp [step, bare, a1], ?_, ?_⟩
  · simp [step, bare, a1]
    rw [a2, whole_flat]
    simp [S0]
  · have := go_good (encL l ++ more) S0 .init
    rw [e] at this
    exact this
/-- No front of encoded bytes is over. -/
theorem front (l a b : List UInt8) (h : encL l = a ++ b) (hb : b ≠ []) : (go S0 a).1.st ≠ 5 ∧ (go S0 a).2 = [] := by
  obtain ⟨s, e1, e2, e3, -⟩ := back l []
  rw [List.append_nil, h, go_app] at e1
  have k : (go S0 a).1.st ≠ 5 := by
    intro k
    rw [if_pos k] at e1
    have := congrArg Prod.snd e1
    simp at this
    exact hb this.2
  exact ⟨k, go_rest _ _ k⟩
theorem enc_pos (l : List UInt8) : 0 < (encL l).length := by simp [encL]
end Go.Proofs.YthgghgecpjnoiaaDoor.Dm
namespace Go.Proofs.YthgghgecpjnoiaaDoor.Dn
open Go.RowKit Go.Proofs.YthgghgecpjnoiaaDoorW.PrintWords Go.Proofs.YthgghgecpjnoiaaDoorW.PrintLast Go.Proofs.YthgghgecpjnoiaaDoorW.PrintMore Go.Proofs.YthgghgecpjnoiaaDoor.Pc Go.Proofs.YthgghgecpjnoiaaDoor.Pd Go.Proofs.YthgghgecpjnoiaaDoor.Pk Go.Proofs.YthgghgecpjnoiaaDoor.Da Go.Proofs.YthgghgecpjnoiaaDoor.Db Go.Proofs.YthgghgecpjnoiaaDoor.Dc Go.Proofs.YthgghgecpjnoiaaDoor.Dd Go.Proofs.YthgghgecpjnoiaaDoor.De
/-- append(own row of bytes, row of bytes ...), with where the new row lies. -/
theorem wpList_rown {ops : Array Oper} {rest : List Oper} {o : Oper} {a : Act} {w : World} {Q : Exit → Act → World → Prop} (hgd : o.guard = none) (s x : Operand) (ho : o.op = .call { callee := .builtin .append, args := #[s, x], argTypes := #[22, 22] }) (base : Nat) (v : Value) (xs : List UInt8) (hs : a.eval s = v) (hown : OwnB w base v xs)
    (A : Option Addr) (c : Nat) (l : List UInt8) (hx : a.eval x = .slice A l.length c) (hr : RdB w A l) (hn : xs.length + l.length ≤ 1000000000) (hbase : base ≤ w.heap.size)
    (h : ∀ v' w', OwnB w' base v' (xs ++ l) → Below base w w' → w.grownBy w' v.ownBlock → (v'.ownBlock = v.ownBlock ∨ ∃ b, v'.ownBlock = some b ∧ w.heap.size ≤ b) → wpList Tryd.prog ops Q rest (a.put o.dst v') w') : wpList Tryd.prog ops Q (o :: rest) a w :=
  print_append_row_of (w0 := w) bv 0 base hgd s x 22 5 (.int .u8 0) 1 ho Tryd.underlying22 info5 rfl (by decide) bv1 v xs l A l.length c hs hx hown hr (Below.refl _ _) hbase (by omega) fun v1 w1 h1 h2 h3 h4 => h v1 w1 h1 h2 h3 h4
theorem RdB.lt {w : World} {A : Option Addr} {l : List UInt8} (h : RdB w A l) (h0 : 0 < l.length) : ∀ ad, A = some ad → ad.block < w.heap.size := by
  intro ad e
  obtain ⟨ad', e', hc⟩ := h.2.2 h0
  rw [e] at e'
  cases e'
  have := World.block_lt_of_cell? w _ (hc 0 h0)
  simpa [Addr.add] using this
theorem far {ad : Addr} {v : Value} {n n' : Nat} (h : ad.block < n) (hv : v.ownBlock = none ∨ ∃ k, v.ownBlock = some k ∧ n' ≤ k) (hn : n ≤ n') : some ad.block ≠ v.ownBlock := by
  rcases hv with hv | ⟨k, hv, hk⟩
  · rw [hv]; simp
  · rw [hv]; intro e; injection e with e; omega
theorem RdB.kept {w w1 : World} {A : Option Addr} {l : List UInt8} {g : Nat} {row : Option Nat} (h : RdB w A l) (hk : KeepBut w w1 g row) (hA : ∀ ad, A = some ad → 0 < l.length → ad.block ≠ g ∧ some ad.block ≠ row) : RdB w1 A l := by
  refine ⟨h.1, h.2.1, fun hn => ?_⟩
  obtain ⟨ad, e, hc⟩ := h.2.2 hn
  refine ⟨ad, e, fun j hj => ?_⟩
  have hc := hc j hj
  obtain ⟨h1, h2⟩ := hA ad e hn
  have hb : (ad.add j).block = ad.block := add_block ad j
  have hlt := World.block_lt_of_cell? w _ hc
  rw [hb] at hlt
  rw [← hc]
  exact World.cell?_of_block (by rw [hb]; exact hk.2 _ hlt h1 h2)
def cellsD (M : Nat) (v : Value) (s : Dm.S) : Array Value := #[.int .i64 M, v, .int .i64 (min s.out.length (M + 1) : Nat), .int .i64 s.ln, .bool s.wd, .int .i64 s.st]
/-- The program's decoder lies at block g. -/
structure DecAt (w : World) (B g : Nat) (M : Nat) (s : Dm.S) (v : Value) : Prop where
  base : B ≤ g
  blk : w.heap[g]? = some (.cells (cellsD M v s) 67 (0, 0))
  own : OwnB w B v (s.out.take M)
section
variable {w w1 : World} {B g M : Nat} {s : Dm.S} {v : Value}
theorem DecAt.c0 (h : DecAt w B g M s v) : w.cell? ⟨g, 0, none⟩ = some (.int .i64 M) := by rw [blk_cell h.blk]; rfl
theorem DecAt.c1 (h : DecAt w B g M s v) : w.cell? ⟨g, 1, none⟩ = some v := by rw [blk_cell h.blk]; rfl
theorem DecAt.c2 (h : DecAt w B g M s v) : w.cell? ⟨g, 2, none⟩ = some (.int .i64 (min s.out.length (M + 1) : Nat)) := by rw [blk_cell h.blk]; rfl
theorem DecAt.c3 (h : DecAt w B g M s v) : w.cell? ⟨g, 3, none⟩ = some (.int .i64 s.ln) := by rw [blk_cell h.blk]; rfl
theorem DecAt.c4 (h : DecAt w B g M s v) : w.cell? ⟨g, 4, none⟩ = some (.bool s.wd) := by rw [blk_cell h.blk]; rfl
theorem DecAt.c5 (h : DecAt w B g M s v) : w.cell? ⟨g, 5, none⟩ = some (.int .i64 s.st) := by rw [blk_cell h.blk]; rfl
theorem DecAt.fr (h : DecAt w B g M s v) (i : Nat) : w.frozen? ⟨g, i, none⟩ = false := blk_frozen h.blk i
theorem DecAt.lt (h : DecAt w B g M s v) : g < w.heap.size := blk_lt h.blk
theorem DecAt.ne (h : DecAt w B g M s v) : v.ownBlock ≠ some g := Lib.ownBlock_ne h.own h.blk (by decide)
theorem DecAt.bsz (h : DecAt w B g M s v) : B ≤ w.heap.size := by have := h.base; have := h.lt; omega
/-- It lives on where its block and its row are kept. -/
theorem DecAt.keep (h : DecAt w B g M s v) {g' : Nat} {row : Option Nat} (hk : KeepBut w w1 g' row) (h1 : g ≠ g') (h2 : some g ≠ row) (h3 : v.ownBlock ≠ some g') (h4 : v.ownBlock = none ∨ v.ownBlock ≠ row) : DecAt w1 B g M s v :=
  ⟨h.base, hk.blk h.blk h1 h2, hk.own h.own h3 h4⟩
theorem DecAt.below (h : DecAt w B g M s v) (hb : Below w.heap.size w w1) : DecAt w1 B g M s v :=
  ⟨h.base, blk_below h.blk hb, by
    refine (World.ownsRow.kept (row := none) h.own ⟨hb.os, hb.tape, hb.output, hb.size, fun k hk _ => hb.block k hk⟩ ?_)
    cases hv : v.ownBlock <;> simp⟩
theorem DecAt.alloc (h : DecAt w B g M s v) (o : Obj) : DecAt (w.alloc o) B g M s v := h.below ((Below.refl _ _).alloc (Nat.le_refl _) o)
end
/-- What a call on the decoder leaves. -/
def Dec (w0 w : World) (B g M : Nat) (s : Dm.S) (row : Option Nat) : Prop := ∃ v, DecAt w B g M s v ∧ KeepBut w0 w g row ∧ Below B w0 w ∧ (v.ownBlock = row ∨ ∃ k, v.ownBlock = some k ∧ w0.heap.size ≤ k)
theorem Dec.refl {w : World} {B g M : Nat} {s : Dm.S} {v : Value} (h : DecAt w B g M s v) : Dec w w B g M s v.ownBlock := ⟨v, h, KeepBut.refl _ _ _, Below.refl _ _, .inl rfl⟩
theorem Dec.trans {w0 w1 w2 : World} {B g M : Nat} {s s' : Dm.S} {row : Option Nat} {v : Value} (h1 : KeepBut w0 w1 g row) (h2 : Below B w0 w1) (h3 : v.ownBlock = row ∨ ∃ k, v.ownBlock = some k ∧ w0.heap.size ≤ k) (k : Dec w1 w2 B g M s' v.ownBlock) (_ : DecAt w1 B g M s v) : Dec w0 w2 B g M s' row := by
  obtain ⟨v', a, b, c, d⟩ := k
  refine ⟨v', a, h1.trans b h3, h2.trans c, ?_⟩
  rcases d with d | ⟨k, d, e⟩
  · rw [d]; exact h3
  · exact .inr ⟨k, d, by have := h1.1; omega⟩
set_option maxHeartbeats 1000000 in
set_option maxRecDepth 100000 in
theorem size_any {w : World} {B g M : Nat} {s : Dm.S} {v : Value} (h : DecAt w B g M s v) : Calls Tryd.prog 22 #[.pointer (some ⟨g, 0, none⟩)] w fun e w' => e = .returned (.int .i64 (min s.out.length (M + 1) : Nat)) ∧ w' = w := by
  have e2 := h.c2
  generalize ((min s.out.length (M + 1) : Nat) : Int) = q at e2 ⊢
  go_enter Tryd.func22, Tryd.ntmps22
  go_wp2
  go_ret
  exact ⟨rfl, rfl⟩
set_option maxHeartbeats 1000000 in
set_option maxRecDepth 100000 in
theorem long_any {w : World} {B g M : Nat} {s : Dm.S} {v : Value} (h : DecAt w B g M s v) : Calls Tryd.prog 21 #[.pointer (some ⟨g, 0, none⟩)] w fun e w' => e = .returned (.bool (decide (M < s.out.length))) ∧ Below w.heap.size w w' := by
  have e2 := h.c2
  have e0 := h.c0
  have ed : decide (M < s.out.length) = decide ((M : Int) < ((min s.out.length (M + 1) : Nat) : Int)) := by
    by_cases k : M < s.out.length
    · rw [decide_eq_true k, decide_eq_true (by omega)]
    · rw [decide_eq_false k, decide_eq_false (by omega)]
  rw [ed]
  generalize ((min s.out.length (M + 1) : Nat) : Int) = q at e2 ⊢
  go_enter Tryd.func21, Tryd.ntmps21
  go_wp2_with fail
  go_quiet (fail)
  go_wp2
  go_ret
  exact ⟨rfl, bdraw _ _⟩
set_option maxHeartbeats 1000000 in
set_option maxRecDepth 100000 in
theorem held_any {w : World} {B g M : Nat} {s : Dm.S} {v : Value} (h : DecAt w B g M s v) : Calls Tryd.prog 26 #[.pointer (some ⟨g, 0, none⟩)] w fun e w' => e = .returned (.int .i64 ((s.out.take M).length : Nat)) ∧ w' = w := by
  obtain ⟨A, c, hv, -, -⟩ := h.own.reads
  have e1 := h.c1
  rw [hv] at e1
  generalize (s.out.take M).length = q at e1 ⊢
  go_enter Tryd.func26, Tryd.ntmps26
  go_wp2
  go_ret
  exact ⟨rfl, rfl⟩
theorem dec_end {wr w4 : World} {B g M : Nat} {s s' : Dm.S} {v3 : Value} {row : Option Nat} {z' l' : Int} {d' : Bool} (hB : B ≤ g) (K4 : w4.heap[g]? = some (.cells (cellsD M v3 s) 67 (0, 0))) (P4 : OwnB w4 B v3 (s'.out.take M)) (Q4 : KeepBut wr w4 g row) (B4 : Below B wr w4)
    (N3 : v3.ownBlock = row ∨ ∃ k, v3.ownBlock = some k ∧ wr.heap.size ≤ k) (hz : ((min s'.out.length (M + 1) : Nat) : Int) = z') (hl : (s'.ln : Int) = l') (hd : s'.wd = d') (hst : s'.st = s.st) :
    Dec wr (((w4.setCell ⟨g, 2, none⟩ (.int .i64 z')).setCell ⟨g, 3, none⟩ (.int .i64 l')).setCell ⟨g, 4, none⟩ (.bool d')) B g M s' row := by
  have hn : ∀ {W : World} {cs : Array Value}, W.heap[g]? = some (.cells cs 67 (0, 0)) → OwnB W B v3 (s'.out.take M) → some g ≠ v3.ownBlock := fun h1 h2 e => Lib.ownBlock_ne h2 h1 (by decide) e.symm
  have k1 := blk_set K4 2 (.int .i64 z')
  have p1 : OwnB _ B v3 (s'.out.take M) := own_setCell P4 (p := ⟨g, 2, none⟩) (hn K4 P4) (.int .i64 z')
  have k2 := blk_set k1 3 (.int .i64 l')
  have p2 : OwnB _ B v3 (s'.out.take M) := own_setCell p1 (p := ⟨g, 3, none⟩) (hn k1 p1) (.int .i64 l')
  have k3 := blk_set k2 4 (.bool d')
  have p3 : OwnB _ B v3 (s'.out.take M) := own_setCell p2 (p := ⟨g, 4, none⟩) (hn k2 p2) (.bool d')
  refine ⟨v3, ⟨hB, k3.trans ?_, p3⟩, ((Q4.set_ 2 _).set_ 3 _).set_ 4 _, ((B4.setCell hB _).setCell hB _).setCell hB _, N3⟩
  unfold cellsD
  rw [hz, hl, hd, hst]
  rfl
set_option maxHeartbeats 4000000 in
set_option maxRecDepth 100000 in
theorem put_any {w : World} {B g M b n : Nat} {s : Dm.S} {v : Value} {x : UInt8} (h : DecAt w B g M s v) (hM : M ≤ 100000) (ho : s.out.length ≤ 900000000) (hln : s.ln ≤ 1001) (hx : w.cell? ⟨b, 0, none⟩ = some (.int .u8 (x.toNat : Int))) :
    Calls Tryd.prog 57 #[.pointer (some ⟨g, 0, none⟩), .slice (some ⟨b, 0, none⟩) 1 n] w fun e w' => e = .returned (.tuple #[]) ∧ Dec w w' B g M (Dm.put x s) v.ownBlock := by
  have H := Lib.hid h
  have HX := Lib.hid hx
  go_enter Tryd.func57, Tryd.ntmps57
  go_wp2_with fail
  go_loopw [8] (fun i wr => ∃ k : Nat, i = .int .i64 k ∧ ((k = 0 ∧ wr = w) ∨ (k = 1 ∧ Hid (Dec w wr B g M (Dm.put x s) v.ownBlock)))) (fun i _ => 1 - (intOf i).toNat)
  case atStart => exact ⟨0, rfl, .inl ⟨rfl, rfl⟩⟩
  case round =>
    obtain ⟨k, rfl, ⟨rfl, rfl⟩ | ⟨rfl, HD⟩⟩ := hrel
    · have hc := HX.out
      clear hx h
      obtain ⟨z, hz⟩ : ∃ z : Int, ((min s.out.length (M + 1) : Nat) : Int) = z := ⟨_, rfl⟩
      obtain ⟨L, hL⟩ : ∃ L : Int, (s.ln : Int) = L := ⟨_, rfl⟩
      have wz : IntKind.i64.wrap (z + 1) = z + 1 := by rw [IntKind.wrap_i64]; omega
      have wm : IntKind.i64.wrap ((M : Int) + 1) = (M : Int) + 1 := by rw [IntKind.wrap_i64]; omega
      have wl : IntKind.i64.wrap (L + 1) = L + 1 := by rw [IntKind.wrap_i64]; omega
      have z1 : min z (M : Int) + 1 = ((min (s.out ++ [x]).length (M + 1) : Nat) : Int) := by
        rw [List.length_append, List.length_singleton]
        omega
      have HZ := Lib.hid hz
      have HL := Lib.hid hL
      have Z1 := Lib.hid z1
      have bz : 0 ≤ z ∧ z ≤ 100001 := by omega
      have bL : 0 ≤ L ∧ L ≤ 1001 := by omega
      by_cases hlt : s.out.length < M
      · have hi : z < M := by omega
        clear hz hL z1
        have c0 := H.out.c0
        have c1 := H.out.c1
        have c2 := H.out.c2
        rw [HZ.out] at c2
        go_wp2_with fail
        go_quiet (fail)
        have hO : Hid (OwnB (wr.drewN nq) B v (s.out.take M)) := H.out.own
        have hN : Hid (some g ≠ v.ownBlock) := Lib.hid (fun e => H.out.ne e.symm)
        have hB : Hid (B ≤ wr.heap.size) := H.out.bsz
        go_wp2_with (at_builtin; refine wpList_rown rfl (.tmp 25) (.tmp 27) rfl B v (s.out.take M) rfl (hO.out.alloc _) (some ⟨wr.heap.size, 0, none⟩) 1 [x] rfl (RdB.lit (wr.drewN nq) [x] (by simp)) (by simp only [List.length_take, List.length_cons, List.length_nil]; omega) (by have := hB.out; simp; omega) ?_; intro v2 w2 ho2 hb2 hg2 hn2; obtain ⟨A2, n2, rfl, hr2, hc2⟩ := ho2.reads; have O2 := Lib.hid ho2; have B2 := Lib.hid hb2; have G2 := Lib.hid hg2; have N2 := Lib.hid hn2; have K2 := Lib.hid (blk_grown (blk_alloc (w := wr.drewN nq) H.out.blk (Obj.cells #[Value.int IntKind.u8 ↑x.toNat] 5)) hg2 hN.out); clear ho2 hb2 hg2 hn2 hr2 hc2 c0 c1 c2; have f1 := blk_frozen K2.out 1; have c1 : w2.cell? ⟨g, 1, none⟩ = some v := blk_cell K2.out 1)
        obtain ⟨v3, hv3⟩ : ∃ v3, Value.slice A2 (List.take M s.out ++ [x]).length n2 = v3 := ⟨_, rfl⟩
        have hv4 : Value.slice A2 (min M s.out.length + 1) n2 = v3 := by rw [← hv3]; simp
        rw [hv3] at O2 N2
        rw [hv4]
        have K3 : Hid ((w2.setCell ⟨g, 1, none⟩ v3).heap[g]? = some (.cells (cellsD M v3 s) 67 (0, 0))) := Lib.hid (blk_put K2.out 1 v3 rfl)
        have P3 : Hid (OwnB (w2.setCell ⟨g, 1, none⟩ v3) B v3 (List.take M s.out ++ [x])) := Lib.hid (own_setCell O2.out (fun e => Lib.ownBlock_ne O2.out K2.out (by decide) e.symm) v3)
        have Q3 : Hid (KeepBut wr (w2.setCell ⟨g, 1, none⟩ v3) g v.ownBlock) := Lib.hid (KeepBut.set_ (w1 := w2) ⟨by have := G2.out.size; simp at this; exact Nat.le_trans (by simp) this, fun i hi _ hr => (G2.out.block i (by rw [World.size_alloc]; exact Nat.lt_succ_of_lt hi) hr).trans (Below.heap_alloc _ _ _ hi)⟩ 1 v3)
        have B3 : Hid (Below B wr (w2.setCell ⟨g, 1, none⟩ v3)) := Lib.hid (((((Below.refl B wr).trans (show Below B wr (wr.drewN nq) from ⟨rfl, rfl, rfl, Nat.le_refl _, fun _ _ => rfl⟩)).alloc hB.out (Obj.cells #[Value.int IntKind.u8 ↑x.toNat] 5)).trans B2.out).setCell H.out.base v3)
        have N3 : Hid (v3.ownBlock = v.ownBlock ∨ ∃ k, v3.ownBlock = some k ∧ wr.heap.size ≤ k) := Lib.hid (N2.out.imp id (fun ⟨k, e, h⟩ => ⟨k, e, Nat.le_trans (show wr.heap.size ≤ ((wr.drewN nq).alloc (Obj.cells #[Value.int IntKind.u8 ↑x.toNat] 5)).heap.size from Nat.le_of_lt (by simp [World.size_alloc])) h⟩))
        have e3 : s.out.take M ++ [x] = (s.out ++ [x]).take M := by rw [List.take_of_length_le (by omega), List.take_of_length_le (by simp; omega)]
        rw [e3] at P3
        clear O2 B2 G2 N2 K2 f1 c1 hv3 hv4 e3
        generalize w2.setCell ⟨g, 1, none⟩ v3 = w3 at K3 P3 Q3 B3 ⊢
        have r0 : w3.cell? ⟨g, 0, none⟩ = some (.int .i64 M) := blk_cell K3.out 0
        have r2 : w3.cell? ⟨g, 2, none⟩ = some (.int .i64 z) := (blk_cell K3.out 2).trans (by rw [← HZ.out]; rfl)
        go_still_tail 14, (by kernel_rfl)
        change wpList _ _ _ _ _ w3.drew
        have K4 : Hid (w3.drew.heap[g]? = some (.cells (cellsD M v3 s) 67 (0, 0))) := K3
        have P4 : Hid (OwnB w3.drew B v3 ((s.out ++ [x]).take M)) := P3
        have Q4 : Hid (KeepBut wr w3.drew g v.ownBlock) := Q3
        have B4 : Hid (Below B wr w3.drew) := Lib.hid (B3.out.drew)
        clear K3 P3 Q3 B3 r0 r2
        generalize w3.drew = w4 at K4 P4 Q4 B4 ⊢
        rw [Z1.out]
        have f2 := blk_frozen K4.out 2
        have f3 := blk_frozen K4.out 3
        have f4 := blk_frozen K4.out 4
        have r3 : w4.cell? ⟨g, 3, none⟩ = some (.int .i64 L) := (blk_cell K4.out 3).trans (by rw [← HL.out]; rfl)
        have r4 : w4.cell? ⟨g, 4, none⟩ = some (.bool s.wd) := blk_cell K4.out 4
        obtain ⟨z', hz'⟩ : ∃ z' : Int, ((min (s.out ++ [x]).length (M + 1) : Nat) : Int) = z' := ⟨_, rfl⟩
        rw [hz']
        have HZ' := Lib.hid hz'
        clear hz'
        have r2 : w4.cell? ⟨g, 2, none⟩ = some (.int .i64 z) := (blk_cell K4.out 2).trans (by rw [← HZ.out]; rfl)
        obtain ⟨wd, hwd⟩ : ∃ wd, s.wd = wd := ⟨_, rfl⟩
        rw [hwd] at r4
        have HWD := Lib.hid hwd
        clear hwd
        by_cases hl : L < 1000
        · have hq : min (L + 1) 1001 = L + 1 := by omega
          have hq2 : min L 1000 = L := by omega
          have hq3 : ¬ 1000 < L + 1 := by omega
          have e1 : Hid (((Dm.put x s).ln : Int) = L + 1) := Lib.hid (by show ((min (s.ln + 1) 1001 : Nat) : Int) = _; rw [← HL.out] at hl ⊢; omega)
          have e2 : Hid ((Dm.put x s).wd = s.wd) := Lib.hid (by show (s.wd || decide (1000 < min (s.ln + 1) 1001)) = _; rw [decide_eq_false (by have := HL.out; omega), Bool.or_false])
          cases wd
          · go_wp2_with fail
            exact ⟨⟨1, rfl, .inr ⟨rfl, Lib.hid (dec_end H.out.base K4.out P4.out Q4.out B4.out N3.out HZ'.out e1.out (e2.out.trans HWD.out) rfl)⟩⟩, by simp [intOf]⟩
          · go_wp2_with fail
            exact ⟨⟨1, rfl, .inr ⟨rfl, Lib.hid (dec_end H.out.base K4.out P4.out Q4.out B4.out N3.out HZ'.out e1.out (e2.out.trans HWD.out) rfl)⟩⟩, by simp [intOf]⟩
        · have hq : min (L + 1) 1001 = 1001 := by omega
          have hq2 : min L 1000 = 1000 := by omega
          have e1 : Hid (((Dm.put x s).ln : Int) = 1001) := Lib.hid (by show ((min (s.ln + 1) 1001 : Nat) : Int) = _; rw [← HL.out] at hl; omega)
          have e2 : Hid ((Dm.put x s).wd = true) := Lib.hid (by show (s.wd || decide (1000 < min (s.ln + 1) 1001)) = _; rw [decide_eq_true (by have := HL.out; omega), Bool.or_true])
          cases wd
          · go_wp2_with fail
            exact ⟨⟨1, rfl, .inr ⟨rfl, Lib.hid (dec_end H.out.base K4.out P4.out Q4.out B4.out N3.out HZ'.out e1.out e2.out rfl)⟩⟩, by simp [intOf]⟩
          · go_wp2_with fail
            exact ⟨⟨1, rfl, .inr ⟨rfl, Lib.hid (dec_end H.out.base K4.out P4.out Q4.out B4.out N3.out HZ'.out e1.out e2.out rfl)⟩⟩, by simp [intOf]⟩
      · have hi : ¬ z < M := by omega
        clear hz hL z1
        have c0 := H.out.c0
        have c2 := H.out.c2
        rw [HZ.out] at c2
        go_wp2_with fail
        go_quiet (fail)
        go_wp2_with fail
        have K3 : Hid ((wr.drewN nq).heap[g]? = some (.cells (cellsD M v s) 67 (0, 0))) := Lib.hid H.out.blk
        have e3 : s.out.take M = (s.out ++ [x]).take M := by rw [List.take_append_of_le_length (by omega)]
        have P3 : Hid (OwnB (wr.drewN nq) B v ((s.out ++ [x]).take M)) := Lib.hid (e3 ▸ H.out.own)
        have Q3 : Hid (KeepBut wr (wr.drewN nq) g v.ownBlock) := Lib.hid ⟨Nat.le_refl _, fun _ _ _ _ => rfl⟩
        have B3 : Hid (Below B wr (wr.drewN nq)) := Lib.hid ⟨rfl, rfl, rfl, Nat.le_refl _, fun _ _ => rfl⟩
        have N3 : Hid (v.ownBlock = v.ownBlock ∨ ∃ k, v.ownBlock = some k ∧ wr.heap.size ≤ k) := Lib.hid (.inl rfl)
        clear e3 c0 c2
        generalize wr.drewN nq = w3 at K3 P3 Q3 B3 ⊢
        obtain ⟨v3, hv3⟩ : ∃ v3, v = v3 := ⟨_, rfl⟩
        have K3 : Hid (w3.heap[g]? = some (.cells (cellsD M v3 s) 67 (0, 0))) := hv3 ▸ K3
        have P3 : Hid (OwnB w3 B v3 ((s.out ++ [x]).take M)) := hv3 ▸ P3
        have N3 : Hid (v3.ownBlock = v.ownBlock ∨ ∃ k, v3.ownBlock = some k ∧ wr.heap.size ≤ k) := Lib.hid (.inl (by rw [hv3]))
        clear hv3
        have r0 : w3.cell? ⟨g, 0, none⟩ = some (.int .i64 M) := blk_cell K3.out 0
        have r2 : w3.cell? ⟨g, 2, none⟩ = some (.int .i64 z) := (blk_cell K3.out 2).trans (by rw [← HZ.out]; rfl)
        go_still_tail 14, (by kernel_rfl)
        change wpList _ _ _ _ _ w3.drew
        have K4 : Hid (w3.drew.heap[g]? = some (.cells (cellsD M v3 s) 67 (0, 0))) := K3
        have P4 : Hid (OwnB w3.drew B v3 ((s.out ++ [x]).take M)) := P3
        have Q4 : Hid (KeepBut wr w3.drew g v.ownBlock) := Q3
        have B4 : Hid (Below B wr w3.drew) := Lib.hid (B3.out.drew)
        clear K3 P3 Q3 B3 r0 r2
        generalize w3.drew = w4 at K4 P4 Q4 B4 ⊢
        rw [Z1.out]
        have f2 := blk_frozen K4.out 2
        have f3 := blk_frozen K4.out 3
        have f4 := blk_frozen K4.out 4
        have r3 : w4.cell? ⟨g, 3, none⟩ = some (.int .i64 L) := (blk_cell K4.out 3).trans (by rw [← HL.out]; rfl)
        have r4 : w4.cell? ⟨g, 4, none⟩ = some (.bool s.wd) := blk_cell K4.out 4
        obtain ⟨z', hz'⟩ : ∃ z' : Int, ((min (s.out ++ [x]).length (M + 1) : Nat) : Int) = z' := ⟨_, rfl⟩
        rw [hz']
        have HZ' := Lib.hid hz'
        clear hz'
        have r2 : w4.cell? ⟨g, 2, none⟩ = some (.int .i64 z) := (blk_cell K4.out 2).trans (by rw [← HZ.out]; rfl)
        obtain ⟨wd, hwd⟩ : ∃ wd, s.wd = wd := ⟨_, rfl⟩
        rw [hwd] at r4
        have HWD := Lib.hid hwd
        clear hwd
        by_cases hl : L < 1000
        · have hq : min (L + 1) 1001 = L + 1 := by omega
          have hq2 : min L 1000 = L := by omega
          have hq3 : ¬ 1000 < L + 1 := by omega
          have e1 : Hid (((Dm.put x s).ln : Int) = L + 1) := Lib.hid (by show ((min (s.ln + 1) 1001 : Nat) : Int) = _; rw [← HL.out] at hl ⊢; omega)
          have e2 : Hid ((Dm.put x s).wd = s.wd) := Lib.hid (by show (s.wd || decide (1000 < min (s.ln + 1) 1001)) = _; rw [decide_eq_false (by have := HL.out; omega), Bool.or_false])
          cases wd
          · go_wp2_with fail
            exact ⟨⟨1, rfl, .inr ⟨rfl, Lib.hid (dec_end H.out.base K4.out P4.out Q4.out B4.out N3.out HZ'.out e1.out (e2.out.trans HWD.out) rfl)⟩⟩, by simp [intOf]⟩
          · go_wp2_with fail
            exact ⟨⟨1, rfl, .inr ⟨rfl, Lib.hid (dec_end H.out.base K4.out P4.out Q4.out B4.out N3.out HZ'.out e1.out (e2.out.trans HWD.out) rfl)⟩⟩, by simp [intOf]⟩
        · have hq : min (L + 1) 1001 = 1001 := by omega
          have hq2 : min L 1000 = 1000 := by omega
          have e1 : Hid (((Dm.put x s).ln : Int) = 1001) := Lib.hid (by show ((min (s.ln + 1) 1001 : Nat) : Int) = _; rw [← HL.out] at hl; omega)
          have e2 : Hid ((Dm.put x s).wd = true) := Lib.hid (by show (s.wd || decide (1000 < min (s.ln + 1) 1001)) = _; rw [decide_eq_true (by have := HL.out; omega), Bool.or_true])
          cases wd
          · go_wp2_with fail
            exact ⟨⟨1, rfl, .inr ⟨rfl, Lib.hid (dec_end H.out.base K4.out P4.out Q4.out B4.out N3.out HZ'.out e1.out e2.out rfl)⟩⟩, by simp [intOf]⟩
          · go_wp2_with fail
            exact ⟨⟨1, rfl, .inr ⟨rfl, Lib.hid (dec_end H.out.base K4.out P4.out Q4.out B4.out N3.out HZ'.out e1.out e2.out rfl)⟩⟩, by simp [intOf]⟩
    · go_wp2
      go_end0
      exact ⟨rfl, HD.out⟩
end Go.Proofs.YthgghgecpjnoiaaDoor.Dn
namespace Go.Proofs.YthgghgecpjnoiaaDoor.Do
open Go.RowKit Go.Proofs.YthgghgecpjnoiaaDoorW.PrintWords Go.Proofs.YthgghgecpjnoiaaDoorW.PrintLast Go.Proofs.YthgghgecpjnoiaaDoorW.PrintMore Go.Proofs.YthgghgecpjnoiaaDoor.Pc Go.Proofs.YthgghgecpjnoiaaDoor.Pd Go.Proofs.YthgghgecpjnoiaaDoor.Pk Go.Proofs.YthgghgecpjnoiaaDoor.Da Go.Proofs.YthgghgecpjnoiaaDoor.Db Go.Proofs.YthgghgecpjnoiaaDoor.Dc Go.Proofs.YthgghgecpjnoiaaDoor.Dd Go.Proofs.YthgghgecpjnoiaaDoor.De Go.Proofs.YthgghgecpjnoiaaDoor.Dn
section
variable {w w1 : World} {B g M : Nat} {s s' : Dm.S} {v : Value} {row : Option Nat}
theorem DecAt.setSt (h : DecAt w B g M s v) {n : Int} (h1 : s'.out = s.out) (h2 : s'.ln = s.ln) (h3 : s'.wd = s.wd) (h4 : (s'.st : Int) = n) : DecAt (w.setCell ⟨g, 5, none⟩ (.int .i64 n)) B g M s' v :=
  ⟨h.base, (blk_set h.blk 5 _).trans (by unfold cellsD; rw [h1, h2, h3, h4]; rfl), by rw [h1]; exact own_setCell h.own (fun e => h.ne e.symm) _⟩
theorem DecAt.setLn (h : DecAt w B g M s v) {n : Int} (h1 : s'.out = s.out) (h2 : s'.st = s.st) (h3 : s'.wd = s.wd) (h4 : (s'.ln : Int) = n) : DecAt (w.setCell ⟨g, 3, none⟩ (.int .i64 n)) B g M s' v :=
  ⟨h.base, (blk_set h.blk 3 _).trans (by unfold cellsD; rw [h1, h2, h3, h4]; rfl), by rw [h1]; exact own_setCell h.own (fun e => h.ne e.symm) _⟩
theorem DecAt.like (h : DecAt w B g M s v) (h1 : s'.out = s.out) (h2 : s'.st = s.st) (h3 : s'.wd = s.wd) (h4 : s'.ln = s.ln) : DecAt w B g M s' v :=
  ⟨h.base, h.blk.trans (by unfold cellsD; rw [h1, h2, h3, h4]), by rw [h1]; exact h.own⟩
theorem Dec.setSt {w0 : World} {v1 : Value} (hk : KeepBut w0 w g row) (hb : Below B w0 w) (hn : v1.ownBlock = row ∨ ∃ k, v1.ownBlock = some k ∧ w0.heap.size ≤ k) (h : DecAt w B g M s v1) {n : Int} (h1 : s'.out = s.out) (h2 : s'.ln = s.ln) (h3 : s'.wd = s.wd) (h4 : (s'.st : Int) = n) : Dec w0 (w.setCell ⟨g, 5, none⟩ (.int .i64 n)) B g M s' row :=
  ⟨v1, DecAt.setSt h h1 h2 h3 h4, hk.set_ 5 _, hb.setCell h.base _, hn⟩
theorem Dec.like {w0 : World} (h : Dec w0 w B g M s row) (h1 : s'.out = s.out) (h2 : s'.st = s.st) (h3 : s'.wd = s.wd) (h4 : s'.ln = s.ln) : Dec w0 w B g M s' row := by
  obtain ⟨v, a, b, c, d⟩ := h
  exact ⟨v, DecAt.like a h1 h2 h3 h4, b, c, d⟩
/-- Behind a new block. -/
theorem Dec.newer {o : Obj} (h : Dec (w.alloc o) w1 B g M s row) (hB : B ≤ w.heap.size) : Dec w w1 B g M s row := by
  obtain ⟨v, a, b, c, d⟩ := h
  refine ⟨v, a, ⟨Nat.le_trans (by simp) b.1, fun i hi h1 h2 => (b.2 i (by simp; omega) h1 h2).trans (Below.heap_alloc _ _ _ hi)⟩, ((Below.refl B w).alloc hB o).trans c, d.imp id (fun ⟨k, e, h⟩ => ⟨k, e, Nat.le_trans (by simp) h⟩)⟩
/-- Behind a store in the block. -/
theorem Dec.setAhead {j : Nat} {u : Value} (h : Dec (w.setCell ⟨g, j, none⟩ u) w1 B g M s row) (hB : B ≤ g) : Dec w w1 B g M s row := by
  obtain ⟨v, a, b, c, d⟩ := h
  have hs : (w.setCell ⟨g, j, none⟩ u).heap.size = w.heap.size := by simp [World.setCell]
  refine ⟨v, a, ⟨by have := b.1; omega, fun i hi h1 h2 => (b.2 i (by omega) h1 h2).trans (Below.heap_setCell _ _ _ _ h1)⟩, ((Below.refl B w).setCell hB u).trans c, d.imp id (fun ⟨k, e, h⟩ => ⟨k, e, by omega⟩)⟩
end
theorem cell_new (w : World) (q : Int) : (w.alloc (Obj.cells #[Value.int .u8 q] 5)).cell? ⟨w.heap.size, 0, none⟩ = some (.int .u8 q) := by
  rw [cell_of_block (Go.heap_alloc_new w _)]; rfl
set_option maxHeartbeats 4000000 in
set_option maxRecDepth 100000 in
theorem plain_any {w : World} {B g M : Nat} {s : Dm.S} {v : Value} {x : UInt8} {q : Int} (hq : (x.toNat : Int) = q) (h : DecAt w B g M s v) (hM : M ≤ 100000) (ho : s.out.length ≤ 900000000) (hln : s.ln ≤ 1001) :
    Calls Tryd.prog 56 #[.pointer (some ⟨g, 0, none⟩), .int .u8 q] w fun e w' => e = .returned (.tuple #[]) ∧ Dec w w' B g M (Dm.plain x s) v.ownBlock := by
  have H := Lib.hid h
  have HQ := Lib.hid hq
  clear h hq
  go_enter Tryd.func56, Tryd.ntmps56
  go_wp2_with fail
  refine (put_any (x := x) (H.out.alloc (Obj.cells #[Value.int .u8 q] 5)) hM ho hln (by rw [cell_new, HQ.out])).mono ?_
  rintro e w1 ⟨rfl, hd⟩
  obtain ⟨v1, a1, b1, b2, b3⟩ := Dec.newer hd H.out.bsz
  have A1 := Lib.hid a1
  have K1 := Lib.hid b1
  have L1 := Lib.hid b2
  have N1 := Lib.hid b3
  have f5 := a1.fr 5
  have c5 := a1.c5
  clear hd a1 b1 b2 b3
  by_cases k : x = 13
  · have hq3 : q = 13 := by rw [← HQ.out, k]; rfl
    subst hq3
    go_wp2
    go_end0
    refine ⟨rfl, ?_⟩
    have A2 := DecAt.setSt (s' := { Dm.put x s with st := 3 }) A1.out (n := 3) rfl rfl rfl rfl
    exact Dec.setSt (K1.out.set_ 5 _) (L1.out.setCell H.out.base _) N1.out A2 rfl rfl rfl (by simp [Dm.plain, k])
  · have hq3 : ¬ q = 13 := by
      intro e
      exact k (UInt8.toNat_inj.1 (by have : (13 : UInt8).toNat = 13 := rfl; have := HQ.out; omega))
    have hq4 : (q == 13) = false := by simpa using hq3
    go_wp2
    go_end0
    refine ⟨rfl, ?_⟩
    exact Dec.setSt K1.out L1.out N1.out A1.out rfl rfl rfl (by simp [Dm.plain, k])
theorem byte_ne {x : UInt8} {q : Int} (hq : (x.toNat : Int) = q) {c : UInt8} (k : ¬ x = c) : ¬ q = (c.toNat : Int) := by
  intro e
  exact k (UInt8.toNat_inj.1 (by omega))
set_option maxHeartbeats 4000000 in
set_option maxRecDepth 100000 in
theorem step_any {w : World} {B g M : Nat} {s : Dm.S} {v : Value} {x : UInt8} {q : Int} (hq : (x.toNat : Int) = q) (h : DecAt w B g M s v) (hM : M ≤ 100000) (ho : s.out.length ≤ 800000000) (hln : s.ln ≤ 1001) (hst : s.st ≤ 4) :
    Calls Tryd.prog 44 #[.pointer (some ⟨g, 0, none⟩), .int .u8 q] w fun e w' => e = .returned (.tuple #[]) ∧ Dec w w' B g M (Dm.step x s) v.ownBlock := by
  have H := Lib.hid h
  have HQ := Lib.hid hq
  have f5 := h.fr 5
  have f3 := h.fr 3
  have c3 := h.c3
  have c5 := h.c5
  have h5 : s.st = 0 ∨ s.st = 1 ∨ s.st = 2 ∨ s.st = 3 ∨ s.st = 4 := by omega
  clear h hq
  obtain ⟨L, hL⟩ : ∃ L : Int, (s.ln : Int) = L := ⟨_, rfl⟩
  rw [hL] at c3
  clear hL
  rcases h5 with k | k | k | k | k
  all_goals have c5 := c5.trans (show _ = some (Value.int .i64 (s.st : Int)) from rfl)
  all_goals rw [k] at c5
  · have c5 : w.cell? ⟨g, 5, none⟩ = some (.int .i64 0) := c5
    by_cases k1 : x = 46
    · have hq3 : q = 46 := by rw [← HQ.out, k1]; rfl
      subst hq3
      go_enter Tryd.func44, Tryd.ntmps44
      go_wp2
      (first | go_end0 | ((try simp only [Exit.inBlock, Exit.then]); refine bodyPost_ret (results_none rfl _ _ _) rfl ?_))
      refine ⟨rfl, ?_⟩
      have A1 := DecAt.setLn (s' := { s with ln := 0 }) H.out (n := 0) rfl rfl rfl rfl
      exact Dec.setSt ((KeepBut.refl w g v.ownBlock).set_ 3 _) ((Below.refl B w).setCell H.out.base _) (.inl rfl) A1 (by simp [Dm.step, Dm.bare, k, k1]) (by simp [Dm.step, Dm.bare, k, k1]) (by simp [Dm.step, Dm.bare, k, k1]) (by simp [Dm.step, Dm.bare, k, k1])
    · have hq3 : ¬ q = 46 := byte_ne HQ.out k1
      have hq4 : (q == 46) = false := by simpa using hq3
      go_enter Tryd.func44, Tryd.ntmps44
      go_wp2_with fail
      have A1 := DecAt.setLn (s' := { s with ln := 0 }) H.out (n := 0) rfl rfl rfl rfl
      refine (plain_any (x := x) HQ.out A1 hM (by simp; omega) (by simp)).mono ?_
      rintro e w1 ⟨rfl, hd⟩
      have HD := Lib.hid (Dec.setAhead hd H.out.base)
      clear hd A1
      go_wp2
      (first | go_end0 | ((try simp only [Exit.inBlock, Exit.then]); refine bodyPost_ret (results_none rfl _ _ _) rfl ?_))
      exact ⟨rfl, Dec.like HD.out (by simp [Dm.step, Dm.bare, k, k1]) (by simp [Dm.step, Dm.bare, k, k1]) (by simp [Dm.step, Dm.bare, k, k1]) (by simp [Dm.step, Dm.bare, k, k1])⟩
  · have c5 : w.cell? ⟨g, 5, none⟩ = some (.int .i64 1) := c5
    by_cases k1 : x = 13
    · have hq3 : q = 13 := by rw [← HQ.out, k1]; rfl
      subst hq3
      go_enter Tryd.func44, Tryd.ntmps44
      go_wp2
      (first | go_end0 | ((try simp only [Exit.inBlock, Exit.then]); refine bodyPost_ret (results_none rfl _ _ _) rfl ?_))
      refine ⟨rfl, ?_⟩
      exact Dec.setSt (KeepBut.refl w g v.ownBlock) (Below.refl B w) (.inl rfl) H.out (by simp [Dm.step, Dm.bare, k, k1]) (by simp [Dm.step, Dm.bare, k, k1]) (by simp [Dm.step, Dm.bare, k, k1]) (by simp [Dm.step, Dm.bare, k, k1])
    · have hq3 : ¬ q = 13 := byte_ne HQ.out k1
      have hq4 : (q == 13) = false := by simpa using hq3
      go_enter Tryd.func44, Tryd.ntmps44
      go_wp2_with fail
      refine (plain_any (x := x) HQ.out H.out hM (by omega) hln).mono ?_
      rintro e w1 ⟨rfl, hd⟩
      have HD := Lib.hid hd
      clear hd
      go_wp2
      (first | go_end0 | ((try simp only [Exit.inBlock, Exit.then]); refine bodyPost_ret (results_none rfl _ _ _) rfl ?_))
      exact ⟨rfl, Dec.like HD.out (by simp [Dm.step, Dm.bare, k, k1]) (by simp [Dm.step, Dm.bare, k, k1]) (by simp [Dm.step, Dm.bare, k, k1]) (by simp [Dm.step, Dm.bare, k, k1])⟩
  · have c5 : w.cell? ⟨g, 5, none⟩ = some (.int .i64 2) := c5
    by_cases k1 : x = 10
    · have hq3 : q = 10 := by rw [← HQ.out, k1]; rfl
      subst hq3
      go_enter Tryd.func44, Tryd.ntmps44
      go_wp2
      (first | go_end0 | ((try simp only [Exit.inBlock, Exit.then]); refine bodyPost_ret (results_none rfl _ _ _) rfl ?_))
      refine ⟨rfl, ?_⟩
      exact Dec.setSt (KeepBut.refl w g v.ownBlock) (Below.refl B w) (.inl rfl) H.out (by simp [Dm.step, Dm.bare, k, k1]) (by simp [Dm.step, Dm.bare, k, k1]) (by simp [Dm.step, Dm.bare, k, k1]) (by simp [Dm.step, Dm.bare, k, k1])
    · have hq3 : ¬ q = 10 := byte_ne HQ.out k1
      have hq4 : (q == 10) = false := by simpa using hq3
      go_enter Tryd.func44, Tryd.ntmps44
      go_wp2_with fail
      refine (put_any (x := 13) (H.out.alloc (Obj.cells #[Value.int .u8 13] 5)) hM (by omega) hln (cell_new w 13)).mono ?_
      rintro e w1 ⟨rfl, hd⟩
      obtain ⟨v1, a1, b1, b2, b3⟩ := Dec.newer hd H.out.bsz
      have A1 := Lib.hid a1
      have K1 := Lib.hid b1
      have L1 := Lib.hid b2
      have N1 := Lib.hid b3
      clear hd a1 b1 b2 b3
      go_wp2_with fail
      refine (plain_any (x := x) HQ.out A1.out hM (by simp [Dm.put]; omega) (by simp only [Dm.put]; omega)).mono ?_
      rintro e w2 ⟨rfl, hd⟩
      have HD := Lib.hid (Dec.trans K1.out L1.out N1.out hd A1.out)
      clear hd
      go_wp2
      (first | go_end0 | ((try simp only [Exit.inBlock, Exit.then]); refine bodyPost_ret (results_none rfl _ _ _) rfl ?_))
      exact ⟨rfl, Dec.like HD.out (by simp [Dm.step, Dm.bare, k, k1]) (by simp [Dm.step, Dm.bare, k, k1]) (by simp [Dm.step, Dm.bare, k, k1]) (by simp [Dm.step, Dm.bare, k, k1])⟩
  · have c5 : w.cell? ⟨g, 5, none⟩ = some (.int .i64 3) := c5
    go_enter Tryd.func44, Tryd.ntmps44
    go_wp2_with fail
    refine (plain_any (x := x) HQ.out H.out hM (by omega) hln).mono ?_
    rintro e w1 ⟨rfl, hd⟩
    have HD := Lib.hid hd
    clear hd
    go_wp2
    (first | go_end0 | ((try simp only [Exit.inBlock, Exit.then]); refine bodyPost_ret (results_none rfl _ _ _) rfl ?_))
    exact ⟨rfl, Dec.like HD.out (by simp [Dm.step, Dm.bare, k]) (by simp [Dm.step, Dm.bare, k]) (by simp [Dm.step, Dm.bare, k]) (by simp [Dm.step, Dm.bare, k])⟩
  · have c5 : w.cell? ⟨g, 5, none⟩ = some (.int .i64 4) := c5
    by_cases k1 : x = 10
    · have hq3 : q = 10 := by rw [← HQ.out, k1]; rfl
      subst hq3
      go_enter Tryd.func44, Tryd.ntmps44
      go_wp2_with fail
      refine (put_any (x := 10) (H.out.alloc (Obj.cells #[Value.int .u8 10] 5)) hM (by omega) hln (cell_new w 10)).mono ?_
      rintro e w1 ⟨rfl, hd⟩
      obtain ⟨v1, a1, b1, b2, b3⟩ := Dec.newer hd H.out.bsz
      have A1 := Lib.hid a1
      have K1 := Lib.hid b1
      have L1 := Lib.hid b2
      have N1 := Lib.hid b3
      have f5 := a1.fr 5
      have c5 := a1.c5
      clear hd a1 b1 b2 b3
      go_wp2
      (first | go_end0 | ((try simp only [Exit.inBlock, Exit.then]); refine bodyPost_ret (results_none rfl _ _ _) rfl ?_))
      exact ⟨rfl, Dec.setSt K1.out L1.out N1.out A1.out (by simp [Dm.step, Dm.bare, k, k1]) (by simp [Dm.step, Dm.bare, k, k1]) (by simp [Dm.step, Dm.bare, k, k1]) (by simp [Dm.step, Dm.bare, k, k1])⟩
    · have hq3 : ¬ q = 10 := byte_ne HQ.out k1
      have hq4 : (q == 10) = false := by simpa using hq3
      go_enter Tryd.func44, Tryd.ntmps44
      go_wp2_with fail
      refine (plain_any (x := x) HQ.out H.out hM (by omega) hln).mono ?_
      rintro e w1 ⟨rfl, hd⟩
      have HD := Lib.hid hd
      clear hd
      go_wp2
      (first | go_end0 | ((try simp only [Exit.inBlock, Exit.then]); refine bodyPost_ret (results_none rfl _ _ _) rfl ?_))
      exact ⟨rfl, Dec.like HD.out (by simp [Dm.step, Dm.bare, k, k1]) (by simp [Dm.step, Dm.bare, k, k1]) (by simp [Dm.step, Dm.bare, k, k1]) (by simp [Dm.step, Dm.bare, k, k1])⟩
end Go.Proofs.YthgghgecpjnoiaaDoor.Do
namespace Go.Proofs.YthgghgecpjnoiaaDoor.Dq
open Go.RowKit Go.Proofs.YthgghgecpjnoiaaDoorW.PrintWords Go.Proofs.YthgghgecpjnoiaaDoorW.PrintLast Go.Proofs.YthgghgecpjnoiaaDoorW.PrintMore Go.Proofs.YthgghgecpjnoiaaDoor.Pc Go.Proofs.YthgghgecpjnoiaaDoor.Pd Go.Proofs.YthgghgecpjnoiaaDoor.Pk Go.Proofs.YthgghgecpjnoiaaDoor.Da Go.Proofs.YthgghgecpjnoiaaDoor.Db Go.Proofs.YthgghgecpjnoiaaDoor.Dc Go.Proofs.YthgghgecpjnoiaaDoor.Dd Go.Proofs.YthgghgecpjnoiaaDoor.De Go.Proofs.YthgghgecpjnoiaaDoor.Df Go.Proofs.YthgghgecpjnoiaaDoor.Dn Go.Proofs.YthgghgecpjnoiaaDoor.Do
theorem ln_le {s : Dm.S} (h : Dm.Good s) : s.ln ≤ 1001 := by
  induction h with
  | init => simp [Dm.S0]
  | @step s c hs hn ih =>
    simp only [Dm.step, Dm.bare, Dm.plain, Dm.put]
    repeat' split
    all_goals (simp only []; omega)
theorem Dec.tail {w0 w w1 : World} {B g M : Nat} {s : Dm.S} {row : Option Nat} (h : Dec w0 w B g M s row) (hb : Below w.heap.size w w1) : Dec w0 w1 B g M s row := by
  obtain ⟨v, a, b, c, d⟩ := h
  refine ⟨v, a.below hb, ⟨Nat.le_trans b.1 hb.size, fun i hi h1 h2 => (hb.block i (by have := b.1; omega)).trans (b.2 i hi h1 h2)⟩, c.trans (hb.mono a.bsz), d⟩
set_option maxHeartbeats 4000000 in
set_option maxRecDepth 100000 in
theorem next_any {w : World} {B g M c : Nat} {s : Dm.S} {v : Value} {A : Option Addr} {l : List UInt8} (h : DecAt w B g M s v) (hG : Dm.Good s) (hM : M ≤ 100000) (hb : s.rr.length + l.length ≤ 1000000) (hr : RdB w A l) (hc : l.length ≤ c) (hA : ∀ ad, A = some ad → 0 < l.length → ad.block ≠ g ∧ some ad.block ≠ v.ownBlock) :
    Calls Tryd.prog 19 #[.pointer (some ⟨g, 0, none⟩), .slice A l.length c] w fun e w' => ∃ r, e = .returned (.tuple #[.bool (decide ((Dm.go s l).1.st = 5)), r]) ∧ OwnB w' w.heap.size r (Dm.go s l).2 ∧ Dec w w' B g M (Dm.go s l).1 v.ownBlock := by
  have H := Lib.hid h
  have HR := Lib.hid hr
  have HA := Lib.hid hA
  have HG := Lib.hid hG
  obtain ⟨F, hF⟩ : ∃ F, Dm.go s l = F := ⟨_, rfl⟩
  rw [hF]
  have HF := Lib.hid hF
  obtain ⟨D, HD0⟩ : ∃ D, Hid (decide (F.1.st = 5) = D) := ⟨_, Lib.hid rfl⟩
  rw [HD0.out]
  clear h hr hA hG hF
  go_enter Tryd.func19, Tryd.ntmps19
  go_wp2_with fail
  go_loopw [10] (fun i wr => ∃ (k : Nat) (sk : Dm.S), i = .int .i64 k ∧ k ≤ l.length ∧ Hid (Dec w wr B g M sk v.ownBlock) ∧ Hid (Dm.go sk (l.drop k) = F) ∧ Hid (Dm.Good sk) ∧ Hid (sk.rr.length = s.rr.length + k)) (fun i _ => l.length - (intOf i).toNat)
  case atStart => exact ⟨0, s, rfl, by omega, Lib.hid (Dec.refl H.out), Lib.hid HF.out, HG, Lib.hid rfl⟩
  case round =>
    obtain ⟨k, sk, rfl, hk, HD, HK, HGk, HL⟩ := hrel
    obtain ⟨vk, a1, b1, b2, b3⟩ := HD.out
    have A1 := Lib.hid a1
    have K1 := Lib.hid b1
    have L1 := Lib.hid b2
    have N1 := Lib.hid b3
    have f5 := a1.fr 5
    have c5 := a1.c5
    have HR2 := Lib.hid (RdB.kept HR.out b1 HA.out)
    have hst := Dm.st_le HGk.out
    clear a1 b1 b2 b3
    by_cases hlt : k < l.length
    · have i1 : (k : Int) < l.length := by omega
      obtain ⟨b, o, rfl, g1⟩ := HR2.out.cell k hlt
      have hdr := List.drop_eq_getElem_cons hlt
      obtain ⟨x, hx⟩ : ∃ x, l[k] = x := ⟨_, rfl⟩
      rw [hx] at g1 hdr
      have HDR := Lib.hid hdr
      clear hdr hx
      obtain ⟨q, hq⟩ : ∃ q : Int, (x.toNat : Int) = q := ⟨_, rfl⟩
      rw [hq] at g1
      have HQ := Lib.hid hq
      clear hq
      by_cases k5 : sk.st = 5
      · have c5 : wr.cell? ⟨g, 5, none⟩ = some (.int .i64 5) := c5.trans (by rw [k5]; rfl)
        have HF2 : Hid (F = (sk, l.drop k)) := Lib.hid (by rw [← HK.out, Dm.go_over k5])
        obtain ⟨A', hs1, hs2, hs3⟩ := drop_of (some ⟨b, o, none⟩) c l k (by omega) (by omega) hc
        rw [Int.toNat_natCast] at hs1 hs2 hs3
        have HS2 := Lib.hid hs2
        have HS3 := Lib.hid hs3
        clear hs2 hs3
        have HD5 : Hid (D = true) := Lib.hid (by rw [← HD0.out, HF2.out]; exact decide_eq_true k5)
        have HF3 : Hid (F.1 = sk ∧ F.2 = l.drop k) := Lib.hid (by rw [HF2.out]; exact ⟨rfl, rfl⟩)
        clear HF2 HK
        go_wp2_with fail
        rw [show l.length - k = (l.drop k).length from List.length_drop.symm]
        refine (clone_any A' (c - k) (l.drop k) wr (HS2.out wr HR2.out) (by rw [List.length_drop]; omega)).mono ?_
        rintro e w2 ⟨r, rfl, ho, hb2⟩
        have HO := Lib.hid ho
        have HB2 := Lib.hid hb2
        clear ho hb2
        go_wp2
        go_ret2
        exact ⟨r, by rw [HD5.out]; rfl, by rw [HF3.out.2]; exact own_le HO.out K1.out.1, by rw [HF3.out.1]; exact Dec.tail HD.out HB2.out⟩
      · obtain ⟨t, ht⟩ : ∃ t : Int, (sk.st : Int) = t := ⟨_, rfl⟩
        have c5 : wr.cell? ⟨g, 5, none⟩ = some (.int .i64 t) := c5.trans (by rw [← ht])
        have ht5 : ¬ t = 5 := by omega
        have ht6 : (t == 5) = false := by simpa using ht5
        have hol : sk.out.length ≤ 800000000 := by have := Dm.out_len HGk.out; have := HL.out; omega
        have hst4 : sk.st ≤ 4 := by omega
        clear ht
        go_wp2_with fail
        refine (step_any (x := x) HQ.out A1.out hM hol (ln_le HGk.out) hst4).mono ?_
        rintro e w2 ⟨rfl, hd⟩
        have HD2 := Lib.hid (Dec.trans K1.out L1.out N1.out hd A1.out)
        clear hd
        go_wp2_with fail
        go_roundw
        · refine ⟨k + 1, Dm.step x sk, by go_num, hlt, HD2, Lib.hid ?_, Lib.hid (.step x HGk.out k5), Lib.hid ?_⟩
          · rw [← HK.out, HDR.out]
            conv => rhs; rw [Dm.go, if_neg k5]
          · show (x :: sk.rr).length = _
            rw [List.length_cons, HL.out]; omega
        · simp [intOf]; omega
    · have i1 : ¬ (k : Int) < l.length := by omega
      have e : l.drop k = [] := List.drop_of_length_le (by omega)
      have HF3 : Hid (F = (sk, [])) := Lib.hid (by rw [← HK.out, e]; rfl)
      have HD5 : D = decide ((sk.st : Int) = 5) := by
        rw [← HD0.out, HF3.out]
        by_cases k5 : sk.st = 5
        · rw [decide_eq_true k5, decide_eq_true (by omega)]
        · rw [decide_eq_false k5, decide_eq_false (by omega)]
      clear HK e
      generalize (sk.st : Int) = t at c5 HD5
      have HD6 := Lib.hid HD5
      clear HD5
      go_wp2
      go_ret2
      exact ⟨.slice none 0 0, by rw [HD6.out]; rfl, by rw [HF3.out]; exact World.ownsRow_nil _ _ _ _, by rw [HF3.out]; exact HD.out⟩
set_option maxHeartbeats 4000000 in
set_option maxRecDepth 100000 in
/-- Text: the message, or why there is none. -/
theorem text_any {w : World} {B g M : Nat} {s : Dm.S} {v : Value} (h : DecAt w B g M s v) (hG : Dm.Good s) (hM : M ≤ 100000) :
    Calls Tryd.prog 20 #[.pointer (some ⟨g, 0, none⟩)] w fun e w' => ∃ r, e = .returned (.tuple #[r, .int .i64 (if s.st ≠ 5 then 15 else if M < s.out.length then 5 else if s.wd then 3 else 0)]) ∧
      OwnB w' w.heap.size r (if s.st ≠ 5 then [] else if M < s.out.length then [] else if s.wd then [] else s.out) ∧ Below w.heap.size w w' := by
  have H := Lib.hid h
  have HG := Lib.hid hG
  have c5 := h.c5
  clear h hG
  by_cases k5 : s.st = 5
  · have c5 : w.cell? ⟨g, 5, none⟩ = some (.int .i64 5) := c5.trans (by rw [k5]; rfl)
    have k6 : ¬ (s.st ≠ 5) := by omega
    rw [if_neg k6, if_neg k6]
    by_cases kM : M < s.out.length
    · rw [if_pos kM, if_pos kM]
      go_enter Tryd.func20, Tryd.ntmps20
      go_wp2_with fail
      refine (long_any H.out).mono ?_
      rintro e w1 ⟨rfl, hb⟩
      have hdm : decide (M < s.out.length) = true := decide_eq_true kM
      rw [hdm]
      go_wp2
      go_ret2
      exact ⟨_, rfl, World.ownsRow_nil _ _ _ _, hb⟩
    · rw [if_neg kM, if_neg kM]
      obtain ⟨wd, hwd⟩ : ∃ wd, s.wd = wd := ⟨_, rfl⟩
      rw [hwd]
      have HWD := Lib.hid hwd
      clear hwd
      go_enter Tryd.func20, Tryd.ntmps20
      go_wp2_with fail
      refine (long_any H.out).mono ?_
      rintro e w1 ⟨rfl, hb⟩
      have HB := Lib.hid hb
      have A1 := Lib.hid (H.out.below hb)
      have c4 := A1.out.c4
      have c1 := A1.out.c1
      have O1 := A1.out.own
      rw [List.take_of_length_le (by omega)] at O1
      obtain ⟨A, c, rfl, hr, hc⟩ := O1.reads
      have HR := Lib.hid hr
      have hl : s.out.length ≤ 1000000 := by omega
      clear O1 hr hb
      rw [HWD.out] at c4
      cases wd
      · go_wp2_with fail
        refine (clone_any A c s.out w1 HR.out hl).mono ?_
        rintro e w2 ⟨r, rfl, ho, hb⟩
        have HO := Lib.hid ho
        have HB2 := Lib.hid hb
        clear ho hb
        go_wp2
        go_ret2
        exact ⟨_, rfl, own_le HO.out HB.out.size, bt HB.out HB2.out⟩
      · go_wp2
        go_ret2
        exact ⟨_, rfl, World.ownsRow_nil _ _ _ _, HB.out⟩
  · obtain ⟨t, ht⟩ : ∃ t : Int, (s.st : Int) = t := ⟨_, rfl⟩
    have c5 : w.cell? ⟨g, 5, none⟩ = some (.int .i64 t) := c5.trans (by rw [← ht])
    have ht5 : ¬ t = 5 := by omega
    have ht6 : (t == 5) = false := by simpa using ht5
    have ht7 : (t != 5) = true := by simpa using ht5
    rw [if_pos k5, if_pos k5]
    clear ht
    go_enter Tryd.func20, Tryd.ntmps20
    go_wp2
    go_ret2
    exact ⟨_, rfl, World.ownsRow_nil _ _ _ _, Below.refl _ _⟩
set_option maxHeartbeats 4000000 in
set_option maxRecDepth 100000 in
/-- New: a fresh decoder. -/
theorem new_any {w : World} {M : Nat} (hM : M ≤ 65536) :
    Calls Tryd.prog 18 #[.int .i64 M] w fun e w' => e = .returned (.tuple #[.pointer (some ⟨w.heap.size, 0, none⟩), .int .i64 0]) ∧ DecAt w' w.heap.size w.heap.size M Dm.S0 (.slice none 0 0) ∧ Below w.heap.size w w' ∧ w'.heap.size = w.heap.size + 1 := by
  obtain ⟨m, hm⟩ : ∃ m : Int, (M : Int) = m := ⟨_, rfl⟩
  rw [hm]
  have h1 : ¬ m < 0 := by omega
  have h2 : ¬ 65536 < m := by omega
  have HM := Lib.hid hm
  clear hm
  go_enter Tryd.func18, Tryd.ntmps18
  go_wp2
  go_ret2
  refine ⟨rfl, ⟨Nat.le_refl _, ?_, by show OwnB _ _ _ (List.take M []); rw [List.take_nil]; exact World.ownsRow_nil _ _ _ _⟩, (Below.refl _ _).alloc (Nat.le_refl _) _, by simp⟩
  rw [Go.heap_alloc_new]
  unfold cellsD
  rw [HM.out]
  rfl
set_option maxHeartbeats 4000000 in
set_option maxRecDepth 100000 in
theorem new_out {w : World} {m : Int} (hM : m < 0 ∨ 65536 < m) :
    Calls Tryd.prog 18 #[.int .i64 m] w fun e w' => e = .returned (.tuple #[.pointer none, .int .i64 1]) ∧ w' = w := by
  by_cases h1 : m < 0
  · go_enter Tryd.func18, Tryd.ntmps18
    go_wp2
    go_ret2
    exact ⟨rfl, rfl⟩
  · have h2 : 65536 < m := by omega
    go_enter Tryd.func18, Tryd.ntmps18
    go_wp2
    go_ret2
    exact ⟨rfl, rfl⟩
end Go.Proofs.YthgghgecpjnoiaaDoor.Dq
