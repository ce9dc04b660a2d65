/- What PathUnders says, in plain lists: joined names lie under one another as the lists are fronts of one another. -/
import Derived.Test.YthgghgecpjnoiaaDoorPi
import Derived.Laws.AppendOwn
import Derived.Laws.AppendOwnNone
import Derived.OwnWalk
namespace Go.Proofs.YthgghgecpjnoiaaDoor.Pj
open Go.RowKit Go.Proofs.YthgghgecpjnoiaaDoor.Pb Go.Proofs.YthgghgecpjnoiaaDoor.Pc Go.Proofs.YthgghgecpjnoiaaDoor.Pd Go.Proofs.YthgghgecpjnoiaaDoor.Pe Go.Proofs.YthgghgecpjnoiaaDoor.Pf Go.Proofs.YthgghgecpjnoiaaDoor.Pg Go.Proofs.YthgghgecpjnoiaaDoor.Pi

theorem joinS_val {ps : List (List UInt8)} (h : (joinS ps).2 = 0) : (joinS ps).1 = joinL ps ∧ chk ps = 0 ∧ (joinL ps).length ≤ 256 := by
  unfold joinS at h ⊢
  by_cases c1 : chk ps ≠ 0
  · rw [if_pos c1] at h; exact absurd h c1
  rw [if_neg c1] at h ⊢
  by_cases c2 : (joinL ps).length > 256
  · rw [if_pos c2] at h; exact absurd h (by decide)
  rw [if_neg c2]
  exact ⟨rfl, by simpa using c1, by omega⟩
theorem under_join {ps qs : List (List UInt8)} (hp : (joinS ps).2 = 0) (hq : (joinS qs).2 = 0) : underS (tl (tb (joinS ps).1)) (tl (tb (joinS qs).1)) = ps.isPrefixOf qs := by
  unfold underS
  rw [tl_tb, tl_tb, joinS_zero hp, joinS_zero hq]
  simp
theorem prefix_self (a b : List (List UInt8)) : a.isPrefixOf (a ++ b) = true := List.isPrefixOf_iff_prefix.2 (List.prefix_append a b)
theorem prefix_back (a b : List (List UInt8)) : (a ++ b).isPrefixOf a = decide (b.length = 0) := by
  by_cases h : b = []
  · subst h; simp
  · rw [prefix_len (by have := List.length_pos_iff.2 h; simp; omega)]
    symm; simpa using h
theorem parent_join {ps : List (List UInt8)} (hp : (joinS ps).2 = 0) (hn : ps ≠ []) : parentS (tl (tb (joinS ps).1)) = (joinL ps.dropLast, ps.getLastD [], 0) ∧ (joinS ps.dropLast) = (joinL ps.dropLast, 0) := by
  have hs := joinS_zero hp
  constructor
  · unfold parentS
    rw [tl_tb, hs, if_neg (by simp), if_neg hn]
  · have := join_up (l := (joinS ps).1) (by rw [hs]) (by rw [hs]; exact hn)
    rwa [hs] at this
theorem parent_none {ps : List (List UInt8)} (hp : (joinS ps).2 = 0) (hn : ps = []) : parentS (tl (tb (joinS ps).1)) = ([], [], 12) := by
  unfold parentS
  rw [tl_tb, joinS_zero hp, if_neg (by simp), if_pos hn]
theorem join_last {ps : List (List UInt8)} (hn : ps ≠ []) (hd : ps.dropLast ≠ []) : joinL ps = joinL ps.dropLast ++ 47 :: ps.getLastD [] := by
  have e : ps = ps.dropLast ++ [ps.getLastD []] := by
    rw [List.getLastD_eq_getLast?, List.getLast?_eq_some_getLast hn]
    exact (List.dropLast_concat_getLast hn).symm
  have h1 : joinL ps = ps.flatMap fun p => 47 :: p := by unfold joinL; rw [if_neg hn]
  have h2 : joinL ps.dropLast = ps.dropLast.flatMap fun p => 47 :: p := by unfold joinL; rw [if_neg hd]
  rw [h1, h2]
  conv => lhs; rw [e]
  rw [List.flatMap_append]
  simp
theorem join_one {ps : List (List UInt8)} (hn : ps ≠ []) (hd : ps.dropLast = []) : joinL ps = 47 :: ps.getLastD [] := by
  have e : ps = ps.dropLast ++ [ps.getLastD []] := by
    rw [List.getLastD_eq_getLast?, List.getLast?_eq_some_getLast hn]
    exact (List.dropLast_concat_getLast hn).symm
  rw [hd] at e
  unfold joinL
  rw [if_neg hn]
  conv => lhs; rw [e]
  simp
theorem join_long {ps : List (List UInt8)} (hn : ps ≠ []) (h : ps.all nmL = true) : joinL ps ≠ [47] := by
  cases ps with
  | nil => exact absurd rfl hn
  | cons p qs =>
    have hp := List.all_eq_true.1 h p List.mem_cons_self
    intro e
    unfold joinL at e
    rw [if_neg (by simp), List.flatMap_cons] at e
    cases p with
    | nil => simp [nmL] at hp
    | cons c r => simp at e
theorem dropLast_self (ps : List (List UInt8)) : ps.dropLast.isPrefixOf ps = true := List.isPrefixOf_iff_prefix.2 (List.dropLast_prefix ps)
theorem dropLast_back {ps : List (List UInt8)} (hn : ps ≠ []) : ps.isPrefixOf ps.dropLast = false := prefix_len (by have := List.length_pos_iff.2 hn; simp; omega)
end Go.Proofs.YthgghgecpjnoiaaDoor.Pj
