/- What the last tests of PathUnders read, as facts of texts. -/
import Derived.Test.YthgghgecpjnoiaaDoorPj
namespace Go.Proofs.YthgghgecpjnoiaaDoor.Pl
open Go.RowKit Go.Proofs.YthgghgecpjnoiaaDoor.Pb Go.Proofs.YthgghgecpjnoiaaDoor.Pc Go.Proofs.YthgghgecpjnoiaaDoor.Pi Go.Proofs.YthgghgecpjnoiaaDoor.Pj
theorem under_facts {a b c : List ByteArray} {ja jb jc : List UInt8 × Int} (ha : joinS (a.map tl) = ja) (hb : joinS ((a ++ b).map tl) = jb) (hc : joinS ((a ++ b ++ c).map tl) = jc) (ka : ja.2 = 0) (kb : jb.2 = 0) (kc : jc.2 = 0) :
    underS (tl (tb ja.1)) (tl (tb ja.1)) = true ∧ underS (tl (tb ja.1)) (tl (tb jb.1)) = true ∧ underS (tl (tb jb.1)) (tl (tb jc.1)) = true ∧ underS (tl (tb ja.1)) (tl (tb jc.1)) = true ∧ underS (tl (tb jb.1)) (tl (tb ja.1)) = decide (b.length = 0) := by
  subst ha hb hc
  refine ⟨?_, ?_, ?_, ?_, ?_⟩
  · rw [under_join ka ka]; simp
  · rw [under_join ka kb, List.map_append]; exact prefix_self _ _
  · rw [under_join kb kc, List.map_append (l₁ := a ++ b)]; exact prefix_self _ _
  · rw [under_join ka kc, List.append_assoc, List.map_append]; exact prefix_self _ _
  · rw [under_join kb ka, List.map_append, prefix_back, List.length_map]
theorem parent_zero {l : List ByteArray} {j : List UInt8 × Int} (hj : joinS (l.map tl) = j) (h0 : j.2 = 0) (hn : l = []) : tb (parentS (tl (tb j.1))).1 = tb [] ∧ tb (parentS (tl (tb j.1))).2.1 = tb [] ∧ (parentS (tl (tb j.1))).2.2 = 12 := by
  subst hj
  rw [parent_none h0 (by rw [hn]; rfl)]
  exact ⟨rfl, rfl, rfl⟩
theorem parent_facts {l : List ByteArray} {j : List UInt8 × Int} (hj : joinS (l.map tl) = j) (h0 : j.2 = 0) (hn : l ≠ []) :
    ∃ xu xl : ByteArray, tb (parentS (tl (tb j.1))).1 = xu ∧ tb (parentS (tl (tb j.1))).2.1 = xl ∧ (parentS (tl (tb j.1))).2.2 = 0 ∧ underS (tl xu) (tl (tb j.1)) = true ∧ underS (tl (tb j.1)) (tl xu) = false ∧ xu.size ≤ 300 ∧ xl.size ≤ 300 ∧
      ((xu = ⟨#[47]⟩ ∧ tb j.1 = ⟨#[47]⟩ ++ xl) ∨ (xu ≠ ⟨#[47]⟩ ∧ tb j.1 = xu ++ ⟨#[47]⟩ ++ xl)) := by
  subst hj
  have hm : l.map tl ≠ [] := by simpa using hn
  generalize l.map tl = ps at h0 hm ⊢
  obtain ⟨hp, hd⟩ := parent_join h0 hm
  obtain ⟨hv, hck, hlen⟩ := joinS_val h0
  obtain ⟨hall, -⟩ := chk_zero hck
  have hz : (joinS ps.dropLast).2 = 0 := by rw [hd]
  have e1 : (joinS ps.dropLast).1 = joinL ps.dropLast := by rw [hd]
  have u1 := under_join hz h0
  have u2 := under_join h0 hz
  rw [e1] at u1 u2
  rw [dropLast_self] at u1
  rw [dropLast_back hm] at u2
  refine ⟨tb (joinL ps.dropLast), tb (ps.getLastD []), by rw [hp], by rw [hp], by rw [hp], u1, u2, ?_⟩
  have tbsz : ∀ q : List UInt8, (tb q).size = q.length := fun q => by simp [tb, ByteArray.size]
  have tbapp : ∀ p q : List UInt8, tb (p ++ q) = tb p ++ tb q := fun p q => by rw [← tl_inj, tl_append, tl_tb, tl_tb, tl_tb]
  by_cases k : ps.dropLast = []
  · have h := join_one hm k
    have hj0 : joinL ps.dropLast = [47] := by rw [k]; rfl
    have hs : (ps.getLastD []).length ≤ 256 := by rw [h] at hlen; simp at hlen ⊢; omega
    refine ⟨by rw [hj0]; decide, by rw [tbsz]; omega, .inl ⟨by rw [hj0]; rfl, ?_⟩⟩
    rw [hv, h]
    exact tbapp [47] _
  · have h := join_last hm k
    have hs : (joinL ps.dropLast).length ≤ 256 ∧ (ps.getLastD []).length ≤ 256 := by rw [h] at hlen; simp at hlen ⊢; omega
    refine ⟨by rw [tbsz]; omega, by rw [tbsz]; omega, .inr ⟨?_, ?_⟩⟩
    · intro e
      have e2 : joinL ps.dropLast = [47] := by
        have := congrArg tl e
        rwa [tl_tb] at this
      exact join_long k (List.all_eq_true.2 fun x hx => List.all_eq_true.1 hall x (List.dropLast_subset _ hx)) e2
    · rw [hv, h, tbapp, show (47 :: ps.getLastD [] : List UInt8) = [47] ++ ps.getLastD [] from rfl, tbapp]
      rw [ByteArray.append_assoc]
      rfl
end Go.Proofs.YthgghgecpjnoiaaDoor.Pl
