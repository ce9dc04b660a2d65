/- Names and paths as plain lists of bytes; the printed dir.Name and the reference's Name are the one test of a name. -/
import Derived.Test.YthgghgecpjnoiaaDoorPPathx
import Derived.Test.YthgghgecpjnoiaaDoorPb
import Derived.Lib.Hide
import Derived.Lib.Strings
namespace Go.Proofs.YthgghgecpjnoiaaDoor.Pa
open Go.RowKit Go.Proofs.YthgghgecpjnoiaaDoor.Pb Go.Proofs.YthgghgecpjnoiaaDoor.PPath Go.Proofs.YthgghgecpjnoiaaDoorW.PrintWords Go.Proofs.YthgghgecpjnoiaaDoorW.PrintLast Go.Proofs.YthgghgecpjnoiaaDoorW.PrintMore

def nmB (s : ByteArray) : Bool := nmL s.data.toList

theorem w64 {x : Int} (h : -9223372036854775808 ≤ x) (h' : x ≤ 9223372036854775807) : wrap64 x = x := by
  unfold wrap64; omega
theorem bt_get (s : ByteArray) (i : Nat) (h : i < s.data.toList.length) : bt s (i : Int) = ((s.data.toList[i]'h).toNat : Int) := by
  have h' : i < s.size := by simpa using h
  unfold bt
  rw [dif_pos (by rw [Int.toNat_natCast]; exact h')]
  rfl
theorem data_len (s : ByteArray) : s.data.toList.length = s.size := by simp

theorem name_l (s : ByteArray) (hs : s.size ≤ 48) (d : Nat) : ∀ (k i : Nat), i + d = s.size → d < k →
    dir_Name.l0 k s (s.size : Int) (i : Int) = some ((s.data.toList.drop i).all okC) ∧ mailbagref9_Name.l0 k s (i : Int) = some ((s.data.toList.drop i).all okC) := by
  induction d with
  | zero =>
    intro k i hi hk
    obtain ⟨k, rfl⟩ : ∃ m, k = m + 1 := ⟨k - 1, by omega⟩
    have hd : s.data.toList.drop i = [] := List.drop_of_length_le (by rw [data_len]; omega)
    simp only [dir_Name.l0, mailbagref9_Name.l0]
    rw [if_neg (by omega), if_neg (by omega), hd]
    exact ⟨rfl, rfl⟩
  | succ d ih =>
    intro k i hi hk
    obtain ⟨k, rfl⟩ : ∃ m, k = m + 1 := ⟨k - 1, by omega⟩
    have hlt : i < s.data.toList.length := by rw [data_len]; omega
    have hd : (s.data.toList.drop i).all okC = (okC (s.data.toList[i]'hlt) && (s.data.toList.drop (i + 1)).all okC) := by
      rw [List.drop_eq_getElem_cons hlt]; rfl
    have hw : wrap64 ((i : Int) + 1) = ((i + 1 : Nat) : Int) := by rw [w64 (by omega) (by omega)]; omega
    obtain ⟨i1, i2⟩ := ih k (i + 1) (by omega) (by omega)
    have hb := bt_get s i hlt
    simp only [dir_Name.l0, mailbagref9_Name.l0]
    rw [if_pos (show (i : Int) < (s.size : Int) by omega), if_pos (show (0 : Int) ≤ (i : Int) by omega), if_pos (show (i : Int) < (s.size : Int) by omega), if_pos (show (i : Int) < (s.size : Int) by omega), if_pos (show (0 : Int) ≤ (i : Int) by omega), hb, hd, hw]
    generalize s.data.toList[i]'hlt = c at hb ⊢
    by_cases b1 : (c.toNat : Int) < 33
    · have : okC c = false := by simp [okC]; omega
      rw [if_pos b1, if_pos b1, this]; exact ⟨rfl, rfl⟩
    rw [if_neg b1, if_neg b1]
    by_cases b2 : (c.toNat : Int) > 126
    · have : okC c = false := by simp [okC]; omega
      rw [if_pos b2, if_pos b2, this]; exact ⟨rfl, rfl⟩
    rw [if_neg b2, if_neg b2]
    by_cases b3 : (c.toNat : Int) = 47
    · have : okC c = false := by simp [okC]; omega
      rw [if_pos b3, if_pos b3, this]; exact ⟨rfl, rfl⟩
    rw [if_neg b3, if_neg b3, i1, i2]
    have : okC c = true := by simp [okC]; omega
    rw [this]; exact ⟨rfl, rfl⟩

theorem name_eq (s : ByteArray) (k : Nat) (hk : 60 ≤ k) : dir_Name.f k s = some (nmB s) ∧ mailbagref9_Name.f k s = some (nmB s) := by
  obtain ⟨k, rfl⟩ : ∃ m, k = m + 1 := ⟨k - 1, by omega⟩
  unfold dir_Name.f mailbagref9_Name.f nmB nmL
  rw [Lib.toList_data, data_len]
  have jt : dir_Name.j0 (k + 1) s true = some false ∧ mailbagref9_Name.j0 (k + 1) s true = some false :=
    ⟨by simp only [dir_Name.j0, if_true], by simp only [mailbagref9_Name.j0, if_true]⟩
  by_cases c1 : s.data.toList = []
  · rw [if_pos c1, if_pos c1, jt.1, jt.2, c1]; exact ⟨rfl, rfl⟩
  rw [if_neg c1, if_neg c1]
  by_cases c2 : (s.size : Int) > 48
  · rw [if_pos c2, if_pos c2, jt.1, jt.2]
    have : decide (s.size ≤ 48) = false := by simp; omega
    simp [this]
  rw [if_neg c2, if_neg c2]
  have h2 : decide (s.size ≤ 48) = true := by simp; omega
  have h1 : (s.data.toList != []) = true := by simpa using c1
  by_cases c3 : s.data.toList = [46]
  · rw [if_pos c3, if_pos c3, jt.1, jt.2, c3]; simp
  rw [if_neg c3, if_neg c3]
  have h3 : (s.data.toList != [46]) = true := by simpa using c3
  by_cases c4 : s.data.toList = [46, 46]
  · have : (s.data.toList == ([46, 46] : List UInt8)) = true := by rw [c4]; rfl
    rw [this, jt.1, jt.2, c4]; simp
  have h4 : (s.data.toList == ([46, 46] : List UInt8)) = false := by simpa using c4
  obtain ⟨l1, l2⟩ := name_l s (by omega) s.size k 0 (by omega) (by omega)
  rw [h4]
  simp only [dir_Name.j0, mailbagref9_Name.j0]
  rw [if_neg (by decide), if_neg (by decide)]
  have h5 : (s.data.toList != [46, 46]) = true := by simpa using c4
  rw [h1, h2, h3, h5]
  simp only [Bool.true_and]
  rw [List.drop_zero] at l1 l2
  exact ⟨l1, l2⟩
end Go.Proofs.YthgghgecpjnoiaaDoor.Pa
