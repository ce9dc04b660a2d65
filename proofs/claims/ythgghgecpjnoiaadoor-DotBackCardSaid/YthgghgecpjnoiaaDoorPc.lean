/- The reference's path functions, printed, come to the plain ones: Split, join, Join, Parent, Under, texts. -/
import Derived.Test.YthgghgecpjnoiaaDoorPa
import Derived.Test.YthgghgecpjnoiaaDoorPb
namespace Go.Proofs.YthgghgecpjnoiaaDoor.Pc
open Go.Proofs.YthgghgecpjnoiaaDoor.Pa (w64 bt_get data_len)
open Go.RowKit Go.Proofs.YthgghgecpjnoiaaDoor.PPath Go.Proofs.YthgghgecpjnoiaaDoor.Pb Go.Proofs.YthgghgecpjnoiaaDoorW.PrintWords Go.Proofs.YthgghgecpjnoiaaDoorW.PrintLast Go.Proofs.YthgghgecpjnoiaaDoorW.PrintMore

def tb (l : List UInt8) : ByteArray := ⟨l.toArray⟩
def tl (s : ByteArray) : List UInt8 := s.data.toList
theorem tb_tl (s : ByteArray) : tb (tl s) = s := by cases s; rfl
theorem tl_tb (l : List UInt8) : tl (tb l) = l := by simp [tl, tb]
theorem tl_len (s : ByteArray) : (tl s).length = s.size := by simp [tl]
theorem name_eq (s : ByteArray) (k : Nat) (hk : 60 ≤ k) : dir_Name.f k s = some (nmL (tl s)) ∧ mailbagref9_Name.f k s = some (nmL (tl s)) := Pa.name_eq s k hk
theorem tl_inj {a b : ByteArray} : tl a = tl b ↔ a = b := ⟨fun h => by rw [← tb_tl a, ← tb_tl b, h], fun h => by rw [h]⟩
theorem tl_extract (s : ByteArray) (i j : Nat) : tl (s.extract i j) = ((tl s).drop i).take (j - i) := by
  simp [tl, ByteArray.data_extract, Array.toList_extract, List.extract]
theorem tl_append (a b : ByteArray) : tl (a ++ b) = tl a ++ tl b := by simp [tl]

/-- What comes of the names so far, the piece that is open, and the bytes left. -/
def goS (out : List (List UInt8)) (piece rest : List UInt8) : List (List UInt8) × Int :=
  match cut rest with
  | [] => ([], 0)
  | p :: ps => if ((piece ++ p) :: ps).all nmL = true then (if (out ++ (piece ++ p) :: ps).length > 8 then ([], 5) else (out ++ (piece ++ p) :: ps, 0)) else ([], 12)
theorem goS_nil (out : List (List UInt8)) (piece : List UInt8) : goS out piece [] = if nmL piece = true then (if (out ++ [piece]).length > 8 then ([], 5) else (out ++ [piece], 0)) else ([], 12) := by
  simp [goS, cut]
theorem goS_stroke (out : List (List UInt8)) (piece r : List UInt8) : goS out piece (47 :: r) = if nmL piece = true then goS (out ++ [piece]) [] r else ([], 12) := by
  unfold goS
  rw [cut_stroke]
  cases h : cut r with
  | nil => exact absurd h (cut_ne r)
  | cons p ps =>
    by_cases c : nmL piece = true
    · simp [c]
    · simp [c]
theorem goS_other {c : UInt8} (hc : c ≠ 47) (out : List (List UInt8)) (piece r : List UInt8) : goS out piece (c :: r) = goS out (piece ++ [c]) r := by
  unfold goS
  cases h : cut r with
  | nil => exact absurd h (cut_ne r)
  | cons p ps => rw [cut_other hc h]; simp

def mapR (x : List (List UInt8) × Int) : List ByteArray × Int := (x.1.map tb, x.2)
theorem split_l (s : ByteArray) (hs : s.size ≤ 256) (d : Nat) : ∀ (k at_ i : Nat) (out : List (List UInt8)), i + d = s.size → at_ ≤ i → out.length ≤ i → 2 * d + 70 ≤ k →
    mailbagref10_Split.l0 k s (out.map tb) (at_ : Int) (i : Int) = some (mapR (goS out (((tl s).drop at_).take (i - at_)) ((tl s).drop i))) := by
  induction d with
  | zero =>
    intro k at_ i out hi ha ho hk
    obtain ⟨k, rfl⟩ : ∃ m, k = m + 3 := ⟨k - 3, by omega⟩
    have hd : (tl s).drop i = [] := List.drop_of_length_le (by rw [tl_len]; omega)
    have hx : tl (s.extract at_ i) = ((tl s).drop at_).take (i - at_) := tl_extract s at_ i
    have hw : wrap64 ((i : Int) + 1) = ((i + 1 : Nat) : Int) := by rw [w64 (by omega) (by omega)]; omega
    simp only [mailbagref10_Split.l0, mailbagref10_Split.j2]
    rw [if_pos (show (i : Int) ≤ (s.size : Int) by omega), if_neg (show ¬ (i : Int) < (s.size : Int) by omega), if_neg (by decide), if_pos (show (0 : Int) ≤ (at_ : Int) by omega), if_pos (show (at_ : Int) ≤ (i : Int) by omega), if_pos (show (i : Int) ≤ (s.size : Int) by omega)]
    rw [Int.toNat_natCast, Int.toNat_natCast, (name_eq _ (k + 1) (by omega)).2, hx, hd, goS_nil]
    simp only [Option.bind_some]
    by_cases c : nmL (((tl s).drop at_).take (i - at_)) = true
    · rw [if_pos c, if_pos c, if_pos (by simp; omega), hw, if_neg (by omega)]
      have e : out.map tb ++ [s.extract at_ i] = (out ++ [((tl s).drop at_).take (i - at_)]).map tb := by rw [← hx]; simp [tb_tl]
      rw [e]
      by_cases c2 : (out ++ [((tl s).drop at_).take (i - at_)]).length > 8
      · rw [if_pos c2, if_pos (by rw [List.length_map]; omega)]; rfl
      · rw [if_neg c2, if_neg (by rw [List.length_map]; omega)]; rfl
    · rw [if_neg c, if_neg c]; rfl
  | succ d ih =>
    intro k at_ i out hi ha ho hk
    obtain ⟨k, rfl⟩ : ∃ m, k = m + 2 := ⟨k - 2, by omega⟩
    have hlt : i < (tl s).length := by rw [tl_len]; omega
    have hx : tl (s.extract at_ i) = ((tl s).drop at_).take (i - at_) := tl_extract s at_ i
    have hd : (tl s).drop i = (tl s)[i]'hlt :: (tl s).drop (i + 1) := List.drop_eq_getElem_cons hlt
    have hw : wrap64 ((i : Int) + 1) = ((i + 1 : Nat) : Int) := by rw [w64 (by omega) (by omega)]; omega
    have hb : bt s (i : Int) = (((tl s)[i]'hlt).toNat : Int) := bt_get s i hlt
    simp only [mailbagref10_Split.l0, mailbagref10_Split.j2]
    rw [if_pos (show (i : Int) ≤ (s.size : Int) by omega), if_pos (show (i : Int) < (s.size : Int) by omega), if_pos (show (0 : Int) ≤ (i : Int) by omega), hb, hd, hw]
    by_cases c : (tl s)[i]'hlt = 47
    · rw [c, if_neg (by decide), if_pos (show (0 : Int) ≤ (at_ : Int) by omega), if_pos (show (at_ : Int) ≤ (i : Int) by omega), if_pos (show (i : Int) ≤ (s.size : Int) by omega)]
      rw [Int.toNat_natCast, Int.toNat_natCast, (name_eq _ k (by omega)).2, hx, goS_stroke]
      simp only [Option.bind_some]
      by_cases c2 : nmL (((tl s).drop at_).take (i - at_)) = true
      · rw [if_pos c2, if_pos c2, if_pos (by simp; omega)]
        have e : out.map tb ++ [s.extract at_ i] = (out ++ [((tl s).drop at_).take (i - at_)]).map tb := by rw [← hx]; simp [tb_tl]
        rw [e, ih k (i + 1) (i + 1) (out ++ [((tl s).drop at_).take (i - at_)]) (by omega) (by omega) (by simp; omega) (by omega)]
        simp
      · rw [if_neg c2, if_neg c2]; rfl
    · have c' : ((((tl s)[i]'hlt).toNat : Int) != 47) = true := by
        have : ((tl s)[i]'hlt).toNat ≠ 47 := fun e => c (by apply UInt8.toNat_inj.1; exact e)
        simp; omega
      rw [if_pos c', goS_other c, ih k at_ (i + 1) out (by omega) (by omega) (by omega) (by omega)]
      congr 3
      rw [show i + 1 - at_ = (i - at_) + 1 by omega, List.take_succ_eq_append_getElem (by simp; omega)]
      simp [Nat.add_sub_cancel' ha]
theorem split_eq (s : ByteArray) (k : Nat) (hk : 700 ≤ k) : mailbagref10_Split.f k s = some (mapR (splitL (tl s))) := by
  obtain ⟨k, rfl⟩ : ∃ m, k = m + 1 := ⟨k - 1, by omega⟩
  have jt : mailbagref10_Split.j0 (k + 1) s true = some ([], 12) := by simp only [mailbagref10_Split.j0, if_true]
  unfold mailbagref10_Split.f splitL
  rw [tl_len]
  by_cases c1 : (s.size : Int) > 256
  · rw [if_pos c1, if_pos (by omega)]; rfl
  rw [if_neg c1, if_neg (show ¬ s.size > 256 by omega), Lib.toList_data]
  cases h : tl s with
  | nil =>
    have : s.data.toList = [] := h
    rw [if_pos this, jt]; rfl
  | cons c r =>
    have e : s.data.toList = c :: r := h
    have hlen : s.size = r.length + 1 := by rw [← tl_len, h]; rfl
    rw [e, if_neg (by simp), if_pos (by omega)]
    have hb : bt s 0 = (c.toNat : Int) := by
      have := bt_get s 0 (by rw [e]; simp)
      simpa [e] using this
    rw [hb]
    by_cases c2 : c = 47
    · subst c2
      rw [show (((47 : UInt8).toNat : Int) != 47) = false by decide]
      simp only [mailbagref10_Split.j0]
      rw [if_neg (by decide), Lib.toList_data, e]
      by_cases c3 : r = []
      · subst c3; simp [mapR]
      · rw [if_neg (by simp [c3])]
        have hl := split_l s (by omega) r.length k 1 1 [] (by omega) (by omega) (by simp) (by omega)
        simp only [List.map_nil] at hl
        rw [show ((1 : Nat) : Int) = 1 from rfl] at hl
        rw [hl, h]
        simp only [Nat.sub_self, List.take_zero, List.drop_succ_cons, List.drop_zero]
        unfold goS
        cases hcut : cut r with
        | nil => exact absurd hcut (cut_ne r)
        | cons p ps => simp [c3]
    · have c' : ((c.toNat : Int) != 47) = true := by
        have : c.toNat ≠ 47 := fun e => c2 (by apply UInt8.toNat_inj.1; exact e)
        simp; omega
      rw [c', jt]
      simp [c2, mapR]

theorem rdOf_get (l : List ByteArray) (i : Nat) (h : i < l.length) : rdOf ByteArray.empty l (i : Int) = l[i] := by
  unfold rdOf
  rw [Int.toNat_natCast, List.getD_eq_getElem?_getD, List.getElem?_eq_getElem h]; rfl
/-- Names, each with a stroke ahead. -/
def flatS (l : List ByteArray) : List UInt8 := l.flatMap fun p => 47 :: tl p
theorem flatS_len (l : List ByteArray) (n : Nat) : (flatS (l.take n)).length ≤ (flatS l).length := by
  unfold flatS
  conv => rhs; rw [← List.take_append_drop n l, List.flatMap_append, List.length_append]
  omega
theorem join_l (l : List ByteArray) (hl : (flatS l).length ≤ 9000000000) (hn : l.length ≤ 1000000000) (d : Nat) : ∀ (k i : Nat) (x : ByteArray), i + d = l.length → tl x = flatS (l.take i) → d < k →
    mailbagref10_join.l0 k l x (i : Int) = some (if l = [] then tb [47] else tb (flatS l)) := by
  induction d with
  | zero =>
    intro k i x hi hx hk
    obtain ⟨k, rfl⟩ : ∃ m, k = m + 1 := ⟨k - 1, by omega⟩
    rw [List.take_of_length_le (by omega)] at hx
    simp only [mailbagref10_join.l0]
    rw [if_neg (by omega), Lib.toList_data, show x.data.toList = flatS l from hx]
    cases l with
    | nil => rw [if_pos (show flatS [] = [] from rfl)]; rfl
    | cons p ps =>
      rw [if_neg (by simp [flatS]), if_neg (by simp), ← hx, tb_tl]
  | succ d ih =>
    intro k i x hi hx hk
    obtain ⟨k, rfl⟩ : ∃ m, k = m + 1 := ⟨k - 1, by omega⟩
    have hlt : i < l.length := by omega
    have hw : wrap64 ((i : Int) + 1) = ((i + 1 : Nat) : Int) := by rw [w64 (by omega) (by omega)]; omega
    have e : flatS (l.take (i + 1)) = flatS (l.take i) ++ 47 :: tl l[i] := by
      rw [List.take_succ_eq_append_getElem hlt]; unfold flatS; rw [List.flatMap_append]; simp
    have hb := flatS_len l (i + 1)
    have hsz : x.size = (flatS (l.take i)).length := by rw [← hx, tl_len]
    rw [e, List.length_append, List.length_cons, tl_len] at hb
    have e1 : (x ++ (⟨#[47]⟩ : ByteArray)).size = x.size + 1 := by rw [ByteArray.size_append]; rfl
    simp only [mailbagref10_join.l0]
    rw [if_pos (show (i : Int) < (l.length : Int) by omega), if_pos (show x.size + 1 ≤ 9223372036854775807 by omega), if_pos (show (0 : Int) ≤ (i : Int) by omega), rdOf_get l i hlt, e1, if_pos (show x.size + 1 + l[i].size ≤ 9223372036854775807 by omega), hw]
    refine ih k (i + 1) _ (by omega) ?_ (by omega)
    rw [tl_append, tl_append, hx, e]
    simp [tl]
theorem flatS_map (l : List ByteArray) : flatS l = (l.map tl).flatMap fun p => 47 :: p := by simp [flatS, List.flatMap_map]
theorem join_eq (l : List ByteArray) (hl : (flatS l).length ≤ 9000000000) (hn : l.length ≤ 1000000000) (k : Nat) (hk : l.length < k) : mailbagref10_join.f k l = some (tb (joinL (l.map tl))) := by
  unfold mailbagref10_join.f
  have := join_l l hl hn l.length k 0 ⟨#[]⟩ (by omega) (by simp [flatS, tl]) hk
  rw [show ((0 : Nat) : Int) = 0 from rfl] at this
  rw [this]
  unfold joinL
  by_cases c : l = []
  · subst c; rfl
  · rw [if_neg c, if_neg (by simp [c]), flatS_map]

theorem Join_l (l : List ByteArray) (hl : (flatS l).length ≤ 9000000000) (hn : l.length ≤ 1000) (d : Nat) : ∀ (k i : Nat), i + d = l.length → d + 1100 ≤ k →
    mailbagref10_Join.l0 k l (i : Int) = some (if ((l.drop i).map tl).all nmL = true then (if l.length > 8 then (tb [], 5) else if (joinL (l.map tl)).length > 256 then (tb [], 5) else (tb (joinL (l.map tl)), 0)) else (tb [], 12)) := by
  induction d with
  | zero =>
    intro k i hi hk
    obtain ⟨k, rfl⟩ : ∃ m, k = m + 1 := ⟨k - 1, by omega⟩
    simp only [mailbagref10_Join.l0]
    rw [if_neg (by omega), List.drop_of_length_le (by omega), if_pos (show (([] : List ByteArray).map tl).all nmL = true from rfl), join_eq l hl (by omega) k (by omega)]
    simp only [Option.bind_some]
    by_cases c : l.length > 8
    · rw [if_pos c, if_pos (by omega)]; rfl
    rw [if_neg c, if_neg (by omega)]
    have e : (tb (joinL (l.map tl))).size = (joinL (l.map tl)).length := by rw [← tl_len, tl_tb]
    by_cases c2 : (joinL (l.map tl)).length > 256
    · rw [if_pos c2, if_pos (by rw [e]; omega)]; rfl
    · rw [if_neg c2, if_neg (by rw [e]; omega)]
  | succ d ih =>
    intro k i hi hk
    obtain ⟨k, rfl⟩ : ∃ m, k = m + 1 := ⟨k - 1, by omega⟩
    have hlt : i < l.length := by omega
    have hw : wrap64 ((i : Int) + 1) = ((i + 1 : Nat) : Int) := by rw [w64 (by omega) (by omega)]; omega
    simp only [mailbagref10_Join.l0]
    rw [if_pos (show (i : Int) < (l.length : Int) by omega), if_pos (show (0 : Int) ≤ (i : Int) by omega), rdOf_get l i hlt, (name_eq _ k (by omega)).2, hw]
    simp only [Option.bind_some]
    rw [List.drop_eq_getElem_cons hlt, List.map_cons, List.all_cons]
    by_cases c : nmL (tl l[i]) = true
    · rw [if_pos c, c, ih k (i + 1) (by omega) (by omega)]; rfl
    · have c' : nmL (tl l[i]) = false := by simpa using c
      rw [if_neg c, c']; rfl
theorem Join_eq (l : List ByteArray) (hl : (flatS l).length ≤ 9000000000) (hn : l.length ≤ 1000) (k : Nat) (hk : 2200 ≤ k) : mailbagref10_Join.f k l = some (tb (joinS (l.map tl)).1, (joinS (l.map tl)).2) := by
  unfold mailbagref10_Join.f
  have := Join_l l hl hn l.length k 0 (by omega) (by omega)
  rw [show ((0 : Nat) : Int) = 0 from rfl] at this
  rw [this]
  unfold joinS chk
  rw [List.drop_zero, List.length_map]
  by_cases c : (l.map tl).all nmL = true
  · rw [if_pos c, if_pos c]
    by_cases c2 : l.length > 8
    · rw [if_pos c2, if_pos c2]; rfl
    · rw [if_neg c2, if_neg c2]
      by_cases c3 : (joinL (l.map tl)).length > 256
      · rw [if_pos c3]; simp [c3]
      · rw [if_neg c3]; simp [c3]
  · rw [if_neg c, if_neg c]; rfl

theorem map_tl_tb (l : List (List UInt8)) : (l.map tb).map tl = l := by
  rw [List.map_map]; exact (List.map_congr_left (fun x _ => tl_tb x)).trans (List.map_id l)
theorem map_tb_tl (l : List ByteArray) : (l.map tl).map tb = l := by
  rw [List.map_map]; exact (List.map_congr_left (fun x _ => tb_tl x)).trans (List.map_id l)
/-- What splits well: few names, and short. -/
theorem split_small {l : List UInt8} (h : (splitL l).2 = 0) : (splitL l).1.length ≤ 8 ∧ ((splitL l).1.flatMap fun p => 47 :: p).length ≤ 256 := by
  obtain ⟨h1, h2, h3⟩ := split_ok h
  refine ⟨(chk_zero h1).2, ?_⟩
  unfold joinL at h2
  by_cases c : (splitL l).1 = []
  · rw [c]; simp
  · rw [if_neg c] at h2
    rw [h2]; exact h3
theorem parent_eq (s : ByteArray) (k : Nat) (hk : 700 ≤ k) : mailbagref10_Parent.f k s = some (tb (parentS (tl s)).1, tb (parentS (tl s)).2.1, (parentS (tl s)).2.2) := by
  unfold mailbagref10_Parent.f parentS
  rw [split_eq s k hk]
  simp only [Option.bind_some, mapR]
  by_cases c : (splitL (tl s)).2 = 0
  · rw [if_pos c, if_neg (show ¬ (splitL (tl s)).2 ≠ 0 by omega)]
    obtain ⟨h8, hf⟩ := split_small c
    generalize (splitL (tl s)).1 = ps at h8 hf ⊢
    rw [List.length_map]
    cases ps with
    | nil => rfl
    | cons p qs =>
      have hw : wrap64 (((p :: qs).length : Int) - 1) = ((qs.length : Nat) : Int) := by rw [w64 (by simp only [List.length_cons]; omega) (by simp only [List.length_cons] at *; omega)]; simp
      rw [if_neg (show ¬ (((p :: qs).length : Nat) : Int) = 0 by simp only [List.length_cons]; omega), hw, if_pos (show (0 : Int) ≤ (qs.length : Int) by omega), if_pos (show (qs.length : Int) ≤ (((p :: qs).length : Nat) : Int) by simp only [List.length_cons]; omega), Int.toNat_natCast]
      rw [if_neg (show ¬ (p :: qs = []) by simp)]
      have ht : ((p :: qs).map tb).take qs.length = ((p :: qs).dropLast).map tb := by
        rw [List.dropLast_eq_take, List.map_take]; rfl
      rw [ht, join_eq _ (by
        rw [flatS_map, map_tl_tb]
        have := flatS_len ((p :: qs).map tb) qs.length
        rw [ht, flatS_map, flatS_map, map_tl_tb, map_tl_tb] at this
        omega) (by simp at *; omega) k (by simp at *; omega), map_tl_tb]
      simp only [Option.bind_some]
      rw [if_pos (show (qs.length : Int) < (((p :: qs).length : Nat) : Int) by simp only [List.length_cons]; omega)]
      have hg : rdOf ByteArray.empty ((p :: qs).map tb) (qs.length : Int) = tb ((p :: qs).getLastD []) := by
        rw [rdOf_get _ _ (by simp), List.getElem_map]
        congr 1
        rw [List.getLastD_cons, List.getLastD_eq_getLast?]
        cases qs with
        | nil => rfl
        | cons q rs =>
          rw [List.getLast?_eq_getElem?]
          simp
      rw [hg]
  · rw [if_neg c, if_pos c]; rfl
theorem under_l (x y : List ByteArray) (h : x.length ≤ y.length) (hx : x.length ≤ 1000) (d : Nat) : ∀ (k i : Nat), i + d = x.length → d < k →
    mailbagref10_Under.l0 k x y (i : Int) = some (((x.drop i).map tl).isPrefixOf ((y.drop i).map tl)) := by
  induction d with
  | zero =>
    intro k i hi hk
    obtain ⟨k, rfl⟩ : ∃ m, k = m + 1 := ⟨k - 1, by omega⟩
    simp only [mailbagref10_Under.l0]
    rw [if_neg (by omega), List.drop_of_length_le (by omega)]; rfl
  | succ d ih =>
    intro k i hi hk
    obtain ⟨k, rfl⟩ : ∃ m, k = m + 1 := ⟨k - 1, by omega⟩
    have h1 : i < x.length := by omega
    have h2 : i < y.length := by omega
    have hw : wrap64 ((i : Int) + 1) = ((i + 1 : Nat) : Int) := by rw [w64 (by omega) (by omega)]; omega
    simp only [mailbagref10_Under.l0]
    rw [if_pos (show (i : Int) < (x.length : Int) by omega), if_pos (show (0 : Int) ≤ (i : Int) by omega), if_pos (show (i : Int) < (y.length : Int) by omega), rdOf_get x i h1, rdOf_get y i h2, hw, Lib.toList_data, Lib.toList_data]
    rw [List.drop_eq_getElem_cons h1, List.drop_eq_getElem_cons h2, List.map_cons, List.map_cons, List.isPrefixOf_cons_cons]
    by_cases c : x[i].data.toList = y[i].data.toList
    · rw [if_pos c, ih k (i + 1) (by omega) (by omega)]
      have : (tl x[i] == tl y[i]) = true := beq_iff_eq.2 c
      rw [this, Bool.true_and]
    · rw [if_neg c]
      have : (tl x[i] == tl y[i]) = false := beq_eq_false_iff_ne.2 c
      rw [this, Bool.false_and]
theorem prefix_len {x y : List (List UInt8)} (h : y.length < x.length) : x.isPrefixOf y = false := by
  cases hb : x.isPrefixOf y with
  | false => rfl
  | true => have := (List.isPrefixOf_iff_prefix.1 hb).length_le; omega
theorem under_eq (a b : ByteArray) (k : Nat) (hk : 700 ≤ k) : mailbagref10_Under.f k a b = some (underS (tl a) (tl b)) := by
  obtain ⟨k, rfl⟩ : ∃ m, k = m + 1 := ⟨k - 1, by omega⟩
  unfold mailbagref10_Under.f underS
  rw [split_eq a _ hk, split_eq b _ hk]
  simp only [Option.bind_some, mapR, List.length_map]
  have jt : ∀ x y, mailbagref10_Under.j0 (k + 1) x y true = some false := fun x y => by simp only [mailbagref10_Under.j0, if_true]
  by_cases c1 : (splitL (tl a)).2 = 0
  · by_cases c2 : (splitL (tl b)).2 = 0
    · rw [if_pos c1, if_pos c2, c1, c2]
      simp only [and_self, decide_true, Bool.true_and]
      by_cases c3 : ((splitL (tl a)).1.length : Int) > ((splitL (tl b)).1.length : Int)
      · rw [decide_eq_true c3, jt, prefix_len (by omega)]
      · rw [decide_eq_false c3]
        simp only [mailbagref10_Under.j0]
        rw [if_neg (by decide)]
        have h8 := (split_small c1).1
        have := under_l ((splitL (tl a)).1.map tb) ((splitL (tl b)).1.map tb) (by simp; omega) (by simp; omega) ((splitL (tl a)).1.length) k 0 (by simp) (by omega)
        rw [show ((0 : Nat) : Int) = 0 from rfl] at this
        rw [this, List.drop_zero, List.drop_zero, map_tl_tb, map_tl_tb]
    · rw [if_pos c1, if_neg c2, jt]; simp [c2]
  · rw [if_neg c1, jt]; simp [c1]
theorem texts_l (x y : List ByteArray) (h : x.length = y.length) (hx : x.length ≤ 100000) (d : Nat) : ∀ (k i : Nat), i + d = x.length → d < k →
    mailbaglaw10_texts.l0 k x y (i : Int) = some (decide (x.drop i = y.drop i)) := by
  induction d with
  | zero =>
    intro k i hi hk
    obtain ⟨k, rfl⟩ : ∃ m, k = m + 1 := ⟨k - 1, by omega⟩
    simp only [mailbaglaw10_texts.l0]
    rw [if_neg (by omega), List.drop_of_length_le (by omega), List.drop_of_length_le (by omega)]; rfl
  | succ d ih =>
    intro k i hi hk
    obtain ⟨k, rfl⟩ : ∃ m, k = m + 1 := ⟨k - 1, by omega⟩
    have h1 : i < x.length := by omega
    have h2 : i < y.length := by omega
    have hw : wrap64 ((i : Int) + 1) = ((i + 1 : Nat) : Int) := by rw [w64 (by omega) (by omega)]; omega
    simp only [mailbaglaw10_texts.l0]
    rw [if_pos (show (i : Int) < (x.length : Int) by omega), if_pos (show (0 : Int) ≤ (i : Int) by omega), if_pos (show (i : Int) < (y.length : Int) by omega), rdOf_get x i h1, rdOf_get y i h2, hw, Lib.toList_data, Lib.toList_data]
    rw [List.drop_eq_getElem_cons h1, List.drop_eq_getElem_cons h2]
    by_cases c : x[i].data.toList = y[i].data.toList
    · rw [if_pos c, ih k (i + 1) (by omega) (by omega)]
      have : x[i] = y[i] := tl_inj.1 c
      rw [decide_eq_decide.2 (show x.drop (i + 1) = y.drop (i + 1) ↔ x[i] :: x.drop (i + 1) = y[i] :: y.drop (i + 1) from ⟨fun h => by rw [h, this], fun h => (List.cons.inj h).2⟩)]
    · rw [if_neg c]
      have : ¬ x[i] = y[i] := fun e => c (by rw [e])
      rw [decide_eq_false (fun h => this (List.cons.inj h).1)]
theorem texts_eq (x y : List ByteArray) (hx : x.length ≤ 100000) (k : Nat) (hk : 100000 < k) : mailbaglaw10_texts.f k x y = some (decide (x = y)) := by
  unfold mailbaglaw10_texts.f
  by_cases c : (x.length : Int) = (y.length : Int)
  · rw [if_pos c]
    have := texts_l x y (by omega) hx x.length k 0 (by omega) (by omega)
    rw [show ((0 : Nat) : Int) = 0 from rfl] at this
    rw [this, List.drop_zero, List.drop_zero]
  · rw [if_neg c]
    have : ¬ x = y := fun e => c (by rw [e])
    simp [this]
end Go.Proofs.YthgghgecpjnoiaaDoor.Pc
