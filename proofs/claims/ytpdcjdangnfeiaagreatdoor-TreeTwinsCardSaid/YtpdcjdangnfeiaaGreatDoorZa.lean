/- The printed Name and Split of the reference, as plain bytes. The printed functions on slots (At, Put, Take, Move, Names) and sizes, as plain lists. The reference's tree in memory: things, slots, names; what keeps it; the printed functions told in these words. The reference's walk along names, walked. A region that draws its order, whose head leaves the world alone but for draws, and whose tail (a store) waits for all of it: one walk of the written order serves every order. The reference's memory written to: a number, a field of a thing, a whole thing. The reference's free, More walked. append to a row of the call's own, told by cells of any size; as one step of a region that draws its order, or in its line. append to a row of the call's own, where all of its block's cells have a property; rows of things. -/
import Derived.Test.YtpdcjdangnfeiaaGreatDoorYb
import Derived.Test.YtpdcjdangnfeiaaGreatDoorYc
import Derived.Test.YtpdcjdangnfeiaaGreatDoorYd
import Derived.Lib.Hide
import Derived.Lib.Strings
import Derived.Test.YtpdcjdangnfeiaaGreatDoorYg
import Derived.StillTail
import Derived.StillTactics
import Derived.Deep.QuietTactic
section
open Go Go.RowKit Go.Proofs.YtpdcjdangnfeiaaGreatDoor.Pb Go.Proofs.YtpdcjdangnfeiaaGreatDoor.PPth Go.Proofs.YtpdcjdangnfeiaaGreatDoor.PPrf Go.Proofs.YtpdcjdangnfeiaaGreatDoorW.PrintWords Go.Proofs.YtpdcjdangnfeiaaGreatDoorW.PrintLast Go.Proofs.YtpdcjdangnfeiaaGreatDoorW.PrintMore
namespace Go.Proofs.YtpdcjdangnfeiaaGreatDoor.Ra
def nmB (s : ByteArray) : Bool := nmL s.data.toList
theorem w64 {x : Int} (h : -9223372036854775808 ≤ x) (h' : x ≤ 9223372036854775807) : wrap64 x = x := by
  unfold wrap64; omega
theorem bt_get (s : ByteArray) (i : Nat) (h : i < s.data.toList.length) : bt s (i : Int) = ((s.data.toList[i]'h).toNat : Int) := by
  have h' : i < s.size := by simpa using h
  unfold bt
  rw [dif_pos (by rw [Int.toNat_natCast]; exact h')]
  rfl
theorem data_len (s : ByteArray) : s.data.toList.length = s.size := by simp
theorem name_l (s : ByteArray) (hs : s.size ≤ 48) (d : Nat) : ∀ (k i : Nat), i + d = s.size → d < k →
    dir_Name.l0 k s (s.size : Int) (i : Int) = some ((s.data.toList.drop i).all okC) ∧ mailbagref9_Name.l0 k s (i : Int) = some ((s.data.toList.drop i).all okC) := by
  induction d with
  | zero =>
    intro k i hi hk
    obtain ⟨k, rfl⟩ : ∃ m, k = m + 1 := ⟨k - 1, by omega⟩
    have hd : s.data.toList.drop i = [] := List.drop_of_length_le (by rw [data_len]; omega)
    simp only [dir_Name.l0, mailbagref9_Name.l0]
    rw [if_neg (by omega), if_neg (by omega), hd]
    exact ⟨rfl, rfl⟩
  | succ d ih =>
    intro k i hi hk
    obtain ⟨k, rfl⟩ : ∃ m, k = m + 1 := ⟨k - 1, by omega⟩
    have hlt : i < s.data.toList.length := by rw [data_len]; omega
    have hd : (s.data.toList.drop i).all okC = (okC (s.data.toList[i]'hlt) && (s.data.toList.drop (i + 1)).all okC) := by
      rw [List.drop_eq_getElem_cons hlt]; rfl
    have hw : wrap64 ((i : Int) + 1) = ((i + 1 : Nat) : Int) := by rw [w64 (by omega) (by omega)]; omega
    obtain ⟨i1, i2⟩ := ih k (i + 1) (by omega) (by omega)
    have hb := bt_get s i hlt
    simp only [dir_Name.l0, mailbagref9_Name.l0]
    rw [if_pos (show (i : Int) < (s.size : Int) by omega), if_pos (show (0 : Int) ≤ (i : Int) by omega), if_pos (show (i : Int) < (s.size : Int) by omega), if_pos (show (i : Int) < (s.size : Int) by omega), if_pos (show (0 : Int) ≤ (i : Int) by omega), hb, hd, hw]
    generalize s.data.toList[i]'hlt = c at hb ⊢
    by_cases b1 : (c.toNat : Int) < 33
    · have : okC c = false := by simp [okC]; omega
      rw [if_pos b1, if_pos b1, this]; exact ⟨rfl, rfl⟩
    rw [if_neg b1, if_neg b1]
    by_cases b2 : (c.toNat : Int) > 126
    · have : okC c = false := by simp [okC]; omega
      rw [if_pos b2, if_pos b2, this]; exact ⟨rfl, rfl⟩
    rw [if_neg b2, if_neg b2]
    by_cases b3 : (c.toNat : Int) = 47
    · have : okC c = false := by simp [okC]; omega
      rw [if_pos b3, if_pos b3, this]; exact ⟨rfl, rfl⟩
    rw [if_neg b3, if_neg b3, i1, i2]
    have : okC c = true := by simp [okC]; omega
    rw [this]; exact ⟨rfl, rfl⟩
theorem name_eq0 (s : ByteArray) (k : Nat) (hk : 60 ≤ k) : dir_Name.f k s = some (nmB s) ∧ mailbagref9_Name.f k s = some (nmB s) := by
  obtain ⟨k, rfl⟩ : ∃ m, k = m + 1 := ⟨k - 1, by omega⟩
  unfold dir_Name.f mailbagref9_Name.f nmB nmL
  rw [Lib.toList_data, data_len]
  have jt : dir_Name.j0 (k + 1) s true = some false ∧ mailbagref9_Name.j0 (k + 1) s true = some false :=
    ⟨by simp only [dir_Name.j0, if_true], by simp only [mailbagref9_Name.j0, if_true]⟩
  by_cases c1 : s.data.toList = []
  · rw [if_pos c1, if_pos c1, jt.1, jt.2, c1]; exact ⟨rfl, rfl⟩
  rw [if_neg c1, if_neg c1]
  by_cases c2 : (s.size : Int) > 48
  · rw [if_pos c2, if_pos c2, jt.1, jt.2]
    have : decide (s.size ≤ 48) = false := by simp; omega
    simp [this]
  rw [if_neg c2, if_neg c2]
  have h2 : decide (s.size ≤ 48) = true := by simp; omega
  have h1 : (s.data.toList != []) = true := by simpa using c1
  by_cases c3 : s.data.toList = [46]
  · rw [if_pos c3, if_pos c3, jt.1, jt.2, c3]; simp
  rw [if_neg c3, if_neg c3]
  have h3 : (s.data.toList != [46]) = true := by simpa using c3
  by_cases c4 : s.data.toList = [46, 46]
  · have : (s.data.toList == ([46, 46] : List UInt8)) = true := by rw [c4]; rfl
    rw [this, jt.1, jt.2, c4]; simp
  have h4 : (s.data.toList == ([46, 46] : List UInt8)) = false := by simpa using c4
  obtain ⟨l1, l2⟩ := name_l s (by omega) s.size k 0 (by omega) (by omega)
  rw [h4]
  simp only [dir_Name.j0, mailbagref9_Name.j0]
  rw [if_neg (by decide), if_neg (by decide)]
  have h5 : (s.data.toList != [46, 46]) = true := by simpa using c4
  rw [h1, h2, h3, h5]
  simp only [Bool.true_and]
  rw [List.drop_zero] at l1 l2
  exact ⟨l1, l2⟩
def tb (l : List UInt8) : ByteArray := ⟨l.toArray⟩
def tl (s : ByteArray) : List UInt8 := s.data.toList
theorem tb_tl (s : ByteArray) : tb (tl s) = s := by cases s; rfl
theorem tl_tb (l : List UInt8) : tl (tb l) = l := by simp [tl, tb]
theorem tl_len (s : ByteArray) : (tl s).length = s.size := by simp [tl]
theorem name_eq (s : ByteArray) (k : Nat) (hk : 60 ≤ k) : dir_Name.f k s = some (nmL (tl s)) ∧ mailbagref9_Name.f k s = some (nmL (tl s)) := name_eq0 s k hk
theorem tl_inj {a b : ByteArray} : tl a = tl b ↔ a = b := ⟨fun h => by rw [← tb_tl a, ← tb_tl b, h], fun h => by rw [h]⟩
theorem tl_extract (s : ByteArray) (i j : Nat) : tl (s.extract i j) = ((tl s).drop i).take (j - i) := by
  simp [tl, ByteArray.data_extract, Array.toList_extract, List.extract]
/-- What comes of the names so far, the piece that is open, and the bytes left. -/
def goS (out : List (List UInt8)) (piece rest : List UInt8) : List (List UInt8) × Int :=
  match cut rest with
  | [] => ([], 0)
  | p :: ps => if ((piece ++ p) :: ps).all nmL = true then (if (out ++ (piece ++ p) :: ps).length > 8 then ([], 5) else (out ++ (piece ++ p) :: ps, 0)) else ([], 12)
theorem goS_nil (out : List (List UInt8)) (piece : List UInt8) : goS out piece [] = if nmL piece = true then (if (out ++ [piece]).length > 8 then ([], 5) else (out ++ [piece], 0)) else ([], 12) := by
  simp [goS, cut]
theorem goS_stroke (out : List (List UInt8)) (piece r : List UInt8) : goS out piece (47 :: r) = if nmL piece = true then goS (out ++ [piece]) [] r else ([], 12) := by
  unfold goS
  rw [cut_stroke]
  cases h : cut r with
  | nil => exact absurd h (cut_ne r)
  | cons p ps =>
    by_cases c : nmL piece = true
    · simp [c]
    · simp [c]
theorem goS_other {c : UInt8} (hc : c ≠ 47) (out : List (List UInt8)) (piece r : List UInt8) : goS out piece (c :: r) = goS out (piece ++ [c]) r := by
  unfold goS
  cases h : cut r with
  | nil => exact absurd h (cut_ne r)
  | cons p ps => rw [cut_other hc h]; simp
def mapR (x : List (List UInt8) × Int) : List ByteArray × Int := (x.1.map tb, x.2)
theorem split_l (s : ByteArray) (hs : s.size ≤ 256) (d : Nat) : ∀ (k at_ i : Nat) (out : List (List UInt8)), i + d = s.size → at_ ≤ i → out.length ≤ i → 2 * d + 70 ≤ k →
    mailbagref10_Split.l0 k s (out.map tb) (at_ : Int) (i : Int) = some (mapR (goS out (((tl s).drop at_).take (i - at_)) ((tl s).drop i))) := by
  induction d with
  | zero =>
    intro k at_ i out hi ha ho hk
    obtain ⟨k, rfl⟩ : ∃ m, k = m + 3 := ⟨k - 3, by omega⟩
    have hd : (tl s).drop i = [] := List.drop_of_length_le (by rw [tl_len]; omega)
    have hx : tl (s.extract at_ i) = ((tl s).drop at_).take (i - at_) := tl_extract s at_ i
    have hw : wrap64 ((i : Int) + 1) = ((i + 1 : Nat) : Int) := by rw [w64 (by omega) (by omega)]; omega
    simp only [mailbagref10_Split.l0, mailbagref10_Split.j2]
    rw [if_pos (show (i : Int) ≤ (s.size : Int) by omega), if_neg (show ¬ (i : Int) < (s.size : Int) by omega), if_neg (by decide), if_pos (show (0 : Int) ≤ (at_ : Int) by omega), if_pos (show (at_ : Int) ≤ (i : Int) by omega), if_pos (show (i : Int) ≤ (s.size : Int) by omega)]
    rw [Int.toNat_natCast, Int.toNat_natCast, (name_eq _ (k + 1) (by omega)).2, hx, hd, goS_nil]
    simp only [Option.bind_some]
    by_cases c : nmL (((tl s).drop at_).take (i - at_)) = true
    · rw [if_pos c, if_pos c, if_pos (by simp; omega), hw, if_neg (by omega)]
      have e : out.map tb ++ [s.extract at_ i] = (out ++ [((tl s).drop at_).take (i - at_)]).map tb := by rw [← hx]; simp [tb_tl]
      rw [e]
      by_cases c2 : (out ++ [((tl s).drop at_).take (i - at_)]).length > 8
      · rw [if_pos c2, if_pos (by rw [List.length_map]; omega)]; rfl
      · rw [if_neg c2, if_neg (by rw [List.length_map]; omega)]; rfl
    · rw [if_neg c, if_neg c]; rfl
  | succ d ih =>
    intro k at_ i out hi ha ho hk
    obtain ⟨k, rfl⟩ : ∃ m, k = m + 2 := ⟨k - 2, by omega⟩
    have hlt : i < (tl s).length := by rw [tl_len]; omega
    have hx : tl (s.extract at_ i) = ((tl s).drop at_).take (i - at_) := tl_extract s at_ i
    have hd : (tl s).drop i = (tl s)[i]'hlt :: (tl s).drop (i + 1) := List.drop_eq_getElem_cons hlt
    have hw : wrap64 ((i : Int) + 1) = ((i + 1 : Nat) : Int) := by rw [w64 (by omega) (by omega)]; omega
    have hb : bt s (i : Int) = (((tl s)[i]'hlt).toNat : Int) := bt_get s i hlt
    simp only [mailbagref10_Split.l0, mailbagref10_Split.j2]
    rw [if_pos (show (i : Int) ≤ (s.size : Int) by omega), if_pos (show (i : Int) < (s.size : Int) by omega), if_pos (show (0 : Int) ≤ (i : Int) by omega), hb, hd, hw]
    by_cases c : (tl s)[i]'hlt = 47
    · rw [c, if_neg (by decide), if_pos (show (0 : Int) ≤ (at_ : Int) by omega), if_pos (show (at_ : Int) ≤ (i : Int) by omega), if_pos (show (i : Int) ≤ (s.size : Int) by omega)]
      rw [Int.toNat_natCast, Int.toNat_natCast, (name_eq _ k (by omega)).2, hx, goS_stroke]
      simp only [Option.bind_some]
      by_cases c2 : nmL (((tl s).drop at_).take (i - at_)) = true
      · rw [if_pos c2, if_pos c2, if_pos (by simp; omega)]
        have e : out.map tb ++ [s.extract at_ i] = (out ++ [((tl s).drop at_).take (i - at_)]).map tb := by rw [← hx]; simp [tb_tl]
        rw [e, ih k (i + 1) (i + 1) (out ++ [((tl s).drop at_).take (i - at_)]) (by omega) (by omega) (by simp; omega) (by omega)]
        simp
      · rw [if_neg c2, if_neg c2]; rfl
    · have c' : ((((tl s)[i]'hlt).toNat : Int) != 47) = true := by
        have : ((tl s)[i]'hlt).toNat ≠ 47 := fun e => c (by apply UInt8.toNat_inj.1; exact e)
        simp; omega
      rw [if_pos c', goS_other c, ih k at_ (i + 1) out (by omega) (by omega) (by omega) (by omega)]
      congr 3
      rw [show i + 1 - at_ = (i - at_) + 1 by omega, List.take_succ_eq_append_getElem (by simp; omega)]
      simp [Nat.add_sub_cancel' ha]
theorem split_eq (s : ByteArray) (k : Nat) (hk : 700 ≤ k) : mailbagref10_Split.f k s = some (mapR (splitL (tl s))) := by
  obtain ⟨k, rfl⟩ : ∃ m, k = m + 1 := ⟨k - 1, by omega⟩
  have jt : mailbagref10_Split.j0 (k + 1) s true = some ([], 12) := by simp only [mailbagref10_Split.j0, if_true]
  unfold mailbagref10_Split.f splitL
  rw [tl_len]
  by_cases c1 : (s.size : Int) > 256
  · rw [if_pos c1, if_pos (by omega)]; rfl
  rw [if_neg c1, if_neg (show ¬ s.size > 256 by omega), Lib.toList_data]
  cases h : tl s with
  | nil =>
    have : s.data.toList = [] := h
    rw [if_pos this, jt]; rfl
  | cons c r =>
    have e : s.data.toList = c :: r := h
    have hlen : s.size = r.length + 1 := by rw [← tl_len, h]; rfl
    rw [e, if_neg (by simp), if_pos (by omega)]
    have hb : bt s 0 = (c.toNat : Int) := by
      have := bt_get s 0 (by rw [e]; simp)
      simpa [e] using this
    rw [hb]
    by_cases c2 : c = 47
    · subst c2
      rw [show (((47 : UInt8).toNat : Int) != 47) = false by decide]
      simp only [mailbagref10_Split.j0]
      rw [if_neg (by decide), Lib.toList_data, e]
      by_cases c3 : r = []
      · subst c3; simp [mapR]
      · rw [if_neg (by simp [c3])]
        have hl := split_l s (by omega) r.length k 1 1 [] (by omega) (by omega) (by simp) (by omega)
        simp only [List.map_nil] at hl
        rw [show ((1 : Nat) : Int) = 1 from rfl] at hl
        rw [hl, h]
        simp only [Nat.sub_self, List.take_zero, List.drop_succ_cons, List.drop_zero]
        unfold goS
        cases hcut : cut r with
        | nil => exact absurd hcut (cut_ne r)
        | cons p ps => simp [c3]
    · have c' : ((c.toNat : Int) != 47) = true := by
        have : c.toNat ≠ 47 := fun e => c2 (by apply UInt8.toNat_inj.1; exact e)
        simp; omega
      rw [c', jt]
      simp [c2, mapR]
end Go.Proofs.YtpdcjdangnfeiaaGreatDoor.Ra
end
section
open Go Go.RowKit Go.Proofs.YtpdcjdangnfeiaaGreatDoor.Pb Go.Proofs.YtpdcjdangnfeiaaGreatDoor.Te Go.Proofs.YtpdcjdangnfeiaaGreatDoor.PPrf Go.Proofs.YtpdcjdangnfeiaaGreatDoorW.PrintWords Go.Proofs.YtpdcjdangnfeiaaGreatDoorW.PrintLast Go.Proofs.YtpdcjdangnfeiaaGreatDoorW.PrintMore
namespace Go.Proofs.YtpdcjdangnfeiaaGreatDoor.Rb
open Go.Proofs.YtpdcjdangnfeiaaGreatDoor.Ra (w64)
theorem ba_eq {a b : ByteArray} : a.toList = b.toList ↔ a = b := by
  rw [ByteArray.toList_eq, ByteArray.toList_eq]
  constructor
  · intro h
    cases a with | mk a => cases b with | mk b =>
    simp at h
    rw [h]
  · rintro rfl; rfl
theorem ba_nil {a : ByteArray} : a.toList = [] ↔ a = ByteArray.empty := by
  rw [ByteArray.toList_eq]
  constructor
  · intro h
    cases a with | mk a =>
    simp at h
    rw [h]; rfl
  · rintro rfl; rfl
theorem rd_get (l : List S106) (i : Nat) (h : i < l.length) : rd_T106 l (i : Int) = l[i] := by
  unfold rd_T106
  rw [Int.toNat_natCast, List.getD_eq_getElem?_getD, List.getElem?_eq_getElem h]; rfl
/-- Where a name stands. -/
def atL (l : List S106) (x : ByteArray) : Option Nat := if x = ByteArray.empty then none else l.findIdx? (fun e => decide (e.f0 = x))
def atI (o : Option Nat) : Int := match o with
  | some i => i
  | none => -1
theorem at_l (l : List S106) (x : ByteArray) (hx : x ≠ ByteArray.empty) (hl : l.length ≤ 1000000) (d : Nat) : ∀ (k i : Nat), i + d = l.length → 2 * d + 2 ≤ k → (∀ j, j < i → ∀ e, l[j]? = some e → e.f0 ≠ x) →
    mailbagref9_At.l0 k l x (i : Int) = some (atI (atL l x)) := by
  have hne : (x.toList != ([] : List UInt8)) = true := by
    rw [bne_iff_ne]
    exact fun h => hx (ba_nil.1 h)
  induction d with
  | zero =>
    intro k i hi hk hb
    obtain ⟨k, rfl⟩ : ∃ m, k = m + 2 := ⟨k - 2, by omega⟩
    simp only [mailbagref9_At.l0, mailbagref9_At.j1]
    rw [if_neg (by omega), if_neg (by simp)]
    have : atL l x = none := by
      unfold atL
      rw [if_neg hx, List.findIdx?_eq_none_iff]
      intro e he
      obtain ⟨j, hj, rfl⟩ := List.getElem_of_mem he
      exact decide_eq_false (hb j (by omega) _ (List.getElem?_eq_getElem hj))
    rw [this]; rfl
  | succ d ih =>
    intro k i hi hk hb
    obtain ⟨k, rfl⟩ : ∃ m, k = m + 2 := ⟨k - 2, by omega⟩
    have hlt : i < l.length := by omega
    simp only [mailbagref9_At.l0, mailbagref9_At.j1]
    rw [if_pos (by omega), hne, if_pos rfl, if_pos (by omega), if_pos (by omega), rd_get l i hlt]
    by_cases c : l[i].f0 = x
    · rw [if_pos (ba_eq.2 c)]
      have : atL l x = some i := by
        unfold atL
        rw [if_neg hx, List.findIdx?_eq_some_iff_getElem]
        refine ⟨hlt, decide_eq_true c, fun j hj => ?_⟩
        simpa using hb j hj _ (List.getElem?_eq_getElem (by omega))
      rw [this]; rfl
    · rw [if_neg (fun h => c (ba_eq.1 h))]
      have hw : wrap64 ((i : Int) + 1) = ((i + 1 : Nat) : Int) := by rw [w64 (by omega) (by omega)]; omega
      rw [hw]
      refine ih k (i + 1) (by omega) (by omega) fun j hj e he => ?_
      by_cases e2 : j = i
      · subst e2
        rw [List.getElem?_eq_getElem hlt] at he
        cases he
        exact c
      · exact hb j (by omega) e he
theorem at_eq (l : List S106) (x : ByteArray) (hl : l.length ≤ 1000000) (k : Nat) (hk : 2 * l.length + 2 ≤ k) : mailbagref9_At.f k l x = some (atI (atL l x)) := by
  unfold mailbagref9_At.f
  by_cases hx : x = ByteArray.empty
  · obtain ⟨k, rfl⟩ : ∃ m, k = m + 2 := ⟨k - 2, by omega⟩
    have hne : (x.toList != ([] : List UInt8)) = false := by
      rw [hx, ba_nil.2 rfl]; rfl
    have : atL l x = none := by unfold atL; rw [if_pos hx]
    rw [this]
    simp only [mailbagref9_At.l0, mailbagref9_At.j1, hne]
    split <;> simp [atI]
  · exact at_l l x hx hl l.length k 0 (by omega) hk (fun j hj => by omega)
theorem atL_some {l : List S106} {x : ByteArray} {i : Nat} (h : atL l x = some i) : ∃ e, l[i]? = some e ∧ e.f0 = x ∧ x ≠ ByteArray.empty := by
  unfold atL at h
  split at h
  · cases h
  · rename_i hx
    obtain ⟨h1, h2, -⟩ := List.findIdx?_eq_some_iff_getElem.1 h
    exact ⟨l[i], List.getElem?_eq_getElem h1, of_decide_eq_true h2, hx⟩
theorem atL_none {l : List S106} {x : ByteArray} (hx : x ≠ ByteArray.empty) (h : atL l x = none) : ∀ e ∈ l, e.f0 ≠ x := by
  unfold atL at h
  rw [if_neg hx] at h
  intro e he
  simpa using List.findIdx?_eq_none_iff.1 h e he
def isE (e : S106) : Bool := decide (e.f0 = ByteArray.empty)
def putL (l : List S106) (x : ByteArray) (m : Int) : List S106 := match l.findIdx? isE with
  | some i => l.set i ⟨x, m⟩
  | none => l ++ [⟨x, m⟩]
/-- How many blocks of slots. -/
def slotsL (l : List S106) : Nat := (l.length + 7) / 8
theorem rblocks_eq (n : Nat) (h : n ≤ 1000000000) : mailbagref7_Blocks.f (n : Int) = some ((blocksB n : Nat) : Int) := by
  unfold mailbagref7_Blocks.f blocksB
  rw [if_neg (by omega)]
  by_cases c : 8458240 < n
  · rw [if_pos (by omega), if_pos c]; rfl
  · rw [if_neg (by omega), if_neg c]
    congr 1
    have h1 : wrap64 ((n : Int) + 512) = (n : Int) + 512 := w64 (by omega) (by omega)
    have h2 : wrap64 ((n : Int) + 512 - 1) = ((n + 511 : Nat) : Int) := by rw [w64 (by omega) (by omega)]; omega
    rw [h1, h2]
    have h3 : Int.tdiv ((n + 511 : Nat) : Int) (512 : Int) = (((n + 511) / 512 : Nat) : Int) := rfl
    rw [h3]
    exact w64 (by omega) (by omega)
theorem blocksB_le (n : Nat) : blocksB n ≤ 16521 := by unfold blocksB; split <;> omega
theorem rinner_eq (n : Nat) (h : n ≤ 1000000000) : mailbagref7_Inner.f (n : Int) = some ((innerB n : Nat) : Int) := by
  have hb := blocksB_le n
  unfold mailbagref7_Inner.f innerB
  rw [rblocks_eq n h]
  simp only [Option.bind_some]
  generalize blocksB n = q at hb ⊢
  by_cases c1 : q ≤ 8
  · rw [if_pos (by omega), if_pos c1]; rfl
  rw [if_neg (by omega), if_neg c1]
  by_cases c2 : q ≤ 136
  · rw [if_pos (by omega), if_pos c2]; rfl
  rw [if_neg (by omega), if_neg c2]
  congr 1
  have h1 : wrap64 ((q : Int) - 8) = (q : Int) - 8 := w64 (by omega) (by omega)
  have h2 : wrap64 ((q : Int) - 8 - 128) = (q : Int) - 8 - 128 := w64 (by omega) (by omega)
  have h3 : wrap64 ((q : Int) - 8 - 128 + 128) = (q : Int) - 8 := by rw [w64 (by omega) (by omega)]; omega
  have h4 : wrap64 ((q : Int) - 8 - 1) = ((q - 136 + 127 : Nat) : Int) := by rw [w64 (by omega) (by omega)]; omega
  rw [h1, h2, h3, h4]
  have h5 : Int.tdiv ((q - 136 + 127 : Nat) : Int) (128 : Int) = (((q - 136 + 127) / 128 : Nat) : Int) := rfl
  rw [h5, w64 (x := (((q - 136 + 127) / 128 : Nat) : Int)) (by omega) (by omega), w64 (by omega) (by omega)]
  omega
theorem rall_eq (n : Nat) (h : n ≤ 1000000000) : mailbagref7_All.f (n : Int) = some ((allB n : Nat) : Int) := by
  have hb := blocksB_le n
  have hi : innerB n ≤ 200 := by unfold innerB; split; omega; split <;> omega
  unfold mailbagref7_All.f allB
  rw [rblocks_eq n h, rinner_eq n h]
  show some (wrap64 ((blocksB n : Int) + (innerB n : Int))) = _
  rw [w64 (by omega) (by omega)]
  congr 1
theorem size_eq (l : List S106) (hl : l.length ≤ 1000000) : mailbagref9_Size.f l = some ((slotsL l * 512 : Nat) : Int) := by
  unfold mailbagref9_Size.f slotsL
  congr 1
  have h1 : wrap64 ((l.length : Int) + 8) = (l.length : Int) + 8 := w64 (by omega) (by omega)
  have h2 : wrap64 ((l.length : Int) + 8 - 1) = ((l.length + 7 : Nat) : Int) := by rw [w64 (by omega) (by omega)]; omega
  rw [h1, h2]
  have h3 : Int.tdiv ((l.length + 7 : Nat) : Int) (8 : Int) = (((l.length + 7) / 8 : Nat) : Int) := rfl
  rw [h3, w64 (x := (((l.length + 7) / 8 : Nat) : Int)) (by omega) (by omega), w64 (by omega) (by omega)]
  omega
theorem need_eq (l : List S106) (hl : l.length ≤ 1000000) : mailbagref11_need.f l = some ((allB (slotsL l * 512) : Nat) : Int) := by
  unfold mailbagref11_need.f
  rw [size_eq l hl]
  simp only [Option.bind_some]
  rw [rall_eq _ (by unfold slotsL; omega)]
  rfl
end Go.Proofs.YtpdcjdangnfeiaaGreatDoor.Rb
open Go.Proofs.YtpdcjdangnfeiaaGreatDoor.Qa Go.Proofs.YtpdcjdangnfeiaaGreatDoor.Tb Go.Proofs.YtpdcjdangnfeiaaGreatDoor.Rb Go.Proofs.YtpdcjdangnfeiaaGreatDoor.Ba
namespace Go.Proofs.YtpdcjdangnfeiaaGreatDoor.Rc
/-- A thing. -/
structure T where
  is : Bool
  dir : Bool
  B : List UInt8
  S : List S106
/-- Slots that are read. -/
def RdSl (w : World) (A : Option Addr) (l : List S106) : Prop := Kd.C k106 w A l.length l
/-- Names that are read. -/
def RdN (w : World) (A : Option Addr) (l : List ByteArray) : Prop := Kd.C Kd.string w A l.length l
theorem row_cells {α : Type} {d : Kd α} {w : World} {A : Option Addr} {l : List α} (h : d.C w A l.length l) (hd : 0 < d.sz) (j : Nat) (hj : j < l.length) :
    ∃ b o c, A = some ⟨b, o, none⟩ ∧ d.K w l[j] c ∧ ∀ i u, c[i]? = some u → w.cell? ⟨b, o + (j * d.sz + i), none⟩ = some u := by
  obtain ⟨ad, e, hc⟩ := h.2.2 (by omega)
  obtain ⟨c, h1, h2, h3⟩ := hc j _ (List.getElem?_eq_getElem hj)
  obtain ⟨c0, h10, h20, h30⟩ := hc 0 _ (List.getElem?_eq_getElem (show 0 < l.length by omega))
  have hu := h30 0 c0[0] (List.getElem?_eq_getElem (show 0 < c0.length by omega))
  obtain ⟨b, o, sp⟩ := ad
  have hs := World.cell?_spot hu
  have hsp : sp = none := by simpa [Addr.add] using hs
  subst hsp
  refine ⟨b, o, c, e, h2, fun i u hi => ?_⟩
  have := h3 i u hi
  rwa [Addr.add_lit] at this
theorem RdSl.cell {w : World} {A : Option Addr} {l : List S106} (h : RdSl w A l) (j : Nat) (hj : j < l.length) :
    ∃ b o, A = some ⟨b, o, none⟩ ∧ w.cell? ⟨b, o + j * 2, none⟩ = some (.string l[j].f0) ∧ w.cell? ⟨b, o + j * 2 + 1, none⟩ = some (.int .i64 l[j].f1) := by
  obtain ⟨b, o, c, e, hk, hc⟩ := row_cells (d := k106) h (by decide) j hj
  obtain rfl := k106_open hk
  exact ⟨b, o, e, hc 0 _ rfl, hc 1 _ rfl⟩
theorem RdN.cell {w : World} {A : Option Addr} {l : List ByteArray} (h : RdN w A l) (j : Nat) (hj : j < l.length) : ∃ b o, A = some ⟨b, o, none⟩ ∧ w.cell? ⟨b, o + j, none⟩ = some (.string l[j]) := by
  obtain ⟨b, o, c, e, hk, hc⟩ := row_cells (d := Kd.string) h (by decide) j hj
  have hk' : c = [.string l[j]] := hk
  subst hk'
  have := hc 0 _ rfl
  have e2 : o + (j * Kd.string.sz + 0) = o + j := by show o + (j * 1 + 0) = o + j; omega
  rw [e2] at this
  exact ⟨b, o, e, this⟩
theorem RdSl.below {w w' : World} {A : Option Addr} {l : List S106} (h : RdSl w A l) (hb : Below w.heap.size w w') : RdSl w' A l := Kd.C_below h hb
theorem RdN.below {w w' : World} {A : Option Addr} {l : List ByteArray} (h : RdN w A l) (hb : Below w.heap.size w w') : RdN w' A l := Kd.C_below h hb
theorem RdN.take {w : World} {A : Option Addr} {l : List ByteArray} (h : RdN w A l) (n : Nat) : RdN w A (l.take n) := by
  refine ⟨rfl, Nat.le_trans (by rw [List.length_take]; omega) h.2.1, fun h0 => ?_⟩
  obtain ⟨ad, e, hc⟩ := h.2.2 (by rw [List.length_take] at h0; omega)
  refine ⟨ad, e, fun j p hj => hc j p ?_⟩
  rw [List.getElem?_take] at hj
  split at hj
  · exact hj
  · cases hj
/-- No cell of the block is a byte or a text. -/
def Cl (w : World) (i : Nat) : Prop := ∀ o v, w.cell? ⟨i, o, none⟩ = some v → (∀ y, v ≠ .int .u8 y) ∧ ∀ s, v ≠ .string s
/-- All but some blocks are as they were; those hold no bytes, no texts. -/
structure Fz (w w' : World) (X : Nat → Prop) : Prop where
  size : w.heap.size ≤ w'.heap.size
  block : ∀ i, i < w.heap.size → ¬ X i → w'.heap[i]? = w.heap[i]?
  cl : ∀ i, X i → i < w.heap.size → Cl w i
theorem Fz.fr {w w' : World} {X : Nat → Prop} (h : Fz w w' X) : Fr w w' X := ⟨h.size, h.block, fun i hx hi o y hc => (h.cl i hx hi o _ hc).1 y rfl⟩
theorem Fz.of_below {w w' : World} (h : Below w.heap.size w w') (X : Nat → Prop) (hX : ∀ i, X i → i < w.heap.size → Cl w i) : Fz w w' X := ⟨h.size, fun i hi _ => h.block i hi, hX⟩
theorem Fz.mono {w w' : World} {X Y : Nat → Prop} (h : Fz w w' X) (hY : ∀ i, X i → Y i) (hc : ∀ i, Y i → i < w.heap.size → Cl w i) : Fz w w' Y := ⟨h.size, fun i hi hn => h.block i hi (fun hx => hn (hY i hx)), hc⟩
/-- What is done behind, to the same blocks or to new ones. -/
theorem Fz.trans {w w1 w2 : World} {X Y : Nat → Prop} (h : Fz w w1 X) (k : Fz w1 w2 Y) (hY : ∀ i, Y i → X i ∨ w.heap.size ≤ i) : Fz w w2 X :=
  ⟨Nat.le_trans h.size k.size, fun i hi hn => (k.block i (Nat.lt_of_lt_of_le hi h.size) (fun hy => (hY i hy).elim hn (by omega))).trans (h.block i hi hn), h.cl⟩
theorem cell_fz {w w' : World} {X : Nat → Prop} (hf : Fz w w' X) {b o : Nat} {v : Value} (h : w.cell? ⟨b, o, none⟩ = some v) (hb : ¬ X b) : w'.cell? ⟨b, o, none⟩ = some v := by
  rw [← h]
  exact World.cell?_of_block (a := ⟨b, o, none⟩) (hf.block b (World.block_lt_of_cell? w _ h) hb)
theorem RdB.fz {w w' : World} {X : Nat → Prop} {A : Option Addr} {l : List UInt8} (h : RdB w A l) (hf : Fz w w' X) : RdB w' A l := by
  by_cases h0 : l = []
  · subst h0; exact RdB.nil _ _
  have h1 : 0 < l.length := List.length_pos_iff.2 h0
  obtain ⟨b, o, rfl, -⟩ := h.cell 0 h1
  refine RdB.mk h.len fun j hj => ?_
  obtain ⟨b', o', e, hc⟩ := h.cell j hj
  cases e
  exact cell_fz hf hc fun hx => (hf.cl b hx (World.block_lt_of_cell? w _ hc) _ _ hc).1 _ rfl
theorem RdSl.mk {w : World} {b o : Nat} {l : List S106} (hl : l.length ≤ 9223372036854775807) (h : ∀ j (hj : j < l.length), w.cell? ⟨b, o + j * 2, none⟩ = some (.string l[j].f0) ∧ w.cell? ⟨b, o + j * 2 + 1, none⟩ = some (.int .i64 l[j].f1)) : RdSl w (some ⟨b, o, none⟩) l := by
  refine ⟨rfl, hl, fun _ => ⟨_, rfl, fun j p hj => ?_⟩⟩
  obtain ⟨hlt, rfl⟩ := List.getElem?_eq_some_iff.1 hj
  obtain ⟨h1, h2⟩ := h j hlt
  refine ⟨[.string l[j].f0, .int .i64 l[j].f1], rfl, k106_mk _ _, fun i u hi => ?_⟩
  rw [Addr.add_lit]
  match i, hi with
  | 0, hi => cases hi; exact h1
  | 1, hi => cases hi; exact h2
theorem RdSl.nil (w : World) (A : Option Addr) : RdSl w A [] := ⟨rfl, by simp, fun h => absurd h (by simp)⟩
theorem RdSl.fz {w w' : World} {X : Nat → Prop} {A : Option Addr} {l : List S106} (h : RdSl w A l) (hf : Fz w w' X) : RdSl w' A l := by
  by_cases h0 : l = []
  · subst h0; exact RdSl.nil _ _
  have h1 : 0 < l.length := List.length_pos_iff.2 h0
  obtain ⟨b, o, rfl, -⟩ := h.cell 0 h1
  refine RdSl.mk h.2.1 fun j hj => ?_
  obtain ⟨b', o', e, hc, hc2⟩ := h.cell j hj
  cases e
  have hb : ¬ X b := fun hx => (hf.cl b hx (World.block_lt_of_cell? w _ hc) _ _ hc).2 _ rfl
  exact ⟨cell_fz hf hc hb, cell_fz hf hc2 hb⟩
theorem RdN.fz {w w' : World} {X : Nat → Prop} {A : Option Addr} {l : List ByteArray} (h : RdN w A l) (hf : Fz w w' X) : RdN w' A l := by
  refine ⟨rfl, h.2.1, fun h0 => ?_⟩
  obtain ⟨b, o, rfl, -⟩ := h.cell 0 h0
  refine ⟨_, rfl, fun j p hj => ?_⟩
  obtain ⟨hlt, rfl⟩ := List.getElem?_eq_some_iff.1 hj
  obtain ⟨b', o', e, hc⟩ := h.cell j hlt
  cases e
  refine ⟨[.string l[j]], rfl, rfl, fun i u hi => ?_⟩
  rw [Addr.add_lit]
  match i, hi with
  | 0, hi =>
    cases hi
    have e2 : o + (j * Kd.string.sz + 0) = o + j := by show o + (j * 1 + 0) = o + j; omega
    rw [e2]
    exact cell_fz hf hc fun hx => (hf.cl b hx (World.block_lt_of_cell? w _ hc) _ _ hc).2 _ rfl
/-- The j-th thing of a block's cells. -/
def CT (w : World) (cs : Array Value) (j : Nat) (x : T) : Prop :=
  ∃ BA bc SA sc, cs[j * 4]? = some (.bool x.is) ∧ cs[j * 4 + 1]? = some (.bool x.dir) ∧ cs[j * 4 + 2]? = some (.slice BA x.B.length bc) ∧ cs[j * 4 + 3]? = some (.slice SA x.S.length sc) ∧ RdB w BA x.B ∧ x.B.length ≤ bc ∧ RdSl w SA x.S ∧ x.S.length ≤ sc
theorem CT.fz {w w' : World} {X : Nat → Prop} {cs : Array Value} {j : Nat} {x : T} (h : CT w cs j x) (hf : Fz w w' X) : CT w' cs j x := by
  obtain ⟨BA, bc, SA, sc, h1, h2, h3, h4, h5, h6, h7, h8⟩ := h
  exact ⟨BA, bc, SA, sc, h1, h2, h3, h4, RdB.fz h5 hf, h6, RdSl.fz h7 hf, h8⟩
/-- No bytes, no texts. -/
def Cv (v : Value) : Prop := (∀ y, v ≠ .int .u8 y) ∧ ∀ s, v ≠ .string s
theorem cl_cells {w : World} {b : Nat} {cs : Array Value} {t : TypeId} {fr : Nat × Nat} (h : w.heap[b]? = some (.cells cs t fr)) (hn : ∀ v ∈ cs.toList, Cv v) : Cl w b := by
  intro o v hc
  rw [cell_of_block h] at hc
  exact hn v (Array.mem_toList_iff.2 (Array.mem_of_getElem? hc))
theorem cv_bool (b : Bool) : Cv (.bool b) := ⟨fun _ h => (by cases h), fun _ h => (by cases h)⟩
theorem cv_slice (A : Option Addr) (n c : Nat) : Cv (.slice A n c) := ⟨fun _ h => (by cases h), fun _ h => (by cases h)⟩
theorem cv_int (z : Int) : Cv (.int .i64 z) := ⟨fun _ h => (by cases h), fun _ h => (by cases h)⟩
/-- The reference's tree: its block, the things' block, the things, what is free; their rows are read in v. -/
structure Rf2 (v w : World) (B g b : Nat) (L : List T) (n m : Int) : Prop where
  base : B ≤ g ∧ B ≤ b
  pos : 0 < L.length
  tree : ∃ cap, L.length ≤ cap ∧ w.heap[g]? = some (.cells #[.slice (some ⟨b, 0, none⟩) L.length cap, .int .i64 n, .int .i64 m] 61 (0, 0))
  row : ∃ cs, w.heap[b]? = some (.cells cs 58 (0, 0)) ∧ (∀ j x, L[j]? = some x → CT v cs j x) ∧ ∀ u ∈ cs.toList, Cv u
abbrev Rf (w : World) (B g b : Nat) (L : List T) (n m : Int) : Prop := Rf2 w w B g b L n m
section
variable {v w w' : World} {B g b : Nat} {L : List T} {n m : Int}
theorem Rf2.ltg (h : Rf2 v w B g b L n m) : g < w.heap.size := by obtain ⟨c, -, h⟩ := h.tree; exact (Array.getElem?_eq_some_iff.1 h).1
theorem Rf2.ltb (h : Rf2 v w B g b L n m) : b < w.heap.size := by obtain ⟨c, h, -⟩ := h.row; exact (Array.getElem?_eq_some_iff.1 h).1
theorem Rf2.ne (h : Rf2 v w B g b L n m) : g ≠ b := by
  rintro rfl
  obtain ⟨c, -, h1⟩ := h.tree
  obtain ⟨cs, h2, -⟩ := h.row
  rw [h1] at h2
  cases h2
theorem Rf2.clg (h : Rf2 v w B g b L n m) : Cl w g := by
  obtain ⟨c, -, h1⟩ := h.tree
  refine cl_cells h1 fun v hv => ?_
  simp at hv
  rcases hv with rfl | rfl | rfl
  · exact cv_slice _ _ _
  · exact cv_int _
  · exact cv_int _
theorem Rf2.clb (h : Rf2 v w B g b L n m) : Cl w b := by
  obtain ⟨cs, h1, -, h2⟩ := h.row
  exact cl_cells h1 h2
theorem Rf.fz {X : Nat → Prop} (h : Rf w B g b L n m) (hf : Fz w w' X) (hg : ¬ X g) (hb : ¬ X b) : Rf w' B g b L n m := by
  obtain ⟨c, hc, h1⟩ := h.tree
  obtain ⟨cs, h2, h3, h4⟩ := h.row
  exact ⟨h.base, h.pos, ⟨c, hc, (hf.block g h.ltg hg).trans h1⟩, ⟨cs, (hf.block b h.ltb hb).trans h2, fun j x hx => (h3 j x hx).fz hf, h4⟩⟩
theorem Rf2.fzw {X : Nat → Prop} (h : Rf2 v w B g b L n m) (hf : Fz w w' X) (hg : ¬ X g) (hb : ¬ X b) : Rf2 v w' B g b L n m := by
  obtain ⟨c, hc, h1⟩ := h.tree
  obtain ⟨cs, h2, h3, h4⟩ := h.row
  exact ⟨h.base, h.pos, ⟨c, hc, (hf.block g h.ltg hg).trans h1⟩, ⟨cs, (hf.block b h.ltb hb).trans h2, h3, h4⟩⟩
theorem Rf2.beloww (h : Rf2 v w B g b L n m) (hb : Below w.heap.size w w') : Rf2 v w' B g b L n m :=
  h.fzw (Fz.of_below hb (fun _ => False) (fun _ h => h.elim)) (fun h => h) (fun h => h)
/-- The rows are as they were. -/
theorem Rf2.rows {v' : World} {X : Nat → Prop} (h : Rf2 v w B g b L n m) (hf : Fz v v' X) : Rf2 v' w B g b L n m := by
  obtain ⟨cs, h2, h3, h4⟩ := h.row
  exact ⟨h.base, h.pos, h.tree, ⟨cs, h2, fun j x hx => (h3 j x hx).fz hf, h4⟩⟩
theorem Rf.below (h : Rf w B g b L n m) (hb : Below w.heap.size w w') : Rf w' B g b L n m :=
  h.fz (Fz.of_below hb (fun _ => False) (fun _ h => h.elim)) (fun h => h) (fun h => h)
/-- What a thing's cells are. -/
theorem Rf.thing (h : Rf w B g b L n m) (j : Nat) (x : T) (hx : L[j]? = some x) :
    ∃ BA bc SA sc, w.cell? ⟨b, j * 4, none⟩ = some (.bool x.is) ∧ w.cell? ⟨b, j * 4 + 1, none⟩ = some (.bool x.dir) ∧ w.cell? ⟨b, j * 4 + 2, none⟩ = some (.slice BA x.B.length bc) ∧ w.cell? ⟨b, j * 4 + 3, none⟩ = some (.slice SA x.S.length sc) ∧ RdB w BA x.B ∧ x.B.length ≤ bc ∧ RdSl w SA x.S ∧ x.S.length ≤ sc := by
  obtain ⟨cs, h1, h2, -⟩ := h.row
  obtain ⟨BA, bc, SA, sc, q1, q2, q3, q4, q5⟩ := h2 j x hx
  exact ⟨BA, bc, SA, sc, by rw [cell_of_block h1]; exact q1, by rw [cell_of_block h1]; exact q2, by rw [cell_of_block h1]; exact q3, by rw [cell_of_block h1]; exact q4, q5⟩
end
theorem at_any {W : World} {A : Option Addr} {l : List S106} {c : Nat} (x : ByteArray) (h : RdSl W A l) (hc : l.length ≤ c) (hl : l.length ≤ 1000000) :
    Calls Tryz.prog 44 #[.slice A l.length c, .string x] W fun e w' => e = .returned (.int .i64 (atI (atL l x))) ∧ ∃ k, w' = W.drewN k :=
  (mailbagref9_At.calls (2 * l.length + 2) A c l x _ W h hc (at_eq l x hl _ (Nat.le_refl _))).mono fun _ _ ⟨h1, k, h2⟩ => ⟨h1, k, h2.symm ▸ rfl⟩
theorem need_any {W : World} {A : Option Addr} {l : List S106} {c : Nat} (h : RdSl W A l) (hc : l.length ≤ c) (hl : l.length ≤ 1000000) :
    Calls Tryz.prog 46 #[.slice A l.length c] W fun e w' => e = .returned (.int .i64 (allB (slotsL l * 512) : Nat)) ∧ ∃ k, w' = W.drewN k :=
  (mailbagref11_need.calls A c l _ W h hc (need_eq l hl)).mono fun _ _ ⟨h1, k, h2⟩ => ⟨h1, k, h2.symm ▸ rfl⟩
theorem all_any {W : World} (k : Nat) (h : k ≤ 1000000000) : Calls Tryz.prog 48 #[.int .i64 (k : Int)] W fun e w' => e = .returned (.int .i64 (allB k : Nat)) ∧ ∃ k, w' = W.drewN k :=
  (mailbagref7_All.calls _ _ W (rall_eq k h)).mono fun _ _ ⟨h1, k, h2⟩ => ⟨h1, k, h2.symm ▸ rfl⟩
end Go.Proofs.YtpdcjdangnfeiaaGreatDoor.Rc
open Go.Proofs.YtpdcjdangnfeiaaGreatDoor.Rc
namespace Go.Proofs.YtpdcjdangnfeiaaGreatDoor.Rd
def thL (L : List T) (k : Nat) : T := L.getD k ⟨false, false, [], []⟩
def inoL (S : List S106) (i : Nat) : Int := (S.getD i z106).f1
/-- The thing that names lead to. -/
def walkL (L : List T) : Nat → List ByteArray → Nat × Int
  | k, [] => (k, 0)
  | k, x :: r => if (thL L k).dir = false then (0, 11) else match atL (thL L k).S x with
    | none => (0, 8)
    | some i => walkL L (inoL (thL L k).S i - 1).toNat r
/-- Things as they may be. -/
structure WfL (L : List T) (M : Nat) : Prop where
  len : L.length ≤ M
  sz : ∀ (k : Nat) (x : T), L[k]? = some x → x.S.length ≤ M ∧ x.B.length ≤ 8458240
  ino : ∀ (k : Nat) (x : T), L[k]? = some x → ∀ e : S106, e ∈ x.S → e.f0 ≠ ByteArray.empty → 1 ≤ e.f1 ∧ e.f1 ≤ L.length
theorem thL_get {L : List T} {k : Nat} (h : k < L.length) : L[k]? = some (thL L k) := by
  unfold thL
  rw [List.getD_eq_getElem?_getD, List.getElem?_eq_getElem h]; rfl
theorem walk_next {L : List T} {M : Nat} (hw : WfL L M) {k i : Nat} (hk : k < L.length) {x : ByteArray} (ha : atL (thL L k).S x = some i) :
    i < (thL L k).S.length ∧ ∃ j : Nat, inoL (thL L k).S i = (j : Int) + 1 ∧ j < L.length := by
  obtain ⟨e, he, hx, hne⟩ := atL_some ha
  have hlt := (List.getElem?_eq_some_iff.1 he).1
  refine ⟨hlt, ?_⟩
  have := hw.ino k _ (thL_get hk) e (List.mem_of_getElem? he) (by rw [hx]; exact hne)
  have h2 : inoL (thL L k).S i = e.f1 := by unfold inoL; rw [List.getD_eq_getElem?_getD, he]; rfl
  exact ⟨(e.f1 - 1).toNat, by omega, by omega⟩
set_option maxHeartbeats 2000000 in
set_option maxRecDepth 100000 in
/-- (*Tree).walk -/
theorem walk_any {w : World} {B g b M : Nat} {L : List T} {n m : Int} (A : Option Addr) (c : Nat) (l : List ByteArray) (h : Rf w B g b L n m) (hw : WfL L M) (hM : M ≤ 100000) (hl : RdN w A l) (hn : l.length ≤ 1000) :
    Calls Tryz.prog 43 #[.pointer (some ⟨g, 0, none⟩), .slice A l.length c] w fun e w' => e = .returned (.tuple #[.int .i64 (walkL L 0 l).1, .int .i64 (walkL L 0 l).2]) ∧ ∃ k, w' = w.drewN k := by
  obtain ⟨R, hR⟩ : ∃ R, walkL L 0 l = R := ⟨_, rfl⟩
  rw [hR]
  have H := Lib.hid h
  have HL := Lib.hid hl
  have HW := Lib.hid hw
  have HR := Lib.hid hR
  have HP := Lib.hid h.pos
  clear h hw hl hR
  obtain ⟨N, hN⟩ : ∃ N, L.length = N := ⟨_, rfl⟩
  have HN := Lib.hid hN
  clear hN
  go_enter Tryz.func43, Tryz.ntmps43
  go_wp2_with fail
  go_loopw [6, 7] (fun a i wr => ∃ k q d : Nat, a = .int .i64 k ∧ i = .int .i64 q ∧ q ≤ l.length ∧ Hid (k < L.length) ∧ Hid (walkL L k (l.drop q) = R) ∧ Hid (wr = w.drewN d)) (fun _ i _ => l.length - (intOf i).toNat)
  case atStart => exact ⟨0, 0, 0, rfl, rfl, by omega, HP, Lib.hid HR.out, Lib.hid rfl⟩
  case round =>
    obtain ⟨k, q, d, rfl, rfl, hq, HK, HV, HD⟩ := hrel
    have hRf := H.out.below (bdraw w d)
    rw [← HD.out] at hRf
    have hRN := HL.out.below (bdraw w d)
    rw [← HD.out] at hRN
    obtain ⟨cap, -, ht⟩ := hRf.tree
    rw [HN.out] at ht
    have g0 := blk_cell ht 0
    obtain ⟨BA, bc, SA, sc, -, c1, -, c3, -, -, hS, hSc⟩ := hRf.thing k _ (thL_get HK.out)
    have hsz := HW.out.sz k _ (thL_get HK.out)
    have i0 : (k : Int) < N := by have := HK.out; have := HN.out; omega
    have i00 : k < N := by omega
    by_cases hlt : q < l.length
    · have i1 : (q : Int) < l.length := by omega
      obtain ⟨nb, no, rfl, n1⟩ := hRN.cell q hlt
      have hstep := HV.out
      rw [List.drop_eq_getElem_cons hlt] at hstep
      generalize l[q] = x at n1 hstep
      cases hd : (thL L k).dir with
      | false =>
        rw [hd] at c1
        have hend : R = (0, 11) := by rw [← hstep]; simp [walkL, hd]
        have HE := Lib.hid hend
        clear hend ht hS hSc hsz hRf hRN hstep hd
        go_wp2
        go_ret2
        exact ⟨by rw [HE.out]; rfl, d, HD.out⟩
      | true =>
        rw [hd] at c1
        have HAT := Lib.hid (fun n => at_any x (hS.below (bdraw wr n)) hSc (by omega))
        cases ha : atL (thL L k).S x with
        | none =>
          rw [ha, show atI none = -1 from rfl] at HAT
          have hend : R = (0, 8) := by rw [← hstep]; simp [walkL, hd, ha]
          have HE := Lib.hid hend
          clear hend ht hS hSc hsz hRf hRN hstep hd ha
          go_wp2_with fail
          go_quiet (first | (go_at_call 44; refine Calls.quiet_of (HAT.out _)) | fail)
          go_wp2
          go_ret2
          exact ⟨by rw [HE.out]; rfl, d + nq, by rw [HD.out, World.drewN_drewN]⟩
        | some i =>
          obtain ⟨hi, j, hj, hj2⟩ := walk_next HW.out HK.out ha
          rw [ha] at HAT
          obtain ⟨sb, so, rfl, -, s1⟩ := hS.cell i hi
          have hj0 : (thL L k).S[i].f1 = (j : Int) + 1 := by rw [← hj]; unfold inoL; rw [List.getD_eq_getElem?_getD, List.getElem?_eq_getElem hi]; rfl
          rw [hj0] at s1
          have hv : walkL L j (l.drop (q + 1)) = R := by
            rw [← hstep]
            simp [walkL, hd, ha, hj]
          rw [show atI (some i) = (i : Int) from rfl] at HAT
          have i2 : ¬ (i : Int) < 0 := by omega
          have HV2 := Lib.hid hv
          clear hv ht hS hRf hRN hstep hd ha
          go_wp2_with fail
          go_quiet (first | (go_at_call 44; refine Calls.quiet_of (HAT.out _)) | fail)
          go_wp2
          go_light
          exact ⟨⟨j, q + 1, d + nq, by have := HW.out.len; rw [Ra.w64 (by omega) (by omega)], by go_num, hlt, Lib.hid hj2, HV2, Lib.hid (by rw [HD.out, World.drewN_drewN])⟩, by simp [intOf]; omega⟩
    · have i1 : ¬ (q : Int) < l.length := by omega
      have hend : R = (k, 0) := by rw [← HV.out, List.drop_of_length_le (by omega)]; rfl
      have HE := Lib.hid hend
      clear hend ht hS hSc hsz hRf hRN
      go_wp2
      go_ret2
      exact ⟨by rw [HE.out]; rfl, d, HD.out⟩
end Go.Proofs.YtpdcjdangnfeiaaGreatDoor.Rd
end
section
open Go
namespace Go.Proofs.YtpdcjdangnfeiaaGreatDoor.Rq
section
variable {P : Program} {ops : Array Oper} {md : Region.Mode} {C : World → Prop}
/-- The head in whatever order; what stands behind it is L. -/
def headQ (P : Program) (md : Region.Mode) (ops : Array Oper) (C : World → Prop) (n : Nat) (L : Array Bool → Act → Prop) : Nat → Array Bool → Act → Prop
  | 0, ls, a => L ls a
  | f + 1, ls, a => Region.ready md ops ls ≠ [] ∧ ∀ i, i ∈ Region.ready md ops ls → i < n ∧ qOp P ops C i (headQ P md ops C n L f (ls.setIfInBounds i true)) a
theorem any_of_headQ {n g : Nat} {L : Array Bool → Act → Prop} {Q : Exit → Act → World → Prop} (hL : ∀ ls a w, C w → L ls a → wpAny P md ops Q g ls a w) (f : Nat) :
    ∀ (ls : Array Bool) (a : Act) (w : World), C w → headQ P md ops C n L f ls a → wpAny P md ops Q (f + g) ls a w := by
  induction f with
  | zero => intro ls a w hw h; rw [Nat.zero_add]; exact hL _ _ _ hw h
  | succ f ih =>
    intro ls a w hw h
    rw [Nat.add_right_comm]
    exact ⟨fun e => absurd e h.1, fun i hi => wpOp_of_qOp hw (fun a' w' hw' h' => ih _ a' w' hw' h') (h.2 i hi).2⟩
theorem headQ_first {n i : Nat} {oi : Oper} {v : Value} {L : Array Bool → Act → Prop} (hi : ops[i]? = some oi) (hsel : ∀ (j : Nat) (o : Oper) cs b, ops[j]? = some o → o.op ≠ .select cs b)
    (hs : Region.sinkB md ops n = true) (hc : Region.chainB md ops n = true) (hn : n < ops.size) (hin : i < n) (hend : ∀ ls a, L ls a → ∀ j, j ∈ Region.ready md ops ls → n ≤ j) (f : Nat) :
    ∀ (ls : Array Bool) (a : Act), HeadInv md ops n ls → (∀ j oj, ops[j]? = some oj → j ≠ i → ls.getD j true = false → (∀ e ∈ oj.after, Region.binds md e = true → e.on ≠ i) → oi.apart ops oj = true) →
      i ∈ Region.ready md ops ls → YieldsIn P ops C oi v a → headQ P md ops C n L f (ls.setIfInBounds i true) (a.put oi.dst v) → headQ P md ops C n L (f + 1) ls a := by
  have below : ∀ (ls : Array Bool), HeadInv md ops n ls → i ∈ Region.ready md ops ls → ∀ j, j ∈ Region.ready md ops ls → j < n := fun ls inv hr j hj =>
    Nat.lt_of_not_le fun h => tail_waits hs hc hn inv _ i rfl hin (mem_ready.1 hr).1 j h hj
  induction f with
  | zero =>
    intro ls a inv _ hr hy H
    refine ⟨fun e => (by rw [e] at hr; cases hr), fun j hj => ⟨below ls inv hr j hj, ?_⟩⟩
    by_cases e : j = i
    · subst e; exact hy.qOp hi H
    · exact absurd (hend _ _ H j (ready_mono hj e)) (Nat.not_le.2 (below ls inv hr j hj))
  | succ f ih =>
    intro ls a inv hap hr hy H
    refine ⟨fun e => (by rw [e] at hr; cases hr), fun j hj => ⟨below ls inv hr j hj, ?_⟩⟩
    by_cases e : j = i
    · subst e; exact hy.qOp hi H
    obtain ⟨hju, oj, hoj, hall⟩ := mem_ready.1 hj
    have hno : ∀ x ∈ oj.after, Region.binds md x = true → x.on ≠ i := fun x hx hb e => by
      have h1 := hall x hx hb
      rw [e, getD_both (mem_ready.1 hr).1] at h1
      cases h1
    have h2 := qOp_put hoj (hap j oj hoj e hju hno) (fun cs b => hsel i oi cs b hi) (fun cs b => hsel j oj cs b hoj) hy (H.2 j (ready_mono hj e)).2
    refine qOp_mono (fun a' h3 => ih _ a' (inv.set hj (below ls inv hr j hj)) (fun k ok hk hki hun hx => hap k ok hk hki ?_ hx) (ready_mono hr (Ne.symm e)) h3.1 ?_) h2
    · by_cases e2 : j = k
      · subst e2; exact hju
      · rwa [getD_set_ne true e2] at hun
    · rw [Array.setIfInBounds_comm _ _ e]
      exact h3.2
theorem headQ_lex {n g : Nat} {R : Act → Prop} (hsel : Region.noSelect ops = true) (hs : Region.sinkB md ops n = true) (hc : Region.chainB md ops n = true) (hn : n < ops.size) (l : List Oper) :
    ∀ (k : Nat) (ls : Array Bool) (a : Act), (∀ j, j < l.length → l[j]? = ops[k + j]?) → k + l.length = n → HeadInv md ops n ls → Region.lexHead md ops g l.length k ls = true → wpQuiet P ops C R l a →
      headQ P md ops C n (fun ls' a' => Region.seqB md ops g n ls' = true ∧ R a') l.length ls a := by
  induction l with
  | nil =>
    intro k ls a _ hk _ hB h
    have : k = n := by simpa using hk
    subst this
    exact ⟨by simpa [Region.lexHead] using hB, h⟩
  | cons o l ih =>
    intro k ls a hl hk inv hB h
    have h0 : ops[k]? = some o := by simpa using (hl 0 (by simp)).symm
    simp only [List.length_cons, Region.lexHead, Bool.and_eq_true] at hB hk
    obtain ⟨⟨hr, hf⟩, hB'⟩ := hB
    have hkn : k < n := by omega
    have hr' : k ∈ Region.ready md ops ls := by simpa using hr
    have hq : qOp P ops C k (wpQuiet P ops C R l) a := by unfold qOp; simp only [h0]; exact h
    obtain ⟨v, hy, hK⟩ := yieldsIn_of_qOp h0 hq
    refine headQ_first h0 (Region.noSelect_spec hsel) hs hc hn hkn (fun ls' a' hL => seqB_ready hL.1) l.length ls a inv (Region.free_spec h0 hf) hr' hy ?_
    refine ih (k + 1) _ _ (fun j hj => ?_) (by omega) (inv.set hr' hkn) hB' hK
    have := hl (j + 1) (by simp; omega)
    simpa [Nat.add_assoc, Nat.add_comm 1 j] using this
/-- The region's operations are l; the first n are quiet; the others come one behind the other, when all of these have come. -/
theorem wp_region_quiet_tail {id : Nat} {Q : Exit → Act → World → Prop} {a : Act} {w : World} {l : List Oper} (n : Nat) (hm : P.follows .mixedOrders = true) (hB : Region.lexTailB .any l.toArray n = true)
    (h : wpQuiet P l.toArray (fun w' => ∃ n, w' = w.drewN n) (fun a' => ∀ w', (∃ n, w' = w.drewN n) → wpList P l.toArray Q (l.drop n) a' w') (l.take n) a) : (Code.region id l.toArray true).wp P Q a w := by
  simp only [Region.lexTailB, Bool.and_eq_true, decide_eq_true_eq] at hB
  obtain ⟨⟨⟨⟨hsel, hn⟩, hs⟩, hc⟩, hlex⟩ := hB
  have hn' : n < l.length := by simpa using hn
  have htl : (l.take n).length = n := by simp; omega
  have hdl : (l.drop n).length = l.toArray.size - n := by simp
  have inv : HeadInv .any l.toArray n (Array.replicate l.toArray.size false) :=
    ⟨by simp, fun j oj _ h => (by rw [getD_replicate_false] at h; cases h), fun t _ ht => getD_in (by simpa using ht) (getD_replicate_false _ _)⟩
  have H := headQ_lex (md := .any) (g := l.toArray.size - n) hsel hs hc hn (l.take n) 0 _ a (fun j hj => by
    have : j < n := by rw [htl] at hj; exact hj
    simp [this]) (by simpa using htl) inv (by rw [htl]; exact hlex) h
  refine wp_region_any hm ?_
  have H2 := any_of_headQ (Q := Q) (g := l.toArray.size - n) (fun ls a' w' hw' hL => by
    have := wpAny_of_seq (md := .any) (Q' := Q) (l.drop n) n ls a' w' (fun j => by simp [List.getElem?_drop]) (by rw [hdl]; exact hL.1) (hL.2 w' hw')
    rwa [hdl] at this) _ _ _ _ (⟨1, rfl⟩ : ∃ n, { w with drawn := w.drawn + 1 } = w.drewN n) H
  rw [htl, show n + (l.toArray.size - n) = l.toArray.size by omega] at H2
  exact H2
end
end Go.Proofs.YtpdcjdangnfeiaaGreatDoor.Rq
open Go.RowKit Go.Proofs.YtpdcjdangnfeiaaGreatDoor.Pb Go.Proofs.YtpdcjdangnfeiaaGreatDoor.PPrf Go.Proofs.YtpdcjdangnfeiaaGreatDoorW.PrintWords Go.Proofs.YtpdcjdangnfeiaaGreatDoorW.PrintLast Go.Proofs.YtpdcjdangnfeiaaGreatDoorW.PrintMore Go.Proofs.YtpdcjdangnfeiaaGreatDoor.Qa Go.Proofs.YtpdcjdangnfeiaaGreatDoor.Tb Go.Proofs.YtpdcjdangnfeiaaGreatDoor.Rb Go.Proofs.YtpdcjdangnfeiaaGreatDoor.Ba Go.Proofs.YtpdcjdangnfeiaaGreatDoor.Rc Go.Proofs.YtpdcjdangnfeiaaGreatDoor.Rd Go.Proofs.YtpdcjdangnfeiaaGreatDoor.Te
namespace Go.Proofs.YtpdcjdangnfeiaaGreatDoor.Rc
/-- The tree's blocks. -/
def Gb (g b : Nat) : Nat → Prop := fun i => i = g ∨ i = b
section
variable {v w w' w1 w2 : World} {B g b : Nat} {L : List T} {n m : Int}
theorem Rf2.cl (h : Rf2 v w B g b L n m) : ∀ i, Gb g b i → i < w.heap.size → Cl w i := by
  rintro i (rfl | rfl) _
  · exact h.clg
  · exact h.clb
theorem Rf2.fz0 (h : Rf2 v w B g b L n m) (hb : Below w.heap.size w w') : Fz w w' (Gb g b) := Fz.of_below hb _ h.cl
/-- Behind what is kept there is one store more. -/
theorem Fz.set {X : Nat → Prop} (hf : Fz w w' X) (i j : Nat) (u : Value) (hi : X i) : Fz w (w'.setCell ⟨i, j, none⟩ u) X :=
  ⟨by have := hf.size; simpa [World.setCell] using this, fun k hk hn => (Below.heap_setCell w' ⟨i, j, none⟩ u k (fun e => hn (by rw [e]; exact hi))).trans (hf.block k hk hn), hf.cl⟩
theorem Fz.row {X : Nat → Prop} (hf : Fz w w' X) (hb : Below w'.heap.size w' w1) : Fz w w1 X :=
  hf.trans (Fz.of_below hb (fun _ => False) (fun _ h => h.elim)) (fun _ h => h.elim)
theorem set_cv {cs : Array Value} {i : Nat} {u : Value} (h : ∀ v ∈ cs.toList, Cv v) (hu : Cv u) : ∀ v ∈ (cs.setIfInBounds i u).toList, Cv v := by
  intro v hv
  rw [Array.toList_setIfInBounds] at hv
  rcases List.mem_or_eq_of_mem_set hv with h1 | rfl
  · exact h v h1
  · exact hu
theorem Rf.num1 (h : Rf w B g b L n m) (k : Int) : Rf (w.setCell ⟨g, 1, none⟩ (.int .i64 k)) B g b L k m := by
  have hf := Fz.set (h.fz0 (Below.refl _ _)) g 1 (.int .i64 k) (.inl rfl)
  obtain ⟨c, hc, h1⟩ := h.tree
  obtain ⟨cs, h2, h3, h4⟩ := h.row
  refine ⟨h.base, h.pos, ⟨c, hc, ?_⟩, ⟨cs, ?_, fun j x hx => (h3 j x hx).fz hf, h4⟩⟩
  · rw [blk_set h1]; rfl
  · exact (Below.heap_setCell w ⟨g, 1, none⟩ (.int .i64 k) b (Ne.symm h.ne)).trans h2
theorem Rf.num2 (h : Rf w B g b L n m) (k : Int) : Rf (w.setCell ⟨g, 2, none⟩ (.int .i64 k)) B g b L n k := by
  have hf := Fz.set (h.fz0 (Below.refl _ _)) g 2 (.int .i64 k) (.inl rfl)
  obtain ⟨c, hc, h1⟩ := h.tree
  obtain ⟨cs, h2, h3, h4⟩ := h.row
  refine ⟨h.base, h.pos, ⟨c, hc, ?_⟩, ⟨cs, ?_, fun j x hx => (h3 j x hx).fz hf, h4⟩⟩
  · rw [blk_set h1]; rfl
  · exact (Below.heap_setCell w ⟨g, 2, none⟩ (.int .i64 k) b (Ne.symm h.ne)).trans h2
theorem get_set {cs : Array Value} {i j : Nat} {u v : Value} (hne : j ≠ i) (h : cs[i]? = some v) : (cs.setIfInBounds j u)[i]? = some v := by
  rw [Array.getElem?_setIfInBounds_ne hne]; exact h
theorem get_set_same {cs : Array Value} {i : Nat} {u v : Value} (h : cs[i]? = some v) : (cs.setIfInBounds i u)[i]? = some u := by
  have := (Array.getElem?_eq_some_iff.1 h).1
  simp [this]
/-- Other things' cells stay. -/
theorem CT.other {cs : Array Value} {j k i : Nat} {x : T} {u : Value} (h : CT w cs j x) (hne : j ≠ k) (hi : i < 4) : CT w (cs.setIfInBounds (k * 4 + i) u) j x := by
  obtain ⟨BA, bc, SA, sc, h1, h2, h3, h4, h5⟩ := h
  exact ⟨BA, bc, SA, sc, get_set (by omega) h1, get_set (by omega) h2, get_set (by omega) h3, get_set (by omega) h4, h5⟩
theorem get_of_set {L : List T} {k j : Nat} {x y : T} (h : (L.set k y)[j]? = some x) : (j = k ∧ x = y ∧ k < L.length) ∨ (j ≠ k ∧ L[j]? = some x) := by
  by_cases e : j = k
  · subst e
    have hlt : j < (L.set j y).length := (List.getElem?_eq_some_iff.1 h).1
    rw [List.length_set] at hlt
    rw [List.getElem?_set_self hlt] at h
    cases h
    exact .inl ⟨rfl, rfl, hlt⟩
  · rw [List.getElem?_set_ne (Ne.symm e)] at h
    exact .inr ⟨e, h⟩
/-- A thing's slots. -/
theorem Rf.slots (h : Rf w B g b L n m) (k : Nat) (hk : k < L.length) (SA : Option Addr) (sc : Nat) (S : List S106) (hS : RdSl w SA S) (hsc : S.length ≤ sc) :
    Rf (w.setCell ⟨b, k * 4 + 3, none⟩ (.slice SA S.length sc)) B g b (L.set k { thL L k with S := S }) n m := by
  have hf := Fz.set (h.fz0 (Below.refl _ _)) b (k * 4 + 3) (.slice SA S.length sc) (.inr rfl)
  obtain ⟨c, hc, h1⟩ := h.tree
  obtain ⟨cs, h2, h3, h4⟩ := h.row
  refine ⟨h.base, by rw [List.length_set]; exact h.pos, ⟨c, by rw [List.length_set]; exact hc, ?_⟩, ⟨_, blk_set h2 _ _, fun j x hx => ?_, set_cv h4 (cv_slice _ _ _)⟩⟩
  · rw [List.length_set]; exact (Below.heap_setCell w ⟨b, k * 4 + 3, none⟩ _ g h.ne).trans h1
  · refine CT.fz ?_ hf
    rcases get_of_set hx with ⟨rfl, rfl, -⟩ | ⟨hne, hx⟩
    · obtain ⟨BA, bc, SA', sc', q1, q2, q3, q4, q5, q6, -, -⟩ := h3 j _ (thL_get hk)
      exact ⟨BA, bc, SA, sc, get_set (by omega) q1, get_set (by omega) q2, get_set (by omega) q3, get_set_same q4, q5, q6, hS, hsc⟩
    · exact (h3 j x hx).other hne (by omega)
/-- A thing's bytes. -/
theorem Rf.bytes (h : Rf w B g b L n m) (k : Nat) (hk : k < L.length) (A : Option Addr) (c0 : Nat) (l : List UInt8) (hS : RdB w A l) (hsc : l.length ≤ c0) :
    Rf (w.setCell ⟨b, k * 4 + 2, none⟩ (.slice A l.length c0)) B g b (L.set k { thL L k with B := l }) n m := by
  have hf := Fz.set (h.fz0 (Below.refl _ _)) b (k * 4 + 2) (.slice A l.length c0) (.inr rfl)
  obtain ⟨c, hc, h1⟩ := h.tree
  obtain ⟨cs, h2, h3, h4⟩ := h.row
  refine ⟨h.base, by rw [List.length_set]; exact h.pos, ⟨c, by rw [List.length_set]; exact hc, ?_⟩, ⟨_, blk_set h2 _ _, fun j x hx => ?_, set_cv h4 (cv_slice _ _ _)⟩⟩
  · rw [List.length_set]; exact (Below.heap_setCell w ⟨b, k * 4 + 2, none⟩ _ g h.ne).trans h1
  · refine CT.fz ?_ hf
    rcases get_of_set hx with ⟨rfl, rfl, -⟩ | ⟨hne, hx⟩
    · obtain ⟨BA, bc, SA', sc', q1, q2, q3, q4, -, -, q7, q8⟩ := h3 j _ (thL_get hk)
      exact ⟨A, c0, SA', sc', get_set (by omega) q1, get_set (by omega) q2, get_set_same q3, get_set (by omega) q4, hS, hsc, q7, q8⟩
    · exact (h3 j x hx).other hne (by omega)
/-- The four cells of a thing stored. -/
def set4 (w : World) (b o : Nat) (v0 v1 v2 v3 : Value) : World := (((w.setCell ⟨b, o, none⟩ v0).setCell ⟨b, o + 1, none⟩ v1).setCell ⟨b, o + 2, none⟩ v2).setCell ⟨b, o + 3, none⟩ v3
theorem Fz.set4 {X : Nat → Prop} (hf : Fz w w' X) (i o : Nat) (v0 v1 v2 v3 : Value) (hi : X i) : Fz w (set4 w' i o v0 v1 v2 v3) X := Fz.set (Fz.set (Fz.set (Fz.set hf i _ _ hi) i _ _ hi) i _ _ hi) i _ _ hi
theorem Below.set4 (hb : Below B w w') {i : Nat} (hi : B ≤ i) (o : Nat) (v0 v1 v2 v3 : Value) : Below B w (set4 w' i o v0 v1 v2 v3) := (((hb.setCell hi v0).setCell hi v1).setCell hi v2).setCell hi v3
theorem Rf.whole (h : Rf w B g b L n m) (k : Nat) (hk : k < L.length) (A SA : Option Addr) (c0 sc : Nat) (x : T) (hB : RdB w A x.B) (hbc : x.B.length ≤ c0) (hS : RdSl w SA x.S) (hsc : x.S.length ≤ sc) :
    Rf (set4 w b (k * 4) (.bool x.is) (.bool x.dir) (.slice A x.B.length c0) (.slice SA x.S.length sc)) B g b (L.set k x) n m := by
  have hf := Fz.set4 (h.fz0 (Below.refl _ _)) b (k * 4) (.bool x.is) (.bool x.dir) (.slice A x.B.length c0) (.slice SA x.S.length sc) (.inr rfl)
  obtain ⟨c, hc, h1⟩ := h.tree
  obtain ⟨cs, h2, h3, h4⟩ := h.row
  refine ⟨h.base, by rw [List.length_set]; exact h.pos, ⟨c, by rw [List.length_set]; exact hc, ?_⟩, ⟨_, blk_set (blk_set (blk_set (blk_set h2 _ _) _ _) _ _) _ _, fun j y hy => ?_, set_cv (set_cv (set_cv (set_cv h4 (cv_bool _)) (cv_bool _)) (cv_slice _ _ _)) (cv_slice _ _ _)⟩⟩
  · rw [List.length_set]
    unfold Rc.set4
    rw [Below.heap_setCell _ _ _ _ h.ne, Below.heap_setCell _ _ _ _ h.ne, Below.heap_setCell _ _ _ _ h.ne, Below.heap_setCell _ _ _ _ h.ne]
    exact h1
  · refine CT.fz ?_ hf
    rcases get_of_set hy with ⟨rfl, rfl, -⟩ | ⟨hne, hy⟩
    · obtain ⟨BA, bc, SA', sc', q1, q2, q3, q4, -⟩ := h3 j _ (thL_get hk)
      refine ⟨A, c0, SA, sc, ?_, ?_, ?_, ?_, hB, hbc, hS, hsc⟩
      · exact get_set (by omega) (get_set (by omega) (get_set (by omega) (get_set_same q1)))
      · exact get_set (by omega) (get_set (by omega) (get_set_same (get_set (by omega) q2)))
      · exact get_set (by omega) (get_set_same (get_set (by omega) (get_set (by omega) q3)))
      · exact get_set_same (get_set (by omega) (get_set (by omega) (get_set (by omega) q4)))
    · have q := (((CT.other (i := 0) (u := Value.bool x.is) (h3 j y hy) hne (by omega)).other (i := 1) (u := Value.bool x.dir) hne (by omega)).other (i := 2) (u := Value.slice A x.B.length c0) hne (by omega)).other (i := 3) (u := Value.slice SA x.S.length sc) hne (by omega)
      exact q
/-- What a call leaves of the tree. -/
def Rp (w w' : World) (B g b : Nat) (L : List T) (n m : Int) : Prop := ∃ b', Rf w' B g b' L n m ∧ (b' = b ∨ w.heap.size ≤ b') ∧ Fz w w' (Gb g b) ∧ Below B w w'
theorem Rp.trans {L1 : List T} {n1 m1 : Int} (h : ∃ b', Rf w1 B g b' L1 n1 m1 ∧ (b' = b ∨ w.heap.size ≤ b') ∧ Fz w w1 (Gb g b) ∧ Below B w w1 ∧ Rp w1 w2 B g b' L n m) : Rp w w2 B g b L n m := by
  obtain ⟨b1, h1, h2, h3, h4, b2, k1, k2, k3, k4⟩ := h
  refine ⟨b2, k1, ?_, h3.trans k3 ?_, h4.trans k4⟩
  · have := h3.size
    rcases k2 with rfl | k2
    · exact h2
    · exact .inr (by omega)
  · rintro i (rfl | rfl)
    · exact .inl (.inl rfl)
    · rcases h2 with rfl | h2
      · exact .inl (.inr rfl)
      · exact .inr h2
end
end Go.Proofs.YtpdcjdangnfeiaaGreatDoor.Rc
open Go.Proofs.YtpdcjdangnfeiaaGreatDoor.Rq
namespace Go.Proofs.YtpdcjdangnfeiaaGreatDoor.Rc
/-- The blocks of a thing. -/
def blocksT (x : T) : Nat := if x.dir then allB (slotsL x.S * 512) else allB x.B.length
def noT : T := ⟨false, false, [], []⟩
theorem free_end {w w1 : World} {B g b : Nat} {L : List T} {n m : Int} (h : Rf w B g b L n m) (hb : Below w.heap.size w w1) (k : Nat) (hk : k < L.length) (n' : Int) :
    Rp w (set4 ((w1.setCell ⟨g, 1, none⟩ (.int .i64 n')).setCell ⟨g, 2, none⟩ (.int .i64 (m + 1))) b (k * 4) (.bool false) (.bool false) (.slice none 0 0) (.slice none 0 0)) B g b (L.set k noT) n' (m + 1) := by
  have h1 := ((h.below hb).num1 n').num2 (m + 1)
  refine ⟨b, h1.whole k hk none none 0 0 noT (RdB.nil _ _) (Nat.le_refl _) (RdSl.nil _ _) (Nat.le_refl _), .inl rfl, ?_, ?_⟩
  · exact Fz.set4 (Fz.set (Fz.set (h.fz0 hb) g _ _ (.inl rfl)) g _ _ (.inl rfl)) b _ _ _ _ _ (.inr rfl)
  · have hB : B ≤ w.heap.size := by have := h.base; have := h.ltg; omega
    exact Below.set4 (((hb.mono hB).setCell h.base.1 _).setCell h.base.1 _) h.base.2 _ _ _ _ _
set_option maxHeartbeats 4000000 in
set_option maxRecDepth 100000 in
/-- (*Tree).free -/
theorem free_any {w : World} {B g b M : Nat} {L : List T} {n m : Int} (k : Nat) (h : Rf w B g b L n m) (hw : WfL L M) (hM : M ≤ 100000) (hk : k < L.length) (hn : -1000000000 ≤ n ∧ n ≤ 1000000000) (hm : -1000000000 ≤ m ∧ m ≤ 1000000000) :
    Calls Tryz.prog 51 #[.pointer (some ⟨g, 0, none⟩), .int .i64 k] w fun e w' => e = .returned (.tuple #[]) ∧ Rp w w' B g b (L.set k noT) (n + blocksT (thL L k)) (m + 1) := by
  have hsz := hw.sz k _ (thL_get hk)
  have HW := Lib.hid hw
  have H := Lib.hid h
  have HK := Lib.hid hk
  obtain ⟨N, hN⟩ : ∃ N, L.length = N := ⟨_, rfl⟩
  have HN := Lib.hid hN
  have i0 : (k : Int) < N := by omega
  have i00 : k < N := by omega
  obtain ⟨cap, -, ht⟩ := h.tree
  rw [hN] at ht
  have g0 := blk_cell ht 0
  have g1 := blk_cell ht 1
  have g2 := blk_cell ht 2
  obtain ⟨BA, bc, SA, sc, c0, c1, c2, c3, hB, hBc, hS, hSc⟩ := h.thing k _ (thL_get hk)
  have HT := Lib.hid ht
  clear h hw hN ht
  cases hd : (thL L k).dir with
  | true =>
    rw [hd] at c1
    have HBK : Hid (blocksT (thL L k) = allB (slotsL (thL L k).S * 512)) := Lib.hid (by unfold blocksT; rw [hd]; rfl)
    have hal := Qb.allB_le (slotsL (thL L k).S * 512)
    clear hk
    go_enter Tryz.func51, Tryz.ntmps51
    go_wp2_with fail
    obtain ⟨w1, hw1⟩ : ∃ w1, w.alloc (Obj.cells #[.bool (thL L k).is, .bool true, .slice BA (thL L k).B.length bc, .slice SA (thL L k).S.length sc] 58) = w1 := ⟨_, rfl⟩
    rw [hw1]
    have hb1 : Below w.heap.size w w1 := hw1 ▸ (Below.refl _ _).alloc (Nat.le_refl _) _
    have hx : w1.heap[w.heap.size]? = some (Obj.cells #[.bool (thL L k).is, .bool true, .slice BA (thL L k).B.length bc, .slice SA (thL L k).S.length sc] 58) := hw1 ▸ Go.heap_alloc_new w _
    have H1 := Lib.hid (H.out.below hb1)
    have x2 : w1.cell? ⟨w.heap.size, 2, none⟩ = some (.slice BA (thL L k).B.length bc) := blk_cell hx 2
    have x3 : w1.cell? ⟨w.heap.size, 3, none⟩ = some (.slice SA (thL L k).S.length sc) := blk_cell hx 3
    have y0 := keepC hb1 g0
    have y1 := keepC hb1 g1
    have y2 := keepC hb1 g2
    have z0 := keepC hb1 c0
    have z1 := keepC hb1 c1
    have z2 := keepC hb1 c2
    have z3 := keepC hb1 c3
    obtain ⟨cs, hcs, -⟩ := H1.out.row
    have q0 := blk_frozen hcs (k * 4)
    have q1 := blk_frozen hcs (k * 4 + 1)
    have q2 := blk_frozen hcs (k * 4 + 2)
    have q3 := blk_frozen hcs (k * 4 + 3)
    have hne : g ≠ b := H1.out.ne
    have hne' : b ≠ g := Ne.symm hne
    have ht1 := (hb1.block g (Array.getElem?_eq_some_iff.1 HT.out).1).trans HT.out
    have f1 := blk_frozen ht1 1
    have f2 := blk_frozen ht1 2
    have HNE := Lib.hid (fun n => need_any ((hS.below hb1).below (bdraw w1 n)) hSc (by omega))
    have HB1 := Lib.hid hb1
    have HD := Lib.hid hd
    clear hw1 hx hb1 ht1 hcs g0 g1 g2 c0 c1 c2 c3 hS hd
    generalize (slotsL (thL L k).S * 512) = q at HNE HBK hal
    refine wp_region_quiet_tail 11 (by kernel_rfl) (by kernel_rfl) ?_
    simp only [List.take_succ_cons, List.take_zero, List.drop_succ_cons, List.drop_zero]
    repeat (quiet_step (first | (go_at_call 46; refine Calls.quiet_of (HNE.out _)) | fail))
    refine wpQuiet_nil ?_
    intro _ hw'
    obtain ⟨nq, hw''⟩ := hw'
    subst hw''
    have wq : IntKind.i64.wrap (n + (allB q : Int)) = n + (allB q : Int) := by rw [IntKind.wrap_i64]; omega
    go_wp2
    go_end0
    refine ⟨rfl, ?_⟩
    rw [HBK.out]
    exact free_end H.out (HB1.out.trans ((bdraw w1 nq).mono HB1.out.size)) k HK.out _
  | false =>
    rw [hd] at c1
    have HBK : Hid (blocksT (thL L k) = allB (thL L k).B.length) := Lib.hid (by unfold blocksT; rw [hd]; rfl)
    have hal := Qb.allB_le (thL L k).B.length
    clear hk
    go_enter Tryz.func51, Tryz.ntmps51
    go_wp2_with fail
    obtain ⟨w1, hw1⟩ : ∃ w1, w.alloc (Obj.cells #[.bool (thL L k).is, .bool false, .slice BA (thL L k).B.length bc, .slice SA (thL L k).S.length sc] 58) = w1 := ⟨_, rfl⟩
    rw [hw1]
    have hb1 : Below w.heap.size w w1 := hw1 ▸ (Below.refl _ _).alloc (Nat.le_refl _) _
    have hx : w1.heap[w.heap.size]? = some (Obj.cells #[.bool (thL L k).is, .bool false, .slice BA (thL L k).B.length bc, .slice SA (thL L k).S.length sc] 58) := hw1 ▸ Go.heap_alloc_new w _
    have H1 := Lib.hid (H.out.below hb1)
    have x2 : w1.cell? ⟨w.heap.size, 2, none⟩ = some (.slice BA (thL L k).B.length bc) := blk_cell hx 2
    have x3 : w1.cell? ⟨w.heap.size, 3, none⟩ = some (.slice SA (thL L k).S.length sc) := blk_cell hx 3
    have y0 := keepC hb1 g0
    have y1 := keepC hb1 g1
    have y2 := keepC hb1 g2
    have z0 := keepC hb1 c0
    have z1 := keepC hb1 c1
    have z2 := keepC hb1 c2
    have z3 := keepC hb1 c3
    obtain ⟨cs, hcs, -⟩ := H1.out.row
    have q0 := blk_frozen hcs (k * 4)
    have q1 := blk_frozen hcs (k * 4 + 1)
    have q2 := blk_frozen hcs (k * 4 + 2)
    have q3 := blk_frozen hcs (k * 4 + 3)
    have hne : g ≠ b := H1.out.ne
    have hne' : b ≠ g := Ne.symm hne
    have ht1 := (hb1.block g (Array.getElem?_eq_some_iff.1 HT.out).1).trans HT.out
    have f1 := blk_frozen ht1 1
    have f2 := blk_frozen ht1 2
    have HNE := Lib.hid (fun n => Rc.all_any (W := w1.drewN n) (thL L k).B.length (by omega))
    have HB1 := Lib.hid hb1
    have HD := Lib.hid hd
    clear hw1 hx hb1 ht1 hcs g0 g1 g2 c0 c1 c2 c3 hS hd
    generalize (thL L k).B.length = q at HNE HBK hal x2
    refine wp_region_quiet_tail 12 (by kernel_rfl) (by kernel_rfl) ?_
    simp only [List.take_succ_cons, List.take_zero, List.drop_succ_cons, List.drop_zero]
    repeat (quiet_step (first | (go_at_call 48; refine Calls.quiet_of (HNE.out _)) | fail))
    refine wpQuiet_nil ?_
    intro _ hw'
    obtain ⟨nq, hw''⟩ := hw'
    subst hw''
    have wq : IntKind.i64.wrap (n + (allB q : Int)) = n + (allB q : Int) := by rw [IntKind.wrap_i64]; omega
    go_wp2
    go_end0
    refine ⟨rfl, ?_⟩
    rw [HBK.out]
    exact free_end H.out (HB1.out.trans ((bdraw w1 nq).mono HB1.out.size)) k HK.out _
end Go.Proofs.YtpdcjdangnfeiaaGreatDoor.Rc
end
section
open Go Go.RowKit Go.Proofs.YtpdcjdangnfeiaaGreatDoor.Pb Go.Proofs.YtpdcjdangnfeiaaGreatDoor.PPrf Go.Proofs.YtpdcjdangnfeiaaGreatDoorW.PrintWords Go.Proofs.YtpdcjdangnfeiaaGreatDoorW.PrintLast Go.Proofs.YtpdcjdangnfeiaaGreatDoorW.PrintMore Go.Proofs.YtpdcjdangnfeiaaGreatDoor.Qa Go.Proofs.YtpdcjdangnfeiaaGreatDoor.Tb Go.Proofs.YtpdcjdangnfeiaaGreatDoor.Rb Go.Proofs.YtpdcjdangnfeiaaGreatDoor.Ba Go.Proofs.YtpdcjdangnfeiaaGreatDoor.Rd Go.Proofs.YtpdcjdangnfeiaaGreatDoor.Te Go.Proofs.YtpdcjdangnfeiaaGreatDoor.Rq
namespace Go.Proofs.YtpdcjdangnfeiaaGreatDoor.Rc
/-- Cells that lie one behind the other. -/
def RdC (w : World) (A : Option Addr) (m size : Nat) (cs : List Value) : Prop := cs.length = m * size ∧ (∀ u ∈ cs, u.oneCell' = true) ∧ (0 < m → ∃ ad, A = some ad ∧ ∀ j u, cs[j]? = some u → w.cell? (ad.add j) = some u)
theorem RdC.below {w w' : World} {A : Option Addr} {m size : Nat} {cs : List Value} (h : RdC w A m size cs) (hb : Below w.heap.size w w') : RdC w' A m size cs :=
  ⟨h.1, h.2.1, fun h0 => by obtain ⟨ad, e, hc⟩ := h.2.2 h0; exact ⟨ad, e, fun j u hu => pw_cell_below hb (hc j u hu)⟩⟩
section
variable {P : Program} {ops : Array Oper} {rest : List Oper} {o : Oper} {a : Act} {W : World} {Q : Exit → Act → World → Prop} {K : Act → World → Prop} {E : Prop}
theorem run_own (base : Nat) (t ty e : TypeId) (z : Value) (size bytes : Nat) (ht : P.underlying t = some (.slice e)) (hinfo : (P.info? e).map (fun i => (i.zero, i.size, i.bytes)) = some (some z, size, bytes)) (hz : z.cells.size = size) (hs0 : 0 < size) (hb0 : 0 < bytes)
    (v : Value) (n : Nat) (xs : List Value) (A : Option Addr) (m c : Nat) (news : List Value) (HO : W.ownsRow base e size v n xs) (HR : RdC W A m size news) (hbase : base ≤ W.heap.size) (hl : (n + m) * bytes ≤ 140737488355328) :
    ∃ v1 w1, (Builtin.append_ #[t, t] ty #[v, .slice A m c]).run P W = .ok v1 w1 ∧ w1.ownsRow base e size v1 (n + m) (xs ++ news) ∧ W.grownBy w1 v.ownBlock ∧ (v1.ownBlock = v.ownBlock ∨ v1.ownBlock = some W.heap.size) := by
  obtain ⟨i0, hi, hzz⟩ := Option.map_eq_some_iff.1 hinfo
  simp only [Prod.mk.injEq] at hzz
  obtain ⟨hz0, hz1, hz2⟩ := hzz
  have hlen : n + m ≤ 140737488355328 := Nat.le_trans (Nat.le_mul_of_pos_right _ hb0) hl
  rcases A with _ | ad
  · have h0 : m = 0 := by
      rcases Nat.eq_zero_or_pos m with h0 | h0
      · exact h0
      · obtain ⟨ad, h, _⟩ := HR.2.2 h0
        cases h
    subst h0
    have hn : news = [] := List.eq_nil_of_length_eq_zero (by rw [HR.1]; omega)
    subst hn
    refine ⟨v, W, ?_, by simpa using HO, World.grownBy.refl W _, .inl rfl⟩
    rcases HO.2 with ⟨rfl, hn⟩ | ⟨g, cap, cur, rfl, _, _, hnc, _⟩
    · simp [Builtin.append_, run_underlying ht, sizeOf, typeInfo, hi, Builtin.lenOf, Builtin.firstCells]
    · simp [Builtin.append_, run_underlying ht, sizeOf, typeInfo, hi, Builtin.lenOf, Builtin.firstCells, hnc, storeCells]
  · obtain ⟨v1, w1, hr, h2, h3, _, h5⟩ := run_append_own_at (P := P) W base t ty e i0 z size bytes ht hi hz0 hz1 hz2 hz hs0 v n xs HO ad m c news HR.1 (fun j u hu => by
        have h0 : 0 < m := by
          rcases Nat.eq_zero_or_pos m with h0 | h0
          · have := HR.1
            rw [h0, Nat.zero_mul] at this
            rw [List.eq_nil_of_length_eq_zero this] at hu
            cases hu
          · exact h0
        obtain ⟨ad', e', hc⟩ := HR.2.2 h0
        cases e'
        exact hc j u hu) HR.2.1 (by simp only [maxLen]; omega) hl hbase
    exact ⟨v1, w1, hr, h2, h3, h5⟩
theorem step_own (hgd : o.guard = none) (s x : Operand) (t : TypeId) (ho : o.op = .call { callee := .builtin .append, args := #[s, x], argTypes := #[t, t] }) (base : Nat) (e : TypeId) (z : Value) (size bytes : Nat) (ht : P.underlying t = some (.slice e))
    (hinfo : (P.info? e).map (fun i => (i.zero, i.size, i.bytes)) = some (some z, size, bytes)) (hz : z.cells.size = size) (hs0 : 0 < size) (hb0 : 0 < bytes) (v : Value) (n : Nat) (xs : List Value) (A : Option Addr) (m c : Nat) (news : List Value)
    (hs : a.eval s = v) (hx : a.eval x = .slice A m c) (HO : W.ownsRow base e size v n xs) (HR : RdC W A m size news) (hbase : base ≤ W.heap.size) (hl : (n + m) * bytes ≤ 140737488355328)
    (h : ∀ v1 w1, w1.ownsRow base e size v1 (n + m) (xs ++ news) → W.grownBy w1 v.ownBlock → (v1.ownBlock = v.ownBlock ∨ v1.ownBlock = some W.heap.size) → K (a.put o.dst v1) w1) :
    if Region.wanted o (yielded ops a.tmps) = true then Oper.wp P o a W K Q else E := by
  have hw : Region.wanted o (yielded ops a.tmps) = true := by simp [Region.wanted, hgd]
  rw [if_pos hw]
  obtain ⟨v1, w1, hr, h2, h3, h5⟩ := run_own (P := P) base t o.type e z size bytes ht hinfo hz hs0 hb0 v n xs A m c news HO HR hbase hl
  unfold Oper.wp execOp
  simp only [ho, resolve, invoke, builtin, Sem.run_bind, Sem.run_pure, Result.andThen_ok, List.map_toArray, List.map_cons, List.map_nil, hs, hx, hr]
  exact h v1 w1 h2 h3 h5
theorem wpList_own (hgd : o.guard = none) (s x : Operand) (t : TypeId) (ho : o.op = .call { callee := .builtin .append, args := #[s, x], argTypes := #[t, t] }) (base : Nat) (e : TypeId) (z : Value) (size bytes : Nat) (ht : P.underlying t = some (.slice e))
    (hinfo : (P.info? e).map (fun i => (i.zero, i.size, i.bytes)) = some (some z, size, bytes)) (hz : z.cells.size = size) (hs0 : 0 < size) (hb0 : 0 < bytes) (v : Value) (n : Nat) (xs : List Value) (A : Option Addr) (m c : Nat) (news : List Value)
    (hs : a.eval s = v) (hx : a.eval x = .slice A m c) (HO : W.ownsRow base e size v n xs) (HR : RdC W A m size news) (hbase : base ≤ W.heap.size) (hl : (n + m) * bytes ≤ 140737488355328)
    (h : ∀ v1 w1, w1.ownsRow base e size v1 (n + m) (xs ++ news) → W.grownBy w1 v.ownBlock → (v1.ownBlock = v.ownBlock ∨ v1.ownBlock = some W.heap.size) → wpList P ops Q rest (a.put o.dst v1) w1) :
    wpList P ops Q (o :: rest) a W := by
  obtain ⟨v1, w1, hr, h2, h3, h5⟩ := run_own (P := P) base t o.type e z size bytes ht hinfo hz hs0 hb0 v n xs A m c news HO HR hbase hl
  refine wpList_plain hgd fun K hK => ?_
  unfold Oper.wp execOp
  simp only [ho, resolve, invoke, builtin, Sem.run_bind, Sem.run_pure, Result.andThen_ok, List.map_toArray, List.map_cons, List.map_nil, hs, hx, hr]
  exact hK _ _ (h v1 w1 h2 h3 h5)
end
theorem RdC.bytes {w : World} {A : Option Addr} {l : List UInt8} (h : RdB w A l) : RdC w A l.length 1 (encs bv l) := by
  refine ⟨by simp [encs], fun u hu => by obtain ⟨x, -, rfl⟩ := List.mem_map.1 hu; rfl, fun h0 => ?_⟩
  obtain ⟨ad, e, hc⟩ := h.2.2 h0
  refine ⟨ad, e, fun j u hu => ?_⟩
  have hj : j < l.length := by
    have := (List.getElem?_eq_some_iff.1 hu).1
    simpa [encs] using this
  rw [encs_get (d := 0) l j hj] at hu
  rw [← hu]
  exact hc j hj
/-- A row of bytes' cells. -/
theorem OwnB.of_cells {w : World} {base : Nat} {v : Value} {n : Nat} {l m : List UInt8} (h : w.ownsRow base 5 1 v n (encs bv l ++ encs bv m)) (hn : n = (l ++ m).length) : OwnB w base v (l ++ m) := by
  subst hn
  have e : encs bv l ++ encs bv m = encs bv (l ++ m) := (encs_append l m).symm
  unfold OwnB
  rw [← e]
  exact h
/-- The cells of slots. -/
def cellsS (l : List S106) : List Value := l.flatMap fun e => [.string e.f0, .int .i64 e.f1]
theorem cellsS_len (l : List S106) : (cellsS l).length = l.length * 2 := by
  induction l with
  | nil => rfl
  | cons e l ih =>
    unfold cellsS at ih ⊢
    rw [List.flatMap_cons, List.length_append, ih, List.length_cons]
    simp only [List.length_cons, List.length_nil]
    omega
theorem cellsS_get (l : List S106) : ∀ (j : Nat) (u : Value), (cellsS l)[j]? = some u → ∃ e, l[j / 2]? = some e ∧ ((j % 2 = 0 ∧ u = .string e.f0) ∨ (j % 2 = 1 ∧ u = .int .i64 e.f1)) := by
  induction l with
  | nil => intro j u h; simp [cellsS] at h
  | cons e l ih =>
    intro j u h
    have hc : cellsS (e :: l) = .string e.f0 :: .int .i64 e.f1 :: cellsS l := rfl
    rw [hc] at h
    match j, h with
    | 0, h => exact ⟨e, rfl, .inl ⟨rfl, by simpa using h.symm⟩⟩
    | 1, h => exact ⟨e, rfl, .inr ⟨rfl, by simpa using h.symm⟩⟩
    | j + 2, h =>
      obtain ⟨x, h1, h2⟩ := ih j u (by simpa using h)
      refine ⟨x, ?_, ?_⟩
      · rw [show (j + 2) / 2 = j / 2 + 1 by omega, List.getElem?_cons_succ]; exact h1
      · rw [show (j + 2) % 2 = j % 2 by omega]; exact h2
theorem cellsS_at (l : List S106) (j : Nat) (e : S106) (h : l[j]? = some e) : (cellsS l)[j * 2]? = some (.string e.f0) ∧ (cellsS l)[j * 2 + 1]? = some (.int .i64 e.f1) := by
  induction l generalizing j with
  | nil => cases h
  | cons x l ih =>
    have hc : cellsS (x :: l) = .string x.f0 :: .int .i64 x.f1 :: cellsS l := rfl
    rw [hc]
    match j, h with
    | 0, h => cases h; exact ⟨rfl, rfl⟩
    | j + 1, h =>
      obtain ⟨h1, h2⟩ := ih j (by simpa using h)
      rw [show (j + 1) * 2 = j * 2 + 1 + 1 by omega]
      exact ⟨by simpa using h1, by simpa using h2⟩
theorem RdC.slots {w : World} {A : Option Addr} {l : List S106} (h : RdSl w A l) : RdC w A l.length 2 (cellsS l) := by
  refine ⟨cellsS_len l, fun u hu => ?_, fun h0 => ?_⟩
  · obtain ⟨j, hj⟩ := List.getElem?_of_mem hu
    obtain ⟨e, -, ⟨-, rfl⟩ | ⟨-, rfl⟩⟩ := cellsS_get l j u hj <;> rfl
  · obtain ⟨b, o, rfl, -⟩ := h.cell 0 h0
    refine ⟨_, rfl, fun j u hu => ?_⟩
    obtain ⟨e, he, hc⟩ := cellsS_get l j u hu
    obtain ⟨hlt, rfl⟩ := List.getElem?_eq_some_iff.1 he
    obtain ⟨b', o', e', c1, c2⟩ := h.cell (j / 2) hlt
    cases e'
    rw [Addr.add_lit]
    rcases hc with ⟨hp, rfl⟩ | ⟨hp, rfl⟩
    · rw [show o + j = o + j / 2 * 2 by omega]; exact c1
    · rw [show o + j = o + j / 2 * 2 + 1 by omega]; exact c2
/-- A row of slots of the call's own. -/
def OwnSl (w : World) (base : Nat) (v : Value) (l : List S106) : Prop := w.ownsRow base 106 2 v l.length (cellsS l)
theorem OwnSl.reads {w : World} {base : Nat} {v : Value} {l : List S106} (h : OwnSl w base v l) : ∃ A c, v = .slice A l.length c ∧ RdSl w A l ∧ l.length ≤ c := by
  obtain ⟨hl, h⟩ := h
  rcases h with ⟨rfl, h0⟩ | ⟨g, cap, cur, rfl, hg, hh, hn, hm, hs, ht⟩
  · obtain rfl := List.length_eq_zero_iff.1 h0
    exact ⟨none, 0, rfl, RdSl.nil _ _, by simp⟩
  · refine ⟨_, cap, rfl, RdSl.mk (by unfold maxLen at hm; omega) fun j hj => ?_, hn⟩
    have key : ∀ i u, (cellsS l)[i]? = some u → w.cell? ⟨g, 0 + i, none⟩ = some u := fun i u hu => by
      have hi : i < l.length * 2 := by
        have := (List.getElem?_eq_some_iff.1 hu).1
        rwa [cellsS_len] at this
      rw [Nat.zero_add, cell_of_block hh, ← Array.getElem?_toList]
      rw [← ht, List.getElem?_take_of_lt hi] at hu
      exact hu
    obtain ⟨h1, h2⟩ := cellsS_at l j _ (List.getElem?_eq_getElem hj)
    exact ⟨key _ _ h1, by rw [Nat.add_assoc]; exact key _ _ h2⟩
section
variable {X W W' : World} {Y : Nat → Prop} {T : World → Prop}
theorem kzF (hz : Fz X W Y) (h : ∀ W, Fz X W Y → T W) : Fz X W Y ∧ T W := ⟨hz, h _ hz⟩
theorem kz1 (s : Fz X W Y ∧ T W) (h : ∀ W, Fz X W Y → T W) : Fz X W.drew Y ∧ T W.drew := kzF (Fz.row s.1 (Below.refl _ _).drew) h
theorem kzA (o : Obj) (s : Fz X W Y ∧ T W) (h : ∀ W, Fz X W Y → T W) : Fz X (W.alloc o) Y ∧ T (W.alloc o) := kzF (Fz.row s.1 ((Below.refl _ _).alloc (Nat.le_refl _) _)) h
theorem kzS {b j : Nat} (v : Value) (hb : Y b) (s : Fz X W Y ∧ T W) (h : ∀ W, Fz X W Y → T W) : Fz X (W.setCell ⟨b, j, none⟩ v) Y ∧ T (W.setCell ⟨b, j, none⟩ v) := kzF (Fz.set s.1 b j v hb) h
end
/-- Behind an append to a row of the call's own. -/
theorem below_own {w W W' : World} {e : TypeId} {size n : Nat} {v : Value} {xs : List Value} (hb : Below w.heap.size w W) (HO : W.ownsRow w.heap.size e size v n xs) (hg : W.grownBy W' v.ownBlock) : Below w.heap.size w W' :=
  hb.grown hg hb.size (own_base HO)
theorem own_empty (W : World) (e : TypeId) (size : Nat) : (W.alloc (Obj.cells #[] e)).ownsRow W.heap.size e size (.slice (some ⟨W.heap.size, 0, none⟩) 0 0) 0 [] := by
  have := World.ownsRow_made (size := size) (e := e) W #[] 0 (Nat.le_refl _) (by decide) (by simp)
  exact this
end Go.Proofs.YtpdcjdangnfeiaaGreatDoor.Rc
end
section
open Go Go.RowKit Go.Proofs.YtpdcjdangnfeiaaGreatDoor.Pb Go.Proofs.YtpdcjdangnfeiaaGreatDoor.PPrf Go.Proofs.YtpdcjdangnfeiaaGreatDoorW.PrintWords Go.Proofs.YtpdcjdangnfeiaaGreatDoorW.PrintLast Go.Proofs.YtpdcjdangnfeiaaGreatDoorW.PrintMore Go.Proofs.YtpdcjdangnfeiaaGreatDoor.Qa Go.Proofs.YtpdcjdangnfeiaaGreatDoor.Tb Go.Proofs.YtpdcjdangnfeiaaGreatDoor.Rb Go.Proofs.YtpdcjdangnfeiaaGreatDoor.Ba Go.Proofs.YtpdcjdangnfeiaaGreatDoor.Rd Go.Proofs.YtpdcjdangnfeiaaGreatDoor.Te
namespace Go.Proofs.YtpdcjdangnfeiaaGreatDoor.Rc
/-- All cells of a row's block have the property. -/
def AllP (Pv : Value → Prop) (w : World) (v : Value) : Prop := ∀ q cs t fr, v.ownBlock = some q → w.heap[q]? = some (.cells cs t fr) → ∀ c ∈ cs.toList, Pv c
theorem zero_mem {z : Array Value} {n : Nat} {c : Value} (hz : 0 < z.size) (h : c ∈ (Builtin.zeroCells z n).toList) : c ∈ z.toList := by
  unfold Builtin.zeroCells at h
  rw [Array.toList_map, List.mem_map] at h
  obtain ⟨i, -, rfl⟩ := h
  have hlt : i % z.size < z.size := Nat.mod_lt _ hz
  rw [getElem!_pos z _ hlt]
  exact Array.mem_toList_iff.2 (Array.getElem_mem hlt)
section
variable {P : Program} {ops : Array Oper} {rest : List Oper} {o : Oper} {a : Act} {W : World} {Q : Exit → Act → World → Prop} {K : Act → World → Prop} {E : Prop}
theorem run_ownP (Pv : Value → Prop) (base : Nat) (t ty e : TypeId) (z : Value) (size bytes : Nat) (ht : P.underlying t = some (.slice e)) (hinfo : (P.info? e).map (fun i => (i.zero, i.size, i.bytes)) = some (some z, size, bytes)) (hz : z.cells.size = size) (hs0 : 0 < size) (hb0 : 0 < bytes)
    (v : Value) (n : Nat) (xs : List Value) (ad : Addr) (m c : Nat) (news : List Value) (HO : W.ownsRow base e size v n xs) (HR : RdC W (some ad) m size news) (hbase : base ≤ W.heap.size) (hl : (n + m) * bytes ≤ 140737488355328) (hm : 0 < m)
    (hzP : ∀ c ∈ z.cells.toList, Pv c) (hnP : ∀ u ∈ news, Pv u) (hvP : AllP Pv W v) :
    ∃ v1 w1, (Builtin.append_ #[t, t] ty #[v, .slice (some ad) m c]).run P W = .ok v1 w1 ∧ w1.ownsRow base e size v1 (n + m) (xs ++ news) ∧ W.grownBy w1 v.ownBlock ∧ (v1.ownBlock = v.ownBlock ∨ v1.ownBlock = some W.heap.size) ∧ AllP Pv w1 v1 := by
  obtain ⟨i0, hi, hzz⟩ := Option.map_eq_some_iff.1 hinfo
  simp only [Prod.mk.injEq] at hzz
  obtain ⟨hz0, hz1, hz2⟩ := hzz
  have hlen : n + m ≤ 140737488355328 := Nat.le_trans (Nat.le_mul_of_pos_right _ hb0) hl
  have hnews : ∀ j u, news[j]? = some u → W.cell? (ad.add j) = some u := fun j u hu => by
    obtain ⟨ad', e', hc⟩ := HR.2.2 hm
    cases e'
    exact hc j u hu
  obtain ⟨v1, w1, hr, h2, h3, _, h5⟩ := run_append_own_at (P := P) W base t ty e i0 z size bytes ht hi hz0 hz1 hz2 hz hs0 v n xs HO ad m c news HR.1 hnews HR.2.1 (by simp only [maxLen]; omega) hl hbase
  refine ⟨v1, w1, hr, h2, h3, h5, ?_⟩
  subst hz1
  have hzs : 0 < z.cells.size := by omega
  rcases HO.2 with ⟨rfl, rfl⟩ | ⟨g, cap, cur, rfl, hbg, hg, hnc, hcm, hcs, htake⟩
  · have hx := run_append_nil (P := P) W t ty e i0 z ht hi hz0 ad m c news HR.1 hnews hm (by omega) (by rw [hz2]; have hb := hl; simp only [Nat.zero_add] at hb; omega)
    rw [hr] at hx
    injection hx with e1 e2
    subst e1 e2
    intro q cs t' fr hq hh
    have hq' : W.heap.size = q := by simpa [Value.ownBlock] using hq
    subst hq'
    have hn := heap_alloc_new W.drew (.cells (news.toArray ++ Builtin.zeroCells z.cells (grownCap W m 0 e - m)) e)
    rw [show W.drew.heap.size = W.heap.size from rfl] at hn
    rw [hn] at hh
    cases hh
    intro x hx
    rw [Array.toList_append, List.mem_append] at hx
    rcases hx with hx | hx
    · exact hnP x hx
    · exact hzP x (zero_mem hzs hx)
  · by_cases hroom : n + m ≤ cap
    · have hfit : n * i0.size + news.length ≤ cur.size := by rw [HR.1, hcs, ← Nat.add_mul]; exact Nat.mul_le_mul_right _ hroom
      have hx := run_append_room (P := P) W t ty e i0 ht hi g n cap cur hg ad m c news HR.1 hnews HR.2.1 hroom hfit
      rw [hr] at hx
      injection hx with e1 e2
      subst e1 e2
      intro q cs t' fr hq hh
      have hq' : g = q := by simpa [Value.ownBlock] using hq
      subst hq'
      rw [setRow_heap W g cur _ e _ hg] at hh
      cases hh
      intro x hx
      have hold : ∀ y ∈ cur.toList, Pv y := hvP g cur e _ rfl hg
      simp only [List.mem_append] at hx
      rcases hx with (hx | hx) | hx
      · exact hold x (List.mem_of_mem_take hx)
      · exact hnP x hx
      · exact hold x (List.mem_of_mem_drop hx)
    · have holds : ∀ j u, xs[j]? = some u → W.cell? ((⟨g, 0, none⟩ : Addr).add j) = some u := HO.cells (g := g) rfl
      have hx := run_append_grow (P := P) W t ty e i0 z ht hi hz0 ⟨g, 0, none⟩ n cap xs HO.1 holds ad m c news HR.1 hnews (by omega) (by omega) (by rw [hz2]; exact growslice_fits (by omega) hl)
      rw [hr] at hx
      injection hx with e1 e2
      subst e1 e2
      intro q cs t' fr hq hh
      have hq' : W.heap.size = q := by simpa [Value.ownBlock] using hq
      subst hq'
      have hn := heap_alloc_new W.drew (.cells (xs.toArray ++ news.toArray ++ Builtin.zeroCells z.cells (grownCap W (n + m) cap e - (n + m))) e)
      rw [show W.drew.heap.size = W.heap.size from rfl] at hn
      rw [hn] at hh
      cases hh
      intro x hx
      have hold : ∀ y ∈ cur.toList, Pv y := hvP g cur e _ rfl hg
      simp only [Array.toList_append, List.mem_append] at hx
      rcases hx with (hx | hx) | hx
      · rw [← htake] at hx
        exact hold x (List.mem_of_mem_take hx)
      · exact hnP x hx
      · exact hzP x (zero_mem hzs hx)
theorem step_ownP (Pv : Value → Prop) (hgd : o.guard = none) (s x : Operand) (t : TypeId) (ho : o.op = .call { callee := .builtin .append, args := #[s, x], argTypes := #[t, t] }) (base : Nat) (e : TypeId) (z : Value) (size bytes : Nat) (ht : P.underlying t = some (.slice e))
    (hinfo : (P.info? e).map (fun i => (i.zero, i.size, i.bytes)) = some (some z, size, bytes)) (hz : z.cells.size = size) (hs0 : 0 < size) (hb0 : 0 < bytes) (v : Value) (n : Nat) (xs : List Value) (ad : Addr) (m c : Nat) (news : List Value)
    (hs : a.eval s = v) (hx : a.eval x = .slice (some ad) m c) (HO : W.ownsRow base e size v n xs) (HR : RdC W (some ad) m size news) (hbase : base ≤ W.heap.size) (hl : (n + m) * bytes ≤ 140737488355328) (hm : 0 < m)
    (hzP : ∀ c ∈ z.cells.toList, Pv c) (hnP : ∀ u ∈ news, Pv u) (hvP : AllP Pv W v)
    (h : ∀ v1 w1, w1.ownsRow base e size v1 (n + m) (xs ++ news) → W.grownBy w1 v.ownBlock → (v1.ownBlock = v.ownBlock ∨ v1.ownBlock = some W.heap.size) → AllP Pv w1 v1 → K (a.put o.dst v1) w1) :
    if Region.wanted o (yielded ops a.tmps) = true then Oper.wp P o a W K Q else E := by
  have hw : Region.wanted o (yielded ops a.tmps) = true := by simp [Region.wanted, hgd]
  rw [if_pos hw]
  obtain ⟨v1, w1, hr, h2, h3, h5, h6⟩ := run_ownP (P := P) Pv base t o.type e z size bytes ht hinfo hz hs0 hb0 v n xs ad m c news HO HR hbase hl hm hzP hnP hvP
  unfold Oper.wp execOp
  simp only [ho, resolve, invoke, builtin, Sem.run_bind, Sem.run_pure, Result.andThen_ok, List.map_toArray, List.map_cons, List.map_nil, hs, hx, hr]
  exact h v1 w1 h2 h3 h5 h6
end
theorem info58 : (Tryz.prog.info? 58).map (fun i => (i.zero, i.size, i.bytes)) = some (some (.agg #[.bool false, .bool false, .slice none 0 0, .slice none 0 0]), 4, 56) := by kernel_rfl
/-- A thing's cells, some slices for its rows. -/
def CsT (w : World) (x : T) (cs : List Value) : Prop := ∃ BA bc SA sc, cs = [.bool x.is, .bool x.dir, .slice BA x.B.length bc, .slice SA x.S.length sc] ∧ RdB w BA x.B ∧ x.B.length ≤ bc ∧ RdSl w SA x.S ∧ x.S.length ≤ sc
/-- Things' cells, one behind the other. -/
def CsL (w : World) : List T → List Value → Prop
  | [], cs => cs = []
  | x :: L, cs => ∃ c r, cs = c ++ r ∧ CsT w x c ∧ CsL w L r
theorem CsT.fz {w w' : World} {X : Nat → Prop} {x : T} {cs : List Value} (h : CsT w x cs) (hf : Fz w w' X) : CsT w' x cs := by
  obtain ⟨BA, bc, SA, sc, e, h1, h2, h3, h4⟩ := h
  exact ⟨BA, bc, SA, sc, e, RdB.fz h1 hf, h2, RdSl.fz h3 hf, h4⟩
theorem CsL.fz {w w' : World} {X : Nat → Prop} (hf : Fz w w' X) : ∀ {L : List T} {cs : List Value}, CsL w L cs → CsL w' L cs
  | [], _, h => h
  | x :: L, cs, ⟨c, r, e, h1, h2⟩ => ⟨c, r, e, h1.fz hf, CsL.fz hf h2⟩
theorem CsT.len {w : World} {x : T} {cs : List Value} (h : CsT w x cs) : cs.length = 4 := by obtain ⟨BA, bc, SA, sc, rfl, -⟩ := h; rfl
theorem CsL.len {w : World} : ∀ {L : List T} {cs : List Value}, CsL w L cs → cs.length = L.length * 4
  | [], _, h => by cases h; rfl
  | x :: L, cs, ⟨c, r, e, h1, h2⟩ => by rw [e, List.length_append, h1.len, h2.len, List.length_cons]; omega
theorem CsL.append {w : World} : ∀ {L : List T} {cs : List Value} {x : T} {c : List Value}, CsL w L cs → CsT w x c → CsL w (L ++ [x]) (cs ++ c)
  | [], _, x, c, h, hx => by cases h; exact ⟨c, [], by simp, hx, rfl⟩
  | y :: L, cs, x, c, ⟨c', r, e, h1, h2⟩, hx => ⟨c', r ++ c, by rw [e, List.append_assoc], h1, h2.append hx⟩
theorem CsT.cv {w : World} {x : T} {cs : List Value} (h : CsT w x cs) : ∀ u ∈ cs, Cv u := by
  obtain ⟨BA, bc, SA, sc, rfl, -⟩ := h
  intro u hu
  simp at hu
  rcases hu with rfl | rfl | rfl | rfl
  · exact cv_bool _
  · exact cv_bool _
  · exact cv_slice _ _ _
  · exact cv_slice _ _ _
theorem CsL.cv {w : World} : ∀ {L : List T} {cs : List Value}, CsL w L cs → ∀ u ∈ cs, Cv u
  | [], _, h => by cases h; intro u hu; cases hu
  | x :: L, cs, ⟨c, r, e, h1, h2⟩ => by
    intro u hu
    rw [e, List.mem_append] at hu
    exact hu.elim (h1.cv u) (h2.cv u)
theorem CsT.one {w : World} {x : T} {cs : List Value} (h : CsT w x cs) : ∀ u ∈ cs, u.oneCell' = true := by
  obtain ⟨BA, bc, SA, sc, rfl, -⟩ := h
  intro u hu
  simp at hu
  rcases hu with rfl | rfl | rfl | rfl <;> rfl
theorem CsL.one {w : World} : ∀ {L : List T} {cs : List Value}, CsL w L cs → ∀ u ∈ cs, u.oneCell' = true
  | [], _, h => by cases h; intro u hu; cases hu
  | x :: L, cs, ⟨c, r, e, h1, h2⟩ => by
    intro u hu
    rw [e, List.mem_append] at hu
    exact hu.elim (h1.one u) (h2.one u)
theorem CsL.get {w : World} : ∀ {L : List T} {cs : List Value}, CsL w L cs → ∀ j x, L[j]? = some x → ∃ c, CsT w x c ∧ ∀ i u, c[i]? = some u → cs[j * 4 + i]? = some u
  | [], _, _, j, x, hj => by cases hj
  | y :: L, cs, ⟨c, r, e, h1, h2⟩, 0, x, hj => by
    cases hj
    refine ⟨c, h1, fun i u hu => ?_⟩
    rw [e, Nat.zero_mul, Nat.zero_add, List.getElem?_append_left (List.getElem?_eq_some_iff.1 hu).1]
    exact hu
  | y :: L, cs, ⟨c, r, e, h1, h2⟩, j + 1, x, hj => by
    obtain ⟨c', h3, h4⟩ := h2.get j x (by simpa using hj)
    refine ⟨c', h3, fun i u hu => ?_⟩
    rw [e, List.getElem?_append_right (by rw [h1.len]; omega), h1.len, show (j + 1) * 4 + i - 4 = j * 4 + i by omega]
    exact h4 i u hu
/-- The things' row, cell by cell. -/
theorem Rf2.cells {v w : World} {B g b : Nat} {L : List T} {n m : Int} (h : Rf2 v w B g b L n m) : ∃ cs, CsL v L cs ∧ RdC w (some ⟨b, 0, none⟩) L.length 4 cs := by
  obtain ⟨arr, h1, h2, -⟩ := h.row
  have key : ∀ (K : List T) (o : Nat), (∀ j x, K[j]? = some x → CT v arr (o + j) x) → ∃ cs, CsL v K cs ∧ ∀ j u, cs[j]? = some u → arr[o * 4 + j]? = some u := by
    intro K
    induction K with
    | nil => intro o _; exact ⟨[], rfl, fun j u hu => by cases hu⟩
    | cons x K ih =>
      intro o hK
      obtain ⟨r, hr1, hr2⟩ := ih (o + 1) (fun j y hy => by have := hK (j + 1) y (by simpa using hy); rwa [show o + 1 + j = o + (j + 1) by omega])
      obtain ⟨BA, bc, SA, sc, q1, q2, q3, q4, q5⟩ := hK 0 x rfl
      rw [Nat.add_zero] at q1 q2 q3 q4
      refine ⟨[.bool x.is, .bool x.dir, .slice BA x.B.length bc, .slice SA x.S.length sc] ++ r, ⟨_, r, rfl, ⟨BA, bc, SA, sc, rfl, q5⟩, hr1⟩, fun j u hu => ?_⟩
      match j, hu with
      | 0, hu => cases hu; exact q1
      | 1, hu => cases hu; exact q2
      | 2, hu => cases hu; exact q3
      | 3, hu => cases hu; exact q4
      | j + 4, hu => rw [show o * 4 + (j + 4) = (o + 1) * 4 + j by omega]; exact hr2 j u (by simpa using hu)
  obtain ⟨cs, hc1, hc2⟩ := key L 0 (fun j x hx => by rw [Nat.zero_add]; exact h2 j x hx)
  refine ⟨cs, hc1, hc1.len, hc1.one, fun _ => ⟨_, rfl, fun j u hu => ?_⟩⟩
  rw [Addr.add_lit, cell_of_block h1, Nat.zero_add]
  have := hc2 j u hu
  simpa using this
/-- A row of things of the call's own. -/
def OwnT (v w : World) (base : Nat) (u : Value) (L : List T) : Prop := AllP Cv w u ∧ ∃ cs, CsL v L cs ∧ w.ownsRow base 58 4 u L.length cs
theorem OwnT.open {v w : World} {base : Nat} {u : Value} {L : List T} (h : OwnT v w base u L) (h0 : 0 < L.length) :
    ∃ q cap, u = .slice (some ⟨q, 0, none⟩) L.length cap ∧ base ≤ q ∧ L.length ≤ cap ∧ ∃ cs, w.heap[q]? = some (.cells cs 58 (0, 0)) ∧ (∀ j x, L[j]? = some x → CT v cs j x) ∧ ∀ u ∈ cs.toList, Cv u := by
  obtain ⟨ha, cs, hc, hl, ho⟩ := h
  rcases ho with ⟨-, h1⟩ | ⟨q, cap, cur, rfl, hq, hh, hn, hm, hs, ht⟩
  · omega
  · refine ⟨q, cap, rfl, hq, hn, cur, hh, fun j x hj => ?_, ha q cur 58 _ rfl hh⟩
    obtain ⟨c, hct, hg⟩ := hc.get j x hj
    have hlt : j < L.length := (List.getElem?_eq_some_iff.1 hj).1
    have key : ∀ i u, i < 4 → c[i]? = some u → cur[j * 4 + i]? = some u := fun i u hi hu => by
      have := hg i u hu
      rw [← ht, List.getElem?_take_of_lt (by omega), Array.getElem?_toList] at this
      exact this
    obtain ⟨BA, bc, SA, sc, rfl, q5⟩ := hct
    exact ⟨BA, bc, SA, sc, key 0 _ (by omega) rfl, key 1 _ (by omega) rfl, key 2 _ (by omega) rfl, key 3 _ (by omega) rfl, q5⟩
end Go.Proofs.YtpdcjdangnfeiaaGreatDoor.Rc
end
