/- Rows of bytes, read or of the call's own; the row of bytes as a text. Lines of bytes, in plain lists: whole, cut at CR LF, dotted. The reference's lines walked: ends, Whole. The reference's Lines walked. The reference's Encode walked. The program's slices.Clone at []byte walked. The program's slices.Grow at []byte, of nil, walked. The program's slices.Concat of two rows of bytes walked. The program's dot.Whole walked. The program's dot.Lines walked. The program's dot.Encode walked. -/
import Derived.Test.YthgghgecpjnoiaaDoorPk
import Derived.Lib.Split
import Derived.Lib.SplitLaws
import Derived.Lib.IndexMore
import Derived.Lib.IndexBytes
import Derived.Lib.SliceRun
import Derived.Lib.AppendZeros
import Derived.Lib.SlBytesConst
namespace Go.Proofs.YthgghgecpjnoiaaDoor.Da
open Go.RowKit Go.Proofs.YthgghgecpjnoiaaDoorW.PrintWords Go.Proofs.YthgghgecpjnoiaaDoorW.PrintLast Go.Proofs.YthgghgecpjnoiaaDoorW.PrintMore Go.Proofs.YthgghgecpjnoiaaDoor.Pb Go.Proofs.YthgghgecpjnoiaaDoor.Pc Go.Proofs.YthgghgecpjnoiaaDoor.Pd Go.Proofs.YthgghgecpjnoiaaDoor.Pe Go.Proofs.YthgghgecpjnoiaaDoor.Pg Go.Proofs.YthgghgecpjnoiaaDoor.Pk
def bv (x : UInt8) : Value := .int .u8 (x.toNat : Int)
/-- A row of bytes that is read. -/
def RdB (w : World) (A : Option Addr) (l : List UInt8) : Prop := ReadsOf bv 0 w A l.length l
/-- A row of bytes of the call's own. -/
def OwnB (w : World) (base : Nat) (v : Value) (xs : List UInt8) : Prop := w.ownsRow base 5 1 v xs.length (encs bv xs)
theorem info5 : (Tryd.prog.info? 5).map (fun i => (i.zero, i.size, i.bytes)) = some (some (.int .u8 0), 1, 1) := by kernel_rfl
theorem bv1 (x : UInt8) : (bv x).oneCell' = true := rfl
theorem RdB.below {w w1 : World} {A : Option Addr} {l : List UInt8} (h : RdB w A l) (hb : Below w.heap.size w w1) : RdB w1 A l := ReadsOf.below h hb
theorem RdB.nil (w : World) (A : Option Addr) : RdB w A [] := ⟨rfl, by simp, fun h => absurd h (by simp)⟩
theorem RdB.len {w : World} {A : Option Addr} {l : List UInt8} (h : RdB w A l) : l.length ≤ 9223372036854775807 := h.2.1
theorem RdB.cell {w : World} {A : Option Addr} {l : List UInt8} (h : RdB w A l) (j : Nat) (hj : j < l.length) : ∃ b o, A = some ⟨b, o, none⟩ ∧ w.cell? ⟨b, o + j, none⟩ = some (.int .u8 (l[j].toNat : Int)) := by
  obtain ⟨⟨b, o, sp⟩, rfl, hc⟩ := h.2.2 (by omega)
  have h0 := hc 0 (by omega)
  have hs := World.cell?_spot h0
  have hsp : sp = none := by simpa [Addr.add] using hs
  subst hsp
  refine ⟨b, o, rfl, ?_⟩
  have := hc j hj
  rw [List.getD_eq_getElem?_getD, List.getElem?_eq_getElem hj] at this
  by_cases hj0 : j = 0
  · subst hj0; simpa [Addr.add, bv] using this
  · simpa [Addr.add, hj0, bv] using this
theorem RdB.mk {w : World} {b o : Nat} {l : List UInt8} (hl : l.length ≤ 9223372036854775807) (h : ∀ j (hj : j < l.length), w.cell? ⟨b, o + j, none⟩ = some (.int .u8 (l[j].toNat : Int))) : RdB w (some ⟨b, o, none⟩) l := by
  refine ⟨rfl, hl, fun _ => ⟨_, rfl, fun j hj => ?_⟩⟩
  rw [List.getD_eq_getElem?_getD, List.getElem?_eq_getElem hj]
  have := h j hj
  by_cases hj0 : j = 0
  · subst hj0; simpa [Addr.add, bv] using this
  · simpa [Addr.add, hj0, bv] using this
theorem RdB.lit (w : World) (l : List UInt8) (hl : l.length ≤ 9223372036854775807) : RdB (w.alloc (.cells (l.map bv).toArray 5)) (some ⟨w.heap.size, 0, none⟩) l := by
  refine RdB.mk hl fun j hj => ?_
  rw [cell_of_block (Go.heap_alloc_new w _)]
  simp [bv, hj]
/-- The row's text. -/
theorem RdB.text {w : World} {A : Option Addr} {l : List UInt8} (h : RdB w A l) (c : Nat) : (convert 22 9 (.slice A l.length c)).run Tryd.prog w = .ok (.string (tb l)) w := by
  have hr : ReadsInt w .u8 A (l.map fun x => (x.toNat : Int)).length (l.map fun x => (x.toNat : Int)) := by
    rw [readsInt_of]
    refine ⟨rfl, by simpa using h.2.1, fun h0 => ?_⟩
    obtain ⟨ad, e, hc⟩ := h.2.2 (by simpa using h0)
    refine ⟨ad, e, fun j hj => ?_⟩
    rw [List.length_map] at hj
    rw [hc j hj]
    simp [List.getD_eq_getElem?_getD, bv, hj]
  rw [List.length_map] at hr
  rw [string_of_reads (P := Tryd.prog) (c := c) Tryd.underlying22 Tryd.underlying5 Tryd.underlying9 hr]
  congr 2
  rw [← tl_inj, tl_tb]
  show (strOfNums _).data.toList = _
  rw [strOfNums_data, List.map_map]
  conv => rhs; rw [← List.map_id l]
  apply List.map_congr_left
  intro x _
  simp
theorem OwnB.reads {w : World} {base : Nat} {v : Value} {xs : List UInt8} (h : OwnB w base v xs) : ∃ A c, v = .slice A xs.length c ∧ RdB w A xs ∧ xs.length ≤ c := by
  obtain ⟨hl, h⟩ := h
  rcases h with ⟨rfl, h0⟩ | ⟨g, cap, cur, rfl, hg, hh, hn, hm, hs, ht⟩
  · obtain rfl := List.length_eq_zero_iff.1 h0
    exact ⟨none, 0, rfl, RdB.nil _ _, by simp⟩
  · refine ⟨_, cap, rfl, RdB.mk (by unfold maxLen at hm; omega) fun j hj => ?_, hn⟩
    rw [Nat.zero_add]
    have e : w.cell? ⟨g, j, none⟩ = cur[j]? := by simp [World.cell?, hh]
    rw [e, ← Array.getElem?_toList]
    have : (cur.toList.take (xs.length * 1))[j]? = some (.int .u8 (xs[j].toNat : Int)) := by rw [ht]; simp [encs, hj, bv]
    rwa [List.getElem?_take_of_lt (by omega)] at this
theorem OwnB.nil (w : World) (base : Nat) : OwnB w base (.slice none 0 0) [] := World.ownsRow_nil _ _ _ _
theorem OwnB.empty (w : World) : OwnB (w.alloc (Obj.cells #[] 5)) w.heap.size (.slice (some ⟨w.heap.size, 0, none⟩) 0 0) [] := World.ownsRow_made w #[] 0 (Nat.le_refl _) (by decide) rfl
section
variable {ops : Array Oper} {rest : List Oper} {o : Oper} {a : Act} {w : World} {Q : Exit → Act → World → Prop}
/-- append(own row of bytes, row of bytes ...). -/
theorem wpList_row (hgd : o.guard = none) (s x : Operand) (ho : o.op = .call { callee := .builtin .append, args := #[s, x], argTypes := #[22, 22] }) (base : Nat) (v : Value) (xs : List UInt8) (hs : a.eval s = v) (hown : OwnB w base v xs)
    (A : Option Addr) (c : Nat) (l : List UInt8) (hx : a.eval x = .slice A l.length c) (hr : RdB w A l) (hn : xs.length + l.length ≤ 1000000000) (hbase : base ≤ w.heap.size)
    (h : ∀ v' w', OwnB w' base v' (xs ++ l) → Below base w w' → w.grownBy w' v.ownBlock → wpList Tryd.prog ops Q rest (a.put o.dst v') w') : wpList Tryd.prog ops Q (o :: rest) a w :=
  print_append_row_of (w0 := w) bv 0 base hgd s x 22 5 (.int .u8 0) 1 ho Tryd.underlying22 info5 rfl (by decide) bv1 v xs l A l.length c hs hx hown hr (Below.refl _ _) hbase (by omega) fun v1 w1 h1 h2 h3 _ => h v1 w1 h1 h2 h3
/-- append(own row of bytes, text ...). -/
theorem wpList_str (hgd : o.guard = none) (s x : Operand) (ho : o.op = .call { callee := .builtin .append, args := #[s, x], argTypes := #[22, 9] }) (base : Nat) (v : Value) (xs : List UInt8) (hs : a.eval s = v) (hown : OwnB w base v xs)
    (y : ByteArray) (hx : a.eval x = .string y) (hn : xs.length + y.size ≤ 1000000000) (hbase : base ≤ w.heap.size)
    (h : ∀ v' w', OwnB w' base v' (xs ++ tl y) → Below base w w' → w.grownBy w' v.ownBlock → wpList Tryd.prog ops Q rest (a.put o.dst v') w') : wpList Tryd.prog ops Q (o :: rest) a w := by
  obtain ⟨i0, hi, hz0, hz1, hz2⟩ := info_parts info5
  refine Lib.wpList_append_own_string w hgd s x 22 9 ho base 5 i0 Tryd.underlying22 Tryd.underlying9 hi hz0 hz1 hz2 v xs.length (encs bv xs) hs hown y hx (by unfold maxLen; omega) (by omega) hbase ?_
  intro v1 w1 hown1 hg _
  refine h v1 w1 ?_ ((Below.refl base w).grown hg hbase (fun k hk => own_base hown k hk)) hg
  unfold OwnB
  have e : encs bv (xs ++ tl y) = encs bv xs ++ Lib.strCells y := by
    rw [encs_append]; congr 1
  rw [e, List.length_append, tl_len]
  exact hown1
end
/-- b[i:] -/
theorem drop_of (A : Option Addr) (c : Nat) (l : List UInt8) (i : Int) (h0 : 0 ≤ i) (hm : i ≤ l.length) (hc : l.length ≤ c) :
    ∃ A' : Option Addr, (∀ W : World, (Instr.slice 22 (.slice A l.length c) (some (.int .i64 i)) none none).run Tryd.prog W = .ok (.slice A' (l.drop i.toNat).length (c - i.toNat)) W) ∧ (∀ w : World, RdB w A l → RdB w A' (l.drop i.toNat)) ∧ (l.drop i.toNat).length ≤ c - i.toNat := by
  obtain ⟨i0, hi, hz0, hz1, hz2⟩ := info_parts info5
  exact print_drop_of (P := Tryd.prog) bv 0 22 5 .i64 Tryd.underlying22 hi hz1 A c l i h0 hm hc
theorem take_of (A : Option Addr) (c : Nat) (l : List UInt8) (i : Int) (h0 : 0 ≤ i) (hm : i ≤ l.length) (hc : l.length ≤ c) :
    (∀ W : World, (Instr.slice 22 (.slice A l.length c) none (some (.int .i64 i)) none).run Tryd.prog W = .ok (.slice A (l.take i.toNat).length c) W) ∧ (∀ w : World, RdB w A l → RdB w A (l.take i.toNat)) ∧ (l.take i.toNat).length ≤ c := by
  obtain ⟨i0, hi, hz0, hz1, hz2⟩ := info_parts info5
  exact print_take_of (P := Tryd.prog) bv 0 22 5 .i64 Tryd.underlying22 hi hz1 A c l i h0 hm hc
theorem mid_of (A : Option Addr) (c : Nat) (l : List UInt8) (i j : Int) (h0 : 0 ≤ i) (h1 : i ≤ j) (hm : j ≤ l.length) (hc : l.length ≤ c) :
    ∃ A' : Option Addr, (∀ W : World, (Instr.slice 22 (.slice A l.length c) (some (.int .i64 i)) (some (.int .i64 j)) none).run Tryd.prog W = .ok (.slice A' ((l.take j.toNat).drop i.toNat).length (c - i.toNat)) W) ∧ (∀ w : World, RdB w A l → RdB w A' ((l.take j.toNat).drop i.toNat)) ∧ ((l.take j.toNat).drop i.toNat).length ≤ c - i.toNat := by
  obtain ⟨i0, hi, hz0, hz1, hz2⟩ := info_parts info5
  exact print_mid_of (P := Tryd.prog) bv 0 22 5 .i64 .i64 Tryd.underlying22 hi hz1 A c l i j h0 h1 hm hc
end Go.Proofs.YthgghgecpjnoiaaDoor.Da
namespace Go.Proofs.YthgghgecpjnoiaaDoor.Db
open Go.Lib Go.Proofs.YthgghgecpjnoiaaDoor.Pc
def crlf : List UInt8 := [13, 10]
def wholeL (l : List UInt8) : List UInt8 := if l = [] ∨ crlf.isSuffixOf l = true then l else l ++ crlf
def lns (cur : List UInt8) : List UInt8 → List (List UInt8)
  | [] => []
  | [_] => []
  | x :: y :: r => if x = 13 ∧ y = 10 then cur :: lns [] r else lns (cur ++ [x]) (y :: r)
def linesL (l : List UInt8) : List (List UInt8) := lns [] (wholeL l)
def dotL (s : List UInt8) : List UInt8 := (if s.head? = some 46 then 46 :: s else s) ++ crlf
def bodyL (ls : List (List UInt8)) : List UInt8 := ls.flatMap dotL
def encL (l : List UInt8) : List UInt8 := bodyL (linesL l) ++ [46, 13, 10]

theorem lns_hit {cur r : List UInt8} : lns cur (13 :: 10 :: r) = cur :: lns [] r := by rw [lns]; simp
theorem lns_miss {cur r : List UInt8} {x y : UInt8} (h : ¬ (x = 13 ∧ y = 10)) : lns cur (x :: y :: r) = lns (cur ++ [x]) (y :: r) := by rw [lns]; rw [if_neg h]

/-- The loop over i that cuts at at: what is still to come. -/
def todo (w : List UInt8) (at' i : Nat) : List (List UInt8) := if at' < i then lns ((w.take (i - 1)).drop at') (w.drop (i - 1)) else lns [] (w.drop at')
theorem todo_start (w : List UInt8) : todo w 0 1 = lns [] w := by simp [todo]
theorem todo_hit {w : List UInt8} {at' i : Nat} (h1 : at' < i) (hi : i < w.length) (hy : w[i] = 10) (hx : w[i - 1] = 13) : todo w at' i = ((w.take (i - 1)).drop at') :: todo w (i + 1) (i + 1) := by
  unfold todo
  rw [if_pos h1, if_neg (by omega)]
  rw [List.drop_eq_getElem_cons (i := i - 1) (by omega), hx]
  have e : i - 1 + 1 = i := by omega
  rw [e, List.drop_eq_getElem_cons (i := i) hi, hy, lns_hit]
theorem todo_miss {w : List UInt8} {at' i : Nat} (h0 : 1 ≤ i) (h1 : at' ≤ i) (hi : i < w.length) (h : ¬ (at' < i ∧ w[i] = 10 ∧ w[i - 1] = 13)) : todo w at' i = todo w at' (i + 1) := by
  unfold todo
  rw [if_pos (show at' < i + 1 by omega)]
  by_cases c : at' < i
  · rw [if_pos c]
    rw [List.drop_eq_getElem_cons (i := i - 1) (by omega)]
    have e : i - 1 + 1 = i := by omega
    rw [e, Nat.add_sub_cancel, List.drop_eq_getElem_cons (i := i) hi, lns_miss (by intro hh; exact h ⟨c, hh.2, hh.1⟩)]
    congr 1
    have e2 : w.take i = w.take (i - 1) ++ [w[i - 1]] := by
      conv => lhs; rw [show i = (i - 1) + 1 by omega]
      rw [List.take_succ_eq_append_getElem (by omega)]
    rw [e2, List.drop_append_of_le_length (by simp; omega)]
  · have : at' = i := by omega
    subst this
    rw [if_neg c, Nat.add_sub_cancel]
    rw [List.drop_of_length_le (by simp; omega : (w.take at').length ≤ at')]
theorem todo_end {w : List UInt8} {at' i : Nat} (h1 : at' ≤ i) (hi : w.length ≤ i) : todo w at' i = [] := by
  unfold todo
  by_cases c : at' < i
  · rw [if_pos c]
    by_cases hl : w.length ≤ i - 1
    · rw [List.drop_of_length_le hl]; rfl
    · have e : w.drop (i - 1) = [w[i - 1]'(by omega)] := by
        rw [List.drop_eq_getElem_cons (by omega), List.drop_of_length_le (by omega)]
      rw [e]; rfl
  · rw [if_neg c, List.drop_of_length_le (by omega)]; rfl
/-- What the search for CR LF tells of the lines. -/
theorem lns_index : ∀ (l cur : List UInt8), lns cur l = if index l crlf = -1 then [] else (cur ++ l.take (index l crlf).toNat) :: lns [] (l.drop ((index l crlf).toNat + 2))
  | [], cur => by simp [lns, index, crlf]
  | [x], cur => by
    have e : index [x] crlf = -1 := by simp [index, crlf, List.isPrefixOf]
    rw [e]; rfl
  | x :: y :: r, cur => by
    by_cases h : x = 13 ∧ y = 10
    · obtain ⟨rfl, rfl⟩ := h
      have e : index (13 :: 10 :: r) crlf = 0 := by rw [index]; simp [crlf, List.isPrefixOf]
      rw [e, lns_hit]
      simp
    · have ih := lns_index (y :: r) (cur ++ [x])
      have hp : crlf.isPrefixOf (x :: y :: r) = false := by
        cases hq : crlf.isPrefixOf (x :: y :: r) with
        | false => rfl
        | true =>
          simp [crlf, List.isPrefixOf] at hq
          exact absurd ⟨hq.1.symm, hq.2.symm⟩ h
      have e : index (x :: y :: r) crlf = if index (y :: r) crlf == -1 then -1 else index (y :: r) crlf + 1 := by
        rw [index, if_neg (by rw [hp]; decide)]
      rw [lns_miss h, ih, e]
      by_cases hi : index (y :: r) crlf = -1
      · rw [if_pos hi, hi]; rfl
      · have hg := index_ge (y :: r) crlf
        have hb : ¬ (index (y :: r) crlf == -1) = true := by simpa using hi
        rw [if_neg hi, if_neg hb, if_neg (by omega)]
        have e2 : (index (y :: r) crlf + 1).toNat = (index (y :: r) crlf).toNat + 1 := by omega
        rw [e2]
        simp [List.append_assoc]
theorem split_take : ∀ (fuel : Nat) (l : List UInt8), l.length < fuel → (splitK crlf 0 (countFrom crlf fuel l) l).take (countFrom crlf fuel l) = lns [] l
  | 0, l, h => absurd h (by omega)
  | fuel + 1, l, h => by
    rw [lns_index]
    unfold countFrom
    by_cases hi : index l crlf = -1
    · rw [if_pos (by rw [hi]; rfl), if_pos hi]; rfl
    · have hg := index_ge l crlf
      rw [if_neg (by simpa using hi), if_neg hi, Nat.add_comm 1]
      rw [splitK, if_neg (by simpa using hi), List.take_succ_cons, Nat.add_zero, List.nil_append]
      have hl : crlf.length = 2 := rfl
      rw [hl]
      have hne : l ≠ [] := by
        intro e; subst e; exact hi (by simp [index, crlf])
      have hp : 0 < l.length := List.length_pos_iff.2 hne
      rw [split_take fuel _ (by rw [List.length_drop]; omega)]
def crlfB : ByteArray := ⟨#[13, 10]⟩
/-- strings.Split at CR LF, but for its last piece. -/
theorem split_lines (s : ByteArray) : ((splitB crlfB 0 (countB s crlfB) s).take (countB s crlfB)).map tl = lns [] (tl s) := by
  rw [List.map_take]
  have h : (splitB crlfB 0 (countB s crlfB) s).map tl = splitK crlf 0 (countB s crlfB) (tl s) := splitB_data crlfB 0 (countB s crlfB) s
  rw [h]
  exact split_take _ _ (by omega)
end Go.Proofs.YthgghgecpjnoiaaDoor.Db
namespace Go.Proofs.YthgghgecpjnoiaaDoor.Dc
open Go.RowKit Go.Proofs.YthgghgecpjnoiaaDoor.Pc Go.Proofs.YthgghgecpjnoiaaDoor.Pd Go.Proofs.YthgghgecpjnoiaaDoor.Da Go.Proofs.YthgghgecpjnoiaaDoor.Db

theorem suffix_drop {s l : List UInt8} : s.isSuffixOf l = decide (l.drop (l.length - s.length) = s) := by
  rw [Bool.eq_iff_iff, List.isSuffixOf_iff_suffix, decide_eq_true_iff]
  rw [List.suffix_iff_eq_drop]
  exact ⟨fun h => h.symm, fun h => h.symm⟩
theorem suffix_long {s l : List UInt8} (h : l.length < s.length) : s.isSuffixOf l = false := by
  cases e : s.isSuffixOf l with
  | false => rfl
  | true => exact absurd (List.isSuffixOf_iff_suffix.1 e).length_le (by omega)

set_option maxHeartbeats 1000000 in
set_option maxRecDepth 100000 in
theorem ends_any (A : Option Addr) (c : Nat) (l : List UInt8) (s : ByteArray) (w : World) (hr : RdB w A l) (hc : l.length ≤ c) :
    Calls Tryd.prog 42 #[.slice A l.length c, .string s] w fun e w' => e = .returned (.bool ((tl s).isSuffixOf l)) ∧ w' = w := by
  have HR := Lib.hid hr
  have HC := Lib.hid hc
  have hn := hr.len
  clear hr hc
  by_cases k : (s.size : Int) ≤ l.length
  · obtain ⟨A', h1, h2, h3⟩ := drop_of A c l ((l.length : Int) - s.size) (by omega) (by omega) HC.out
    have ht := fun W h => RdB.text (w := W) (h2 W h) (c - ((l.length : Int) - s.size).toNat)
    have ht := ht w HR.out
    have hz : Hid (((tb (l.drop ((l.length : Int) - s.size).toNat)).toList == s.toList) = (tl s).isSuffixOf l) := Lib.hid (by
      rw [suffix_drop, tl_len, Lib.toList_data, Lib.toList_data]
      have e : ((l.length : Int) - s.size).toNat = l.length - s.size := by omega
      rw [e]
      show (tl (tb _) == tl s) = _
      rw [tl_tb]
      by_cases e : l.drop (l.length - s.size) = tl s
      · rw [e]; simp
      · simp [e])
    obtain ⟨x, hx⟩ : ∃ x, tb (l.drop ((l.length : Int) - s.size).toNat) = x := ⟨_, rfl⟩
    rw [hx] at ht hz
    obtain ⟨z, Hz⟩ : ∃ z, Hid ((tl s).isSuffixOf l = z) := ⟨_, Lib.hid rfl⟩
    rw [Hz.out] at hz ⊢
    have hz' : (x.toList == s.toList) = z := hz.out
    clear h2 hx HR HC hz Hz
    have wr : IntKind.i64.wrap ((l.length : Int) - s.size) = (l.length : Int) - s.size := by rw [IntKind.wrap_i64]; omega
    generalize (l.drop ((l.length : Int) - s.size).toNat).length = n' at h1 ht h3
    generalize c - ((l.length : Int) - s.size).toNat = c' at h1 ht h3
    clear h3
    go_enter Tryd.func42, Tryd.ntmps42
    go_wp2
    go_ret
    exact ⟨rfl, rfl⟩
  · have Hz : Hid ((tl s).isSuffixOf l = false) := Lib.hid (suffix_long (by rw [tl_len]; omega))
    rw [Hz.out]
    clear Hz HR HC
    go_enter Tryd.func42, Tryd.ntmps42
    go_wp2
    go_ret
    exact ⟨rfl, rfl⟩

theorem whole_same {l : List UInt8} (h : l = [] ∨ crlf.isSuffixOf l = true) : wholeL l = l := by unfold wholeL; rw [if_pos h]
theorem whole_more {l : List UInt8} (h0 : ¬ l = []) (h : crlf.isSuffixOf l = false) : wholeL l = l ++ crlf := by unfold wholeL; rw [if_neg (by simp [h0, h])]

set_option maxHeartbeats 1000000 in
set_option maxRecDepth 100000 in
theorem rwhole_any (A : Option Addr) (c : Nat) (l : List UInt8) (w : World) (hr : RdB w A l) (hc : l.length ≤ c) (hl : l.length ≤ 1000000) :
    Calls Tryd.prog 14 #[.slice A l.length c] w fun e w' => ∃ v, e = .returned v ∧ OwnB w' w.heap.size v (wholeL l) ∧ Below w.heap.size w w' := by
  have HR := Lib.hid hr
  have HC := Lib.hid hc
  clear hr hc
  have Hal : Hid (Below w.heap.size w (w.alloc (Obj.cells #[] 5))) := Lib.hid ((Below.refl _ _).alloc (Nat.le_refl _) _)
  have HR1 := Lib.hid (HR.out.below Hal.out)
  by_cases k : l = []
  · have HW : Hid (wholeL l = [] ++ l) := Lib.hid (by rw [whole_same (.inl k)]; rfl)
    have k0 : (l.length : Int) = 0 := by rw [k]; rfl
    clear k
    go_enter Tryd.func14, Tryd.ntmps14
    go_wp2_with (at_builtin; refine wpList_row rfl (.tmp 10) (.tmp 11) rfl w.heap.size _ [] rfl (OwnB.empty w) A c l rfl HR1.out (by simp; omega) (by simp) ?_; intro v w1 ho hb _; have HO := Lib.hid ho; have HB := Lib.hid (Hal.out.trans hb); clear ho hb)
    go_ret
    exact ⟨_, rfl, by rw [HW.out]; exact HO.out, HB.out⟩
  · have k0 : ¬ (l.length : Int) = 0 := by have := List.length_pos_iff.2 k; omega
    cases ks : crlf.isSuffixOf l with
    | true =>
      have HW : Hid (wholeL l = [] ++ l) := Lib.hid (by rw [whole_same (.inr ks)]; rfl)
      have HE : Hid ((tl ⟨#[13, 10]⟩).isSuffixOf l = true) := Lib.hid ks
      have k1 : decide (l = []) = false := decide_eq_false k
      clear ks
      go_enter Tryd.func14, Tryd.ntmps14
      go_wp2_with fail
      refine (ends_any A c l _ w HR.out HC.out).mono ?_
      rintro e w1 ⟨rfl, rfl⟩
      rw [HE.out]
      go_wp2_with (at_builtin; refine wpList_row rfl (.tmp 10) (.tmp 11) rfl w1.heap.size _ [] rfl (OwnB.empty w1) A c l rfl HR1.out (by simp; omega) (by simp) ?_; intro v w2 ho hb _; have HO := Lib.hid ho; have HB := Lib.hid (Hal.out.trans hb); clear ho hb)
      go_ret
      exact ⟨_, rfl, by rw [HW.out]; exact HO.out, HB.out⟩
    | false =>
      have HW : Hid (wholeL l = ([] ++ l) ++ crlf) := Lib.hid (by rw [whole_more k ks]; rfl)
      have HE : Hid ((tl ⟨#[13, 10]⟩).isSuffixOf l = false) := Lib.hid ks
      have k1 : decide (l = []) = false := decide_eq_false k
      clear ks
      go_enter Tryd.func14, Tryd.ntmps14
      go_wp2_with fail
      refine (ends_any A c l _ w HR.out HC.out).mono ?_
      rintro e w1 ⟨rfl, rfl⟩
      rw [HE.out]
      go_wp2_with (first
        | (at_builtin; refine wpList_row rfl (.tmp 13) (.tmp 14) rfl w1.heap.size _ [] rfl (OwnB.empty w1) A c l rfl HR1.out (by simp; omega) (by simp) ?_; intro v w2 ho hb _; have HO := Lib.hid ho; have HB := Lib.hid (Hal.out.trans hb); clear ho hb)
        | (at_builtin; refine wpList_row rfl (.tmp 15) (.tmp 16) rfl w1.heap.size _ ([] ++ l) rfl (HO.out.alloc _) (some ⟨w2.heap.size, 0, none⟩) 2 crlf rfl (RdB.lit w2 crlf (by decide)) (by simp [crlf]; omega) (by have := HB.out.size; simp; omega) ?_; intro v2 w3 ho hb _; have HO3 := Lib.hid ho; have HB3 := Lib.hid ((HB.out.alloc HB.out.size (Obj.cells (crlf.map bv).toArray 5)).trans hb); clear ho hb))
      go_ret
      exact ⟨_, rfl, by rw [HW.out]; exact HO3.out, HB3.out⟩
end Go.Proofs.YthgghgecpjnoiaaDoor.Dc
namespace Go.Proofs.YthgghgecpjnoiaaDoor.Dd
open Go.RowKit Go.Proofs.YthgghgecpjnoiaaDoor.Pc Go.Proofs.YthgghgecpjnoiaaDoor.Pd Go.Proofs.YthgghgecpjnoiaaDoor.Pk Go.Proofs.YthgghgecpjnoiaaDoor.Da Go.Proofs.YthgghgecpjnoiaaDoor.Db Go.Proofs.YthgghgecpjnoiaaDoor.Dc

theorem RdB.all {w : World} {A : Option Addr} {l : List UInt8} (h : RdB w A l) (h0 : 0 < l.length) : ∃ b o, A = some ⟨b, o, none⟩ ∧ ∀ j (hj : j < l.length), w.cell? ⟨b, o + j, none⟩ = some (.int .u8 (l[j].toNat : Int)) := by
  obtain ⟨b, o, rfl, _⟩ := h.cell 0 h0
  refine ⟨b, o, rfl, fun j hj => ?_⟩
  obtain ⟨b2, o2, e, g⟩ := h.cell j hj
  cases e
  exact g

theorem own_le {w : World} {base base' size n : Nat} {e : TypeId} {v : Value} {xs : List Value} (h : w.ownsRow base e size v n xs) (hb : base' ≤ base) : w.ownsRow base' e size v n xs :=
  ⟨h.1, h.2.imp id fun ⟨g, cap, cur, e1, hg, r⟩ => ⟨g, cap, cur, e1, Nat.le_trans hb hg, r⟩⟩

/-- append(own row of texts, row of texts ...), for longer rows. -/
theorem wpList_appn {ops : Array Oper} {rest : List Oper} {o : Oper} {a : Act} {w : World} {Q : Exit → Act → World → Prop} (hgd : o.guard = none) (s x : Operand)
    (ho : o.op = .call { callee := .builtin .append, args := #[s, x], argTypes := #[27, 27] }) (base : Nat) (v : Value) (xs : List ByteArray) (hs : a.eval s = v) (hown : OwnS w base v xs)
    (A : Option Addr) (c : Nat) (l : List ByteArray) (hx : a.eval x = .slice A l.length c) (hr : RdS w A l) (hz : A = none → c = 0) (hn : xs.length + l.length ≤ 1000000) (hbase : base ≤ w.heap.size)
    (h : ∀ v' w', OwnS w' base v' (xs ++ l) → Below base w w' → wpList Tryd.prog ops Q rest (a.put o.dst v') w') : wpList Tryd.prog ops Q (o :: rest) a w := by
  obtain ⟨i0, hi, hz0, hz1, hz2⟩ := info_parts info9
  cases A with
  | none =>
    have hl : l = [] := by
      rcases hr with h | ⟨b, o', h, _⟩
      · exact h
      · cases h
    subst hl
    rw [hz rfl] at hx
    refine wpList_append_own_none hgd s x 27 ho base 9 i0 1 Tryd.underlying27 hi v xs.length (xs.map Value.string) hs hown hx ?_
    exact h v w (by rw [List.append_nil]; exact hown) (Below.refl _ _)
  | some ad =>
    refine wpList_append_own w hgd s x 27 ho base 9 i0 (.string ByteArray.empty) 1 16 Tryd.underlying27 hi hz0 hz1 hz2 rfl (by decide) v xs.length (xs.map Value.string) hs hown ad l.length c (l.map Value.string) hx (by simp) ?_ (by simp [Value.oneCell']) (by unfold maxLen; omega) (by omega) hbase ?_
    · intro j u hj
      rcases hr with rfl | ⟨b, o', he, hcell⟩
      · simp at hj
      · obtain rfl := Option.some.inj he
        rw [List.getElem?_map] at hj
        cases hlj : l[j]? with
        | none => rw [hlj] at hj; cases hj
        | some y =>
          rw [hlj] at hj
          obtain rfl := Option.some.inj hj
          have := hcell j y hlj
          by_cases hj0 : j = 0
          · subst hj0; simpa [Addr.add] using this
          · simpa [Addr.add, hj0] using this
    · intro v' w' h1 h2 _
      refine h v' w' ?_ ?_
      · unfold OwnS
        rw [List.map_append, List.length_append]
        exact h1
      · exact (Below.refl base w).grown h2 hbase (fun k hk => Go.Proofs.YthgghgecpjnoiaaDoorW.PrintWords.own_base hown k hk)

set_option maxHeartbeats 4000000 in
set_option maxRecDepth 100000 in
theorem rlines_any (A : Option Addr) (c : Nat) (l : List UInt8) (w : World) (hr : RdB w A l) (hc : l.length ≤ c) (hl : l.length ≤ 900000) :
    Calls Tryd.prog 17 #[.slice A l.length c] w fun e w' => ∃ v, e = .returned v ∧ OwnS w' w.heap.size v ((linesL l).map tb) ∧ Below w.heap.size w w' := by
  obtain ⟨T, HT⟩ : ∃ T, Hid (linesL l = T) := ⟨_, Lib.hid rfl⟩
  rw [HT.out]
  have HT' : Hid (lns [] (wholeL l) = T) := Lib.hid HT.out
  have hwl : (wholeL l).length ≤ l.length + 2 := by unfold wholeL; split <;> simp [crlf]
  go_enter Tryd.func17, Tryd.ntmps17
  go_wp2_with fail
  refine (rwhole_any A c l w hr hc (by omega)).mono ?_
  rintro e w1 ⟨v, rfl, ho, hb⟩
  obtain ⟨A2, n2, rfl, hr2, hn2⟩ := ho.reads
  have hB := Lib.hid hb
  have HR := Lib.hid hr2
  have HN := Lib.hid hn2
  clear ho hb hr2 hn2 HT hr hc
  generalize wholeL l = W at HT' hwl HR HN ⊢
  go_wp2_with fail
  go_loopw [4, 5, 6] (fun out at_ i wr => ∃ (k atn : Nat) (ls : List (List UInt8)), i = .int .i64 ((k : Int) + 1) ∧ at_ = .int .i64 atn ∧ atn ≤ k + 1 ∧ k ≤ W.length ∧ ls.length ≤ k + 1 ∧ Hid (OwnS wr w1.heap.size out (ls.map tb)) ∧ Hid (ls ++ todo W atn (k + 1) = T) ∧ Hid (Below w1.heap.size w1 wr)) (fun _ _ i _ => W.length + 1 - (intOf i).toNat)
  case atStart => exact ⟨0, 0, [], rfl, rfl, by omega, by omega, by simp, Lib.hid (World.ownsRow_nil _ _ _ _), Lib.hid (by rw [todo_start, HT'.out]; rfl), Lib.hid (Below.refl _ _)⟩
  case round =>
    obtain ⟨k, atn, ls, rfl, rfl, hat, hk, hls, HO, HL, HB⟩ := hrel
    by_cases hlt : k + 1 < W.length
    · have i1 : (k : Int) + 1 < W.length := by omega
      obtain ⟨b, o, rfl, hcell⟩ := RdB.all (HR.out.below HB.out) (by omega)
      have g1 := hcell (k + 1) hlt
      have g0 := hcell k (by omega)
      clear hcell
      by_cases c1 : ((W[k + 1]).toNat : Int) = 10
      · by_cases c2 : ((W[k]'(by omega)).toNat : Int) = 13
        · by_cases c3 : (atn : Int) < (k : Int) + 1
          · obtain ⟨A3, hs1, hs2, _⟩ := mid_of (some ⟨b, o, none⟩) n2 W (atn : Int) (k : Int) (by omega) (by omega) (by omega) HN.out
            have hx := RdB.text (hs2 wr (HR.out.below HB.out)) (n2 - (atn : Int).toNat)
            obtain ⟨p, HP⟩ : ∃ p, Hid ((W.take k).drop atn = p) := ⟨_, Lib.hid rfl⟩
            simp only [Int.toNat_natCast, HP.out] at hs1 hx
            clear hs2
            have HL2 : Hid ((ls ++ [p]) ++ todo W (k + 2) (k + 2) = T) := Lib.hid (by
              have h := HL.out
              rw [todo_hit (by omega) hlt (UInt8.toNat_inj.1 (by have : (10 : UInt8).toNat = 10 := rfl; omega)) (UInt8.toNat_inj.1 (by have : (13 : UInt8).toNat = 13 := rfl; simp only [Nat.add_sub_cancel]; omega))] at h
              rw [show k + 1 - 1 = k from rfl, HP.out] at h
              rw [List.append_assoc]
              exact h)
            have HRs := Lib.hid (rdS_new wr [tb p])
            clear HL HP
            go_wp2_with (at_builtin; refine wpList_appn rfl (.tmp 33) (.tmp 40) rfl w1.heap.size _ (ls.map tb) rfl (HO.out.alloc _) (some ⟨wr.heap.size, 0, none⟩) 1 [tb p] rfl HRs.out (by simp) (by simp; omega) (by have := HB.out.size; simp; omega) ?_; intro v w2 ho hb; have HO2 := Lib.hid ho; have HB2 := Lib.hid ((HB.out.alloc HB.out.size (Obj.cells ([tb p].map Value.string).toArray 9)).trans hb); clear ho hb)
            go_roundw
            · exact ⟨k + 1, k + 2, ls ++ [p], by go_num, by go_num, by omega, by omega, by simp; omega, Lib.hid (by rw [List.map_append]; exact HO2.out), HL2, HB2⟩
            · simp [intOf]; omega
          · have HL2 : Hid (ls ++ todo W atn (k + 2) = T) := Lib.hid (by
              rw [← todo_miss (by omega) (by omega) hlt (fun h => c3 (by omega))]; exact HL.out)
            clear HL
            go_wp2
            go_roundw
            · exact ⟨k + 1, atn, ls, by go_num, rfl, by omega, by omega, by omega, HO, HL2, HB⟩
            · simp [intOf]; omega
        · have HL2 : Hid (ls ++ todo W atn (k + 2) = T) := Lib.hid (by
            rw [← todo_miss (by omega) (by omega) hlt (fun h => c2 (by have := h.2.2; simp only [Nat.add_sub_cancel] at this; rw [this]; rfl))]; exact HL.out)
          clear HL
          go_wp2
          go_roundw
          · exact ⟨k + 1, atn, ls, by go_num, rfl, by omega, by omega, by omega, HO, HL2, HB⟩
          · simp [intOf]; omega
      · have HL2 : Hid (ls ++ todo W atn (k + 2) = T) := Lib.hid (by
          rw [← todo_miss (by omega) (by omega) hlt (fun h => c1 (by rw [h.2.1]; rfl))]; exact HL.out)
        clear HL
        go_wp2
        go_roundw
        · exact ⟨k + 1, atn, ls, by go_num, rfl, by omega, by omega, by omega, HO, HL2, HB⟩
        · simp [intOf]; omega
    · have HE : Hid (ls = T) := Lib.hid (by
        have h := HL.out
        rw [todo_end (by omega) (by omega), List.append_nil] at h
        exact h)
      have i1 : ¬ (k : Int) + 1 < W.length := by omega
      clear HL
      go_wp2
      go_ret
      exact ⟨_, rfl, by rw [← HE.out]; exact own_le HO.out hB.out.size, bt hB.out HB.out⟩
end Go.Proofs.YthgghgecpjnoiaaDoor.Dd
namespace Go.Proofs.YthgghgecpjnoiaaDoor.De
open Go.RowKit Go.Proofs.YthgghgecpjnoiaaDoor.Pc Go.Proofs.YthgghgecpjnoiaaDoor.Pd Go.Proofs.YthgghgecpjnoiaaDoor.Pk Go.Proofs.YthgghgecpjnoiaaDoor.Da Go.Proofs.YthgghgecpjnoiaaDoor.Db Go.Proofs.YthgghgecpjnoiaaDoor.Dc Go.Proofs.YthgghgecpjnoiaaDoor.Dd

/-- All that the lines hold, with their ends. -/
def sumL (ls : List (List UInt8)) : Nat := (ls.map fun s => s.length + 2).sum
theorem lns_sum : ∀ (l cur : List UInt8), sumL (lns cur l) ≤ cur.length + l.length
  | [], cur => by simp [lns, sumL]
  | [_], cur => by simp [lns, sumL]
  | x :: y :: r, cur => by
    rw [lns]
    split
    · have := lns_sum r []
      simp [sumL] at this ⊢
      omega
    · have := lns_sum (y :: r) (cur ++ [x])
      simp at this ⊢
      omega
theorem whole_len (l : List UInt8) : (wholeL l).length ≤ l.length + 2 := by unfold wholeL; split <;> simp [crlf]
theorem lines_sum (l : List UInt8) : sumL (linesL l) ≤ l.length + 2 := by
  have := lns_sum (wholeL l) []
  have := whole_len l
  unfold linesL
  simp at *
  omega
theorem sum_len (ls : List (List UInt8)) : ls.length * 2 ≤ sumL ls := by
  induction ls with
  | nil => simp
  | cons s ls ih => simp [sumL] at ih ⊢; omega
theorem body_len (ls : List (List UInt8)) : (bodyL ls).length ≤ sumL ls + ls.length := by
  induction ls with
  | nil => simp [bodyL]
  | cons s ls ih =>
    simp [bodyL, sumL, List.flatMap_cons] at ih ⊢
    have : (dotL s).length ≤ s.length + 3 := by unfold dotL; split <;> simp [crlf]
    omega
theorem body_take (ls : List (List UInt8)) (k : Nat) (hk : k < ls.length) : bodyL (ls.take (k + 1)) = bodyL (ls.take k) ++ dotL ls[k] := by
  unfold bodyL
  rw [List.take_succ_eq_append_getElem hk, List.flatMap_append, List.flatMap_cons, List.flatMap_nil, List.append_nil]
theorem body_take_len (ls : List (List UInt8)) (k : Nat) : (bodyL (ls.take k)).length ≤ 2 * sumL ls := by
  have h1 := body_len (ls.take k)
  have h2 := sum_len (ls.take k)
  have h3 : sumL (ls.take k) ≤ sumL ls := by
    have e : ∀ a b : List (List UInt8), sumL (a ++ b) = sumL a + sumL b := fun a b => by simp [sumL]
    have := e (ls.take k) (ls.drop k)
    rw [List.take_append_drop] at this
    omega
  omega

set_option maxHeartbeats 4000000 in
set_option maxRecDepth 100000 in
theorem rencode_any (A : Option Addr) (c : Nat) (l : List UInt8) (w : World) (hr : RdB w A l) (hc : l.length ≤ c) (hl : l.length ≤ 100000) :
    Calls Tryd.prog 12 #[.slice A l.length c] w fun e w' => ∃ v, e = .returned v ∧ OwnB w' w.heap.size v (encL l) ∧ Below w.heap.size w w' := by
  obtain ⟨E, HE0⟩ : ∃ E, Hid (encL l = E) := ⟨_, Lib.hid rfl⟩
  rw [HE0.out]
  go_enter Tryd.func12, Tryd.ntmps12
  go_wp2_with fail
  refine (rlines_any A c l w hr hc (by omega)).mono ?_
  rintro e w1 ⟨v, rfl, ho, hb⟩
  obtain ⟨A2, n2, rfl, hr2, hn2⟩ := ho.reads
  have hB := Lib.hid hb
  have HR := Lib.hid hr2
  have HN := Lib.hid hn2
  have hs := lines_sum l
  have HT : Hid (E = bodyL (linesL l) ++ [46, 13, 10]) := Lib.hid HE0.out.symm
  clear HE0
  clear ho hb hr2 hn2 hr hc
  have hT9 := sum_len (linesL l)
  generalize linesL l = T at HT hs HR HN hT9 ⊢
  rw [List.length_map]
  go_wp2_with fail
  go_loopw [4, 5] (fun out i wr => ∃ k : Nat, i = .int .i64 k ∧ k ≤ T.length ∧ Hid (OwnB wr w1.heap.size out (bodyL (T.take k))) ∧ Hid (Below w1.heap.size w1 wr)) (fun _ i _ => T.length - (intOf i).toNat)
  case atStart => exact ⟨0, rfl, by omega, Lib.hid (World.ownsRow_nil _ _ _ _), Lib.hid (Below.refl _ _)⟩
  case round =>
    obtain ⟨k, rfl, hk, HO, HB⟩ := hrel
    have hbl := body_take_len T k
    by_cases hlt : k < T.length
    · have i1 : (k : Int) < T.length := by omega
      obtain ⟨b, o, rfl, g1⟩ := HR.out.cell k (by simpa using hlt)
      rw [List.getElem_map] at g1
      have hbt := body_take T k hlt
      have hpl : T[k].length + 2 ≤ sumL T := by
        have e : ∀ ls : List (List UInt8), ∀ p ∈ ls, p.length + 2 ≤ sumL ls := by
          intro ls p hp
          induction ls with
          | nil => cases hp
          | cons s ls ih =>
            rcases List.mem_cons.1 hp with rfl | h
            · simp [sumL]
            · have := ih h; simp [sumL] at this ⊢; omega
        exact e T _ (List.getElem_mem hlt)
      generalize T[k] = p at g1 hbt hpl
      have HBT := Lib.hid hbt
      clear hbt
      generalize bodyL (T.take k) = D at HO hbl HBT
      have hps : (tb p).size = p.length := by rw [← tl_len, tl_tb]
      cases p with
      | nil =>
        obtain ⟨x, hx⟩ : ∃ x, tb [] = x := ⟨_, rfl⟩
        have hxl : x.toList = [] := by rw [Lib.toList_data, ← hx]; rfl
        have htl : tl x = [] := by rw [← hx, tl_tb]
        have hn : (x.toList != ([] : List UInt8)) = false := by rw [hxl]; rfl
        rw [hx] at g1 hps
        have g := keepC HB.out g1
        have HE : Hid (bodyL (T.take (k + 1)) = D ++ tl x ++ crlf) := Lib.hid (by rw [HBT.out, htl]; simp [dotL])
        simp only [List.length_nil] at hps
        clear HBT htl hx g1
        go_wp2_with (first
          | (at_builtin; refine wpList_str rfl (.tmp 30) (.tmp 34) rfl w1.heap.size _ D rfl HO.out x rfl (by (try simp only [List.length_append, tl_len, List.length_cons, List.length_nil]); omega) HB.out.size ?_; intro v2 w2 ho hb _; have Ow2 := Lib.hid ho; have Bw2 := Lib.hid (HB.out.trans hb); clear ho hb)
          | (at_builtin; refine wpList_row rfl (.tmp 36) (.tmp 37) rfl w1.heap.size _ (D ++ tl x) rfl (Ow2.out.alloc _) (some ⟨w2.heap.size, 0, none⟩) 2 crlf rfl (RdB.lit w2 crlf (by decide)) (by simp only [List.length_append, tl_len, crlf, List.length_cons, List.length_nil]; omega) (by have := Bw2.out.size; simp; omega) ?_; intro v3 w3 ho hb _; have Ow3 := Lib.hid ho; have Bw3 := Lib.hid ((Bw2.out.alloc Bw2.out.size (Obj.cells ((crlf : List UInt8).map bv).toArray 5)).trans hb); clear ho hb))
        go_roundw
        · exact ⟨k + 1, by go_num, hlt, Lib.hid (by rw [HE.out]; exact Ow3.out), Bw3⟩
        · simp [intOf]; omega
      | cons d r =>
        obtain ⟨x, hx⟩ : ∃ x, tb (d :: r) = x := ⟨_, rfl⟩
        have hxl : x.toList = d :: r := by rw [Lib.toList_data, ← hx]; rfl
        have htl : tl x = d :: r := by rw [← hx, tl_tb]
        have hn : (x.toList != ([] : List UInt8)) = true := by rw [hxl]; rfl
        have hn1 : ¬ x.toList = [] := by rw [hxl]; simp
        have hs1 : 0 < x.size := by rw [← hx, hps]; simp
        have hn2 : (x.toList == ([] : List UInt8)) = false := by rw [hxl]; rfl
        have hn3 : (x != (⟨#[]⟩ : ByteArray)) = true := by subst hx; rfl
        have hn4 : ¬ x = (⟨#[]⟩ : ByteArray) := by subst hx; intro h; have := congrArg ByteArray.size h; simp [tb, ByteArray.size] at this
        have hx0 : x[0]'hs1 = d := by subst hx; rfl
        rw [hx] at g1 hps
        have g := keepC HB.out g1
        have G1 := Lib.hid g1
        clear g1
        simp only [List.length_cons] at hps hpl
        by_cases c1 : d = 46
        · have HE : Hid (bodyL (T.take (k + 1)) = D ++ [46] ++ tl x ++ crlf) := Lib.hid (by rw [HBT.out, htl, c1]; simp [dotL])
          have hx1 : ((x[0]'hs1).toNat : Int) = 46 := by rw [hx0, c1]; rfl
          clear HBT hxl htl hx hx0 c1
          go_wp2_with (first
            | (at_builtin; refine wpList_row rfl (.tmp 27) (.tmp 28) rfl w1.heap.size _ D rfl (HO.out.alloc _) (some ⟨wr.heap.size, 0, none⟩) 1 [46] rfl (RdB.lit wr [46] (by decide)) (by simp only [List.length_cons, List.length_nil]; omega) (by have := HB.out.size; simp; omega) ?_; intro v2 w2 ho hb _; have Ow2 := Lib.hid ho; have Bw2 := Lib.hid ((HB.out.alloc HB.out.size (Obj.cells (([46] : List UInt8).map bv).toArray 5)).trans hb); clear ho hb; have g2 := keepC Bw2.out G1.out)
            | (at_builtin; refine wpList_str rfl (.tmp 30) (.tmp 34) rfl w1.heap.size _ (D ++ [46]) rfl Ow2.out x rfl (by (try simp only [List.length_append, List.length_cons, List.length_nil]); omega) Bw2.out.size ?_; intro v3 w3 ho hb _; have Ow3 := Lib.hid ho; have Bw3 := Lib.hid (Bw2.out.trans hb); clear ho hb)
            | (at_builtin; refine wpList_row rfl (.tmp 36) (.tmp 37) rfl w1.heap.size _ (D ++ [46] ++ tl x) rfl (Ow3.out.alloc _) (some ⟨w3.heap.size, 0, none⟩) 2 crlf rfl (RdB.lit w3 crlf (by decide)) (by simp only [List.length_append, tl_len, crlf, List.length_cons, List.length_nil]; omega) (by have := Bw3.out.size; simp; omega) ?_; intro v4 w4 ho hb _; have Ow4 := Lib.hid ho; have Bw4 := Lib.hid ((Bw3.out.alloc Bw3.out.size (Obj.cells ((crlf : List UInt8).map bv).toArray 5)).trans hb); clear ho hb))
          go_roundw
          · exact ⟨k + 1, by go_num, hlt, Lib.hid (by rw [HE.out]; exact Ow4.out), Bw4⟩
          · simp [intOf]; omega
        · have HE : Hid (bodyL (T.take (k + 1)) = D ++ tl x ++ crlf) := Lib.hid (by rw [HBT.out, htl]; simp [dotL, c1])
          obtain ⟨q, hq⟩ : ∃ q : Int, (d.toNat : Int) = q := ⟨_, rfl⟩
          have hx1 : ((x[0]'hs1).toNat : Int) = q := by rw [hx0]; exact hq
          have hq1 : ¬ q = 46 := by
            intro h
            exact c1 (UInt8.toNat_inj.1 (by have : (46 : UInt8).toNat = 46 := rfl; omega))
          have hq2 : (q == 46) = false := by simpa using hq1
          have hq3 : decide (q = 46) = false := decide_eq_false hq1
          clear hq
          clear HBT hxl htl hx hx0 c1
          go_wp2_with (first
            | (at_builtin; refine wpList_str rfl (.tmp 30) (.tmp 34) rfl w1.heap.size _ D rfl HO.out x rfl (by (try simp only [List.length_append, tl_len, List.length_cons, List.length_nil]); omega) HB.out.size ?_; intro v2 w2 ho hb _; have Ow2 := Lib.hid ho; have Bw2 := Lib.hid (HB.out.trans hb); clear ho hb)
            | (at_builtin; refine wpList_row rfl (.tmp 36) (.tmp 37) rfl w1.heap.size _ (D ++ tl x) rfl (Ow2.out.alloc _) (some ⟨w2.heap.size, 0, none⟩) 2 crlf rfl (RdB.lit w2 crlf (by decide)) (by simp only [List.length_append, tl_len, crlf, List.length_cons, List.length_nil]; omega) (by have := Bw2.out.size; simp; omega) ?_; intro v3 w3 ho hb _; have Ow3 := Lib.hid ho; have Bw3 := Lib.hid ((Bw2.out.alloc Bw2.out.size (Obj.cells ((crlf : List UInt8).map bv).toArray 5)).trans hb); clear ho hb))
          go_roundw
          · exact ⟨k + 1, by go_num, hlt, Lib.hid (by rw [HE.out]; exact Ow3.out), Bw3⟩
          · simp [intOf]; omega
    · have i1 : ¬ (k : Int) < T.length := by omega
      rw [List.take_of_length_le (by omega)] at HO hbl
      have h3 : (⟨#[46, 13, 10]⟩ : ByteArray).size = 3 := rfl
      go_wp2_with (at_builtin; refine wpList_str rfl (.tmp 39) (.const (.string ⟨#[46, 13, 10]⟩)) rfl w1.heap.size _ (bodyL T) rfl HO.out ⟨#[46, 13, 10]⟩ rfl (by (try simp only [List.length_append, tl_len, List.length_cons, List.length_nil]); omega) HB.out.size ?_; intro v2 w2 ho hb _; have Ow2 := Lib.hid ho; have Bw2 := Lib.hid (HB.out.trans hb); clear ho hb)
      go_ret
      exact ⟨_, rfl, by rw [HT.out]; exact own_le Ow2.out hB.out.size, bt hB.out Bw2.out⟩
end Go.Proofs.YthgghgecpjnoiaaDoor.De
namespace Go.Proofs.YthgghgecpjnoiaaDoor.Df
open Go.RowKit Go.Proofs.YthgghgecpjnoiaaDoor.Pc Go.Proofs.YthgghgecpjnoiaaDoor.Pd Go.Proofs.YthgghgecpjnoiaaDoor.Da Go.Proofs.YthgghgecpjnoiaaDoor.Db Go.Proofs.YthgghgecpjnoiaaDoor.Dc Go.Proofs.YthgghgecpjnoiaaDoor.Dd

set_option maxHeartbeats 1000000 in
set_option maxRecDepth 100000 in
theorem clone_any (A : Option Addr) (c : Nat) (l : List UInt8) (w : World) (hr : RdB w A l) (hl : l.length ≤ 1000000) :
    Calls Tryd.prog 40 #[.slice A l.length c] w fun e w' => ∃ v, e = .returned v ∧ OwnB w' w.heap.size v l ∧ Below w.heap.size w w' := by
  have q22 : ∀ (w : World) (a : Option Addr) (n c n' c' : Nat), (binOp .eql 22 (.slice a n c) (.slice none n' c')).run Tryd.prog w = .ok (.bool a.isNone) w := fun w a n c n' c' => Lib.run_eql_slice_nil w _ _ a n c n' c' Tryd.underlying22
  cases A with
  | none =>
    have h0 : l = [] := by
      by_cases h : l = []
      · exact h
      · obtain ⟨b, o, e, _⟩ := hr.cell 0 (List.length_pos_iff.2 h)
        cases e
    subst h0
    clear hr hl
    go_enter Tryd.func40, Tryd.ntmps40
    go_wp2
    go_ret
    exact ⟨_, rfl, OwnB.nil _ _, Below.refl _ _⟩
  | some ad =>
    have HR := Lib.hid hr
    have Hal : Hid (Below w.heap.size w (w.alloc (Obj.cells #[] 5))) := Lib.hid ((Below.refl _ _).alloc (Nat.le_refl _) _)
    have HR1 := Lib.hid (HR.out.below Hal.out)
    clear hr
    go_enter Tryd.func40, Tryd.ntmps40
    go_wp2_with (at_builtin; refine wpList_row rfl (.tmp 5) (.tmp 6) rfl w.heap.size _ [] rfl (OwnB.empty w) (some ad) c l rfl HR1.out (by simp only [List.length_nil]; omega) (by simp) ?_; intro v w1 ho hb _; have HO := Lib.hid ho; have HB := Lib.hid (Hal.out.trans hb); clear ho hb)
    go_ret
    exact ⟨_, rfl, HO.out, HB.out⟩
end Go.Proofs.YthgghgecpjnoiaaDoor.Df
namespace Go.Proofs.YthgghgecpjnoiaaDoor.Dg
open Go.RowKit Go.Proofs.YthgghgecpjnoiaaDoor.Pc Go.Proofs.YthgghgecpjnoiaaDoor.Pd Go.Proofs.YthgghgecpjnoiaaDoor.Da Go.Proofs.YthgghgecpjnoiaaDoor.Db Go.Proofs.YthgghgecpjnoiaaDoor.Dc Go.Proofs.YthgghgecpjnoiaaDoor.Dd

set_option maxHeartbeats 1000000 in
set_option maxRecDepth 100000 in
theorem grow_nil (n : Nat) (w : World) (h0 : 0 < n) (hn : n ≤ 1000000) :
    Calls Tryd.prog 54 #[.slice none 0 0, .int .i64 n] w fun e w' => ∃ v, e = .returned v ∧ OwnB w' w.heap.size v [] ∧ Below w.heap.size w w' := by
  obtain ⟨i0, hi, hz0, hz1, hz2⟩ := info_parts info5
  have hrun := Lib.run_append_nil_zeros (P := Tryd.prog) w 22 3 22 5 i0 (.int .u8 0) .i64 .i64 Tryd.underlying22 Tryd.underlying3 hi hz0 n h0 (by rw [hz1]; decide) (by omega) (by rw [hz2]; omega)
  have i1 : (0 : Int) < n := by omega
  have i2 : ¬ (n : Int) < 0 := by omega
  go_enter Tryd.func54, Tryd.ntmps54
  go_wp2_with (at_builtin; refine Lib.wpList_append_run _ rfl _ _ _ _ rfl _ _ rfl rfl _ _ hrun ?_)
  go_ret
  have hge := grownCap_ge w n 0 5
  have hle := grownCap_le_maxLen w n 0 5 (by unfold maxLen; omega)
  refine ⟨_, rfl, ?_, (Below.refl w.heap.size w).drew.alloc (Nat.le_refl _) _⟩
  refine World.ownsRow_made w.drew _ (grownCap w n 0 5) (Nat.le_refl _) hle ?_
  rw [Array.size_append, size_zeroCells, size_zeroCells]
  have h1 : #[Value.int .u8 0].size = 1 := rfl
  rw [h1]
  omega
end Go.Proofs.YthgghgecpjnoiaaDoor.Dg
namespace Go.Proofs.YthgghgecpjnoiaaDoor.Dh
open Go.RowKit Go.Proofs.YthgghgecpjnoiaaDoor.Pc Go.Proofs.YthgghgecpjnoiaaDoor.Pd Go.Proofs.YthgghgecpjnoiaaDoor.Da Go.Proofs.YthgghgecpjnoiaaDoor.Db Go.Proofs.YthgghgecpjnoiaaDoor.Dc Go.Proofs.YthgghgecpjnoiaaDoor.Dd Go.Proofs.YthgghgecpjnoiaaDoor.Dg

set_option maxHeartbeats 2000000 in
set_option maxRecDepth 100000 in
theorem concat_two (g : Nat) (A B : Option Addr) (ca cb : Nat) (l m : List UInt8) (w : World) (k0 : w.cell? ⟨g, 0, none⟩ = some (.slice A l.length ca)) (k1 : w.cell? ⟨g, 1, none⟩ = some (.slice B m.length cb)) (ha : RdB w A l) (hb : RdB w B m) (h0 : 0 < l.length + m.length) (hl : l.length + m.length ≤ 1000000) :
    Calls Tryd.prog 41 #[.slice (some ⟨g, 0, none⟩) 2 2] w fun e w' => ∃ v, e = .returned v ∧ OwnB w' w.heap.size v (l ++ m) ∧ Below w.heap.size w w' := by
  have HA := Lib.hid ha
  have HB := Lib.hid hb
  have K0 := Lib.hid k0
  have K1 := Lib.hid k1
  clear ha hb k0 k1
  go_enter Tryd.func41, Tryd.ntmps41
  go_wp2_with fail
  go_loop [3, 11] (fun s i => (i = .int .i64 0 ∧ s = .int .i64 0) ∨ (i = .int .i64 1 ∧ s = .int .i64 l.length) ∨ (i = .int .i64 2 ∧ s = .int .i64 ((l.length + m.length : Nat) : Int))) (fun _ i => 2 - (intOf i).toNat)
  case atStart => exact .inl ⟨rfl, rfl⟩
  case round =>
    rcases hrel with ⟨rfl, rfl⟩ | ⟨rfl, rfl⟩ | ⟨rfl, rfl⟩
    · have k0 := K0.out
      have i1 : ¬ (l.length : Int) < 0 := by omega
      go_wp2
      go_light
      exact ⟨.inr (.inl ⟨by go_num, by go_num⟩), by simp [intOf]⟩
    · have k1 := K1.out
      have i1 : ¬ (l.length : Int) + m.length < 0 := by omega
      go_wp2
      go_light
      exact ⟨.inr (.inr ⟨by go_num, by go_num⟩), by simp [intOf]⟩
    · go_wp2_with fail
      refine (grow_nil (l.length + m.length) w h0 hl).mono ?_
      rintro e w1 ⟨v, rfl, ho, hb⟩
      have HO := Lib.hid ho
      have HW := Lib.hid hb
      clear ho hb
      go_wp2_with fail
      go_loopw [6, 27] (fun s i wr => ∃ xs : List UInt8, Hid (OwnB wr w.heap.size s xs) ∧ Hid (Below w.heap.size w wr) ∧ ((i = .int .i64 0 ∧ xs = []) ∨ (i = .int .i64 1 ∧ xs = l) ∨ (i = .int .i64 2 ∧ xs = l ++ m))) (fun _ i _ => 2 - (intOf i).toNat)
      case atStart => exact ⟨[], HO, HW, .inl ⟨rfl, rfl⟩⟩
      case round =>
        obtain ⟨xs, HO2, HW2, hcase⟩ := hrel
        rcases hcase with ⟨rfl, rfl⟩ | ⟨rfl, rfl⟩ | ⟨rfl, rfl⟩
        · have k0 := keepC HW2.out K0.out
          go_wp2_with (at_builtin; refine wpList_row rfl (.tmp 31) (.tmp 32) rfl w.heap.size _ [] rfl HO2.out A ca l rfl (HA.out.below HW2.out) (by simp only [List.length_nil]; omega) HW2.out.size ?_; intro v2 w2 ho hb _; have HO3 := Lib.hid ho; have HW3 := Lib.hid (HW2.out.trans hb); clear ho hb)
          go_roundw
          · exact ⟨l, HO3, HW3, .inr (.inl ⟨by go_num, rfl⟩)⟩
          · simp [intOf]
        · have k1 := keepC HW2.out K1.out
          go_wp2_with (at_builtin; refine wpList_row rfl (.tmp 31) (.tmp 32) rfl w.heap.size _ xs rfl HO2.out B cb m rfl (HB.out.below HW2.out) (by omega) HW2.out.size ?_; intro v2 w2 ho hb _; have HO3 := Lib.hid ho; have HW3 := Lib.hid (HW2.out.trans hb); clear ho hb)
          go_roundw
          · exact ⟨xs ++ m, HO3, HW3, .inr (.inr ⟨by go_num, rfl⟩)⟩
          · simp [intOf]
        · go_wp2
          go_ret
          exact ⟨_, rfl, HO2.out, HW2.out⟩
end Go.Proofs.YthgghgecpjnoiaaDoor.Dh
namespace Go.Proofs.YthgghgecpjnoiaaDoor.Di
open Go.RowKit Go.Proofs.YthgghgecpjnoiaaDoor.Pc Go.Proofs.YthgghgecpjnoiaaDoor.Pd Go.Proofs.YthgghgecpjnoiaaDoor.Da Go.Proofs.YthgghgecpjnoiaaDoor.Db Go.Proofs.YthgghgecpjnoiaaDoor.Dc Go.Proofs.YthgghgecpjnoiaaDoor.Dd Go.Proofs.YthgghgecpjnoiaaDoor.Df Go.Proofs.YthgghgecpjnoiaaDoor.Dg Go.Proofs.YthgghgecpjnoiaaDoor.Dh

def nu (l : List UInt8) : List Int := l.map fun x => (x.toNat : Int)
theorem bytesOf_nu (l : List UInt8) : Lib.bytesOf (nu l) = l := by
  unfold Lib.bytesOf nu
  rw [List.map_map]
  conv => rhs; rw [← List.map_id l]
  apply List.map_congr_left
  intro x _
  simp
theorem bytesIn {w : World} {A : Option Addr} {l : List UInt8} (h : RdB w A l) : Lib.BytesIn w A l.length (nu l) := by
  intro h0
  obtain ⟨b, o, rfl, hc⟩ := RdB.all h h0
  refine ⟨b, o, rfl, fun i hi => ?_⟩
  rw [hc i hi]
  simp [nu, List.getD_eq_getElem?_getD, hi]
theorem suffix_any (A B : Option Addr) (c d : Nat) (l m : List UInt8) (w : World) (ha : RdB w A l) (hb : RdB w B m) (hc : l.length ≤ c) :
    Calls Tryd.prog 39 #[.slice A l.length c, .slice B m.length d] w fun e w' => e = .returned (.bool (m.isSuffixOf l)) ∧ w' = w := by
  have h := Tryd.bytes_HasSuffix_all A B l.length c m.length d (nu l) (nu m) w (by simp [nu]) (by simp [nu]) hc ha.len ?_ ?_
  · rw [bytesOf_nu, bytesOf_nu] at h
    exact h
  · exact bytesIn ha
  · exact bytesIn hb

set_option maxHeartbeats 2000000 in
set_option maxRecDepth 100000 in
theorem whole_any (A : Option Addr) (c : Nat) (l : List UInt8) (w : World) (hr : RdB w A l) (hc : l.length ≤ c) (hl : l.length ≤ 900000) :
    Calls Tryd.prog 13 #[.slice A l.length c] w fun e w' => ∃ v, e = .returned v ∧ OwnB w' w.heap.size v (wholeL l) ∧ Below w.heap.size w w' := by
  have HR := Lib.hid hr
  have HC := Lib.hid hc
  clear hr hc
  obtain ⟨W, HW⟩ : ∃ W, Hid (wholeL l = W) := ⟨_, Lib.hid rfl⟩
  rw [HW.out]
  by_cases k : l = []
  · have HL : Hid (W = l) := Lib.hid (by rw [← HW.out, whole_same (.inl k)])
    have k0 : (l.length : Int) = 0 := by rw [k]; rfl
    clear k HW
    go_enter Tryd.func13, Tryd.ntmps13
    go_wp2_with fail
    refine (clone_any A c l w HR.out (by omega)).mono ?_
    rintro e w1 ⟨v, rfl, ho, hb⟩
    go_wp2
    go_ret
    exact ⟨_, rfl, by rw [HL.out]; exact ho, hb⟩
  · have k0 : ¬ (l.length : Int) = 0 := by have := List.length_pos_iff.2 k; omega
    have hcv := Lib.run_convert_bytes_const (P := Tryd.prog) w 22 5 #[.int .u8 13, .int .u8 10] 2 2 Tryd.underlying22 Tryd.underlying5
    go_enter Tryd.func13, Tryd.ntmps13
    go_wp2_with fail
    have hF : RdB (w.alloc (.cells #[.int .u8 13, .int .u8 10] 5 (2, 3))) (some ⟨w.heap.size, 0, none⟩) crlf := RdB.mk (by decide) fun j hj => by
      rw [Nat.zero_add, cell_of_row _ _ _ _ _ _ (heap_alloc_new w _)]
      match j, hj with
      | 0, _ => rfl
      | 1, _ => rfl
    have hbF : Below w.heap.size w (w.alloc (.cells #[.int .u8 13, .int .u8 10] 5 (2, 3))) := (Below.refl _ _).alloc (Nat.le_refl _) _
    refine (suffix_any A (some ⟨w.heap.size, 0, none⟩) c 2 l crlf _ (HR.out.below hbF) hF HC.out).mono ?_
    rintro e w1 ⟨rfl, rfl⟩
    cases ks : crlf.isSuffixOf l with
    | true =>
      have HL : Hid (W = l) := Lib.hid (by rw [← HW.out, whole_same (.inr ks)])
      have HB := Lib.hid hbF
      have HR1 := Lib.hid (HR.out.below hbF)
      clear HW ks hF hbF
      go_wp2_with fail
      refine (clone_any A c l _ HR1.out (by omega)).mono ?_
      rintro e w1 ⟨v, rfl, ho, hb⟩
      go_wp2
      go_ret
      exact ⟨_, rfl, by rw [HL.out]; exact own_le ho HB.out.size, bt HB.out hb⟩
    | false =>
      have HL : Hid (W = l ++ crlf) := Lib.hid (by rw [← HW.out, whole_more k ks])
      have HB := Lib.hid hbF
      have HR1 := Lib.hid (HR.out.below hbF)
      clear HW ks hF hbF hcv
      generalize w.alloc (.cells #[.int .u8 13, .int .u8 10] 5 (2, 3)) = F at HB HR1 ⊢
      have hcv := Lib.run_convert_bytes_const (P := Tryd.prog) F 22 5 #[.int .u8 13, .int .u8 10] 2 2 Tryd.underlying22 Tryd.underlying5
      go_wp2_with fail
      have hF : RdB (F.alloc (.cells #[.int .u8 13, .int .u8 10] 5 (2, 3))) (some ⟨F.heap.size, 0, none⟩) crlf := RdB.mk (by decide) fun j hj => by
        rw [Nat.zero_add, cell_of_row _ _ _ _ _ _ (heap_alloc_new F _)]
        match j, hj with
        | 0, _ => rfl
        | 1, _ => rfl
      have hbF : Below F.heap.size F (F.alloc (.cells #[.int .u8 13, .int .u8 10] 5 (2, 3))) := (Below.refl _ _).alloc (Nat.le_refl _) _
      have hsz : (F.alloc (.cells #[.int .u8 13, .int .u8 10] 5 (2, 3))).heap.size = F.heap.size + 1 := by simp
      have HR2 := HR1.out.below hbF
      have HB2 := bt HB.out hbF
      rw [← hsz]
      generalize F.alloc (.cells #[.int .u8 13, .int .u8 10] 5 (2, 3)) = G at hF HR2 HB2 ⊢
      have hbG : Below G.heap.size G (G.alloc (.cells #[.slice A l.length c, .slice (some ⟨F.heap.size, 0, none⟩) 2 2] 22)) := (Below.refl _ _).alloc (Nat.le_refl _) _
      refine (concat_two G.heap.size A (some ⟨F.heap.size, 0, none⟩) c 2 l crlf _ ?_ ?_ (HR2.below hbG) (hF.below hbG) (by simp [crlf]) (by simp [crlf]; omega)).mono ?_
      · rw [cell_of_row _ _ _ _ _ _ (heap_alloc_new G _)]; rfl
      · rw [cell_of_row _ _ _ _ _ _ (heap_alloc_new G _)]; rfl
      rintro e w1 ⟨v, rfl, ho, hb⟩
      have HO := Lib.hid ho
      have HB3 := Lib.hid (bt (bt HB2 hbG) hb)
      have hle := Lib.hid (bt HB2 hbG).size
      clear ho hb hbG HR2 HB2 hF hbF hsz hcv
      go_wp2
      go_ret
      exact ⟨_, rfl, by rw [HL.out]; exact own_le HO.out hle.out, HB3.out⟩
end Go.Proofs.YthgghgecpjnoiaaDoor.Di
namespace Go.Proofs.YthgghgecpjnoiaaDoor.Dj
open Go.RowKit Go.Proofs.YthgghgecpjnoiaaDoor.Pc Go.Proofs.YthgghgecpjnoiaaDoor.Pd Go.Proofs.YthgghgecpjnoiaaDoor.Pk Go.Proofs.YthgghgecpjnoiaaDoor.Da Go.Proofs.YthgghgecpjnoiaaDoor.Db Go.Proofs.YthgghgecpjnoiaaDoor.Dc Go.Proofs.YthgghgecpjnoiaaDoor.Dd Go.Proofs.YthgghgecpjnoiaaDoor.De Go.Proofs.YthgghgecpjnoiaaDoor.Di

theorem split_list (s : ByteArray) : ((Lib.splitB crlfB 0 (Lib.countB s crlfB) s).take (Lib.countB s crlfB)) = (lns [] (tl s)).map tb := by
  rw [← split_lines, List.map_map]
  conv => lhs; rw [← List.map_id (List.take _ _)]
  apply List.map_congr_left
  intro x _
  exact (tb_tl x).symm
set_option maxHeartbeats 2000000 in
set_option maxRecDepth 100000 in
theorem lines_any (A : Option Addr) (c : Nat) (l : List UInt8) (m : Int) (w : World) (hm : w.cell? ⟨0, 0, none⟩ = some (.int .i64 m)) (hr : RdB w A l) (hc : l.length ≤ c) (hl : l.length ≤ 900000) :
    Calls Tryd.prog 16 #[.slice A l.length c] w fun e w' => ∃ B d, e = .returned (.slice B ((linesL l).map tb).length d) ∧ RdS w' B ((linesL l).map tb) ∧ ((linesL l).map tb).length ≤ d ∧ Below w.heap.size w w' := by
  have HR := Lib.hid hr
  have HC := Lib.hid hc
  have HM := Lib.hid hm
  clear hr hc hm
  obtain ⟨T, HT⟩ : ∃ T, Hid ((linesL l).map tb = T) := ⟨_, Lib.hid rfl⟩
  rw [HT.out]
  by_cases k : l = []
  · subst k
    obtain rfl : [] = T := HT.out
    go_enter Tryd.func16, Tryd.ntmps16
    go_wp2
    go_ret
    exact ⟨none, 0, rfl, .inl rfl, by simp, Below.refl _ _⟩
  · have k0 : ¬ (l.length : Int) = 0 := by have := List.length_pos_iff.2 k; omega
    go_enter Tryd.func16, Tryd.ntmps16
    go_wp2_with fail
    refine (whole_any A c l w HR.out HC.out hl).mono ?_
    rintro e w1 ⟨v, rfl, ho, hb⟩
    obtain ⟨A2, n2, rfl, hr2, hn2⟩ := ho.reads
    have ht := hr2.text n2
    have hwl := whole_len l
    have HM1 := Lib.hid (keepC hb HM.out)
    have hB := Lib.hid hb
    go_wp2_with fail
    have hsz : (tb (wholeL l)).size = (wholeL l).length := by rw [← tl_len, tl_tb]
    refine (Tryd.strings_Split (tb (wholeL l)) ⟨#[13, 10]⟩ m w1 (by omega) HM1.out (by decide)).mono ?_
    rintro e w2 ⟨rfl, rfl⟩
    have hlen := Lib.splitB_all crlfB (by decide) 0 _ (tb (wholeL l)) rfl
    have hst := split_list (tb (wholeL l))
    rw [tl_tb] at hst
    have hst : (Lib.splitB crlfB 0 (Lib.countB (tb (wholeL l)) crlfB) (tb (wholeL l))).take (Lib.countB (tb (wholeL l)) crlfB) = T := hst.trans HT.out
    rw [show crlfB = ⟨#[13, 10]⟩ from rfl] at hst hlen
    generalize Lib.splitB ⟨#[13, 10]⟩ 0 (Lib.countB (tb (wholeL l)) ⟨#[13, 10]⟩) (tb (wholeL l)) = ps at hst hlen ⊢
    generalize Lib.countB (tb (wholeL l)) ⟨#[13, 10]⟩ = q at hst hlen ⊢
    have hTq : T.length = q := by rw [← hst, List.length_take]; omega
    have hq : q ≤ 900000 := by
      have h1 := lines_sum l
      have h2 := sum_len (linesL l)
      have h3 : (linesL l).length = T.length := by rw [← HT.out, List.length_map]
      omega
    have hRd : RdS (w1.alloc (.cells (ps.map Value.string).toArray 9)) (some ⟨w1.heap.size, 0, none⟩) ps := rdS_new w1 ps
    have hBw : Below w.heap.size w (w1.alloc (.cells (ps.map Value.string).toArray 9)) := bt hB.out ((Below.refl _ _).alloc (Nat.le_refl _) _)
    have hRT := Lib.hid (show RdS (w1.alloc (.cells (ps.map Value.string).toArray 9)) (some ⟨w1.heap.size, 0, none⟩) T from by
      rcases hRd with h | ⟨b, o, e, h⟩
      · exact .inl (by rw [← hst, h]; simp)
      · refine .inr ⟨b, o, e, fun j x hj => h j x ?_⟩
        rw [← hst] at hj
        have hjq : j < q := by have := (List.getElem?_eq_some_iff.1 hj).1; rw [List.length_take] at this; omega
        rwa [List.getElem?_take_of_lt hjq] at hj)
    have HBw := Lib.hid hBw
    have HTq := Lib.hid hTq
    clear hRd hBw hTq hst ht ho hb hr2
    generalize w1.alloc (.cells (ps.map Value.string).toArray 9) = G at hRT HBw ⊢
    go_wp2
    go_ret
    exact ⟨some ⟨w1.heap.size, 0, none⟩, q + 1, by rw [HTq.out]; rfl, hRT.out, by rw [HTq.out]; omega, HBw.out⟩
end Go.Proofs.YthgghgecpjnoiaaDoor.Dj
namespace Go.Proofs.YthgghgecpjnoiaaDoor.Dk
open Go.RowKit Go.Proofs.YthgghgecpjnoiaaDoor.Pc Go.Proofs.YthgghgecpjnoiaaDoor.Pd Go.Proofs.YthgghgecpjnoiaaDoor.Pk Go.Proofs.YthgghgecpjnoiaaDoor.Da Go.Proofs.YthgghgecpjnoiaaDoor.Db Go.Proofs.YthgghgecpjnoiaaDoor.Dc Go.Proofs.YthgghgecpjnoiaaDoor.Dd Go.Proofs.YthgghgecpjnoiaaDoor.De Go.Proofs.YthgghgecpjnoiaaDoor.Di Go.Proofs.YthgghgecpjnoiaaDoor.Dj
theorem has_dot (p : List UInt8) : Lib.hasPrefix (tb p).data.toList (⟨#[46]⟩ : ByteArray).data.toList = decide (p.head? = some 46) := by
  have e : (tb p).data.toList = p := tl_tb p
  rw [e]
  cases p with
  | nil => rfl
  | cons c r =>
    by_cases h : c = 46
    · subst h; simp [Lib.hasPrefix]
    · have h2 : ((46 : UInt8) == c) = false := beq_eq_false_iff_ne.2 (fun e => h e.symm)
      have h3 : Lib.hasPrefix (c :: r) (⟨#[46]⟩ : ByteArray).data.toList = ((46 : UInt8) == c && List.isPrefixOf [] r) := rfl
      rw [h3, h2, List.head?_cons, decide_eq_false (by simpa using h)]
      rfl
theorem sum_mem : ∀ (ls : List (List UInt8)), ∀ p ∈ ls, p.length + 2 ≤ sumL ls := by
  intro ls p hp
  induction ls with
  | nil => cases hp
  | cons s ls ih =>
    rcases List.mem_cons.1 hp with rfl | h
    · simp [sumL]
    · have := ih h; simp [sumL] at this ⊢; omega
set_option maxHeartbeats 4000000 in
set_option maxRecDepth 100000 in
theorem encode_any (A : Option Addr) (c : Nat) (l : List UInt8) (m : Int) (w : World) (hm : w.cell? ⟨0, 0, none⟩ = some (.int .i64 m)) (hr : RdB w A l) (hc : l.length ≤ c) (hl : l.length ≤ 100000) :
    Calls Tryd.prog 11 #[.slice A l.length c] w fun e w' => ∃ v, e = .returned v ∧ OwnB w' w.heap.size v (encL l) ∧ Below w.heap.size w w' := by
  obtain ⟨E, HE0⟩ : ∃ E, Hid (encL l = E) := ⟨_, Lib.hid rfl⟩
  rw [HE0.out]
  go_enter Tryd.func11, Tryd.ntmps11
  go_wp2_with fail
  refine (lines_any A c l m w hm hr hc (by omega)).mono ?_
  rintro e w1 ⟨A2, n2, rfl, hr2, hn2, hb⟩
  have hB := Lib.hid hb
  have HR := Lib.hid hr2
  have HN := Lib.hid hn2
  have hs := lines_sum l
  have HT : Hid (E = bodyL (linesL l) ++ [46, 13, 10]) := Lib.hid HE0.out.symm
  clear HE0
  clear hb hr2 hn2 hr hc hm
  have hT9 := sum_len (linesL l)
  generalize linesL l = T at HT hs HR HN hT9 ⊢
  rw [List.length_map]
  go_wp2_with fail
  go_loopw [3, 9] (fun out i wr => ∃ k : Nat, i = .int .i64 k ∧ k ≤ T.length ∧ Hid (OwnB wr w1.heap.size out (bodyL (T.take k))) ∧ Hid (Below w1.heap.size w1 wr)) (fun _ i _ => T.length - (intOf i).toNat)
  case atStart => exact ⟨0, rfl, by omega, Lib.hid (World.ownsRow_nil _ _ _ _), Lib.hid (Below.refl _ _)⟩
  case round =>
    obtain ⟨k, rfl, hk, HO, HB⟩ := hrel
    have hbl := body_take_len T k
    by_cases hlt : k < T.length
    · have i1 : (k : Int) < T.length := by omega
      obtain ⟨b, o, rfl, g1⟩ := HR.out.cell k (by simpa using hlt)
      rw [List.getElem_map] at g1
      have hbt := body_take T k hlt
      have hpl := sum_mem T _ (List.getElem_mem hlt)
      generalize T[k] = p at g1 hbt hpl
      generalize bodyL (T.take k) = D at HO hbl hbt
      have hps : (tb p).size = p.length := by rw [← tl_len, tl_tb]
      have hdot := has_dot p
      obtain ⟨x, hx⟩ : ∃ x, tb p = x := ⟨_, rfl⟩
      have htl : tl x = p := by rw [← hx, tl_tb]
      rw [hx] at g1 hps hdot
      have g := keepC HB.out g1
      have hsz : (x ++ ⟨#[13, 10]⟩ : ByteArray).size = x.size + 2 := by simp [ByteArray.size_append]; rfl
      have HDOT := Lib.hid hdot
      by_cases k1 : p.head? = some 46
      · have HE : Hid (bodyL (T.take (k + 1)) = D ++ [46] ++ tl (x ++ ⟨#[13, 10]⟩)) := Lib.hid (by rw [hbt, tl_append, htl]; simp [dotL, k1, crlf, tl])
        have HD : Hid (Lib.hasPrefix x.data.toList (⟨#[46]⟩ : ByteArray).data.toList = true) := Lib.hid (hdot.trans (decide_eq_true k1))
        clear hbt hdot HDOT htl hx g1 k1
        go_wp2_with fail
        refine (Tryd.strings_HasPrefix x ⟨#[46]⟩ wr).mono ?_
        rintro e w2 ⟨rfl, rfl⟩
        rw [HD.out]
        go_wp2_with (first
          | (at_builtin; refine wpList_row rfl (.tmp 15) (.tmp 16) rfl w1.heap.size _ D rfl (HO.out.alloc _) (some ⟨w2.heap.size, 0, none⟩) 1 [46] rfl (RdB.lit w2 [46] (by decide)) (by simp only [List.length_cons, List.length_nil]; omega) (by have := HB.out.size; simp; omega) ?_; intro v3 w3 ho hb _; have Ow3 := Lib.hid ho; have Bw3 := Lib.hid ((HB.out.alloc HB.out.size (Obj.cells (([46] : List UInt8).map bv).toArray 5)).trans hb); clear ho hb)
          | (at_builtin; refine wpList_str rfl (.tmp 18) (.tmp 20) rfl w1.heap.size _ (D ++ [46]) rfl Ow3.out (x ++ ⟨#[13, 10]⟩) rfl (by rw [hsz]; simp only [List.length_append, List.length_cons, List.length_nil]; omega) Bw3.out.size ?_; intro v4 w4 ho hb _; have Ow4 := Lib.hid ho; have Bw4 := Lib.hid (Bw3.out.trans hb); clear ho hb))
        go_roundw
        · exact ⟨k + 1, by go_num, hlt, Lib.hid (by rw [HE.out]; exact Ow4.out), Bw4⟩
        · simp [intOf]; omega
      · have HE : Hid (bodyL (T.take (k + 1)) = D ++ tl (x ++ ⟨#[13, 10]⟩)) := Lib.hid (by rw [hbt, tl_append, htl]; simp [dotL, k1, crlf, tl])
        have HD : Hid (Lib.hasPrefix x.data.toList (⟨#[46]⟩ : ByteArray).data.toList = false) := Lib.hid (hdot.trans (decide_eq_false k1))
        clear hbt hdot HDOT htl hx g1 k1
        go_wp2_with fail
        refine (Tryd.strings_HasPrefix x ⟨#[46]⟩ wr).mono ?_
        rintro e w2 ⟨rfl, rfl⟩
        rw [HD.out]
        go_wp2_with (at_builtin; refine wpList_str rfl (.tmp 18) (.tmp 20) rfl w1.heap.size _ D rfl HO.out (x ++ ⟨#[13, 10]⟩) rfl (by rw [hsz]; omega) HB.out.size ?_; intro v4 w4 ho hb _; have Ow4 := Lib.hid ho; have Bw4 := Lib.hid (HB.out.trans hb); clear ho hb)
        go_roundw
        · exact ⟨k + 1, by go_num, hlt, Lib.hid (by rw [HE.out]; exact Ow4.out), Bw4⟩
        · simp [intOf]; omega
    · have i1 : ¬ (k : Int) < T.length := by omega
      rw [List.take_of_length_le (by omega)] at HO hbl
      have h3 : (⟨#[46, 13, 10]⟩ : ByteArray).size = 3 := rfl
      go_wp2_with (at_builtin; refine wpList_str rfl (.tmp 23) (.const (.string ⟨#[46, 13, 10]⟩)) rfl w1.heap.size _ (bodyL T) rfl HO.out ⟨#[46, 13, 10]⟩ rfl (by (try simp only [List.length_append, tl_len, List.length_cons, List.length_nil]); omega) HB.out.size ?_; intro v2 w2 ho hb _; have Ow2 := Lib.hid ho; have Bw2 := Lib.hid (HB.out.trans hb); clear ho hb)
      go_ret
      exact ⟨_, rfl, by rw [HT.out]; exact own_le Ow2.out hB.out.size, bt hB.out Bw2.out⟩
end Go.Proofs.YthgghgecpjnoiaaDoor.Dk
