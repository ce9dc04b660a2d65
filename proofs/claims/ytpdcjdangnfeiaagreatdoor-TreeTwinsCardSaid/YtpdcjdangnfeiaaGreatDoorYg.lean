/- Rows of bytes, read or of the call's own; slices.Clone, Grow, Concat at []byte walked. append's and cut's acts walked. append's and cut's acts: what they leave of the tree. append walked: what is wrong, or the act. -/
import Derived.Test.YtpdcjdangnfeiaaGreatDoorYe
import Derived.Lib.SliceRun
import Derived.Lib.AppendZeros
import Derived.Lib.IndexBytes
import Derived.Test.YtpdcjdangnfeiaaGreatDoorYf
import Derived.Deep.DeepCutAuto
section
open Go.RowKit Go.Proofs.YtpdcjdangnfeiaaGreatDoorW.PrintWords Go.Proofs.YtpdcjdangnfeiaaGreatDoorW.PrintLast Go.Proofs.YtpdcjdangnfeiaaGreatDoorW.PrintMore Go.Proofs.YtpdcjdangnfeiaaGreatDoor.Pb Go.Proofs.YtpdcjdangnfeiaaGreatDoor.Qa
namespace Go.Proofs.YtpdcjdangnfeiaaGreatDoor.Ba
def bv (x : UInt8) : Value := .int .u8 (x.toNat : Int)
/-- A row of bytes that is read. -/
def RdB (w : World) (A : Option Addr) (l : List UInt8) : Prop := ReadsOf bv 0 w A l.length l
/-- A row of bytes of the call's own. -/
def OwnB (w : World) (base : Nat) (v : Value) (xs : List UInt8) : Prop := w.ownsRow base 5 1 v xs.length (encs bv xs)
theorem info5 : (Tryz.prog.info? 5).map (fun i => (i.zero, i.size, i.bytes)) = some (some (.int .u8 0), 1, 1) := by kernel_rfl
theorem bv1 (x : UInt8) : (bv x).oneCell' = true := rfl
theorem RdB.below {w w1 : World} {A : Option Addr} {l : List UInt8} (h : RdB w A l) (hb : Below w.heap.size w w1) : RdB w1 A l := ReadsOf.below h hb
theorem RdB.nil (w : World) (A : Option Addr) : RdB w A [] := ⟨rfl, by simp, fun h => absurd h (by simp)⟩
theorem RdB.len {w : World} {A : Option Addr} {l : List UInt8} (h : RdB w A l) : l.length ≤ 9223372036854775807 := h.2.1
theorem RdB.cell {w : World} {A : Option Addr} {l : List UInt8} (h : RdB w A l) (j : Nat) (hj : j < l.length) : ∃ b o, A = some ⟨b, o, none⟩ ∧ w.cell? ⟨b, o + j, none⟩ = some (.int .u8 (l[j].toNat : Int)) := by
  obtain ⟨⟨b, o, sp⟩, rfl, hc⟩ := h.2.2 (by omega)
  have h0 := hc 0 (by omega)
  have hs := World.cell?_spot h0
  have hsp : sp = none := by simpa [Addr.add] using hs
  subst hsp
  refine ⟨b, o, rfl, ?_⟩
  have := hc j hj
  rw [List.getD_eq_getElem?_getD, List.getElem?_eq_getElem hj] at this
  by_cases hj0 : j = 0
  · subst hj0; simpa [Addr.add, bv] using this
  · simpa [Addr.add, hj0, bv] using this
theorem RdB.mk {w : World} {b o : Nat} {l : List UInt8} (hl : l.length ≤ 9223372036854775807) (h : ∀ j (hj : j < l.length), w.cell? ⟨b, o + j, none⟩ = some (.int .u8 (l[j].toNat : Int))) : RdB w (some ⟨b, o, none⟩) l := by
  refine ⟨rfl, hl, fun _ => ⟨_, rfl, fun j hj => ?_⟩⟩
  rw [List.getD_eq_getElem?_getD, List.getElem?_eq_getElem hj]
  have := h j hj
  by_cases hj0 : j = 0
  · subst hj0; simp [Addr.add, bv]
  · simp [Addr.add, hj0, bv, this]
theorem RdB.lit (w : World) (l : List UInt8) (hl : l.length ≤ 9223372036854775807) : RdB (w.alloc (.cells (l.map bv).toArray 5)) (some ⟨w.heap.size, 0, none⟩) l := by
  refine RdB.mk hl fun j hj => ?_
  rw [cell_of_block (Go.heap_alloc_new w _)]
  simp [bv, hj]
/-- The row's text. -/
theorem RdB.text {w : World} {A : Option Addr} {l : List UInt8} (h : RdB w A l) (c : Nat) : (convert 33 9 (.slice A l.length c)).run Tryz.prog w = .ok (.string (tb l)) w := by
  have hr : ReadsInt w .u8 A (l.map fun x => (x.toNat : Int)).length (l.map fun x => (x.toNat : Int)) := by
    rw [readsInt_of]
    refine ⟨rfl, by simpa using h.2.1, fun h0 => ?_⟩
    obtain ⟨ad, e, hc⟩ := h.2.2 (by simpa using h0)
    refine ⟨ad, e, fun j hj => ?_⟩
    rw [List.length_map] at hj
    rw [hc j hj]
    simp [List.getD_eq_getElem?_getD, bv, hj]
  rw [List.length_map] at hr
  rw [string_of_reads (P := Tryz.prog) (c := c) Tryz.underlying33 Tryz.underlying5 Tryz.underlying9 hr]
  congr 2
  rw [← tl_inj, tl_tb]
  show (strOfNums _).data.toList = _
  rw [strOfNums_data, List.map_map]
  conv => rhs; rw [← List.map_id l]
  apply List.map_congr_left
  intro x _
  simp
theorem OwnB.reads {w : World} {base : Nat} {v : Value} {xs : List UInt8} (h : OwnB w base v xs) : ∃ A c, v = .slice A xs.length c ∧ RdB w A xs ∧ xs.length ≤ c := by
  obtain ⟨hl, h⟩ := h
  rcases h with ⟨rfl, h0⟩ | ⟨g, cap, cur, rfl, hg, hh, hn, hm, hs, ht⟩
  · obtain rfl := List.length_eq_zero_iff.1 h0
    exact ⟨none, 0, rfl, RdB.nil _ _, by simp⟩
  · refine ⟨_, cap, rfl, RdB.mk (by unfold maxLen at hm; omega) fun j hj => ?_, hn⟩
    rw [Nat.zero_add]
    have e : w.cell? ⟨g, j, none⟩ = cur[j]? := by simp [World.cell?, hh]
    rw [e, ← Array.getElem?_toList]
    have : (cur.toList.take (xs.length * 1))[j]? = some (.int .u8 (xs[j].toNat : Int)) := by rw [ht]; simp [encs, hj, bv]
    rwa [List.getElem?_take_of_lt (by omega)] at this
theorem OwnB.nil (w : World) (base : Nat) : OwnB w base (.slice none 0 0) [] := World.ownsRow_nil _ _ _ _
theorem OwnB.empty (w : World) : OwnB (w.alloc (Obj.cells #[] 5)) w.heap.size (.slice (some ⟨w.heap.size, 0, none⟩) 0 0) [] := World.ownsRow_made w #[] 0 (Nat.le_refl _) (by decide) rfl
section
variable {ops : Array Oper} {rest : List Oper} {o : Oper} {a : Act} {w : World} {Q : Exit → Act → World → Prop}
/-- append(own row of bytes, row of bytes ...). -/
theorem wpList_row (hgd : o.guard = none) (s x : Operand) (ho : o.op = .call { callee := .builtin .append, args := #[s, x], argTypes := #[33, 33] }) (base : Nat) (v : Value) (xs : List UInt8) (hs : a.eval s = v) (hown : OwnB w base v xs)
    (A : Option Addr) (c : Nat) (l : List UInt8) (hx : a.eval x = .slice A l.length c) (hr : RdB w A l) (hn : xs.length + l.length ≤ 1000000000) (hbase : base ≤ w.heap.size)
    (h : ∀ v' w', OwnB w' base v' (xs ++ l) → Below base w w' → w.grownBy w' v.ownBlock → wpList Tryz.prog ops Q rest (a.put o.dst v') w') : wpList Tryz.prog ops Q (o :: rest) a w :=
  print_append_row_of (w0 := w) bv 0 base hgd s x 33 5 (.int .u8 0) 1 ho Tryz.underlying33 info5 rfl (by decide) bv1 v xs l A l.length c hs hx hown hr (Below.refl _ _) hbase (by omega) fun v1 w1 h1 h2 h3 _ => h v1 w1 h1 h2 h3
end
theorem take_of (A : Option Addr) (c : Nat) (l : List UInt8) (i : Int) (h0 : 0 ≤ i) (hm : i ≤ l.length) (hc : l.length ≤ c) :
    (∀ W : World, (Instr.slice 33 (.slice A l.length c) none (some (.int .i64 i)) none).run Tryz.prog W = .ok (.slice A (l.take i.toNat).length c) W) ∧ (∀ w : World, RdB w A l → RdB w A (l.take i.toNat)) ∧ (l.take i.toNat).length ≤ c := by
  obtain ⟨i0, hi, hz0, hz1, hz2⟩ := info_parts info5
  exact print_take_of (P := Tryz.prog) bv 0 33 5 .i64 Tryz.underlying33 hi hz1 A c l i h0 hm hc
set_option maxHeartbeats 1000000 in
set_option maxRecDepth 100000 in
theorem clone_any (A : Option Addr) (c : Nat) (l : List UInt8) (w : World) (hr : RdB w A l) (hl : l.length ≤ 100000000) :
    Calls Tryz.prog 32 #[.slice A l.length c] w fun e w' => ∃ v, e = .returned v ∧ OwnB w' w.heap.size v l ∧ Below w.heap.size w w' := by
  have q22 : ∀ (w : World) (a : Option Addr) (n c n' c' : Nat), (binOp .eql 33 (.slice a n c) (.slice none n' c')).run Tryz.prog w = .ok (.bool a.isNone) w := fun w a n c n' c' => Lib.run_eql_slice_nil w _ _ a n c n' c' Tryz.underlying33
  cases A with
  | none =>
    have h0 : l = [] := by
      by_cases h : l = []
      · exact h
      · obtain ⟨b, o, e, _⟩ := hr.cell 0 (List.length_pos_iff.2 h)
        cases e
    subst h0
    clear hr hl
    go_enter Tryz.func32, Tryz.ntmps32
    go_wp2
    go_ret
    exact ⟨_, rfl, OwnB.nil _ _, Below.refl _ _⟩
  | some ad =>
    have HR := Lib.hid hr
    have Hal : Hid (Below w.heap.size w (w.alloc (Obj.cells #[] 5))) := Lib.hid ((Below.refl _ _).alloc (Nat.le_refl _) _)
    have HR1 := Lib.hid (HR.out.below Hal.out)
    clear hr
    go_enter Tryz.func32, Tryz.ntmps32
    go_wp2_with (at_builtin; refine wpList_row rfl (.tmp 5) (.tmp 6) rfl w.heap.size _ [] rfl (OwnB.empty w) (some ad) c l rfl HR1.out (by simp only [List.length_nil]; omega) (by simp) ?_; intro v w1 ho hb _; have HO := Lib.hid ho; have HB := Lib.hid (Hal.out.trans hb); clear ho hb)
    go_ret
    exact ⟨_, rfl, HO.out, HB.out⟩
set_option maxHeartbeats 1000000 in
set_option maxRecDepth 100000 in
theorem grow_nil (n : Nat) (w : World) (h0 : 0 < n) (hn : n ≤ 100000000) :
    Calls Tryz.prog 97 #[.slice none 0 0, .int .i64 n] w fun e w' => ∃ v, e = .returned v ∧ OwnB w' w.heap.size v [] ∧ Below w.heap.size w w' := by
  obtain ⟨i0, hi, hz0, hz1, hz2⟩ := info_parts info5
  have hrun := Lib.run_append_nil_zeros (P := Tryz.prog) w 33 3 33 5 i0 (.int .u8 0) .i64 .i64 Tryz.underlying33 Tryz.underlying3 hi hz0 n h0 (by rw [hz1]; decide) (by omega) (by rw [hz2]; omega)
  have i1 : (0 : Int) < n := by omega
  have i2 : ¬ (n : Int) < 0 := by omega
  go_enter Tryz.func97, Tryz.ntmps97
  go_wp2_with (at_builtin; refine Lib.wpList_append_run _ rfl _ _ _ _ rfl _ _ rfl rfl _ _ hrun ?_)
  go_ret
  have hge := grownCap_ge w n 0 5
  have hle := grownCap_le_maxLen w n 0 5 (by unfold maxLen; omega)
  refine ⟨_, rfl, ?_, (Below.refl w.heap.size w).drew.alloc (Nat.le_refl _) _⟩
  refine World.ownsRow_made w.drew _ (grownCap w n 0 5) (Nat.le_refl _) hle ?_
  rw [Array.size_append, size_zeroCells, size_zeroCells]
  have h1 : #[Value.int .u8 0].size = 1 := rfl
  rw [h1]
  omega
set_option maxHeartbeats 1000000 in
set_option maxRecDepth 100000 in
theorem grow_any (n : Nat) (w : World) (hn : n ≤ 100000000) :
    Calls Tryz.prog 97 #[.slice none 0 0, .int .i64 n] w fun e w' => ∃ v, e = .returned v ∧ OwnB w' w.heap.size v [] ∧ Below w.heap.size w w' := by
  by_cases h0 : 0 < n
  · exact grow_nil n w h0 hn
  · obtain rfl : n = 0 := by omega
    go_enter Tryz.func97, Tryz.ntmps97
    go_wp2
    go_ret
    exact ⟨_, rfl, OwnB.nil _ _, Below.refl _ _⟩
set_option maxHeartbeats 2000000 in
set_option maxRecDepth 100000 in
theorem concat_two (g : Nat) (A B : Option Addr) (ca cb : Nat) (l m : List UInt8) (w : World) (k0 : w.cell? ⟨g, 0, none⟩ = some (.slice A l.length ca)) (k1 : w.cell? ⟨g, 1, none⟩ = some (.slice B m.length cb)) (ha : RdB w A l) (hb : RdB w B m) (hl : l.length + m.length ≤ 100000000) :
    Calls Tryz.prog 73 #[.slice (some ⟨g, 0, none⟩) 2 2] w fun e w' => ∃ v, e = .returned v ∧ OwnB w' w.heap.size v (l ++ m) ∧ Below w.heap.size w w' := by
  have HA := Lib.hid ha
  have HB := Lib.hid hb
  have K0 := Lib.hid k0
  have K1 := Lib.hid k1
  clear ha hb k0 k1
  go_enter Tryz.func73, Tryz.ntmps73
  go_wp2_with fail
  go_loop [3, 11] (fun s i => (i = .int .i64 0 ∧ s = .int .i64 0) ∨ (i = .int .i64 1 ∧ s = .int .i64 l.length) ∨ (i = .int .i64 2 ∧ s = .int .i64 ((l.length + m.length : Nat) : Int))) (fun _ i => 2 - (intOf i).toNat)
  case atStart => exact .inl ⟨rfl, rfl⟩
  case round =>
    rcases hrel with ⟨rfl, rfl⟩ | ⟨rfl, rfl⟩ | ⟨rfl, rfl⟩
    · have k0 := K0.out
      have i1 : ¬ (l.length : Int) < 0 := by omega
      go_wp2
      go_light
      exact ⟨.inr (.inl ⟨by go_num, by go_num⟩), by simp [intOf]⟩
    · have k1 := K1.out
      have i1 : ¬ (l.length : Int) + m.length < 0 := by omega
      go_wp2
      go_light
      exact ⟨.inr (.inr ⟨by go_num, by go_num⟩), by simp [intOf]⟩
    · go_wp2_with fail
      refine (grow_any (l.length + m.length) w hl).mono ?_
      rintro e w1 ⟨v, rfl, ho, hb⟩
      have HO := Lib.hid ho
      have HW := Lib.hid hb
      clear ho hb
      go_wp2_with fail
      go_loopw [6, 27] (fun s i wr => ∃ xs : List UInt8, Hid (OwnB wr w.heap.size s xs) ∧ Hid (Below w.heap.size w wr) ∧ ((i = .int .i64 0 ∧ xs = []) ∨ (i = .int .i64 1 ∧ xs = l) ∨ (i = .int .i64 2 ∧ xs = l ++ m))) (fun _ i _ => 2 - (intOf i).toNat)
      case atStart => exact ⟨[], HO, HW, .inl ⟨rfl, rfl⟩⟩
      case round =>
        obtain ⟨xs, HO2, HW2, hcase⟩ := hrel
        rcases hcase with ⟨rfl, rfl⟩ | ⟨rfl, rfl⟩ | ⟨rfl, rfl⟩
        · have k0 := keepC HW2.out K0.out
          go_wp2_with (at_builtin; refine wpList_row rfl (.tmp 31) (.tmp 32) rfl w.heap.size _ [] rfl HO2.out A ca l rfl (HA.out.below HW2.out) (by simp only [List.length_nil]; omega) HW2.out.size ?_; intro v2 w2 ho hb _; have HO3 := Lib.hid ho; have HW3 := Lib.hid (HW2.out.trans hb); clear ho hb)
          go_roundw
          · exact ⟨l, HO3, HW3, .inr (.inl ⟨by go_num, rfl⟩)⟩
          · simp [intOf]
        · have k1 := keepC HW2.out K1.out
          go_wp2_with (at_builtin; refine wpList_row rfl (.tmp 31) (.tmp 32) rfl w.heap.size _ xs rfl HO2.out B cb m rfl (HB.out.below HW2.out) (by omega) HW2.out.size ?_; intro v2 w2 ho hb _; have HO3 := Lib.hid ho; have HW3 := Lib.hid (HW2.out.trans hb); clear ho hb)
          go_roundw
          · exact ⟨xs ++ m, HO3, HW3, .inr (.inr ⟨by go_num, rfl⟩)⟩
          · simp [intOf]
        · go_wp2
          go_ret
          exact ⟨_, rfl, HO2.out, HW2.out⟩
theorem rd_to {w : World} {v : Value} {l : List UInt8} (h : Tb.Rd w v l) : ∃ A c, v = .slice A l.length c ∧ l.length ≤ c ∧ RdB w A l := by
  obtain ⟨A, c, e, hc, hm, hr⟩ := h
  refine ⟨A, c, e, hc, ?_⟩
  by_cases h0 : 0 < l.length
  · obtain ⟨b, o, rfl, hcell⟩ := hr h0
    exact RdB.mk hm hcell
  · obtain rfl : l = [] := List.length_eq_zero_iff.1 (by omega)
    exact RdB.nil w A
theorem rd_of {w : World} {A : Option Addr} {c : Nat} {l : List UInt8} (h : RdB w A l) (hc : l.length ≤ c) : Tb.Rd w (.slice A l.length c) l := by
  refine ⟨A, c, rfl, hc, h.len, fun h0 => ?_⟩
  obtain ⟨b, o, e, -⟩ := h.cell 0 h0
  refine ⟨b, o, e, fun j hj => ?_⟩
  obtain ⟨b2, o2, e2, hcell⟩ := h.cell j hj
  rw [e] at e2
  cases e2
  exact hcell
theorem own_rd {w : World} {base : Nat} {v : Value} {l : List UInt8} (h : OwnB w base v l) : Tb.Rd w v l := by
  obtain ⟨A, c, rfl, hr, hc⟩ := h.reads
  exact rd_of hr hc
end Go.Proofs.YtpdcjdangnfeiaaGreatDoor.Ba
open Go Go.Maps Go.Proofs.YtpdcjdangnfeiaaGreatDoor.Ta Go.Proofs.YtpdcjdangnfeiaaGreatDoor.Tb Go.Proofs.YtpdcjdangnfeiaaGreatDoor.Tc Go.Proofs.YtpdcjdangnfeiaaGreatDoor.Te Go.Proofs.YtpdcjdangnfeiaaGreatDoor.Tf Go.Proofs.YtpdcjdangnfeiaaGreatDoor.Qb Go.Proofs.YtpdcjdangnfeiaaGreatDoor.Qc Go.Proofs.YtpdcjdangnfeiaaGreatDoor.Qd Go.Proofs.YtpdcjdangnfeiaaGreatDoor.Qe Go.Proofs.YtpdcjdangnfeiaaGreatDoor.Ua Go.Proofs.YtpdcjdangnfeiaaGreatDoor.Ub Go.Proofs.YtpdcjdangnfeiaaGreatDoor.Uc Go.Proofs.YtpdcjdangnfeiaaGreatDoor.Ud Go.Proofs.YtpdcjdangnfeiaaGreatDoor.Ue Go.Proofs.YtpdcjdangnfeiaaGreatDoor.Uf Go.Proofs.YtpdcjdangnfeiaaGreatDoor.Ba
namespace Go.Proofs.YtpdcjdangnfeiaaGreatDoor.Ug
theorem concat_rd (g : Nat) (A B : Option Addr) (ca cb : Nat) (l m : List UInt8) (w : World) (k0 : w.cell? ⟨g, 0, none⟩ = some (.slice A l.length ca)) (k1 : w.cell? ⟨g, 1, none⟩ = some (.slice B m.length cb)) (ha : RdB w A l) (hb : RdB w B m) (hl : l.length + m.length ≤ 100000000) :
    Calls Tryz.prog 73 #[.slice (some ⟨g, 0, none⟩) 2 2] w fun e w' => ∃ A3 N c3, e = .returned (.slice A3 N c3) ∧ Rd w' (.slice A3 N c3) (l ++ m) ∧ Below w.heap.size w w' := by
  refine (concat_two g A B ca cb l m w k0 k1 ha hb hl).mono ?_
  rintro e w' ⟨v, rfl, ho, hb⟩
  obtain ⟨A3, c3, rfl, hr, hc⟩ := ho.reads
  exact ⟨A3, _, c3, rfl, rd_of hr hc, hb⟩
theorem clone_rd (A : Option Addr) (c : Nat) (l : List UInt8) (w : World) (hr : RdB w A l) (hl : l.length ≤ 100000000) :
    Calls Tryz.prog 32 #[.slice A l.length c] w fun e w' => ∃ A3 N c3, e = .returned (.slice A3 N c3) ∧ Rd w' (.slice A3 N c3) l ∧ Below w.heap.size w w' := by
  refine (clone_any A c l w hr hl).mono ?_
  rintro e w' ⟨v, rfl, ho, hb⟩
  obtain ⟨A3, c3, rfl, hr, hc⟩ := ho.reads
  exact ⟨A3, _, c3, rfl, rd_of hr hc, hb⟩
section
variable {w : World} {B tb n i m : Nat} {es : Es} {p : Path} {s : Sh}
set_option maxHeartbeats 4000000 in
set_option maxRecDepth 100000 in
theorem app_walk {bn bb bt bm : Nat} (more : Nat) (b : List UInt8) (A : Option Addr) (c : Nat) (h : St w B tb es n i m) (hg : gp es p = some s) (_hd : s.dir = false) (hm : m ≤ 2000) (hlb : s.data.length + b.length ≤ 8458240)
    (hne : ∀ b ∈ [bn, bb, bt, bm], ¬ Bk tb es b) (c0 : w.cell? ⟨bn, 0, none⟩ = some (.pointer (some ⟨s.nb, 0, none⟩))) (c1 : w.cell? ⟨bb, 0, none⟩ = some (.slice A b.length c)) (hb : RdB w A b)
    (ct : w.cell? ⟨bt, 0, none⟩ = some (.pointer (some ⟨tb, 0, none⟩))) (cm : w.cell? ⟨bm, 0, none⟩ = some (.int .i64 more)) (hn : more ≤ n) :
    Calls Tryz.prog 72 #[.pointer (some ⟨bn, 0, none⟩), .pointer (some ⟨bb, 0, none⟩), .pointer (some ⟨bt, 0, none⟩), .pointer (some ⟨bm, 0, none⟩)] w fun e w' => e = .returned (.tuple #[]) ∧
      ∃ w1 v, Below w.heap.size w w1 ∧ Rd w1 v (s.data ++ b) ∧ w' = ((w1.setCell ⟨s.nb, 1, none⟩ v).setCell ⟨tb, 1, none⟩ (.int .i64 ((n : Int) - more))).drew := by
  have H := Lib.hid h
  have hN := h.ok hg
  obtain ⟨dv, hc, hrd⟩ := hN.cells
  obtain ⟨A0, c2, rfl, hc2, hr0⟩ := rd_to hrd
  obtain ⟨r, hr, ht⟩ := St.cells h
  have HT := Lib.hid ht
  have hnum := h.num
  have d1 : w.cell? ⟨s.nb, 1, none⟩ = some (.slice A0 s.data.length c2) := blk_cell hc 1
  have HC := Lib.hid hc
  have hbl : ∀ b ∈ blks s, Bk tb es b := fun b hb => .inr ⟨s, List.mem_map.2 ⟨(p, s), gp_mem hg, rfl⟩, hb⟩
  have HNE := Lib.hid hne
  have hnb := hbl s.nb (nb_mem s)
  have n0 : bn ≠ s.nb := fun e => hne bn (by simp) (e ▸ hnb)
  have n1 : bb ≠ s.nb := fun e => hne bb (by simp) (e ▸ hnb)
  have n2 : bt ≠ s.nb := fun e => hne bt (by simp) (e ▸ hnb)
  have n3 : bm ≠ s.nb := fun e => hne bm (by simp) (e ▸ hnb)
  have n4 : tb ≠ s.nb := fun e => h.tb s (List.mem_map.2 ⟨(p, s), gp_mem hg, rfl⟩) (e ▸ nb_mem s)
  have n5 : bt ≠ tb := fun e => hne bt (by simp) (.inl e)
  have n6 : bm ≠ tb := fun e => hne bm (by simp) (.inl e)
  have HR0 := Lib.hid hr0
  have HB := Lib.hid hb
  have CT := Lib.hid ct
  have CM := Lib.hid cm
  have C0 := Lib.hid c0
  have HFA := Lib.hid (blk_frozen hc 1)
  have wn : IntKind.i64.wrap ((n : Int) - more) = (n : Int) - more := by rw [IntKind.wrap_i64]; omega
  have c0a : (w.alloc (Obj.cells #[Value.slice A0 s.data.length c2, Value.slice A b.length c] 33)).cell? ⟨bn, 0, none⟩ = _ := keepC ((Below.refl _ _).alloc (Nat.le_refl _) _) c0
  clear h hg _hd hrd hr ht hN hbl hne hnb hc hr0 hb ct cm
  go_enter Tryz.func72, Tryz.ntmps72
  go_wp2_with fail
  go_region_with (first | (go_at_call 73; refine (concat_rd w.heap.size A0 A c2 c s.data b _ (blk_cell (Go.heap_alloc_new _ _) 0) (blk_cell (Go.heap_alloc_new _ _) 1) (HR0.out.below ((Below.refl _ _).drew.alloc (Nat.le_refl _) _)) (HB.out.below ((Below.refl _ _).drew.alloc (Nat.le_refl _) _)) (by omega)).mono ?_; rintro e w1 ⟨A3, N3, c3, rfl, ho, hb⟩; have HO := Lib.hid ho; have HB1 := Lib.hid (((Below.refl w.heap.size w).drew.alloc (Nat.le_refl _) (Obj.cells #[Value.slice A0 s.data.length c2, Value.slice A b.length c] 33)).trans (hb.mono (by simp))); have hc1 := (HB1.out.block s.nb (World.block_lt_of_cell? _ _ (blk_cell HC.out 0))).trans HC.out; have HC1 := Lib.hid hc1; have k1 := blk_cell hc1 1; have k2 := blk_frozen hc1 1; have k3 := keepC HB1.out C0.out; clear ho hb hc1) | fail)
  all_goals
    have hT1 := (HB1.out.block tb (World.block_lt_of_cell? _ _ (blk_cell HT.out 0))).trans HT.out
    have u1 := blk_cell hT1 1
    have f1 := blk_frozen hT1 1
    have ct1 := keepC HB1.out CT.out
    have cm1 := keepC HB1.out CM.out
    clear hT1 c0 c1 c0a d1 k1 k2 k3
    go_wp2_with fail
    go_region
    go_wp2_with fail
    go_end0
    exact ⟨rfl, w1, _, HB1.out, HO.out, rfl⟩
end
end Go.Proofs.YtpdcjdangnfeiaaGreatDoor.Ug
open Go.Proofs.YtpdcjdangnfeiaaGreatDoor.Ug
namespace Go.Proofs.YtpdcjdangnfeiaaGreatDoor.Uh
section
variable {w w' : World} {B tb n i m : Nat} {es : Es} {p : Path} {s : Sh}
def dataSh (s : Sh) (l : List UInt8) : Sh := { s with data := l }
theorem file_end {r : Sh} {v : Value} {n' : Nat} {l : List UInt8} (h : St w B tb es n i m) (hg : gp es p = some s) (hd : s.dir = false) (hr : gp es [] = some r) (hsz : w.heap.size ≤ w'.heap.size) (hfr : ∀ b, b < w.heap.size → b ≠ tb → b ≠ s.nb → w'.heap[b]? = w.heap[b]?) (hlow : Below B w w')
    (hnode : w'.heap[s.nb]? = some (.cells #[.bool s.dir, v, kidsV s, .int .i64 s.slots] 85 (0, 0))) (hrd : Rd w' v l) (htb : w'.heap[tb]? = some (.cells #[.pointer (some ⟨r.nb, 0, none⟩), .int .i64 n', .int .i64 i] 55 (0, 0))) (hl : l.length ≤ 8458240) (hn' : n' ≤ 16384 + 20000 * (m + 1)) :
    ActPost w B tb es n i m ⟨setA (absE es) p { toN s with data := l }, n', i⟩ (.returned (.tuple #[])) w' := by
  obtain ⟨r', hr', ht⟩ := h.tre
  rw [hr] at hr'
  cases hr'
  have hmem : s ∈ es.map (·.2) := List.mem_map.2 ⟨(p, s), gp_mem hg, rfl⟩
  have hN := h.ok hg
  have hbs : blks s = [s.nb] := by unfold blks; rw [hd]; rfl
  have hf : Fr w w' (fun b => b = tb ∨ b ∈ blks s) := ⟨hsz, fun b hb hn => hfr b hb (fun e => hn (.inl e)) (fun e => hn (.inr (by rw [e]; exact nb_mem s))), fun b hb hlt => by
    rcases hb with rfl | hb
    · exact Tre.noB ht
    · exact (Tc.Ok.blk_lt hN b hb).2.1⟩
  -- the other nodes, then this one
  have hS : Sto Tryz.prog 85 9 w' B ((turnE es p (fun s => dataSh s l)).map (·.2)) := by
    obtain ⟨a, b, e1, e2⟩ := turn_split h.nd hg
    have hs := h.sto
    rw [e1] at hs
    rw [e2]
    have hap := apart hs.nd
    have hok : ∀ x, x ∈ a ∨ x ∈ b → Nd w' B x := by
      intro x hx
      have hx1 : x ∈ a ++ s :: b := by rcases hx with hx | hx <;> simp [hx]
      have hxes : x ∈ es.map (·.2) := by rw [e1]; exact hx1
      refine (hs.ok x hx1).fr hf ?_ ?_
      · rintro (e | e)
        · exact h.tb x hxes (e ▸ nb_mem x)
        · exact hap x hx _ e (nb_mem x)
      · rintro hdx (e | e)
        · exact h.tb x hxes (e ▸ mb_mem hdx)
        · exact hap x hx _ e (mb_mem hdx)
    refine ⟨fun x hx => ?_, ?_⟩
    · rw [List.mem_append, List.mem_cons] at hx
      rcases hx with hx | rfl | hx
      · exact hok x (.inl hx)
      · exact ⟨hN.base, ⟨v, hnode, hrd⟩, fun hd2 => by
          have : s.dir = true := hd2
          rw [hd] at this; cases this⟩
      · exact hok x (.inr hx)
    · have := hs.nd
      rw [List.flatMap_append, List.flatMap_cons] at this ⊢
      exact this
  have hwf := h.wf.file (p := p) (g := fun s => dataSh s l) (fun d hd2 => ⟨⟨rfl, rfl, rfl⟩, by rw [hg] at hd2; cases hd2; exact hd⟩)
  have hlim := h.limp hg
  refine ⟨rfl, turnE es p (fun s => dataSh s l), n', i, ⟨hS, nd_turn h.nd _ _, by rw [gp_turnF]; exact hwf, ?_, ?_, ?_⟩, ?_, ?_, by rw [len_turn]⟩
  · rw [gp_turn]
    by_cases e : ([] : Path) = p
    · rw [if_pos e, hr]
      exact ⟨dataSh r l, rfl, ht.1, htb⟩
    · rw [if_neg e, hr]
      exact ⟨r, rfl, ht.1, htb⟩
  · intro e he
    refine lim_turn (g := fun s => dataSh s l) (Q := fun s => s.slots ≤ m + 1 ∧ s.data.length ≤ 8458240 ∧ size s.D ≤ m + 1) h.nd hg (fun e he => ?_) ⟨?_, hl, ?_⟩ e he
    · have := h.lim e he; omega
    · show s.slots ≤ _; omega
    · show size s.D ≤ _; omega
  · exact ⟨hn', by have := h.num; omega⟩
  · have : absE (turnE es p (fun s => dataSh s l)) = setA (absE es) p { toN s with data := l } := by
      funext q
      unfold absE setA
      rw [gp_turn]
      by_cases e : q = p
      · subst e
        rw [if_pos rfl, if_pos rfl, hg]
        rfl
      · rw [if_neg e, if_neg e]
    rw [this]
  · refine ⟨⟨hsz, fun b hb hn => hfr b hb (fun e => hn (.inl e)) (fun e => hn (.inr ⟨s, hmem, by rw [e]; exact nb_mem s⟩)), fun b hb _ => (h.bk hb).2.1⟩, hlow, fun b hb => .inl ?_⟩
    rcases hb with rfl | ⟨x, hx, hb⟩
    · exact .inl rfl
    · obtain ⟨y, hy, e⟩ := bk_turn (g := fun s => dataSh s l) (fun _ => rfl) hx
      exact .inr ⟨y, hy, e ▸ hb⟩
theorem Rd.set {w : World} {v u : Value} {l : List UInt8} {b j : Nat} (h : Rd w v l) (hb : NoB w b) : Rd (w.setCell ⟨b, j, none⟩ u) v l :=
  h.fr (X := fun k => k = b) ⟨by simp [World.setCell], fun i _ hn => Below.heap_setCell w ⟨b, j, none⟩ u i hn, fun i e _ => e ▸ hb⟩
theorem app_do {bn bb bt bm : Nat} (b : List UInt8) (A : Option Addr) (c : Nat) (h : St w B tb es n i m) (hg : gp es p = some s) (hd : s.dir = false) (hm : m ≤ 2000) (hlb : s.data.length + b.length ≤ 8458240)
    (hne : ∀ b ∈ [bn, bb, bt, bm], ¬ Bk tb es b) (c0 : w.cell? ⟨bn, 0, none⟩ = some (.pointer (some ⟨s.nb, 0, none⟩))) (c1 : w.cell? ⟨bb, 0, none⟩ = some (.slice A b.length c)) (hb : RdB w A b)
    (ct : w.cell? ⟨bt, 0, none⟩ = some (.pointer (some ⟨tb, 0, none⟩))) (cm : w.cell? ⟨bm, 0, none⟩ = some (.int .i64 ((allB (s.data.length + b.length) - allB s.data.length : Nat) : Int))) (hn : allB (s.data.length + b.length) - allB s.data.length ≤ n) :
    Calls Tryz.prog 72 #[.pointer (some ⟨bn, 0, none⟩), .pointer (some ⟨bb, 0, none⟩), .pointer (some ⟨bt, 0, none⟩), .pointer (some ⟨bm, 0, none⟩)] w (ActPost w B tb es n i m (appS ⟨absE es, n, i⟩ p b (some (toN s)))) := by
  refine (app_walk _ b A c h hg hd hm hlb hne c0 c1 hb ct cm hn).mono ?_
  rintro e w' ⟨rfl, w1, v, hb1, hrd, rfl⟩
  obtain ⟨r, hr, ht⟩ := h.tre
  have hN := h.ok hg
  obtain ⟨dv, hc, -⟩ := hN.cells
  have htb : tb ≠ s.nb := fun e => h.tb s (List.mem_map.2 ⟨(p, s), gp_mem hg, rfl⟩) (e ▸ nb_mem s)
  have hc1 := (hb1.block s.nb hN.lt).trans hc
  have ht1 := (hb1.block tb (Tre.lt ht)).trans ht.2
  have hnb : NoB w1 s.nb := (Nd.below hN hb1).noB
  have hnt : NoB w1 tb := Tre.noB (Tre.keep ht (hb1.block tb (Tre.lt ht)))
  have hnum := h.num
  refine file_end (r := r) (v := v) (n' := n - (allB (s.data.length + b.length) - allB s.data.length)) (l := s.data ++ b) h hg hd hr ?_ ?_ ?_ ?_ ?_ ?_ ?_ ?_
  · have := hb1.size; simpa [World.setCell] using this
  · intro k hk h1 h2
    exact ((Below.heap_setCell _ ⟨tb, 1, none⟩ _ k h1).trans (Below.heap_setCell w1 ⟨s.nb, 1, none⟩ _ k h2)).trans (hb1.block k hk)
  · exact (((hb1.mono h.base).setCell hN.base _).setCell ht.1 _).drew
  · exact blk_far (p := ⟨tb, 1, none⟩) (blk_set hc1 1 _) (fun e => htb e.symm) _
  · have h1 := Rd.set (j := 1) (u := v) hrd hnb
    have h2 : NoB (w1.setCell ⟨s.nb, 1, none⟩ v) tb := by
      refine noB_cells (blk_far (p := ⟨s.nb, 1, none⟩) ht1 htb _) ?_
      intro u hu y e
      subst e
      simp at hu
    have h3 := Rd.set (j := 1) (u := .int .i64 ((n : Int) - ((allB (s.data.length + b.length) - allB s.data.length : Nat) : Int))) h1 h2
    exact h3
  · refine (blk_set (blk_far (p := ⟨s.nb, 1, none⟩) ht1 htb _) 1 _).trans ?_
    have e : (n : Int) - ((allB (s.data.length + b.length) - allB s.data.length : Nat) : Int) = ((n - (allB (s.data.length + b.length) - allB s.data.length) : Nat) : Int) := by omega
    rw [e]
    rfl
  · rw [List.length_append]; exact hlb
  · omega
end
end Go.Proofs.YtpdcjdangnfeiaaGreatDoor.Uh
open Go.Proofs.YtpdcjdangnfeiaaGreatDoor.PPth Go.Proofs.YtpdcjdangnfeiaaGreatDoor.Qf Go.Proofs.YtpdcjdangnfeiaaGreatDoor.Uh
namespace Go.Proofs.YtpdcjdangnfeiaaGreatDoor.Ui
def bx3 (w : World) (a b c : Value) (ta tb tc : TypeId) : World := ((w.alloc (.cells #[a] ta)).alloc (.cells #[b] tb)).alloc (.cells #[c] tc)
section
variable (w : World) (a b c : Value) (ta tb tc : TypeId)
theorem bx3_below : Below w.heap.size w (bx3 w a b c ta tb tc) := (((Below.refl _ _).alloc (Nat.le_refl _) _).alloc (by simp) _).alloc (by simp; omega) _
theorem bx3_size : (bx3 w a b c ta tb tc).heap.size = w.heap.size + 3 := by simp [bx3]
theorem bx3_0 : (bx3 w a b c ta tb tc).heap[w.heap.size]? = some (.cells #[a] ta (0, 0)) := blk_alloc (blk_alloc (Go.heap_alloc_new _ _) _) _
theorem bx3_1 : (bx3 w a b c ta tb tc).heap[w.heap.size + 1]? = some (.cells #[b] tb (0, 0)) := by
  have := Go.heap_alloc_new (w.alloc (.cells #[a] ta)) (.cells #[b] tb)
  rw [World.size_alloc] at this
  exact blk_alloc this _
theorem bx3_2 : (bx3 w a b c ta tb tc).heap[w.heap.size + 2]? = some (.cells #[c] tc (0, 0)) := by
  have := Go.heap_alloc_new ((w.alloc (.cells #[a] ta)).alloc (.cells #[b] tb)) (.cells #[c] tc)
  rw [World.size_alloc, World.size_alloc] at this
  exact this
end
theorem blocksB_mono {a b : Nat} (h : a ≤ b) (hb : b ≤ 8458240) : blocksB a ≤ blocksB b := by
  unfold blocksB
  rw [if_neg (by omega), if_neg (by omega)]
  omega
theorem allB_mono {a b : Nat} (h : a ≤ b) (hb : b ≤ 8458240) : allB a ≤ allB b := by
  have h1 := blocksB_mono h hb
  unfold allB innerB
  generalize blocksB a = x at *
  generalize blocksB b = y at *
  repeat' split
  all_goals omega
theorem all_q (n : Nat) (h : n ≤ 1000000000) (w : World) : Calls Tryz.prog 70 #[.int .i64 n] w fun e w' => e = .returned (.int .i64 ((allB n : Nat) : Int)) ∧ ∃ k, w' = w.drewN k :=
  (inode_All.calls _ _ w (all_eq n h)).mono fun _ _ ⟨he, hd⟩ => ⟨he, hd.out⟩
set_option maxHeartbeats 1000000 in
set_option maxRecDepth 100000 in
/-- (*node).blocks -/
theorem blocks_q {w : World} {B : Nat} {s : Sh} (h : Nd w B s) (hs : s.slots ≤ 1000000) (hd : s.data.length ≤ 1000000000) :
    Calls Tryz.prog 71 #[.pointer (some ⟨s.nb, 0, none⟩)] w fun e w' => e = .returned (.int .i64 ((blocksN s : Nat) : Int)) ∧ ∃ k, w' = w.drewN k := by
  obtain ⟨R, hR⟩ : ∃ R, blocksN s = R := ⟨_, rfl⟩
  rw [hR]
  obtain ⟨dv, hc, A, c, rfl, -⟩ := h.cells
  have c0 := blk_cell hc 0
  have c1 := blk_cell hc 1
  have c3 := blk_cell hc 3
  have HR := Lib.hid hR
  clear hR
  by_cases k : s.dir = true
  · replace c0 : w.cell? ⟨s.nb, 0, none⟩ = some (.bool true) := c0.trans (by rw [k]; rfl)
    replace c3 : w.cell? ⟨s.nb, 3, none⟩ = some (.int .i64 s.slots) := c3
    have HA := Lib.hid (fun W => all_q (s.slots * 512) (by omega) W)
    have wk : IntKind.i64.wrap ((s.slots : Int) * 512) = ((s.slots * 512 : Nat) : Int) := by rw [IntKind.wrap_i64]; omega
    have HE : Hid (allB (s.slots * 512) = R) := Lib.hid (by rw [← HR.out, blocksN, if_pos k])
    clear h hc c1 k
    generalize s.slots * 512 = q at HA wk HE
    go_enter Tryz.func71, Tryz.ntmps71
    go_wp2_with fail
    refine (HA.out w).mono ?_
    rintro e w1 ⟨rfl, k9, rfl⟩
    rw [HE.out]
    go_wp2
    go_ret
    exact ⟨rfl, k9, rfl⟩
  · have k2 : s.dir = false := by simpa using k
    replace c0 : w.cell? ⟨s.nb, 0, none⟩ = some (.bool false) := c0.trans (by rw [k2]; rfl)
    replace c1 : w.cell? ⟨s.nb, 1, none⟩ = some (.slice A s.data.length c) := c1
    have HA := Lib.hid (fun W => all_q s.data.length hd W)
    have HE : Hid (allB s.data.length = R) := Lib.hid (by rw [← HR.out, blocksN, if_neg k])
    clear h hc c3 k k2
    generalize s.data.length = q at HA HE c1
    go_enter Tryz.func71, Tryz.ntmps71
    go_wp2_with fail
    refine (HA.out w).mono ?_
    rintro e w1 ⟨rfl, k9, rfl⟩
    rw [HE.out]
    go_wp2
    go_ret
    exact ⟨rfl, k9, rfl⟩
section
variable {X W W' : World} {T : World → Prop}
theorem kpC (hb : Below W.heap.size W W') (s : Below X.heap.size X W ∧ T W) (h : ∀ W, Below X.heap.size X W → T W) : Below X.heap.size X W' ∧ T W' := have q := s.1.trans (hb.mono s.1.size); ⟨q, h _ q⟩
theorem kpD (k : Nat) (s : Below X.heap.size X W ∧ T W) (h : ∀ W, Below X.heap.size X W → T W) : Below X.heap.size X (W.drewN k) ∧ T (W.drewN k) := kpC (bdraw W k) s h
theorem kp1 (s : Below X.heap.size X W ∧ T W) (h : ∀ W, Below X.heap.size X W → T W) : Below X.heap.size X W.drew ∧ T W.drew := kpC (Below.refl _ _).drew s h
theorem kpA (o : Obj) (s : Below X.heap.size X W ∧ T W) (h : ∀ W, Below X.heap.size X W → T W) : Below X.heap.size X (W.alloc o) ∧ T (W.alloc o) := kpC ((Below.refl _ _).alloc (Nat.le_refl _) _) s h
theorem kpS {b j : Nat} (v : Value) (hb : X.heap.size ≤ b) (s : Below X.heap.size X W ∧ T W) (h : ∀ W, Below X.heap.size X W → T W) : Below X.heap.size X (W.setCell ⟨b, j, none⟩ v) ∧ T (W.setCell ⟨b, j, none⟩ v) := have q := s.1.setCell hb v; ⟨q, h _ q⟩
theorem kp0 (h : ∀ W, Below X.heap.size X W → T W) : Below X.heap.size X X ∧ T X := ⟨Below.refl _ _, h _ (Below.refl _ _)⟩
end
section
variable {w : World} {B tb n i m : Nat} {es : Es} {p : Path} {s : Sh}
set_option maxHeartbeats 1000000 in
set_option maxRecDepth 100000 in
theorem app_nil (A : Option Addr) (N c : Nat) : Calls Tryz.prog 38 #[.pointer (some ⟨tb, 0, none⟩), .pointer none, .slice A N c] w (ErrPost w 8) := by
  have hb := bx3_below w (.pointer (some ⟨tb, 0, none⟩)) (.pointer none) (.slice A N c) 25 52 33
  have HB := Lib.hid hb
  clear hb
  go_enter Tryz.func38, Tryz.ntmps38
  go_wp2_with fail
  refine (isFile_nil _).mono ?_
  rintro e w1 ⟨rfl, rfl⟩
  go_wp2
  go_ret2
  exact ⟨HB.out, _, rfl⟩
set_option maxHeartbeats 1000000 in
set_option maxRecDepth 100000 in
theorem app_dir (A : Option Addr) (N c : Nat) (h : St w B tb es n i m) (hg : gp es p = some s) (hd : s.dir = true) : Calls Tryz.prog 38 #[.pointer (some ⟨tb, 0, none⟩), .pointer (some ⟨s.nb, 0, none⟩), .slice A N c] w (ErrPost w 10) := by
  have hb := bx3_below w (.pointer (some ⟨tb, 0, none⟩)) (.pointer (some ⟨s.nb, 0, none⟩)) (.slice A N c) 25 52 33
  have HB := Lib.hid hb
  have hN := Nd.below (h.ok hg) hb
  have hf := isFile_any hN
  rw [if_pos hd] at hf
  have HF := Lib.hid hf
  clear hb hN hf h
  go_enter Tryz.func38, Tryz.ntmps38
  go_wp2_with fail
  refine HF.out.mono ?_
  rintro e w1 ⟨rfl, rfl⟩
  go_wp2
  go_ret2
  exact ⟨HB.out, _, rfl⟩
set_option maxHeartbeats 4000000 in
set_option maxRecDepth 100000 in
theorem app_file (b : List UInt8) (A : Option Addr) (c : Nat) (h : St w B tb es n i m) (hg : gp es p = some s) (hd : s.dir = false) (hm : m ≤ 2000) (hb : RdB w A b) (hlb : b.length ≤ 1000000) :
    Calls Tryz.prog 38 #[.pointer (some ⟨tb, 0, none⟩), .pointer (some ⟨s.nb, 0, none⟩), .slice A b.length c] w (PlanPost w B tb es n i m (appE ⟨absE es, n, i⟩ b.length (some (toN s))) (appS ⟨absE es, n, i⟩ p b (some (toN s)))) := by
  have hb0 := bx3_below w (.pointer (some ⟨tb, 0, none⟩)) (.pointer (some ⟨s.nb, 0, none⟩)) (.slice A b.length c) 25 52 33
  have HB0 := Lib.hid hb0
  have hN := Nd.below (h.ok hg) hb0
  have hf := isFile_any hN
  rw [if_neg (by simp [hd])] at hf
  have HF := Lib.hid hf
  obtain ⟨dv, hc, hrd⟩ := (h.ok hg).cells
  obtain ⟨A0, c2, rfl, hc2, hr0⟩ := rd_to hrd
  obtain ⟨r, hr, ht⟩ := St.cells h
  have HT := Lib.hid ht
  have HC := Lib.hid hc
  have hlim := h.limp hg
  have hds := hlim.2.1
  have H := Lib.hid h
  have hE : appE ⟨absE es, n, i⟩ b.length (some (toN s)) = if 8458240 - s.data.length < b.length then 5 else if n < allB (s.data.length + b.length) - allB s.data.length then 7 else 0 := by
    unfold appE toN
    simp only [hd]
    rfl
  have hnum := h.num
  have wm : IntKind.i64.wrap (8458240 - (s.data.length : Int)) = 8458240 - (s.data.length : Int) := by rw [IntKind.wrap_i64]; omega
  have hS : ∀ W, Below (bx3 w (.pointer (some ⟨tb, 0, none⟩)) (.pointer (some ⟨s.nb, 0, none⟩)) (.slice A b.length c) 25 52 33).heap.size (bx3 w (.pointer (some ⟨tb, 0, none⟩)) (.pointer (some ⟨s.nb, 0, none⟩)) (.slice A b.length c) 25 52 33) W → W.cell? ⟨w.heap.size + 2, 0, none⟩ = some (.slice A b.length c) ∧ W.cell? ⟨w.heap.size + 1, 0, none⟩ = some (.pointer (some ⟨s.nb, 0, none⟩)) ∧ W.cell? ⟨s.nb, 1, none⟩ = some (.slice A0 s.data.length c2) := fun W hW =>
    ⟨keepC hW (blk_cell (bx3_2 w _ _ _ _ _ _) 0), keepC hW (blk_cell (bx3_1 w _ _ _ _ _ _) 0), keepC hW (keepC hb0 (blk_cell hc 1))⟩
  have HS := Lib.hid hS
  clear hS
  by_cases k : 8458240 - s.data.length < b.length
  · rw [hE, if_pos k]
    refine Calls.mono (R := ErrPost w 5) ?_ fun _ _ h => ErrPost.plan h (by decide)
    have k2 : (8458240 : Int) - (s.data.length : Int) < (b.length : Int) := by omega
    clear hb0 hN hf hrd hr0 hc ht hr h hE k hb
    go_enter Tryz.func38, Tryz.ntmps38
    go_wp2_with fail
    refine HF.out.mono ?_
    rintro e w1 ⟨rfl, rfl⟩
    have HS0 := Lib.hid (HS.out _ (Below.refl _ _))
    have HB1 := Lib.hid (Below.refl (bx3 w (.pointer (some ⟨tb, 0, none⟩)) (.pointer (some ⟨s.nb, 0, none⟩)) (.slice A b.length c) 25 52 33).heap.size (bx3 w (.pointer (some ⟨tb, 0, none⟩)) (.pointer (some ⟨s.nb, 0, none⟩)) (.slice A b.length c) 25 52 33))
    go_wp2_with fail
    go_region_held3 (fun W => W.cell? ⟨w.heap.size + 2, 0, none⟩ = some (.slice A b.length c) ∧ W.cell? ⟨w.heap.size + 1, 0, none⟩ = some (.pointer (some ⟨s.nb, 0, none⟩)) ∧ W.cell? ⟨s.nb, 1, none⟩ = some (.slice A0 s.data.length c2)) (first | exact HS1.out | exact HS0.out | fail) (first | (go_at_call 69; refine (most_any _).mono ?_; rintro e w1 ⟨rfl, hb⟩; have HB2 := Lib.hid ((HB1.out.drew).trans hb); have HS1 := Lib.hid (HS.out w1 HB2.out); clear hb) | fail)
    go_wp2
    go_ret2
    exact ⟨HB0.out.trans (HB2.out.mono (by rw [bx3_size]; omega)), _, rfl⟩
  · have k2 : ¬ (8458240 : Int) - (s.data.length : Int) < (b.length : Int) := by omega
    have hmono := allB_mono (a := s.data.length) (b := s.data.length + b.length) (by omega) (by omega)
    have hba := allB_le (s.data.length + b.length)
    have hbN : blocksN s = allB s.data.length := by unfold blocksN; rw [if_neg (by simp [hd])]
    obtain ⟨x, hx⟩ : ∃ x, allB (s.data.length + b.length) = x := ⟨_, rfl⟩
    obtain ⟨y, hy⟩ : ∃ y, allB s.data.length = y := ⟨_, rfl⟩
    have HA := Lib.hid (fun W => hx ▸ all_q (s.data.length + b.length) (by omega) W)
    have HBL := Lib.hid (fun W (hW : Nd W B s) => (hbN.trans hy) ▸ blocks_q hW (by omega) (by omega))
    have HN := Lib.hid hN
    have ws : IntKind.i64.wrap ((s.data.length : Int) + (b.length : Int)) = ((s.data.length + b.length : Nat) : Int) := by rw [IntKind.wrap_i64]; omega
    rw [hx, hy] at hmono
    rw [hx] at hba
    have wd : IntKind.i64.wrap ((x : Int) - (y : Int)) = ((x - y : Nat) : Int) := by rw [IntKind.wrap_i64]; omega
    rw [hE, if_neg k, hx, hy]
    have HX := Lib.hid hx
    have HY := Lib.hid hy
    have HBr := Lib.hid hb
    have HNX := Lib.hid (fun (W : World) (hs : Below (bx3 w (.pointer (some ⟨tb, 0, none⟩)) (.pointer (some ⟨s.nb, 0, none⟩)) (.slice A b.length c) 25 52 33).heap.size (bx3 w (.pointer (some ⟨tb, 0, none⟩)) (.pointer (some ⟨s.nb, 0, none⟩)) (.slice A b.length c) 25 52 33) W ∧ W.cell? ⟨w.heap.size + 2, 0, none⟩ = some (.slice A b.length c) ∧ W.cell? ⟨w.heap.size + 1, 0, none⟩ = some (.pointer (some ⟨s.nb, 0, none⟩)) ∧ W.cell? ⟨s.nb, 1, none⟩ = some (.slice A0 s.data.length c2)) => Nd.below HN.out hs.1)
    obtain ⟨E, HE⟩ : ∃ E : Int, Hid ((if n < x - y then 7 else 0) = E) := ⟨_, Lib.hid rfl⟩
    rw [HE.out]
    clear hb0 hN hf hrd hr0 hc ht hr hE k hb hx hy hbN h
    go_enter Tryz.func38, Tryz.ntmps38
    go_wp2_with fail
    refine HF.out.mono ?_
    rintro e w1 ⟨rfl, rfl⟩
    have HS0 := Lib.hid (kp0 (X := (bx3 w (.pointer (some ⟨tb, 0, none⟩)) (.pointer (some ⟨s.nb, 0, none⟩)) (.slice A b.length c) 25 52 33)) (T := (fun W => W.cell? ⟨w.heap.size + 2, 0, none⟩ = some (.slice A b.length c) ∧ W.cell? ⟨w.heap.size + 1, 0, none⟩ = some (.pointer (some ⟨s.nb, 0, none⟩)) ∧ W.cell? ⟨s.nb, 1, none⟩ = some (.slice A0 s.data.length c2))) HS.out)
    go_wp2_with fail
    go_region_held3 (fun W => Below (bx3 w (.pointer (some ⟨tb, 0, none⟩)) (.pointer (some ⟨s.nb, 0, none⟩)) (.slice A b.length c) 25 52 33).heap.size (bx3 w (.pointer (some ⟨tb, 0, none⟩)) (.pointer (some ⟨s.nb, 0, none⟩)) (.slice A b.length c) 25 52 33) W ∧ W.cell? ⟨w.heap.size + 2, 0, none⟩ = some (.slice A b.length c) ∧ W.cell? ⟨w.heap.size + 1, 0, none⟩ = some (.pointer (some ⟨s.nb, 0, none⟩)) ∧ W.cell? ⟨s.nb, 1, none⟩ = some (.slice A0 s.data.length c2)) (first | exact kpC (T := (fun W => W.cell? ⟨w.heap.size + 2, 0, none⟩ = some (.slice A b.length c) ∧ W.cell? ⟨w.heap.size + 1, 0, none⟩ = some (.pointer (some ⟨s.nb, 0, none⟩)) ∧ W.cell? ⟨s.nb, 1, none⟩ = some (.slice A0 s.data.length c2))) hb (by assumption) HS.out | exact kp1 (T := (fun W => W.cell? ⟨w.heap.size + 2, 0, none⟩ = some (.slice A b.length c) ∧ W.cell? ⟨w.heap.size + 1, 0, none⟩ = some (.pointer (some ⟨s.nb, 0, none⟩)) ∧ W.cell? ⟨s.nb, 1, none⟩ = some (.slice A0 s.data.length c2))) HS0.out HS.out | exact HS0.out | fail) (first | (go_at_call 69; refine (most_any _).mono ?_; rintro e w1 ⟨rfl, hb⟩) | fail)
    have hs1 : Below (bx3 w (.pointer (some ⟨tb, 0, none⟩)) (.pointer (some ⟨s.nb, 0, none⟩)) (.slice A b.length c) 25 52 33).heap.size (bx3 w (.pointer (some ⟨tb, 0, none⟩)) (.pointer (some ⟨s.nb, 0, none⟩)) (.slice A b.length c) 25 52 33) w1 ∧ (fun W => W.cell? ⟨w.heap.size + 2, 0, none⟩ = some (.slice A b.length c) ∧ W.cell? ⟨w.heap.size + 1, 0, none⟩ = some (.pointer (some ⟨s.nb, 0, none⟩)) ∧ W.cell? ⟨s.nb, 1, none⟩ = some (.slice A0 s.data.length c2)) w1 := by assumption
    have HS1 := Lib.hid hs1
    clear hb hs1
    have hq1 : ∀ k, ((w1.drewN k).alloc (Obj.cells #[Value.int IntKind.i64 0] 3)).cell? ⟨w1.heap.size, 0, none⟩ = some (.int .i64 0) := fun k => blk_cell (Go.heap_alloc_new (w1.drewN k) _) 0
    have hq2 : ∀ k, ((w1.drewN k).alloc (Obj.cells #[Value.int IntKind.i64 0] 3)).frozen? ⟨w1.heap.size, 0, none⟩ = false := fun k => blk_frozen (Go.heap_alloc_new (w1.drewN k) _) 0
    have hq3 : ∀ k, ((w1.alloc (Obj.cells #[Value.int IntKind.i64 0] 3)).drewN k).cell? ⟨w1.heap.size, 0, none⟩ = some (.int .i64 0) := fun k => blk_cell (Go.heap_alloc_new w1 _) 0
    have hq4 : ∀ k, ((w1.alloc (Obj.cells #[Value.int IntKind.i64 0] 3)).drewN k).frozen? ⟨w1.heap.size, 0, none⟩ = false := fun k => blk_frozen (Go.heap_alloc_new w1 _) 0
    have hq5 : ∀ k j, (((w1.drewN j).alloc (Obj.cells #[Value.int IntKind.i64 0] 3)).drewN k).cell? ⟨w1.heap.size, 0, none⟩ = some (.int .i64 0) := fun k j => blk_cell (Go.heap_alloc_new (w1.drewN j) _) 0
    have hq6 : ∀ k j, (((w1.drewN j).alloc (Obj.cells #[Value.int IntKind.i64 0] 3)).drewN k).frozen? ⟨w1.heap.size, 0, none⟩ = false := fun k j => blk_frozen (Go.heap_alloc_new (w1.drewN j) _) 0
    go_upto_region 6 with fail
    go_cut [9] (fun s9 wx => ∃ bm : Nat, s9 = .pointer (some ⟨bm, 0, none⟩) ∧ Hid (w.heap.size + 3 ≤ bm) ∧ Hid (wx.cell? ⟨bm, 0, none⟩ = some (.int .i64 ((x - y : Nat) : Int))) ∧ Hid (Below (bx3 w (.pointer (some ⟨tb, 0, none⟩)) (.pointer (some ⟨s.nb, 0, none⟩)) (.slice A b.length c) 25 52 33).heap.size (bx3 w (.pointer (some ⟨tb, 0, none⟩)) (.pointer (some ⟨s.nb, 0, none⟩)) (.slice A b.length c) 25 52 33) wx))
    case first =>
      go_region_held3 (fun W => Below (bx3 w (.pointer (some ⟨tb, 0, none⟩)) (.pointer (some ⟨s.nb, 0, none⟩)) (.slice A b.length c) 25 52 33).heap.size (bx3 w (.pointer (some ⟨tb, 0, none⟩)) (.pointer (some ⟨s.nb, 0, none⟩)) (.slice A b.length c) 25 52 33) W ∧ W.cell? ⟨w.heap.size + 2, 0, none⟩ = some (.slice A b.length c) ∧ W.cell? ⟨w.heap.size + 1, 0, none⟩ = some (.pointer (some ⟨s.nb, 0, none⟩)) ∧ W.cell? ⟨s.nb, 1, none⟩ = some (.slice A0 s.data.length c2)) (first | exact kp1 (T := (fun W => W.cell? ⟨w.heap.size + 2, 0, none⟩ = some (.slice A b.length c) ∧ W.cell? ⟨w.heap.size + 1, 0, none⟩ = some (.pointer (some ⟨s.nb, 0, none⟩)) ∧ W.cell? ⟨s.nb, 1, none⟩ = some (.slice A0 s.data.length c2))) HS1.out HS.out | exact kpD (T := (fun W => W.cell? ⟨w.heap.size + 2, 0, none⟩ = some (.slice A b.length c) ∧ W.cell? ⟨w.heap.size + 1, 0, none⟩ = some (.pointer (some ⟨s.nb, 0, none⟩)) ∧ W.cell? ⟨s.nb, 1, none⟩ = some (.slice A0 s.data.length c2))) _ (by assumption) HS.out | exact kpA (T := (fun W => W.cell? ⟨w.heap.size + 2, 0, none⟩ = some (.slice A b.length c) ∧ W.cell? ⟨w.heap.size + 1, 0, none⟩ = some (.pointer (some ⟨s.nb, 0, none⟩)) ∧ W.cell? ⟨s.nb, 1, none⟩ = some (.slice A0 s.data.length c2))) _ (by assumption) HS.out | exact kpS (T := (fun W => W.cell? ⟨w.heap.size + 2, 0, none⟩ = some (.slice A b.length c) ∧ W.cell? ⟨w.heap.size + 1, 0, none⟩ = some (.pointer (some ⟨s.nb, 0, none⟩)) ∧ W.cell? ⟨s.nb, 1, none⟩ = some (.slice A0 s.data.length c2))) _ HS1.out.1.size (by assumption) HS.out | exact kpD (T := (fun W => W.cell? ⟨w.heap.size + 2, 0, none⟩ = some (.slice A b.length c) ∧ W.cell? ⟨w.heap.size + 1, 0, none⟩ = some (.pointer (some ⟨s.nb, 0, none⟩)) ∧ W.cell? ⟨s.nb, 1, none⟩ = some (.slice A0 s.data.length c2))) _ (kpA (T := (fun W => W.cell? ⟨w.heap.size + 2, 0, none⟩ = some (.slice A b.length c) ∧ W.cell? ⟨w.heap.size + 1, 0, none⟩ = some (.pointer (some ⟨s.nb, 0, none⟩)) ∧ W.cell? ⟨s.nb, 1, none⟩ = some (.slice A0 s.data.length c2))) _ HS1.out HS.out) HS.out | exact kpD (T := (fun W => W.cell? ⟨w.heap.size + 2, 0, none⟩ = some (.slice A b.length c) ∧ W.cell? ⟨w.heap.size + 1, 0, none⟩ = some (.pointer (some ⟨s.nb, 0, none⟩)) ∧ W.cell? ⟨s.nb, 1, none⟩ = some (.slice A0 s.data.length c2))) _ (kpA (T := (fun W => W.cell? ⟨w.heap.size + 2, 0, none⟩ = some (.slice A b.length c) ∧ W.cell? ⟨w.heap.size + 1, 0, none⟩ = some (.pointer (some ⟨s.nb, 0, none⟩)) ∧ W.cell? ⟨s.nb, 1, none⟩ = some (.slice A0 s.data.length c2))) _ (kpD (T := (fun W => W.cell? ⟨w.heap.size + 2, 0, none⟩ = some (.slice A b.length c) ∧ W.cell? ⟨w.heap.size + 1, 0, none⟩ = some (.pointer (some ⟨s.nb, 0, none⟩)) ∧ W.cell? ⟨s.nb, 1, none⟩ = some (.slice A0 s.data.length c2))) _ HS1.out HS.out) HS.out) HS.out | fail) (first | (go_at_call 70; refine (HA.out _).mono ?_; rintro e w2 ⟨rfl, k2, rfl⟩) | (go_at_call 71; refine (HBL.out _ ?_).mono ?_; exact HNX.out _ (by assumption); rintro e w3 ⟨rfl, k3, rfl⟩) | fail)
      all_goals
        have hz9 := Lib.hid (show w.heap.size + 3 ≤ w1.heap.size by have := HS1.out.1.size; rw [bx3_size] at this; exact this)
        go_wp2_with fail
        go_meet
        exact ⟨w1.heap.size, rfl, hz9, Lib.hid (blk_cell (blk_set (show _ = some (Obj.cells #[Value.int IntKind.i64 0] 3 (0, 0)) from Go.heap_alloc_new w1 _) 0 _) 0), Lib.hid (by first | exact (kpS (T := (fun W => W.cell? ⟨w.heap.size + 2, 0, none⟩ = some (.slice A b.length c) ∧ W.cell? ⟨w.heap.size + 1, 0, none⟩ = some (.pointer (some ⟨s.nb, 0, none⟩)) ∧ W.cell? ⟨s.nb, 1, none⟩ = some (.slice A0 s.data.length c2))) _ HS1.out.1.size (kpA (T := (fun W => W.cell? ⟨w.heap.size + 2, 0, none⟩ = some (.slice A b.length c) ∧ W.cell? ⟨w.heap.size + 1, 0, none⟩ = some (.pointer (some ⟨s.nb, 0, none⟩)) ∧ W.cell? ⟨s.nb, 1, none⟩ = some (.slice A0 s.data.length c2))) _ (kpD (T := (fun W => W.cell? ⟨w.heap.size + 2, 0, none⟩ = some (.slice A b.length c) ∧ W.cell? ⟨w.heap.size + 1, 0, none⟩ = some (.pointer (some ⟨s.nb, 0, none⟩)) ∧ W.cell? ⟨s.nb, 1, none⟩ = some (.slice A0 s.data.length c2))) _ HS1.out HS.out) HS.out) HS.out).1 | exact (kpS (T := (fun W => W.cell? ⟨w.heap.size + 2, 0, none⟩ = some (.slice A b.length c) ∧ W.cell? ⟨w.heap.size + 1, 0, none⟩ = some (.pointer (some ⟨s.nb, 0, none⟩)) ∧ W.cell? ⟨s.nb, 1, none⟩ = some (.slice A0 s.data.length c2))) _ HS1.out.1.size (kpD (T := (fun W => W.cell? ⟨w.heap.size + 2, 0, none⟩ = some (.slice A b.length c) ∧ W.cell? ⟨w.heap.size + 1, 0, none⟩ = some (.pointer (some ⟨s.nb, 0, none⟩)) ∧ W.cell? ⟨s.nb, 1, none⟩ = some (.slice A0 s.data.length c2))) _ (kpA (T := (fun W => W.cell? ⟨w.heap.size + 2, 0, none⟩ = some (.slice A b.length c) ∧ W.cell? ⟨w.heap.size + 1, 0, none⟩ = some (.pointer (some ⟨s.nb, 0, none⟩)) ∧ W.cell? ⟨s.nb, 1, none⟩ = some (.slice A0 s.data.length c2))) _ (kpD (T := (fun W => W.cell? ⟨w.heap.size + 2, 0, none⟩ = some (.slice A b.length c) ∧ W.cell? ⟨w.heap.size + 1, 0, none⟩ = some (.pointer (some ⟨s.nb, 0, none⟩)) ∧ W.cell? ⟨s.nb, 1, none⟩ = some (.slice A0 s.data.length c2))) _ HS1.out HS.out) HS.out) HS.out) HS.out).1 | exact (kpS (T := (fun W => W.cell? ⟨w.heap.size + 2, 0, none⟩ = some (.slice A b.length c) ∧ W.cell? ⟨w.heap.size + 1, 0, none⟩ = some (.pointer (some ⟨s.nb, 0, none⟩)) ∧ W.cell? ⟨s.nb, 1, none⟩ = some (.slice A0 s.data.length c2))) _ HS1.out.1.size (kpD (T := (fun W => W.cell? ⟨w.heap.size + 2, 0, none⟩ = some (.slice A b.length c) ∧ W.cell? ⟨w.heap.size + 1, 0, none⟩ = some (.pointer (some ⟨s.nb, 0, none⟩)) ∧ W.cell? ⟨s.nb, 1, none⟩ = some (.slice A0 s.data.length c2))) _ (kpA (T := (fun W => W.cell? ⟨w.heap.size + 2, 0, none⟩ = some (.slice A b.length c) ∧ W.cell? ⟨w.heap.size + 1, 0, none⟩ = some (.pointer (some ⟨s.nb, 0, none⟩)) ∧ W.cell? ⟨s.nb, 1, none⟩ = some (.slice A0 s.data.length c2))) _ HS1.out HS.out) HS.out) HS.out).1)⟩
    case rest =>
      obtain ⟨bm, rfl, hz9, HM, HBX⟩ := hcut
      have v9 := HM.out
      have v3 : wc.cell? ⟨w.heap.size, 0, none⟩ = some (.pointer (some ⟨tb, 0, none⟩)) := keepC HBX.out (blk_cell (bx3_0 w _ _ _ _ _ _) 0)
      have u1 : wc.cell? ⟨tb, 1, none⟩ = some (.int .i64 n) := keepC HBX.out (keepC HB0.out (blk_cell HT.out 1))
      clear hq1 hq2 hq3 hq4 hq5 hq6
      by_cases kf : n < x - y
      · have HE7 : Hid (E = 7) := Lib.hid (by rw [← HE.out, if_pos kf])
        have kf2 : (n : Int) < ((x - y : Nat) : Int) := by omega
        clear kf HE
        go_wp2_with fail
        go_quiet (fail)
        go_wp2
        go_ret2
        rw [HE7.out]
        exact ErrPost.plan ⟨bt HB0.out (bt HBX.out (bdraw _ _)), _, rfl⟩ (by decide)
      · have HE7 : Hid (E = 0) := Lib.hid (by rw [← HE.out, if_neg kf])
        have kf2 : ¬ (n : Int) < ((x - y : Nat) : Int) := by omega
        have KF := Lib.hid kf
        have hmk : ∀ (fn : Fn) (first cap : Array Value) (w : World), (Instr.makeFunc fn first cap).run Tryz.prog w = .ok (.func fn first cap) w := fun _ _ _ _ => rfl
        clear kf HE
        go_wp2_with fail
        go_quiet (fail)
        go_wp2
        go_ret2
        have hbX : Below (bx3 w (.pointer (some ⟨tb, 0, none⟩)) (.pointer (some ⟨s.nb, 0, none⟩)) (.slice A b.length c) 25 52 33).heap.size (bx3 w (.pointer (some ⟨tb, 0, none⟩)) (.pointer (some ⟨s.nb, 0, none⟩)) (.slice A b.length c) 25 52 33) (wc.drewN nq) := bt HBX.out (bdraw _ _)
        have hbW : Below w.heap.size w (wc.drewN nq) := bt HB0.out hbX
        rw [HE7.out]
        refine ⟨hbW, _, rfl, fun _ => ⟨72, _, rfl, enters_of Tryz.func72 (by kernel_rfl) rfl, ?_⟩⟩
        refine app_do b A c (H.out.below hbW) hg hd hm (by omega) (fun k hk hb => ?_) (keepC hbX (blk_cell (bx3_1 w _ _ _ _ _ _) 0)) (keepC hbX (blk_cell (bx3_2 w _ _ _ _ _ _) 0)) (HBr.out.below hbW) (keepC hbX (blk_cell (bx3_0 w _ _ _ _ _ _) 0)) ?_ ?_
        · have h1 := (H.out.bk hb).1
          have h2 := hz9.out
          simp at hk
          omega
        · rw [HX.out, HY.out]; exact v9
        · rw [HX.out, HY.out]; have := KF.out; omega
end
end Go.Proofs.YtpdcjdangnfeiaaGreatDoor.Ui
end
