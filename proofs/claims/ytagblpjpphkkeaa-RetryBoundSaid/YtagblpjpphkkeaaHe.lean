/- RetryTables walked: for every table and times the law returns true. -/
import Derived.Test.YtagblpjpphkkeaaHp
namespace Go.Proofs.Ytagblpjpphkkeaa.He
open Go.RowKit Go.Proofs.Ytagblpjpphkkeaa.Ha Go.Proofs.Ytagblpjpphkkeaa.Hb Go.Proofs.Ytagblpjpphkkeaa.Hc Go.Proofs.Ytagblpjpphkkeaa.Hd Go.Proofs.Ytagblpjpphkkeaa.Hp Go.Proofs.Ytagblpjpphkkeaa.PRetryCodes Go.Proofs.YtagblpjpphkkeaaW.PrintWords Go.Proofs.YtagblpjpphkkeaaW.PrintLast Go.Proofs.YtagblpjpphkkeaaW.PrintMore

theorem known_any (w : World) : Calls Try.prog 7 #[] w fun e w' => e = .returned (.bool true) ∧ Below w.heap.size w w' :=
  mailbaglaw20_known.calls 20000100 true w known_ok
theorem pcheck_any (A : Option Addr) (c : Nat) (l : List Int) (x : Int) (w : World) (hc : ReadsInt w .i64 A l.length l) (hl : l.length ≤ c) (h : l.length ≤ 1000) :
    Calls Try.prog 8 #[.agg #[.slice A l.length c, .int .i64 x]] w fun e w' => e = .returned (.int .i64 (checkF l x)) ∧ Below w.heap.size w w' :=
  retry_Check.calls 2000 A c l x _ w (Kd.C_of_reads (d := (0 : Int)) (h1 := fun _ => rfl) hc) hl (check_eq l x h 2000 (by omega))
theorem pnext_any (A : Option Addr) (c : Nat) (l : List Int) (x born tries now : Int) (w : World) (hc : ReadsInt w .i64 A l.length l) (hl : l.length ≤ c) (h0 : 0 < l.length) (h : l.length ≤ 1000) :
    Calls Try.prog 12 #[.agg #[.slice A l.length c, .int .i64 x], .int .i64 born, .int .i64 tries, .int .i64 now] w fun e w' => e = .returned (.tuple #[.int .i64 (nextF l x born tries now).1, .bool (nextF l x born tries now).2]) ∧ Below w.heap.size w w' :=
  retry_Next.calls A c l x born tries now _ _ w (Kd.C_of_reads (d := (0 : Int)) (h1 := fun _ => rfl) hc) hl (next_eq l x born tries now h0 h)
theorem pbound_any (A : Option Addr) (c : Nat) (l : List Int) (x : Int) (w : World) (hc : ReadsInt w .i64 A l.length l) (hl : l.length ≤ c) (hk : checkF l x = 0) :
    Calls Try.prog 14 #[.agg #[.slice A l.length c, .int .i64 x]] w fun e w' => e = .returned (.int .i64 (boundF l x)) ∧ Below w.heap.size w w' :=
  retry_Bound.calls 20000100 A c l x _ w (Kd.C_of_reads (d := (0 : Int)) (h1 := fun _ => rfl) hc) hl (bound_eq l x hk 20000100 (by decide))
theorem pdone_any (A : Option Addr) (c : Nat) (l : List Int) (x : Int) (lo dm wy why : ByteArray) (st tr nx cd born now code : Int) (w : World) (hc : ReadsInt w .i64 A l.length l) (hl : l.length ≤ c) (h0 : 0 < l.length) (h : l.length ≤ 1000) (ht0 : 0 ≤ tr) (ht1 : tr ≤ 255) (hw : why.size ≤ 1000) :
    Calls Try.prog 17 #[.agg #[.slice A l.length c, .int .i64 x], .agg #[.string lo, .string dm, .int .i64 st, .int .i64 tr, .int .i64 nx, .int .i64 cd, .string wy], .int .i64 born, .int .i64 now, .int .i64 code, .string why] w fun e w' =>
      e = .returned (.agg #[.string lo, .string dm, .int .i64 (doneF l x st tr nx born now code).1, .int .i64 (trF tr), .int .i64 (doneF l x st tr nx born now code).2.1, .int .i64 (doneF l x st tr nx born now code).2.2, .string (whyF why)]) ∧ Below w.heap.size w w' :=
  retry_Done.calls A c l x lo dm st tr nx cd wy born now code why _ _ _ _ _ _ _ w (Kd.C_of_reads (d := (0 : Int)) (h1 := fun _ => rfl) hc) hl (done_eq l x lo dm wy why st tr nx cd born now code h0 h ht0 ht1 hw)

theorem bt {w w1 w2 : World} (h : Below w.heap.size w w1) (k : Below w1.heap.size w1 w2) : Below w.heap.size w w2 := h.trans (k.mono h.size)
theorem keepS {g : Nat} {v0 v1 : Value} {w1 w2 w3 : World} (hb : Below w2.heap.size w2 w3) (h : w2.cell? ⟨g, 0, none⟩ = some v0 ∧ w2.cell? ⟨g, 1, none⟩ = some v1 ∧ Below w1.heap.size w1 w2) (hg : g < w1.heap.size) :
    w3.cell? ⟨g, 0, none⟩ = some v0 ∧ w3.cell? ⟨g, 1, none⟩ = some v1 ∧ Below w1.heap.size w1 w3 :=
  ⟨by rw [hb.cell (p := ⟨g, 0, none⟩) (Nat.lt_of_lt_of_le hg h.2.2.size)]; exact h.1, by rw [hb.cell (p := ⟨g, 1, none⟩) (Nat.lt_of_lt_of_le hg h.2.2.size)]; exact h.2.1, bt h.2.2 hb⟩
theorem rdS {g : Nat} {v0 v1 : Value} {w w1 w2 : World} {A : Option Addr} {l : List Int} (hc : ReadsInt w .i64 A l.length l) (hB : Below w.heap.size w w1) (h : w2.cell? ⟨g, 0, none⟩ = some v0 ∧ w2.cell? ⟨g, 1, none⟩ = some v1 ∧ Below w1.heap.size w1 w2) : ReadsInt w2 .i64 A l.length l :=
  hc.below (bt hB h.2.2)

set_option maxHeartbeats 2000000 in
theorem tables_walk (A : Option Addr) (c : Nat) (l : List Int) (x born tries now : Int) (w : World) (hc : ReadsInt w .i64 A l.length l) (hl : l.length ≤ c) (ht : (Lit.int .i64 tries).wf = true) :
    Calls Try.prog 3 #[.agg #[.slice A l.length c, .int .i64 x], .int .i64 born, .int .i64 tries, .int .i64 now] w fun e w' => e = .returned (.bool true) ∧ Below w.heap.size w w' := by
  have hu24 := Try.underlying24
  have HC := Lib.hid hc
  have HT := Lib.hid ht
  have HL := Lib.hid hl
  clear hc ht hl
  go_enter Try.func3, Try.ntmps3
  go_wp2_with fail
  refine (known_any _).mono ?_
  rintro e w1 ⟨rfl, hb⟩
  have hB := Lib.hid (bx1 hb)
  have q0 : w1.cell? ⟨w.heap.size, 0, none⟩ = some (.slice A l.length c) := by rw [hb.cell (p := ⟨w.heap.size, 0, none⟩) (by simp)]; simp
  have q1 : w1.cell? ⟨w.heap.size, 1, none⟩ = some (.int .i64 x) := by rw [hb.cell (p := ⟨w.heap.size, 1, none⟩) (by simp)]; simp
  have hz : w.heap.size < w1.heap.size := by have := hb.size; simp at this; omega
  clear hb
  by_cases c1 : 100 < (l.length : Int)
  · go_wp2
    go_ret
    exact ⟨rfl, hB.out⟩
  go_wp2_with fail
  have hLn : Hid (l.length ≤ 1000) := Lib.hid (by omega)
  go_region_held3 (fun w' => w'.cell? ⟨w.heap.size, 0, none⟩ = some (.slice A l.length c) ∧ w'.cell? ⟨w.heap.size, 1, none⟩ = some (.int .i64 x) ∧ Below w1.heap.size w1 w')
    (first | exact ⟨q0, q1, (Below.refl _ _).drew⟩ | exact keepS hb ⟨q0, q1, (Below.refl _ _).drew⟩ hz | exact keepS hb (by assumption) hz)
    (first
      | (go_at_call 8; refine (pcheck_any A c l x _ ?_ HL.out hLn.out).mono ?_; (first | exact HC.out.below hB.out.drew | exact rdS HC.out hB.out (by assumption)); rintro e w' ⟨rfl, hb⟩)
      | (go_at_call 10; refine (of_any _ _ _ _ _).mono ?_; rintro e w' ⟨rfl, hb⟩)
      | (go_at_call 9; refine (check_any A c l x _ ?_).mono ?_; (first | exact HC.out.below hB.out.drew | exact rdS HC.out hB.out (by assumption)); rintro e w' ⟨rfl, hb⟩))
  obtain ⟨p0, p1, hbb⟩ : w'.cell? ⟨w.heap.size, 0, none⟩ = some (.slice A l.length c) ∧ w'.cell? ⟨w.heap.size, 1, none⟩ = some (.int .i64 x) ∧ Below w1.heap.size w1 w' := by assumption
  have hB2 := Lib.hid (bt hB.out hbb)
  have hz2 : w.heap.size < w'.heap.size := Nat.lt_of_lt_of_le hz hbb.size
  clear hb hbb q0 q1 hz
  by_cases b1 : rightB (checkF l x) born now = true
  · obtain ⟨hk, hb1, hb2, hb3, hb4⟩ : checkF l x = 0 ∧ 0 ≤ born ∧ born ≤ 2147483647 ∧ 0 ≤ now ∧ now ≤ 2147483647 := by simpa [rightB] using b1
    have HK := Lib.hid hk
    have h0 : Hid (0 < l.length) := Lib.hid (by
      unfold checkF at hk
      by_cases h : l.length < 1 ∨ l.length > 32 ∨ x < 1 ∨ x > 16777216
      · rw [if_pos h] at hk; exact absurd hk (by decide)
      · omega)
    have B1 := Lib.hid b1
    clear hk b1
    go_wp2_with fail
    refine (right_any A c l x born now _ (HC.out.below hB2.out)).mono ?_
    rintro e w2 ⟨rfl, hb⟩
    rw [B1.out]
    have p0' := (hb.cell (p := ⟨w.heap.size, 0, none⟩) hz2).trans p0
    have p1' := (hb.cell (p := ⟨w.heap.size, 1, none⟩) hz2).trans p1
    have hB3 := Lib.hid (bt hB2.out hb)
    have hz3 : w.heap.size < w2.heap.size := Nat.lt_of_lt_of_le hz2 hb.size
    clear hb p0 p1
    go_wp2_with fail
    refine (pnext_any A c l x born tries now _ (HC.out.below hB3.out) HL.out h0.out hLn.out).mono ?_
    rintro e w3 ⟨rfl, hb⟩
    have r0 := (hb.cell (p := ⟨w.heap.size, 0, none⟩) hz3).trans p0'
    have r1 := (hb.cell (p := ⟨w.heap.size, 1, none⟩) hz3).trans p1'
    have hB4 := Lib.hid (bt hB3.out hb)
    have hz4 : w.heap.size < w3.heap.size := Nat.lt_of_lt_of_le hz3 hb.size
    clear hb p0' p1'
    go_wp2_with fail
    refine (of_any _ _ _ _ _).mono ?_
    rintro e w4 ⟨rfl, hb⟩
    have hB5 := Lib.hid (bt hB4.out hb)
    have s0 := (hb.cell (p := ⟨w.heap.size, 0, none⟩) hz4).trans r0
    have s1 := (hb.cell (p := ⟨w.heap.size, 1, none⟩) hz4).trans r1
    have hz5 : w.heap.size < w4.heap.size := Nat.lt_of_lt_of_le hz4 hb.size
    clear hb r0 r1
    go_wp2_with fail
    refine (next_any A c l x born tries now _ (HC.out.below hB5.out) h0.out HT.out).mono ?_
    rintro e w5 ⟨rfl, hb⟩
    have hB6 := Lib.hid (bt hB5.out hb)
    have t0 := (hb.cell (p := ⟨w.heap.size, 0, none⟩) hz5).trans s0
    have t1 := (hb.cell (p := ⟨w.heap.size, 1, none⟩) hz5).trans s1
    have hz6 : w.heap.size < w5.heap.size := Nat.lt_of_lt_of_le hz5 hb.size
    clear hb s0 s1
    go_wp2_with fail
    go_outline
    go_region_held3 (fun w' => w'.cell? ⟨w.heap.size, 0, none⟩ = some (.slice A l.length c) ∧ w'.cell? ⟨w.heap.size, 1, none⟩ = some (.int .i64 x) ∧ Below w5.heap.size w5 w')
      (first | exact ⟨t0, t1, (Below.refl _ _).drew⟩ | exact keepS hb ⟨t0, t1, (Below.refl _ _).drew⟩ hz6 | exact keepS hb (by assumption) hz6)
      (first
        | (go_at_call 14; refine (pbound_any A c l x _ ?_ HL.out HK.out).mono ?_; (first | exact HC.out.below hB6.out.drew | exact rdS HC.out hB6.out (by assumption)); rintro e w' ⟨rfl, hb⟩)
        | (go_at_call 10; refine (of_any _ _ _ _ _).mono ?_; rintro e w' ⟨rfl, hb⟩)
        | (go_at_call 15; refine (bound_any A c l x _ ?_ HK.out).mono ?_; (first | exact HC.out.below hB6.out.drew | exact rdS HC.out hB6.out (by assumption)); rintro e w' ⟨rfl, hb⟩))
    obtain ⟨p0, p1, hbb⟩ : w'.cell? ⟨w.heap.size, 0, none⟩ = some (.slice A l.length c) ∧ w'.cell? ⟨w.heap.size, 1, none⟩ = some (.int .i64 x) ∧ Below w5.heap.size w5 w' := by assumption
    have hB7 := Lib.hid (bt hB6.out hbb)
    clear hb hbb
    go_wp2
    go_ret
    exact ⟨rfl, hB7.out⟩
  · have B1 := Lib.hid (show rightB (checkF l x) born now = false by simpa using b1)
    clear b1
    go_wp2_with fail
    refine (right_any A c l x born now _ (HC.out.below hB2.out)).mono ?_
    rintro e w2 ⟨rfl, hb⟩
    rw [B1.out]
    have hB3 := Lib.hid (bt hB2.out hb)
    clear hb
    go_wp2
    go_ret
    exact ⟨rfl, hB3.out⟩
end Go.Proofs.Ytagblpjpphkkeaa.He
