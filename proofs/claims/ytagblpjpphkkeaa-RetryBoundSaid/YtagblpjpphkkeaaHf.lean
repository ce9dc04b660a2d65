/- RetryDone walked: for every table, recipient, times, code and reply the law returns true. -/
import Derived.Test.YtagblpjpphkkeaaHe
namespace Go.Proofs.Ytagblpjpphkkeaa.Hf
open Go.RowKit Go.Proofs.Ytagblpjpphkkeaa.Ha Go.Proofs.Ytagblpjpphkkeaa.Hb Go.Proofs.Ytagblpjpphkkeaa.Hc Go.Proofs.Ytagblpjpphkkeaa.Hd Go.Proofs.Ytagblpjpphkkeaa.He Go.Proofs.Ytagblpjpphkkeaa.Hp Go.Proofs.YtagblpjpphkkeaaW.PrintWords Go.Proofs.YtagblpjpphkkeaaW.PrintLast Go.Proofs.YtagblpjpphkkeaaW.PrintMore

theorem bx2 {w w' : World} {o1 o2 : Obj} (h : Below ((w.alloc o1).alloc o2).heap.size ((w.alloc o1).alloc o2) w') : Below w.heap.size w w' :=
  (((Below.refl _ _).alloc (Nat.le_refl _) o1).alloc (by simp) o2).trans (h.mono (by simp; omega))

theorem keepC {w2 w3 : World} {b o : Nat} {v : Value} (hb : Below w2.heap.size w2 w3) (h : w2.cell? ⟨b, o, none⟩ = some v) : w3.cell? ⟨b, o, none⟩ = some v :=
  (hb.cell (p := ⟨b, o, none⟩) (World.block_lt_of_cell? _ _ h)).trans h
theorem cell_of_block {w : World} {g : Nat} {cs : Array Value} {t : TypeId} {fr : Nat × Nat} (h : w.heap[g]? = some (.cells cs t fr)) (i : Nat) : w.cell? ⟨g, i, none⟩ = cs[i]? := by simp [World.cell?, h]

set_option maxHeartbeats 4000000 in
theorem done_walk (A : Option Addr) (c : Nat) (l : List Int) (x st tr nx cd born now code : Int) (lo dm wy why : ByteArray) (w : World) (hc : ReadsInt w .i64 A l.length l) (hl : l.length ≤ c) :
    Calls Try.prog 4 #[.agg #[.slice A l.length c, .int .i64 x], .agg #[.string lo, .string dm, .int .i64 st, .int .i64 tr, .int .i64 nx, .int .i64 cd, .string wy], .int .i64 born, .int .i64 now, .int .i64 code, .string why] w fun e w' => e = .returned (.bool true) ∧ Below w.heap.size w w' := by
  have hu24 := Try.underlying24
  have hu40 := Try.underlying40
  have hu42 := Try.underlying42
  have hu45 := Try.underlying45
  have HC := Lib.hid hc
  have HL := Lib.hid hl
  clear hc hl
  go_enter Try.func4, Try.ntmps4
  go_wp2_with fail
  refine (known_any _).mono ?_
  rintro e w1 ⟨rfl, hb⟩
  have hB := Lib.hid (bx2 hb)
  obtain ⟨hc, hf⟩ := bcell hb
  have hz : w.heap.size + 1 < w1.heap.size := by have := hb.size; simp at this; omega
  clear hb
  by_cases g1 : 100 < (l.length : Int)
  · go_wp2
    go_ret
    exact ⟨rfl, hB.out⟩
  have hLn : Hid (l.length ≤ 1000) := Lib.hid (by omega)
  by_cases b1 : rightB (checkF l x) born now = true
  rotate_left
  · have B1 := Lib.hid (show rightB (checkF l x) born now = false by simpa using b1)
    clear b1
    go_wp2_with fail
    refine (right_any A c l x born now _ (HC.out.below hB.out)).mono ?_
    rintro e w2 ⟨rfl, hb⟩
    rw [B1.out]
    have hB3 := Lib.hid (bt hB.out hb)
    clear hb
    go_wp2
    go_ret
    exact ⟨rfl, hB3.out⟩
  obtain ⟨hk, hb1, hb2, hb3, hb4⟩ : checkF l x = 0 ∧ 0 ≤ born ∧ born ≤ 2147483647 ∧ 0 ≤ now ∧ now ≤ 2147483647 := by simpa [rightB] using b1
  have h0 : Hid (0 < l.length) := Lib.hid (by
    unfold checkF at hk
    by_cases h : l.length < 1 ∨ l.length > 32 ∨ x < 1 ∨ x > 16777216
    · rw [if_pos h] at hk; exact absurd hk (by decide)
    · omega)
  have B1 := Lib.hid b1
  clear hk b1
  go_wp2_with fail
  refine (right_any A c l x born now _ (HC.out.below hB.out)).mono ?_
  rintro e w2 ⟨rfl, hb⟩
  rw [B1.out]
  have hB3 := Lib.hid (bt hB.out hb)
  obtain ⟨hc2, hf2⟩ := bcell hb
  have hz3 : w.heap.size + 1 < w2.heap.size := Nat.lt_of_lt_of_le hz hb.size
  clear hb
  have e0 : w2.cell? ⟨w.heap.size, 0, none⟩ = some (.slice A l.length c) := by rw [hc2 _ _ (by omega), hc _ _ (by simp; omega)]; simp
  have e1 : w2.cell? ⟨w.heap.size, 1, none⟩ = some (.int .i64 x) := by rw [hc2 _ _ (by omega), hc _ _ (by simp; omega)]; simp
  have f0 : w2.cell? ⟨w.heap.size + 1, 0, none⟩ = some (.string lo) := by rw [hc2 _ _ (by omega), hc _ _ (by simp)]; simp
  have f1 : w2.cell? ⟨w.heap.size + 1, 1, none⟩ = some (.string dm) := by rw [hc2 _ _ (by omega), hc _ _ (by simp)]; simp
  have f2 : w2.cell? ⟨w.heap.size + 1, 2, none⟩ = some (.int .i64 st) := by rw [hc2 _ _ (by omega), hc _ _ (by simp)]; simp
  have f3 : w2.cell? ⟨w.heap.size + 1, 3, none⟩ = some (.int .i64 tr) := by rw [hc2 _ _ (by omega), hc _ _ (by simp)]; simp
  have f4 : w2.cell? ⟨w.heap.size + 1, 4, none⟩ = some (.int .i64 nx) := by rw [hc2 _ _ (by omega), hc _ _ (by simp)]; simp
  have f5 : w2.cell? ⟨w.heap.size + 1, 5, none⟩ = some (.int .i64 cd) := by rw [hc2 _ _ (by omega), hc _ _ (by simp)]; simp
  have f6 : w2.cell? ⟨w.heap.size + 1, 6, none⟩ = some (.string wy) := by rw [hc2 _ _ (by omega), hc _ _ (by simp)]; simp
  have n2 : w2.frozen? ⟨w.heap.size + 1, 2, none⟩ = false := by rw [hf2 _ _ (by omega), hf _ _ (by simp)]; simp
  clear hc hf hc2 hf2
  by_cases g2 : 400 < (why.size : Int)
  · go_wp2
    go_ret
    exact ⟨rfl, hB3.out⟩
  by_cases g3 : tr < 0
  · go_wp2
    go_ret
    exact ⟨rfl, hB3.out⟩
  by_cases g4 : 255 < tr
  · go_wp2
    go_ret
    exact ⟨rfl, hB3.out⟩
  by_cases g5 : few1B lo dm wy = true
  rotate_left
  · have G5 := Lib.hid (show few1B lo dm wy = false by simpa using g5)
    clear g5
    go_wp2_with fail
    refine (few1_any w2.heap.size lo dm wy st tr nx cd _ (heap_alloc_new _ _)).mono ?_
    rintro e w3 ⟨rfl, hb⟩
    rw [G5.out]
    have hB4 := Lib.hid (bt hB3.out (bx1 hb))
    clear hb
    go_wp2
    go_ret
    exact ⟨rfl, hB4.out⟩
  have G5 := Lib.hid g5
  clear g5
  go_wp2_with fail
  refine (few1_any w2.heap.size lo dm wy st tr nx cd _ (heap_alloc_new _ _)).mono ?_
  rintro e w3 ⟨rfl, hb⟩
  rw [G5.out]
  have hb' := bx1 hb
  have hB4 := Lib.hid (bt hB3.out hb')
  obtain ⟨hc, hf⟩ := bcell hb'
  have hz4 : w.heap.size + 1 < w3.heap.size := Nat.lt_of_lt_of_le hz3 hb'.size
  clear hb hb'
  have k0 := (hc _ _ (by omega)).trans e0
  have k1 := (hc _ _ (by omega)).trans e1
  have j0 := (hc _ _ (by omega)).trans f0
  have j1 := (hc _ _ (by omega)).trans f1
  have j2 := (hc _ _ (by omega)).trans f2
  have j3 := (hc _ _ (by omega)).trans f3
  have j4 := (hc _ _ (by omega)).trans f4
  have j5 := (hc _ _ (by omega)).trans f5
  have j6 := (hc _ _ (by omega)).trans f6
  have m2 := (hf _ _ (by omega)).trans n2
  clear e0 e1 f0 f1 f2 f3 f4 f5 f6 n2 hc hf
  -- THE STORE
  go_wp2_with fail
  have hB5 := Lib.hid (hB4.out.setCell (p := ⟨w.heap.size + 1, 2, none⟩) (by simp) (.int .i64 1))
  have q0 := (World.cell?_setCell_other (w := w3) (a := ⟨w.heap.size + 1, 2, none⟩) (v := .int .i64 1) (b := ⟨w.heap.size, 0, none⟩) (by simp)).trans k0
  have q1 := (World.cell?_setCell_other (w := w3) (a := ⟨w.heap.size + 1, 2, none⟩) (v := .int .i64 1) (b := ⟨w.heap.size, 1, none⟩) (by simp)).trans k1
  have r0 := (World.cell?_setCell_other (w := w3) (a := ⟨w.heap.size + 1, 2, none⟩) (v := .int .i64 1) (b := ⟨w.heap.size + 1, 0, none⟩) (by simp)).trans j0
  have r1 := (World.cell?_setCell_other (w := w3) (a := ⟨w.heap.size + 1, 2, none⟩) (v := .int .i64 1) (b := ⟨w.heap.size + 1, 1, none⟩) (by simp)).trans j1
  have r2 := World.cell?_setCell_same' w3 ⟨w.heap.size + 1, 2, none⟩ (.int .i64 1) (by rw [j2]; rfl)
  have r3 := (World.cell?_setCell_other (w := w3) (a := ⟨w.heap.size + 1, 2, none⟩) (v := .int .i64 1) (b := ⟨w.heap.size + 1, 3, none⟩) (by simp)).trans j3
  have r4 := (World.cell?_setCell_other (w := w3) (a := ⟨w.heap.size + 1, 2, none⟩) (v := .int .i64 1) (b := ⟨w.heap.size + 1, 4, none⟩) (by simp)).trans j4
  have r5 := (World.cell?_setCell_other (w := w3) (a := ⟨w.heap.size + 1, 2, none⟩) (v := .int .i64 1) (b := ⟨w.heap.size + 1, 5, none⟩) (by simp)).trans j5
  have r6 := (World.cell?_setCell_other (w := w3) (a := ⟨w.heap.size + 1, 2, none⟩) (v := .int .i64 1) (b := ⟨w.heap.size + 1, 6, none⟩) (by simp)).trans j6
  have hz5 : w.heap.size + 1 < (w3.setCell ⟨w.heap.size + 1, 2, none⟩ (.int .i64 1)).heap.size := by simpa using hz4
  refine (pdone_any A c l x lo dm wy why 1 tr nx cd born now code _ (HC.out.below hB5.out) HL.out h0.out hLn.out (by omega) (by omega) (by omega)).mono ?_
  generalize w3.setCell ⟨w.heap.size + 1, 2, none⟩ (.int .i64 1) = w4 at hB5 q0 q1 r0 r1 r2 r3 r4 r5 r6 hz5 ⊢
  rintro e w5 ⟨rfl, hb⟩
  have hB6 := Lib.hid (bt hB5.out hb)
  obtain ⟨hc, hf⟩ := bcell hb
  have hz6 : w.heap.size + 1 < w5.heap.size := Nat.lt_of_lt_of_le hz5 hb.size
  clear hb k0 k1 j0 j1 j2 j3 j4 j5 j6 m2
  have s0 := (hc _ _ (by omega)).trans q0
  have s1 := (hc _ _ (by omega)).trans q1
  have t0 := (hc _ _ (by omega)).trans r0
  have t1 := (hc _ _ (by omega)).trans r1
  have t2 := (hc _ _ (by omega)).trans r2
  have t3 := (hc _ _ (by omega)).trans r3
  have t4 := (hc _ _ (by omega)).trans r4
  have t5 := (hc _ _ (by omega)).trans r5
  have t6 := (hc _ _ (by omega)).trans r6
  clear q0 q1 r0 r1 r2 r3 r4 r5 r6 hc hf
  go_wp2_with fail
  have hbW : Below w5.heap.size w5 (w5.alloc (Obj.cells #[.string lo, .string dm, .int .i64 (doneF l x 1 tr nx born now code).1, .int .i64 (trF tr), .int .i64 (doneF l x 1 tr nx born now code).2.1, .int .i64 (doneF l x 1 tr nx born now code).2.2, .string (whyF why)] 40)) := (Below.refl _ _).alloc (Nat.le_refl _) _
  have u0 := keepC hbW s0
  have u1 := keepC hbW s1
  have v0 := keepC hbW t0
  have v1 := keepC hbW t1
  have v2 := keepC hbW t2
  have v3 := keepC hbW t3
  have v4 := keepC hbW t4
  have v5 := keepC hbW t5
  have v6 := keepC hbW t6
  have x0 : (w5.alloc (Obj.cells #[.string lo, .string dm, .int .i64 (doneF l x 1 tr nx born now code).1, .int .i64 (trF tr), .int .i64 (doneF l x 1 tr nx born now code).2.1, .int .i64 (doneF l x 1 tr nx born now code).2.2, .string (whyF why)] 40)).cell? ⟨w5.heap.size, 0, none⟩ = some (.string lo) := by rw [cell_of_block (heap_alloc_new w5 _)]; rfl
  have x1 : (w5.alloc (Obj.cells #[.string lo, .string dm, .int .i64 (doneF l x 1 tr nx born now code).1, .int .i64 (trF tr), .int .i64 (doneF l x 1 tr nx born now code).2.1, .int .i64 (doneF l x 1 tr nx born now code).2.2, .string (whyF why)] 40)).cell? ⟨w5.heap.size, 1, none⟩ = some (.string dm) := by rw [cell_of_block (heap_alloc_new w5 _)]; rfl
  have x2 : (w5.alloc (Obj.cells #[.string lo, .string dm, .int .i64 (doneF l x 1 tr nx born now code).1, .int .i64 (trF tr), .int .i64 (doneF l x 1 tr nx born now code).2.1, .int .i64 (doneF l x 1 tr nx born now code).2.2, .string (whyF why)] 40)).cell? ⟨w5.heap.size, 2, none⟩ = some (.int .i64 (doneF l x 1 tr nx born now code).1) := by rw [cell_of_block (heap_alloc_new w5 _)]; rfl
  have x3 : (w5.alloc (Obj.cells #[.string lo, .string dm, .int .i64 (doneF l x 1 tr nx born now code).1, .int .i64 (trF tr), .int .i64 (doneF l x 1 tr nx born now code).2.1, .int .i64 (doneF l x 1 tr nx born now code).2.2, .string (whyF why)] 40)).cell? ⟨w5.heap.size, 3, none⟩ = some (.int .i64 (trF tr)) := by rw [cell_of_block (heap_alloc_new w5 _)]; rfl
  have x4 : (w5.alloc (Obj.cells #[.string lo, .string dm, .int .i64 (doneF l x 1 tr nx born now code).1, .int .i64 (trF tr), .int .i64 (doneF l x 1 tr nx born now code).2.1, .int .i64 (doneF l x 1 tr nx born now code).2.2, .string (whyF why)] 40)).cell? ⟨w5.heap.size, 4, none⟩ = some (.int .i64 (doneF l x 1 tr nx born now code).2.1) := by rw [cell_of_block (heap_alloc_new w5 _)]; rfl
  have x5 : (w5.alloc (Obj.cells #[.string lo, .string dm, .int .i64 (doneF l x 1 tr nx born now code).1, .int .i64 (trF tr), .int .i64 (doneF l x 1 tr nx born now code).2.1, .int .i64 (doneF l x 1 tr nx born now code).2.2, .string (whyF why)] 40)).cell? ⟨w5.heap.size, 5, none⟩ = some (.int .i64 (doneF l x 1 tr nx born now code).2.2) := by rw [cell_of_block (heap_alloc_new w5 _)]; rfl
  have x6 : (w5.alloc (Obj.cells #[.string lo, .string dm, .int .i64 (doneF l x 1 tr nx born now code).1, .int .i64 (trF tr), .int .i64 (doneF l x 1 tr nx born now code).2.1, .int .i64 (doneF l x 1 tr nx born now code).2.2, .string (whyF why)] 40)).cell? ⟨w5.heap.size, 6, none⟩ = some (.string (whyF why)) := by rw [cell_of_block (heap_alloc_new w5 _)]; rfl
  have hB7 := Lib.hid (bt hB6.out hbW)
  clear hbW s0 s1 t0 t1 t2 t3 t4 t5 t6
  generalize w5.alloc (Obj.cells #[.string lo, .string dm, .int .i64 (doneF l x 1 tr nx born now code).1, .int .i64 (trF tr), .int .i64 (doneF l x 1 tr nx born now code).2.1, .int .i64 (doneF l x 1 tr nx born now code).2.2, .string (whyF why)] 40) = W at hB7 u0 u1 v0 v1 v2 v3 v4 v5 v6 x0 x1 x2 x3 x4 x5 x6 ⊢
  generalize w5.heap.size = B2 at x0 x1 x2 x3 x4 x5 x6 ⊢
  go_region_held3 (fun w' : World => w'.cell? ⟨w.heap.size, 0, none⟩ = some (.slice A l.length c) ∧ w'.cell? ⟨w.heap.size, 1, none⟩ = some (.int .i64 x) ∧ w'.cell? ⟨w.heap.size + 1, 0, none⟩ = some (.string lo) ∧ w'.cell? ⟨w.heap.size + 1, 1, none⟩ = some (.string dm) ∧ w'.cell? ⟨w.heap.size + 1, 2, none⟩ = some (.int .i64 1) ∧ w'.cell? ⟨w.heap.size + 1, 3, none⟩ = some (.int .i64 tr) ∧ w'.cell? ⟨w.heap.size + 1, 4, none⟩ = some (.int .i64 nx) ∧ w'.cell? ⟨w.heap.size + 1, 5, none⟩ = some (.int .i64 cd) ∧ w'.cell? ⟨w.heap.size + 1, 6, none⟩ = some (.string wy) ∧ w'.cell? ⟨B2, 0, none⟩ = some (.string lo) ∧ w'.cell? ⟨B2, 1, none⟩ = some (.string dm) ∧ w'.cell? ⟨B2, 2, none⟩ = some (.int .i64 (doneF l x 1 tr nx born now code).1) ∧ w'.cell? ⟨B2, 3, none⟩ = some (.int .i64 (trF tr)) ∧ w'.cell? ⟨B2, 4, none⟩ = some (.int .i64 (doneF l x 1 tr nx born now code).2.1) ∧ w'.cell? ⟨B2, 5, none⟩ = some (.int .i64 (doneF l x 1 tr nx born now code).2.2) ∧ w'.cell? ⟨B2, 6, none⟩ = some (.string (whyF why)) ∧ Below W.heap.size W w')
    (first | exact ⟨u0, u1, v0, v1, v2, v3, v4, v5, v6, x0, x1, x2, x3, x4, x5, x6, (Below.refl _ _).drew⟩ | exact ⟨keepC hb u0, keepC hb u1, keepC hb v0, keepC hb v1, keepC hb v2, keepC hb v3, keepC hb v4, keepC hb v5, keepC hb v6, keepC hb x0, keepC hb x1, keepC hb x2, keepC hb x3, keepC hb x4, keepC hb x5, keepC hb x6, bt (Below.refl _ _).drew hb⟩ | (go_split_ands; exact ⟨keepC hb (by assumption), keepC hb (by assumption), keepC hb (by assumption), keepC hb (by assumption), keepC hb (by assumption), keepC hb (by assumption), keepC hb (by assumption), keepC hb (by assumption), keepC hb (by assumption), keepC hb (by assumption), keepC hb (by assumption), keepC hb (by assumption), keepC hb (by assumption), keepC hb (by assumption), keepC hb (by assumption), keepC hb (by assumption), bt (by assumption) hb⟩))
    (first
      | (go_at_call 10; refine (of_any _ _ _ _ _).mono ?_; rintro e w' ⟨rfl, hb⟩)
      | (go_at_call 18; refine (done_any A c l x 1 tr nx cd born now code lo dm wy why _ ?hr h0.out (by omega) (by omega) (by omega)).mono ?_; (case hr => (go_split_ands; exact HC.out.below (bt hB7.out (by assumption)))); rintro e w' ⟨rfl, hb⟩))
  have hbb : Below W.heap.size W w' := by
    go_split_ands
    assumption
  go_wp2
  go_ret
  exact ⟨rfl, bt hB7.out hbb⟩
end Go.Proofs.Ytagblpjpphkkeaa.Hf
