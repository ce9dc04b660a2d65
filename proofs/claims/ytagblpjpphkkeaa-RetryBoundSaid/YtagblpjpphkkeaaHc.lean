/- The reference's Done of layer 20, and Class of layer 16, for every recipient and code. -/
import Derived.Test.YtagblpjpphkkeaaHb
namespace Go.Proofs.Ytagblpjpphkkeaa.Hc
open Go.RowKit Go.Proofs.Ytagblpjpphkkeaa.Hb Go.Proofs.YtagblpjpphkkeaaW.PrintWords Go.Proofs.YtagblpjpphkkeaaW.PrintLast Go.Proofs.YtagblpjpphkkeaaW.PrintMore

theorem bcell {W w1 : World} (hb : Below W.heap.size W w1) : (∀ b o, b < W.heap.size → w1.cell? ⟨b, o, none⟩ = W.cell? ⟨b, o, none⟩) ∧ (∀ b o, b < W.heap.size → w1.frozen? ⟨b, o, none⟩ = W.frozen? ⟨b, o, none⟩) :=
  ⟨fun b o h => hb.cell (p := ⟨b, o, none⟩) h, fun b o h => hb.frozen (p := ⟨b, o, none⟩) h⟩

def clsF (c : Int) : Int := if c < 200 then 0 else if c > 599 then 0 else c / 100
theorem class_any (c : Int) (w : World) : Calls Try.prog 23 #[.int .i64 c] w fun e w' => e = .returned (.int .i64 (clsF c)) ∧ w = w' := by
  by_cases c1 : c < 200
  · have HF := Lib.hid (show clsF c = 0 by unfold clsF; rw [if_pos c1])
    go_enter Try.func23, Try.ntmps23
    go_wp2
    go_ret
    exact ⟨ret_int HF.out.symm, rfl⟩
  by_cases c2 : c > 599
  · have HF := Lib.hid (show clsF c = 0 by unfold clsF; rw [if_neg c1, if_pos c2])
    go_enter Try.func23, Try.ntmps23
    go_wp2
    go_ret
    exact ⟨ret_int HF.out.symm, rfl⟩
  have HF := Lib.hid (show clsF c = c / 100 by unfold clsF; rw [if_neg c1, if_neg c2])
  go_enter Try.func23, Try.ntmps23
  go_wp2
  go_ret
  exact ⟨ret_int HF.out.symm, rfl⟩

def trF (t : Int) : Int := if t < 255 then t + 1 else t
def whyF (s : ByteArray) : ByteArray := if s.size > 100 then s.extract 0 100 else s
def codeF (c : Int) : Int := if clsF c = 0 then 0 else c
/-- State, Tries, Next, Code. -/
def doneF (l : List Int) (x st tr nx born now code : Int) : Int × Int × Int :=
  if clsF code = 2 then (3, nx, codeF code) else if clsF code = 5 then (4, nx, codeF code) else
  if (nextF l x born (trF tr) now).2 = false then (4, nx, codeF code) else (st, if (nextF l x born (trF tr) now).1 > 2147483647 then 2147483647 else (nextF l x born (trF tr) now).1, codeF code)

theorem post7 {lo dm s s' : ByteArray} {a a' b b' c c' d d' : Int} (h1 : a = a') (h2 : b = b') (h3 : c = c') (h4 : d = d') (h5 : s = s') :
    Ending.returned (.agg #[.string lo, .string dm, .int .i64 a, .int .i64 b, .int .i64 c, .int .i64 d, .string s]) = .returned (.agg #[.string lo, .string dm, .int .i64 a', .int .i64 b', .int .i64 c', .int .i64 d', .string s']) := by
  rw [h1, h2, h3, h4, h5]

theorem bl3 {w : World} {o1 o2 o3 : Obj} : Below w.heap.size w (((w.alloc o1).alloc o2).alloc o3) :=
  (((Below.refl _ _).alloc (Nat.le_refl _) _).alloc (by simp) _).alloc (by simp; omega) _
theorem bx3 {w w' : World} {o1 o2 o3 : Obj} (h : Below (((w.alloc o1).alloc o2).alloc o3).heap.size (((w.alloc o1).alloc o2).alloc o3) w') : Below w.heap.size w w' :=
  bl3.trans (h.mono (by simp; omega))

theorem d2 {l : List Int} {x st tr nx born now code : Int} (_e0 : (clsF code == 0) = false) (e2 : (clsF code == 2) = true) : doneF l x st tr nx born now code = (3, nx, code) := by
  simp only [beq_iff_eq] at e2
  simp [doneF, codeF, e2]
theorem d5 {l : List Int} {x st tr nx born now code : Int} (_e0 : (clsF code == 0) = false) (_e2 : (clsF code == 2) = false) (e5 : (clsF code == 5) = true) : doneF l x st tr nx born now code = (4, nx, code) := by
  simp only [beq_iff_eq] at e5
  simp [doneF, codeF, e5]
theorem dn {l : List Int} {x st tr nx born now code : Int} {b : Bool} (e0 : (clsF code == 0) = b) (e2 : (clsF code == 2) = false) (e5 : (clsF code == 5) = false) {t : Int} (ht : trF tr = t) (hn : (!(nextF l x born t now).snd) = true) : doneF l x st tr nx born now code = (4, nx, if b then 0 else code) := by
  subst ht e0
  simp only [beq_eq_false_iff_ne] at e2 e5
  simp at hn
  simp [doneF, codeF, e2, e5, hn]
theorem dy {l : List Int} {x st tr nx born now code : Int} {b : Bool} (e0 : (clsF code == 0) = b) (e2 : (clsF code == 2) = false) (e5 : (clsF code == 5) = false) {t : Int} (ht : trF tr = t) (hn : (!(nextF l x born t now).snd) = false) : doneF l x st tr nx born now code = (st, if (nextF l x born t now).1 > 2147483647 then 2147483647 else (nextF l x born t now).1, if b then 0 else code) := by
  subst ht e0
  simp only [beq_eq_false_iff_ne] at e2 e5
  simp at hn
  simp [doneF, codeF, e2, e5, hn]

set_option maxHeartbeats 4000000 in
theorem done_any (A : Option Addr) (c : Nat) (l : List Int) (x st tr nx cd born now code : Int) (lo dm wy why : ByteArray) (w : World) (hc : ReadsInt w .i64 A l.length l) (h0 : 0 < l.length) (ht0 : 0 ≤ tr) (ht1 : tr ≤ 255) (hw : why.size ≤ 1000) :
    Calls Try.prog 18 #[.agg #[.slice A l.length c, .int .i64 x], .agg #[.string lo, .string dm, .int .i64 st, .int .i64 tr, .int .i64 nx, .int .i64 cd, .string wy], .int .i64 born, .int .i64 now, .int .i64 code, .string why] w fun e w' =>
      e = .returned (.agg #[.string lo, .string dm, .int .i64 (doneF l x st tr nx born now code).1, .int .i64 (trF tr), .int .i64 (doneF l x st tr nx born now code).2.1, .int .i64 (doneF l x st tr nx born now code).2.2, .string (whyF why)]) ∧ Below w.heap.size w w' := by
  have hu29 := Try.underlying29
  have hu47 := Try.underlying47
  have HC := Lib.hid hc
  clear hc
  have hk : Hid (∀ b : Int, 0 ≤ b → b ≤ 256 → (Lit.int .i64 b).wf = true) := Lib.hid (fun b _ _ => by simp [Lit.wf, IntKind.min, IntKind.max, IntKind.bits, IntKind.signed]; omega)
  obtain ⟨T, HT, hT⟩ : ∃ T, Hid (trF tr = T) ∧ (tr < 255 ∧ T = tr + 1 ∨ ¬ tr < 255 ∧ tr = T) := ⟨_, Lib.hid rfl, by unfold trF; split <;> simp_all⟩
  obtain ⟨S, HW, hS⟩ : ∃ S, Hid (whyF why = S) ∧ ((100 : Int) < why.size ∧ S = why.extract 0 100 ∨ (why.size : Int) ≤ 100 ∧ why = S) := ⟨_, Lib.hid rfl, by
    unfold whyF
    by_cases h : why.size > 100
    · rw [if_pos h]; exact .inl ⟨by omega, rfl⟩
    · rw [if_neg h]; exact .inr ⟨by omega, rfl⟩⟩
  rcases hT with ⟨c1, rfl⟩ | ⟨c1, rfl⟩ <;> rcases hS with ⟨c2, rfl⟩ | ⟨c2, rfl⟩
  all_goals
    go_enter Try.func18, Try.ntmps18
    go_wp2_with (go_at_call 23; refine (class_any _ _).mono ?_; rintro e w' ⟨rfl, rfl⟩)
    rotate_left
    · refine bodyPost_ret (v := .agg #[.string lo, .string dm, .int .i64 (doneF l x st tr nx born now code).1, .int .i64 (trF tr), .int .i64 (doneF l x st tr nx born now code).2.1, .int .i64 (doneF l x st tr nx born now code).2.2, .string (whyF why)]) ?_ rfl ⟨rfl, bl3⟩
      rw [d2 (by assumption) (by assumption), HT.out, HW.out]
      simp [results, go_sem]
    · refine bodyPost_ret (v := .agg #[.string lo, .string dm, .int .i64 (doneF l x st tr nx born now code).1, .int .i64 (trF tr), .int .i64 (doneF l x st tr nx born now code).2.1, .int .i64 (doneF l x st tr nx born now code).2.2, .string (whyF why)]) ?_ rfl ⟨rfl, bl3⟩
      rw [d5 (by assumption) (by assumption) (by assumption), HT.out, HW.out]
      simp [results, go_sem]
    all_goals
      refine (next_any A c l x born _ now _ (rd1 (rd1 (rd1 HC.out _) _) _) h0 (hk.out _ (by omega) (by omega))).mono ?_
      rintro e w' ⟨rfl, hb⟩
      have hB := Lib.hid (bx3 hb)
      obtain ⟨hc, hf⟩ := bcell hb
      have hz : w.heap.size + 2 < w'.heap.size := by have := hb.size; simp at this; omega
      clear hb
      go_wp2
      · refine bodyPost_ret (v := .agg #[.string lo, .string dm, .int .i64 (doneF l x st tr nx born now code).1, .int .i64 (trF tr), .int .i64 (doneF l x st tr nx born now code).2.1, .int .i64 (doneF l x st tr nx born now code).2.2, .string (whyF why)]) ?_ rfl ⟨rfl, ?_⟩
        · rw [dn (by assumption) (by assumption) (by assumption) HT.out (by assumption), HT.out, HW.out]
          simp [results, go_sem, hc]
        · repeat (first | (with_reducible exact hB.out) | refine Below.setCell ?_ (by simp <;> omega) _)
      · refine bodyPost_ret (v := .agg #[.string lo, .string dm, .int .i64 (doneF l x st tr nx born now code).1, .int .i64 (trF tr), .int .i64 (doneF l x st tr nx born now code).2.1, .int .i64 (doneF l x st tr nx born now code).2.2, .string (whyF why)]) ?_ rfl ⟨rfl, ?_⟩
        · rw [dy (by assumption) (by assumption) (by assumption) HT.out (by assumption), HT.out, HW.out, if_pos (by assumption)]
          simp [results, go_sem, hc]
        · repeat (first | (with_reducible exact hB.out) | refine Below.setCell ?_ (by simp <;> omega) _)
      · refine bodyPost_ret (v := .agg #[.string lo, .string dm, .int .i64 (doneF l x st tr nx born now code).1, .int .i64 (trF tr), .int .i64 (doneF l x st tr nx born now code).2.1, .int .i64 (doneF l x st tr nx born now code).2.2, .string (whyF why)]) ?_ rfl ⟨rfl, ?_⟩
        · rw [dy (by assumption) (by assumption) (by assumption) HT.out (by assumption), HT.out, HW.out, if_neg (Int.not_lt.2 (by assumption))]
          simp [results, go_sem, hc]
        · repeat (first | (with_reducible exact hB.out) | refine Below.setCell ?_ (by simp <;> omega) _)
end Go.Proofs.Ytagblpjpphkkeaa.Hc
