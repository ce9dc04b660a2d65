/- RetryBound walked: for every table, birth and delays the law returns true. -/
import Derived.Test.YtagblpjpphkkeaaHf
import Derived.Deep.Light
namespace Go.Proofs.Ytagblpjpphkkeaa.Hh
open Go.RowKit Go.Proofs.Ytagblpjpphkkeaa.Ha Go.Proofs.Ytagblpjpphkkeaa.Hb Go.Proofs.Ytagblpjpphkkeaa.Hc Go.Proofs.Ytagblpjpphkkeaa.Hd Go.Proofs.Ytagblpjpphkkeaa.He Go.Proofs.Ytagblpjpphkkeaa.Hf Go.Proofs.Ytagblpjpphkkeaa.Hp Go.Proofs.YtagblpjpphkkeaaW.PrintWords Go.Proofs.YtagblpjpphkkeaaW.PrintLast Go.Proofs.YtagblpjpphkkeaaW.PrintMore

/-- How long so many tries take. -/
def sumW (l : List Int) : Nat → Int
  | 0 => 0
  | n + 1 => sumW l n + waitF l (n + 1)
def LeastB (l : List Int) (E : Int) (b : Nat) : Prop := 1 ≤ b ∧ E ≤ sumW l b ∧ sumW l (b - 1) < E

theorem sumW_late {l : List Int} (n : Nat) : ∀ d : Nat, l.length ≤ n → sumW l (n + d) = sumW l n + d * l.getD (l.length - 1) 0
  | 0, _ => by simp
  | d + 1, h => by
    have e : waitF l ((n + d : Nat) + 1) = l.getD (l.length - 1) 0 := by
      unfold waitF clampN
      rw [if_neg (by omega), if_pos (by omega)]
    show sumW l (n + d) + waitF l ((n + d : Nat) + 1) = _
    rw [sumW_late n d h, e]
    have : ((d + 1 : Nat) : Int) * l.getD (l.length - 1) 0 = (d : Int) * l.getD (l.length - 1) 0 + l.getD (l.length - 1) 0 := by
      rw [Int.natCast_add, Int.add_mul]; simp
    omega

theorem least_of {l : List Int} {E : Int} (h0 : 0 < l.length) (hall : l.all okW = true) (hE : 1 ≤ E) : ∀ (k n : Nat), n + k = 41 → 1 ≤ n → n ≤ l.length → l.length ≤ 32 → sumW l (n - 1) < E → ∃ b : Nat, boundL l E k n (sumW l n) = b ∧ LeastB l E b
  | 0, n, h1, _, h3, h4, _ => by omega
  | k + 1, n, h1, h2, h3, h4, h5 => by
    unfold boundL
    by_cases c : sumW l n < E
    · rw [if_pos c]
      by_cases c2 : ((n : Int) + 1 > l.length)
      · rw [if_pos c2]
        have hn : n = l.length := by omega
        have hb := waitF_bd h0 hall ((l.length : Int) + 1)
        have e : waitF l ((l.length : Int) + 1) = l.getD (l.length - 1) 0 := by unfold waitF clampN; rw [if_neg (by omega), if_pos (by omega)]
        rw [e] at hb
        have hs := sumW_late (l := l) n
        generalize l.getD (l.length - 1) 0 = W at hb hs ⊢
        obtain ⟨q, hq⟩ : ∃ q : Nat, (E - 1 - sumW l n) / W = q := ⟨((E - 1 - sumW l n) / W).toNat, by have := Int.ediv_nonneg (a := E - 1 - sumW l n) (b := W) (by omega) (by omega); omega⟩
        rw [hq]
        have h6 := Int.mul_ediv_self_le (x := E - 1 - sumW l n) (k := W) (by omega)
        have h7 := Int.lt_mul_ediv_self_add (x := E - 1 - sumW l n) (k := W) (by omega)
        rw [hq, Int.mul_comm] at h6 h7
        refine ⟨n + 1 + q, by omega, by omega, ?_, ?_⟩
        · have := hs (1 + q) (by omega)
          rw [show n + 1 + q = n + (1 + q) by omega, this, Int.natCast_add, Int.add_mul]
          simp
          omega
        · have := hs q (by omega)
          rw [show n + 1 + q - 1 = n + q by omega, this]
          omega
      · rw [if_neg c2]
        have := least_of h0 hall hE k (n + 1) (by omega) (by omega) (by omega) h4 (by simpa using c)
        simpa [sumW] using this
    · rw [if_neg c]
      exact ⟨n, rfl, h2, by omega, h5⟩

theorem bound_least {l : List Int} {E : Int} (hk : checkF l E = 0) : ∃ b : Nat, boundF l E = b ∧ LeastB l E b := by
  obtain ⟨h0, h32, hx1, hx2, hall⟩ : 0 < l.length ∧ l.length ≤ 32 ∧ 1 ≤ E ∧ E ≤ 16777216 ∧ l.all okW = true := by
    unfold checkF at hk
    by_cases h : l.length < 1 ∨ l.length > 32 ∨ E < 1 ∨ E > 16777216
    · rw [if_pos h] at hk; exact absurd hk (by decide)
    · rw [if_neg h] at hk
      refine ⟨by omega, by omega, by omega, by omega, ?_⟩
      by_cases ha : l.all okW = true
      · exact ha
      · rw [if_neg ha] at hk; exact absurd hk (by decide)
  have := least_of h0 hall hx1 40 1 rfl (by omega) (by omega) h32 (by simp [sumW]; omega)
  simpa [sumW, boundF] using this

theorem sumW_mono {l : List Int} (h0 : 0 < l.length) (hall : l.all okW = true) {n m : Nat} (h : n ≤ m) : sumW l n ≤ sumW l m := by
  obtain ⟨d, rfl⟩ : ∃ d, m = n + d := ⟨m - n, by omega⟩
  clear h
  induction d with
  | zero => simp
  | succ d ih =>
    have := waitF_bd h0 hall ((n + d : Nat) + 1)
    show _ ≤ sumW l (n + d) + waitF l ((n + d : Nat) + 1)
    omega
-- THE WALK
theorem block_setCell {w : World} {g i : Nat} {cs : Array Value} {t : TypeId} {fr : Nat × Nat} (h : w.heap[g]? = some (.cells cs t fr)) (v : Value) : (w.setCell ⟨g, i, none⟩ v).heap[g]? = some (.cells (cs.setIfInBounds i v) t fr) := by
  rw [setCell_eq_setRow w g i cs t fr v h]
  exact setRow_heap w g _ _ t _ h
theorem set7_blk {w4 : World} {B : Nat} {t : TypeId} {v0 v1 v2 v3 v4 v5 v6 u0 u1 u2 u3 u4 u5 u6 : Value} (h : w4.heap[B]? = some (.cells #[v0, v1, v2, v3, v4, v5, v6] t (0, 0))) :
    ((((((((w4.setCell ⟨B, 0, none⟩ u0).setCell ⟨B, 1, none⟩ u1).setCell ⟨B, 2, none⟩ u2).setCell ⟨B, 3, none⟩ u3).setCell ⟨B, 4, none⟩ u4).setCell ⟨B, 5, none⟩ u5).setCell ⟨B, 6, none⟩ u6)).heap[B]? = some (.cells #[u0, u1, u2, u3, u4, u5, u6] t (0, 0)) := by
  have h0 := block_setCell (i := 0) h u0
  have h1 := block_setCell (i := 1) h0 u1
  have h2 := block_setCell (i := 2) h1 u2
  have h3 := block_setCell (i := 3) h2 u3
  have h4 := block_setCell (i := 4) h3 u4
  have h5 := block_setCell (i := 5) h4 u5
  have h6 := block_setCell (i := 6) h5 u6
  clear h h0 h1 h2 h3 h4 h5
  simpa using h6
theorem set7_far {w4 : World} {B b o : Nat} {u0 u1 u2 u3 u4 u5 u6 v : Value} (hne : B ≠ b) (h : w4.cell? ⟨b, o, none⟩ = some v) : ((((((((w4.setCell ⟨B, 0, none⟩ u0).setCell ⟨B, 1, none⟩ u1).setCell ⟨B, 2, none⟩ u2).setCell ⟨B, 3, none⟩ u3).setCell ⟨B, 4, none⟩ u4).setCell ⟨B, 5, none⟩ u5).setCell ⟨B, 6, none⟩ u6)).cell? ⟨b, o, none⟩ = some v := by
  simp only [World.cell?_setCell_far _ _ _ _ (show (⟨B, _, none⟩ : Addr).block ≠ (⟨b, o, none⟩ : Addr).block from hne)]
  exact h
theorem set7_below {w w4 : World} {B X : Nat} {u0 u1 u2 u3 u4 u5 u6 : Value} (h : Below X w w4) (hB : X ≤ B) : Below X w ((((((((w4.setCell ⟨B, 0, none⟩ u0).setCell ⟨B, 1, none⟩ u1).setCell ⟨B, 2, none⟩ u2).setCell ⟨B, 3, none⟩ u3).setCell ⟨B, 4, none⟩ u4).setCell ⟨B, 5, none⟩ u5).setCell ⟨B, 6, none⟩ u6)) :=
  ((((((h.setCell hB u0).setCell hB u1).setCell hB u2).setCell hB u3).setCell hB u4).setCell hB u5).setCell hB u6
theorem set7_size {w4 : World} {B X : Nat} {u0 u1 u2 u3 u4 u5 u6 : Value} (h : X < w4.heap.size) : X < ((((((((w4.setCell ⟨B, 0, none⟩ u0).setCell ⟨B, 1, none⟩ u1).setCell ⟨B, 2, none⟩ u2).setCell ⟨B, 3, none⟩ u3).setCell ⟨B, 4, none⟩ u4).setCell ⟨B, 5, none⟩ u5).setCell ⟨B, 6, none⟩ u6)).heap.size := by
  simpa using h
theorem valid_of {l : List Int} {x : Int} (hk : checkF l x = 0) : 0 < l.length ∧ l.length ≤ 32 ∧ 1 ≤ x ∧ x ≤ 16777216 ∧ l.all okW = true := by
  unfold checkF at hk
  by_cases h : l.length < 1 ∨ l.length > 32 ∨ x < 1 ∨ x > 16777216
  · rw [if_pos h] at hk; exact absurd hk (by decide)
  · rw [if_neg h] at hk
    refine ⟨by omega, by omega, by omega, by omega, ?_⟩
    by_cases ha : l.all okW = true
    · exact ha
    · rw [if_neg ha] at hk; exact absurd hk (by decide)

/-- Behind n tries: queued, or bounced. -/
def InvB (l : List Int) (x born : Int) (b n : Nat) (st now nx : Int) (js : Bool) : Prop :=
  (st = 1 ∧ n < b ∧ born + sumW l n ≤ nx ∧ nx ≤ born + x ∧ born ≤ now ∧ now ≤ born + x ∧ (js = true → nx = born + sumW l n ∧ now ≤ nx)) ∨ (st = 4 ∧ 1 ≤ n ∧ n ≤ b ∧ (js = true → n = b))
theorem step_inv {l : List Int} {x born : Int} {b n : Nat} {now nx now2 : Int} {js js2 : Bool} (h0 : 0 < l.length) (hall : l.all okW = true) (hx1 : 1 ≤ x) (hx2 : x ≤ 65536) (hb0 : 0 ≤ born) (hb1 : born ≤ 1073741824) (hLB : LeastB l x b) (h250 : b ≤ 250)
    (h : InvB l x born b n 1 now nx js) (hn : (now2 = (if now < nx then nx else now) ∧ js2 = js) ∨ ((if now < nx then nx else now) < now2 ∧ now2 ≤ (if now < nx then nx else now) + 1048576 ∧ js2 = false)) :
    InvB l x born b (n + 1) (doneF l x 1 n nx born now2 451).1 now2 (doneF l x 1 n nx born now2 451).2.1 js2 := by
  rcases h with ⟨_, h1, h2, h3, h4, h5, h6⟩ | ⟨h, _⟩
  rotate_left
  · exact absurd h (by decide)
  obtain ⟨e1, e2, e3⟩ := hLB
  have hw := waitF_bd h0 hall ((n : Int) + 1)
  have hS : sumW l (n + 1) = sumW l n + waitF l ((n : Int) + 1) := rfl
  have hS0 : ∀ m : Nat, (m : Int) ≤ sumW l m := by
    intro m
    induction m with
    | zero => simp [sumW]
    | succ m ih => have := waitF_bd h0 hall ((m : Nat) + 1); show _ ≤ sumW l m + waitF l ((m : Nat) + 1); omega
  have hS1 := hS0 n
  have hT : waitF l (trF n) = waitF l (n + 1) := by unfold trF; rw [if_pos (by omega)]
  have hm : (if now < nx then nx else now) ≤ born + x ∧ nx ≤ (if now < nx then nx else now) ∧ (js = true → (if now < nx then nx else now) = nx) := by
    by_cases c : now < nx
    · rw [if_pos c]; exact ⟨h3, by omega, fun _ => rfl⟩
    · rw [if_neg c]; exact ⟨h5, by omega, fun hj => by have := (h6 hj).2; omega⟩
  generalize (if now < nx then nx else now) = now1 at hm hn
  obtain ⟨m1, m2, m3⟩ := hm
  obtain ⟨n1, n2⟩ : now2 ≤ born + x + 1048576 ∧ nx ≤ now2 := by omega
  have n3 : 0 ≤ nx := by omega
  have hN : nextF l x born (trF n) now2 = if now2 + waitF l (n + 1) ≥ born + x then (0, false) else (now2 + waitF l (n + 1), true) := by
    unfold nextF
    rw [hT, w64 (x := now2 + waitF l ((n : Int) + 1)) (by omega) (by omega), w64 (x := born + x) (by omega) (by omega)]
  have hc4 : clsF 451 = 4 := by decide
  have hD : doneF l x 1 n nx born now2 451 = if now2 + waitF l (n + 1) ≥ born + x then (4, nx, 451) else (1, now2 + waitF l (n + 1), 451) := by
    unfold doneF codeF
    rw [hc4, hN]
    by_cases c : now2 + waitF l (n + 1) ≥ born + x
    · simp [c]
    · simp [c]; omega
  rw [hD]
  by_cases c : now2 + waitF l (n + 1) ≥ born + x
  · rw [if_pos c]
    refine .inr ⟨rfl, by omega, by omega, fun hj => ?_⟩
    rcases hn with ⟨rfl, rfl⟩ | ⟨_, _, rfl⟩
    · have a1 := m3 hj
      have a2 := (h6 hj).1
      by_cases hlt : n + 1 = b
      · exact hlt
      · have := sumW_mono h0 hall (n := n + 1) (m := b - 1) (by omega)
        omega
    · exact absurd hj (by decide)
  · rw [if_neg c]
    dsimp only
    refine .inl ⟨rfl, ?_, by show born + sumW l (n + 1) ≤ _; rw [hS]; omega, by omega, by omega, by omega, fun hj => ?_⟩
    · by_cases hlt : n + 1 < b
      · exact hlt
      · obtain rfl : b = n + 1 := by omega
        rw [hS] at e2
        omega
    · rcases hn with ⟨rfl, rfl⟩ | ⟨_, _, rfl⟩
      · have a1 := m3 hj
        have a2 := (h6 hj).1
        show _ = born + sumW l (n + 1) ∧ _
        rw [hS]
        constructor <;> omega
      · exact absurd hj (by decide)

theorem rel_next {l : List Int} {x born : Int} {b n c : Nat} {nx now2 : Int} {js2 : Bool} {w w3 w4 : World} {A : Option Addr} {v0 v1 v2 v3 v4 v5 v6 : Value}
    (hinv : InvB l x born b (n + 1) (doneF l x 1 n nx born now2 451).1 now2 (doneF l x 1 n nx born now2 451).2.1 js2) (hn : n < 250) (hB : Below w.heap.size w w4) (hz : w.heap.size < w3.heap.size) (hS : w3.heap.size < w4.heap.size)
    (h0 : w4.cell? ⟨w.heap.size, 0, none⟩ = some (.slice A l.length c)) (h1 : w4.cell? ⟨w.heap.size, 1, none⟩ = some (.int .i64 x)) (hK : w4.heap[w3.heap.size]? = some (Obj.cells #[v0, v1, v2, v3, v4, v5, v6] 40 (0, 0))) :
    ∃ (n' : Nat) (now' nx' cd' st' : Int) (js' : Bool) (wy' : ByteArray), Value.int .i64 now2 = Value.int .i64 now' ∧ Value.bool js2 = Value.bool js' ∧ Value.int .i64 ((n : Int) + 1) = Value.int .i64 n' ∧ Hid (InvB l x born b n' st' now' nx' js') ∧ n' ≤ 250 ∧ Hid (Below w.heap.size w (((((((w4.setCell ⟨w3.heap.size, 0, none⟩ (.string ⟨#[]⟩)).setCell ⟨w3.heap.size, 1, none⟩ (.string ⟨#[]⟩)).setCell ⟨w3.heap.size, 2, none⟩ (.int .i64 (doneF l x 1 n nx born now2 451).1)).setCell ⟨w3.heap.size, 3, none⟩ (.int .i64 (trF n))).setCell ⟨w3.heap.size, 4, none⟩ (.int .i64 (doneF l x 1 n nx born now2 451).2.1)).setCell ⟨w3.heap.size, 5, none⟩ (.int .i64 (doneF l x 1 n nx born now2 451).2.2)).setCell ⟨w3.heap.size, 6, none⟩ (.string (whyF ⟨#[108, 97, 116, 101, 114]⟩)))) ∧ Hid (w3.heap.size < (((((((w4.setCell ⟨w3.heap.size, 0, none⟩ (.string ⟨#[]⟩)).setCell ⟨w3.heap.size, 1, none⟩ (.string ⟨#[]⟩)).setCell ⟨w3.heap.size, 2, none⟩ (.int .i64 (doneF l x 1 n nx born now2 451).1)).setCell ⟨w3.heap.size, 3, none⟩ (.int .i64 (trF n))).setCell ⟨w3.heap.size, 4, none⟩ (.int .i64 (doneF l x 1 n nx born now2 451).2.1)).setCell ⟨w3.heap.size, 5, none⟩ (.int .i64 (doneF l x 1 n nx born now2 451).2.2)).setCell ⟨w3.heap.size, 6, none⟩ (.string (whyF ⟨#[108, 97, 116, 101, 114]⟩))).heap.size) ∧
      Hid ((((((((w4.setCell ⟨w3.heap.size, 0, none⟩ (.string ⟨#[]⟩)).setCell ⟨w3.heap.size, 1, none⟩ (.string ⟨#[]⟩)).setCell ⟨w3.heap.size, 2, none⟩ (.int .i64 (doneF l x 1 n nx born now2 451).1)).setCell ⟨w3.heap.size, 3, none⟩ (.int .i64 (trF n))).setCell ⟨w3.heap.size, 4, none⟩ (.int .i64 (doneF l x 1 n nx born now2 451).2.1)).setCell ⟨w3.heap.size, 5, none⟩ (.int .i64 (doneF l x 1 n nx born now2 451).2.2)).setCell ⟨w3.heap.size, 6, none⟩ (.string (whyF ⟨#[108, 97, 116, 101, 114]⟩))).cell? ⟨w.heap.size, 0, none⟩ = some (.slice A l.length c)) ∧ Hid ((((((((w4.setCell ⟨w3.heap.size, 0, none⟩ (.string ⟨#[]⟩)).setCell ⟨w3.heap.size, 1, none⟩ (.string ⟨#[]⟩)).setCell ⟨w3.heap.size, 2, none⟩ (.int .i64 (doneF l x 1 n nx born now2 451).1)).setCell ⟨w3.heap.size, 3, none⟩ (.int .i64 (trF n))).setCell ⟨w3.heap.size, 4, none⟩ (.int .i64 (doneF l x 1 n nx born now2 451).2.1)).setCell ⟨w3.heap.size, 5, none⟩ (.int .i64 (doneF l x 1 n nx born now2 451).2.2)).setCell ⟨w3.heap.size, 6, none⟩ (.string (whyF ⟨#[108, 97, 116, 101, 114]⟩))).cell? ⟨w.heap.size, 1, none⟩ = some (.int .i64 x)) ∧ Hid ((((((((w4.setCell ⟨w3.heap.size, 0, none⟩ (.string ⟨#[]⟩)).setCell ⟨w3.heap.size, 1, none⟩ (.string ⟨#[]⟩)).setCell ⟨w3.heap.size, 2, none⟩ (.int .i64 (doneF l x 1 n nx born now2 451).1)).setCell ⟨w3.heap.size, 3, none⟩ (.int .i64 (trF n))).setCell ⟨w3.heap.size, 4, none⟩ (.int .i64 (doneF l x 1 n nx born now2 451).2.1)).setCell ⟨w3.heap.size, 5, none⟩ (.int .i64 (doneF l x 1 n nx born now2 451).2.2)).setCell ⟨w3.heap.size, 6, none⟩ (.string (whyF ⟨#[108, 97, 116, 101, 114]⟩))).heap[w3.heap.size]? = some (Obj.cells #[.string ⟨#[]⟩, .string ⟨#[]⟩, .int .i64 st', .int .i64 n', .int .i64 nx', .int .i64 cd', .string wy'] 40 (0, 0))) := by
  have ht : trF (n : Int) = ((n + 1 : Nat) : Int) := by unfold trF; rw [if_pos (by omega)]; omega
  have hk := set7_blk (u0 := .string ⟨#[]⟩) (u1 := .string ⟨#[]⟩) (u2 := .int .i64 (doneF l x 1 n nx born now2 451).1) (u3 := .int .i64 (trF n)) (u4 := .int .i64 (doneF l x 1 n nx born now2 451).2.1) (u5 := .int .i64 (doneF l x 1 n nx born now2 451).2.2) (u6 := .string (whyF ⟨#[108, 97, 116, 101, 114]⟩)) hK
  refine ⟨n + 1, now2, (doneF l x 1 n nx born now2 451).2.1, (doneF l x 1 n nx born now2 451).2.2, (doneF l x 1 n nx born now2 451).1, js2, whyF ⟨#[108, 97, 116, 101, 114]⟩, rfl, rfl, by rw [Int.natCast_add]; rfl, Lib.hid hinv, by omega, Lib.hid (set7_below hB (by omega)), Lib.hid (set7_size hS), Lib.hid (set7_far (by omega) h0), Lib.hid (set7_far (by omega) h1), Lib.hid ?_⟩
  rw [ht] at hk ⊢
  exact hk

set_option maxHeartbeats 8000000 in
theorem bound_walk (A : Option Addr) (c : Nat) (l : List Int) (x born : Int) (A2 : Option Addr) (c2 : Nat) (late : List Int) (w : World) (hc : ReadsInt w .i64 A l.length l) (hl : l.length ≤ c) (hc2 : ReadsInt w .i64 A2 late.length late) :
    Calls Try.prog 5 #[.agg #[.slice A l.length c, .int .i64 x], .int .i64 born, .slice A2 late.length c2] w fun e w' => e = .returned (.bool true) ∧ Below w.heap.size w w' := by
  have hu24 := Try.underlying24
  have hu40 := Try.underlying40
  have HC := Lib.hid hc
  have HC2 := Lib.hid hc2
  have HL := Lib.hid hl
  clear hc hl hc2
  go_enter Try.func5, Try.ntmps5
  go_wp2_with fail
  refine (known_any _).mono ?_
  rintro e w1 ⟨rfl, hb⟩
  have hB := Lib.hid (bx1 hb)
  obtain ⟨hc, hf⟩ := bcell hb
  have hz : w.heap.size < w1.heap.size := by have := hb.size; simp at this; omega
  have q0 : w1.cell? ⟨w.heap.size, 0, none⟩ = some (.slice A l.length c) := by rw [hc _ _ (by simp)]; simp
  have q1 : w1.cell? ⟨w.heap.size, 1, none⟩ = some (.int .i64 x) := by rw [hc _ _ (by simp)]; simp
  clear hb hc hf
  by_cases b1 : rightB (checkF l x) born 0 = true
  rotate_left
  · have B1 := Lib.hid (show rightB (checkF l x) born 0 = false by simpa using b1)
    clear b1
    go_wp2_with fail
    refine (right_any A c l x born 0 _ (HC.out.below hB.out)).mono ?_
    rintro e w2 ⟨rfl, hb⟩
    rw [B1.out]
    have hB3 := Lib.hid (bt hB.out hb)
    clear hb
    go_wp2
    go_ret
    exact ⟨rfl, hB3.out⟩
  obtain ⟨hk, hb1, hb2⟩ : checkF l x = 0 ∧ 0 ≤ born ∧ born ≤ 2147483647 := by simpa [rightB] using b1
  have HK := Lib.hid hk
  obtain ⟨h0, h32, hx1, hx2, hall⟩ := valid_of hk
  have B1 := Lib.hid b1
  clear hk b1
  go_wp2_with fail
  refine (right_any A c l x born 0 _ (HC.out.below hB.out)).mono ?_
  rintro e w2 ⟨rfl, hb⟩
  rw [B1.out]
  have hB3 := Lib.hid (bt hB.out hb)
  have r0 := keepC hb q0
  have r1 := keepC hb q1
  have hz3 : w.heap.size < w2.heap.size := Nat.lt_of_lt_of_le hz hb.size
  clear hb q0 q1 hz
  by_cases g1 : 1073741824 < born
  · go_wp2
    go_ret
    exact ⟨rfl, hB3.out⟩
  have g2 : (l.length : Int) ≤ 32 := by omega
  by_cases g3 : 65536 < x
  · go_wp2
    go_ret
    exact ⟨rfl, hB3.out⟩
  by_cases g4 : 300 < (late.length : Int)
  · go_wp2
    go_ret
    exact ⟨rfl, hB3.out⟩
  obtain ⟨b, hbb, hLB⟩ := bound_least HK.out
  have HLB := Lib.hid hLB
  have HBB := Lib.hid hbb
  clear hLB hbb
  go_wp2_with fail
  refine (pbound_any A c l x _ (HC.out.below hB3.out) HL.out HK.out).mono ?_
  rintro e w3 ⟨rfl, hb⟩
  rw [HBB.out]
  have hB4 := Lib.hid (bt hB3.out hb)
  have s0 := keepC hb r0
  have s1 := keepC hb r1
  have hz4 : w.heap.size < w3.heap.size := Nat.lt_of_lt_of_le hz3 hb.size
  clear hb r0 r1 hz3
  by_cases g5 : 250 < (b : Int)
  · go_wp2
    go_ret
    exact ⟨rfl, hB4.out⟩
  have hz5 : Hid (w.heap.size < w3.heap.size) := Lib.hid hz4
  have hb250 : Hid (b ≤ 250) := Lib.hid (by omega)
  have h00 : Hid (0 < l.length) := Lib.hid h0
  have hal : Hid (l.all okW = true) := Lib.hid hall
  have hx2' : Hid (x ≤ 65536) := Lib.hid (by omega)
  have hb2' : Hid (born ≤ 1073741824) := Lib.hid (by omega)
  have hx1' : Hid (1 ≤ x) := Lib.hid hx1
  have hb1' : Hid (0 ≤ born) := Lib.hid hb1
  have hlt300 : (late.length : Int) ≤ 300 := by omega
  have hw0 : Hid (w3.heap.size + 1 = (w3.alloc (Obj.cells #[.string ⟨#[]⟩, .string ⟨#[]⟩, .int .i64 1, .int .i64 0, .int .i64 born, .int .i64 0, .string ⟨#[]⟩] 40)).heap.size) := Lib.hid (by simp)
  have hbW : Below w3.heap.size w3 (w3.alloc (Obj.cells #[.string ⟨#[]⟩, .string ⟨#[]⟩, .int .i64 1, .int .i64 0, .int .i64 born, .int .i64 0, .string ⟨#[]⟩] 40)) := (Below.refl _ _).alloc (Nat.le_refl _) _
  have hB5 := Lib.hid (bt hB4.out hbW)
  have hT0 := Lib.hid (keepC hbW s0)
  have hT1 := Lib.hid (keepC hbW s1)
  have hK := Lib.hid (heap_alloc_new w3 (Obj.cells #[.string ⟨#[]⟩, .string ⟨#[]⟩, .int .i64 1, .int .i64 0, .int .i64 born, .int .i64 0, .string ⟨#[]⟩] 40))
  have hS := Lib.hid (show w3.heap.size < (w3.alloc (Obj.cells #[.string ⟨#[]⟩, .string ⟨#[]⟩, .int .i64 1, .int .i64 0, .int .i64 born, .int .i64 0, .string ⟨#[]⟩] 40)).heap.size by simp)
  have hI0 : Hid (InvB l x born b 0 1 born born true) := Lib.hid (.inl ⟨rfl, by have := HLB.out.1; omega, by simp [sumW], by omega, by omega, by omega, fun _ => ⟨by simp [sumW], by omega⟩⟩)
  clear hbW s0 s1 hall h0 h32
  go_wp2_with fail
  go_loopw [9, 10, 11] (fun nv jv kv wr => ∃ (n : Nat) (now nx cd st : Int) (js : Bool) (wy : ByteArray), nv = .int .i64 now ∧ jv = .bool js ∧ kv = .int .i64 n ∧ Hid (InvB l x born b n st now nx js) ∧ n ≤ 250 ∧ Hid (Below w.heap.size w wr) ∧ Hid (w3.heap.size < wr.heap.size) ∧
      Hid (wr.cell? ⟨w.heap.size, 0, none⟩ = some (.slice A l.length c)) ∧ Hid (wr.cell? ⟨w.heap.size, 1, none⟩ = some (.int .i64 x)) ∧ Hid (wr.heap[w3.heap.size]? = some (Obj.cells #[.string ⟨#[]⟩, .string ⟨#[]⟩, .int .i64 st, .int .i64 n, .int .i64 nx, .int .i64 cd, .string wy] 40 (0, 0)))) (fun _ _ kv _ => 251 - (intOf kv).toNat)
  case atStart => exact ⟨0, born, born, 0, 1, true, ⟨#[]⟩, rfl, rfl, rfl, hI0, by omega, hB5, hS, hT0, hT1, hK⟩
  case round =>
    obtain ⟨n, now, nx, cd, st, js, wy, rfl, rfl, rfl, HI, hn250, HBr, HS, HT0, HT1, HK2⟩ := hrel
    have d2 : wr.cell? ⟨w3.heap.size, 2, none⟩ = some (.int .i64 st) := by rw [cell_of_block HK2.out]; rfl
    have d3 : wr.cell? ⟨w3.heap.size, 3, none⟩ = some (.int .i64 n) := by rw [cell_of_block HK2.out]; rfl
    have d4 : wr.cell? ⟨w3.heap.size, 4, none⟩ = some (.int .i64 nx) := by rw [cell_of_block HK2.out]; rfl
    rcases HI.out with ⟨rfl, i1, i2, i3, i4, i5, i6⟩ | ⟨rfl, i1, i2, i3⟩
    rotate_left
    · have i2' : (n : Int) ≤ (b : Int) := by omega
      cases js with
      | false =>
        clear i3
        go_wp2
        go_ret
        exact ⟨rfl, HBr.out⟩
      | true =>
        obtain rfl : n = b := i3 rfl
        clear i3
        go_wp2
        go_ret
        exact ⟨rfl, HBr.out⟩
    · have i1' : (n : Int) ≤ (b : Int) := by omega
      have i1'' : n < 250 := by have := hb250.out; omega
      have j1 : 0 ≤ nx := by
        have hS0 : ∀ m : Nat, (m : Int) ≤ sumW l m := by
          intro m
          induction m with
          | zero => simp [sumW]
          | succ m ih => have := waitF_bd h00.out hal.out ((m : Nat) + 1); show _ ≤ sumW l m + waitF l ((m : Nat) + 1); omega
        have := hS0 n
        have := hb1'.out
        omega
      have j2 : nx ≤ 2000000000 := by have := hx2'.out; have := hb2'.out; omega
      have j3 : 0 ≤ now := by have := hb1'.out; omega
      have j4 : now ≤ 2000000000 := by have := hx2'.out; have := hb2'.out; omega
      clear i1 i2 i3 i4 i5 i6
      have hlate : Hid ((late.length : Int) ≤ n ∨ ∃ v, n < late.length ∧ (∃ ad, A2 = some ad ∧ wr.cell? (ad.add n) = some (.int .i64 v)) ∧ (v ≤ 0 ∨ (0 < v ∧ 1048576 ≤ v) ∨ (0 < v ∧ v < 1048576))) := Lib.hid (by
        by_cases hn : n < late.length
        · obtain ⟨_, _, hcc⟩ := HC2.out.below HBr.out
          obtain ⟨ad, had, hcell⟩ := hcc (by omega)
          exact .inr ⟨_, hn, ⟨ad, had, hcell n hn⟩, by omega⟩
        · exact .inl (by omega))
      by_cases k1 : now < nx
      all_goals
        have K1 := Lib.hid k1
        rcases hlate.out with l1 | ⟨v, l1, ⟨ad, rfl, l2⟩, l3 | ⟨l3, l4⟩ | ⟨l3, l4⟩⟩
        all_goals
          have t0 := HT0.out
          have t1 := HT1.out
          have d0 : wr.cell? ⟨w3.heap.size, 0, none⟩ = some (.string ⟨#[]⟩) := by rw [cell_of_block HK2.out]; rfl
          have d1 : wr.cell? ⟨w3.heap.size, 1, none⟩ = some (.string ⟨#[]⟩) := by rw [cell_of_block HK2.out]; rfl
          have d5 : wr.cell? ⟨w3.heap.size, 5, none⟩ = some (.int .i64 cd) := by rw [cell_of_block HK2.out]; rfl
          have d6 : wr.cell? ⟨w3.heap.size, 6, none⟩ = some (.string wy) := by rw [cell_of_block HK2.out]; rfl
          go_wp2_with fail
          refine (pdone_any A c l x ⟨#[]⟩ ⟨#[]⟩ wy ⟨#[108, 97, 116, 101, 114]⟩ 1 n nx cd born _ 451 _ (HC.out.below HBr.out) HL.out h00.out (by omega) (by omega) (by omega) (by decide)).mono ?_
          rintro e w4 ⟨rfl, hb⟩
          have HB4 := Lib.hid (bt HBr.out hb)
          have HS4 := Lib.hid (Nat.lt_of_lt_of_le HS.out hb.size)
          have HT04 := Lib.hid (keepC hb HT0.out)
          have HT14 := Lib.hid (keepC hb HT1.out)
          have HK4 := Lib.hid ((hb.block _ HS.out).trans HK2.out)
          clear hb t0 t1 d0 d1 d2 d3 d4 d5 d6
          have e0 : w4.cell? ⟨w3.heap.size, 0, none⟩ = some (.string ⟨#[]⟩) := by rw [cell_of_block HK4.out]; rfl
          have e1 : w4.cell? ⟨w3.heap.size, 1, none⟩ = some (.string ⟨#[]⟩) := by rw [cell_of_block HK4.out]; rfl
          have e2 : w4.cell? ⟨w3.heap.size, 2, none⟩ = some (.int .i64 1) := by rw [cell_of_block HK4.out]; rfl
          have e3 : w4.cell? ⟨w3.heap.size, 3, none⟩ = some (.int .i64 n) := by rw [cell_of_block HK4.out]; rfl
          have e4 : w4.cell? ⟨w3.heap.size, 4, none⟩ = some (.int .i64 nx) := by rw [cell_of_block HK4.out]; rfl
          have e5 : w4.cell? ⟨w3.heap.size, 5, none⟩ = some (.int .i64 cd) := by rw [cell_of_block HK4.out]; rfl
          have e6 : w4.cell? ⟨w3.heap.size, 6, none⟩ = some (.string wy) := by rw [cell_of_block HK4.out]; rfl
          have f0 : ∀ i, w4.frozen? ⟨w3.heap.size, i, none⟩ = false := fun i => by simp [World.frozen?, HK4.out]
          go_wp2_with fail
          go_roundw
          case rel =>
            go_light
            have hin : InvB l x born b n 1 now nx js := HI.out
            refine rel_next (step_inv h00.out hal.out hx1'.out hx2'.out hb1'.out hb2'.out HLB.out hb250.out hin ?_) (by omega) HB4.out hz5.out HS4.out HT04.out HT14.out HK4.out
            first
              | exact .inl ⟨by rw [if_pos K1.out], rfl⟩
              | exact .inl ⟨by rw [if_neg (Int.not_lt.2 K1.out)], rfl⟩
              | exact .inr ⟨by rw [if_pos K1.out]; omega, by rw [if_pos K1.out]; omega, rfl⟩
              | exact .inr ⟨by rw [if_neg (Int.not_lt.2 K1.out)]; omega, by rw [if_neg (Int.not_lt.2 K1.out)]; omega, rfl⟩
          case measure =>
            go_light
            simp [intOf]
            omega
end Go.Proofs.Ytagblpjpphkkeaa.Hh
