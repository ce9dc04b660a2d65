/- The program's tables and the document's come to the same: Check, Next, Bound, Done, in plain numbers. -/
import Derived.Test.YtagblpjpphkkeaaPRetryCodesx4
import Derived.Test.YtagblpjpphkkeaaHd
namespace Go.Proofs.Ytagblpjpphkkeaa.Hp
open Go.RowKit Go.Proofs.Ytagblpjpphkkeaa.Hb Go.Proofs.Ytagblpjpphkkeaa.Hc Go.Proofs.Ytagblpjpphkkeaa.Hd Go.Proofs.Ytagblpjpphkkeaa.PRetryCodes Go.Proofs.YtagblpjpphkkeaaW.PrintWords Go.Proofs.YtagblpjpphkkeaaW.PrintLast Go.Proofs.YtagblpjpphkkeaaW.PrintMore

theorem w64 {x : Int} (h : -9223372036854775808 ≤ x) (h' : x ≤ 9223372036854775807) : wrap64 x = x := by
  unfold wrap64; omega

theorem check_l (l : List Int) (hl : l.length ≤ 1000) (d : Nat) : ∀ (k i : Nat), i + d = l.length → d < k →
    retry_Check.l0 k l (l.length : Int) (i : Int) = some (if (l.drop i).all okW then 0 else 1) := by
  induction d with
  | zero =>
    intro k i hi hk
    obtain ⟨k, rfl⟩ : ∃ m, k = m + 1 := ⟨k - 1, by omega⟩
    simp only [retry_Check.l0]
    rw [if_neg (by omega), List.drop_of_length_le (by omega)]
    rfl
  | succ d ih =>
    intro k i hi hk
    obtain ⟨k, rfl⟩ : ∃ m, k = m + 1 := ⟨k - 1, by omega⟩
    have hr : rd l (i : Int) = l[i]'(by omega) := by
      unfold rd; rw [Int.toNat_natCast, List.getD_eq_getElem?_getD, List.getElem?_eq_getElem (by omega)]; rfl
    have hw : wrap64 ((i : Int) + 1) = ((i + 1 : Nat) : Int) := by rw [w64 (by omega) (by omega)]; omega
    have hd : (l.drop i).all okW = (okW (l[i]'(by omega)) && (l.drop (i + 1)).all okW) := by
      rw [List.drop_eq_getElem_cons (by omega)]; rfl
    simp only [retry_Check.l0]
    rw [if_pos (by omega), if_pos (by omega), if_pos (by omega), hr, hd, hw]
    by_cases b1 : l[i]'(by omega) < 1
    · rw [if_pos b1]; simp [okW]; omega
    · rw [if_neg b1]
      by_cases b2 : l[i]'(by omega) > 1048576
      · rw [if_pos b2]; simp [okW]; omega
      · rw [if_neg b2, ih k (i + 1) (by omega) (by omega)]
        have : okW (l[i]'(by omega)) = true := by simp [okW]; omega
        rw [this]; rfl

theorem check_j (l : List Int) (x : Int) (k : Nat) : retry_Check.j0 (k + 1) true l x = some 1 := by simp only [retry_Check.j0, if_true]
theorem check_eq (l : List Int) (x : Int) (hl : l.length ≤ 1000) (k : Nat) (hk : l.length + 2 ≤ k) : retry_Check.f k l x = some (checkF l x) := by
  obtain ⟨k, rfl⟩ : ∃ m, k = m + 1 := ⟨k - 1, by omega⟩
  unfold retry_Check.f checkF
  by_cases b1 : (l.length : Int) < 1
  · rw [if_pos b1, check_j, if_pos (.inl (by omega))]
  rw [if_neg b1]
  by_cases b2 : (l.length : Int) > 32
  · rw [if_pos b2, check_j, if_pos (.inr (.inl (by omega)))]
  rw [if_neg b2]
  by_cases b3 : x < 1
  · rw [if_pos b3, check_j, if_pos (.inr (.inr (.inl b3)))]
  rw [if_neg b3]
  by_cases b4 : x > 16777216
  · rw [decide_eq_true b4, check_j, if_pos (.inr (.inr (.inr b4)))]
  rw [decide_eq_false b4, if_neg (by omega)]
  simp only [retry_Check.j0]
  rw [if_neg (by decide)]
  have := check_l l hl l.length k 0 (by omega) (by omega)
  simpa using this

theorem pick_eq (l : List Int) (t : Int) (h0 : 0 < l.length) (hl : l.length ≤ 1000) : retry_pick.f t l = some (waitF l t) := by
  unfold retry_pick.f waitF
  have e : wrap64 (mn (mx t 1) (l.length : Int) - 1) = ((clampN l.length t : Nat) : Int) := by
    rw [w64 (by unfold mn mx; split <;> (try split) <;> omega) (by unfold mn mx; split <;> (try split) <;> omega)]
    unfold mn mx clampN
    split <;> (try split) <;> (try split) <;> (try split) <;> omega
  have hi : clampN l.length t < l.length := by unfold clampN; split <;> (try split) <;> omega
  rw [if_neg (by omega), e, if_pos (by omega), if_pos (by omega)]
  unfold rd
  rw [Int.toNat_natCast]

theorem next_eq (l : List Int) (x born tries now : Int) (h0 : 0 < l.length) (hl : l.length ≤ 1000) : retry_Next.f l x born tries now = some (nextF l x born tries now) := by
  unfold retry_Next.f nextF
  rw [pick_eq l tries h0 hl]
  simp only [Option.bind_some]
  split <;> rfl

theorem class_eq (c : Int) : reply_Class.f c = some (clsF c) := by
  unfold reply_Class.f clsF
  by_cases b1 : c < 200
  · rw [if_pos b1, if_pos b1]
  by_cases b2 : c > 599
  · rw [if_neg b1, if_neg b1, if_pos b2, if_pos b2]
  rw [if_neg b1, if_neg b1, if_neg b2, if_neg b2, Int.tdiv_eq_ediv_of_nonneg (by omega), w64 (by omega) (by omega)]

/-- From the table's last wait on. -/
theorem bound_late (l : List Int) (x : Int) (hk : checkF l x = 0) (hl : l.length ≤ 32) (h0 : 0 < l.length) (hall : l.all okW = true) (hx : x ≤ 16777216) (d : Nat) : ∀ (k : Nat) (n sum : Int), l.length ≤ n → n + d ≤ 1000000000 → 0 ≤ sum → sum ≤ 100000000 → x - sum ≤ d → d + 40 < k →
    retry_Bound.l0 k n sum l x = some (if sum < x then n + 1 + (x - 1 - sum) / l.getD (l.length - 1) 0 else n) := by
  have hW : ∀ n : Int, (l.length : Int) ≤ n → waitF l (n + 1) = l.getD (l.length - 1) 0 := by
    intro n hn
    unfold waitF clampN
    rw [if_neg (by omega)]
    by_cases c : n + 1 > (l.length : Int)
    · rw [if_pos c]
    · omega
  have hb := waitF_bd h0 hall (l.length + 1)
  rw [hW l.length (Int.le_refl _)] at hb
  induction d with
  | zero =>
    intro k n sum h1 h2 h3 h4 h5 h6
    obtain ⟨k, rfl⟩ : ∃ m, k = m + 1 := ⟨k - 1, by omega⟩
    simp only [retry_Bound.l0]
    rw [check_eq l x (by omega) k (by omega), hk]
    simp only [Option.bind_some, if_true]
    rw [if_neg (by omega), if_neg (by omega)]
  | succ d ih =>
    intro k n sum h1 h2 h3 h4 h5 h6
    obtain ⟨k, rfl⟩ : ∃ m, k = m + 1 := ⟨k - 1, by omega⟩
    simp only [retry_Bound.l0]
    rw [check_eq l x (by omega) k (by omega), hk]
    simp only [Option.bind_some, if_true]
    by_cases c : sum < x
    · rw [if_pos c, if_pos c, w64 (by omega) (by omega), pick_eq l (n + 1) h0 (by omega), hW n h1]
      simp only [Option.bind_some]
      generalize l.getD (l.length - 1) 0 = W at hb ih ⊢
      rw [w64 (by omega) (by omega), ih k (n + 1) (sum + W) (by omega) (by omega) (by omega) (by omega) (by omega) (by omega)]
      congr 1
      by_cases c2 : sum + W < x
      · rw [if_pos c2]
        have : (x - 1 - sum) / W = (x - 1 - (sum + W)) / W + 1 := by
          rw [show x - 1 - sum = (x - 1 - (sum + W)) + 1 * W by omega, Int.add_mul_ediv_right _ _ (by omega)]
        omega
      · rw [if_neg c2]
        have : (x - 1 - sum) / W = 0 := Int.ediv_eq_zero_of_lt (by omega) (by omega)
        omega
    · rw [if_neg c, if_neg c]

theorem bound_early (l : List Int) (x : Int) (hk : checkF l x = 0) (hl : l.length ≤ 32) (h0 : 0 < l.length) (hall : l.all okW = true) (hx : x ≤ 16777216) (j : Nat) : ∀ (k n : Nat) (sum : Int), n + j = 40 → 1 ≤ n → n ≤ l.length → 0 ≤ sum → sum ≤ n * 1048576 → 20000000 + j < k →
    retry_Bound.l0 k n sum l x = some (boundL l x (j + 1) n sum) := by
  induction j with
  | zero => intro k n sum h1; omega
  | succ j ih =>
    intro k n sum h1 h2 h3 h4 h5 h6
    by_cases c0 : n = l.length
    · have h := bound_late l x hk hl h0 hall hx 16777216 k n sum (by omega) (by omega) h4 (by omega) (by omega) (by omega)
      rw [h]
      unfold boundL
      split
      · rw [if_pos (by omega)]
      · rfl
    obtain ⟨k, rfl⟩ : ∃ m, k = m + 1 := ⟨k - 1, by omega⟩
    simp only [retry_Bound.l0]
    rw [check_eq l x (by omega) k (by omega), hk]
    simp only [Option.bind_some, if_true]
    have hb := waitF_bd h0 hall (n + 1)
    unfold boundL
    by_cases c : sum < x
    · rw [if_pos c, if_pos c, if_neg (by omega), w64 (by omega) (by omega), pick_eq l (n + 1) h0 (by omega)]
      simp only [Option.bind_some]
      rw [w64 (by omega) (by omega)]
      exact ih k (n + 1) (sum + waitF l (n + 1)) (by omega) (by omega) (by omega) (by omega) (by omega) (by omega)
    · rw [if_neg c, if_neg c]

theorem bound_eq (l : List Int) (x : Int) (hk : checkF l x = 0) (k : Nat) (hk2 : 20000040 < k) : retry_Bound.f k l x = some (boundF l x) := by
  obtain ⟨h0, h32, hx1, hx2, hall⟩ : 0 < l.length ∧ l.length ≤ 32 ∧ 1 ≤ x ∧ x ≤ 16777216 ∧ l.all okW = true := by
    unfold checkF at hk
    by_cases h : l.length < 1 ∨ l.length > 32 ∨ x < 1 ∨ x > 16777216
    · rw [if_pos h] at hk; exact absurd hk (by decide)
    · rw [if_neg h] at hk
      refine ⟨by omega, by omega, by omega, by omega, ?_⟩
      by_cases ha : l.all okW = true
      · exact ha
      · rw [if_neg ha] at hk; exact absurd hk (by decide)
  have hb := waitF_bd h0 hall 1
  unfold retry_Bound.f boundF
  rw [pick_eq l 1 h0 (by omega)]
  simp only [Option.bind_some]
  exact bound_early l x hk h32 h0 hall hx2 39 k 1 (waitF l 1) rfl (by omega) (by omega) (by omega) (by omega) (by omega)

theorem done_eq (l : List Int) (x : Int) (lo dm wy why : ByteArray) (st tr nx cd born now code : Int) (h0 : 0 < l.length) (hl : l.length ≤ 1000) (ht0 : 0 ≤ tr) (ht1 : tr ≤ 255) (hw : why.size ≤ 1000) :
    retry_Done.f l x lo dm st tr nx cd wy born now code why = some (lo, dm, (doneF l x st tr nx born now code).1, trF tr, (doneF l x st tr nx born now code).2.1, (doneF l x st tr nx born now code).2.2, whyF why) := by
  have e1 : mn (wrap64 (tr + 1)) 255 = trF tr := by
    rw [w64 (by omega) (by omega)]; unfold mn trF; split <;> split <;> omega
  have e2 : why.extract 0 (mn (why.size : Int) 100).toNat = whyF why := by
    unfold mn whyF
    by_cases c : why.size > 100
    · rw [if_pos (by omega), if_pos c]; rfl
    · rw [if_neg (by omega), if_neg c, Int.toNat_natCast]; exact ByteArray.extract_zero_size
  have e3 : ∀ a : Int, mn a 2147483647 = if a > 2147483647 then 2147483647 else a := fun a => rfl
  unfold retry_Done.f
  rw [class_eq, e1, e2, next_eq l x born (trF tr) now h0 hl]
  simp only [Option.bind_some, e3]
  have g1 : 0 ≤ mn (why.size : Int) 100 := by unfold mn; split <;> omega
  have g2 : mn (why.size : Int) 100 ≤ (why.size : Int) := by unfold mn; split <;> omega
  rw [if_pos g1, if_pos g2]
  unfold doneF codeF
  by_cases c0 : clsF code = 0
  · have n2 : ¬ clsF code = 2 := by omega
    have n5 : ¬ clsF code = 5 := by omega
    simp only [if_pos c0, if_neg n2, if_neg n5]
    by_cases c1 : (nextF l x born (trF tr) now).2 = true
    · simp [c1]
    · simp [c1]
  · by_cases c2 : clsF code = 2
    · simp [c2]
    · by_cases c5 : clsF code = 5
      · simp [c5]
      · simp only [if_neg c0, if_neg c2, if_neg c5]
        by_cases c1 : (nextF l x born (trF tr) now).2 = true
        · simp [c1]
        · simp [c1]

theorem known_ok : mailbaglaw20_known.f 20000100 = some true := by
  unfold mailbaglaw20_known.f
  simp only [Option.bind_some]
  rw [next_eq [10, 20] 25 100 1 100 (by decide) (by decide), next_eq [10, 20] 25 100 2 110 (by decide) (by decide)]
  simp only [Option.bind_some]
  rw [done_eq [10, 20] 25 _ _ _ _ 1 0 0 0 100 100 452 (by decide) (by decide) (by decide) (by decide) (by decide)]
  simp only [Option.bind_some]
  rw [bound_eq [10, 20] 25 (by decide) _ (by decide), check_eq [10, 20] 25 (by decide) _ (by decide)]
  simp only [Option.bind_some]
  decide +kernel
end Go.Proofs.Ytagblpjpphkkeaa.Hp
