/- RetryCodes walked: for every code, number of tries, wait, expiry and time the law returns true. -/
import Derived.Test.YtagblpjpphkkeaaHf
namespace Go.Proofs.Ytagblpjpphkkeaa.Hg
open Go.RowKit Go.Proofs.Ytagblpjpphkkeaa.Ha Go.Proofs.Ytagblpjpphkkeaa.Hb Go.Proofs.Ytagblpjpphkkeaa.Hc Go.Proofs.Ytagblpjpphkkeaa.Hd Go.Proofs.Ytagblpjpphkkeaa.He Go.Proofs.Ytagblpjpphkkeaa.Hf Go.Proofs.Ytagblpjpphkkeaa.Hp Go.Proofs.YtagblpjpphkkeaaW.PrintWords Go.Proofs.YtagblpjpphkkeaaW.PrintLast Go.Proofs.YtagblpjpphkkeaaW.PrintMore

set_option maxHeartbeats 4000000 in
theorem codes_walk (code tries wait expiry now : Int) (w : World) :
    Calls Try.prog 6 #[.int .i64 code, .int .i64 tries, .int .i64 wait, .int .i64 expiry, .int .i64 now] w fun e w' => e = .returned (.bool true) ∧ Below w.heap.size w w' := by
  have hu24 := Try.underlying24
  have hu22 := Try.underlying22
  have hu38 := Try.underlying38
  have hu40 := Try.underlying40
  by_cases c1 : tries < 0
  · go_enter Try.func6, Try.ntmps6
    go_wp2_with fail
    refine (known_any _).mono ?_
    rintro e w1 ⟨rfl, hb⟩
    go_wp2
    go_ret
    exact ⟨rfl, hb⟩
  by_cases c2 : 254 < tries
  · go_enter Try.func6, Try.ntmps6
    go_wp2_with fail
    refine (known_any _).mono ?_
    rintro e w1 ⟨rfl, hb⟩
    go_wp2
    go_ret
    exact ⟨rfl, hb⟩
  by_cases c3 : wait < 1
  · go_enter Try.func6, Try.ntmps6
    go_wp2_with fail
    refine (known_any _).mono ?_
    rintro e w1 ⟨rfl, hb⟩
    go_wp2
    go_ret
    exact ⟨rfl, hb⟩
  by_cases c4 : 1048576 < wait
  · go_enter Try.func6, Try.ntmps6
    go_wp2_with fail
    refine (known_any _).mono ?_
    rintro e w1 ⟨rfl, hb⟩
    go_wp2
    go_ret
    exact ⟨rfl, hb⟩
  by_cases c5 : expiry < 1
  · go_enter Try.func6, Try.ntmps6
    go_wp2_with fail
    refine (known_any _).mono ?_
    rintro e w1 ⟨rfl, hb⟩
    go_wp2
    go_ret
    exact ⟨rfl, hb⟩
  by_cases c6 : 16777216 < expiry
  · go_enter Try.func6, Try.ntmps6
    go_wp2_with fail
    refine (known_any _).mono ?_
    rintro e w1 ⟨rfl, hb⟩
    go_wp2
    go_ret
    exact ⟨rfl, hb⟩
  by_cases c7 : now < 0
  · go_enter Try.func6, Try.ntmps6
    go_wp2_with fail
    refine (known_any _).mono ?_
    rintro e w1 ⟨rfl, hb⟩
    go_wp2
    go_ret
    exact ⟨rfl, hb⟩
  by_cases c8 : 33554432 < now
  · go_enter Try.func6, Try.ntmps6
    go_wp2_with fail
    refine (known_any _).mono ?_
    rintro e w1 ⟨rfl, hb⟩
    go_wp2
    go_ret
    exact ⟨rfl, hb⟩
  by_cases c9 : code < 200
  · go_enter Try.func6, Try.ntmps6
    go_wp2_with fail
    refine (known_any _).mono ?_
    rintro e w1 ⟨rfl, hb⟩
    go_wp2
    go_ret
    exact ⟨rfl, hb⟩
  by_cases c10 : 599 < code
  · go_enter Try.func6, Try.ntmps6
    go_wp2_with fail
    refine (known_any _).mono ?_
    rintro e w1 ⟨rfl, hb⟩
    go_wp2
    go_ret
    exact ⟨rfl, hb⟩
  go_enter Try.func6, Try.ntmps6
  go_wp2_with fail
  refine (known_any _).mono ?_
  rintro e w1 ⟨rfl, hb⟩
  have hB := Lib.hid hb
  clear hb
  have hB1 := Lib.hid (hB.out.trans ((bl3 (o1 := Obj.cells #[.int .i64 wait] 3) (o2 := Obj.cells #[.slice (some ⟨w1.heap.size, 0, none⟩) 1 1, .int .i64 expiry] 24) (o3 := Obj.cells #[.string ⟨#[97]⟩, .string ⟨#[]⟩, .int .i64 1, .int .i64 tries, .int .i64 7, .int .i64 0, .string ⟨#[]⟩] 40)).mono hB.out.size))
  have hz0 : Hid (w.heap.size ≤ w1.heap.size) := Lib.hid hB.out.size
  have hrd : Hid (ReadsInt (((w1.alloc (Obj.cells #[.int .i64 wait] 3)).alloc (Obj.cells #[.slice (some ⟨w1.heap.size, 0, none⟩) 1 1, .int .i64 expiry] 24)).alloc (Obj.cells #[.string ⟨#[97]⟩, .string ⟨#[]⟩, .int .i64 1, .int .i64 tries, .int .i64 7, .int .i64 0, .string ⟨#[]⟩] 40)) .i64 (some ⟨w1.heap.size, 0, none⟩) [wait].length [wait]) := Lib.hid
    ⟨rfl, by simp, fun _ => ⟨_, rfl, fun j hj => by
      obtain rfl : j = 0 := by simpa using hj
      have h1 : (w1.alloc (Obj.cells #[.int .i64 wait] 3)).cell? ⟨w1.heap.size, 0, none⟩ = some (.int .i64 wait) := by rw [cell_of_block (heap_alloc_new w1 _)]; rfl
      exact keepC ((Below.refl _ _).alloc (Nat.le_refl _) _) (keepC ((Below.refl _ _).alloc (Nat.le_refl _) _) h1)⟩⟩
  go_wp2_with fail
  refine (pdone_any (some ⟨w1.heap.size, 0, none⟩) 1 [wait] expiry ⟨#[97]⟩ ⟨#[]⟩ ⟨#[]⟩ ⟨#[119, 104, 121]⟩ 1 tries 7 0 0 now code _ hrd.out (by simp) (by simp) (by simp) (by omega) (by omega) (by decide)).mono ?_
  rintro e w2 ⟨rfl, hb⟩
  have hw : whyF ⟨#[119, 104, 121]⟩ = ⟨#[119, 104, 121]⟩ := by decide
  rw [hw]
  clear hw hrd
  have hB2 := Lib.hid (hB.out.trans ((bx3 hb).mono hz0.out))
  obtain ⟨hc, hf⟩ := bcell hb
  have hz : w1.heap.size + 2 < w2.heap.size := by have := hb.size; simp at this; omega
  have HT := Lib.hid (show trF tries = tries + 1 by unfold trF; rw [if_pos (by omega)])
  rw [HT.out]
  have hcl : clsF code = code / 100 := by unfold clsF; rw [if_neg (Int.not_lt.2 c9), if_neg (Int.not_lt.2 c10)]
  have hco : codeF code = code := by unfold codeF; rw [if_neg (by rw [hcl]; omega)]
  have hnx : nextF [wait] expiry 0 (tries + 1) now = if now + wait ≥ expiry then (0, false) else (now + wait, true) := by
    have e1 : waitF [wait] (tries + 1) = wait := by
      unfold waitF clampN
      by_cases h1 : tries + 1 < 1
      · rw [if_pos h1]; rfl
      · rw [if_neg h1]
        by_cases h2 : tries + 1 > (([wait].length : Nat) : Int)
        · rw [if_pos h2]; rfl
        · rw [if_neg h2]
          obtain rfl : tries = 0 := by simp at h2; omega
          rfl
    unfold nextF
    rw [e1, w64 (by omega) (by omega), w64 (by omega) (by omega)]
    by_cases h : now + wait ≥ expiry
    · rw [if_pos (by omega), if_pos h]
    · rw [if_neg (by omega), if_neg h]
  have hD : doneF [wait] expiry 1 tries 7 0 now code = if code / 100 = 2 then (3, 7, code) else if code / 100 = 5 then (4, 7, code) else if now + wait ≥ expiry then (4, 7, code) else (1, now + wait, code) := by
    unfold doneF
    rw [hcl, hco, HT.out, hnx]
    by_cases h2 : code / 100 = 2
    · rw [if_pos h2, if_pos h2]
    · rw [if_neg h2, if_neg h2]
      by_cases h5 : code / 100 = 5
      · rw [if_pos h5, if_pos h5]
      · rw [if_neg h5, if_neg h5]
        by_cases h : now + wait ≥ expiry
        · simp [h]
        · simp [h]; omega
  have HD := Lib.hid hD
  clear hcl hco hnx hD hb
  by_cases d2 : code / 100 = 2
  · have ed : doneF [wait] expiry 1 tries 7 0 now code = (3, 7, code) := by rw [HD.out, if_pos d2]
    rw [ed]
    clear ed
    have db : (code / 100 == 2) = true := by simp [d2]
    clear d2
    go_wp2
    go_ret
    exact ⟨rfl, by repeat (first | (with_reducible exact hB2.out) | refine Below.alloc ?_ (by have := hz0.out; simp <;> omega) _ | refine Below.setCell ?_ (by have := hz0.out; simp <;> omega) _)⟩
  have db : (code / 100 == 2) = false := by simp [d2]
  by_cases d5 : code / 100 = 5
  · have ed : doneF [wait] expiry 1 tries 7 0 now code = (4, 7, code) := by rw [HD.out, if_neg d2, if_pos d5]
    rw [ed]
    clear ed
    have dc : (code / 100 == 5) = true := by simp [d5]
    clear d2 d5
    go_wp2
    go_ret
    exact ⟨rfl, by repeat (first | (with_reducible exact hB2.out) | refine Below.alloc ?_ (by have := hz0.out; simp <;> omega) _ | refine Below.setCell ?_ (by have := hz0.out; simp <;> omega) _)⟩
  have dc : (code / 100 == 5) = false := by simp [d5]
  by_cases dn : now + wait ≥ expiry
  · have ed : doneF [wait] expiry 1 tries 7 0 now code = (4, 7, code) := by rw [HD.out, if_neg d2, if_neg d5, if_pos dn]
    rw [ed]
    clear ed d2 d5
    go_wp2
    go_ret
    exact ⟨rfl, by repeat (first | (with_reducible exact hB2.out) | refine Below.alloc ?_ (by have := hz0.out; simp <;> omega) _ | refine Below.setCell ?_ (by have := hz0.out; simp <;> omega) _)⟩
  · have ed : doneF [wait] expiry 1 tries 7 0 now code = (1, now + wait, code) := by rw [HD.out, if_neg d2, if_neg d5, if_neg dn]
    rw [ed]
    clear ed d2 d5
    have dn' : now + wait < expiry := by omega
    clear dn
    go_wp2
    go_ret
    exact ⟨rfl, by repeat (first | (with_reducible exact hB2.out) | refine Below.alloc ?_ (by have := hz0.out; simp <;> omega) _ | refine Below.setCell ?_ (by have := hz0.out; simp <;> omega) _)⟩
end Go.Proofs.Ytagblpjpphkkeaa.Hg
