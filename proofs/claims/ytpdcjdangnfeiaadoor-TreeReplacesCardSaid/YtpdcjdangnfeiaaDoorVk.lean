/- TreeReplaces walked. (Printed by mkvk.py.) -/
import Derived.Test.YtpdcjdangnfeiaaDoorM9
import Derived.Test.YtpdcjdangnfeiaaDoorVj
namespace Go.Proofs.YtpdcjdangnfeiaaDoor.Vk
open Go Go.Maps Go.RowKit Go.Proofs.YtpdcjdangnfeiaaDoor.Pb Go.Proofs.YtpdcjdangnfeiaaDoor.PPth Go.Proofs.YtpdcjdangnfeiaaDoorW.PrintWords Go.Proofs.YtpdcjdangnfeiaaDoorW.PrintLast Go.Proofs.YtpdcjdangnfeiaaDoorW.PrintMore Go.Proofs.YtpdcjdangnfeiaaDoor.Ta Go.Proofs.YtpdcjdangnfeiaaDoor.Tb Go.Proofs.YtpdcjdangnfeiaaDoor.Tc Go.Proofs.YtpdcjdangnfeiaaDoor.Te Go.Proofs.YtpdcjdangnfeiaaDoor.Tf Go.Proofs.YtpdcjdangnfeiaaDoor.Qa Go.Proofs.YtpdcjdangnfeiaaDoor.Qb Go.Proofs.YtpdcjdangnfeiaaDoor.Qc Go.Proofs.YtpdcjdangnfeiaaDoor.Qd Go.Proofs.YtpdcjdangnfeiaaDoor.Qe Go.Proofs.YtpdcjdangnfeiaaDoor.Qf Go.Proofs.YtpdcjdangnfeiaaDoor.Ua Go.Proofs.YtpdcjdangnfeiaaDoor.Ub Go.Proofs.YtpdcjdangnfeiaaDoor.Uc Go.Proofs.YtpdcjdangnfeiaaDoor.Ud Go.Proofs.YtpdcjdangnfeiaaDoor.Ue Go.Proofs.YtpdcjdangnfeiaaDoor.Uf Go.Proofs.YtpdcjdangnfeiaaDoor.Ba Go.Proofs.YtpdcjdangnfeiaaDoor.Ug Go.Proofs.YtpdcjdangnfeiaaDoor.Uh Go.Proofs.YtpdcjdangnfeiaaDoor.Ui Go.Proofs.YtpdcjdangnfeiaaDoor.Uj Go.Proofs.YtpdcjdangnfeiaaDoor.Uk Go.Proofs.YtpdcjdangnfeiaaDoor.Ul Go.Proofs.YtpdcjdangnfeiaaDoor.Um Go.Proofs.YtpdcjdangnfeiaaDoor.Un Go.Proofs.YtpdcjdangnfeiaaDoor.Uo Go.Proofs.YtpdcjdangnfeiaaDoor.Up Go.Proofs.YtpdcjdangnfeiaaDoor.Uq Go.Proofs.YtpdcjdangnfeiaaDoor.Ur Go.Proofs.YtpdcjdangnfeiaaDoor.Us Go.Proofs.YtpdcjdangnfeiaaDoor.Ut Go.Proofs.YtpdcjdangnfeiaaDoor.Uu Go.Proofs.YtpdcjdangnfeiaaDoor.Uv Go.Proofs.YtpdcjdangnfeiaaDoor.Uw Go.Proofs.YtpdcjdangnfeiaaDoor.Ux Go.Proofs.YtpdcjdangnfeiaaDoor.Uy Go.Proofs.YtpdcjdangnfeiaaDoor.Uz Go.Proofs.YtpdcjdangnfeiaaDoor.Va Go.Proofs.YtpdcjdangnfeiaaDoor.Vb Go.Proofs.YtpdcjdangnfeiaaDoor.Vc Go.Proofs.YtpdcjdangnfeiaaDoor.Vd Go.Proofs.YtpdcjdangnfeiaaDoor.Ve Go.Proofs.YtpdcjdangnfeiaaDoor.Vj
theorem allB_5000 {n : Nat} (h : n ≤ 5000) : allB n ≤ 11 := Nat.le_trans (allB_mono h (by decide)) (by decide +kernel)
theorem allB_0 : allB 0 = 0 := by decide +kernel
theorem cat1 : (⟨#[]⟩ : ByteArray) ++ ⟨#[47, 121]⟩ = ⟨#[47, 121]⟩ := by decide +kernel
theorem cat2 : (⟨#[47, 100]⟩ : ByteArray) ++ ⟨#[47, 121]⟩ = ⟨#[47, 100, 47, 121]⟩ := by decide +kernel
set_option maxHeartbeats 8000000 in
set_option maxRecDepth 1000000 in
theorem rep_long1 (A B : Option Addr) (c d na nb : Nat) (same : Bool) (q : Int) (W0 : World) (hq : W0.cell? ⟨0, 0, none⟩ = some (.int .i64 q)) (h1 : (5000 : Int) < na) : Calls Tryd.prog 6 #[.slice A na c, .slice B nb d, .bool same] W0 fun e w' => e = .returned (.bool true) ∧ Below W0.heap.size W0 w' := by
  have HKN := Lib.hid (known_any W0 q hq)
  clear hq
  go_enter Tryd.func6, Tryd.ntmps6
  go_wp2_with fail
  refine HKN.out.mono ?_
  rintro e w1 ⟨rfl, hb⟩
  go_wp2
  go_ret
  exact ⟨rfl, hb⟩
set_option maxHeartbeats 8000000 in
set_option maxRecDepth 1000000 in
theorem rep_long2 (A B : Option Addr) (c d na nb : Nat) (same : Bool) (q : Int) (W0 : World) (hq : W0.cell? ⟨0, 0, none⟩ = some (.int .i64 q)) (h1 : ¬ (5000 : Int) < na) (h2 : (5000 : Int) < nb) : Calls Tryd.prog 6 #[.slice A na c, .slice B nb d, .bool same] W0 fun e w' => e = .returned (.bool true) ∧ Below W0.heap.size W0 w' := by
  have HKN := Lib.hid (known_any W0 q hq)
  clear hq
  go_enter Tryd.func6, Tryd.ntmps6
  go_wp2_with fail
  refine HKN.out.mono ?_
  rintro e w1 ⟨rfl, hb⟩
  go_wp2
  go_ret
  exact ⟨rfl, hb⟩
set_option maxHeartbeats 8000000 in
set_option maxRecDepth 1000000 in
theorem rep_true (A B : Option Addr) (c d : Nat) (a b : List UInt8) (q : Int) (W0 : World) (hq : W0.cell? ⟨0, 0, none⟩ = some (.int .i64 q)) (ha0 : RdB W0 A a) (hb0 : RdB W0 B b) (h1 : a.length ≤ 5000) (h2 : b.length ≤ 5000) : Calls Tryd.prog 6 #[.slice A a.length c, .slice B b.length d, .bool true] W0 fun e w' => e = .returned (.bool true) ∧ Below W0.heap.size W0 w' := by
  have HKN := Lib.hid (known_any W0 q hq)
  have HN := Lib.hid (fun W (hb : Below W0.heap.size W0 W) => (show Calls Tryd.prog 11 #[.int .i64 100, .int .i64 20] W fun e w' => ∃ tb', e = .returned (.tuple #[.pointer (some ⟨tb', 0, none⟩), .int .i64 0]) ∧ At w' W.heap.size tb' q ⟨rootA, 100, 19⟩ 0 ∧ Below W.heap.size W w' from new_at (w := W) (q := q) (n := 100) (i := 19) (keepC hb hq) (by omega) (by omega)))
  have ka := allB_5000 (n := 0 + a.length) (by omega)
  have kb := allB_5000 (n := 0 + b.length) (by omega)
  have k0 := allB_0
  have i1 : ¬ (5000 : Int) < (a.length : Int) := by omega
  have i2 : ¬ (5000 : Int) < (b.length : Int) := by omega
  have HRA := Lib.hid ha0
  have HRB := Lib.hid hb0
  have cat := cat1
  have hc1 : (⟨#[]⟩ : ByteArray).size = 0 := rfl
  have hc2 : (⟨#[47, 121]⟩ : ByteArray).size = 2 := rfl
  have hblk : blocksA (fl b) = allB (0 + b.length) := by rw [Nat.zero_add]; rfl
  obtain ⟨al, hal⟩ : ∃ al, allB (0 + a.length) = al := ⟨_, rfl⟩
  obtain ⟨be, hbe⟩ : ∃ be, allB (0 + b.length) = be := ⟨_, rfl⟩
  rw [hal] at ka
  rw [hbe] at kb hblk
  obtain ⟨n3, hn3⟩ : ∃ n3, 99 - al = n3 := ⟨_, rfl⟩
  have hn3b : 80 ≤ n3 ∧ n3 ≤ 99 := by omega
  obtain ⟨n5, hn5⟩ : ∃ n5, n3 - 0 - be = n5 := ⟨_, rfl⟩
  have e3 : doE a2 ⟨3, sX, em, a, 0⟩ = 0 := by rw [a3_e, if_neg (by omega), if_neg (by rw [hal, k0]; omega)]
  have s3 : doS a2 ⟨3, sX, em, a, 0⟩ = a3 a n3 := by rw [doS_ok e3]; show planS a2 ⟨3, sX, em, a, 0⟩ (splitP sX).1 (splitP em).1 = _; rw [a3_s, hal, k0]; show a3 a (99 - (al - 0)) = _; rw [Nat.sub_zero, hn3]
  have e4 : doE (a3 a n3) ⟨1, sY, em, [], 0⟩ = 0 := by rw [a4_e, if_neg (by omega)]
  have s4 : doS (a3 a n3) ⟨1, sY, em, [], 0⟩ = a4 a n3 := by rw [doS_ok e4]; exact a4_s a n3
  have e5 : doE (a4 a n3) ⟨3, sY, em, b, 0⟩ = 0 := by rw [a5_e, if_neg (by omega), if_neg (by rw [hbe, k0]; omega)]
  have s5 : doS (a4 a n3) ⟨3, sY, em, b, 0⟩ = a5 a b n5 := by rw [doS_ok e5]; show planS (a4 a n3) ⟨3, sY, em, b, 0⟩ (splitP sY).1 (splitP em).1 = _; rw [a5_s, hbe, k0]; show a5 a b (n3 - 0 - (be - 0)) = _; (try simp only [Nat.sub_zero]); (try simp only [Nat.sub_zero] at hn5); rw [hn5]
  have s6 : doS (a5 a b n5) ⟨7, sX, sY, [], 0⟩ = a6 a b n5 := by rw [doS_ok (a6_e a b n5)]; exact a6_s a b n5
  have f6 : (a6 a b n5).blocks = n3 - 0 := by show n5 + blocksA (fl b) = _; rw [hblk]; omega
  have d0 : ∀ W B9 tb' k, At W B9 tb' q ⟨rootA, 100, 19⟩ k → k ≤ 2000 → Calls Tryd.prog 12 #[.pointer (some ⟨tb', 0, none⟩), .agg #[.int .i64 1, .string ⟨#[47, 120]⟩, .string ⟨#[]⟩, .slice none 0 0, .int .i64 0]] W (AtPost W B9 tb' q (.int .i64 0) a2 (k + 1)) := by
    intro W B9 tb' k hA hk
    have := do_at ⟨1, sX, em, [], 0⟩ none 0 hA hk (RdB.nil _ _) (by simp)
    rw [a2_e] at this
    exact this
  have D0 := Lib.hid d0
  have d1 : ∀ W B9 tb' k, At W B9 tb' q a2 k → RdB W A a → k ≤ 2000 → Calls Tryd.prog 12 #[.pointer (some ⟨tb', 0, none⟩), .agg #[.int .i64 3, .string ⟨#[47, 120]⟩, .string ⟨#[]⟩, .slice A a.length c, .int .i64 0]] W (AtPost W B9 tb' q (.int .i64 0) (a3 a n3) (k + 1)) := by
    intro W B9 tb' k hA hR hk
    have := do_at ⟨3, sX, em, a, 0⟩ A c hA hk hR (by show a.length ≤ _; omega)
    rw [e3, s3] at this
    exact this
  have D1 := Lib.hid d1
  have d3 : ∀ W B9 tb' k, At W B9 tb' q (a3 a n3) k → k ≤ 2000 → Calls Tryd.prog 12 #[.pointer (some ⟨tb', 0, none⟩), .agg #[.int .i64 1, .string ⟨#[47, 121]⟩, .string ⟨#[]⟩, .slice none 0 0, .int .i64 0]] W (AtPost W B9 tb' q (.int .i64 0) (a4 a n3) (k + 1)) := by
    intro W B9 tb' k hA hk
    have := do_at ⟨1, sY, em, [], 0⟩ none 0 hA hk (RdB.nil _ _) (by simp)
    rw [e4, s4] at this
    exact this
  have D3 := Lib.hid d3
  have d4 : ∀ W B9 tb' k, At W B9 tb' q (a4 a n3) k → RdB W B b → k ≤ 2000 → Calls Tryd.prog 12 #[.pointer (some ⟨tb', 0, none⟩), .agg #[.int .i64 3, .string ⟨#[47, 121]⟩, .string ⟨#[]⟩, .slice B b.length d, .int .i64 0]] W (AtPost W B9 tb' q (.int .i64 0) (a5 a b n5) (k + 1)) := by
    intro W B9 tb' k hA hR hk
    have := do_at ⟨3, sY, em, b, 0⟩ B d hA hk hR (by show b.length ≤ _; omega)
    rw [e5, s5] at this
    exact this
  have D4 := Lib.hid d4
  have d5 : ∀ W B9 tb' k, At W B9 tb' q (a5 a b n5) k → k ≤ 2000 → Calls Tryd.prog 12 #[.pointer (some ⟨tb', 0, none⟩), .agg #[.int .i64 7, .string ⟨#[47, 120]⟩, .string ⟨#[47, 121]⟩, .slice none 0 0, .int .i64 0]] W (AtPost W B9 tb' q (.int .i64 0) (a6 a b n5) (k + 1)) := by
    intro W B9 tb' k hA hk
    have := do_at ⟨7, sX, sY, [], 0⟩ none 0 hA hk (RdB.nil _ _) (by simp)
    rw [(a6_e a b n5), s6] at this
    exact this
  have D5 := Lib.hid d5
  have F6 := Lib.hid f6
  clear d0 d1 d3 d4 d5 e3 s3 e4 s4 e5 s5 s6 f6 hq ha0 hb0 hal hbe hblk hn3 hn5 k0 ka kb
  obtain ⟨hn3a, hn3b⟩ := hn3b
  go_enter Tryd.func6, Tryd.ntmps6
  go_wp2_with fail
  refine HKN.out.mono ?_
  rintro e w1 ⟨rfl, hb⟩
  have HB0 := Lib.hid hb
  clear hb
  go_wp2_with fail
  refine (HN.out _ HB0.out).mono ?_
  rintro e w2 ⟨tb', rfl, ha, hb⟩
  have HA := Lib.hid ha
  have HB := Lib.hid hb
  clear ha hb
  go_wp2_with fail
  refine (D0.out _ _ _ _ HA.out (by omega)).mono ?_
  rintro e w3 ⟨rfl, ha, hb⟩
  have HA2 := Lib.hid ha
  have HB2 := Lib.hid (HB.out.trans hb)
  clear ha hb
  go_wp2_with fail
  refine (D1.out _ _ _ _ HA2.out (HRA.out.below (bt HB0.out HB2.out)) (by omega)).mono ?_
  rintro e w4 ⟨rfl, ha, hb⟩
  have HA3 := Lib.hid ha
  have HB3 := Lib.hid (HB2.out.trans hb)
  clear ha hb
  have hfr := free_at HA3.out
  have HFR := Lib.hid (show Calls Tryd.prog 13 #[.pointer (some ⟨tb', 0, none⟩)] w4 fun e w' => e = .returned (.tuple #[.int .i64 n3, .int .i64 18]) ∧ _ from hfr)
  clear hfr
  go_wp2_with fail
  refine HFR.out.mono ?_
  rintro e w5 ⟨rfl, ha, hb⟩
  have HA4 := Lib.hid ha
  have HB4 := Lib.hid (HB3.out.trans (hb.mono HB3.out.size))
  clear ha hb
  go_wp2_with fail
  refine (D3.out _ _ _ _ HA4.out (by omega)).mono ?_
  rintro e w6 ⟨rfl, ha, hb⟩
  have HA5 := Lib.hid ha
  have HB5 := Lib.hid (HB4.out.trans hb)
  clear ha hb
  go_wp2_with fail
  refine (D4.out _ _ _ _ HA5.out (HRB.out.below (bt HB0.out HB5.out)) (by omega)).mono ?_
  rintro e w7 ⟨rfl, ha, hb⟩
  have HA6 := Lib.hid ha
  have HB6 := Lib.hid (HB5.out.trans hb)
  clear ha hb
  go_wp2_with fail
  refine (D5.out _ _ _ _ HA6.out (by omega)).mono ?_
  rintro e w8 ⟨rfl, ha, hb⟩
  have HA7 := Lib.hid ha
  have HB7 := Lib.hid (HB6.out.trans hb)
  clear ha hb
  have hrd := read_at sY HA7.out
  rw [a6_r] at hrd
  have HRD := Lib.hid (show Calls Tryd.prog 16 #[.pointer (some ⟨tb', 0, none⟩), .string ⟨#[47, 121]⟩] w8 (ReadAt w8 _ tb' q _ _ a 0) from hrd)
  clear hrd
  go_wp2_with fail
  refine HRD.out.mono ?_
  rintro e x1 ⟨A9, c9, rfl, hr9, ha, hb⟩
  have HR9 := Lib.hid hr9
  have HAr := Lib.hid ha
  have HBr := Lib.hid (HB7.out.trans (hb.mono HB7.out.size))
  clear hr9 ha hb
  have hst := stat_at sX HAr.out
  rw [a6_g] at hst
  have HST := Lib.hid (show Calls Tryd.prog 15 #[.pointer (some ⟨tb', 0, none⟩), .string ⟨#[47, 120]⟩] x1 fun e w' => e = .returned (.tuple #[.agg #[.bool false, .int .i64 0, .int .i64 0], .int .i64 8]) ∧ _ from hst)
  clear hst
  go_wp2_with fail
  refine HST.out.mono ?_
  rintro e x2 ⟨rfl, ha, hb⟩
  have hal := Ve.al (w := x2) (Obj.cells #[.bool false, .int .i64 0, .int .i64 0] 40)
  have HAs := Lib.hid (ha.below hal)
  have HBs := Lib.hid ((HBr.out.trans (hb.mono HBr.out.size)).alloc (HBr.out.trans (hb.mono HBr.out.size)).size (Obj.cells #[.bool false, .int .i64 0, .int .i64 0] 40))
  have HR9s := Lib.hid ((HR9.out.below hb).below hal)
  clear ha hb hal
  have hfr := free_at HAs.out
  rw [F6.out] at hfr
  have HFS := Lib.hid (show Calls Tryd.prog 13 #[.pointer (some ⟨tb', 0, none⟩)] _ fun e w' => e = .returned (.tuple #[.int .i64 ((n3 : Int) - 0), .int .i64 18]) ∧ _ from (show ((n3 - 0 : Nat) : Int) = (n3 : Int) - 0 by omega) ▸ hfr)
  clear hfr
  go_wp2_with fail
  refine HFS.out.mono ?_
  rintro e x3 ⟨rfl, ha, hb⟩
  have HBt := Lib.hid (bt HB0.out (HBs.out.trans (hb.mono HBs.out.size)))
  have t1 := RdB.text (HR9s.out.below hb) c9
  have t2 := RdB.text (HRA.out.below HBt.out) c
  obtain ⟨TA, hTA⟩ : ∃ TA, Qa.tb a = TA := ⟨_, rfl⟩
  rw [hTA] at t1 t2
  clear ha hb hTA
  go_wp2_with fail
  go_ret
  exact ⟨rfl, HBt.out⟩
set_option maxHeartbeats 8000000 in
set_option maxRecDepth 1000000 in
theorem rep_false (A B : Option Addr) (c d : Nat) (a b : List UInt8) (q : Int) (W0 : World) (hq : W0.cell? ⟨0, 0, none⟩ = some (.int .i64 q)) (ha0 : RdB W0 A a) (hb0 : RdB W0 B b) (h1 : a.length ≤ 5000) (h2 : b.length ≤ 5000) : Calls Tryd.prog 6 #[.slice A a.length c, .slice B b.length d, .bool false] W0 fun e w' => e = .returned (.bool true) ∧ Below W0.heap.size W0 w' := by
  have HKN := Lib.hid (known_any W0 q hq)
  have HN := Lib.hid (fun W (hb : Below W0.heap.size W0 W) => (show Calls Tryd.prog 11 #[.int .i64 100, .int .i64 20] W fun e w' => ∃ tb', e = .returned (.tuple #[.pointer (some ⟨tb', 0, none⟩), .int .i64 0]) ∧ At w' W.heap.size tb' q ⟨rootA, 100, 19⟩ 0 ∧ Below W.heap.size W w' from new_at (w := W) (q := q) (n := 100) (i := 19) (keepC hb hq) (by omega) (by omega)))
  have ka := allB_5000 (n := 0 + a.length) (by omega)
  have kb := allB_5000 (n := 0 + b.length) (by omega)
  have k0 := allB_0
  have i1 : ¬ (5000 : Int) < (a.length : Int) := by omega
  have i2 : ¬ (5000 : Int) < (b.length : Int) := by omega
  have HRA := Lib.hid ha0
  have HRB := Lib.hid hb0
  have cat := cat2
  have hc1 : (⟨#[47, 100]⟩ : ByteArray).size = 2 := rfl
  have hc2 : (⟨#[47, 121]⟩ : ByteArray).size = 2 := rfl
  have hblk : blocksA (fl b) = allB (0 + b.length) := by rw [Nat.zero_add]; rfl
  obtain ⟨al, hal⟩ : ∃ al, allB (0 + a.length) = al := ⟨_, rfl⟩
  obtain ⟨be, hbe⟩ : ∃ be, allB (0 + b.length) = be := ⟨_, rfl⟩
  rw [hal] at ka
  rw [hbe] at kb hblk
  obtain ⟨n3, hn3⟩ : ∃ n3, 99 - al = n3 := ⟨_, rfl⟩
  have hn3b : 80 ≤ n3 ∧ n3 ≤ 99 := by omega
  obtain ⟨n5, hn5⟩ : ∃ n5, n3 - 1 - be = n5 := ⟨_, rfl⟩
  have e3 : doE b2 ⟨3, sX, em, a, 0⟩ = 0 := by rw [b3_e, if_neg (by omega), if_neg (by rw [hal, k0]; omega)]
  have s3 : doS b2 ⟨3, sX, em, a, 0⟩ = b3 a n3 := by rw [doS_ok e3]; show planS b2 ⟨3, sX, em, a, 0⟩ (splitP sX).1 (splitP em).1 = _; rw [b3_s, hal, k0]; show b3 a (99 - (al - 0)) = _; rw [Nat.sub_zero, hn3]
  have e4 : doE (b3 a n3) ⟨1, sDY, em, [], 0⟩ = 0 := by rw [b4_e, if_neg (by omega)]
  have s4 : doS (b3 a n3) ⟨1, sDY, em, [], 0⟩ = b4 a n3 := by rw [doS_ok e4]; exact b4_s a n3
  have e5 : doE (b4 a n3) ⟨3, sDY, em, b, 0⟩ = 0 := by rw [b5_e, if_neg (by omega), if_neg (by rw [hbe, k0]; omega)]
  have s5 : doS (b4 a n3) ⟨3, sDY, em, b, 0⟩ = b5 a b n5 := by rw [doS_ok e5]; show planS (b4 a n3) ⟨3, sDY, em, b, 0⟩ (splitP sDY).1 (splitP em).1 = _; rw [b5_s, hbe, k0]; show b5 a b (n3 - 1 - (be - 0)) = _; (try simp only [Nat.sub_zero]); (try simp only [Nat.sub_zero] at hn5); rw [hn5]
  have s6 : doS (b5 a b n5) ⟨7, sX, sDY, [], 0⟩ = b6 a b n5 := by rw [doS_ok (b6_e a b n5)]; exact b6_s a b n5
  have f6 : (b6 a b n5).blocks = n3 - 1 := by show n5 + blocksA (fl b) = _; rw [hblk]; omega
  have d0 : ∀ W B9 tb' k, At W B9 tb' q ⟨rootA, 100, 19⟩ k → k ≤ 2000 → Calls Tryd.prog 12 #[.pointer (some ⟨tb', 0, none⟩), .agg #[.int .i64 2, .string ⟨#[47, 100]⟩, .string ⟨#[]⟩, .slice none 0 0, .int .i64 0]] W (AtPost W B9 tb' q (.int .i64 0) b1 (k + 1)) := by
    intro W B9 tb' k hA hk
    have := do_at ⟨2, sD, em, [], 0⟩ none 0 hA hk (RdB.nil _ _) (by simp)
    rw [b1_e] at this
    exact this
  have D0 := Lib.hid d0
  have d1 : ∀ W B9 tb' k, At W B9 tb' q b1 k → k ≤ 2000 → Calls Tryd.prog 12 #[.pointer (some ⟨tb', 0, none⟩), .agg #[.int .i64 1, .string ⟨#[47, 120]⟩, .string ⟨#[]⟩, .slice none 0 0, .int .i64 0]] W (AtPost W B9 tb' q (.int .i64 0) b2 (k + 1)) := by
    intro W B9 tb' k hA hk
    have := do_at ⟨1, sX, em, [], 0⟩ none 0 hA hk (RdB.nil _ _) (by simp)
    rw [b2_e] at this
    exact this
  have D1 := Lib.hid d1
  have d2 : ∀ W B9 tb' k, At W B9 tb' q b2 k → RdB W A a → k ≤ 2000 → Calls Tryd.prog 12 #[.pointer (some ⟨tb', 0, none⟩), .agg #[.int .i64 3, .string ⟨#[47, 120]⟩, .string ⟨#[]⟩, .slice A a.length c, .int .i64 0]] W (AtPost W B9 tb' q (.int .i64 0) (b3 a n3) (k + 1)) := by
    intro W B9 tb' k hA hR hk
    have := do_at ⟨3, sX, em, a, 0⟩ A c hA hk hR (by show a.length ≤ _; omega)
    rw [e3, s3] at this
    exact this
  have D2 := Lib.hid d2
  have d4 : ∀ W B9 tb' k, At W B9 tb' q (b3 a n3) k → k ≤ 2000 → Calls Tryd.prog 12 #[.pointer (some ⟨tb', 0, none⟩), .agg #[.int .i64 1, .string ⟨#[47, 100, 47, 121]⟩, .string ⟨#[]⟩, .slice none 0 0, .int .i64 0]] W (AtPost W B9 tb' q (.int .i64 0) (b4 a n3) (k + 1)) := by
    intro W B9 tb' k hA hk
    have := do_at ⟨1, sDY, em, [], 0⟩ none 0 hA hk (RdB.nil _ _) (by simp)
    rw [e4, s4] at this
    exact this
  have D4 := Lib.hid d4
  have d5 : ∀ W B9 tb' k, At W B9 tb' q (b4 a n3) k → RdB W B b → k ≤ 2000 → Calls Tryd.prog 12 #[.pointer (some ⟨tb', 0, none⟩), .agg #[.int .i64 3, .string ⟨#[47, 100, 47, 121]⟩, .string ⟨#[]⟩, .slice B b.length d, .int .i64 0]] W (AtPost W B9 tb' q (.int .i64 0) (b5 a b n5) (k + 1)) := by
    intro W B9 tb' k hA hR hk
    have := do_at ⟨3, sDY, em, b, 0⟩ B d hA hk hR (by show b.length ≤ _; omega)
    rw [e5, s5] at this
    exact this
  have D5 := Lib.hid d5
  have d6 : ∀ W B9 tb' k, At W B9 tb' q (b5 a b n5) k → k ≤ 2000 → Calls Tryd.prog 12 #[.pointer (some ⟨tb', 0, none⟩), .agg #[.int .i64 7, .string ⟨#[47, 120]⟩, .string ⟨#[47, 100, 47, 121]⟩, .slice none 0 0, .int .i64 0]] W (AtPost W B9 tb' q (.int .i64 0) (b6 a b n5) (k + 1)) := by
    intro W B9 tb' k hA hk
    have := do_at ⟨7, sX, sDY, [], 0⟩ none 0 hA hk (RdB.nil _ _) (by simp)
    rw [(b6_e a b n5), s6] at this
    exact this
  have D6 := Lib.hid d6
  have F6 := Lib.hid f6
  clear d0 d1 d2 d4 d5 d6 e3 s3 e4 s4 e5 s5 s6 f6 hq ha0 hb0 hal hbe hblk hn3 hn5 k0 ka kb
  obtain ⟨hn3a, hn3b⟩ := hn3b
  go_enter Tryd.func6, Tryd.ntmps6
  go_wp2_with fail
  refine HKN.out.mono ?_
  rintro e w1 ⟨rfl, hb⟩
  have HB0 := Lib.hid hb
  clear hb
  go_wp2_with fail
  refine (HN.out _ HB0.out).mono ?_
  rintro e w2 ⟨tb', rfl, ha, hb⟩
  have HA := Lib.hid ha
  have HB := Lib.hid hb
  clear ha hb
  go_wp2_with fail
  refine (D0.out _ _ _ _ HA.out (by omega)).mono ?_
  rintro e w3 ⟨rfl, ha, hb⟩
  have HA2 := Lib.hid ha
  have HB2 := Lib.hid (HB.out.trans hb)
  clear ha hb
  go_wp2_with fail
  refine (D1.out _ _ _ _ HA2.out (by omega)).mono ?_
  rintro e w4 ⟨rfl, ha, hb⟩
  have HA3 := Lib.hid ha
  have HB3 := Lib.hid (HB2.out.trans hb)
  clear ha hb
  go_wp2_with fail
  refine (D2.out _ _ _ _ HA3.out (HRA.out.below (bt HB0.out HB3.out)) (by omega)).mono ?_
  rintro e w5 ⟨rfl, ha, hb⟩
  have HA4 := Lib.hid ha
  have HB4 := Lib.hid (HB3.out.trans hb)
  clear ha hb
  have hfr := free_at HA4.out
  have HFR := Lib.hid (show Calls Tryd.prog 13 #[.pointer (some ⟨tb', 0, none⟩)] w5 fun e w' => e = .returned (.tuple #[.int .i64 n3, .int .i64 17]) ∧ _ from hfr)
  clear hfr
  go_wp2_with fail
  refine HFR.out.mono ?_
  rintro e w6 ⟨rfl, ha, hb⟩
  have HA5 := Lib.hid ha
  have HB5 := Lib.hid (HB4.out.trans (hb.mono HB4.out.size))
  clear ha hb
  go_wp2_with fail
  refine (D4.out _ _ _ _ HA5.out (by omega)).mono ?_
  rintro e w7 ⟨rfl, ha, hb⟩
  have HA6 := Lib.hid ha
  have HB6 := Lib.hid (HB5.out.trans hb)
  clear ha hb
  go_wp2_with fail
  refine (D5.out _ _ _ _ HA6.out (HRB.out.below (bt HB0.out HB6.out)) (by omega)).mono ?_
  rintro e w8 ⟨rfl, ha, hb⟩
  have HA7 := Lib.hid ha
  have HB7 := Lib.hid (HB6.out.trans hb)
  clear ha hb
  go_wp2_with fail
  refine (D6.out _ _ _ _ HA7.out (by omega)).mono ?_
  rintro e w9 ⟨rfl, ha, hb⟩
  have HA8 := Lib.hid ha
  have HB8 := Lib.hid (HB7.out.trans hb)
  clear ha hb
  have hrd := read_at sDY HA8.out
  rw [b6_r] at hrd
  have HRD := Lib.hid (show Calls Tryd.prog 16 #[.pointer (some ⟨tb', 0, none⟩), .string ⟨#[47, 100, 47, 121]⟩] w9 (ReadAt w9 _ tb' q _ _ a 0) from hrd)
  clear hrd
  go_wp2_with fail
  refine HRD.out.mono ?_
  rintro e x1 ⟨A9, c9, rfl, hr9, ha, hb⟩
  have HR9 := Lib.hid hr9
  have HAr := Lib.hid ha
  have HBr := Lib.hid (HB8.out.trans (hb.mono HB8.out.size))
  clear hr9 ha hb
  have hst := stat_at sX HAr.out
  rw [b6_g] at hst
  have HST := Lib.hid (show Calls Tryd.prog 15 #[.pointer (some ⟨tb', 0, none⟩), .string ⟨#[47, 120]⟩] x1 fun e w' => e = .returned (.tuple #[.agg #[.bool false, .int .i64 0, .int .i64 0], .int .i64 8]) ∧ _ from hst)
  clear hst
  go_wp2_with fail
  refine HST.out.mono ?_
  rintro e x2 ⟨rfl, ha, hb⟩
  have hal := Ve.al (w := x2) (Obj.cells #[.bool false, .int .i64 0, .int .i64 0] 40)
  have HAs := Lib.hid (ha.below hal)
  have HBs := Lib.hid ((HBr.out.trans (hb.mono HBr.out.size)).alloc (HBr.out.trans (hb.mono HBr.out.size)).size (Obj.cells #[.bool false, .int .i64 0, .int .i64 0] 40))
  have HR9s := Lib.hid ((HR9.out.below hb).below hal)
  clear ha hb hal
  have hfr := free_at HAs.out
  rw [F6.out] at hfr
  have HFS := Lib.hid (show Calls Tryd.prog 13 #[.pointer (some ⟨tb', 0, none⟩)] _ fun e w' => e = .returned (.tuple #[.int .i64 ((n3 : Int) - 1), .int .i64 17]) ∧ _ from (show ((n3 - 1 : Nat) : Int) = (n3 : Int) - 1 by omega) ▸ hfr)
  clear hfr
  go_wp2_with fail
  refine HFS.out.mono ?_
  rintro e x3 ⟨rfl, ha, hb⟩
  have HBt := Lib.hid (bt HB0.out (HBs.out.trans (hb.mono HBs.out.size)))
  have t1 := RdB.text (HR9s.out.below hb) c9
  have t2 := RdB.text (HRA.out.below HBt.out) c
  obtain ⟨TA, hTA⟩ : ∃ TA, Qa.tb a = TA := ⟨_, rfl⟩
  rw [hTA] at t1 t2
  clear ha hb hTA
  go_wp2_with fail
  go_ret
  exact ⟨rfl, HBt.out⟩
theorem replaces_walk (A B : Option Addr) (c d : Nat) (a b : List UInt8) (same : Bool) (q : Int) (W0 : World) (hq : W0.cell? ⟨0, 0, none⟩ = some (.int .i64 q)) (ha0 : RdB W0 A a) (hb0 : RdB W0 B b) : Calls Tryd.prog 6 #[.slice A a.length c, .slice B b.length d, .bool same] W0 fun e w' => e = .returned (.bool true) ∧ Below W0.heap.size W0 w' := by
  by_cases h1 : a.length ≤ 5000
  · by_cases h2 : b.length ≤ 5000
    · cases same
      · exact rep_false A B c d a b q W0 hq ha0 hb0 h1 h2
      · exact rep_true A B c d a b q W0 hq ha0 hb0 h1 h2
    · exact rep_long2 A B c d _ _ same q W0 hq (by omega) (by omega)
  · exact rep_long1 A B c d _ _ same q W0 hq (by omega)
end Go.Proofs.YtpdcjdangnfeiaaDoor.Vk
