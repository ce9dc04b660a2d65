/- The laws' known() walked. -/
import Derived.Test.YthgghgecpjnoiaaDoorDt
import Derived.Test.YthgghgecpjnoiaaDoorMa
import Derived.Lib.SlBytesConst
namespace Go.Proofs.YthgghgecpjnoiaaDoor.Du
open Go.RowKit Go.Proofs.YthgghgecpjnoiaaDoorW.PrintWords Go.Proofs.YthgghgecpjnoiaaDoorW.PrintLast Go.Proofs.YthgghgecpjnoiaaDoorW.PrintMore Go.Proofs.YthgghgecpjnoiaaDoor.Pc Go.Proofs.YthgghgecpjnoiaaDoor.Pd Go.Proofs.YthgghgecpjnoiaaDoor.Pk Go.Proofs.YthgghgecpjnoiaaDoor.Da Go.Proofs.YthgghgecpjnoiaaDoor.Db Go.Proofs.YthgghgecpjnoiaaDoor.Dc Go.Proofs.YthgghgecpjnoiaaDoor.Dd Go.Proofs.YthgghgecpjnoiaaDoor.De Go.Proofs.YthgghgecpjnoiaaDoor.Df Go.Proofs.YthgghgecpjnoiaaDoor.Dj Go.Proofs.YthgghgecpjnoiaaDoor.Dk Go.Proofs.YthgghgecpjnoiaaDoor.Dn Go.Proofs.YthgghgecpjnoiaaDoor.Do Go.Proofs.YthgghgecpjnoiaaDoor.Dq Go.Proofs.YthgghgecpjnoiaaDoor.Dr Go.Proofs.YthgghgecpjnoiaaDoor.Ds Go.Proofs.YthgghgecpjnoiaaDoor.Dt
def lit1 : List UInt8 := [97, 13, 10, 46, 46, 98, 13, 10, 46, 13, 10, 88]
theorem go_lit : (Dm.go Dm.S0 lit1).2 = [88] ∧ (Dm.go Dm.S0 lit1).1.st = 5 ∧ (Dm.go Dm.S0 lit1).1.out = [97, 13, 10, 46, 98, 13, 10] ∧ (Dm.go Dm.S0 lit1).1.wd = false := by decide
theorem enc_lit : encL [46, 120] = [46, 46, 120, 13, 10, 46, 13, 10] := by decide
theorem lines_lit : ((linesL [97, 13, 10, 98]).map tb).length = 2 := by rw [List.length_map]; decide
theorem lit_rd (w : World) (l : List UInt8) (fr : Nat × Nat) (hl : l.length ≤ 9223372036854775807) : RdB (w.alloc (.cells (l.map bv).toArray 5 fr)) (some ⟨w.heap.size, 0, none⟩) l := by
  refine RdB.mk hl fun j hj => ?_
  rw [cell_of_block (Go.heap_alloc_new w _)]
  simp [bv, hj]
theorem al {w : World} (o : Obj) : Below w.heap.size w (w.alloc o) := (Below.refl _ _).alloc (Nat.le_refl _) o
set_option maxHeartbeats 4000000 in
set_option maxRecDepth 100000 in
theorem known_any (w : World) (m : Int) (hm : w.cell? ⟨0, 0, none⟩ = some (.int .i64 m)) : Calls Tryd.prog 10 #[] w fun e w' => e = .returned (.bool true) ∧ Below w.heap.size w w' := by
  go_enter Tryd.func10, Tryd.ntmps10
  go_wp2_with fail
  refine (new_any (w := w) (M := 100) (by omega)).mono ?_
  rintro e w1 ⟨rfl, hd, hb, hs⟩
  have HD := Lib.hid hd
  have HB := Lib.hid hb
  have HS := Lib.hid hs
  clear hd hb hs
  have hcv := Lib.run_convert_bytes_const (P := Tryd.prog) w1 22 5 #[.int .u8 97, .int .u8 13, .int .u8 10, .int .u8 46, .int .u8 46, .int .u8 98, .int .u8 13, .int .u8 10, .int .u8 46, .int .u8 13, .int .u8 10, .int .u8 88] 12 12 Tryd.underlying22 Tryd.underlying5
  go_wp2_with fail
  have A1 := Lib.hid (HD.out.below (al (w := w1) (.cells (lit1.map bv).toArray 5 (12, 13))))
  refine (next_any (c := 12) A1.out .init (by omega) (by decide) (lit_rd w1 lit1 (12, 13) (by decide)) (by decide) ?_).mono ?_
  · intro ad e _
    cases e
    refine ⟨?_, by simp [Value.ownBlock]⟩
    show w1.heap.size ≠ _
    rw [HS.out]; omega
  obtain ⟨g1, g2, g3, g4⟩ := go_lit
  have hgood := Dm.go_good lit1 Dm.S0 .init
  generalize Dm.go Dm.S0 lit1 = F at g1 g2 g3 g4 hgood
  obtain ⟨s, rest⟩ := F
  simp only at g1 g2 g3 g4 hgood
  rw [g1, g2]
  rintro e w2 ⟨r, rfl, ho, hd⟩
  obtain ⟨A2, c2, rfl, hr2, hc2⟩ := ho.reads
  obtain ⟨v2, d1, d2, d3, d4⟩ := hd
  have A2h := Lib.hid d1
  have HB2 : Hid (Below w.heap.size w w2) := Lib.hid (HB.out.trans (((al _).mono (by have := HB.out.size; omega)).trans d3))
  have HR2 := Lib.hid hr2
  have G := Lib.hid g3
  have G2 := Lib.hid g2
  have G4 := Lib.hid g4
  have HG := Lib.hid hgood
  clear ho d1 d2 d3 d4 hr2 g1 g2 g3 g4 hgood hcv hc2
  go_wp2_with fail
  refine (text_any A2h.out HG.out (by omega)).mono ?_
  have z1 : ¬ (s.st ≠ 5) := by rw [G2.out]; decide
  have z2 : ¬ (100 < s.out.length) := by rw [G.out]; decide
  have z3 : ¬ (s.wd = true) := by rw [G4.out]; decide
  rw [if_neg z1, if_neg z1, if_neg z2, if_neg z2, if_neg z3, if_neg z3, G.out]
  clear z1 z2 z3
  rintro e w3 ⟨r3, rfl, ho, hb⟩
  obtain ⟨A3, c3, rfl, hr3, hc3⟩ := ho.reads
  have t1 : (convert 22 9 (.slice A2 1 c2)).run Tryd.prog w3 = .ok (.string ⟨#[88]⟩) w3 := (HR2.out.below hb).text c2
  have t3 : (convert 22 9 (.slice A3 7 c3)).run Tryd.prog w3 = .ok (.string ⟨#[97, 13, 10, 46, 98, 13, 10]⟩) w3 := hr3.text c3
  have HB3 := Lib.hid (bt HB2.out hb)
  clear ho hb hr3 hc3
  have hcv := Lib.run_convert_bytes_const (P := Tryd.prog) w3 22 5 #[.int .u8 46, .int .u8 120] 2 2 Tryd.underlying22 Tryd.underlying5
  go_wp2_with fail
  refine (encode_any _ 2 [46, 120] m _ (keepC (bt HB3.out (al _)) hm) (lit_rd w3 [46, 120] (2, 3) (by decide)) (by decide) (by decide)).mono ?_
  rw [enc_lit]
  rintro e w4 ⟨r4, rfl, ho, hb⟩
  obtain ⟨A4, c4, rfl, hr4, hc4⟩ := ho.reads
  have t4 : (convert 22 9 (.slice A4 8 c4)).run Tryd.prog w4 = .ok (.string ⟨#[46, 46, 120, 13, 10, 46, 13, 10]⟩) w4 := hr4.text c4
  have HB4 := Lib.hid (bt (bt HB3.out (al _)) hb)
  clear ho hb hr4 hc4 hcv t1 t3
  have hcv := Lib.run_convert_bytes_const (P := Tryd.prog) w4 22 5 #[.int .u8 97, .int .u8 13, .int .u8 10, .int .u8 98] 4 4 Tryd.underlying22 Tryd.underlying5
  go_wp2_with fail
  refine (lines_any _ 4 [97, 13, 10, 98] m _ (keepC (bt HB4.out (al _)) hm) (lit_rd w4 [97, 13, 10, 98] (4, 5) (by decide)) (by decide) (by decide)).mono ?_
  rw [lines_lit]
  rintro e w5 ⟨A5, c5, rfl, hr5, hn5, hb⟩
  have HB5 := Lib.hid (bt (bt HB4.out (al _)) hb)
  clear hb hr5 hn5 hcv t4
  go_wp2
  go_ret
  exact ⟨rfl, HB5.out⟩
end Go.Proofs.YthgghgecpjnoiaaDoor.Du
