/- TreeMoves walked. -/
import Derived.Test.YtpdcjdangnfeiaaDoorWj
import Derived.Test.YtpdcjdangnfeiaaDoorWk
namespace Go.Proofs.YtpdcjdangnfeiaaDoor.Wl
open Go Go.Maps Go.RowKit Go.Proofs.YtpdcjdangnfeiaaDoor.Pb Go.Proofs.YtpdcjdangnfeiaaDoor.PPth Go.Proofs.YtpdcjdangnfeiaaDoorW.PrintWords Go.Proofs.YtpdcjdangnfeiaaDoorW.PrintLast Go.Proofs.YtpdcjdangnfeiaaDoorW.PrintMore Go.Proofs.YtpdcjdangnfeiaaDoor.Ta Go.Proofs.YtpdcjdangnfeiaaDoor.Tb Go.Proofs.YtpdcjdangnfeiaaDoor.Tc Go.Proofs.YtpdcjdangnfeiaaDoor.Te Go.Proofs.YtpdcjdangnfeiaaDoor.Tf Go.Proofs.YtpdcjdangnfeiaaDoor.Qa Go.Proofs.YtpdcjdangnfeiaaDoor.Qb Go.Proofs.YtpdcjdangnfeiaaDoor.Qc Go.Proofs.YtpdcjdangnfeiaaDoor.Qd Go.Proofs.YtpdcjdangnfeiaaDoor.Qe Go.Proofs.YtpdcjdangnfeiaaDoor.Qf Go.Proofs.YtpdcjdangnfeiaaDoor.Ua Go.Proofs.YtpdcjdangnfeiaaDoor.Ub Go.Proofs.YtpdcjdangnfeiaaDoor.Uc Go.Proofs.YtpdcjdangnfeiaaDoor.Ud Go.Proofs.YtpdcjdangnfeiaaDoor.Ue Go.Proofs.YtpdcjdangnfeiaaDoor.Uf Go.Proofs.YtpdcjdangnfeiaaDoor.Ba Go.Proofs.YtpdcjdangnfeiaaDoor.Ug Go.Proofs.YtpdcjdangnfeiaaDoor.Uh Go.Proofs.YtpdcjdangnfeiaaDoor.Ui Go.Proofs.YtpdcjdangnfeiaaDoor.Uj Go.Proofs.YtpdcjdangnfeiaaDoor.Uk Go.Proofs.YtpdcjdangnfeiaaDoor.Ul Go.Proofs.YtpdcjdangnfeiaaDoor.Um Go.Proofs.YtpdcjdangnfeiaaDoor.Un Go.Proofs.YtpdcjdangnfeiaaDoor.Uo Go.Proofs.YtpdcjdangnfeiaaDoor.Up Go.Proofs.YtpdcjdangnfeiaaDoor.Uq Go.Proofs.YtpdcjdangnfeiaaDoor.Ur Go.Proofs.YtpdcjdangnfeiaaDoor.Us Go.Proofs.YtpdcjdangnfeiaaDoor.Ut Go.Proofs.YtpdcjdangnfeiaaDoor.Uu Go.Proofs.YtpdcjdangnfeiaaDoor.Uv Go.Proofs.YtpdcjdangnfeiaaDoor.Uw Go.Proofs.YtpdcjdangnfeiaaDoor.Ux Go.Proofs.YtpdcjdangnfeiaaDoor.Uy Go.Proofs.YtpdcjdangnfeiaaDoor.Uz Go.Proofs.YtpdcjdangnfeiaaDoor.Va Go.Proofs.YtpdcjdangnfeiaaDoor.Vb Go.Proofs.YtpdcjdangnfeiaaDoor.Vc Go.Proofs.YtpdcjdangnfeiaaDoor.Vd Go.Proofs.YtpdcjdangnfeiaaDoor.Ve Go.Proofs.YtpdcjdangnfeiaaDoor.Wa Go.Proofs.YtpdcjdangnfeiaaDoor.Wb Go.Proofs.YtpdcjdangnfeiaaDoor.Wc Go.Proofs.YtpdcjdangnfeiaaDoor.Wd Go.Proofs.YtpdcjdangnfeiaaDoor.We Go.Proofs.YtpdcjdangnfeiaaDoor.Wg Go.Proofs.YtpdcjdangnfeiaaDoor.Wh Go.Proofs.YtpdcjdangnfeiaaDoor.Wi Go.Proofs.YtpdcjdangnfeiaaDoor.Wj Go.Proofs.YtpdcjdangnfeiaaDoor.Wk
theorem stA_agg (o : Option N × Int) : ∃ (d : Bool) (k c : Int), (stA o).1 = .agg #[.bool d, .int .i64 k, .int .i64 c] := by
  obtain ⟨o, e⟩ := o
  cases o <;> exact ⟨_, _, _, rfl⟩
section
variable {w : World} {B1 t1 m1 B2 t2 m2 : Nat} {s1 s2 : S} {q : Int}
theorem stat_at2 (p : ByteArray) (h : At2 w B1 t1 s1 m1 B2 t2 s2 m2 q) : Calls Tryd.prog 15 #[.pointer (some ⟨t1, 0, none⟩), .string p] w fun e w' => e = .returned (.tuple #[(stA (lkA s1.a p)).1, .int .i64 (stA (lkA s1.a p)).2]) ∧ At2 w' B1 t1 s1 m1 B2 t2 s2 m2 q ∧ Below w.heap.size w w' := by
  refine (stat_at p h.left).mono ?_
  rintro e w' ⟨rfl, -, hb⟩
  exact ⟨rfl, h.below hb, hb⟩
end
theorem balloc (w : World) (o : Obj) : Below w.heap.size w (w.alloc o) := (Below.refl _ _).alloc (Nat.le_refl _) _
theorem alloc_keep {w w' : World} {O : Obj} (hb : Below (w.alloc O).heap.size (w.alloc O) w') : w'.heap[w.heap.size]? = some O := (hb.block _ (by simp)).trans (Go.heap_alloc_new _ _)
theorem st_err {o : Option N × Int} (h : (stA o).2 ≠ 0) : o.2 ≠ 0 := by
  obtain ⟨o, e⟩ := o
  cases o
  · exact h
  · exact absurd rfl h
/-- What the law does behind its acts. -/
structure MvRel (q : Int) (W2 : World) (tb' : Nat) (s : S) (k : Nat) (wr : World) : Prop where
  att : At wr W2.heap.size tb' q s k
  room : Room s.a
  low : Below W2.heap.size W2 wr
set_option maxHeartbeats 4000000 in
set_option maxRecDepth 1000000 in
theorem moves_few (pa pb : ByteArray) (ha : pa.size ≤ 300) (hb : pb.size ≤ 300) (A : Option Addr) (c : Nat) (l : List O) (q : Int) (W0 : World) (hq : W0.cell? ⟨0, 0, none⟩ = some (.int .i64 q)) (hl : RdO W0 A l) : Calls Tryd.prog 9 #[.slice A l.length c, .string pa, .string pb] W0 fun e w' => e = .returned (.bool true) ∧ Below W0.heap.size W0 w' := by
  have HKN := Lib.hid (known_any W0 q hq)
  have HFEW := Lib.hid (fun W (hb : Below W0.heap.size W0 W) => few_any A c l W (hl.below hb))
  have HN := Lib.hid (fun W (hb : Below W0.heap.size W0 W) => (show Calls Tryd.prog 11 #[.int .i64 200, .int .i64 60] W fun e w' => ∃ tb', e = .returned (.tuple #[.pointer (some ⟨tb', 0, none⟩), .int .i64 0]) ∧ At w' W.heap.size tb' q ⟨rootA, 200, 59⟩ 0 ∧ Below W.heap.size W w' from new_at (w := W) (q := q) (n := 200) (i := 59) (keepC hb hq) (by omega) (by omega)))
  have HL := Lib.hid hl
  obtain ⟨n, hn⟩ : ∃ n, l.length = n := ⟨_, rfl⟩
  rw [hn] at HFEW ⊢
  have HLEN := Lib.hid hn
  have z0 : ¬ (300 : Int) < (pa.size : Int) := by omega
  have z1 : ¬ (300 : Int) < (pb.size : Int) := by omega
  clear hq hl hn ha hb
  go_enter Tryd.func9, Tryd.ntmps9
  go_wp2_with fail
  refine HKN.out.mono ?_
  rintro e w1 ⟨rfl, hb⟩
  have HB1 := Lib.hid hb
  clear hb
  go_wp2_with fail
  refine (HFEW.out _ HB1.out).mono ?_
  rintro e w2 ⟨r, rfl, hb, hP⟩
  have HB2 := Lib.hid (bt HB1.out hb)
  have HP := Lib.hid hP
  clear hb hP
  cases r
  · go_wp2
    go_ret
    exact ⟨rfl, HB2.out⟩
  have HF := Lib.hid (HP.out rfl)
  go_wp2_with fail
  refine (HN.out _ HB2.out).mono ?_
  rintro e w3 ⟨tb', rfl, ha, hb⟩
  have HR := Lib.hid (show MvRel q w2 tb' ⟨rootA, 200, 59⟩ 0 w3 from ⟨ha, Room.root, hb⟩)
  have HL2 := Lib.hid (HL.out.below HB2.out)
  clear ha hb
  go_wp2_with fail
  go_loopw [9] (fun i wr => ∃ (k : Nat) (s : S), i = .int .i64 k ∧ k ≤ n ∧ Hid (MvRel q w2 tb' s k wr)) (fun i _ => n - (intOf i).toNat)
  case atStart => exact ⟨0, _, rfl, by omega, HR⟩
  case round =>
    clear HR
    obtain ⟨k, s, rfl, hk, HR⟩ := hrel
    have hn150 : n ≤ 150 := by have := HF.out.1; rw [HLEN.out] at this; omega
    by_cases hlt : k < n
    · have i1 : (k : Int) < n := by omega
      obtain ⟨x, hx⟩ : ∃ x, l[k]? = some x := ⟨l[k]'(by rw [HLEN.out]; exact hlt), List.getElem?_eq_getElem _⟩
      obtain ⟨b, o, rfl, hop⟩ := rdO_at HL2.out hx
      have HDL := Lib.hid (HF.out.2 x (List.mem_of_getElem? hx))
      obtain ⟨g0, g1, g2, ⟨D, dc, g3, hrd⟩, g4⟩ := hop.below HR.out.low
      have hdo := do_at x D dc HR.out.att (by omega) hrd (by have := HDL.out; omega)
      have HRM := Lib.hid (HR.out.room.do x)
      unfold opV at hdo
      obtain ⟨E, hE⟩ : ∃ E, doE s x = E := ⟨_, rfl⟩
      obtain ⟨s', hs'⟩ : ∃ s', doS s x = s' := ⟨_, rfl⟩
      rw [hE, hs'] at hdo
      rw [hs'] at HRM
      have HDO := Lib.hid hdo
      clear hrd hdo hE hs' hx hop
      go_wp2_with fail
      refine HDO.out.mono ?_
      rintro e w6 ⟨rfl, h2, hb⟩
      have HR6 := Lib.hid (show MvRel q w2 tb' s' (k + 1) w6 from ⟨h2, HRM.out, HR.out.low.trans hb⟩)
      clear h2 hb
      go_wp2_with fail
      go_roundw
      · exact ⟨k + 1, s', by go_num, hlt, HR6⟩
      · simp [intOf]; omega
    · have i1 : ¬ (k : Int) < n := by omega
      have HS1 := Lib.hid (stat_at pb HR.out.att)
      obtain ⟨d0, k0, c0, hv0⟩ := stA_agg (lkA s.a pb)
      obtain ⟨E0, hE0⟩ : ∃ E0, (stA (lkA s.a pb)).2 = E0 := ⟨_, rfl⟩
      rw [hv0, hE0] at HS1
      have HE0 := Lib.hid hE0
      clear hv0 hE0
      go_wp2_with fail
      refine HS1.out.mono ?_
      rintro e w4 ⟨rfl, h4, hb4⟩
      have HA4 := Lib.hid h4
      have HB4 := Lib.hid (HR.out.low.trans (hb4.mono HR.out.low.size))
      clear h4 hb4
      go_wp2_with fail
      refine (twin_at (HA4.out.below (balloc _ _)) (by omega)).mono ?_
      rintro e w5 ⟨t2, rfl, h5, hb5⟩
      obtain ⟨B2, hB2⟩ : ∃ B2, (w4.alloc (Obj.cells #[.bool d0, .int .i64 k0, .int .i64 c0] 40)).heap.size = B2 := ⟨_, rfl⟩
      rw [hB2] at h5
      have hbA : Below w4.heap.size w4 w5 := (balloc w4 _).trans (hb5.mono (by simp))
      have HB5 := Lib.hid (HB4.out.trans (hbA.mono HB4.out.size))
      obtain ⟨E1, hE1⟩ : ∃ E1, doE s (oRen pa pb) = E1 := ⟨_, rfl⟩
      obtain ⟨s1, hs1⟩ : ∃ s1, doS s (oRen pa pb) = s1 := ⟨_, rfl⟩
      have hdo : Calls Tryd.prog 12 #[.pointer (some ⟨tb', 0, none⟩), .agg #[.int .i64 7, .string pa, .string pb, .slice none 0 0, .int .i64 0]] w5 fun e w' => e = .returned (.int .i64 (doE s (oRen pa pb))) ∧ At2 w' w2.heap.size tb' (doS s (oRen pa pb)) (k + 1) B2 t2 s k q ∧ Below w2.heap.size w5 w' := do_at2 (oRen pa pb) none 0 h5 (by omega) (RdB.nil _ _) (by simp [oRen])
      rw [hE1, hs1] at hdo
      have HDO := Lib.hid hdo
      have HWF := Lib.hid (Wj.At.wfA (At2.left h5))
      have HE1 := Lib.hid hE1
      have HS1' := Lib.hid hs1
      clear h5 hb5 hbA hB2 hE1 hs1 hdo
      by_cases c1 : E1 = 0
      · subst c1
        by_cases c2 : E0 = 0
        · subst c2
          go_wp2_with fail
          refine HDO.out.mono ?_
          rintro e w6 ⟨rfl, h6, hb6⟩
          have HB6 := Lib.hid (HB5.out.trans hb6)
          clear h6 hb6
          go_wp2
          go_ret
          exact ⟨rfl, HB2.out.trans (HB6.out.mono HB2.out.size)⟩
        · have HC2 := Lib.hid c2
          have c2' : (E0 == 0) = false := by simpa using c2
          clear c2
          go_wp2_with fail
          refine HDO.out.mono ?_
          rintro e w6 ⟨rfl, h6, hb6⟩
          have HB6 := Lib.hid (HB5.out.trans hb6)
          obtain ⟨y, m1, m2, m3, m4, m5, m6⟩ := moves_law s HWF.out HR.out.room pa pb HE1.out (st_err (by rw [HE0.out]; exact HC2.out)) (by rw [HS1'.out]; exact Wj.At.wfA (At2.left h6))
          rw [HS1'.out] at m2 m3 m4 m5 m6
          obtain ⟨yd, hyd⟩ : ∃ yd, y.dir = yd := ⟨_, rfl⟩
          obtain ⟨yl, hyl⟩ : ∃ yl : Int, (y.data.length : Int) = yl := ⟨_, rfl⟩
          obtain ⟨yk, hyk⟩ : ∃ yk : Int, (y.k : Int) = yk := ⟨_, rfl⟩
          have v1 : stA (lkA s.a pa) = (.agg #[.bool yd, .int .i64 yl, .int .i64 yk], 0) := by rw [m1, ← hyd, ← hyl, ← hyk]; rfl
          have v2 : stA (lkA s1.a pb) = (.agg #[.bool yd, .int .i64 yl, .int .i64 yk], 0) := by rw [m2, ← hyd, ← hyl, ← hyk]; rfl
          have v3 : stA (lkA s1.a pa) = (.agg #[.bool false, .int .i64 0, .int .i64 0], 8) := by rw [m3]; rfl
          have q1 := stat_at2 pa h6.symm
          rw [v1] at q1
          have Q1 := Lib.hid q1
          have V2 := Lib.hid v2
          have V3 := Lib.hid v3
          have M4 := Lib.hid m4
          have M5 := Lib.hid m5
          have M6 := Lib.hid m6
          clear h6 hb6 m1 m2 m3 m4 m5 m6 hyd hyl hyk v1 v2 v3 q1
          go_wp2_with fail
          refine Q1.out.mono ?_
          rintro e w7 ⟨rfl, h7, hb7⟩
          have HB7 := Lib.hid (HB6.out.trans (hb7.mono HB6.out.size))
          obtain ⟨O1, hO1⟩ : ∃ O1, Obj.cells #[.bool yd, .int .i64 yl, .int .i64 yk] 40 = O1 := ⟨_, rfl⟩
          have q2 := stat_at2 pb (h7.below (balloc w7 O1)).symm
          rw [V2.out] at q2
          have Q2 := Lib.hid q2
          clear h7 hb7 q2
          go_wp2_with fail
          refine Q2.out.mono ?_
          rintro e w8 ⟨rfl, h8, hb8⟩
          have hx8 := alloc_keep hb8
          have HB8 := Lib.hid (HB7.out.trans (((balloc w7 O1).trans (hb8.mono (by simp))).mono HB7.out.size))
          have q3 := stat_at2 pa (h8.below (balloc w8 O1))
          rw [V3.out] at q3
          have Q3 := Lib.hid q3
          have HX8 := Lib.hid hx8
          clear h8 hb8 q3 hx8
          go_wp2_with fail
          refine Q3.out.mono ?_
          rintro e w9 ⟨rfl, h9, hb9⟩
          have hx9 := alloc_keep hb9
          have hy9 : w9.heap[w7.heap.size]? = some O1 := (((balloc w8 O1).trans (hb9.mono (by simp))).block _ (Array.getElem?_eq_some_iff.1 HX8.out).1).trans HX8.out
          have HB9 := Lib.hid (HB8.out.trans (((balloc w8 O1).trans (hb9.mono (by simp))).mono HB8.out.size))
          have H9 := Lib.hid h9
          rw [← hO1] at hx9 hy9
          have x0 : (w9.alloc (.cells #[.bool false, .int .i64 0, .int .i64 0] 40)).cell? ⟨w7.heap.size, 0, none⟩ = some (.bool yd) := keepC (balloc w9 _) (blk_cell hy9 0)
          have x1 : (w9.alloc (.cells #[.bool false, .int .i64 0, .int .i64 0] 40)).cell? ⟨w7.heap.size, 1, none⟩ = some (.int .i64 yl) := keepC (balloc w9 _) (blk_cell hy9 1)
          have x2 : (w9.alloc (.cells #[.bool false, .int .i64 0, .int .i64 0] 40)).cell? ⟨w7.heap.size, 2, none⟩ = some (.int .i64 yk) := keepC (balloc w9 _) (blk_cell hy9 2)
          have y0 : (w9.alloc (.cells #[.bool false, .int .i64 0, .int .i64 0] 40)).cell? ⟨w8.heap.size, 0, none⟩ = some (.bool yd) := keepC (balloc w9 _) (blk_cell hx9 0)
          have y1 : (w9.alloc (.cells #[.bool false, .int .i64 0, .int .i64 0] 40)).cell? ⟨w8.heap.size, 1, none⟩ = some (.int .i64 yl) := keepC (balloc w9 _) (blk_cell hx9 1)
          have y2 : (w9.alloc (.cells #[.bool false, .int .i64 0, .int .i64 0] 40)).cell? ⟨w8.heap.size, 2, none⟩ = some (.int .i64 yk) := keepC (balloc w9 _) (blk_cell hx9 2)
          have n1 : w7.heap.size ≠ w9.heap.size := by have := (Array.getElem?_eq_some_iff.1 hy9).1; omega
          have n2 : w8.heap.size ≠ w9.heap.size := by have := (Array.getElem?_eq_some_iff.1 hx9).1; omega
          clear h9 hb9 hx9 hy9 hO1
          go_wp2_with fail
          refine (same_false (H9.out.below (balloc _ _)) M4.out).mono ?_
          rintro e w10 ⟨rfl, h10, hb10⟩
          have HB10 := Lib.hid (HB9.out.trans (((balloc w9 _).trans (hb10.mono (by simp))).mono HB9.out.size))
          have hdo2 : Calls Tryd.prog 12 #[.pointer (some ⟨tb', 0, none⟩), .agg #[.int .i64 7, .string pb, .string pa, .slice none 0 0, .int .i64 0]] w10 fun e w' => e = .returned (.int .i64 (doE s1 (oRen pb pa))) ∧ At2 w' w2.heap.size tb' (doS s1 (oRen pb pa)) (k + 1 + 1) B2 t2 s k q ∧ Below w2.heap.size w10 w' := do_at2 (oRen pb pa) none 0 h10 (by omega) (RdB.nil _ _) (by simp [oRen])
          rw [M5.out] at hdo2
          have HDO2 := Lib.hid hdo2
          clear h10 hb10 hdo2 x0 x1 x2 y0 y1 y2
          go_wp2_with fail
          refine HDO2.out.mono ?_
          rintro e w11 ⟨rfl, h11, hb11⟩
          have HSM := Lib.hid (same_true h11 M6.out)
          have HB11 := Lib.hid (HB10.out.trans hb11)
          clear h11 hb11
          go_wp2_with fail
          refine HSM.out.mono ?_
          rintro e w12 ⟨rfl, -, hb12⟩
          have HB12 := Lib.hid (HB11.out.trans (hb12.mono HB11.out.size))
          clear hb12
          go_wp2
          go_ret
          exact ⟨rfl, HB2.out.trans (HB12.out.mono HB2.out.size)⟩
      · have c1' : (E1 == 0) = false := by simpa using c1
        clear c1
        go_wp2_with fail
        refine HDO.out.mono ?_
        rintro e w6 ⟨rfl, h6, hb6⟩
        have HB6 := Lib.hid (HB5.out.trans hb6)
        clear h6 hb6
        go_wp2
        go_ret
        exact ⟨rfl, HB2.out.trans (HB6.out.mono HB2.out.size)⟩
set_option maxHeartbeats 4000000 in
set_option maxRecDepth 1000000 in
theorem moves_long (pa pb : ByteArray) (hz : 300 < pa.size ∨ 300 < pb.size) (A : Option Addr) (c : Nat) (l : List O) (q : Int) (W0 : World) (hq : W0.cell? ⟨0, 0, none⟩ = some (.int .i64 q)) (hl : RdO W0 A l) : Calls Tryd.prog 9 #[.slice A l.length c, .string pa, .string pb] W0 fun e w' => e = .returned (.bool true) ∧ Below W0.heap.size W0 w' := by
  have HKN := Lib.hid (known_any W0 q hq)
  have HFEW := Lib.hid (fun W (hb : Below W0.heap.size W0 W) => few_any A c l W (hl.below hb))
  obtain ⟨n, hn⟩ : ∃ n, l.length = n := ⟨_, rfl⟩
  rw [hn] at HFEW ⊢
  clear hq hl hn
  by_cases k0 : 300 < pa.size
  · have z0 : (300 : Int) < (pa.size : Int) := by omega
    clear hz k0
    go_enter Tryd.func9, Tryd.ntmps9
    go_wp2_with fail
    refine HKN.out.mono ?_
    rintro e w1 ⟨rfl, hb⟩
    have HB1 := Lib.hid hb
    clear hb
    go_wp2_with fail
    refine (HFEW.out _ HB1.out).mono ?_
    rintro e w2 ⟨r, rfl, hb, hP⟩
    have HB2 := Lib.hid (bt HB1.out hb)
    clear hb hP
    cases r
    · go_wp2
      go_ret
      exact ⟨rfl, HB2.out⟩
    · go_wp2
      go_ret
      exact ⟨rfl, HB2.out⟩
  · have z0 : ¬ (300 : Int) < (pa.size : Int) := by omega
    have z1 : (300 : Int) < (pb.size : Int) := by omega
    clear hz k0
    go_enter Tryd.func9, Tryd.ntmps9
    go_wp2_with fail
    refine HKN.out.mono ?_
    rintro e w1 ⟨rfl, hb⟩
    have HB1 := Lib.hid hb
    clear hb
    go_wp2_with fail
    refine (HFEW.out _ HB1.out).mono ?_
    rintro e w2 ⟨r, rfl, hb, hP⟩
    have HB2 := Lib.hid (bt HB1.out hb)
    clear hb hP
    cases r
    · go_wp2
      go_ret
      exact ⟨rfl, HB2.out⟩
    · go_wp2
      go_ret
      exact ⟨rfl, HB2.out⟩
theorem moves_walk (pa pb : ByteArray) (A : Option Addr) (c : Nat) (l : List O) (q : Int) (W0 : World) (hq : W0.cell? ⟨0, 0, none⟩ = some (.int .i64 q)) (hl : RdO W0 A l) : Calls Tryd.prog 9 #[.slice A l.length c, .string pa, .string pb] W0 fun e w' => e = .returned (.bool true) ∧ Below W0.heap.size W0 w' := by
  by_cases h : 300 < pa.size ∨ 300 < pb.size
  · exact moves_long pa pb h A c l q W0 hq hl
  · exact moves_few pa pb (by omega) (by omega) A c l q W0 hq hl
end Go.Proofs.YtpdcjdangnfeiaaDoor.Wl
