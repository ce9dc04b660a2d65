/- DotStreams walked: for every bound, all bytes, all cuts the law returns true. -/
import Derived.Test.YthgghgecpjnoiaaDoorDv
import Derived.Test.YthgghgecpjnoiaaDoorDw
namespace Go.Proofs.YthgghgecpjnoiaaDoor.Dy
open Go.RowKit Go.Proofs.YthgghgecpjnoiaaDoorW.PrintWords Go.Proofs.YthgghgecpjnoiaaDoorW.PrintLast Go.Proofs.YthgghgecpjnoiaaDoorW.PrintMore Go.Proofs.YthgghgecpjnoiaaDoor.Pc Go.Proofs.YthgghgecpjnoiaaDoor.Pd Go.Proofs.YthgghgecpjnoiaaDoor.Pk Go.Proofs.YthgghgecpjnoiaaDoor.Da Go.Proofs.YthgghgecpjnoiaaDoor.Db Go.Proofs.YthgghgecpjnoiaaDoor.Dc Go.Proofs.YthgghgecpjnoiaaDoor.Dd Go.Proofs.YthgghgecpjnoiaaDoor.De Go.Proofs.YthgghgecpjnoiaaDoor.Df Go.Proofs.YthgghgecpjnoiaaDoor.Di Go.Proofs.YthgghgecpjnoiaaDoor.Dj Go.Proofs.YthgghgecpjnoiaaDoor.Dk Go.Proofs.YthgghgecpjnoiaaDoor.Dn Go.Proofs.YthgghgecpjnoiaaDoor.Do Go.Proofs.YthgghgecpjnoiaaDoor.Dq Go.Proofs.YthgghgecpjnoiaaDoor.Dr Go.Proofs.YthgghgecpjnoiaaDoor.Ds Go.Proofs.YthgghgecpjnoiaaDoor.Dt Go.Proofs.YthgghgecpjnoiaaDoor.Du Go.Proofs.YthgghgecpjnoiaaDoor.Dv Go.Proofs.YthgghgecpjnoiaaDoor.Dw
/-- Both decoders, apart. -/
structure Pair (W : World) (B1 g1 B2 g2 M : Nat) (s1 s2 : Dm.S) (v1 v2 : Value) : Prop where
  d : DecAt W B1 g1 M s1 v1
  r : RefAt W B2 g2 M s2 v2
  ne : v2.ownBlock = none ∨ v2.ownBlock ≠ v1.ownBlock
section
variable {W W' : World} {B1 g1 B2 g2 M : Nat} {s1 s2 s' : Dm.S} {v1 v2 : Value}
theorem Pair.below (h : Pair W B1 g1 B2 g2 M s1 s2 v1 v2) (hb : Below W.heap.size W W') : Pair W' B1 g1 B2 g2 M s1 s2 v1 v2 := ⟨h.d.below hb, h.r.below hb, h.ne⟩
theorem Pair.gne (h : Pair W B1 g1 B2 g2 M s1 s2 v1 v2) : g1 ≠ g2 := blk_ne h.d.blk h.r.blk (by decide)
theorem Pair.dec (h : Pair W B1 g1 B2 g2 M s1 s2 v1 v2) (k : Dec W W' B1 g1 M s' v1.ownBlock) : ∃ v, Pair W' B1 g1 B2 g2 M s' s2 v v2 := by
  obtain ⟨v, a, b, c, d⟩ := k
  have h1 : v1.ownBlock ≠ some g2 := Lib.ownBlock_ne h.d.own h.r.blk (by decide)
  have h2 : v2.ownBlock ≠ some g1 := Lib.ownBlock_ne h.r.own h.d.blk (by decide)
  refine ⟨v, a, h.r.keep b h.gne.symm (fun e => h1 e.symm) h2 h.ne, ?_⟩
  rcases d with d | ⟨k, d, e⟩
  · rw [d]; exact h.ne
  · cases hv : v2.ownBlock with
    | none => exact .inl rfl
    | some k2 =>
      right
      rw [d]
      intro e2
      injection e2 with e2
      have := (World.ownsRow.lt h.r.own k2 hv).2
      omega
theorem Pair.ref (h : Pair W B1 g1 B2 g2 M s1 s2 v1 v2) (k : Ref W W' B2 g2 M s' v2.ownBlock) : ∃ v, Pair W' B1 g1 B2 g2 M s1 s' v1 v := by
  obtain ⟨v, a, b, c, d⟩ := k
  have h1 : v1.ownBlock ≠ some g2 := Lib.ownBlock_ne h.d.own h.r.blk (by decide)
  have h2 : v2.ownBlock ≠ some g1 := Lib.ownBlock_ne h.r.own h.d.blk (by decide)
  have h3 : v1.ownBlock = none ∨ v1.ownBlock ≠ v2.ownBlock := by
    rcases h.ne with e | e
    · cases hv : v1.ownBlock with
      | none => exact .inl rfl
      | some k => exact .inr (by rw [e]; simp)
    · exact .inr (fun x => e x.symm)
  refine ⟨v, h.d.keep b h.gne (fun e => h2 e.symm) h1 h3, a, ?_⟩
  rcases d with d | ⟨k, d, e⟩
  · rw [d]; exact h.ne
  · right
    rw [d]
    intro e2
    have := (World.ownsRow.lt h.d.own k e2.symm).2
    omega
/-- What came in lies apart from both. -/
theorem Pair.far1 (h : Pair W B1 g1 B2 g2 M s1 s2 v1 v2) {n : Nat} (hn : n ≤ B1) {ad : Addr} (ha : ad.block < n) : ad.block ≠ g1 ∧ some ad.block ≠ v1.ownBlock := by
  refine ⟨by have := h.d.base; omega, fun e => ?_⟩
  have := (World.ownsRow.lt h.d.own _ e.symm).1
  omega
theorem Pair.far2 (h : Pair W B1 g1 B2 g2 M s1 s2 v1 v2) {n : Nat} (hn : n ≤ B2) {ad : Addr} (ha : ad.block < n) : ad.block ≠ g2 ∧ some ad.block ≠ v2.ownBlock := by
  refine ⟨by have := h.r.base; omega, fun e => ?_⟩
  have := (World.ownsRow.lt h.r.own _ e.symm).1
  omega
end
def lenOf : Value → Nat
  | .slice _ n _ => n
  | _ => 0
theorem held_le {s : Dm.S} {M : Nat} : (s.out.take M).length ≤ M := by rw [List.length_take]; omega
set_option maxHeartbeats 8000000 in
set_option maxRecDepth 100000 in
theorem streams_walk (most : Int) (A1 : Option Addr) (c1 : Nat) (b : List UInt8) (A2 : Option Addr) (c2 : Nat) (cuts : List Int) (m : Int) (w : World) (hr : RdB w A1 b) (hc : b.length ≤ c1) (hr2 : RdI w A2 cuts) (hc2 : cuts.length ≤ c2) (hm : w.cell? ⟨0, 0, none⟩ = some (.int .i64 m)) :
    Calls Tryd.prog 6 #[.int .i64 most, .slice A1 b.length c1, .slice A2 cuts.length c2] w fun e w' => e = .returned (.bool true) ∧ Below w.heap.size w w' := by
  have HR := Lib.hid hr
  have HI := Lib.hid hr2
  have HM := Lib.hid hm
  clear hr hm hr2
  go_enter Tryd.func6, Tryd.ntmps6
  go_wp2_with fail
  refine (known_any w m HM.out).mono ?_
  rintro e w1 ⟨rfl, hb⟩
  have HB1 := Lib.hid hb
  clear hb
  by_cases k1 : (4096 : Int) < b.length
  · go_wp2
    go_ret
    exact ⟨rfl, HB1.out⟩
  by_cases k2 : (200 : Int) < cuts.length
  · go_wp2
    go_ret
    exact ⟨rfl, HB1.out⟩
  by_cases k3 : most < 0
  · go_wp2_with fail
    refine (new_out (w := w1) (m := most) (.inl k3)).mono ?_
    rintro e w2 ⟨rfl, rfl⟩
    go_wp2
    go_ret
    exact ⟨rfl, HB1.out⟩
  by_cases k4 : 65536 < most
  · go_wp2_with fail
    refine (new_out (w := w1) (m := most) (.inr k4)).mono ?_
    rintro e w2 ⟨rfl, rfl⟩
    go_wp2
    go_ret
    exact ⟨rfl, HB1.out⟩
  obtain ⟨M, rfl⟩ : ∃ M : Nat, most = M := ⟨most.toNat, by omega⟩
  have hM : M ≤ 65536 := by omega
  go_wp2_with fail
  refine (new_any (w := w1) (M := M) hM).mono ?_
  rintro e w2 ⟨rfl, hd, hb, hs⟩
  have HD := Lib.hid hd
  have HB2 := Lib.hid hb
  have HS := Lib.hid hs
  clear hd hb hs
  go_wp2_with fail
  have hP : Pair (w2.alloc (Obj.cells #[Value.int IntKind.i64 M, Value.slice none 0 0, Value.bool false] 42)) w1.heap.size w1.heap.size w2.heap.size w2.heap.size M Dm.S0 Dm.S0 (.slice none 0 0) (.slice none 0 0) :=
    ⟨HD.out.alloc _, ⟨Nat.le_refl _, Go.heap_alloc_new _ _, World.ownsRow_nil _ _ _ _⟩, .inl rfl⟩
  have hBB : Below w.heap.size w (w2.alloc (Obj.cells #[Value.int IntKind.i64 M, Value.slice none 0 0, Value.bool false] 42)) := bt (bt HB1.out HB2.out) (al _)
  have HP := Lib.hid hP
  have HBB := Lib.hid hBB
  have HN1 := Lib.hid HB1.out.size
  have HN2 := Lib.hid (bt HB1.out HB2.out).size
  clear hP hBB
  generalize w2.alloc (Obj.cells #[Value.int IntKind.i64 M, Value.slice none 0 0, Value.bool false] 42) = w3 at HP HBB ⊢
  go_loopw [10, 11] (fun rest i wr => ∃ (k : Nat) (R : List UInt8) (A : Option Addr) (c : Nat) (s : Dm.S) (v1 v2 : Value), i = .int .i64 k ∧ rest = .slice A R.length c ∧ k ≤ 10000 ∧ (cuts.length ≤ k → R = [] ∨ k = cuts.length) ∧ R.length ≤ c ∧ R.length ≤ 4096 ∧ Hid (RdB w A R) ∧ Hid (Dm.Good s) ∧ Hid (s.rr.length + R.length ≤ 5000) ∧ Hid (Pair wr w1.heap.size w1.heap.size w2.heap.size w2.heap.size M s s v1 v2) ∧ Hid (Below w.heap.size w wr)) (fun rest i _ => lenOf rest + (cuts.length - (intOf i).toNat))
  case atStart => exact ⟨0, b, A1, c1, Dm.S0, _, _, rfl, rfl, by omega, by intro h; right; omega, hc, by omega, HR, Lib.hid .init, Lib.hid (by simp [Dm.S0]; omega), HP, HBB⟩
  case round =>
    obtain ⟨k, R, A, c, s, v1, v2, rfl, rfl, hk, hkc, hRc, hRl, HRR, HG, HL, HP2, HB⟩ := hrel
    clear HP HBB
    by_cases h0 : 0 < R.length
    · have i0 : (0 : Int) < R.length := by omega
      have hne : ¬ R = [] := by intro e; rw [e] at h0; simp at h0
      by_cases hic : k < cuts.length
      · have i1 : (k : Int) < cuts.length := by omega
        obtain ⟨b2, o2, rfl, hcell, hb2⟩ := RdI.cell HI.out k hic
        obtain ⟨x, hx⟩ : ∃ x, cuts[k] = x := ⟨_, rfl⟩
        rw [hx] at hcell
        have g1 : wr.cell? ⟨b2, o2 + k, none⟩ = some (.int .i64 x) := keepC HB.out hcell
        obtain ⟨n, hn, hcut⟩ := cut_of x (R.length + 1) (by omega)
        have hcases : (x.tmod ((R.length : Int) + 1) = (n : Int) ∧ True) ∨ (x.tmod ((R.length : Int) + 1) = -(n : Int) ∧ 0 < n) := by
          have e : ((R.length + 1 : Nat) : Int) = (R.length : Int) + 1 := by omega
          rw [e] at hcut
          rcases hcut with h | ⟨h, h0⟩
          · exact .inl ⟨h, trivial⟩
          · exact .inr ⟨h, by omega⟩
        have hnR : n ≤ R.length := by omega
        have wk : IntKind.i64.wrap ((R.length : Int) + 1) = (R.length : Int) + 1 := by rw [IntKind.wrap_i64]; omega
        clear hcut hx hcell
        rcases hcases with ⟨htm, -⟩ | ⟨htm, hn0⟩
        · have hz : ¬ (n : Int) < 0 := by omega
          go_wp2_with fail
          clear htm hz
          obtain ⟨ht1, ht2, ht3⟩ := take_of A c R n (by omega) (by omega) hRc
          rw [Int.toNat_natCast] at ht1 ht2 ht3
          obtain ⟨A6, hd1, hd2, hd3⟩ := drop_of A c R n (by omega) (by omega) hRc
          rw [Int.toNat_natCast] at hd1 hd2 hd3
          have HT2 := Lib.hid (ht2 w HRR.out)
          have HD2 := Lib.hid (hd2 w HRR.out)
          have htl : (R.take n).length = n := by rw [List.length_take]; omega
          have hdl : (R.drop n).length = R.length - n := List.length_drop
          clear ht2 hd2
          obtain ⟨T, hT⟩ : ∃ T, R.take n = T := ⟨_, rfl⟩
          rw [hT] at HT2 ht1 ht3 htl
          have hN1 := next_any (l := T) (c := c) HP2.out.d HG.out (by omega) (by have := HL.out; omega) (HT2.out.below HB.out) ht3 (fun ad e h0 => HP2.out.far1 HN1.out (RdB.lt HT2.out h0 ad e))
          obtain ⟨F, hF⟩ : ∃ F, Dm.go s T = F := ⟨_, rfl⟩
          have hrr := go_rr T s
          have hG2 := Dm.go_good T s HG.out
          have hR1 := fun (W : World) (va vb : Value) (hp : Pair W w1.heap.size w1.heap.size w2.heap.size w2.heap.size M F.1 s va vb) (hb : Below w.heap.size w W) => rnext_any (l := T) (c := c) hp.r HG.out (by have := HL.out; omega) (HT2.out.below hb) ht3 (fun ad e h0 => hp.far2 HN2.out (RdB.lt HT2.out h0 ad e))
          rw [hF] at hN1 hrr hG2
          rw [hF] at hR1
          rw [htl] at ht1 hN1 hR1 hrr
          obtain ⟨D, hD⟩ : ∃ D, decide (F.1.st = 5) = D := ⟨_, rfl⟩
          rw [hD] at hN1
          rw [hD] at hR1
          have HR1 := Lib.hid hR1
          have HRR2 := Lib.hid hrr
          have HG2 := Lib.hid hG2
          clear hR1 hrr hG2 hF hD hT ht3 htl
          go_wp2_with fail
          refine hN1.mono ?_
          rintro e w4 ⟨r4, rfl, ho, hd⟩
          obtain ⟨A4, c4, rfl, hr4, hc4⟩ := ho.reads
          obtain ⟨vA, hPA⟩ := HP2.out.dec hd
          have hB4 : Below w.heap.size w w4 := by
            obtain ⟨_, _, _, hbb, _⟩ := hd
            exact HB.out.trans (hbb.mono HN1.out)
          have HB4 := Lib.hid hB4
          have HR4 := Lib.hid hr4
          have HOW := Lib.hid ho
          have HPA := Lib.hid hPA
          clear hN1 ho hr4 hd hB4 hPA
          go_wp2_with fail
          refine (HR1.out w4 vA v2 HPA.out HB4.out).mono ?_
          rintro e w5 ⟨A5, c5, rfl, hc5, hr5, hd⟩
          obtain ⟨vB, hPB⟩ := HPA.out.ref hd
          have hB5 : Below w.heap.size w w5 := by
            obtain ⟨_, _, _, hbb, _⟩ := hd
            exact HB4.out.trans (hbb.mono HN2.out)
          have hr4' : RdB w5 A4 F.2 := by
            obtain ⟨_, hra, hkb, _, _⟩ := hd
            refine RdB.kept HR4.out hkb (fun ad e h0 => ⟨ref_ne HPA.out.r HR4.out h0 ad e, fun e2 => ?_⟩)
            have h1 := (World.ownsRow.lt HPA.out.r.own _ e2.symm).2
            have h2 := (World.ownsRow.lt HOW.out ad.block (by rw [e]; rfl)).1
            have h3 := (World.ownsRow.lt HP2.out.r.own _ e2.symm).2
            omega
          have t1 := hr4'.text c4
          have t2 := hr5.text c5
          obtain ⟨y, hy⟩ : ∃ y, tb F.2 = y := ⟨_, rfl⟩
          rw [hy] at t1 t2
          have HB5 := Lib.hid hB5
          have HPB := Lib.hid hPB
          have hsz := size_any hPB.d
          have hrsz := rsize_any hPB.r HG2.out (by have := HL.out; have := HRR2.out; omega) (by omega)
          have hrlg := fun (W : World) (hb : Below w5.heap.size w5 W) => rlong_any (HPB.out.below hb).r HG2.out (by have := HL.out; have := HRR2.out; omega)
          have hhe := fun (W : World) (hb : Below w5.heap.size w5 W) => held_any (HPB.out.below hb).d
          have hlg := fun (W : World) (hb : Below w5.heap.size w5 W) => long_any (HPB.out.below hb).d
          generalize ((min F.1.out.length (M + 1) : Nat) : Int) = z at hsz hrsz
          generalize decide (M < F.1.out.length) = q at hlg hrlg
          have hhl := held_le (s := F.1) (M := M)
          generalize (F.1.out.take M).length = hh at hhe hhl
          have hh1 : ¬ (M : Int) + 8 < hh := by omega
          have hh2 : ¬ (hh : Int) < 0 := by omega
          have wM : IntKind.i64.wrap ((M : Int) + 8) = (M : Int) + 8 := by rw [IntKind.wrap_i64]; omega
          have HRSZ := Lib.hid hrsz
          have HLG := Lib.hid hlg
          have HRLG := Lib.hid hrlg
          have HHE := Lib.hid hhe
          have HSZ := Lib.hid hsz
          clear hd hB5 hPB hy hr5 hr4' HR4 HOW hrsz hlg hrlg hhe hsz
          go_wp2_with fail
          refine HSZ.out.mono ?_
          rintro e w6 ⟨rfl, rfl⟩
          go_wp2_with fail
          refine HRSZ.out.mono ?_
          rintro e w7 ⟨rfl, hb7⟩
          go_wp2_with fail
          refine (HLG.out w7 hb7).mono ?_
          rintro e w8 ⟨rfl, hb8⟩
          have hb8 := bt hb7 hb8
          go_wp2_with fail
          refine (HRLG.out w8 hb8).mono ?_
          rintro e w9 ⟨rfl, hb9⟩
          have hb9 := bt hb8 hb9
          go_wp2_with fail
          refine (HHE.out w9 hb9).mono ?_
          rintro e w10 ⟨rfl, rfl⟩
          go_wp2_with fail
          refine (HHE.out w10 hb9).mono ?_
          rintro e w11 ⟨rfl, rfl⟩
          have HB9 := Lib.hid (bt HB5.out hb9)
          have HPC := Lib.hid (HPB.out.below hb9)
          clear hb7 hb8 hb9 t1 t2 HRSZ HSZ HLG HRLG HHE
          go_wp2_with fail
          go_roundw
          · exact ⟨k + 1, R.drop n, A6, c - n, F.1, vA, vB, by go_num, by rw [hdl], by omega, by intro h; right; omega, hd3, by omega, HD2, HG2, Lib.hid (by have := HL.out; have := HRR2.out; omega), HPC, HB9⟩
          · simp [intOf, lenOf]; omega
        · have hn1 : (-(n : Int)) < 0 := by omega
          have wn : IntKind.i64.wrap (n : Int) = (n : Int) := by rw [IntKind.wrap_i64]; omega
          go_wp2_with fail
          clear htm hn1 wn
          obtain ⟨ht1, ht2, ht3⟩ := take_of A c R n (by omega) (by omega) hRc
          rw [Int.toNat_natCast] at ht1 ht2 ht3
          obtain ⟨A6, hd1, hd2, hd3⟩ := drop_of A c R n (by omega) (by omega) hRc
          rw [Int.toNat_natCast] at hd1 hd2 hd3
          have HT2 := Lib.hid (ht2 w HRR.out)
          have HD2 := Lib.hid (hd2 w HRR.out)
          have htl : (R.take n).length = n := by rw [List.length_take]; omega
          have hdl : (R.drop n).length = R.length - n := List.length_drop
          clear ht2 hd2
          obtain ⟨T, hT⟩ : ∃ T, R.take n = T := ⟨_, rfl⟩
          rw [hT] at HT2 ht1 ht3 htl
          have hN1 := next_any (l := T) (c := c) HP2.out.d HG.out (by omega) (by have := HL.out; omega) (HT2.out.below HB.out) ht3 (fun ad e h0 => HP2.out.far1 HN1.out (RdB.lt HT2.out h0 ad e))
          obtain ⟨F, hF⟩ : ∃ F, Dm.go s T = F := ⟨_, rfl⟩
          have hrr := go_rr T s
          have hG2 := Dm.go_good T s HG.out
          have hR1 := fun (W : World) (va vb : Value) (hp : Pair W w1.heap.size w1.heap.size w2.heap.size w2.heap.size M F.1 s va vb) (hb : Below w.heap.size w W) => rnext_any (l := T) (c := c) hp.r HG.out (by have := HL.out; omega) (HT2.out.below hb) ht3 (fun ad e h0 => hp.far2 HN2.out (RdB.lt HT2.out h0 ad e))
          rw [hF] at hN1 hrr hG2
          rw [hF] at hR1
          rw [htl] at ht1 hN1 hR1 hrr
          obtain ⟨D, hD⟩ : ∃ D, decide (F.1.st = 5) = D := ⟨_, rfl⟩
          rw [hD] at hN1
          rw [hD] at hR1
          have HR1 := Lib.hid hR1
          have HRR2 := Lib.hid hrr
          have HG2 := Lib.hid hG2
          clear hR1 hrr hG2 hF hD hT ht3 htl
          go_wp2_with fail
          refine hN1.mono ?_
          rintro e w4 ⟨r4, rfl, ho, hd⟩
          obtain ⟨A4, c4, rfl, hr4, hc4⟩ := ho.reads
          obtain ⟨vA, hPA⟩ := HP2.out.dec hd
          have hB4 : Below w.heap.size w w4 := by
            obtain ⟨_, _, _, hbb, _⟩ := hd
            exact HB.out.trans (hbb.mono HN1.out)
          have HB4 := Lib.hid hB4
          have HR4 := Lib.hid hr4
          have HOW := Lib.hid ho
          have HPA := Lib.hid hPA
          clear hN1 ho hr4 hd hB4 hPA
          go_wp2_with fail
          refine (HR1.out w4 vA v2 HPA.out HB4.out).mono ?_
          rintro e w5 ⟨A5, c5, rfl, hc5, hr5, hd⟩
          obtain ⟨vB, hPB⟩ := HPA.out.ref hd
          have hB5 : Below w.heap.size w w5 := by
            obtain ⟨_, _, _, hbb, _⟩ := hd
            exact HB4.out.trans (hbb.mono HN2.out)
          have hr4' : RdB w5 A4 F.2 := by
            obtain ⟨_, hra, hkb, _, _⟩ := hd
            refine RdB.kept HR4.out hkb (fun ad e h0 => ⟨ref_ne HPA.out.r HR4.out h0 ad e, fun e2 => ?_⟩)
            have h1 := (World.ownsRow.lt HPA.out.r.own _ e2.symm).2
            have h2 := (World.ownsRow.lt HOW.out ad.block (by rw [e]; rfl)).1
            have h3 := (World.ownsRow.lt HP2.out.r.own _ e2.symm).2
            omega
          have t1 := hr4'.text c4
          have t2 := hr5.text c5
          obtain ⟨y, hy⟩ : ∃ y, tb F.2 = y := ⟨_, rfl⟩
          rw [hy] at t1 t2
          have HB5 := Lib.hid hB5
          have HPB := Lib.hid hPB
          have hsz := size_any hPB.d
          have hrsz := rsize_any hPB.r HG2.out (by have := HL.out; have := HRR2.out; omega) (by omega)
          have hrlg := fun (W : World) (hb : Below w5.heap.size w5 W) => rlong_any (HPB.out.below hb).r HG2.out (by have := HL.out; have := HRR2.out; omega)
          have hhe := fun (W : World) (hb : Below w5.heap.size w5 W) => held_any (HPB.out.below hb).d
          have hlg := fun (W : World) (hb : Below w5.heap.size w5 W) => long_any (HPB.out.below hb).d
          generalize ((min F.1.out.length (M + 1) : Nat) : Int) = z at hsz hrsz
          generalize decide (M < F.1.out.length) = q at hlg hrlg
          have hhl := held_le (s := F.1) (M := M)
          generalize (F.1.out.take M).length = hh at hhe hhl
          have hh1 : ¬ (M : Int) + 8 < hh := by omega
          have hh2 : ¬ (hh : Int) < 0 := by omega
          have wM : IntKind.i64.wrap ((M : Int) + 8) = (M : Int) + 8 := by rw [IntKind.wrap_i64]; omega
          have HRSZ := Lib.hid hrsz
          have HLG := Lib.hid hlg
          have HRLG := Lib.hid hrlg
          have HHE := Lib.hid hhe
          have HSZ := Lib.hid hsz
          clear hd hB5 hPB hy hr5 hr4' HR4 HOW hrsz hlg hrlg hhe hsz
          go_wp2_with fail
          refine HSZ.out.mono ?_
          rintro e w6 ⟨rfl, rfl⟩
          go_wp2_with fail
          refine HRSZ.out.mono ?_
          rintro e w7 ⟨rfl, hb7⟩
          go_wp2_with fail
          refine (HLG.out w7 hb7).mono ?_
          rintro e w8 ⟨rfl, hb8⟩
          have hb8 := bt hb7 hb8
          go_wp2_with fail
          refine (HRLG.out w8 hb8).mono ?_
          rintro e w9 ⟨rfl, hb9⟩
          have hb9 := bt hb8 hb9
          go_wp2_with fail
          refine (HHE.out w9 hb9).mono ?_
          rintro e w10 ⟨rfl, rfl⟩
          go_wp2_with fail
          refine (HHE.out w10 hb9).mono ?_
          rintro e w11 ⟨rfl, rfl⟩
          have HB9 := Lib.hid (bt HB5.out hb9)
          have HPC := Lib.hid (HPB.out.below hb9)
          clear hb7 hb8 hb9 t1 t2 HRSZ HSZ HLG HRLG HHE
          go_wp2_with fail
          go_roundw
          · exact ⟨k + 1, R.drop n, A6, c - n, F.1, vA, vB, by go_num, by rw [hdl], by omega, by intro h; right; omega, hd3, by omega, HD2, HG2, Lib.hid (by have := HL.out; have := HRR2.out; omega), HPC, HB9⟩
          · simp [intOf, lenOf]; omega
      · have i1 : ¬ (k : Int) < cuts.length := by omega
        obtain rfl : k = cuts.length := by
          rcases hkc (by omega) with h | h
          · exact absurd h hne
          · exact h
        have hnR : R.length ≤ R.length := by omega
        go_wp2_with fail
        obtain ⟨ht1, ht2, ht3⟩ := take_of A c R (R.length) (by omega) (by omega) hRc
        rw [Int.toNat_natCast] at ht1 ht2 ht3
        obtain ⟨A6, hd1, hd2, hd3⟩ := drop_of A c R (R.length) (by omega) (by omega) hRc
        rw [Int.toNat_natCast] at hd1 hd2 hd3
        have HT2 := Lib.hid (ht2 w HRR.out)
        have HD2 := Lib.hid (hd2 w HRR.out)
        have htl : (R.take (R.length)).length = (R.length) := by rw [List.length_take]; omega
        have hdl : (R.drop (R.length)).length = R.length - (R.length) := List.length_drop
        clear ht2 hd2
        obtain ⟨T, hT⟩ : ∃ T, R.take (R.length) = T := ⟨_, rfl⟩
        rw [hT] at HT2 ht1 ht3 htl
        have hN1 := next_any (l := T) (c := c) HP2.out.d HG.out (by omega) (by have := HL.out; omega) (HT2.out.below HB.out) ht3 (fun ad e h0 => HP2.out.far1 HN1.out (RdB.lt HT2.out h0 ad e))
        obtain ⟨F, hF⟩ : ∃ F, Dm.go s T = F := ⟨_, rfl⟩
        have hrr := go_rr T s
        have hG2 := Dm.go_good T s HG.out
        have hR1 := fun (W : World) (va vb : Value) (hp : Pair W w1.heap.size w1.heap.size w2.heap.size w2.heap.size M F.1 s va vb) (hb : Below w.heap.size w W) => rnext_any (l := T) (c := c) hp.r HG.out (by have := HL.out; omega) (HT2.out.below hb) ht3 (fun ad e h0 => hp.far2 HN2.out (RdB.lt HT2.out h0 ad e))
        rw [hF] at hN1 hrr hG2
        rw [hF] at hR1
        rw [htl] at ht1 hN1 hR1 hrr
        obtain ⟨D, hD⟩ : ∃ D, decide (F.1.st = 5) = D := ⟨_, rfl⟩
        rw [hD] at hN1
        rw [hD] at hR1
        have HR1 := Lib.hid hR1
        have HRR2 := Lib.hid hrr
        have HG2 := Lib.hid hG2
        clear hR1 hrr hG2 hF hD hT ht3 htl
        go_wp2_with fail
        refine hN1.mono ?_
        rintro e w4 ⟨r4, rfl, ho, hd⟩
        obtain ⟨A4, c4, rfl, hr4, hc4⟩ := ho.reads
        obtain ⟨vA, hPA⟩ := HP2.out.dec hd
        have hB4 : Below w.heap.size w w4 := by
          obtain ⟨_, _, _, hbb, _⟩ := hd
          exact HB.out.trans (hbb.mono HN1.out)
        have HB4 := Lib.hid hB4
        have HR4 := Lib.hid hr4
        have HOW := Lib.hid ho
        have HPA := Lib.hid hPA
        clear hN1 ho hr4 hd hB4 hPA
        go_wp2_with fail
        refine (HR1.out w4 vA v2 HPA.out HB4.out).mono ?_
        rintro e w5 ⟨A5, c5, rfl, hc5, hr5, hd⟩
        obtain ⟨vB, hPB⟩ := HPA.out.ref hd
        have hB5 : Below w.heap.size w w5 := by
          obtain ⟨_, _, _, hbb, _⟩ := hd
          exact HB4.out.trans (hbb.mono HN2.out)
        have hr4' : RdB w5 A4 F.2 := by
          obtain ⟨_, hra, hkb, _, _⟩ := hd
          refine RdB.kept HR4.out hkb (fun ad e h0 => ⟨ref_ne HPA.out.r HR4.out h0 ad e, fun e2 => ?_⟩)
          have h1 := (World.ownsRow.lt HPA.out.r.own _ e2.symm).2
          have h2 := (World.ownsRow.lt HOW.out ad.block (by rw [e]; rfl)).1
          have h3 := (World.ownsRow.lt HP2.out.r.own _ e2.symm).2
          omega
        have t1 := hr4'.text c4
        have t2 := hr5.text c5
        obtain ⟨y, hy⟩ : ∃ y, tb F.2 = y := ⟨_, rfl⟩
        rw [hy] at t1 t2
        have HB5 := Lib.hid hB5
        have HPB := Lib.hid hPB
        have hsz := size_any hPB.d
        have hrsz := rsize_any hPB.r HG2.out (by have := HL.out; have := HRR2.out; omega) (by omega)
        have hrlg := fun (W : World) (hb : Below w5.heap.size w5 W) => rlong_any (HPB.out.below hb).r HG2.out (by have := HL.out; have := HRR2.out; omega)
        have hhe := fun (W : World) (hb : Below w5.heap.size w5 W) => held_any (HPB.out.below hb).d
        have hlg := fun (W : World) (hb : Below w5.heap.size w5 W) => long_any (HPB.out.below hb).d
        generalize ((min F.1.out.length (M + 1) : Nat) : Int) = z at hsz hrsz
        generalize decide (M < F.1.out.length) = q at hlg hrlg
        have hhl := held_le (s := F.1) (M := M)
        generalize (F.1.out.take M).length = hh at hhe hhl
        have hh1 : ¬ (M : Int) + 8 < hh := by omega
        have hh2 : ¬ (hh : Int) < 0 := by omega
        have wM : IntKind.i64.wrap ((M : Int) + 8) = (M : Int) + 8 := by rw [IntKind.wrap_i64]; omega
        have HRSZ := Lib.hid hrsz
        have HLG := Lib.hid hlg
        have HRLG := Lib.hid hrlg
        have HHE := Lib.hid hhe
        have HSZ := Lib.hid hsz
        clear hd hB5 hPB hy hr5 hr4' HR4 HOW hrsz hlg hrlg hhe hsz
        go_wp2_with fail
        refine HSZ.out.mono ?_
        rintro e w6 ⟨rfl, rfl⟩
        go_wp2_with fail
        refine HRSZ.out.mono ?_
        rintro e w7 ⟨rfl, hb7⟩
        go_wp2_with fail
        refine (HLG.out w7 hb7).mono ?_
        rintro e w8 ⟨rfl, hb8⟩
        have hb8 := bt hb7 hb8
        go_wp2_with fail
        refine (HRLG.out w8 hb8).mono ?_
        rintro e w9 ⟨rfl, hb9⟩
        have hb9 := bt hb8 hb9
        go_wp2_with fail
        refine (HHE.out w9 hb9).mono ?_
        rintro e w10 ⟨rfl, rfl⟩
        go_wp2_with fail
        refine (HHE.out w10 hb9).mono ?_
        rintro e w11 ⟨rfl, rfl⟩
        have HB9 := Lib.hid (bt HB5.out hb9)
        have HPC := Lib.hid (HPB.out.below hb9)
        clear hb7 hb8 hb9 t1 t2 HRSZ HSZ HLG HRLG HHE
        go_wp2_with fail
        go_roundw
        · exact ⟨cuts.length + 1, R.drop (R.length), A6, c - (R.length), F.1, vA, vB, by go_num, by rw [hdl, Nat.sub_self], by omega, by intro _; left; exact List.length_eq_zero_iff.1 (by omega), hd3, by omega, HD2, HG2, Lib.hid (by have := HL.out; have := HRR2.out; omega), HPC, HB9⟩
        · simp [intOf, lenOf]; omega
    · have i0 : ¬ (0 : Int) < R.length := by omega
      have hRe : R = [] := by cases R; rfl; simp at h0
      subst hRe
      have hT := text_any HP2.out.d HG.out (by omega)
      have hTr := fun (W : World) (hb : Below wr.heap.size wr W) => rtext_any (HP2.out.below hb).r HG.out (by omega) (by have := HL.out; omega)
      generalize (if s.st ≠ 5 then (15 : Int) else if M < s.out.length then 5 else if s.wd then 3 else 0) = code at hT hTr
      generalize (if s.st ≠ 5 then ([] : List UInt8) else if M < s.out.length then [] else if s.wd then [] else s.out) = L at hT hTr
      have HTr := Lib.hid hTr
      clear hTr
      go_wp2_with fail
      refine hT.mono ?_
      rintro e w4 ⟨r4, rfl, ho, hb⟩
      obtain ⟨A4, c4, rfl, hr4, hc4⟩ := ho.reads
      have HR4 := Lib.hid hr4
      have HB4 := Lib.hid (bt HB.out hb)
      have HTr2 := Lib.hid (HTr.out w4 hb)
      clear hT HTr ho hr4 hb
      go_wp2_with fail
      refine HTr2.out.mono ?_
      rintro e w5 ⟨A5, c5, rfl, hc5, hr5, hb⟩
      have t1 := (HR4.out.below hb).text c4
      have t2 := hr5.text c5
      have HB5 := Lib.hid (bt HB4.out hb)
      obtain ⟨y, hy⟩ : ∃ y, tb L = y := ⟨_, rfl⟩
      rw [hy] at t1 t2
      clear hy hr5 hb HTr2
      go_wp2
      go_ret
      exact ⟨rfl, HB5.out⟩
end Go.Proofs.YthgghgecpjnoiaaDoor.Dy
