/- The reference's decoder walked: Put, Next. -/
import Derived.Test.YthgghgecpjnoiaaDoorMb
namespace Go.Proofs.YthgghgecpjnoiaaDoor.Dr
open Go.RowKit Go.Proofs.YthgghgecpjnoiaaDoorW.PrintWords Go.Proofs.YthgghgecpjnoiaaDoorW.PrintLast Go.Proofs.YthgghgecpjnoiaaDoorW.PrintMore Go.Proofs.YthgghgecpjnoiaaDoor.Pc Go.Proofs.YthgghgecpjnoiaaDoor.Pd Go.Proofs.YthgghgecpjnoiaaDoor.Pk Go.Proofs.YthgghgecpjnoiaaDoor.Da Go.Proofs.YthgghgecpjnoiaaDoor.Db Go.Proofs.YthgghgecpjnoiaaDoor.Dc Go.Proofs.YthgghgecpjnoiaaDoor.Dd Go.Proofs.YthgghgecpjnoiaaDoor.De Go.Proofs.YthgghgecpjnoiaaDoor.Df Go.Proofs.YthgghgecpjnoiaaDoor.Dn Go.Proofs.YthgghgecpjnoiaaDoor.Do Go.Proofs.YthgghgecpjnoiaaDoor.Dq
def cellsR (M : Nat) (v : Value) (d : Bool) : Array Value := #[.int .i64 M, v, .bool d]
/-- The reference's decoder lies at block g. -/
structure RefAt (w : World) (B g : Nat) (M : Nat) (s : Dm.S) (v : Value) : Prop where
  base : B ≤ g
  blk : w.heap[g]? = some (.cells (cellsR M v (decide (s.st = 5))) 42 (0, 0))
  own : OwnB w B v s.rr.reverse
section
variable {w w1 : World} {B g M : Nat} {s : Dm.S} {v : Value}
theorem RefAt.c0 (h : RefAt w B g M s v) : w.cell? ⟨g, 0, none⟩ = some (.int .i64 M) := by rw [blk_cell h.blk]; rfl
theorem RefAt.c1 (h : RefAt w B g M s v) : w.cell? ⟨g, 1, none⟩ = some v := by rw [blk_cell h.blk]; rfl
theorem RefAt.c2 (h : RefAt w B g M s v) : w.cell? ⟨g, 2, none⟩ = some (.bool (decide (s.st = 5))) := by rw [blk_cell h.blk]; rfl
theorem RefAt.fr (h : RefAt w B g M s v) (i : Nat) : w.frozen? ⟨g, i, none⟩ = false := blk_frozen h.blk i
theorem RefAt.lt (h : RefAt w B g M s v) : g < w.heap.size := blk_lt h.blk
theorem RefAt.ne (h : RefAt w B g M s v) : v.ownBlock ≠ some g := Lib.ownBlock_ne h.own h.blk (by decide)
theorem RefAt.bsz (h : RefAt w B g M s v) : B ≤ w.heap.size := by have := h.base; have := h.lt; omega
theorem RefAt.keep (h : RefAt w B g M s v) {g' : Nat} {row : Option Nat} (hk : KeepBut w w1 g' row) (h1 : g ≠ g') (h2 : some g ≠ row) (h3 : v.ownBlock ≠ some g') (h4 : v.ownBlock = none ∨ v.ownBlock ≠ row) : RefAt w1 B g M s v :=
  ⟨h.base, hk.blk h.blk h1 h2, hk.own h.own h3 h4⟩
theorem RefAt.below (h : RefAt w B g M s v) (hb : Below w.heap.size w w1) : RefAt w1 B g M s v :=
  ⟨h.base, blk_below h.blk hb, by
    refine (World.ownsRow.kept (row := none) h.own ⟨hb.os, hb.tape, hb.output, hb.size, fun k hk _ => hb.block k hk⟩ ?_)
    cases hv : v.ownBlock <;> simp⟩
end
/-- What a call on the reference's decoder leaves. -/
def Ref (w0 w : World) (B g M : Nat) (s : Dm.S) (row : Option Nat) : Prop := ∃ v, RefAt w B g M s v ∧ KeepBut w0 w g row ∧ Below B w0 w ∧ (v.ownBlock = row ∨ ∃ k, v.ownBlock = some k ∧ w0.heap.size ≤ k)
theorem Ref.refl {w : World} {B g M : Nat} {s : Dm.S} {v : Value} (h : RefAt w B g M s v) : Ref w w B g M s v.ownBlock := ⟨v, h, KeepBut.refl _ _ _, Below.refl _ _, .inl rfl⟩
theorem Ref.trans {w0 w1 w2 : World} {B g M : Nat} {s' : Dm.S} {row : Option Nat} {v : Value} (h1 : KeepBut w0 w1 g row) (h2 : Below B w0 w1) (h3 : v.ownBlock = row ∨ ∃ k, v.ownBlock = some k ∧ w0.heap.size ≤ k) (k : Ref w1 w2 B g M s' v.ownBlock) : Ref w0 w2 B g M s' row := by
  obtain ⟨v', a, b, c, d⟩ := k
  refine ⟨v', a, h1.trans b h3, h2.trans c, ?_⟩
  rcases d with d | ⟨k, d, e⟩
  · rw [d]; exact h3
  · exact .inr ⟨k, d, by have := h1.1; omega⟩
theorem Ref.tail {w0 w w1 : World} {B g M : Nat} {s : Dm.S} {row : Option Nat} (h : Ref w0 w B g M s row) (hb : Below w.heap.size w w1) : Ref w0 w1 B g M s row := by
  obtain ⟨v, a, b, c, d⟩ := h
  refine ⟨v, a.below hb, ⟨Nat.le_trans b.1 hb.size, fun i hi h1 h2 => (hb.block i (by have := b.1; omega)).trans (b.2 i hi h1 h2)⟩, c.trans (hb.mono a.bsz), d⟩
theorem ref_end {w w2 : World} {B g M : Nat} {s s' : Dm.S} {v v2 : Value} {o : Obj} {d : Bool} (h : RefAt w B g M s v) (O2 : OwnB w2 B v2 s'.rr.reverse) (B2 : Below B (w.alloc o) w2) (G2 : (w.alloc o).grownBy w2 v.ownBlock) (N2 : v2.ownBlock = v.ownBlock ∨ ∃ b, v2.ownBlock = some b ∧ (w.alloc o).heap.size ≤ b)
    (K2 : w2.heap[g]? = some (Obj.cells (cellsR M v (decide (s.st = 5))) 42 (0, 0))) (hd : decide (s'.st = 5) = d) : Ref w ((w2.setCell ⟨g, 1, none⟩ v2).setCell ⟨g, 2, none⟩ (.bool d)) B g M s' v.ownBlock := by
  have hn : ∀ {W : World} {cs : Array Value}, W.heap[g]? = some (.cells cs 42 (0, 0)) → OwnB W B v2 s'.rr.reverse → some g ≠ v2.ownBlock := fun h1 h2 e => Lib.ownBlock_ne h2 h1 (by decide) e.symm
  have k1 := blk_set K2 1 v2
  have p1 : OwnB _ B v2 s'.rr.reverse := own_setCell O2 (p := ⟨g, 1, none⟩) (hn K2 O2) v2
  have k2 := blk_set k1 2 (.bool d)
  have p2 : OwnB _ B v2 s'.rr.reverse := own_setCell p1 (p := ⟨g, 2, none⟩) (hn k1 p1) (.bool d)
  refine ⟨v2, ⟨h.base, k2.trans ?_, p2⟩, (KeepBut.set_ (w1 := w2) ⟨Nat.le_trans (by simp) G2.size, fun i hi _ hr => (G2.block i (by rw [World.size_alloc]; exact Nat.lt_succ_of_lt hi) hr).trans (Below.heap_alloc _ _ _ hi)⟩ 1 _).set_ 2 _, (((((Below.refl B w).alloc h.bsz o).trans B2).setCell h.base _).setCell h.base _), N2.imp id (fun ⟨k, e, hk⟩ => ⟨k, e, Nat.le_trans (show w.heap.size ≤ (w.alloc o).heap.size from Nat.le_of_lt (by simp [World.size_alloc])) hk⟩)⟩
  unfold cellsR
  rw [hd]
  rfl
set_option maxHeartbeats 4000000 in
set_option maxRecDepth 100000 in
theorem rput_any {w : World} {B g M : Nat} {s : Dm.S} {v : Value} {x : UInt8} {q : Int} (hq : (x.toNat : Int) = q) (h : RefAt w B g M s v) (hG : Dm.Good s) (h5 : s.st ≠ 5) (ho : s.rr.length ≤ 900000) :
    Calls Tryd.prog 45 #[.pointer (some ⟨g, 0, none⟩), .int .u8 q] w fun e w' => e = .returned (.tuple #[]) ∧ Ref w w' B g M (Dm.step x s) v.ownBlock := by
  obtain ⟨s', hs'⟩ : ∃ s', Dm.step x s = s' := ⟨_, rfl⟩
  have hG' : Dm.Good s' := hs' ▸ .step x hG h5
  have hrr : s'.rr.reverse = s.rr.reverse ++ [x] := by rw [← hs']; simp [Dm.step]
  have hov := Dm.over_iff hG'
  rw [hs']
  have H := Lib.hid h
  have HQ := Lib.hid hq
  have HRR := Lib.hid hrr
  have HOV := Lib.hid hov
  have c1 := h.c1
  have hO : Hid (OwnB w B v s.rr.reverse) := h.own
  have hN : Hid (some g ≠ v.ownBlock) := Lib.hid (fun e => h.ne e.symm)
  have hB : Hid (B ≤ w.heap.size) := h.bsz
  have f1 := h.fr 1
  clear h hq hrr hov hG hG' hs'
  have hlen : (s.rr.reverse ++ [x]).length = s.rr.length + 1 := by simp
  obtain ⟨y, hy⟩ : ∃ y, tb (s.rr.reverse ++ [x]) = y := ⟨_, rfl⟩
  have HY := Lib.hid hy
  clear hy
  have hd5 : decide (s.st = 5) = false := decide_eq_false h5
  by_cases k1 : s.rr.reverse ++ [x] = [46, 13, 10]
  · have hy : y = ⟨#[46, 13, 10]⟩ := by rw [← HY.out, k1]; rfl
    have HD : Hid (decide (s'.st = 5) = true) := Lib.hid (decide_eq_true (HOV.out.2 (.inl (HRR.out.trans k1))))
    have K := Lib.hid k1
    clear k1
    subst hy
    go_enter Tryd.func45, Tryd.ntmps45
    go_wp2_with (at_builtin; refine wpList_rown rfl (.tmp 8) (.tmp 10) rfl B v s.rr.reverse rfl (hO.out.alloc _) (some ⟨w.heap.size, 0, none⟩) 1 [x] rfl (by have := RdB.lit w [x] (by simp); rw [← HQ.out]; exact this) (by simp only [List.length_reverse, List.length_cons, List.length_nil]; omega) (by have := hB.out; simp; omega) ?_; intro v2 w2 ho2 hb2 hg2 hn2; obtain ⟨A2, n2, rfl, hr2, hc2⟩ := ho2.reads; have K2 := Lib.hid (blk_grown (blk_alloc (w := w) H.out.blk (Obj.cells #[Value.int IntKind.u8 q] 5)) hg2 hN.out); obtain ⟨A3, n3, e3, hr3, hc3⟩ := OwnB.reads (own_setCell ho2 (p := ⟨g, 1, none⟩) (fun e => Lib.ownBlock_ne ho2 K2.out (by decide) e.symm) (.slice A2 (s.rr.reverse ++ [x]).length n2)); cases e3; have ht := hr3.text n2; have HR3 := Lib.hid hr3; rw [HY.out] at ht; rw [hlen] at ht hc3 HR3 ⊢; have O2 := Lib.hid ho2; have B2 := Lib.hid hb2; have G2 := Lib.hid hg2; have N2 := Lib.hid hn2; clear ho2 hb2 hg2 hn2 hr2 hr3 hc2 c1; have f1 := blk_frozen K2.out 1; have f2 := blk_frozen K2.out 2; have c1 : w2.cell? ⟨g, 1, none⟩ = some v := blk_cell K2.out 1; have c2 : w2.cell? ⟨g, 2, none⟩ = some (.bool (decide (s.st = 5))) := blk_cell K2.out 2)
    go_end0
    have O3 := O2.out
    have N3 := N2.out
    rw [hlen] at O3 N3
    exact ⟨rfl, ref_end H.out (by rw [HRR.out]; exact O3) B2.out G2.out N3 K2.out HD.out⟩
  · have hyn : ¬ y = ⟨#[46, 13, 10]⟩ := by
      intro e
      exact k1 (by have := congrArg tl (HY.out.trans e); rwa [tl_tb] at this)
    have hy2 : (y.toList == [46, 13, 10]) = false := by
      rw [beq_eq_false_iff_ne]
      intro e
      exact k1 (by rw [← HY.out, Lib.toList_data] at e; change tl (tb _) = _ at e; rwa [tl_tb] at e)
    have K := Lib.hid k1
    clear k1
    go_enter Tryd.func45, Tryd.ntmps45
    go_wp2_with (at_builtin; refine wpList_rown rfl (.tmp 8) (.tmp 10) rfl B v s.rr.reverse rfl (hO.out.alloc _) (some ⟨w.heap.size, 0, none⟩) 1 [x] rfl (by have := RdB.lit w [x] (by simp); rw [← HQ.out]; exact this) (by simp only [List.length_reverse, List.length_cons, List.length_nil]; omega) (by have := hB.out; simp; omega) ?_; intro v2 w2 ho2 hb2 hg2 hn2; obtain ⟨A2, n2, rfl, hr2, hc2⟩ := ho2.reads; have K2 := Lib.hid (blk_grown (blk_alloc (w := w) H.out.blk (Obj.cells #[Value.int IntKind.u8 q] 5)) hg2 hN.out); obtain ⟨A3, n3, e3, hr3, hc3⟩ := OwnB.reads (own_setCell ho2 (p := ⟨g, 1, none⟩) (fun e => Lib.ownBlock_ne ho2 K2.out (by decide) e.symm) (.slice A2 (s.rr.reverse ++ [x]).length n2)); cases e3; have ht := hr3.text n2; have HR3 := Lib.hid hr3; rw [HY.out] at ht; rw [hlen] at ht hc3 HR3 ⊢; have O2 := Lib.hid ho2; have B2 := Lib.hid hb2; have G2 := Lib.hid hg2; have N2 := Lib.hid hn2; clear ho2 hb2 hg2 hn2 hr2 hr3 hc2 c1; have f1 := blk_frozen K2.out 1; have f2 := blk_frozen K2.out 2; have c1 : w2.cell? ⟨g, 1, none⟩ = some v := blk_cell K2.out 1; have c2 : w2.cell? ⟨g, 2, none⟩ = some (.bool (decide (s.st = 5))) := blk_cell K2.out 2)
    have hE := ends_any A2 n2 (s.rr.reverse ++ [x]) ⟨#[13, 10, 46, 13, 10]⟩ _ HR3.out (by rw [hlen]; exact hc3)
    rw [hlen] at hE
    refine hE.mono ?_
    rintro e w3 ⟨rfl, rfl⟩
    have hz0 : decide (s'.st = 5) = (tl ⟨#[13, 10, 46, 13, 10]⟩).isSuffixOf (s.rr.reverse ++ [x]) := by
      have h1 := HOV.out
      rw [HRR.out] at h1
      rw [Bool.eq_iff_iff, decide_eq_true_iff, h1, List.isSuffixOf_iff_suffix]
      constructor
      · rintro (h | h)
        · exact absurd h K.out
        · exact h
      · exact .inr
    obtain ⟨z, hz⟩ : ∃ z, (tl ⟨#[13, 10, 46, 13, 10]⟩).isSuffixOf (s.rr.reverse ++ [x]) = z := ⟨_, rfl⟩
    rw [hz]
    have HD : Hid (decide (s'.st = 5) = z) := Lib.hid (hz0.trans hz)
    clear hz0 hz hE
    go_wp2
    go_end0
    have O3 := O2.out
    have N3 := N2.out
    rw [hlen] at O3 N3
    exact ⟨rfl, ref_end H.out (by rw [HRR.out]; exact O3) B2.out G2.out N3 K2.out HD.out⟩
set_option maxHeartbeats 4000000 in
set_option maxRecDepth 100000 in
theorem rnext_any {w : World} {B g M c : Nat} {s : Dm.S} {v : Value} {A : Option Addr} {l : List UInt8} (h : RefAt w B g M s v) (hG : Dm.Good s) (hb : s.rr.length + l.length ≤ 900000) (hr : RdB w A l) (hc : l.length ≤ c) (hA : ∀ ad, A = some ad → 0 < l.length → ad.block ≠ g ∧ some ad.block ≠ v.ownBlock) :
    Calls Tryd.prog 23 #[.pointer (some ⟨g, 0, none⟩), .slice A l.length c] w fun e w' => ∃ A' c', e = .returned (.tuple #[.bool (decide ((Dm.go s l).1.st = 5)), .slice A' (Dm.go s l).2.length c']) ∧ (Dm.go s l).2.length ≤ c' ∧ RdB w' A' (Dm.go s l).2 ∧ Ref w w' B g M (Dm.go s l).1 v.ownBlock := by
  have H := Lib.hid h
  have HR := Lib.hid hr
  have HA := Lib.hid hA
  have HG := Lib.hid hG
  obtain ⟨F, hF⟩ : ∃ F, Dm.go s l = F := ⟨_, rfl⟩
  rw [hF]
  have HF := Lib.hid hF
  obtain ⟨D, HD0⟩ : ∃ D, Hid (decide (F.1.st = 5) = D) := ⟨_, Lib.hid rfl⟩
  rw [HD0.out]
  obtain ⟨N, HN⟩ : ∃ N, Hid (F.2.length = N) := ⟨_, Lib.hid rfl⟩
  rw [HN.out]
  clear h hr hA hG hF
  go_enter Tryd.func23, Tryd.ntmps23
  go_wp2_with fail
  go_loopw [6] (fun i wr => ∃ (k : Nat) (sk : Dm.S), i = .int .i64 k ∧ k ≤ l.length ∧ Hid (Ref w wr B g M sk v.ownBlock) ∧ Hid (Dm.go sk (l.drop k) = F) ∧ Hid (Dm.Good sk) ∧ Hid (sk.rr.length = s.rr.length + k) ∧ Hid (sk.st = 5 → k = 0)) (fun i _ => l.length - (intOf i).toNat)
  case atStart => exact ⟨0, s, rfl, by omega, Lib.hid (Ref.refl H.out), Lib.hid HF.out, HG, Lib.hid rfl, Lib.hid (fun _ => rfl)⟩
  case round =>
    obtain ⟨k, sk, rfl, hk, HD, HK, HGk, HL, HZ⟩ := hrel
    obtain ⟨vk, a1, b1, b2, b3⟩ := HD.out
    have A1 := Lib.hid a1
    have K1 := Lib.hid b1
    have L1 := Lib.hid b2
    have N1 := Lib.hid b3
    have c2 := a1.c2
    have HR2 := Lib.hid (RdB.kept HR.out b1 HA.out)
    clear a1 b1 b2 b3
    by_cases k5 : sk.st = 5
    · obtain rfl : k = 0 := HZ.out k5
      replace c2 : wr.cell? ⟨g, 2, none⟩ = some (.bool true) := c2.trans (by rw [k5]; rfl)
      have HF2 : Hid (F = (sk, l)) := Lib.hid (by rw [← HK.out, Dm.go_over k5]; rfl)
      have HD5 : Hid (D = true) := Lib.hid (by rw [← HD0.out, HF2.out]; exact decide_eq_true k5)
      have HN5 : Hid (N = l.length) := Lib.hid (by rw [← HN.out, HF2.out])
      clear HK k5
      by_cases h0 : (0 : Int) < l.length
      · have hne : ¬ l = [] := by intro e; rw [e] at h0; simp at h0
        go_wp2
        go_ret2
        exact ⟨A, c, by rw [HD5.out, HN5.out]; rfl, by rw [HN5.out]; exact hc, by rw [HF2.out]; exact HR2.out, by rw [HF2.out]; exact HD.out⟩
      · go_wp2
        go_ret2
        exact ⟨A, c, by rw [HD5.out, HN5.out]; rfl, by rw [HN5.out]; exact hc, by rw [HF2.out]; exact HR2.out, by rw [HF2.out]; exact HD.out⟩
    · replace c2 : wr.cell? ⟨g, 2, none⟩ = some (.bool false) := c2.trans (by rw [decide_eq_false k5])
      by_cases hlt : k < l.length
      · have i1 : (k : Int) < l.length := by omega
        obtain ⟨b, o, rfl, g1⟩ := HR2.out.cell k hlt
        have hdr := List.drop_eq_getElem_cons hlt
        obtain ⟨x, hx⟩ : ∃ x, l[k] = x := ⟨_, rfl⟩
        rw [hx] at g1 hdr
        have HDR := Lib.hid hdr
        clear hdr hx
        obtain ⟨q, hq⟩ : ∃ q : Int, (x.toNat : Int) = q := ⟨_, rfl⟩
        rw [hq] at g1
        have HQ := Lib.hid hq
        clear hq
        have hol : sk.rr.length ≤ 900000 := by have := HL.out; omega
        go_wp2_with fail
        refine (rput_any (x := x) HQ.out A1.out HGk.out k5 hol).mono ?_
        rintro e w2 ⟨rfl, hd⟩
        have HD2 := Lib.hid (Ref.trans K1.out L1.out N1.out hd)
        obtain ⟨v2, a2, e2, e3, e4⟩ := HD2.out
        have c2 := a2.c2
        have HR3 := Lib.hid (RdB.kept HR.out e2 HA.out)
        clear hd a2 e2 e3 e4
        have HK2 : Hid (Dm.go (Dm.step x sk) (l.drop (k + 1)) = F) := Lib.hid (by
          rw [← HK.out, HDR.out]
          conv => rhs; rw [Dm.go, if_neg k5])
        have HL2 : Hid ((Dm.step x sk).rr.length = s.rr.length + (k + 1)) := Lib.hid (by
          show (x :: sk.rr).length = _
          rw [List.length_cons, HL.out]; omega)
        have HG2 := Lib.hid (Dm.Good.step x HGk.out k5)
        obtain ⟨s2, hs2⟩ : ∃ s2, Dm.step x sk = s2 := ⟨_, rfl⟩
        rw [hs2] at HD2 HK2 HL2 HG2 c2
        clear hs2 HDR
        by_cases k6 : s2.st = 5
        · replace c2 : w2.cell? ⟨g, 2, none⟩ = some (.bool true) := c2.trans (by rw [k6]; rfl)
          have HF2 : Hid (F = (s2, l.drop (k + 1))) := Lib.hid (by rw [← HK2.out, Dm.go_over k6])
          have HD5 : Hid (D = true) := Lib.hid (by rw [← HD0.out, HF2.out]; exact decide_eq_true k6)
          have HN5 : Hid (N = (l.drop (k + 1)).length) := Lib.hid (by rw [← HN.out, HF2.out])
          obtain ⟨A', hs1, hs2, hs3⟩ := drop_of (some ⟨b, o, none⟩) c l ((k : Int) + 1) (by omega) (by omega) hc
          have e1 : ((k : Int) + 1).toNat = k + 1 := by omega
          rw [e1] at hs1 hs2 hs3
          have HS2 := Lib.hid hs2
          have wk : IntKind.i64.wrap ((k : Int) + 1) = (k : Int) + 1 := by rw [IntKind.wrap_i64]; omega
          clear hs2 hs3
          go_wp2_with fail
          go_quiet (fail)
          go_wp2
          go_ret2
          exact ⟨A', c - (k + 1), by rw [HD5.out, HN5.out]; simp, by rw [HN5.out, List.length_drop]; omega, by rw [HF2.out]; exact (HS2.out w2 HR3.out).below (bdraw _ _), by rw [HF2.out]; exact Ref.tail HD2.out (bdraw _ _)⟩
        · replace c2 : w2.cell? ⟨g, 2, none⟩ = some (.bool false) := c2.trans (by rw [decide_eq_false k6])
          go_wp2_with fail
          go_roundw
          · exact ⟨k + 1, s2, by go_num, hlt, HD2, HK2, HG2, HL2, Lib.hid (fun h => absurd h k6)⟩
          · simp [intOf]; omega
      · have i1 : ¬ (k : Int) < l.length := by omega
        have e : l.drop k = [] := List.drop_of_length_le (by omega)
        have HF3 : Hid (F = (sk, [])) := Lib.hid (by rw [← HK.out, e]; rfl)
        have HD5 : Hid (D = false) := Lib.hid (by rw [← HD0.out, HF3.out]; exact decide_eq_false k5)
        have HN5 : Hid (N = 0) := Lib.hid (by rw [← HN.out, HF3.out]; rfl)
        clear HK e
        go_wp2
        go_ret2
        exact ⟨none, 0, by rw [HD5.out, HN5.out]; rfl, by rw [HN5.out]; omega, by rw [HF3.out]; exact RdB.nil _ _, by rw [HF3.out]; exact HD.out⟩
end Go.Proofs.YthgghgecpjnoiaaDoor.Dr
