/- The reference's decoder walked: plain. -/
import Derived.Test.YthgghgecpjnoiaaDoorDr
namespace Go.Proofs.YthgghgecpjnoiaaDoor.Ds
open Go.RowKit Go.Proofs.YthgghgecpjnoiaaDoorW.PrintWords Go.Proofs.YthgghgecpjnoiaaDoorW.PrintLast Go.Proofs.YthgghgecpjnoiaaDoorW.PrintMore Go.Proofs.YthgghgecpjnoiaaDoor.Pc Go.Proofs.YthgghgecpjnoiaaDoor.Pd Go.Proofs.YthgghgecpjnoiaaDoor.Pk Go.Proofs.YthgghgecpjnoiaaDoor.Da Go.Proofs.YthgghgecpjnoiaaDoor.Db Go.Proofs.YthgghgecpjnoiaaDoor.Dc Go.Proofs.YthgghgecpjnoiaaDoor.Dd Go.Proofs.YthgghgecpjnoiaaDoor.De Go.Proofs.YthgghgecpjnoiaaDoor.Df Go.Proofs.YthgghgecpjnoiaaDoor.Dn Go.Proofs.YthgghgecpjnoiaaDoor.Do Go.Proofs.YthgghgecpjnoiaaDoor.Dq Go.Proofs.YthgghgecpjnoiaaDoor.Dr
theorem ref_stop {fr pv : Bool} {O r : List UInt8} (hf : fr = true) (h : r = [] ∨ r = [13] ∨ r = [13, 10]) : Dm.refGo fr pv O (46 :: r) = O := by
  rw [Dm.refGo, if_pos ⟨hf, rfl⟩, if_pos h]
theorem ref_skip {fr pv : Bool} {O r : List UInt8} (hf : fr = true) (h : ¬ (r = [] ∨ r = [13] ∨ r = [13, 10])) : Dm.refGo fr pv O (46 :: r) = Dm.refGo false false O r := by
  rw [Dm.refGo, if_pos ⟨hf, rfl⟩, if_neg h]
theorem ref_put {fr pv : Bool} {O r : List UInt8} {c : UInt8} (h : ¬ (fr = true ∧ c = 46)) : Dm.refGo fr pv O (c :: r) = Dm.refGo (decide (c = 10) && pv && !fr) (decide (c = 13)) (O ++ [c]) r := by
  rw [Dm.refGo, if_neg h]
theorem out_app {O R : List UInt8} {k : Nat} (h : O.length ≤ k) (hk : k ≤ R.length) (hR : R.length ≤ 900000) : O.length ≤ 900000 := by omega
theorem tb_ne {l m : List UInt8} {y z : ByteArray} (hy : tb l = y) (hz : tb m = z) (h : ¬ l = m) : ¬ y = z ∧ (y.toList == m) = false := by
  have h1 : ¬ y = z := by
    intro e
    exact h (by have := congrArg tl (hy.trans (e.trans hz.symm)); rwa [tl_tb, tl_tb] at this)
  refine ⟨h1, ?_⟩
  rw [beq_eq_false_iff_ne]
  intro e
  rw [Lib.toList_data] at e
  have e : tl y = m := e
  exact h1 (tl_inj.1 (by rw [e, ← hz, tl_tb]))
set_option maxHeartbeats 8000000 in
set_option maxRecDepth 100000 in
theorem rplain_any {w : World} {B g M : Nat} {s : Dm.S} {v : Value} (h : RefAt w B g M s v) (hG : Dm.Good s) (hn : s.rr.length ≤ 900000) :
    Calls Tryd.prog 46 #[.pointer (some ⟨g, 0, none⟩)] w fun e w' => ∃ r, e = .returned r ∧ OwnB w' w.heap.size r s.out ∧ Below w.heap.size w w' := by
  have hro := Dm.ref_out hG
  obtain ⟨E, hE⟩ : ∃ E, s.out = E := ⟨_, rfl⟩
  rw [hE] at hro ⊢
  obtain ⟨A, cp, rfl, hr, hc⟩ := h.own.reads
  have hRl : s.rr.reverse.length ≤ 900000 := by rw [List.length_reverse]; exact hn
  have c1 := h.c1
  have glt := h.lt
  generalize s.rr.reverse = R at hro hr hc hRl c1
  have HR := Lib.hid hr
  have HRO := Lib.hid hro
  have HC1 : Hid (∀ W, Below w.heap.size w W → W.cell? ⟨g, 1, none⟩ = some (.slice A R.length cp)) := Lib.hid (fun W hb => keepC hb c1)
  clear h hr hro hE c1 hG
  go_enter Tryd.func46, Tryd.ntmps46
  go_wp2_with fail
  go_loopw [3, 4, 5] (fun out ln i wr => ∃ (k l : Nat) (O : List UInt8) (pv : Bool), i = .int .i64 k ∧ ln = .int .i64 l ∧ l ≤ k ∧ k ≤ R.length ∧ O.length ≤ k ∧ Hid (OwnB wr w.heap.size out O) ∧ Hid (Below w.heap.size w wr) ∧ Hid (Dm.refGo (decide (k = l)) pv O (R.drop k) = E) ∧ Hid (0 < k → (pv = true ↔ R[k - 1]? = some 13))) (fun _ _ i _ => R.length - (intOf i).toNat)
  case atStart => exact ⟨0, 0, [], false, rfl, rfl, by omega, by omega, by simp, Lib.hid (World.ownsRow_nil _ _ _ _), Lib.hid (Below.refl _ _), Lib.hid HRO.out, Lib.hid (fun h => absurd h (by omega))⟩
  case round =>
    obtain ⟨k, l, O, pv, rfl, rfl, hlk, hk, hO, HO, HB, HK, HP⟩ := hrel
    have c1 := HC1.out wr HB.out
    by_cases hlt : k < R.length
    · have i1 : (k : Int) < R.length := by omega
      obtain ⟨b, o, rfl, hcell⟩ := RdB.all HR.out (by omega)
      have HCE : Hid (∀ W, Below w.heap.size w W → ∀ j (hj : j < R.length), W.cell? ⟨b, o + j, none⟩ = some (.int .u8 (R[j].toNat : Int))) := Lib.hid (fun W hb j hj => keepC hb (hcell j hj))
      have hdr := List.drop_eq_getElem_cons hlt
      have hgk : R[k]? = some R[k] := List.getElem?_eq_getElem hlt
      obtain ⟨x, hx⟩ : ∃ x, R[k] = x := ⟨_, rfl⟩
      rw [hx] at hdr hgk
      obtain ⟨q, hq⟩ : ∃ q : Int, (x.toNat : Int) = q := ⟨_, rfl⟩
      have HG1 : Hid (∀ W, Below w.heap.size w W → W.cell? ⟨b, o + k, none⟩ = some (.int .u8 q)) := Lib.hid (fun W hb => by have := HCE.out W hb k hlt; rw [hx, hq] at this; exact this)
      have g1 := HG1.out wr HB.out
      have HDR := Lib.hid hdr
      have HQ := Lib.hid hq
      have HX := Lib.hid hgk
      clear hcell hdr hx hq hgk
      by_cases e1 : k = l
      · subst e1
        by_cases x46 : x = 46
        · have q46 : q = 46 := by rw [← HQ.out, x46]; rfl
          subst q46
          obtain ⟨A', hs1, hs2, hs3⟩ := drop_of (some ⟨b, o, none⟩) cp R k (by omega) (by omega) hc
          rw [Int.toNat_natCast] at hs1 hs2 hs3
          have ht := (hs2 wr (HR.out.below HB.out)).text (cp - k)
          have hkd := HK.out
          rw [HDR.out, x46] at hkd ht
          obtain ⟨r, hr⟩ : ∃ r, R.drop (k + 1) = r := ⟨_, rfl⟩
          rw [hr] at hkd ht
          obtain ⟨y, hy⟩ : ∃ y, tb (46 :: r) = y := ⟨_, rfl⟩
          rw [hy] at ht
          have hn' : (46 :: r).length = (R.drop k).length := by rw [HDR.out, hr, List.length_cons, List.length_cons]
          rw [hn'] at ht
          generalize (R.drop k).length = nd at hs1 ht
          generalize cp - k = cd at hs1 ht
          clear hs2 hs3 hn'
          by_cases k1 : r = [] ∨ r = [13] ∨ r = [13, 10]
          · have HE : Hid (E = O) := Lib.hid (by rw [← hkd]; exact ref_stop (by simp) k1)
            clear hkd HK HDR HX hr HP x46
            rcases k1 with k1 | k1 | k1
            · obtain rfl : y = ⟨#[46]⟩ := by rw [← hy, k1]; rfl
              clear k1 hy
              go_wp2_with fail
              go_ret
              exact ⟨_, rfl, by rw [HE.out]; exact HO.out, HB.out⟩
            · obtain rfl : y = ⟨#[46, 13]⟩ := by rw [← hy, k1]; rfl
              clear k1 hy
              go_wp2_with fail
              go_ret
              exact ⟨_, rfl, by rw [HE.out]; exact HO.out, HB.out⟩
            · obtain rfl : y = ⟨#[46, 13, 10]⟩ := by rw [← hy, k1]; rfl
              clear k1 hy
              go_wp2_with fail
              go_ret
              exact ⟨_, rfl, by rw [HE.out]; exact HO.out, HB.out⟩
          · have HK2 : Hid (Dm.refGo (decide (k + 1 = k)) false O (R.drop (k + 1)) = E) := Lib.hid (by
              rw [decide_eq_false (by omega), hr, ← hkd, ref_skip (by simp) k1])
            have HP2 : Hid (0 < k + 1 → (false = true ↔ R[k + 1 - 1]? = some 13)) := Lib.hid (fun _ => by rw [Nat.add_sub_cancel, HX.out, x46]; simp)
            obtain ⟨y1, z1⟩ := tb_ne (z := ⟨#[46]⟩) hy (m := [46]) rfl (fun h => k1 (.inl (by simpa using h)))
            obtain ⟨y2, z2⟩ := tb_ne (z := ⟨#[46, 13]⟩) hy (m := [46, 13]) rfl (fun h => k1 (.inr (.inl (by simpa using h))))
            obtain ⟨y3, z3⟩ := tb_ne (z := ⟨#[46, 13, 10]⟩) hy (m := [46, 13, 10]) rfl (fun h => k1 (.inr (.inr (by simpa using h))))
            clear hkd HK HDR HX hr HP x46 hy k1
            go_wp2_with fail
            go_roundw
            · exact ⟨k + 1, k, O, false, by go_num, rfl, by omega, hlt, by omega, HO, HB, HK2, HP2⟩
            · simp [intOf]; omega
        · have q46 : ¬ q = 46 := byte_ne HQ.out x46
          have q47 : (q == 46) = false := by simpa using q46
          have HK2 : Hid (Dm.refGo (decide (k + 1 = k)) (decide (x = 13)) (O ++ [x]) (R.drop (k + 1)) = E) := Lib.hid (by
            have h := HK.out
            rw [HDR.out, ref_put (by simp [x46])] at h
            rw [decide_eq_false (by omega)]
            simpa using h)
          have HPN : Hid (0 < k + 1 → (decide (x = 13) = true ↔ R[k + 1 - 1]? = some 13)) := Lib.hid (fun _ => by rw [Nat.add_sub_cancel, HX.out]; simp)
          by_cases x10 : x = 10
          · have q10 : q = 10 := by rw [← HQ.out, x10]; rfl
            subst q10
            have X10 := Lib.hid x10
            clear HK HDR HP x46 q46 q47 x10
            cases k with
            | zero =>
              replace g1 : wr.cell? ⟨b, o, none⟩ = some (.int .u8 10) := g1
              replace HG1 : Hid (∀ W, Below w.heap.size w W → W.cell? ⟨b, o, none⟩ = some (.int .u8 10)) := HG1
              go_wp2_with (at_builtin; refine wpList_row rfl (.tmp 47) (.tmp 55) rfl w.heap.size _ O rfl (HO.out.alloc _) (some ⟨wr.heap.size, 0, none⟩) 1 [x] rfl (by have := RdB.lit wr [x] (by simp); rw [← HQ.out]; exact this) (by simp only [List.length_cons, List.length_nil]; omega) (by have := HB.out.size; simp; omega) ?_; intro v2 w2 ho hb _; have HO2 := Lib.hid ho; have HB2 := Lib.hid ((HB.out.alloc HB.out.size (Obj.cells #[Value.int IntKind.u8 10] 5)).trans hb); clear ho hb c1 g1; have c1 := HC1.out w2 HB2.out; have g1 := HG1.out w2 HB2.out)
              go_roundw
              · exact ⟨0 + 1, 0, O ++ [x], decide (x = 13), by go_num, rfl, by omega, hlt, by rw [List.length_append, List.length_singleton]; omega, HO2, HB2, HK2, HPN⟩
              · simp [intOf]; omega
            | succ j =>
              have wj : IntKind.i64.wrap (((j + 1 : Nat) : Int) - 1) = (j : Int) := by rw [IntKind.wrap_i64]; omega
              obtain ⟨p, hp⟩ : ∃ p : Int, ((R[j]'(by omega)).toNat : Int) = p := ⟨_, rfl⟩
              have HG0 : Hid (∀ W, Below w.heap.size w W → W.cell? ⟨b, o + j, none⟩ = some (.int .u8 p)) := Lib.hid (fun W hb => by have := HCE.out W hb j (by omega); rw [hp] at this; exact this)
              have g0 := HG0.out wr HB.out
              clear hp
              by_cases p13 : p = 13
              · subst p13
                go_wp2_with (at_builtin; refine wpList_row rfl (.tmp 47) (.tmp 55) rfl w.heap.size _ O rfl (HO.out.alloc _) (some ⟨wr.heap.size, 0, none⟩) 1 [x] rfl (by have := RdB.lit wr [x] (by simp); rw [← HQ.out]; exact this) (by simp only [List.length_cons, List.length_nil]; omega) (by have := HB.out.size; simp; omega) ?_; intro v2 w2 ho hb _; have HO2 := Lib.hid ho; have HB2 := Lib.hid ((HB.out.alloc HB.out.size (Obj.cells #[Value.int IntKind.u8 10] 5)).trans hb); clear ho hb c1 g1; have c1 := HC1.out w2 HB2.out; have g1 := HG1.out w2 HB2.out; clear g0; have g0 := HG0.out w2 HB2.out)
                go_roundw
                · exact ⟨(j + 1) + 1, (j + 1), O ++ [x], decide (x = 13), by go_num, rfl, by omega, hlt, by rw [List.length_append, List.length_singleton]; omega, HO2, HB2, HK2, HPN⟩
                · simp [intOf]; omega
              · have p14 : (p == 13) = false := by simpa using p13
                go_wp2_with (at_builtin; refine wpList_row rfl (.tmp 47) (.tmp 55) rfl w.heap.size _ O rfl (HO.out.alloc _) (some ⟨wr.heap.size, 0, none⟩) 1 [x] rfl (by have := RdB.lit wr [x] (by simp); rw [← HQ.out]; exact this) (by simp only [List.length_cons, List.length_nil]; omega) (by have := HB.out.size; simp; omega) ?_; intro v2 w2 ho hb _; have HO2 := Lib.hid ho; have HB2 := Lib.hid ((HB.out.alloc HB.out.size (Obj.cells #[Value.int IntKind.u8 10] 5)).trans hb); clear ho hb c1 g1; have c1 := HC1.out w2 HB2.out; have g1 := HG1.out w2 HB2.out; clear g0; have g0 := HG0.out w2 HB2.out)
                go_roundw
                · exact ⟨(j + 1) + 1, (j + 1), O ++ [x], decide (x = 13), by go_num, rfl, by omega, hlt, by rw [List.length_append, List.length_singleton]; omega, HO2, HB2, HK2, HPN⟩
                · simp [intOf]; omega
          · have q10 : ¬ q = 10 := byte_ne HQ.out x10
            have q11 : (q == 10) = false := by simpa using q10
            have X10 := Lib.hid x10
            clear HK HDR HP x46 x10
            go_wp2_with (at_builtin; refine wpList_row rfl (.tmp 47) (.tmp 55) rfl w.heap.size _ O rfl (HO.out.alloc _) (some ⟨wr.heap.size, 0, none⟩) 1 [x] rfl (by have := RdB.lit wr [x] (by simp); rw [← HQ.out]; exact this) (by simp only [List.length_cons, List.length_nil]; omega) (by have := HB.out.size; simp; omega) ?_; intro v2 w2 ho hb _; have HO2 := Lib.hid ho; have HB2 := Lib.hid ((HB.out.alloc HB.out.size (Obj.cells #[Value.int IntKind.u8 q] 5)).trans hb); clear ho hb c1 g1; have c1 := HC1.out w2 HB2.out; have g1 := HG1.out w2 HB2.out)
            go_roundw
            · exact ⟨k + 1, k, O ++ [x], decide (x = 13), by go_num, rfl, by omega, hlt, by rw [List.length_append, List.length_singleton]; omega, HO2, HB2, HK2, HPN⟩
            · simp [intOf]; omega
      · have hlk2 : l < k := by omega
        have i2 : ¬ (k : Int) = l := by omega
        have i3 : ((k : Int) == l) = false := by simpa using i2
        have i4 : (l : Int) < k := by omega
        have i5 : (0 : Int) < k := by omega
        have HPN : Hid (0 < k + 1 → (decide (x = 13) = true ↔ R[k + 1 - 1]? = some 13)) := Lib.hid (fun _ => by rw [Nat.add_sub_cancel, HX.out]; simp)
        have hput : Dm.refGo (decide (k = l)) pv O (x :: R.drop (k + 1)) = Dm.refGo (decide (x = 10) && pv) (decide (x = 13)) (O ++ [x]) (R.drop (k + 1)) := by
          rw [ref_put (by simp [e1])]; simp [e1]
        have hk2 := HK.out
        rw [HDR.out, hput] at hk2
        by_cases x10 : x = 10
        · have q10 : q = 10 := by rw [← HQ.out, x10]; rfl
          subst q10
          obtain ⟨j, rfl⟩ : ∃ j, k = j + 1 := ⟨k - 1, by omega⟩
          have wj : IntKind.i64.wrap (((j + 1 : Nat) : Int) - 1) = (j : Int) := by rw [IntKind.wrap_i64]; omega
          have hpv := HP.out (by omega)
          rw [Nat.add_sub_cancel, List.getElem?_eq_getElem (by omega)] at hpv
          obtain ⟨z, hz⟩ : ∃ z, R[j]'(by omega) = z := ⟨_, rfl⟩
          obtain ⟨p, hp⟩ : ∃ p : Int, (z.toNat : Int) = p := ⟨_, rfl⟩
          have HG0 : Hid (∀ W, Below w.heap.size w W → W.cell? ⟨b, o + j, none⟩ = some (.int .u8 p)) := Lib.hid (fun W hb => by have := HCE.out W hb j (by omega); rw [hz, hp] at this; exact this)
          have g0 := HG0.out wr HB.out
          rw [hz] at hpv
          by_cases z13 : z = 13
          · obtain rfl : p = 13 := by rw [← hp, z13]; rfl
            have HK2 : Hid (Dm.refGo (decide (j + 1 + 1 = j + 1 + 1)) (decide (x = 13)) (O ++ [x]) (R.drop (j + 1 + 1)) = E) := Lib.hid (by
              rw [← hk2, decide_eq_true rfl, decide_eq_true x10, hpv.2 (by rw [z13])]; rfl)
            clear hk2 hput HK HDR HP hpv x10 hz hp z13
            go_wp2_with (at_builtin; refine wpList_row rfl (.tmp 47) (.tmp 55) rfl w.heap.size _ O rfl (HO.out.alloc _) (some ⟨wr.heap.size, 0, none⟩) 1 [x] rfl (by have := RdB.lit wr [x] (by simp); rw [← HQ.out]; exact this) (by simp only [List.length_cons, List.length_nil]; omega) (by have := HB.out.size; simp; omega) ?_; intro v2 w2 ho hb _; have HO2 := Lib.hid ho; have HB2 := Lib.hid ((HB.out.alloc HB.out.size (Obj.cells #[Value.int IntKind.u8 10] 5)).trans hb); clear ho hb c1 g1; have c1 := HC1.out w2 HB2.out; have g1 := HG1.out w2 HB2.out; clear g0; have g0 := HG0.out w2 HB2.out)
            go_roundw
            · exact ⟨(j + 1) + 1, (j + 1 + 1), O ++ [x], decide (x = 13), by go_num, by go_num, by omega, hlt, by rw [List.length_append, List.length_singleton]; omega, HO2, HB2, HK2, HPN⟩
            · simp [intOf]; omega
          · have p13 : ¬ p = 13 := byte_ne hp z13
            have p14 : (p == 13) = false := by simpa using p13
            have HK2 : Hid (Dm.refGo (decide (j + 1 + 1 = l)) (decide (x = 13)) (O ++ [x]) (R.drop (j + 1 + 1)) = E) := Lib.hid (by
              have hpf : pv = false := by
                cases pv
                · rfl
                · exact absurd (by simpa using hpv) z13
              rw [← hk2, decide_eq_false (by omega), hpf, Bool.and_false])
            clear hk2 hput HK HDR HP hpv x10 hz hp z13
            go_wp2_with (at_builtin; refine wpList_row rfl (.tmp 47) (.tmp 55) rfl w.heap.size _ O rfl (HO.out.alloc _) (some ⟨wr.heap.size, 0, none⟩) 1 [x] rfl (by have := RdB.lit wr [x] (by simp); rw [← HQ.out]; exact this) (by simp only [List.length_cons, List.length_nil]; omega) (by have := HB.out.size; simp; omega) ?_; intro v2 w2 ho hb _; have HO2 := Lib.hid ho; have HB2 := Lib.hid ((HB.out.alloc HB.out.size (Obj.cells #[Value.int IntKind.u8 10] 5)).trans hb); clear ho hb c1 g1; have c1 := HC1.out w2 HB2.out; have g1 := HG1.out w2 HB2.out; clear g0; have g0 := HG0.out w2 HB2.out)
            go_roundw
            · exact ⟨(j + 1) + 1, l, O ++ [x], decide (x = 13), by go_num, rfl, by omega, hlt, by rw [List.length_append, List.length_singleton]; omega, HO2, HB2, HK2, HPN⟩
            · simp [intOf]; omega
        · have q10 : ¬ q = 10 := byte_ne HQ.out x10
          have q11 : (q == 10) = false := by simpa using q10
          have HK2 : Hid (Dm.refGo (decide (k + 1 = l)) (decide (x = 13)) (O ++ [x]) (R.drop (k + 1)) = E) := Lib.hid (by
            rw [← hk2, decide_eq_false (by omega), decide_eq_false x10, Bool.false_and])
          clear hk2 hput HK HDR HP x10
          go_wp2_with (at_builtin; refine wpList_row rfl (.tmp 47) (.tmp 55) rfl w.heap.size _ O rfl (HO.out.alloc _) (some ⟨wr.heap.size, 0, none⟩) 1 [x] rfl (by have := RdB.lit wr [x] (by simp); rw [← HQ.out]; exact this) (by simp only [List.length_cons, List.length_nil]; omega) (by have := HB.out.size; simp; omega) ?_; intro v2 w2 ho hb _; have HO2 := Lib.hid ho; have HB2 := Lib.hid ((HB.out.alloc HB.out.size (Obj.cells #[Value.int IntKind.u8 q] 5)).trans hb); clear ho hb c1 g1; have c1 := HC1.out w2 HB2.out; have g1 := HG1.out w2 HB2.out)
          go_roundw
          · exact ⟨k + 1, l, O ++ [x], decide (x = 13), by go_num, rfl, by omega, hlt, by rw [List.length_append, List.length_singleton]; omega, HO2, HB2, HK2, HPN⟩
          · simp [intOf]; omega
    · have i1 : ¬ (k : Int) < R.length := by omega
      have HE : Hid (E = O) := Lib.hid (by
        have h := HK.out
        rw [List.drop_of_length_le (by omega)] at h
        exact h.symm)
      clear HK HP
      go_wp2
      go_ret
      exact ⟨_, rfl, by rw [HE.out]; exact HO.out, HB.out⟩
end Go.Proofs.YthgghgecpjnoiaaDoor.Ds
