/- The reference's decoder walked: Size, Long, Text. -/
import Derived.Test.YthgghgecpjnoiaaDoorDs
namespace Go.Proofs.YthgghgecpjnoiaaDoor.Dt
open Go.RowKit Go.Proofs.YthgghgecpjnoiaaDoorW.PrintWords Go.Proofs.YthgghgecpjnoiaaDoorW.PrintLast Go.Proofs.YthgghgecpjnoiaaDoorW.PrintMore Go.Proofs.YthgghgecpjnoiaaDoor.Pc Go.Proofs.YthgghgecpjnoiaaDoor.Pd Go.Proofs.YthgghgecpjnoiaaDoor.Pk Go.Proofs.YthgghgecpjnoiaaDoor.Da Go.Proofs.YthgghgecpjnoiaaDoor.Db Go.Proofs.YthgghgecpjnoiaaDoor.Dc Go.Proofs.YthgghgecpjnoiaaDoor.Dd Go.Proofs.YthgghgecpjnoiaaDoor.De Go.Proofs.YthgghgecpjnoiaaDoor.Df Go.Proofs.YthgghgecpjnoiaaDoor.Dn Go.Proofs.YthgghgecpjnoiaaDoor.Do Go.Proofs.YthgghgecpjnoiaaDoor.Dq Go.Proofs.YthgghgecpjnoiaaDoor.Dr Go.Proofs.YthgghgecpjnoiaaDoor.Ds
set_option maxHeartbeats 4000000 in
set_option maxRecDepth 100000 in
theorem rsize_any {w : World} {B g M : Nat} {s : Dm.S} {v : Value} (h : RefAt w B g M s v) (hG : Dm.Good s) (hn : s.rr.length ≤ 900000) (hM : M ≤ 100000) :
    Calls Tryd.prog 24 #[.pointer (some ⟨g, 0, none⟩)] w fun e w' => e = .returned (.int .i64 (min s.out.length (M + 1) : Nat)) ∧ Below w.heap.size w w' := by
  obtain ⟨z, hz⟩ : ∃ z : Int, ((min s.out.length (M + 1) : Nat) : Int) = z := ⟨_, rfl⟩
  rw [hz]
  have H := Lib.hid h
  clear h
  go_enter Tryd.func24, Tryd.ntmps24
  go_wp2_with fail
  refine (rplain_any H.out hG hn).mono ?_
  rintro e w1 ⟨r, rfl, ho, hb⟩
  obtain ⟨A, c, rfl, hr, hc⟩ := ho.reads
  have c0 := (H.out.below hb).c0
  have HB := Lib.hid hb
  clear ho hr hb
  by_cases k : M < s.out.length
  · have i1 : (M : Int) < s.out.length := by omega
    have hz2 : z = (M : Int) + 1 := by omega
    have wm : IntKind.i64.wrap ((M : Int) + 1) = (M : Int) + 1 := by rw [IntKind.wrap_i64]; omega
    have HZ := Lib.hid hz2
    clear hz hz2
    go_wp2
    go_ret
    exact ⟨by rw [HZ.out]; rfl, HB.out⟩
  · have i1 : ¬ (M : Int) < s.out.length := by omega
    have hz2 : z = (s.out.length : Int) := by omega
    have HZ := Lib.hid hz2
    clear hz hz2
    go_wp2
    go_ret
    exact ⟨by rw [HZ.out]; rfl, HB.out⟩
set_option maxHeartbeats 4000000 in
set_option maxRecDepth 100000 in
theorem rlong_any {w : World} {B g M : Nat} {s : Dm.S} {v : Value} (h : RefAt w B g M s v) (hG : Dm.Good s) (hn : s.rr.length ≤ 900000) :
    Calls Tryd.prog 25 #[.pointer (some ⟨g, 0, none⟩)] w fun e w' => e = .returned (.bool (decide (M < s.out.length))) ∧ Below w.heap.size w w' := by
  have H := Lib.hid h
  have c0 := h.c0
  have HC := Lib.hid (fun (W : World) (hb : Below w.heap.size w W) => (H.out.below hb).c0)
  have hG := Lib.hid hG
  clear h
  go_enter Tryd.func25, Tryd.ntmps25
  go_wp2_with fail
  go_region_held3 (fun w' => w'.cell? ⟨g, 0, none⟩ = some (.int .i64 M) ∧ Below w.heap.size w w')
    (first | exact ⟨c0, (Below.refl _ _).drew⟩ | exact ⟨HC.out _ (bt (Below.refl _ _).drew hb), bt (Below.refl _ _).drew hb⟩)
    (first
      | (go_at_call 46; refine (rplain_any (H.out.below (Below.refl _ _).drew) hG.out hn).mono ?_; rintro e w' ⟨r, rfl, ho, hb⟩; obtain ⟨A, c, rfl, hr, hc⟩ := ho.reads; clear ho hr))
  obtain ⟨p0, hbb⟩ : w'.cell? ⟨g, 0, none⟩ = some (.int .i64 M) ∧ Below w.heap.size w w' := by assumption
  clear hb
  go_wp2
  go_ret
  exact ⟨rfl, hbb⟩
set_option maxHeartbeats 4000000 in
set_option maxRecDepth 100000 in
theorem rtext_any {w : World} {B g M : Nat} {s : Dm.S} {v : Value} (h : RefAt w B g M s v) (hG : Dm.Good s) (hM : M ≤ 100000) (hn : s.rr.length ≤ 900000) :
    Calls Tryd.prog 27 #[.pointer (some ⟨g, 0, none⟩)] w fun e w' => ∃ A c, e = .returned (.tuple #[.slice A (if s.st ≠ 5 then [] else if M < s.out.length then [] else if s.wd then [] else s.out).length c, .int .i64 (if s.st ≠ 5 then 15 else if M < s.out.length then 5 else if s.wd then 3 else 0)]) ∧
      (if s.st ≠ 5 then [] else if M < s.out.length then [] else if s.wd then [] else s.out).length ≤ c ∧ RdB w' A (if s.st ≠ 5 then [] else if M < s.out.length then [] else if s.wd then [] else s.out) ∧ Below w.heap.size w w' := by
  have H := Lib.hid h
  have HG := Lib.hid hG
  have c2 := h.c2
  clear h hG
  by_cases k5 : s.st = 5
  · replace c2 : w.cell? ⟨g, 2, none⟩ = some (.bool true) := c2.trans (by rw [k5]; rfl)
    have k6 : ¬ (s.st ≠ 5) := by omega
    rw [if_neg k6, if_neg k6]
    by_cases kM : M < s.out.length
    · rw [if_pos kM, if_pos kM]
      have i1 : (M : Int) < s.out.length := by omega
      go_enter Tryd.func27, Tryd.ntmps27
      go_wp2_with fail
      refine (rplain_any H.out HG.out hn).mono ?_
      rintro e w1 ⟨r, rfl, ho, hb⟩
      obtain ⟨A, c, rfl, hr, hc⟩ := ho.reads
      have c0 := (H.out.below hb).c0
      have HB := Lib.hid hb
      clear ho hr hb
      go_wp2
      go_ret2
      exact ⟨none, 0, rfl, by simp, RdB.nil _ _, HB.out⟩
    · rw [if_neg kM, if_neg kM]
      have i1 : ¬ (M : Int) < s.out.length := by omega
      have hw := Dm.wide_iff HG.out k5
      obtain ⟨wd, hwd⟩ : ∃ wd, s.wd = wd := ⟨_, rfl⟩
      rw [hwd] at hw ⊢
      have HW := Lib.hid hw
      have hl : s.out.length ≤ 100000 := by omega
      obtain ⟨T, hT⟩ : ∃ T, linesL s.out = T := ⟨_, rfl⟩
      rw [hT] at hw
      have HW := Lib.hid hw
      have hTl : T.length ≤ 200000 := by
        have h1 := lines_sum s.out
        have h2 := sum_len (linesL s.out)
        rw [hT] at h1 h2
        omega
      clear hwd hw
      obtain ⟨code, hcode⟩ : ∃ code : Int, (if wd = true then 3 else 0) = code := ⟨_, rfl⟩
      obtain ⟨L, hL⟩ : ∃ L : List UInt8, (if wd = true then [] else s.out) = L := ⟨_, rfl⟩
      rw [hcode, hL]
      have HCO := Lib.hid hcode
      have HL := Lib.hid hL
      clear hcode hL
      go_enter Tryd.func27, Tryd.ntmps27
      go_wp2_with fail
      refine (rplain_any H.out HG.out hn).mono ?_
      rintro e w1 ⟨r, rfl, ho, hb⟩
      obtain ⟨A, c, rfl, hr, hc⟩ := ho.reads
      have c0 := (H.out.below hb).c0
      have HB := Lib.hid hb
      have HR := Lib.hid hr
      clear ho hr hb
      go_wp2_with fail
      refine (rlines_any A c s.out w1 HR.out hc (by omega)).mono ?_
      rintro e w2 ⟨v2, rfl, ho, hb⟩
      obtain ⟨A2, n2, rfl, hr2, hn2⟩ := OwnS.reads ho
      rw [hT] at hr2 hn2 ⊢
      have HR2 := Lib.hid hr2
      have HB2 := Lib.hid (bt HB.out hb)
      have HR3 := Lib.hid (HR.out.below hb)
      clear ho hb hr2 hT
      rw [List.length_map] at hn2 ⊢
      go_wp2_with fail
      go_loop [6] (fun i => ∃ k : Nat, k ≤ T.length ∧ i = .int .i64 k ∧ Hid (∀ x ∈ T.take k, ¬ 998 < x.length)) (fun i => T.length - (intOf i).toNat)
      case atStart => exact ⟨0, by omega, rfl, Lib.hid (by simp)⟩
      case round =>
        obtain ⟨k, hk, rfl, HT⟩ := hrel
        by_cases hlt : k < T.length
        · have i2 : (k : Int) < T.length := by omega
          obtain ⟨b, o, rfl, g1⟩ := HR2.out.cell k (by simpa using hlt)
          rw [List.getElem_map] at g1
          have hps : (tb T[k]).size = T[k].length := by rw [← tl_len, tl_tb]
          by_cases hx : (998 : Int) < (tb T[k]).size
          · have hwt : Hid (wd = true) := Lib.hid (by
              rw [HW.out, List.any_eq_true]
              exact ⟨T[k], List.getElem_mem hlt, decide_eq_true (by omega)⟩)
            generalize tb T[k] = y at g1 hx
            clear hps
            go_wp2
            go_ret2
            exact ⟨none, 0, by rw [← HL.out, ← HCO.out, hwt.out]; rfl, by rw [← HL.out, hwt.out]; simp, by rw [← HL.out, hwt.out]; exact RdB.nil _ _, HB2.out⟩
          · have HT2 : Hid (∀ x ∈ T.take (k + 1), ¬ 998 < x.length) := Lib.hid (by
              intro x hx2
              rw [List.take_succ_eq_append_getElem hlt] at hx2
              rcases List.mem_append.1 hx2 with h | h
              · exact HT.out x h
              · rw [List.mem_singleton.1 h]; omega)
            generalize tb T[k] = y at g1 hx
            clear hps
            go_wp2
            go_light
            exact ⟨⟨k + 1, by omega, by go_num, HT2⟩, by simp [intOf]; omega⟩
        · have i2 : ¬ (k : Int) < T.length := by omega
          have hwt : Hid (wd = false) := Lib.hid (by
            rw [HW.out, List.any_eq_false]
            intro x hx
            have := HT.out x (by rw [List.take_of_length_le (by omega)]; exact hx)
            simpa using this)
          go_wp2
          go_ret2
          exact ⟨A, c, by rw [← HL.out, ← HCO.out, hwt.out]; rfl, by rw [← HL.out, hwt.out]; exact hc, by rw [← HL.out, hwt.out]; exact HR3.out, HB2.out⟩
  · replace c2 : w.cell? ⟨g, 2, none⟩ = some (.bool false) := c2.trans (by rw [decide_eq_false k5])
    rw [if_pos k5, if_pos k5]
    go_enter Tryd.func27, Tryd.ntmps27
    go_wp2
    go_ret2
    exact ⟨none, 0, rfl, by simp, RdB.nil _ _, Below.refl _ _⟩
end Go.Proofs.YthgghgecpjnoiaaDoor.Dt
