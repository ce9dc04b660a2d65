/- path.Under walked, for every two texts. -/
import Derived.Test.YthgghgecpjnoiaaDoorPe
namespace Go.Proofs.YthgghgecpjnoiaaDoor.Pf
open Go.RowKit Go.Proofs.YthgghgecpjnoiaaDoor.Pb Go.Proofs.YthgghgecpjnoiaaDoor.Pc Go.Proofs.YthgghgecpjnoiaaDoor.Pd Go.Proofs.YthgghgecpjnoiaaDoor.Pe Go.Proofs.YthgghgecpjnoiaaDoor.PPath Go.Proofs.YthgghgecpjnoiaaDoorW.PrintWords Go.Proofs.YthgghgecpjnoiaaDoorW.PrintLast Go.Proofs.YthgghgecpjnoiaaDoorW.PrintMore

theorem prefix_map2 (x y : List (List UInt8)) : x.isPrefixOf y = true ↔ x.map tb <+: y.map tb := by
  rw [List.isPrefixOf_iff_prefix]
  constructor
  · exact fun h => h.map tb
  · intro h
    have := h.map tl
    rwa [map_tl_tb, map_tl_tb] at this
theorem prefix_get {x y : List ByteArray} (h : x <+: y) (i : Nat) (hi : i < x.length) (hj : i < y.length) : y[i] = x[i] := by
  obtain ⟨t, rfl⟩ := h
  exact List.getElem_append_left hi
theorem prefix_of {x y : List ByteArray} (h : x.length ≤ y.length) (hg : ∀ (i : Nat) (hi : i < x.length), y[i]'(by omega) = x[i]) : x <+: y := by
  rw [List.prefix_iff_eq_take]
  apply List.ext_getElem
  · simp; omega
  · intro i h1 h2
    rw [List.getElem_take]
    exact (hg i h1).symm
theorem ne_str {a b : ByteArray} (h : ¬ a = b) : (a.toList != b.toList) = true := by
  rw [Lib.toList_data, Lib.toList_data]
  have : ¬ a.data.toList = b.data.toList := fun e => h (tl_inj.1 e)
  simpa using this

set_option maxHeartbeats 2000000 in
theorem under_any (s t : ByteArray) (m : Int) (w : World) (hm : w.cell? ⟨0, 0, none⟩ = some (.int .i64 m)) :
    Calls Tryd.prog 34 #[.string s, .string t] w fun e w' => e = .returned (.bool (underS (tl s) (tl t))) ∧ Below w.heap.size w w' := by
  have HM := Lib.hid hm
  clear hm
  by_cases k1 : (splitL (tl s)).2 = 0
  rotate_left
  · have HF : Hid (underS (tl s) (tl t) = false) := Lib.hid (by simp [underS, k1])
    have k1' : ((splitL (tl s)).2 != 0) = true := by simpa using k1
    clear k1
    go_enter Tryd.func34, Tryd.ntmps34
    go_wp2_with fail
    refine (split_any s m _ HM.out).mono ?_
    rintro e w1 ⟨A, c, rfl, hR, hc, hb⟩
    have hB := Lib.hid hb
    clear hR hc hb
    go_wp2_with fail
    refine (split_any t m _ (keepC hB.out HM.out)).mono ?_
    rintro e w2 ⟨A2, c2, rfl, hR, hc, hb⟩
    have hB2 := Lib.hid (bt hB.out hb)
    clear hR hc hb
    go_wp2
    go_ret
    exact ⟨ret_bool HF.out.symm, hB2.out⟩
  by_cases k2 : (splitL (tl t)).2 = 0
  rotate_left
  · have HF : Hid (underS (tl s) (tl t) = false) := Lib.hid (by simp [underS, k2])
    have k2' : ((splitL (tl t)).2 != 0) = true := by simpa using k2
    have K1 := Lib.hid k1
    clear k1 k2
    go_enter Tryd.func34, Tryd.ntmps34
    go_wp2_with fail
    refine (split_any s m _ HM.out).mono ?_
    rintro e w1 ⟨A, c, rfl, hR, hc, hb⟩
    rw [K1.out]
    have hB := Lib.hid hb
    clear hR hc hb
    go_wp2_with fail
    refine (split_any t m _ (keepC hB.out HM.out)).mono ?_
    rintro e w2 ⟨A2, c2, rfl, hR, hc, hb⟩
    have hB2 := Lib.hid (bt hB.out hb)
    clear hR hc hb
    go_wp2
    go_ret
    exact ⟨ret_bool HF.out.symm, hB2.out⟩
  have hu : underS (tl s) (tl t) = true ↔ (splitL (tl s)).1.map tb <+: (splitL (tl t)).1.map tb := by
    rw [← prefix_map2]; simp [underS, k1, k2]
  obtain ⟨x8, _⟩ := split_small k1
  obtain ⟨y8, _⟩ := split_small k2
  obtain ⟨xs, hxs⟩ : ∃ xs, (splitL (tl s)).1.map tb = xs := ⟨_, rfl⟩
  obtain ⟨ys, hys⟩ : ∃ ys, (splitL (tl t)).1.map tb = ys := ⟨_, rfl⟩
  have lx : xs.length ≤ 8 := by rw [← hxs]; simpa using x8
  have ly : ys.length ≤ 8 := by rw [← hys]; simpa using y8
  rw [hxs, hys] at hu
  have K1 := Lib.hid k1
  have K2 := Lib.hid k2
  have HU := Lib.hid hu
  have HX := Lib.hid hxs
  have HY := Lib.hid hys
  clear k1 k2 hu hxs hys x8 y8
  by_cases k3 : (ys.length : Int) < xs.length
  · have HF : Hid (underS (tl s) (tl t) = false) := Lib.hid (by
      cases h : underS (tl s) (tl t) with
      | false => rfl
      | true => have := (HU.out.1 h).length_le; omega)
    go_enter Tryd.func34, Tryd.ntmps34
    go_wp2_with fail
    refine (split_any s m _ HM.out).mono ?_
    rintro e w1 ⟨A, c, rfl, hR, hc, hb⟩
    rw [K1.out, HX.out]
    have hB := Lib.hid hb
    clear hR hc hb
    go_wp2_with fail
    refine (split_any t m _ (keepC hB.out HM.out)).mono ?_
    rintro e w2 ⟨A2, c2, rfl, hR, hc, hb⟩
    rw [K2.out, HY.out]
    have hB2 := Lib.hid (bt hB.out hb)
    clear hR hc hb
    go_wp2
    go_ret
    exact ⟨ret_bool HF.out.symm, hB2.out⟩
  go_enter Tryd.func34, Tryd.ntmps34
  go_wp2_with fail
  refine (split_any s m _ HM.out).mono ?_
  rintro e w1 ⟨A, c, rfl, hR, hc, hb⟩
  rw [HX.out] at hR ⊢
  rw [K1.out]
  have hB := Lib.hid hb
  have HR1 := Lib.hid hR
  clear hR hc hb
  go_wp2_with fail
  refine (split_any t m _ (keepC hB.out HM.out)).mono ?_
  rintro e w2 ⟨A2, c2, rfl, hR, hc, hb⟩
  rw [HY.out] at hR ⊢
  rw [K2.out]
  have hB2 := Lib.hid (bt hB.out hb)
  have HRx := Lib.hid (HR1.out.below hb)
  have HRy := Lib.hid hR
  clear hR hc hb
  go_wp2_with fail
  go_loop [36] (fun i => ∃ k : Nat, k ≤ xs.length ∧ i = .int .i64 k ∧ Hid (∀ (j : Nat) (_ : j < k) (hj : j < xs.length) (hy : j < ys.length), ys[j] = xs[j])) (fun i => xs.length - (intOf i).toNat)
  case atStart => exact ⟨0, Nat.zero_le _, rfl, Lib.hid (fun j hj => absurd hj (by omega))⟩
  case round =>
    obtain ⟨k, hk, rfl, HA⟩ := hrel
    by_cases hlt : k < xs.length
    · have hly : k < ys.length := by omega
      obtain ⟨b, o, rfl, g1⟩ := HRx.out.cell k hlt
      obtain ⟨b2, o2, rfl, g2⟩ := HRy.out.cell k hly
      have i1 : (k : Int) < (ys.length : Int) := by omega
      by_cases hn : ys[k] = xs[k]
      · have HN := Lib.hid hn
        rw [hn] at g2
        have hst : Hid (∀ (j : Nat) (_ : j < k + 1) (hj : j < xs.length) (hy : j < ys.length), ys[j] = xs[j]) := Lib.hid (fun j hj h1 h2 => by
          by_cases e : j = k
          · subst e; exact HN.out
          · exact HA.out j (by omega) h1 h2)
        clear hn
        generalize xs[k] = x at g1 g2
        go_wp2
        all_goals
          go_light
          exact ⟨⟨k + 1, by omega, by go_num, hst⟩, by simp [intOf]; omega⟩
      · have HF : Hid (underS (tl s) (tl t) = false) := Lib.hid (by
          cases h : underS (tl s) (tl t) with
          | false => rfl
          | true => exact absurd (prefix_get (HU.out.1 h) k hlt hly) hn)
        have n1 := ne_str hn
        have n2 : ¬ ys[k].toList = xs[k].toList := by simpa using n1
        have n3 : (ys[k].toList == xs[k].toList) = false := by simpa using n1
        clear hn
        generalize xs[k] = x at g1 n1 n2 n3
        generalize ys[k] = y at g2 n1 n2 n3
        go_wp2
        go_ret
        exact ⟨ret_bool HF.out.symm, hB2.out⟩
    · have HF : Hid (underS (tl s) (tl t) = true) := Lib.hid (HU.out.2 (prefix_of (by omega) (fun i hi => HA.out i (by omega) hi (by omega))))
      go_wp2
      go_ret
      exact ⟨ret_bool HF.out.symm, hB2.out⟩
end Go.Proofs.YthgghgecpjnoiaaDoor.Pf
