/- PathTexts walked: for every two texts the law returns true. -/
import Derived.Test.YthgghgecpjnoiaaDoorPg
namespace Go.Proofs.YthgghgecpjnoiaaDoor.Ph
open Go.RowKit Go.Proofs.YthgghgecpjnoiaaDoor.Pb Go.Proofs.YthgghgecpjnoiaaDoor.Pc Go.Proofs.YthgghgecpjnoiaaDoor.Pd Go.Proofs.YthgghgecpjnoiaaDoor.Pe Go.Proofs.YthgghgecpjnoiaaDoor.Pf Go.Proofs.YthgghgecpjnoiaaDoor.Pg

theorem split_len (l : List UInt8) : (splitL l).1.length ≤ 8 := by
  by_cases h : (splitL l).2 = 0
  · exact (split_small h).1
  · rw [split_bad h]; simp

set_option maxHeartbeats 2000000 in
theorem texts_walk (s t : ByteArray) (m : Int) (w : World) (hm : w.cell? ⟨0, 0, none⟩ = some (.int .i64 m)) :
    Calls Tryd.prog 7 #[.string s, .string t] w fun e w' => e = .returned (.bool true) ∧ Below w.heap.size w w' := by
  have HM := Lib.hid hm
  clear hm
  by_cases c1 : (2000 : Int) < s.size
  · go_enter Tryd.func7, Tryd.ntmps7
    go_wp2_with fail
    refine (known_any m _ HM.out).mono ?_
    rintro e w1 ⟨rfl, hb⟩
    go_wp2
    go_ret
    exact ⟨rfl, hb⟩
  by_cases c2 : (2000 : Int) < t.size
  · go_enter Tryd.func7, Tryd.ntmps7
    go_wp2_with fail
    refine (known_any m _ HM.out).mono ?_
    rintro e w1 ⟨rfl, hb⟩
    go_wp2
    go_ret
    exact ⟨rfl, hb⟩
  obtain ⟨l, HX, L8⟩ : ∃ l, Hid ((splitL (tl s)).1.map tb = l) ∧ Hid (l.length ≤ 100000) := ⟨_, Lib.hid rfl, Lib.hid (by have := split_len (tl s); simp; omega)⟩
  obtain ⟨sp, HSP⟩ : ∃ x, Hid ((splitL (tl s)).2 = x) := ⟨_, Lib.hid rfl⟩
  go_enter Tryd.func7, Tryd.ntmps7
  go_wp2_with fail
  refine (known_any m _ HM.out).mono ?_
  rintro e w1 ⟨rfl, hb⟩
  have hB := Lib.hid hb
  clear hb
  go_wp2_with fail
  refine (split_any s m _ (keepC hB.out HM.out)).mono ?_
  rintro e w2 ⟨A, c, rfl, hR, hc, hb⟩
  rw [HX.out] at hR hc ⊢
  rw [HSP.out]
  have HR := Lib.hid hR
  have HC := Lib.hid hc
  have hB2 := Lib.hid (bt hB.out hb)
  clear hR hc hb
  go_wp2_with fail
  refine (rsplit_any s _).mono ?_
  rintro e w3 ⟨A2, cc2, rfl, hR, hc, hb⟩
  rw [HX.out] at hR hc ⊢
  rw [HSP.out]
  have HR2 := Lib.hid hR
  have HC2 := Lib.hid hc
  have HR1 := Lib.hid (HR.out.below hb)
  have hB3 := Lib.hid (bt hB2.out hb)
  clear hR hc hb HR
  go_wp2_with fail
  refine (parent_any s m _ (keepC hB3.out HM.out)).mono ?_
  rintro e w4 ⟨rfl, hb⟩
  have HR3 := Lib.hid (HR1.out.below hb)
  have HR4 := Lib.hid (HR2.out.below hb)
  have hB4 := Lib.hid (bt hB3.out hb)
  clear hb HR1 HR2
  go_wp2_with fail
  refine (rparent_any s _).mono ?_
  rintro e w5 ⟨rfl, hb⟩
  have HR5 := Lib.hid (HR3.out.below hb)
  have HR6 := Lib.hid (HR4.out.below hb)
  have hB5 := Lib.hid (bt hB4.out hb)
  clear hb HR3 HR4
  have HT := Lib.hid (fun W (hW : Below w5.heap.size w5 W) => texts_any A c l A2 cc2 l W (HR5.out.below hW) (HR6.out.below hW) HC.out HC2.out L8.out L8.out)
  generalize parentS (tl s) = pp
  go_wp2_with fail
  refine (HT.out _ (Below.refl _ _)).mono ?_
  rintro e w6 ⟨rfl, hb⟩
  rw [show decide True = true from rfl]
  have hB6 := Lib.hid (bt hB5.out hb)
  clear hb
  go_wp2_with fail
  refine (under_any s t m _ (keepC hB6.out HM.out)).mono ?_
  rintro e w7 ⟨rfl, hb⟩
  have hB7 := Lib.hid (bt hB6.out hb)
  clear hb
  go_wp2_with fail
  refine (runder_any s t _).mono ?_
  rintro e w8 ⟨rfl, hb⟩
  have hB8 := Lib.hid (bt hB7.out hb)
  clear hb
  go_wp2
  go_ret
  exact ⟨rfl, hB8.out⟩
end Go.Proofs.YthgghgecpjnoiaaDoor.Ph
