/- PathJoins walked: for every row of texts the law returns true. -/
import Derived.Test.YthgghgecpjnoiaaDoorPh
namespace Go.Proofs.YthgghgecpjnoiaaDoor.Pi
open Go.RowKit Go.Proofs.YthgghgecpjnoiaaDoor.Pb Go.Proofs.YthgghgecpjnoiaaDoor.Pc Go.Proofs.YthgghgecpjnoiaaDoor.Pd Go.Proofs.YthgghgecpjnoiaaDoor.Pe Go.Proofs.YthgghgecpjnoiaaDoor.Pf Go.Proofs.YthgghgecpjnoiaaDoor.Pg Go.Proofs.YthgghgecpjnoiaaDoor.PPath Go.Proofs.YthgghgecpjnoiaaDoorW.PrintWords

theorem rJoin_any (A : Option Addr) (c : Nat) (l : List ByteArray) (w : World) (hr : RdS w A l) (hc : l.length ≤ c) (hl : l.length ≤ 1000) (hf : (flatS l).length ≤ 1000000000) :
    Calls Tryd.prog 37 #[.slice A l.length c] w fun e w' => e = .returned (.tuple #[.string (tb (joinS (l.map tl)).1), .int .i64 (joinS (l.map tl)).2]) ∧ Below w.heap.size w w' :=
  (mailbagref10_Join.calls 2200 A c l _ _ w (rdS_C hr (by omega)) hc (Join_eq l (by omega) hl 2200 (Nat.le_refl _))).mono fun _ _ ⟨he, hd⟩ => ⟨he, by obtain ⟨⟨n, rfl⟩⟩ := hd; exact bdraw _ _⟩
theorem flat_bd : ∀ (l : List ByteArray), (∀ x ∈ l, x.size ≤ 300) → (flatS l).length ≤ l.length * 301
  | [], _ => by simp [flatS]
  | x :: l, h => by
    have ih := flat_bd l (fun y hy => h y (List.mem_cons_of_mem _ hy))
    have hx := h x List.mem_cons_self
    have e : flatS (x :: l) = 47 :: tl x ++ flatS l := by simp [flatS, List.flatMap_cons]
    rw [e, List.length_append, List.length_cons, tl_len, List.length_cons]
    omega
theorem joinS_zero {ps : List (List UInt8)} (h : (joinS ps).2 = 0) : splitL (joinS ps).1 = (ps, 0) := by
  unfold joinS at h ⊢
  by_cases c1 : chk ps ≠ 0
  · rw [if_pos c1] at h; exact absurd h c1
  rw [if_neg c1] at h ⊢
  by_cases c2 : (joinL ps).length > 256
  · rw [if_pos c2] at h; exact absurd h (by decide)
  rw [if_neg c2]
  exact split_join (by simpa using c1) (by omega)

set_option maxHeartbeats 2000000 in
theorem joins_walk (A : Option Addr) (c : Nat) (l : List ByteArray) (m : Int) (w : World) (hr : RdS w A l) (hc : l.length ≤ c) (hl9 : l.length ≤ 9223372036854775807) (hm : w.cell? ⟨0, 0, none⟩ = some (.int .i64 m)) :
    Calls Tryd.prog 8 #[.slice A l.length c] w fun e w' => e = .returned (.bool true) ∧ Below w.heap.size w w' := by
  have HM := Lib.hid hm
  have HR := Lib.hid hr
  have HC := Lib.hid hc
  clear hm hr hc
  by_cases c1 : (30 : Int) < l.length
  · go_enter Tryd.func8, Tryd.ntmps8
    go_wp2_with fail
    refine (known_any m _ HM.out).mono ?_
    rintro e w1 ⟨rfl, hb⟩
    go_wp2
    go_ret
    exact ⟨rfl, hb⟩
  have hL : (l.length : Int) ≤ 30 := by omega
  clear hl9 c1
  go_enter Tryd.func8, Tryd.ntmps8
  go_wp2_with fail
  refine (known_any m _ HM.out).mono ?_
  rintro e w1 ⟨rfl, hb⟩
  have hB := Lib.hid hb
  have HR1 := Lib.hid (HR.out.below hb)
  clear hb
  go_wp2_with fail
  go_loop [3] (fun i => ∃ k : Nat, k ≤ l.length ∧ i = .int .i64 k ∧ Hid (∀ x ∈ l.take k, x.size ≤ 300)) (fun i => l.length - (intOf i).toNat)
  case atStart => exact ⟨0, Nat.zero_le _, rfl, Lib.hid (by simp)⟩
  case round =>
    obtain ⟨k, hk, rfl, HA⟩ := hrel
    by_cases hlt : k < l.length
    · obtain ⟨b, o, rfl, g⟩ := HR1.out.cell k hlt
      by_cases hx : (300 : Int) < l[k].size
      · generalize l[k] = x at g hx
        go_wp2
        go_ret
        exact ⟨rfl, hB.out⟩
      · have HS : Hid (∀ x ∈ l.take (k + 1), x.size ≤ 300) := Lib.hid (by
          intro x hx2
          rw [List.take_succ_eq_append_getElem hlt] at hx2
          rcases List.mem_append.1 hx2 with h | h
          · exact HA.out x h
          · rw [List.mem_singleton.1 h]; omega)
        generalize l[k] = x at g hx
        go_wp2
        go_light
        exact ⟨⟨k + 1, by omega, by go_num, HS⟩, by simp [intOf]; omega⟩
    · have hall : Hid ((flatS l).length ≤ 1000000000) := Lib.hid (by
        have h := HA.out
        rw [List.take_of_length_le (by omega)] at h
        have := flat_bd l h
        omega)
      obtain ⟨js, HJ⟩ : ∃ js, Hid (joinS (l.map tl) = js) := ⟨_, Lib.hid rfl⟩
      clear HA
      by_cases hz : js.2 = 0
      · have hsp : Hid (splitL (tl (tb js.1)) = (l.map tl, 0)) := Lib.hid (by rw [tl_tb, ← HJ.out]; exact joinS_zero (by rw [HJ.out]; exact hz))
        have HZ := Lib.hid hz
        clear hz
        go_wp2_with fail
        refine (Join_any A c l _ HR1.out HC.out (by omega) hall.out).mono ?_
        rintro e w2 ⟨rfl, hb⟩
        rw [HJ.out, HZ.out]
        have hB2 := Lib.hid (bt hB.out hb)
        have HR2 := Lib.hid (HR1.out.below hb)
        clear hb
        go_wp2_with fail
        refine (rJoin_any A c l _ HR2.out HC.out (by omega) hall.out).mono ?_
        rintro e w3 ⟨rfl, hb⟩
        rw [HJ.out, HZ.out]
        have hB3 := Lib.hid (bt hB2.out hb)
        have HR3 := Lib.hid (HR2.out.below hb)
        clear hb
        generalize tb js.1 = s at hsp ⊢
        go_wp2_with fail
        refine (split_any s m _ (keepC hB3.out HM.out)).mono ?_
        rintro e w4 ⟨A2, c2, rfl, hR, hc, hb⟩
        rw [hsp.out] at hR hc ⊢
        rw [map_tb_tl] at hR hc ⊢
        have hB4 := Lib.hid (bt hB3.out hb)
        have HT := Lib.hid (texts_any A2 c2 l A c l w4 hR (HR3.out.below hb) hc HC.out (by omega) (by omega))
        clear hb hR hc
        go_wp2_with fail
        refine HT.out.mono ?_
        rintro e w5 ⟨rfl, hb⟩
        rw [show decide True = true from rfl]
        have hB5 := Lib.hid (bt hB4.out hb)
        clear hb
        go_wp2
        go_ret
        exact ⟨rfl, hB5.out⟩
      · have hz' : (js.2 != 0) = true := by simpa using hz
        clear hz
        go_wp2_with fail
        refine (Join_any A c l _ HR1.out HC.out (by omega) hall.out).mono ?_
        rintro e w2 ⟨rfl, hb⟩
        rw [HJ.out]
        have hB2 := Lib.hid (bt hB.out hb)
        have HR2 := Lib.hid (HR1.out.below hb)
        clear hb
        go_wp2_with fail
        refine (rJoin_any A c l _ HR2.out HC.out (by omega) hall.out).mono ?_
        rintro e w3 ⟨rfl, hb⟩
        rw [HJ.out]
        have hB3 := Lib.hid (bt hB2.out hb)
        clear hb
        go_wp2
        go_ret
        exact ⟨rfl, hB3.out⟩
end Go.Proofs.YthgghgecpjnoiaaDoor.Pi
