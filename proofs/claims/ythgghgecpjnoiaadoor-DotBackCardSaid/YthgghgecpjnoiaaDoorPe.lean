/- path.Join, Parent, Under walked, for every row and text. -/
import Derived.Test.YthgghgecpjnoiaaDoorPd
import Derived.Deep.QuietTactic
import Derived.BigQuiet
namespace Go.Proofs.YthgghgecpjnoiaaDoor.Pe
open Go.RowKit Go.Proofs.YthgghgecpjnoiaaDoor.Pb Go.Proofs.YthgghgecpjnoiaaDoor.Pc Go.Proofs.YthgghgecpjnoiaaDoor.Pd Go.Proofs.YthgghgecpjnoiaaDoor.PPath Go.Proofs.YthgghgecpjnoiaaDoorW.PrintWords Go.Proofs.YthgghgecpjnoiaaDoorW.PrintLast Go.Proofs.YthgghgecpjnoiaaDoorW.PrintMore

theorem inter_flat : ∀ (p : List UInt8) (ps : List (List UInt8)), 47 :: ([47] : List UInt8).intercalate (p :: ps) = (p :: ps).flatMap fun q => 47 :: q
  | p, [] => by simp [List.intercalate]
  | p, q :: ps => by
    have ih := inter_flat q ps
    rw [List.flatMap_cons, ← ih]
    simp [List.intercalate, List.intersperse]
theorem ret_si {a b : ByteArray} {x y : Int} (h : a = b) (g : x = y) : Ending.returned (.tuple #[.string a, .int .i64 x]) = .returned (.tuple #[.string b, .int .i64 y]) := by rw [h, g]

set_option maxRecDepth 100000 in
set_option maxHeartbeats 1000000 in
theorem Join_any (A : Option Addr) (c : Nat) (l : List ByteArray) (w : World) (hr : RdS w A l) (hc : l.length ≤ c) (hl : l.length ≤ 1000) (hf : (flatS l).length ≤ 1000000000) :
    Calls Tryd.prog 36 #[.slice A l.length c] w fun e w' => e = .returned (.tuple #[.string (tb (joinS (l.map tl)).1), .int .i64 (joinS (l.map tl)).2]) ∧ Below w.heap.size w w' := by
  have HR := Lib.hid hr
  have HC := Lib.hid hc
  clear hr hc
  by_cases k : chk (l.map tl) = 0
  rotate_left
  · have HF : Hid (joinS (l.map tl) = ([], chk (l.map tl))) := Lib.hid (by unfold joinS; rw [if_pos k])
    have k' : (chk (l.map tl) != 0) = true := by simpa using k
    clear k
    go_enter Tryd.func36, Tryd.ntmps36
    go_wp2_with fail
    refine (check_any A c l _ HR.out hl).mono ?_
    rintro e w1 ⟨rfl, hb⟩
    have hB := Lib.hid hb
    clear hb
    go_wp2
    go_ret2
    exact ⟨ret_si (by rw [HF.out]; rfl) (by rw [HF.out]), hB.out⟩
  have hj : joinS (l.map tl) = if (joinL (l.map tl)).length > 256 then ([], 5) else (joinL (l.map tl), 0) := by unfold joinS; rw [if_neg (by simpa using k)]
  have HK := Lib.hid k
  obtain ⟨x, hx1, hx2, hx3⟩ : ∃ x : ByteArray, Hid ((⟨#[47]⟩ : ByteArray) ++ x = tb (joinL (l.map tl))) ∧ x.size ≤ 1000000000 ∧ Hid (∀ W : World, Below w.heap.size w W → Calls Tryd.prog 51 #[.slice A l.length c, .string ⟨#[47]⟩] W fun e w' => e = .returned (.string x) ∧ Below W.heap.size W w') := by
    cases l with
    | nil => exact ⟨⟨#[]⟩, Lib.hid rfl, by decide, Lib.hid (fun W _ => (Tryd.strings_Join_none A c ⟨#[47]⟩ W).mono fun _ _ ⟨he, hw⟩ => ⟨he, by rw [hw]; exact Below.refl _ _⟩)⟩
    | cons p ps =>
      rcases HR.out with h | ⟨b, o, rfl, hcell⟩
      · exact absurd h (by simp)
      have ej : 47 :: Lib.join ((p :: ps).map (·.data.toList)) (⟨#[47]⟩ : ByteArray).data.toList = joinL ((p :: ps).map tl) := by
        unfold joinL
        rw [if_neg (by simp)]
        exact inter_flat (tl p) (ps.map tl)
      have hfl : (joinL ((p :: ps).map tl)).length ≤ 1000000000 := by
        unfold joinL
        rw [if_neg (by simp), ← flatS_map]
        exact hf
      have hsz : (Lib.join ((p :: ps).map (·.data.toList)) (⟨#[47]⟩ : ByteArray).data.toList).length ≤ 1000000000 := by
        rw [← ej, List.length_cons] at hfl; omega
      refine ⟨tb (Lib.join ((p :: ps).map (·.data.toList)) (⟨#[47]⟩ : ByteArray).data.toList), Lib.hid ?_, by rw [← tl_len, tl_tb]; exact hsz, Lib.hid (fun W hW => ?_)⟩
      · rw [← ej]
        apply tl_inj.1
        rw [tl_append, tl_tb, tl_tb]; rfl
      · have hcW : ∀ j x, (p :: ps)[j]? = some x → W.cell? ⟨b, o + j, none⟩ = some (.string x) := fun j x hjx => keepC hW (hcell j x hjx)
        exact Tryd.strings_Join b o c (p :: ps) ⟨#[47]⟩ W hcW (World.block_lt_of_cell? _ _ (hcW 0 p rfl)) (by omega) HC.out (by omega)
  have hsz : ((⟨#[47]⟩ : ByteArray) ++ x).size = x.size + 1 := by rw [ByteArray.size_append]; exact Nat.add_comm _ _
  have hlen : (joinL (l.map tl)).length = x.size + 1 := by
    have h2 : (tl ((⟨#[47]⟩ : ByteArray) ++ x)).length = (joinL (l.map tl)).length := by rw [hx1.out, tl_tb]
    rw [tl_len, hsz] at h2
    exact h2.symm
  rw [hlen] at hj
  have HJ := Lib.hid hj
  have HSZ := Lib.hid hsz
  clear hj hlen hsz k
  by_cases k2 : x.size + 1 > 256
  · have HF : Hid (joinS (l.map tl) = ([], 5)) := Lib.hid (by rw [HJ.out, if_pos k2])
    have k3 : (256 : Int) < ((x.size : Int) + 1) := by omega
    go_enter Tryd.func36, Tryd.ntmps36
    go_wp2_with fail
    refine (check_any A c l _ HR.out hl).mono ?_
    rintro e w1 ⟨rfl, hb⟩
    rw [HK.out]
    have hB := Lib.hid hb
    clear hb
    go_wp2_with fail
    refine (hx3.out _ hB.out).mono ?_
    rintro e w2 ⟨rfl, hb⟩
    have hB2 := Lib.hid (bt hB.out hb)
    clear hb
    go_wp2
    go_ret2
    exact ⟨ret_si (by rw [HF.out]; rfl) (by rw [HF.out]), hB2.out⟩
  · have HF : Hid (joinS (l.map tl) = (joinL (l.map tl), 0)) := Lib.hid (by rw [HJ.out, if_neg k2])
    have k3 : ((x.size : Int) + 1) ≤ (256 : Int) := by omega
    go_enter Tryd.func36, Tryd.ntmps36
    go_wp2_with fail
    refine (check_any A c l _ HR.out hl).mono ?_
    rintro e w1 ⟨rfl, hb⟩
    rw [HK.out]
    have hB := Lib.hid hb
    clear hb
    go_wp2_with fail
    refine (hx3.out _ hB.out).mono ?_
    rintro e w2 ⟨rfl, hb⟩
    have hB2 := Lib.hid (bt hB.out hb)
    clear hb
    go_wp2
    go_ret2
    exact ⟨ret_si (by rw [HF.out, ← hx1.out]) (by rw [HF.out]), hB2.out⟩

theorem joinL_pos (ps : List (List UInt8)) : 1 ≤ (joinL ps).length := by
  unfold joinL
  cases ps with
  | nil => simp
  | cons p ps => simp [List.flatMap_cons]
/-- The names of a path without its last one: what Join makes of them. -/
theorem join_up {l : List UInt8} (h : (splitL l).2 = 0) (_hn : (splitL l).1 ≠ []) : joinS (splitL l).1.dropLast = (joinL (splitL l).1.dropLast, 0) := by
  obtain ⟨h1, h2, h3⟩ := split_ok h
  obtain ⟨h4, h5⟩ := chk_zero h1
  have hc : chk (splitL l).1.dropLast = 0 := by
    unfold chk
    rw [if_pos (List.all_eq_true.2 fun x hx => List.all_eq_true.1 h4 x (List.dropLast_subset _ hx)), if_neg (by simp; omega)]
  have hle : (joinL (splitL l).1.dropLast).length ≤ 256 := by
    have := join_take_len (splitL l).1 ((splitL l).1.length - 1) (joinL_pos _)
    rw [← List.dropLast_eq_take, h2] at this
    omega
  unfold joinS
  rw [if_neg (by simpa using hc), if_neg (by omega)]

theorem split_bad {l : List UInt8} (h : ¬ (splitL l).2 = 0) : (splitL l).1 = [] := by
  unfold splitL at h ⊢
  by_cases c1 : l.length > 256
  · rw [if_pos c1]
  rw [if_neg c1] at h ⊢
  cases l with
  | nil => rfl
  | cons c r =>
    dsimp only at h ⊢
    by_cases c2 : c ≠ 47
    · rw [if_pos c2]
    rw [if_neg c2] at h ⊢
    by_cases c3 : r = []
    · rw [if_pos c3]
    rw [if_neg c3] at h ⊢
    by_cases c4 : (cut r).all nmL = true
    · rw [if_pos c4] at h ⊢
      by_cases c5 : (cut r).length > 8
      · rw [if_pos c5]
      · rw [if_neg c5] at h; exact absurd rfl h
    · rw [if_neg c4]

theorem RdS.take {w : World} {A : Option Addr} {l : List ByteArray} (h : RdS w A l) (n : Nat) : RdS w A (l.take n) := by
  rcases h with rfl | ⟨b, o, e, h⟩
  · exact .inl (by simp)
  · refine .inr ⟨b, o, e, fun j x hj => ?_⟩
    rw [List.getElem?_take] at hj
    split at hj
    · exact h j x hj
    · exact absurd hj (by simp)

set_option maxHeartbeats 1000000 in
theorem parent_any (s : ByteArray) (m : Int) (w : World) (hm : w.cell? ⟨0, 0, none⟩ = some (.int .i64 m)) :
    Calls Tryd.prog 31 #[.string s] w fun e w' => e = .returned (.tuple #[.string (tb (parentS (tl s)).1), .string (tb (parentS (tl s)).2.1), .int .i64 (parentS (tl s)).2.2]) ∧ Below w.heap.size w w' := by
  have HM := Lib.hid hm
  clear hm
  by_cases k : (splitL (tl s)).2 = 0
  rotate_left
  · have HF : Hid (parentS (tl s) = ([], [], (splitL (tl s)).2)) := Lib.hid (by unfold parentS; rw [if_pos k])
    have k1 : ((splitL (tl s)).2 == 0) = false := by simpa using k
    have k2 : ((splitL (tl s)).2 != 0) = true := by simpa using k
    have HN := Lib.hid k
    clear k
    go_enter Tryd.func31, Tryd.ntmps31
    go_wp2_with fail
    refine (split_any s m _ HM.out).mono ?_
    rintro e w1 ⟨A, c, rfl, hR, hc, hb⟩
    have hB := Lib.hid hb
    have hne : (splitL (tl s)).1 = [] := split_bad HN.out
    rw [hne]
    clear hb hc hR hne
    go_wp2
    go_ret3
    exact ⟨by rw [HF.out]; rfl, hB.out⟩
  by_cases k3 : (splitL (tl s)).1 = []
  · have HF : Hid (parentS (tl s) = ([], [], 12)) := Lib.hid (by unfold parentS; rw [if_neg (by simpa using k), if_pos k3])
    have HK := Lib.hid k
    have HK3 := Lib.hid k3
    clear k k3
    go_enter Tryd.func31, Tryd.ntmps31
    go_wp2_with fail
    refine (split_any s m _ HM.out).mono ?_
    rintro e w1 ⟨A, c, rfl, hR, hc, hb⟩
    have hB := Lib.hid hb
    rw [HK.out, HK3.out]
    clear hb hc hR
    go_wp2
    go_ret3
    exact ⟨by rw [HF.out]; rfl, hB.out⟩
  have HF : Hid (parentS (tl s) = (joinL (splitL (tl s)).1.dropLast, (splitL (tl s)).1.getLastD [], 0)) := Lib.hid (by unfold parentS; rw [if_neg (by simpa using k), if_neg k3])
  have HU := Lib.hid (join_up k k3)
  obtain ⟨h8, hf8⟩ := split_small k
  have HK := Lib.hid k
  obtain ⟨n, hn⟩ : ∃ n, ((splitL (tl s)).1.map tb).length = n + 1 := ⟨((splitL (tl s)).1.map tb).length - 1, by have := List.length_pos_iff.2 k3; simp; omega⟩
  have hn8 : n ≤ 8 := by simp at hn; omega
  obtain ⟨ps, hps⟩ : ∃ ps, (splitL (tl s)).1.map tb = ps := ⟨_, rfl⟩
  have htake : Hid (((ps.take n).map tl) = (splitL (tl s)).1.dropLast) := Lib.hid (by
    rw [← hps, ← List.map_take, map_tl_tb, List.dropLast_eq_take]
    congr 1
    simp at hn; omega)
  have hlast : Hid (∀ (h : n < ps.length), ps[n] = tb ((splitL (tl s)).1.getLastD [])) := Lib.hid (by
    subst hps
    intro h
    rw [List.getElem_map]
    congr 1
    rw [List.getLastD_eq_getLast?, List.getLast?_eq_getElem?]
    simp at hn
    rw [show (splitL (tl s)).1.length - 1 = n by omega, List.getElem?_eq_getElem (by omega)]; rfl)
  have hflat : Hid ((flatS (ps.take n)).length ≤ 1000000000) := Lib.hid (by
    have := flatS_len ps n
    have h2 : (flatS ps).length ≤ 256 := by rw [← hps, flatS_map, map_tl_tb]; exact hf8
    omega)
  rw [hps] at hn
  have HPS := Lib.hid hps
  have HN := Lib.hid hn
  clear k k3 hps hn hf8 h8
  go_enter Tryd.func31, Tryd.ntmps31
  go_wp2_with fail
  refine (split_any s m _ HM.out).mono ?_
  rintro e w1 ⟨A, c, rfl, hR, hc, hb⟩
  have hB := Lib.hid hb
  rw [HPS.out] at hR hc ⊢
  rw [HN.out] at hc ⊢
  rw [HK.out]
  have HR := Lib.hid hR
  clear hb hR
  have hJ := fun W (hW : Below w1.heap.size w1 W) => Join_any A c (ps.take n) W ((RdS.take HR.out n).below hW) (by rw [List.length_take]; omega) (by rw [List.length_take]; omega) hflat.out
  have hlt : (ps.take n).length = n := by rw [List.length_take, HN.out]; omega
  rw [hlt, htake.out, HU.out] at hJ
  have HJ := Lib.hid hJ
  clear hJ hlt
  go_wp2_with fail
  refine (HJ.out _ (Below.refl _ _)).mono ?_
  rintro e w2 ⟨rfl, hb⟩
  have hB2 := Lib.hid (bt hB.out hb)
  obtain ⟨b, o, rfl, hcell⟩ := (HR.out.below hb).cell n (by rw [HN.out]; omega)
  have HLS : Hid (ps[n]'(by rw [HN.out]; omega) = tb ((splitL (tl s)).1.getLastD [])) := Lib.hid (hlast.out _)
  generalize ps[n]'(by rw [HN.out]; omega) = x at hcell HLS
  have i0 : (0 : Int) ≤ (n : Int) := by omega
  have i1 : (n : Int) < ((n + 1 : Nat) : Int) := by omega
  clear hb
  go_wp2_with fail
  go_quiet (fail)
  go_wp2
  go_ret3
  exact ⟨by rw [HF.out, HLS.out]; rfl, bt hB2.out (bdraw _ _)⟩
end Go.Proofs.YthgghgecpjnoiaaDoor.Pe
