/- The laws' own example of layer 10 comes out as it says; the reference's functions and 'texts' as contracts. -/
import Derived.Test.YthgghgecpjnoiaaDoorPf
namespace Go.Proofs.YthgghgecpjnoiaaDoor.Pg
open Go.RowKit Go.Proofs.YthgghgecpjnoiaaDoor.Pb Go.Proofs.YthgghgecpjnoiaaDoor.Pc Go.Proofs.YthgghgecpjnoiaaDoor.Pd Go.Proofs.YthgghgecpjnoiaaDoor.Pe Go.Proofs.YthgghgecpjnoiaaDoor.Pf Go.Proofs.YthgghgecpjnoiaaDoor.PPath Go.Proofs.YthgghgecpjnoiaaDoorW.PrintWords Go.Proofs.YthgghgecpjnoiaaDoorW.PrintLast Go.Proofs.YthgghgecpjnoiaaDoorW.PrintMore

def kA : ByteArray := ⟨#[47, 97, 47, 98, 46, 99]⟩
set_option maxHeartbeats 2000000 in
theorem known_any (m : Int) (w : World) (hm : w.cell? ⟨0, 0, none⟩ = some (.int .i64 m)) :
    Calls Tryd.prog 28 #[] w fun e w' => e = .returned (.bool true) ∧ Below w.heap.size w w' := by
  have HM := Lib.hid hm
  have e1 : Hid (splitL (tl ⟨#[47, 97, 47, 98, 46, 99]⟩) = ([[97], [98, 46, 99]], 0)) := Lib.hid (by decide)
  have e2 : Hid (tb (parentS (tl ⟨#[47, 97, 47, 98, 46, 99]⟩)).1 = ⟨#[47, 97]⟩ ∧ tb (parentS (tl ⟨#[47, 97, 47, 98, 46, 99]⟩)).2.1 = ⟨#[98, 46, 99]⟩ ∧ (parentS (tl ⟨#[47, 97, 47, 98, 46, 99]⟩)).2.2 = 0) := Lib.hid (by decide)
  have e3 : Hid (tb (joinS ([⟨#[120]⟩, ⟨#[121]⟩].map tl)).1 = ⟨#[47, 120, 47, 121]⟩ ∧ (joinS ([⟨#[120]⟩, ⟨#[121]⟩].map tl)).2 = 0) := Lib.hid (by decide)
  have e4 : Hid (underS (tl ⟨#[47, 97]⟩) (tl ⟨#[47, 97, 47, 98]⟩) = true) := Lib.hid (by decide)
  have e5 : Hid (underS (tl ⟨#[47, 97]⟩) (tl ⟨#[47, 97, 98]⟩) = false) := Lib.hid (by decide)
  clear hm
  go_enter Tryd.func28, Tryd.ntmps28
  go_wp2_with fail
  refine (split_any _ m _ HM.out).mono ?_
  rintro e w1 ⟨A, c, rfl, hR, hc, hb⟩
  rw [e1.out] at hR hc ⊢
  have hB := Lib.hid hb
  obtain ⟨b, o, rfl, g⟩ := RdS.cell hR 1 (by decide)
  have G := Lib.hid (show w1.cell? ⟨b, o + 1, none⟩ = some (.string ⟨#[98, 46, 99]⟩) from g)
  clear hR g hb
  go_wp2_with fail
  refine (parent_any _ m _ (keepC hB.out HM.out)).mono ?_
  rintro e w2 ⟨rfl, hb⟩
  rw [e2.out.1, e2.out.2.1, e2.out.2.2]
  have hB2 := Lib.hid (bt hB.out hb)
  have G2 := Lib.hid (keepC hb G.out)
  clear hb G
  go_wp2_with fail
  have hrd : RdS (w2.alloc (Obj.cells #[.string ⟨#[120]⟩, .string ⟨#[121]⟩] 9)) (some ⟨w2.heap.size, 0, none⟩) [⟨#[120]⟩, ⟨#[121]⟩] := rdS_new w2 [⟨#[120]⟩, ⟨#[121]⟩]
  refine (Join_any (some ⟨w2.heap.size, 0, none⟩) 2 [⟨#[120]⟩, ⟨#[121]⟩] _ hrd (by decide) (by decide) (by decide)).mono ?_
  rintro e w3 ⟨rfl, hb⟩
  rw [e3.out.1, e3.out.2]
  have hb' := ((Below.refl w2.heap.size w2).alloc (Nat.le_refl _) (Obj.cells #[.string ⟨#[120]⟩, .string ⟨#[121]⟩] 9)).trans (hb.mono (by simp))
  have hB3 := Lib.hid (bt hB2.out hb')
  have g3 := keepC hb' G2.out
  clear hb hb' G2 hrd
  go_wp2_with fail
  refine (under_any _ _ m _ (keepC hB3.out HM.out)).mono ?_
  rintro e w4 ⟨rfl, hb⟩
  rw [e4.out]
  have hB4 := Lib.hid (bt hB3.out hb)
  clear hb
  go_wp2_with fail
  refine (under_any _ _ m _ (keepC hB4.out HM.out)).mono ?_
  rintro e w5 ⟨rfl, hb⟩
  rw [e5.out]
  have hB5 := Lib.hid (bt hB4.out hb)
  clear hb
  go_wp2
  go_ret
  exact ⟨rfl, hB5.out⟩

theorem rdS_own {w : World} {base c : Nat} {A : Option Addr} {xs : List ByteArray} {inner : List Value} (hC : Kd.C Kd.string w A xs.length xs) (ho : w.ownsRow base 9 1 (.slice A xs.length c) xs.length inner) : RdS w A xs := by
  by_cases h0 : xs = []
  · exact .inl h0
  have hp : 0 < xs.length := List.length_pos_iff.2 h0
  obtain ⟨g, cap, he, _, _⟩ := ho.form hp
  injection he with hA _ _
  subst hA
  obtain ⟨_, _, h3⟩ := hC
  obtain ⟨ad, had, hcell⟩ := h3 hp
  obtain rfl := Option.some.inj had
  refine .inr ⟨g, 0, rfl, fun j x hj => ?_⟩
  obtain ⟨cs, _, hk, hcs⟩ := hcell j x hj
  have hk' : cs = [.string x] := hk
  subst hk'
  have := hcs 0 (.string x) rfl
  simp only [Kd.string, Kd.scalar, Nat.mul_one, Nat.add_zero] at this
  by_cases hj0 : j = 0
  · subst hj0; simpa [Addr.add] using this
  · simpa [Addr.add, hj0] using this
/-- A row of texts that came in or was made, for the printed contracts. -/
theorem rdS_C {w : World} {A : Option Addr} {l : List ByteArray} (h : RdS w A l) (hl : l.length ≤ 1000000) : Kd.C Kd.string w A l.length l := by
  refine ⟨rfl, by omega, fun hp => ?_⟩
  rcases h with rfl | ⟨b, o, rfl, hc⟩
  · exact absurd hp (by simp)
  refine ⟨_, rfl, fun j x hj => ⟨[.string x], rfl, rfl, fun i u hi => ?_⟩⟩
  obtain rfl : i = 0 := by
    rcases i with _ | i
    · rfl
    · simp at hi
  obtain rfl : Value.string x = u := by simpa using hi
  have := hc j x hj
  simp only [Kd.string, Kd.scalar, Nat.mul_one, Nat.add_zero]
  by_cases hj0 : j = 0
  · subst hj0; simpa [Addr.add] using this
  · simpa [Addr.add, hj0] using this
theorem texts_any (A : Option Addr) (c : Nat) (l : List ByteArray) (A2 : Option Addr) (c2 : Nat) (l2 : List ByteArray) (w : World) (h : RdS w A l) (h2 : RdS w A2 l2) (hc : l.length ≤ c) (hc2 : l2.length ≤ c2) (hl : l.length ≤ 100000) (hl2 : l2.length ≤ 100000) :
    Calls Tryd.prog 33 #[.slice A l.length c, .slice A2 l2.length c2] w fun e w' => e = .returned (.bool (decide (l = l2))) ∧ Below w.heap.size w w' :=
  (mailbaglaw10_texts.calls 100001 A c l A2 c2 l2 _ w (rdS_C h (by omega)) hc (rdS_C h2 (by omega)) hc2 (texts_eq l l2 hl 100001 (by omega))).mono fun _ _ ⟨he, hd⟩ => ⟨he, by obtain ⟨⟨n, rfl⟩⟩ := hd; exact bdraw _ _⟩
theorem rsplit_any (s : ByteArray) (w : World) : Calls Tryd.prog 30 #[.string s] w (SplitPost (tl s) w) :=
  (mailbagref10_Split.calls 700 s _ _ w (split_eq s 700 (Nat.le_refl _))).mono fun e w' ⟨v, he, hR, hb⟩ => by
    obtain ⟨A, c, rfl, hc, hC⟩ := Kd.R_reads hR
    obtain ⟨inner, ho⟩ := Kd.R_own hR
    exact ⟨A, c, he, rdS_own hC ho, hc, hb⟩
theorem rparent_any (s : ByteArray) (w : World) : Calls Tryd.prog 32 #[.string s] w fun e w' => e = .returned (.tuple #[.string (tb (parentS (tl s)).1), .string (tb (parentS (tl s)).2.1), .int .i64 (parentS (tl s)).2.2]) ∧ Below w.heap.size w w' :=
  mailbagref10_Parent.calls 700 s _ _ _ w (parent_eq s 700 (Nat.le_refl _))
theorem runder_any (s t : ByteArray) (w : World) : Calls Tryd.prog 35 #[.string s, .string t] w fun e w' => e = .returned (.bool (underS (tl s) (tl t))) ∧ Below w.heap.size w w' :=
  mailbagref10_Under.calls 700 s t _ w (under_eq s t 700 (Nat.le_refl _))
end Go.Proofs.YthgghgecpjnoiaaDoor.Pg
