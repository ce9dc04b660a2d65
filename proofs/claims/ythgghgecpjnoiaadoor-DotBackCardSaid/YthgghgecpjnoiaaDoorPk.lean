/- PathUnders walked: for every three rows of texts the law returns true. -/
import Derived.Test.YthgghgecpjnoiaaDoorPl
namespace Go.Proofs.YthgghgecpjnoiaaDoor.Pk
open Go.RowKit Go.Proofs.YthgghgecpjnoiaaDoor.Pl Go.Proofs.YthgghgecpjnoiaaDoor.Pb Go.Proofs.YthgghgecpjnoiaaDoor.Pc Go.Proofs.YthgghgecpjnoiaaDoor.Pd Go.Proofs.YthgghgecpjnoiaaDoor.Pe Go.Proofs.YthgghgecpjnoiaaDoor.Pf Go.Proofs.YthgghgecpjnoiaaDoor.Pg Go.Proofs.YthgghgecpjnoiaaDoor.Pi Go.Proofs.YthgghgecpjnoiaaDoor.Pj

theorem info9 : (Tryd.prog.info? 9).map (fun i => (i.zero, i.size, i.bytes)) = some (some (.string ByteArray.empty), 1, 16) := by kernel_rfl
/-- A row of texts of the call's own. -/
def OwnS (w : World) (base : Nat) (v : Value) (xs : List ByteArray) : Prop := w.ownsRow base 9 1 v xs.length (xs.map Value.string)
theorem OwnS.reads {w : World} {base : Nat} {v : Value} {xs : List ByteArray} (h : OwnS w base v xs) : ∃ A c, v = .slice A xs.length c ∧ RdS w A xs ∧ xs.length ≤ c := by
  obtain ⟨hl, h⟩ := h
  rcases h with ⟨rfl, h0⟩ | ⟨g, cap, cur, rfl, hg, hh, hn, hm, hs, ht⟩
  · exact ⟨none, 0, by rw [h0], .inl (List.length_eq_zero_iff.1 h0), by omega⟩
  · refine ⟨_, cap, rfl, .inr ⟨g, 0, rfl, fun j x hj => ?_⟩, hn⟩
    have hjl : j < xs.length := (List.getElem?_eq_some_iff.1 hj).1
    rw [Nat.zero_add]
    have e : w.cell? ⟨g, j, none⟩ = cur[j]? := by simp [World.cell?, hh]
    rw [e, ← Array.getElem?_toList]
    have : (cur.toList.take (xs.length * 1))[j]? = some (.string x) := by rw [ht]; simp [hj]
    rwa [List.getElem?_take_of_lt (by omega)] at this
theorem wpList_app {ops : Array Oper} {rest : List Oper} {o : Oper} {a : Act} {w : World} {Q : Exit → Act → World → Prop} (hgd : o.guard = none) (s x : Operand)
    (ho : o.op = .call { callee := .builtin .append, args := #[s, x], argTypes := #[27, 27] }) (base : Nat) (v : Value) (xs : List ByteArray) (hs : a.eval s = v) (hown : OwnS w base v xs)
    (A : Option Addr) (c : Nat) (l : List ByteArray) (hx : a.eval x = .slice A l.length c) (hr : RdS w A l) (hz : A = none → c = 0) (hn : xs.length + l.length ≤ 1000) (hbase : base ≤ w.heap.size)
    (h : ∀ v' w', OwnS w' base v' (xs ++ l) → Below base w w' → wpList Tryd.prog ops Q rest (a.put o.dst v') w') : wpList Tryd.prog ops Q (o :: rest) a w := by
  obtain ⟨i0, hi, hz0, hz1, hz2⟩ := info_parts info9
  cases A with
  | none =>
    have hl : l = [] := by
      rcases hr with h | ⟨b, o', h, _⟩
      · exact h
      · cases h
    subst hl
    rw [hz rfl] at hx
    refine wpList_append_own_none hgd s x 27 ho base 9 i0 1 Tryd.underlying27 hi v xs.length (xs.map Value.string) hs hown hx ?_
    exact h v w (by rw [List.append_nil]; exact hown) (Below.refl _ _)
  | some ad =>
    refine wpList_append_own w hgd s x 27 ho base 9 i0 (.string ByteArray.empty) 1 16 Tryd.underlying27 hi hz0 hz1 hz2 rfl (by decide) v xs.length (xs.map Value.string) hs hown ad l.length c (l.map Value.string) hx (by simp) ?_ (by simp [Value.oneCell']) (by unfold maxLen; omega) (by omega) hbase ?_
    · intro j u hj
      rcases hr with rfl | ⟨b, o', he, hcell⟩
      · simp at hj
      · obtain rfl := Option.some.inj he
        rw [List.getElem?_map] at hj
        cases hlj : l[j]? with
        | none => rw [hlj] at hj; cases hj
        | some y =>
          rw [hlj] at hj
          obtain rfl := Option.some.inj hj
          have := hcell j y hlj
          by_cases hj0 : j = 0
          · subst hj0; simpa [Addr.add] using this
          · simpa [Addr.add, hj0] using this
    · intro v' w' h1 h2 _
      refine h v' w' ?_ ?_
      · unfold OwnS
        rw [List.map_append, List.length_append]
        exact h1
      · exact (Below.refl base w).grown h2 hbase (fun k hk => Go.Proofs.YthgghgecpjnoiaaDoorW.PrintWords.own_base hown k hk)

theorem small_flat {l : List ByteArray} (h : ∀ x ∈ l, x.size ≤ 100) (hl : l.length ≤ 24) : (flatS l).length ≤ 1000000000 := by
  have := flat_bd l (fun x hx => by have := h x hx; omega)
  omega
theorem mem2 {a b : List ByteArray} (ha : ∀ x ∈ a, x.size ≤ 100) (hb : ∀ x ∈ b, x.size ≤ 100) : ∀ x ∈ a ++ b, x.size ≤ 100 := fun x hx => (List.mem_append.1 hx).elim (ha x) (hb x)
theorem flat2 {a b : List ByteArray} (ha : ∀ x ∈ a, x.size ≤ 100) (hb : ∀ x ∈ b, x.size ≤ 100) (h : a.length + b.length ≤ 24) : (flatS (a ++ b)).length ≤ 1000000000 := small_flat (mem2 ha hb) (by simpa using h)

set_option maxHeartbeats 4000000 in
set_option maxRecDepth 100000 in
theorem unders_walk (A B C : Option Addr) (ca cb cc : Nat) (a b c : List ByteArray) (m : Int) (w : World) (ha : RdS w A a) (hb0 : RdS w B b) (hc0 : RdS w C c) (la : a.length ≤ ca) (lb : b.length ≤ cb) (lc : c.length ≤ cc)
    (na : a.length ≤ 9223372036854775807) (nb : b.length ≤ 9223372036854775807) (nc : c.length ≤ 9223372036854775807) (za : A = none → ca = 0) (zb : B = none → cb = 0) (zc : C = none → cc = 0) (hm : w.cell? ⟨0, 0, none⟩ = some (.int .i64 m)) :
    Calls Tryd.prog 9 #[.slice A a.length ca, .slice B b.length cb, .slice C c.length cc] w fun e w' => e = .returned (.bool true) ∧ Below w.heap.size w w' := by
  have HM := Lib.hid hm
  have HA := Lib.hid ha
  have HB0 := Lib.hid hb0
  have HC0 := Lib.hid hc0
  have LA := Lib.hid la
  have LB := Lib.hid lb
  have LC := Lib.hid lc
  have ZA := Lib.hid za
  have ZB := Lib.hid zb
  have ZC := Lib.hid zc
  clear hm ha hb0 hc0 la lb lc za zb zc
  by_cases c1 : (8 : Int) < a.length
  · go_enter Tryd.func9, Tryd.ntmps9
    go_wp2_with fail
    refine (known_any m _ HM.out).mono ?_
    rintro e w1 ⟨rfl, hb⟩
    go_wp2
    go_ret
    exact ⟨rfl, hb⟩
  by_cases c2 : (8 : Int) < b.length
  · go_enter Tryd.func9, Tryd.ntmps9
    go_wp2_with fail
    refine (known_any m _ HM.out).mono ?_
    rintro e w1 ⟨rfl, hb⟩
    go_wp2
    go_ret
    exact ⟨rfl, hb⟩
  by_cases c3 : (8 : Int) < c.length
  · go_enter Tryd.func9, Tryd.ntmps9
    go_wp2_with fail
    refine (known_any m _ HM.out).mono ?_
    rintro e w1 ⟨rfl, hb⟩
    go_wp2
    go_ret
    exact ⟨rfl, hb⟩
  have l1 : (a.length : Int) ≤ 8 := by omega
  have l2 : (b.length : Int) ≤ 8 := by omega
  have l3 : (c.length : Int) ≤ 8 := by omega
  clear na nb nc c1 c2 c3
  go_enter Tryd.func9, Tryd.ntmps9
  go_wp2_with fail
  refine (known_any m _ HM.out).mono ?_
  rintro e w1 ⟨rfl, hb⟩
  have hB := Lib.hid hb
  have HA1 := Lib.hid (HA.out.below hb)
  have HB1 := Lib.hid (HB0.out.below hb)
  have HC1 := Lib.hid (HC0.out.below hb)
  clear hb HA HB0 HC0
  -- THE TABLE
  go_wp2_with fail
  have hbW : Below w1.heap.size w1 (w1.alloc (Obj.cells #[.slice A a.length ca, .slice B b.length cb, .slice C c.length cc] 27)) := (Below.refl _ _).alloc (Nat.le_refl _) _
  have k0 : (w1.alloc (Obj.cells #[.slice A a.length ca, .slice B b.length cb, .slice C c.length cc] 27)).cell? ⟨w1.heap.size, 0, none⟩ = some (.slice A a.length ca) := by rw [cell_of_block (heap_alloc_new w1 _)]; rfl
  have k1 : (w1.alloc (Obj.cells #[.slice A a.length ca, .slice B b.length cb, .slice C c.length cc] 27)).cell? ⟨w1.heap.size, 1, none⟩ = some (.slice B b.length cb) := by rw [cell_of_block (heap_alloc_new w1 _)]; rfl
  have k2 : (w1.alloc (Obj.cells #[.slice A a.length ca, .slice B b.length cb, .slice C c.length cc] 27)).cell? ⟨w1.heap.size, 2, none⟩ = some (.slice C c.length cc) := by rw [cell_of_block (heap_alloc_new w1 _)]; rfl
  have HA2 := Lib.hid (HA1.out.below hbW)
  have HB2 := Lib.hid (HB1.out.below hbW)
  have HC2 := Lib.hid (HC1.out.below hbW)
  have hB2 := Lib.hid (bt hB.out hbW)
  clear hbW HA1 HB1 HC1 hB
  generalize w1.alloc (Obj.cells #[.slice A a.length ca, .slice B b.length cb, .slice C c.length cc] 27) = W at k0 k1 k2 HA2 HB2 HC2 hB2 ⊢
  generalize w1.heap.size = Bs at k0 k1 k2 ⊢
  have HT : Hid (∀ k : Nat, k < 3 → ∃ A' c' l', [a, b, c][k]? = some l' ∧ W.cell? ⟨Bs, k, none⟩ = some (.slice A' l'.length c') ∧ RdS W A' l' ∧ (l'.length : Int) ≤ 8) := Lib.hid (by
    intro k hk
    match k, hk with
    | 0, _ => exact ⟨A, ca, a, rfl, k0, HA2.out, l1⟩
    | 1, _ => exact ⟨B, cb, b, rfl, k1, HB2.out, l2⟩
    | 2, _ => exact ⟨C, cc, c, rfl, k2, HC2.out, l3⟩)
  clear k0 k1 k2
  go_loop [39] (fun i => ∃ k : Nat, k ≤ 3 ∧ i = .int .i64 k ∧ Hid (∀ t ∈ [a, b, c].take k, ∀ x ∈ t, x.size ≤ 100)) (fun i => 3 - (intOf i).toNat)
  case atStart => exact ⟨0, by omega, rfl, Lib.hid (by simp)⟩
  case round =>
    obtain ⟨k, hk, rfl, HS⟩ := hrel
    by_cases hlt : k < 3
    · obtain ⟨A', c', l', hk', hcell, hR, hl8⟩ := HT.out k hlt
      have HR := Lib.hid hR
      have HK := Lib.hid hk'
      have i1 : (k : Int) < 3 := by omega
      clear hR hk'
      go_wp2_with fail
      go_loop [9] (fun i => ∃ j : Nat, j ≤ l'.length ∧ i = .int .i64 j ∧ Hid (∀ x ∈ l'.take j, x.size ≤ 100)) (fun i => l'.length - (intOf i).toNat)
      case atStart => exact ⟨0, by omega, rfl, Lib.hid (by simp)⟩
      case round =>
        obtain ⟨j, hj, rfl, HJ⟩ := hrel
        by_cases hjl : j < l'.length
        · obtain ⟨b', o', rfl, g⟩ := HR.out.cell j hjl
          by_cases hx : (100 : Int) < l'[j].size
          · generalize l'[j] = x at g hx
            go_wp2
            go_ret
            exact ⟨rfl, hB2.out⟩
          · have HS2 : Hid (∀ x ∈ l'.take (j + 1), x.size ≤ 100) := Lib.hid (by
              intro x hx2
              rw [List.take_succ_eq_append_getElem hjl] at hx2
              rcases List.mem_append.1 hx2 with h | h
              · exact HJ.out x h
              · rw [List.mem_singleton.1 h]; omega)
            generalize l'[j] = x at g hx
            go_wp2
            go_light
            exact ⟨⟨j + 1, by omega, by go_num, HS2⟩, by simp [intOf]; omega⟩
        · have HS3 : Hid (∀ t ∈ [a, b, c].take (k + 1), ∀ x ∈ t, x.size ≤ 100) := Lib.hid (by
            have h := HJ.out
            rw [List.take_of_length_le (by omega)] at h
            intro t ht
            rw [List.take_add_one] at ht
            rcases List.mem_append.1 ht with h2 | h2
            · exact HS.out t h2
            · rw [HK.out] at h2
              obtain rfl : t = l' := by simpa using h2
              exact h)
          go_wp2
          go_light
          exact ⟨⟨k + 1, by omega, by go_num, HS3⟩, by simp [intOf]; omega⟩
    · obtain ⟨sa, sb, sc⟩ : Hid (∀ x ∈ a, x.size ≤ 100) ∧ Hid (∀ x ∈ b, x.size ≤ 100) ∧ Hid (∀ x ∈ c, x.size ≤ 100) := by
        have h := HS.out
        rw [List.take_of_length_le (by simp; omega)] at h
        exact ⟨Lib.hid (h a (by simp)), Lib.hid (h b (by simp)), Lib.hid (h c (by simp))⟩
      clear HS HT
      go_wp2_with fail
      obtain ⟨ja, HJA⟩ : ∃ j, Hid (joinS (a.map tl) = j) := ⟨_, Lib.hid rfl⟩
      obtain ⟨jb, HJB⟩ : ∃ j, Hid (joinS ((a ++ b).map tl) = j) := ⟨_, Lib.hid rfl⟩
      obtain ⟨jc, HJC⟩ : ∃ j, Hid (joinS ((a ++ b ++ c).map tl) = j) := ⟨_, Lib.hid rfl⟩
      refine (Join_any A ca a _ HA2.out LA.out (by omega) (small_flat sa.out (by omega))).mono ?_
      rintro e w2 ⟨rfl, hb⟩
      rw [HJA.out]
      have hB3 := Lib.hid (bt hB2.out hb)
      have HA3 := Lib.hid (HA2.out.below hb)
      have HB3 := Lib.hid (HB2.out.below hb)
      have HC3 := Lib.hid (HC2.out.below hb)
      clear hb HA2 HB2 HC2 hB2
      have O0_w2 := Lib.hid (show OwnS (w2.alloc (Obj.cells #[] 9)) w2.heap.size (.slice (some ⟨w2.heap.size, 0, none⟩) 0 0) [] from World.ownsRow_made w2 #[] 0 (Nat.le_refl _) (by decide) rfl)
      have Z_w2 := Lib.hid ((Below.refl w2.heap.size w2).alloc (Nat.le_refl _) (Obj.cells #[] 9))
      go_wp2_with (first
        | (at_builtin; refine wpList_app rfl (.tmp 62) (.tmp 63) rfl w2.heap.size _ [] rfl O0_w2.out A ca a rfl (HA3.out.below Z_w2.out) ZA.out (by simp; omega) Z_w2.out.size ?_; intro v1 w3 ho_w3 hb_w3; have O_w3 := Lib.hid (show OwnS w3 w2.heap.size v1 ([] ++ a) from ho_w3); have Z_w3 := Lib.hid (Below.trans Z_w2.out hb_w3); clear ho_w3 hb_w3)
        | (at_builtin; refine wpList_app rfl (.tmp 64) (.tmp 65) rfl w2.heap.size _ ([] ++ a) rfl O_w3.out B cb b rfl (HB3.out.below Z_w3.out) ZB.out (by simp; omega) Z_w3.out.size ?_; intro v2 w4 ho_w4 hb_w4; have O_w4 := Lib.hid (show OwnS w4 w2.heap.size v2 (([] ++ a) ++ b) from ho_w4); have Z_w4 := Lib.hid (Below.trans Z_w3.out hb_w4); clear ho_w4 hb_w4))
      obtain ⟨A2, n2, rfl, hr2, hn2⟩ := OwnS.reads O_w4.out
      rw [List.nil_append] at hr2 hn2 ⊢
      refine (Join_any A2 n2 (a ++ b) _ hr2 hn2 (by simp; omega) (flat2 sa.out sb.out (by omega))).mono ?_
      rintro e w5 ⟨rfl, hb⟩
      rw [HJB.out]
      have hb' := Z_w4.out.trans (hb.mono Z_w4.out.size)
      have hB5 := Lib.hid (bt hB3.out hb')
      have HA5 := Lib.hid (HA3.out.below hb')
      have HB5 := Lib.hid (HB3.out.below hb')
      have HC5 := Lib.hid (HC3.out.below hb')
      clear hb hb' hr2 hn2 O0_w2 Z_w2 O_w3 Z_w3 O_w4 Z_w4 HA3 HB3 HC3 hB3
      have O0_w5 := Lib.hid (show OwnS (w5.alloc (Obj.cells #[] 9)) w5.heap.size (.slice (some ⟨w5.heap.size, 0, none⟩) 0 0) [] from World.ownsRow_made w5 #[] 0 (Nat.le_refl _) (by decide) rfl)
      have Z_w5 := Lib.hid ((Below.refl w5.heap.size w5).alloc (Nat.le_refl _) (Obj.cells #[] 9))
      go_wp2_with (first
        | (at_builtin; refine wpList_app rfl (.tmp 71) (.tmp 72) rfl w5.heap.size _ [] rfl O0_w5.out A ca a rfl (HA5.out.below Z_w5.out) ZA.out (by simp; omega) Z_w5.out.size ?_; intro v3 w6 ho_w6 hb_w6; have O_w6 := Lib.hid (show OwnS w6 w5.heap.size v3 ([] ++ a) from ho_w6); have Z_w6 := Lib.hid (Below.trans Z_w5.out hb_w6); clear ho_w6 hb_w6)
        | (at_builtin; refine wpList_app rfl (.tmp 73) (.tmp 74) rfl w5.heap.size _ ([] ++ a) rfl O_w6.out B cb b rfl (HB5.out.below Z_w6.out) ZB.out (by simp; omega) Z_w6.out.size ?_; intro v4 w7 ho_w7 hb_w7; have O_w7 := Lib.hid (show OwnS w7 w5.heap.size v4 (([] ++ a) ++ b) from ho_w7); have Z_w7 := Lib.hid (Below.trans Z_w6.out hb_w7); clear ho_w7 hb_w7)
        | (at_builtin; refine wpList_app rfl (.tmp 75) (.tmp 76) rfl w5.heap.size _ ([] ++ a ++ b) rfl O_w7.out C cc c rfl (HC5.out.below Z_w7.out) ZC.out (by simp; omega) Z_w7.out.size ?_; intro v5 w8 ho_w8 hb_w8; have O_w8 := Lib.hid (show OwnS w8 w5.heap.size v5 (([] ++ a ++ b) ++ c) from ho_w8); have Z_w8 := Lib.hid (Below.trans Z_w7.out hb_w8); clear ho_w8 hb_w8))
      obtain ⟨A3, n3, rfl, hr3, hn3⟩ := OwnS.reads O_w8.out
      rw [List.nil_append] at hr3 hn3 ⊢
      refine (Join_any A3 n3 (a ++ b ++ c) _ hr3 hn3 (by simp; omega) (small_flat (mem2 (mem2 sa.out sb.out) sc.out) (by simp; omega))).mono ?_
      rintro e w9 ⟨rfl, hb⟩
      rw [HJC.out]
      have hb' := Z_w8.out.trans (hb.mono Z_w8.out.size)
      have hB9 := Lib.hid (bt hB5.out hb')
      clear hb hb' hr3 hn3 O0_w5 Z_w5 O_w6 Z_w6 O_w7 Z_w7 O_w8 Z_w8 HA5 HB5 HC5 hB5
      -- JOINED
      by_cases k1 : ja.2 = 0
      rotate_left
      · go_wp2
        go_ret
        exact ⟨rfl, hB9.out⟩
      by_cases k2 : jb.2 = 0
      rotate_left
      · go_wp2
        go_ret
        exact ⟨rfl, hB9.out⟩
      by_cases k3 : jc.2 = 0
      rotate_left
      · go_wp2
        go_ret
        exact ⟨rfl, hB9.out⟩
      obtain ⟨u1, u2, u3, u4, u5⟩ := under_facts HJA.out HJB.out HJC.out k1 k2 k3
      have U1 := Lib.hid u1
      have U2 := Lib.hid u2
      have U3 := Lib.hid u3
      have U4 := Lib.hid u4
      have U5 : ∃ z : Bool, Hid (underS (tl (tb jb.1)) (tl (tb ja.1)) = z) ∧ Hid ((b.length = 0) ↔ z = true) := ⟨_, Lib.hid u5, Lib.hid (by simp)⟩
      clear u1 u2 u3 u4 u5
      obtain ⟨z, U5, Z5⟩ := U5
      go_wp2_with fail
      refine (under_any (tb ja.1) (tb ja.1) m _ (keepC hB9.out HM.out)).mono ?_
      rintro e w10 ⟨rfl, hb⟩
      rw [U1.out]
      have hB10 := Lib.hid (bt hB9.out hb)
      clear hb
      go_wp2_with fail
      refine (under_any (tb ja.1) (tb jb.1) m _ (keepC hB10.out HM.out)).mono ?_
      rintro e w11 ⟨rfl, hb⟩
      rw [U2.out]
      have hB11 := Lib.hid (bt hB10.out hb)
      clear hb
      go_wp2_with fail
      refine (under_any (tb jb.1) (tb jc.1) m _ (keepC hB11.out HM.out)).mono ?_
      rintro e w12 ⟨rfl, hb⟩
      rw [U3.out]
      have hB12 := Lib.hid (bt hB11.out hb)
      clear hb
      go_wp2_with fail
      refine (under_any (tb ja.1) (tb jc.1) m _ (keepC hB12.out HM.out)).mono ?_
      rintro e w13 ⟨rfl, hb⟩
      rw [U4.out]
      have hB13 := Lib.hid (bt hB12.out hb)
      clear hb
      go_wp2_with fail
      refine (under_any (tb jb.1) (tb ja.1) m _ (keepC hB13.out HM.out)).mono ?_
      rintro e w14 ⟨rfl, hb⟩
      rw [U5.out]
      have hB14 := Lib.hid (bt hB13.out hb)
      clear hb
      clear U1 U2 U3 U4 U5
      have HZ : Hid (((b.length : Int) = 0 ∧ z = true) ∨ (¬ (b.length : Int) = 0 ∧ z = false)) := Lib.hid (by
        by_cases h : b.length = 0
        · exact .inl ⟨by omega, Z5.out.1 h⟩
        · refine .inr ⟨by omega, ?_⟩
          cases z
          · rfl
          · exact absurd (Z5.out.2 rfl) h)
      clear Z5
      by_cases hn : a ++ b ++ c = []
      · obtain ⟨e1, e2, e3⟩ := parent_zero HJC.out k3 hn
        have E1 := Lib.hid e1
        have E2 := Lib.hid e2
        have E3 := Lib.hid e3
        have T : (a.length : Int) + b.length + c.length = 0 := by have := congrArg List.length hn; rw [List.length_append, List.length_append, List.length_nil] at this; omega
        clear e1 e2 e3 hn
        obtain ⟨h0, rfl⟩ | ⟨h0, rfl⟩ := HZ.out
        rotate_left
        · omega
        clear HZ
        go_wp2_with fail
        refine (parent_any _ m _ (keepC hB14.out HM.out)).mono ?_
        rintro e w15 ⟨rfl, hb⟩
        rw [E1.out, E2.out, E3.out]
        have hB15 := Lib.hid (bt hB14.out hb)
        clear hb
        go_wp2
        go_ret
        exact ⟨rfl, hB15.out⟩
      · obtain ⟨xu, xl, e1, e2, e3, v1, v2, s1, s2, hor⟩ := parent_facts HJC.out k3 hn
        have E1 := Lib.hid e1
        have E2 := Lib.hid e2
        have E3 := Lib.hid e3
        have V1 := Lib.hid v1
        have V2 := Lib.hid v2
        have HO := Lib.hid hor
        have T : ¬ (a.length : Int) + b.length + c.length = 0 := by
          intro h
          apply hn
          apply List.length_eq_zero_iff.1
          rw [List.length_append, List.length_append]
          omega
        clear e1 e2 e3 v1 v2 hor hn
        obtain ⟨W14, q, hq⟩ : ∃ W14 : World, ∃ q : Hid (Below w.heap.size w W14), W14 = w14 := ⟨w14, hB14, rfl⟩
        subst hq
        obtain ⟨h0, rfl⟩ | ⟨h0, rfl⟩ := HZ.out
        all_goals clear HZ
        all_goals go_wp2_with fail
        all_goals refine (parent_any _ m _ (keepC hB14.out HM.out)).mono ?_
        all_goals rintro e w15 ⟨rfl, hb⟩
        all_goals rw [E1.out, E2.out, E3.out]
        all_goals have hB15 := Lib.hid (bt hB14.out hb)
        all_goals clear hb E1 E2 E3
        all_goals go_wp2_with fail
        all_goals refine (under_any xu (tb jc.1) m _ (keepC hB15.out HM.out)).mono ?_
        all_goals rintro e w16 ⟨rfl, hb⟩
        all_goals rw [V1.out]
        all_goals have hB16 := Lib.hid (bt hB15.out hb)
        all_goals clear hb
        all_goals go_wp2_with fail
        all_goals refine (under_any (tb jc.1) xu m _ (keepC hB16.out HM.out)).mono ?_
        all_goals rintro e w17 ⟨rfl, hb⟩
        all_goals rw [V2.out]
        all_goals have hB17 := Lib.hid (bt hB16.out hb)
        all_goals clear hb V1 V2
        all_goals generalize tb jc.1 = xc at HO ⊢
        all_goals obtain ⟨rfl, rfl⟩ | ⟨hne, rfl⟩ := HO.out
        all_goals go_wp2
        all_goals go_ret
        all_goals exact ⟨rfl, hB17.out⟩
end Go.Proofs.YthgghgecpjnoiaaDoor.Pk
