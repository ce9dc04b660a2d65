/- The reference's Names walked: names put into a row that rises. The reference's Take, Move and Put walked: a row of slots copied, one of its slots written. -/
import Derived.Test.YtpdcjdangnfeiaaGreatDoorZb
import Derived.Test.YtpdcjdangnfeiaaGreatDoorZc
namespace Go.Proofs.YtpdcjdangnfeiaaGreatDoor.PPrf
open Go Go.RowKit in
theorem info106 : (Tryz.prog.info? 106).map (fun i => (i.zero, i.size, i.bytes)) = some (some (.agg #[(.string ⟨#[]⟩), (.int .i64 0)]), 2, 24) := by kernel_rfl
end Go.Proofs.YtpdcjdangnfeiaaGreatDoor.PPrf
section
open Go Go.RowKit Go.Proofs.YtpdcjdangnfeiaaGreatDoor.Pb Go.Proofs.YtpdcjdangnfeiaaGreatDoor.PPrf Go.Proofs.YtpdcjdangnfeiaaGreatDoorW.PrintWords Go.Proofs.YtpdcjdangnfeiaaGreatDoorW.PrintLast Go.Proofs.YtpdcjdangnfeiaaGreatDoorW.PrintMore Go.Proofs.YtpdcjdangnfeiaaGreatDoor.Qa Go.Proofs.YtpdcjdangnfeiaaGreatDoor.Tb Go.Proofs.YtpdcjdangnfeiaaGreatDoor.Rb Go.Proofs.YtpdcjdangnfeiaaGreatDoor.Ba Go.Proofs.YtpdcjdangnfeiaaGreatDoor.Rd Go.Proofs.YtpdcjdangnfeiaaGreatDoor.Te Go.Proofs.YtpdcjdangnfeiaaGreatDoor.Rq Go.Proofs.YtpdcjdangnfeiaaGreatDoor.Ui
namespace Go.Proofs.YtpdcjdangnfeiaaGreatDoor.Rc
theorem nmF_le : ∀ (S : List S106) (out : List ByteArray), (nmF out S).length ≤ out.length + S.length
  | [], out => by simp [nmF]
  | e :: S, out => by
    unfold nmF
    split
    · have := nmF_le S out; simp only [List.length_cons]; omega
    · have := nmF_le S (insR out e.f0); rw [insR_len] at this; simp only [List.length_cons]; omega
def strC (l : List ByteArray) : List Value := l.map Value.string
/-- A row of names of the call's own. -/
def OwnN (w : World) (base : Nat) (v : Value) (l : List ByteArray) : Prop := w.ownsRow base 9 1 v l.length (strC l)
theorem strC_one (l : List ByteArray) : ∀ u ∈ strC l, u.oneCell' = true := by
  intro u hu
  obtain ⟨x, -, rfl⟩ := List.mem_map.1 hu
  rfl
theorem OwnN.open {w : World} {base : Nat} {v : Value} {l : List ByteArray} (h : OwnN w base v l) : ∃ A c, v = .slice A l.length c ∧ l.length ≤ c ∧ (0 < l.length → ∃ q, A = some ⟨q, 0, none⟩ ∧ base ≤ q ∧ ∀ j (hj : j < l.length), w.cell? ⟨q, j, none⟩ = some (.string l[j])) := by
  obtain ⟨-, ⟨rfl, h0⟩ | ⟨q, c, cur, rfl, hq, hh, hn, hm, hs, ht⟩⟩ := h
  · exact ⟨none, 0, by rw [h0], by omega, fun h => by omega⟩
  · refine ⟨_, c, rfl, hn, fun _ => ⟨q, rfl, hq, fun j hj => ?_⟩⟩
    rw [cell_of_block hh]
    have h1 : (strC l)[j]? = some (.string l[j]) := by unfold strC; rw [List.getElem?_map, List.getElem?_eq_getElem hj]; rfl
    rw [← ht, List.getElem?_take_of_lt (by omega), Array.getElem?_toList] at h1
    exact h1
theorem rdN_mk {w : World} {b o : Nat} {l : List ByteArray} (hl : l.length ≤ 9223372036854775807) (h : ∀ j (hj : j < l.length), w.cell? ⟨b, o + j, none⟩ = some (.string l[j])) : RdN w (some ⟨b, o, none⟩) l := by
  refine ⟨rfl, hl, fun _ => ⟨_, rfl, fun j p hj => ?_⟩⟩
  obtain ⟨hlt, rfl⟩ := List.getElem?_eq_some_iff.1 hj
  refine ⟨[.string l[j]], rfl, rfl, fun i u hi => ?_⟩
  rw [Addr.add_lit]
  match i, hi with
  | 0, hi =>
    cases hi
    show w.cell? ⟨b, o + (j * 1 + 0), none⟩ = _
    rw [Nat.mul_one, Nat.add_zero]
    exact h j hlt
theorem OwnN.reads {w : World} {base : Nat} {v : Value} {l : List ByteArray} (h : OwnN w base v l) (hl : l.length ≤ 1000000) : ∃ A c, v = .slice A l.length c ∧ RdN w A l ∧ l.length ≤ c := by
  obtain ⟨A, c, e, hc, hr⟩ := h.open
  refine ⟨A, c, e, ?_, hc⟩
  by_cases h0 : 0 < l.length
  · obtain ⟨q, rfl, -, hq⟩ := hr h0
    exact rdN_mk (by omega) (fun j hj => by rw [Nat.zero_add]; exact hq j hj)
  · have : l = [] := List.eq_nil_of_length_eq_zero (by omega)
    subst this
    exact ⟨rfl, by simp, fun h => absurd h (by simp)⟩
theorem rdc9 {w : World} {A : Option Addr} {l : List ByteArray} (h : ReadsOf Value.string ByteArray.empty w A l.length l) : RdC w A l.length 1 (strC l) := by
  refine ⟨by simp [strC], strC_one l, fun h0 => ?_⟩
  obtain ⟨ad, e, hc⟩ := h.2.2 h0
  refine ⟨ad, e, fun j u hu => ?_⟩
  have hj : j < l.length := by
    have := (List.getElem?_eq_some_iff.1 hu).1
    simpa [strC] using this
  have := encs_get (enc := Value.string) (d := ByteArray.empty) l j hj
  rw [show encs Value.string l = strC l from rfl] at this
  rw [this] at hu
  cases hu
  exact hc j hj
theorem rs9 {w : World} {base : Nat} {A : Option Addr} {c : Nat} {l : List ByteArray} (h : OwnN w base (.slice A l.length c) l) (hl : l.length ≤ 1000000) : ReadsOf Value.string ByteArray.empty w A l.length l := by
  obtain ⟨A', c', e, -, hr⟩ := h.open
  simp only [Value.slice.injEq] at e
  obtain ⟨rfl, -, rfl⟩ := e
  refine ⟨rfl, by omega, fun h0 => ?_⟩
  obtain ⟨q, rfl, -, hq⟩ := hr h0
  refine ⟨_, rfl, fun j hj => ?_⟩
  rw [Addr.add_lit, Nat.zero_add, hq j hj, List.getD_eq_getElem?_getD, List.getElem?_eq_getElem hj]
  rfl
theorem OwnN.below {w w' : World} {base : Nat} {v : Value} {l : List ByteArray} (h : OwnN w base v l) (hb : Below w.heap.size w w') : OwnN w' base v l := own_move h fun k hk => hb.block k (own_lt h k hk)
set_option maxHeartbeats 16000000 in
set_option maxRecDepth 100000 in
theorem names_own {W : World} {A : Option Addr} {S : List S106} {c : Nat} (h : RdSl W A S) (hc : S.length ≤ c) (hl : S.length ≤ 1000000) : Calls Tryz.prog 50 #[.slice A S.length c] W fun e w' => ∃ v, e = .returned v ∧ OwnN w' W.heap.size v (nmR S) ∧ Below W.heap.size W w' := by
  obtain ⟨R, hR⟩ : ∃ R, nmF [] S = R := ⟨_, rfl⟩
  have e0 : nmR S = R := hR
  rw [e0]
  obtain ⟨n, hn⟩ : ∃ n, S.length = n := ⟨_, rfl⟩
  rw [hn] at hl ⊢
  have HS := Lib.hid h
  have HR := Lib.hid (show nmF [] (S.drop 0) = R from hR)
  have HN := Lib.hid hn
  have HO0 := Lib.hid (show OwnN W W.heap.size (.slice none 0 0) [] from ⟨rfl, .inl ⟨rfl, rfl⟩⟩)
  obtain ⟨i9, hi9, hz9⟩ := Option.map_eq_some_iff.1 PPrf.info9
  simp only [Prod.mk.injEq] at hz9
  have HI9 := Lib.hid hi9
  have HZ9 := Lib.hid hz9.2.1
  clear h hc hR e0 hn hi9 hz9
  go_enter Tryz.func50, Tryz.ntmps50
  go_wp2_with fail
  go_loopw [3, 4, 5, 6] (fun o i _ _ wr => ∃ (d : Nat) (out : List ByteArray), i = .int .i64 d ∧ d ≤ n ∧ Hid (OwnN wr W.heap.size o out) ∧ Hid (nmF out (S.drop d) = R) ∧ Hid (out.length ≤ d) ∧ Hid (Below W.heap.size W wr)) (fun _ i _ _ _ => n - (intOf i).toNat)
  case atStart => exact ⟨0, [], rfl, by omega, HO0, HR, Lib.hid (Nat.le_refl _), Lib.hid (Below.refl _ _)⟩
  case round =>
    obtain ⟨d, out, rfl, hd, HO, HV, HD, HB⟩ := hrel
    by_cases hlt : d < n
    · have j1 : (d : Int) < n := by omega
      have hds : d < S.length := by rw [HN.out]; exact hlt
      obtain ⟨sb, so, rfl, s0, -⟩ := (HS.out.below HB.out).cell d hds
      have hv := HV.out
      rw [List.drop_eq_getElem_cons hds] at hv
      obtain ⟨x, hx⟩ : ∃ x, S[d].f0 = x := ⟨_, rfl⟩
      unfold nmF at hv
      rw [hx] at hv s0
      have wd : IntKind.i64.wrap ((d : Int) + 1) = ((d + 1 : Nat) : Int) := by rw [IntKind.wrap_i64]; omega
      obtain ⟨ol, hol⟩ : ∃ k, out.length = k := ⟨_, rfl⟩
      obtain ⟨Ao, co, e1, hco, hro⟩ := HO.out.open
      subst e1
      rw [hol] at hco ⊢
      have HOL := Lib.hid hol
      have HCO := Lib.hid hco
      have hD := HD.out
      rw [hol] at hD
      by_cases cx : x = ByteArray.empty
      · rw [if_pos cx] at hv
        have hxe : (x.toList == []) = true := by rw [beq_iff_eq, ba_nil]; exact cx
        have HV2 := Lib.hid hv
        clear hv hx hro cx hol hds
        go_wp2
        go_roundw
        · exact ⟨d + 1, out, by go_num, hlt, by rw [← HOL.out]; exact HO, HV2, Lib.hid (by rw [HOL.out]; omega), HB⟩
        · simp [intOf]; omega
      · rw [if_neg cx] at hv
        have hxe : (x.toList == []) = false := by rw [beq_eq_false_iff_ne]; exact fun e => cx (ba_nil.1 e)
        have HV2 := Lib.hid hv
        have HRO := Lib.hid hro
        have HCX := Lib.hid cx
        clear hv hx hro cx hol hds
        go_wp2_with fail
        obtain ⟨w1, rfl⟩ : ∃ w1, w1 = wr := ⟨_, rfl⟩
        go_loopw [5] (fun k wq => ∃ j dd : Nat, k = .int .i64 j ∧ j ≤ ol ∧ Hid (∀ i (hi : i < out.length), i < j → ltN x out[i] = true) ∧ Hid (wq = w1.drewN dd)) (fun k _ => ol - (intOf k).toNat)
        case atStart => exact ⟨0, 0, rfl, by omega, Lib.hid (fun i _ h => absurd h (by omega)), Lib.hid rfl⟩
        case round =>
          obtain ⟨j, dd, rfl, hj, HJ, HW⟩ := hrel
          have wj : IntKind.i64.wrap ((j : Int) + 1) = ((j + 1 : Nat) : Int) := by rw [IntKind.wrap_i64]; omega
          have hWB : Below w1.heap.size w1 wr := HW.out ▸ bdraw w1 dd
          have n0 := keepC hWB s0
          have HWB := Lib.hid hWB
          by_cases hjl : j < ol
          · have k1 : (j : Int) < ol := by omega
            obtain ⟨qo, rfl, -, hq⟩ := HRO.out (by rw [HOL.out]; omega)
            have hjo : j < out.length := by rw [HOL.out]; exact hjl
            have c1 := keepC hWB (hq j hjo)
            obtain ⟨y, hy⟩ : ∃ y, out[j] = y := ⟨_, rfl⟩
            rw [hy] at c1
            cases hlt2 : ltN x y with
            | true =>
              have hless : Op.bytesLess y.toList x.toList = true := hlt2
              have HJ2 := Lib.hid (show ∀ i (hi : i < out.length), i < j + 1 → ltN x out[i] = true from fun i hi hij => by
                by_cases e : i = j
                · subst e; rw [hy]; exact hlt2
                · exact HJ.out i hi (by omega))
              clear hWB hq hy hlt2
              go_wp2_with fail
              go_quiet (fail)
              go_wp2
              go_roundw
              · exact ⟨j + 1, dd + nq, by go_num, by omega, HJ2, Lib.hid (by rw [HW.out, World.drewN_drewN])⟩
              · simp [intOf]; omega
            | false =>
              have hless : Op.bytesLess y.toList x.toList = false := hlt2
              have HST := Lib.hid (show ∀ hi : j < out.length, ltN x out[j] = false from fun hi => by rw [hy]; exact hlt2)
              clear hWB hq hy hlt2
              go_wp2_with fail
              go_quiet (fail)
              obtain ⟨wz, hwz⟩ : ∃ wz, wr.drewN nq = wz := ⟨_, rfl⟩
              rw [hwz]
              have hbz : Below w1.heap.size w1 wz := hwz ▸ HWB.out.trans ((bdraw wr nq).mono HWB.out.size)
              have n9 := keepC hbz s0
              have HBZ := Lib.hid (HB.out.trans (hbz.mono HB.out.size))
              have hoz := HO.out.below hbz
              have hrs := rs9 hoz (by rw [HOL.out]; omega)
              have hcol : out.length ≤ co := by rw [HOL.out]; exact HCO.out
              have hr1 := (print_take_of (P := Tryz.prog) Value.string ByteArray.empty 47 9 .i64 Tryz.underlying47 HI9.out HZ9.out (some ⟨qo, 0, none⟩) co out (j : Int) (by omega) (by rw [HOL.out]; omega) hcol)
              obtain ⟨A2, hr2, hd2, -⟩ := (print_drop_of (P := Tryz.prog) Value.string ByteArray.empty 47 9 .i64 Tryz.underlying47 HI9.out HZ9.out (some ⟨qo, 0, none⟩) co out (j : Int) (by omega) (by rw [HOL.out]; omega) hcol)
              have hrun1 := hr1.1
              have hrd1 := hr1.2.1 wz hrs
              have hrd2 := hd2 wz hrs
              rw [Int.toNat_natCast] at hrun1 hrd1 hr2 hrd2
              have hlt1 : (out.take j).length = j := by rw [List.length_take, HOL.out]; omega
              have hld1 : (out.drop j).length = ol - j := by rw [List.length_drop, HOL.out]
              rw [HOL.out, hlt1] at hrun1
              rw [HOL.out, hld1] at hr2
              have HINS := Lib.hid (show insR out x = out.take j ++ [x] ++ out.drop j from by
                obtain ⟨t1, t2⟩ := tw_take (ltN x) out j HJ.out HST.out (by rw [HOL.out]; exact hj)
                unfold insR
                rw [t1, t2])
              have HLT1 := Lib.hid hlt1
              have HLD1 := Lib.hid hld1
              have hrc1 := rdc9 hrd1
              rw [hlt1] at hrc1
              have HRD2 := Lib.hid hrd2
              have HKS := Lib.hid (show ∀ W, Below wz.heap.size wz W → (fun W : World => W.cell? ⟨sb, so + d * 2, none⟩ = some (.string x)) W from fun W hb => keepC hb n9)
              have HK0 := Lib.hid (kp0 (T := (fun W : World => W.cell? ⟨sb, so + d * 2, none⟩ = some (.string x))) HKS.out)
              have HXL := Lib.hid (show ∀ u ∈ [Value.string x], u.oneCell' = true from fun u hu => by rw [List.mem_singleton.1 hu]; rfl)
              have HBA := Lib.hid (show Below wz.heap.size wz (wz.alloc (Obj.cells #[] 9)).drew from ((Below.refl _ _).alloc (Nat.le_refl _) _).drew)
              have HBB := Lib.hid (show Below wz.heap.size wz ((wz.alloc (Obj.cells #[] 9)).alloc (Obj.cells #[.string x] 9)).drew from (((Below.refl _ _).alloc (Nat.le_refl _) _).alloc (by simp) _).drew)
              have HBC := Lib.hid (show Below wz.heap.size wz ((wz.alloc (Obj.cells #[.string x] 9)).alloc (Obj.cells #[] 9)).drew from (((Below.refl _ _).alloc (Nat.le_refl _) _).alloc (by simp) _).drew)
              have HOA := Lib.hid (show (wz.alloc (Obj.cells #[] 9)).drew.ownsRow wz.heap.size 9 1 (.slice (some ⟨wz.heap.size, 0, none⟩) 0 0) 0 [] from own_empty wz 9 1)
              have HOB := Lib.hid (show ((wz.alloc (Obj.cells #[] 9)).alloc (Obj.cells #[.string x] 9)).drew.ownsRow wz.heap.size 9 1 (.slice (some ⟨wz.heap.size, 0, none⟩) 0 0) 0 [] from own_alloc (own_empty wz 9 1) _)
              have HOC := Lib.hid (show ((wz.alloc (Obj.cells #[.string x] 9)).alloc (Obj.cells #[] 9)).drew.ownsRow wz.heap.size 9 1 (.slice (some ⟨wz.heap.size + 1, 0, none⟩) 0 0) 0 [] from by
                have := own_weaken (own_empty (wz.alloc (Obj.cells #[.string x] 9)) 9 1) (base' := wz.heap.size) (by simp)
                rw [World.size_alloc] at this
                exact this)
              have HRC := Lib.hid hrc1
              have HXB := Lib.hid (show RdC ((wz.alloc (Obj.cells #[] 9)).alloc (Obj.cells #[.string x] 9)).drew (some ⟨wz.heap.size + 1, 0, none⟩) 1 1 [.string x] from by
                have := rdc_lit (wz.alloc (Obj.cells #[] 9)) [.string x] 9 1 1 rfl HXL.out
                rw [World.size_alloc] at this
                exact this)
              have HXC := Lib.hid (show RdC ((wz.alloc (Obj.cells #[.string x] 9)).alloc (Obj.cells #[] 9)).drew (some ⟨wz.heap.size, 0, none⟩) 1 1 [.string x] from by
                have := rdc_lit wz [.string x] 9 1 1 rfl HXL.out
                exact (this.below ((Below.refl _ _).alloc (Nat.le_refl _) _)).below (Below.refl _ _).drew)
              have m1 : (wz.alloc (Obj.cells #[] 9)).cell? ⟨sb, so + d * 2, none⟩ = some (.string x) := keepC ((Below.refl _ _).alloc (Nat.le_refl _) _) n9
              have m2 : (wz.alloc (Obj.cells #[.string x] 9)).cell? ⟨sb, so + d * 2, none⟩ = some (.string x) := keepC ((Below.refl _ _).alloc (Nat.le_refl _) _) n9
              have m3 : ((wz.alloc (Obj.cells #[] 9)).alloc (Obj.cells #[.string x] 9)).cell? ⟨sb, so + d * 2, none⟩ = some (.string x) := keepC ((Below.refl _ _).alloc (Nat.le_refl _) _) m1
              have m4 : ((wz.alloc (Obj.cells #[.string x] 9)).alloc (Obj.cells #[] 9)).cell? ⟨sb, so + d * 2, none⟩ = some (.string x) := keepC ((Below.refl _ _).alloc (Nat.le_refl _) _) m2
              have jl : (j : Int) ≤ ol := by omega
              clear hwz hbz hoz hrs hcol hr1 hd2 hrd1 hrd2 hlt1 hld1 hrc1 n9
              go_wp2_with fail
              go_region_held3 (fun W : World => Below wz.heap.size wz W ∧ W.cell? ⟨sb, so + d * 2, none⟩ = some (.string x)) (first | assumption | exact kpC (T := (fun W : World => W.cell? ⟨sb, so + d * 2, none⟩ = some (.string x))) (by assumption) (by assumption) HKS.out | exact kp1 (T := (fun W : World => W.cell? ⟨sb, so + d * 2, none⟩ = some (.string x))) (by first | assumption | exact HK0.out) HKS.out | exact kpA (T := (fun W : World => W.cell? ⟨sb, so + d * 2, none⟩ = some (.string x))) _ (by first | assumption | exact HK0.out) HKS.out)
                (first
                  | (refine step_own rfl (.tmp 37) (.tmp 40) 47 rfl wz.heap.size 9 _ 1 16 Tryz.underlying47 PPrf.info9 rfl (by decide) (by decide) (.slice (some ⟨wz.heap.size, 0, none⟩) 0 0) 0 [] (some ⟨qo, 0, none⟩) j co (strC (out.take j)) (by simp [Act.eval]) (by simp [Act.eval]) HOA.out (HRC.out.below HBA.out) HBA.out.size (by omega) ?_
                     intro v1 w3 hown hg hat
                     have hb : Below wz.heap.size wz w3 := below_own HBA.out HOA.out hg
                     have HO3 := Lib.hid hown
                     have HB3 := Lib.hid hb
                     clear hat hg hown)
                  | (refine step_own rfl (.tmp 37) (.tmp 40) 47 rfl wz.heap.size 9 _ 1 16 Tryz.underlying47 PPrf.info9 rfl (by decide) (by decide) (.slice (some ⟨wz.heap.size, 0, none⟩) 0 0) 0 [] (some ⟨qo, 0, none⟩) j co (strC (out.take j)) (by simp [Act.eval]) (by simp [Act.eval]) HOB.out (HRC.out.below HBB.out) HBB.out.size (by omega) ?_
                     intro v1 w3 hown hg hat
                     have hb : Below wz.heap.size wz w3 := below_own HBB.out HOB.out hg
                     have HRX := Lib.hid (show RdC w3 (some ⟨wz.heap.size + 1, 0, none⟩) 1 1 [.string x] from rdc_grown HXB.out hg (by simp [Value.ownBlock]) (by simp))
                     have HO3 := Lib.hid hown
                     have HB3 := Lib.hid hb
                     clear hat hg hown)
                  | (refine step_own rfl (.tmp 37) (.tmp 40) 47 rfl wz.heap.size 9 _ 1 16 Tryz.underlying47 PPrf.info9 rfl (by decide) (by decide) (.slice (some ⟨wz.heap.size + 1, 0, none⟩) 0 0) 0 [] (some ⟨qo, 0, none⟩) j co (strC (out.take j)) (by simp [Act.eval]) (by simp [Act.eval]) HOC.out (HRC.out.below HBC.out) HBC.out.size (by omega) ?_
                     intro v1 w3 hown hg hat
                     have hb : Below wz.heap.size wz w3 := below_own HBC.out HOC.out hg
                     have HRX := Lib.hid (show RdC w3 (some ⟨wz.heap.size, 0, none⟩) 1 1 [.string x] from rdc_grown HXC.out hg (by simp [Value.ownBlock]) (by simp; omega))
                     have HO3 := Lib.hid hown
                     have HB3 := Lib.hid hb
                     clear hat hg hown)
                  | (refine step_own rfl (.tmp 41) (.tmp 47) 47 rfl wz.heap.size 9 _ 1 16 Tryz.underlying47 PPrf.info9 rfl (by decide) (by decide) v1 (0 + j) ([] ++ strC (out.take j)) (some ⟨w3.heap.size, 0, none⟩) 1 1 [.string x] (by simp [Act.eval]) (by simp [Act.eval]) (own_alloc HO3.out _) (rdc_lit w3 [.string x] 9 1 1 rfl HXL.out) (HB3.out.alloc HB3.out.size _).size (by omega) ?_
                     intro v2 w4 hown hg hat
                     have hb : Below wz.heap.size wz w4 := below_own (HB3.out.alloc HB3.out.size _) (own_alloc HO3.out _) hg
                     have HO4 := Lib.hid hown
                     have HB4 := Lib.hid hb
                     clear hat hg hown)
                  | (refine step_own rfl (.tmp 41) (.tmp 47) 47 rfl wz.heap.size 9 _ 1 16 Tryz.underlying47 PPrf.info9 rfl (by decide) (by decide) v1 (0 + j) ([] ++ strC (out.take j)) (some ⟨wz.heap.size + 1, 0, none⟩) 1 1 [.string x] (by simp [Act.eval]) (by simp [Act.eval]) HO3.out HRX.out HB3.out.size (by omega) ?_
                     intro v2 w4 hown hg hat
                     have hb : Below wz.heap.size wz w4 := below_own HB3.out HO3.out hg
                     have HO4 := Lib.hid hown
                     have HB4 := Lib.hid hb
                     clear hat hg hown)
                  | (refine step_own rfl (.tmp 41) (.tmp 47) 47 rfl wz.heap.size 9 _ 1 16 Tryz.underlying47 PPrf.info9 rfl (by decide) (by decide) v1 (0 + j) ([] ++ strC (out.take j)) (some ⟨wz.heap.size, 0, none⟩) 1 1 [.string x] (by simp [Act.eval]) (by simp [Act.eval]) HO3.out HRX.out HB3.out.size (by omega) ?_
                     intro v2 w4 hown hg hat
                     have hb : Below wz.heap.size wz w4 := below_own HB3.out HO3.out hg
                     have HO4 := Lib.hid hown
                     have HB4 := Lib.hid hb
                     clear hat hg hown)
                  | fail)
              all_goals
                have hb9 := HB4.out
                have HRD4 := Lib.hid (rdc9 (HRD2.out.below hb9))
                rw [HLD1.out] at HRD4
                clear hb9
                go_wp2_with
                  (first
                    | ((with_reducible refine gate_builtin (b := .append) (xs := #[.tmp 49, .tmp 52]) rfl ?_)
                       refine wpList_own rfl (.tmp 49) (.tmp 52) 47 rfl wz.heap.size 9 _ 1 16 Tryz.underlying47 PPrf.info9 rfl (by decide) (by decide) v2 (0 + j + 1) ([] ++ strC (out.take j) ++ [.string x]) A2 (ol - j) (co - j) (strC (out.drop j)) (by simp [Act.eval]) (by simp [Act.eval]) HO4.out HRD4.out HB4.out.size (by omega) ?_
                       intro v3 w5 hown hg hat
                       have HB5 := Lib.hid (below_own HB4.out HO4.out hg)
                       have HO5 := Lib.hid (show OwnN w5 W.heap.size v3 (insR out x) from by
                         rw [HINS.out]
                         unfold OwnN strC
                         rw [List.length_append, List.length_append, HLT1.out, HLD1.out, List.map_append, List.map_append]
                         have := own_weaken hown (base' := W.heap.size) HBZ.out.size
                         simpa [strC] using this)
                       clear hown hg hat)
                    | fail)
                go_roundw
                · exact ⟨d + 1, insR out x, by go_num, hlt, HO5, HV2, Lib.hid (by rw [insR_len, HOL.out]; omega), Lib.hid (HBZ.out.trans (HB5.out.mono HBZ.out.size))⟩
                · simp [intOf]; omega
          · have k1 : ¬ (j : Int) < ol := by omega
            have HST := Lib.hid (show ∀ hi : j < out.length, ltN x out[j] = false from fun hi => absurd hi (by rw [HOL.out]; omega))
            clear hWB
            go_wp2_with fail
            go_quiet (fail)
            obtain ⟨wz, hwz⟩ : ∃ wz, wr.drewN nq = wz := ⟨_, rfl⟩
            rw [hwz]
            have hbz : Below w1.heap.size w1 wz := hwz ▸ HWB.out.trans ((bdraw wr nq).mono HWB.out.size)
            have n9 := keepC hbz s0
            have HBZ := Lib.hid (HB.out.trans (hbz.mono HB.out.size))
            have hoz := HO.out.below hbz
            have hrs := rs9 hoz (by rw [HOL.out]; omega)
            have hcol : out.length ≤ co := by rw [HOL.out]; exact HCO.out
            have hr1 := (print_take_of (P := Tryz.prog) Value.string ByteArray.empty 47 9 .i64 Tryz.underlying47 HI9.out HZ9.out Ao co out (j : Int) (by omega) (by rw [HOL.out]; omega) hcol)
            obtain ⟨A2, hr2, hd2, -⟩ := (print_drop_of (P := Tryz.prog) Value.string ByteArray.empty 47 9 .i64 Tryz.underlying47 HI9.out HZ9.out Ao co out (j : Int) (by omega) (by rw [HOL.out]; omega) hcol)
            have hrun1 := hr1.1
            have hrd1 := hr1.2.1 wz hrs
            have hrd2 := hd2 wz hrs
            rw [Int.toNat_natCast] at hrun1 hrd1 hr2 hrd2
            have hlt1 : (out.take j).length = j := by rw [List.length_take, HOL.out]; omega
            have hld1 : (out.drop j).length = ol - j := by rw [List.length_drop, HOL.out]
            rw [HOL.out, hlt1] at hrun1
            rw [HOL.out, hld1] at hr2
            have HINS := Lib.hid (show insR out x = out.take j ++ [x] ++ out.drop j from by
              obtain ⟨t1, t2⟩ := tw_take (ltN x) out j HJ.out HST.out (by rw [HOL.out]; exact hj)
              unfold insR
              rw [t1, t2])
            have HLT1 := Lib.hid hlt1
            have HLD1 := Lib.hid hld1
            have hrc1 := rdc9 hrd1
            rw [hlt1] at hrc1
            have HRD2 := Lib.hid hrd2
            have HKS := Lib.hid (show ∀ W, Below wz.heap.size wz W → (fun W : World => W.cell? ⟨sb, so + d * 2, none⟩ = some (.string x)) W from fun W hb => keepC hb n9)
            have HK0 := Lib.hid (kp0 (T := (fun W : World => W.cell? ⟨sb, so + d * 2, none⟩ = some (.string x))) HKS.out)
            have HXL := Lib.hid (show ∀ u ∈ [Value.string x], u.oneCell' = true from fun u hu => by rw [List.mem_singleton.1 hu]; rfl)
            have HBA := Lib.hid (show Below wz.heap.size wz (wz.alloc (Obj.cells #[] 9)).drew from ((Below.refl _ _).alloc (Nat.le_refl _) _).drew)
            have HBB := Lib.hid (show Below wz.heap.size wz ((wz.alloc (Obj.cells #[] 9)).alloc (Obj.cells #[.string x] 9)).drew from (((Below.refl _ _).alloc (Nat.le_refl _) _).alloc (by simp) _).drew)
            have HBC := Lib.hid (show Below wz.heap.size wz ((wz.alloc (Obj.cells #[.string x] 9)).alloc (Obj.cells #[] 9)).drew from (((Below.refl _ _).alloc (Nat.le_refl _) _).alloc (by simp) _).drew)
            have HOA := Lib.hid (show (wz.alloc (Obj.cells #[] 9)).drew.ownsRow wz.heap.size 9 1 (.slice (some ⟨wz.heap.size, 0, none⟩) 0 0) 0 [] from own_empty wz 9 1)
            have HOB := Lib.hid (show ((wz.alloc (Obj.cells #[] 9)).alloc (Obj.cells #[.string x] 9)).drew.ownsRow wz.heap.size 9 1 (.slice (some ⟨wz.heap.size, 0, none⟩) 0 0) 0 [] from own_alloc (own_empty wz 9 1) _)
            have HOC := Lib.hid (show ((wz.alloc (Obj.cells #[.string x] 9)).alloc (Obj.cells #[] 9)).drew.ownsRow wz.heap.size 9 1 (.slice (some ⟨wz.heap.size + 1, 0, none⟩) 0 0) 0 [] from by
              have := own_weaken (own_empty (wz.alloc (Obj.cells #[.string x] 9)) 9 1) (base' := wz.heap.size) (by simp)
              rw [World.size_alloc] at this
              exact this)
            have HRC := Lib.hid hrc1
            have HXB := Lib.hid (show RdC ((wz.alloc (Obj.cells #[] 9)).alloc (Obj.cells #[.string x] 9)).drew (some ⟨wz.heap.size + 1, 0, none⟩) 1 1 [.string x] from by
              have := rdc_lit (wz.alloc (Obj.cells #[] 9)) [.string x] 9 1 1 rfl HXL.out
              rw [World.size_alloc] at this
              exact this)
            have HXC := Lib.hid (show RdC ((wz.alloc (Obj.cells #[.string x] 9)).alloc (Obj.cells #[] 9)).drew (some ⟨wz.heap.size, 0, none⟩) 1 1 [.string x] from by
              have := rdc_lit wz [.string x] 9 1 1 rfl HXL.out
              exact (this.below ((Below.refl _ _).alloc (Nat.le_refl _) _)).below (Below.refl _ _).drew)
            have m1 : (wz.alloc (Obj.cells #[] 9)).cell? ⟨sb, so + d * 2, none⟩ = some (.string x) := keepC ((Below.refl _ _).alloc (Nat.le_refl _) _) n9
            have m2 : (wz.alloc (Obj.cells #[.string x] 9)).cell? ⟨sb, so + d * 2, none⟩ = some (.string x) := keepC ((Below.refl _ _).alloc (Nat.le_refl _) _) n9
            have m3 : ((wz.alloc (Obj.cells #[] 9)).alloc (Obj.cells #[.string x] 9)).cell? ⟨sb, so + d * 2, none⟩ = some (.string x) := keepC ((Below.refl _ _).alloc (Nat.le_refl _) _) m1
            have m4 : ((wz.alloc (Obj.cells #[.string x] 9)).alloc (Obj.cells #[] 9)).cell? ⟨sb, so + d * 2, none⟩ = some (.string x) := keepC ((Below.refl _ _).alloc (Nat.le_refl _) _) m2
            have jl : (j : Int) ≤ ol := by omega
            clear hwz hbz hoz hrs hcol hr1 hd2 hrd1 hrd2 hlt1 hld1 hrc1 n9
            go_wp2_with fail
            go_region_held3 (fun W : World => Below wz.heap.size wz W ∧ W.cell? ⟨sb, so + d * 2, none⟩ = some (.string x)) (first | assumption | exact kpC (T := (fun W : World => W.cell? ⟨sb, so + d * 2, none⟩ = some (.string x))) (by assumption) (by assumption) HKS.out | exact kp1 (T := (fun W : World => W.cell? ⟨sb, so + d * 2, none⟩ = some (.string x))) (by first | assumption | exact HK0.out) HKS.out | exact kpA (T := (fun W : World => W.cell? ⟨sb, so + d * 2, none⟩ = some (.string x))) _ (by first | assumption | exact HK0.out) HKS.out)
              (first
                | (refine step_own rfl (.tmp 37) (.tmp 40) 47 rfl wz.heap.size 9 _ 1 16 Tryz.underlying47 PPrf.info9 rfl (by decide) (by decide) (.slice (some ⟨wz.heap.size, 0, none⟩) 0 0) 0 [] Ao j co (strC (out.take j)) (by simp [Act.eval]) (by simp [Act.eval]) HOA.out (HRC.out.below HBA.out) HBA.out.size (by omega) ?_
                   intro v1 w3 hown hg hat
                   have hb : Below wz.heap.size wz w3 := below_own HBA.out HOA.out hg
                   have HO3 := Lib.hid hown
                   have HB3 := Lib.hid hb
                   clear hat hg hown)
                | (refine step_own rfl (.tmp 37) (.tmp 40) 47 rfl wz.heap.size 9 _ 1 16 Tryz.underlying47 PPrf.info9 rfl (by decide) (by decide) (.slice (some ⟨wz.heap.size, 0, none⟩) 0 0) 0 [] Ao j co (strC (out.take j)) (by simp [Act.eval]) (by simp [Act.eval]) HOB.out (HRC.out.below HBB.out) HBB.out.size (by omega) ?_
                   intro v1 w3 hown hg hat
                   have hb : Below wz.heap.size wz w3 := below_own HBB.out HOB.out hg
                   have HRX := Lib.hid (show RdC w3 (some ⟨wz.heap.size + 1, 0, none⟩) 1 1 [.string x] from rdc_grown HXB.out hg (by simp [Value.ownBlock]) (by simp))
                   have HO3 := Lib.hid hown
                   have HB3 := Lib.hid hb
                   clear hat hg hown)
                | (refine step_own rfl (.tmp 37) (.tmp 40) 47 rfl wz.heap.size 9 _ 1 16 Tryz.underlying47 PPrf.info9 rfl (by decide) (by decide) (.slice (some ⟨wz.heap.size + 1, 0, none⟩) 0 0) 0 [] Ao j co (strC (out.take j)) (by simp [Act.eval]) (by simp [Act.eval]) HOC.out (HRC.out.below HBC.out) HBC.out.size (by omega) ?_
                   intro v1 w3 hown hg hat
                   have hb : Below wz.heap.size wz w3 := below_own HBC.out HOC.out hg
                   have HRX := Lib.hid (show RdC w3 (some ⟨wz.heap.size, 0, none⟩) 1 1 [.string x] from rdc_grown HXC.out hg (by simp [Value.ownBlock]) (by simp; omega))
                   have HO3 := Lib.hid hown
                   have HB3 := Lib.hid hb
                   clear hat hg hown)
                | (refine step_own rfl (.tmp 41) (.tmp 47) 47 rfl wz.heap.size 9 _ 1 16 Tryz.underlying47 PPrf.info9 rfl (by decide) (by decide) v1 (0 + j) ([] ++ strC (out.take j)) (some ⟨w3.heap.size, 0, none⟩) 1 1 [.string x] (by simp [Act.eval]) (by simp [Act.eval]) (own_alloc HO3.out _) (rdc_lit w3 [.string x] 9 1 1 rfl HXL.out) (HB3.out.alloc HB3.out.size _).size (by omega) ?_
                   intro v2 w4 hown hg hat
                   have hb : Below wz.heap.size wz w4 := below_own (HB3.out.alloc HB3.out.size _) (own_alloc HO3.out _) hg
                   have HO4 := Lib.hid hown
                   have HB4 := Lib.hid hb
                   clear hat hg hown)
                | (refine step_own rfl (.tmp 41) (.tmp 47) 47 rfl wz.heap.size 9 _ 1 16 Tryz.underlying47 PPrf.info9 rfl (by decide) (by decide) v1 (0 + j) ([] ++ strC (out.take j)) (some ⟨wz.heap.size + 1, 0, none⟩) 1 1 [.string x] (by simp [Act.eval]) (by simp [Act.eval]) HO3.out HRX.out HB3.out.size (by omega) ?_
                   intro v2 w4 hown hg hat
                   have hb : Below wz.heap.size wz w4 := below_own HB3.out HO3.out hg
                   have HO4 := Lib.hid hown
                   have HB4 := Lib.hid hb
                   clear hat hg hown)
                | (refine step_own rfl (.tmp 41) (.tmp 47) 47 rfl wz.heap.size 9 _ 1 16 Tryz.underlying47 PPrf.info9 rfl (by decide) (by decide) v1 (0 + j) ([] ++ strC (out.take j)) (some ⟨wz.heap.size, 0, none⟩) 1 1 [.string x] (by simp [Act.eval]) (by simp [Act.eval]) HO3.out HRX.out HB3.out.size (by omega) ?_
                   intro v2 w4 hown hg hat
                   have hb : Below wz.heap.size wz w4 := below_own HB3.out HO3.out hg
                   have HO4 := Lib.hid hown
                   have HB4 := Lib.hid hb
                   clear hat hg hown)
                | fail)
            all_goals
              have hb9 := HB4.out
              have HRD4 := Lib.hid (rdc9 (HRD2.out.below hb9))
              rw [HLD1.out] at HRD4
              clear hb9
              go_wp2_with
                (first
                  | ((with_reducible refine gate_builtin (b := .append) (xs := #[.tmp 49, .tmp 52]) rfl ?_)
                     refine wpList_own rfl (.tmp 49) (.tmp 52) 47 rfl wz.heap.size 9 _ 1 16 Tryz.underlying47 PPrf.info9 rfl (by decide) (by decide) v2 (0 + j + 1) ([] ++ strC (out.take j) ++ [.string x]) A2 (ol - j) (co - j) (strC (out.drop j)) (by simp [Act.eval]) (by simp [Act.eval]) HO4.out HRD4.out HB4.out.size (by omega) ?_
                     intro v3 w5 hown hg hat
                     have HB5 := Lib.hid (below_own HB4.out HO4.out hg)
                     have HO5 := Lib.hid (show OwnN w5 W.heap.size v3 (insR out x) from by
                       rw [HINS.out]
                       unfold OwnN strC
                       rw [List.length_append, List.length_append, HLT1.out, HLD1.out, List.map_append, List.map_append]
                       have := own_weaken hown (base' := W.heap.size) HBZ.out.size
                       simpa [strC] using this)
                     clear hown hg hat)
                  | fail)
              go_roundw
              · exact ⟨d + 1, insR out x, by go_num, hlt, HO5, HV2, Lib.hid (by rw [insR_len, HOL.out]; omega), Lib.hid (HBZ.out.trans (HB5.out.mono HBZ.out.size))⟩
              · simp [intOf]; omega
    · have j1 : ¬ (d : Int) < n := by omega
      have hdn : d = n := by omega
      have hv := HV.out
      rw [hdn, ← HN.out, List.drop_length] at hv
      have hv2 : out = R := hv
      subst hv2
      have HO9 := Lib.hid HO.out
      go_wp2
      go_ret
      exact ⟨_, rfl, HO9.out, HB.out⟩
theorem names_any {W : World} {A : Option Addr} {l : List S106} {c : Nat} (h : RdSl W A l) (hc : l.length ≤ c) (hl : l.length ≤ 1000000) :
    Calls Tryz.prog 50 #[.slice A l.length c] W fun e w' => ∃ A' c', e = .returned (.slice A' (nmR l).length c') ∧ RdN w' A' (nmR l) ∧ (nmR l).length ≤ c' ∧ Below W.heap.size W w' := by
  refine (names_own h hc hl).mono ?_
  rintro e w' ⟨v, rfl, ho, hb⟩
  obtain ⟨A', c', rfl, h1, h2⟩ := ho.reads (by have := nmF_le l []; unfold nmR; simp only [List.length_nil] at this; omega)
  exact ⟨A', c', rfl, h1, h2, hb⟩
end Go.Proofs.YtpdcjdangnfeiaaGreatDoor.Rc
namespace Go.Proofs.YtpdcjdangnfeiaaGreatDoor.Rc
theorem own_set {w : World} {base q n cap size k : Nat} {e : TypeId} {xs : List Value} {u : Value} (h : w.ownsRow base e size (.slice (some ⟨q, 0, none⟩) n cap) n xs) : (w.setCell ⟨q, k, none⟩ u).ownsRow base e size (.slice (some ⟨q, 0, none⟩) n cap) n (xs.set k u) := by
  obtain ⟨hl, ⟨h0, -⟩ | ⟨q', cap', cur, e', hq, hh, hn, hm, hs, ht⟩⟩ := h
  · cases h0
  · cases e'
    refine ⟨by rw [List.length_set]; exact hl, .inr ⟨q, cap, _, rfl, hq, blk_set hh k u, hn, hm, by rw [Array.size_setIfInBounds]; exact hs, ?_⟩⟩
    rw [Array.toList_setIfInBounds, List.take_set, ht]
theorem cells_set : ∀ (l : List S106) (i : Nat) (s : ByteArray) (m : Int), cellsS (l.set i ⟨s, m⟩) = ((cellsS l).set (i * 2) (.string s)).set (i * 2 + 1) (.int .i64 m)
  | [], i, s, m => by simp [cellsS]
  | e :: l, 0, s, m => by simp [cellsS]
  | e :: l, i + 1, s, m => by
    have ih := cells_set l i s m
    rw [List.set_cons_succ, show cellsS (e :: l.set i ⟨s, m⟩) = .string e.f0 :: .int .i64 e.f1 :: cellsS (l.set i ⟨s, m⟩) from rfl, ih, show cellsS (e :: l) = .string e.f0 :: .int .i64 e.f1 :: cellsS l from rfl, show (i + 1) * 2 = i * 2 + 1 + 1 by omega, List.set_cons_succ, List.set_cons_succ, List.set_cons_succ, List.set_cons_succ]
theorem own_slot {w : World} {base q n cap i : Nat} {l : List S106} {s : ByteArray} {m : Int} (h : OwnSl w base (.slice (some ⟨q, 0, none⟩) n cap) l) (hn : l.length = n) : OwnSl ((w.setCell ⟨q, i * 2, none⟩ (.string s)).setCell ⟨q, i * 2 + 1, none⟩ (.int .i64 m)) base (.slice (some ⟨q, 0, none⟩) n cap) (l.set i ⟨s, m⟩) := by
  unfold OwnSl at h ⊢
  rw [List.length_set, cells_set, hn]
  rw [hn] at h
  exact own_set (own_set h)
theorem own_name {w : World} {base q n cap i : Nat} {l : List S106} {s : ByteArray} {e : S106} (h : OwnSl w base (.slice (some ⟨q, 0, none⟩) n cap) l) (hn : l.length = n) (he : l[i]? = some e) : OwnSl (w.setCell ⟨q, i * 2, none⟩ (.string s)) base (.slice (some ⟨q, 0, none⟩) n cap) (l.set i ⟨s, e.f1⟩) := by
  unfold OwnSl at h ⊢
  rw [List.length_set, cells_set, hn]
  rw [hn] at h
  have h2 := own_set (k := i * 2) (u := .string s) h
  have hlt := (List.getElem?_eq_some_iff.1 he).1
  have : ((cellsS l).set (i * 2) (.string s)).set (i * 2 + 1) (.int .i64 e.f1) = (cellsS l).set (i * 2) (.string s) := by
    apply List.ext_getElem?
    intro j
    by_cases hj : j = i * 2 + 1
    · subst hj
      rw [List.getElem?_set_self (by rw [List.length_set, cellsS_len]; omega), List.getElem?_set_ne (by omega), (cellsS_at l i e he).2]
    · rw [List.getElem?_set_ne (Ne.symm hj)]
  rw [this]
  exact h2
theorem below_two {w W : World} {base q : Nat} (hb : Below base w W) (hq : base ≤ q) (i j : Nat) (u v : Value) : Below base w ((W.setCell ⟨q, i, none⟩ u).setCell ⟨q, j, none⟩ v) := (hb.setCell hq _).setCell hq _
set_option maxHeartbeats 8000000 in
set_option maxRecDepth 100000 in
theorem take_any {W : World} {A : Option Addr} {l : List S106} {c i : Nat} (x : ByteArray) (h : RdSl W A l) (hc : l.length ≤ c) (hl : l.length ≤ 1000000) (ha : atL l x = some i) :
    Calls Tryz.prog 52 #[.slice A l.length c, .string x] W fun e w' => ∃ v z, e = .returned (.tuple #[v, .int .i64 z, .int .i64 0]) ∧ OwnSl w' W.heap.size v (l.set i ⟨ByteArray.empty, 0⟩) ∧ Below W.heap.size W w' := by
  obtain ⟨n, hn⟩ : ∃ n, l.length = n := ⟨_, rfl⟩
  obtain ⟨e9, he9, -, -⟩ := atL_some ha
  have hil : i < n := by rw [← hn]; exact (List.getElem?_eq_some_iff.1 he9).1
  have hat := at_any x h hc hl
  rw [ha, hn, show atI (some i) = (i : Int) from rfl] at hat
  have HAT := Lib.hid hat
  have HS := Lib.hid h
  have HNL := Lib.hid hn
  obtain ⟨sb, so, hA, -, s1⟩ := h.cell i (by rw [hn]; exact hil)
  have HA := Lib.hid hA
  have S1 := Lib.hid s1
  obtain ⟨z, hz⟩ : ∃ z, (l[i]'(by rw [hn]; exact hil)).f1 = z := ⟨_, rfl⟩
  rw [hz] at S1
  have i0 : (i : Int) < n := by omega
  have i1 : ¬ (i : Int) < 0 := by omega
  have i2 : (0 : Int) ≤ i := by omega
  rw [hn] at hl ⊢
  subst hA
  clear h hc ha he9 hat hn s1 hz
  go_enter Tryz.func52, Tryz.ntmps52
  go_wp2_with fail
  refine HAT.out.mono ?_
  rintro e w1 ⟨rfl, kk, hk⟩
  have HB1 := Lib.hid (show Below W.heap.size W w1 from hk ▸ bdraw W kk)
  have HBW := Lib.hid (show Below W.heap.size W (w1.alloc (Obj.cells #[] 106)) from HB1.out.alloc HB1.out.size _)
  have HOW := Lib.hid (own_weaken (own_empty w1 106 2) HB1.out.size)
  have hrc := RdC.slots (HS.out.below HBW.out)
  rw [HNL.out] at hrc
  have HRC := Lib.hid hrc
  clear hrc hk
  go_wp2_with
    (first
      | ((with_reducible refine gate_builtin (b := .append) (xs := #[.tmp 14, .tmp 15]) rfl ?_)
         refine wpList_own rfl (.tmp 14) (.tmp 15) 56 rfl W.heap.size 106 _ 2 24 Tryz.underlying56 PPrf.info106 rfl (by decide) (by decide) (.slice (some ⟨w1.heap.size, 0, none⟩) 0 0) 0 [] (some ⟨sb, so, none⟩) n c (cellsS l) (by simp [Act.eval]) (by simp [Act.eval]) HOW.out HRC.out HBW.out.size (by omega) ?_
         intro v2 w2 hown hg hat
         have hb2 : Below W.heap.size W w2 := below_own HBW.out HOW.out hg
         have hos : OwnSl w2 W.heap.size v2 l := by unfold OwnSl; rw [HNL.out]; simpa using hown
         obtain ⟨q, cap, cur, rfl, hq, hql, hqn, hqh, -, hqr⟩ := hos.open (by rw [HNL.out]; omega)
         have sf0 := blk_frozen hqh (i * 2)
         have sf1 := blk_frozen hqh (i * 2 + 1)
         obtain ⟨sb9, so9, se9, z0, z1⟩ := hqr.cell i (by rw [HNL.out]; exact hil)
         cases se9
         rw [Nat.zero_add] at z0 z1
         have HOS := Lib.hid hos
         have HB2 := Lib.hid hb2
         have HQ := Lib.hid hq
         rw [HNL.out]
         clear hos hb2 hq hqh hqr hqn
         clear hown hg hat)
      | fail)
  have k1 : ((w2.setCell ⟨q, i * 2, none⟩ (.string ⟨#[]⟩)).setCell ⟨q, i * 2 + 1, none⟩ (.int .i64 0)).cell? ⟨sb, so + i * 2 + 1, none⟩ = some (.int .i64 z) := by
    have hne : sb ≠ q := by have h1 : sb < W.heap.size := World.block_lt_of_cell? W _ S1.out; have := HQ.out; omega
    rw [World.cell?_setCell_other _ _ _ _ (by simp [hne]), World.cell?_setCell_other _ _ _ _ (by simp [hne])]
    exact keepC HB2.out S1.out
  obtain ⟨w9, hw9⟩ : ∃ w9, (w2.setCell ⟨q, i * 2, none⟩ (.string ⟨#[]⟩)).setCell ⟨q, i * 2 + 1, none⟩ (.int .i64 0) = w9 := ⟨_, rfl⟩
  rw [hw9] at k1 ⊢
  have HO9 := Lib.hid (show OwnSl w9 W.heap.size (.slice (some ⟨q, 0, none⟩) n cap) (l.set i ⟨ByteArray.empty, 0⟩) from hw9 ▸ own_slot (by have := HOS.out; rwa [HNL.out] at this) HNL.out)
  have HB9 := Lib.hid (show Below W.heap.size W w9 from hw9 ▸ below_two HB2.out HQ.out _ _ _ _)
  clear hw9
  go_quiet (fail)
  go_wp2
  first | go_ret2 | go_ret3
  exact ⟨_, _, rfl, own_move HO9.out (fun _ _ => rfl), HB9.out.trans ((bdraw w9 nq).mono HB9.out.size)⟩
theorem drawn_below {w w' : World} (h : Drawn0 w w') : Below w.heap.size w w' := by
  obtain ⟨n, rfl⟩ := h
  exact bdraw w n
theorem name_any (y : ByteArray) (W : World) (hy : nmL y.data.toList = true) : Calls Tryz.prog 42 #[.string y] W fun e w' => e = .returned (.bool true) ∧ Below W.heap.size W w' := by
  refine (mailbagref9_Name.calls 60 y true W ((Ra.name_eq y 60 (Nat.le_refl _)).2.trans (by rw [show Ra.tl y = y.data.toList from rfl, hy]))).mono ?_
  rintro e w' ⟨rfl, hd⟩
  exact ⟨rfl, drawn_below hd⟩
set_option maxHeartbeats 8000000 in
set_option maxRecDepth 100000 in
theorem move_any {W : World} {A : Option Addr} {l : List S106} {c i : Nat} {e0 : S106} (x y : ByteArray) (h : RdSl W A l) (hc : l.length ≤ c) (hl : l.length ≤ 1000000) (ha : atL l x = some i) (he : l[i]? = some e0) (hy : nmL y.data.toList = true) (hne : y ≠ x) (hb : atL l y = none) :
    Calls Tryz.prog 54 #[.slice A l.length c, .string x, .string y] W fun e w' => ∃ v, e = .returned (.tuple #[v, .int .i64 0]) ∧ OwnSl w' W.heap.size v (l.set i ⟨y, e0.f1⟩) ∧ Below W.heap.size W w' := by
  obtain ⟨n, hn⟩ : ∃ n, l.length = n := ⟨_, rfl⟩
  have hil : i < n := by rw [← hn]; exact (List.getElem?_eq_some_iff.1 he).1
  have hat := at_any x h hc hl
  rw [ha, hn, show atI (some i) = (i : Int) from rfl] at hat
  have HAT2 := Lib.hid (fun W1 (hb1 : Below W.heap.size W W1) => at_any y (h.below hb1) hc hl)
  rw [hb, hn, show atI none = -1 from rfl] at HAT2
  have HAT := Lib.hid hat
  have HNM := Lib.hid (fun W1 : World => name_any y W1 hy)
  have HS := Lib.hid h
  have HNL := Lib.hid hn
  have HE := Lib.hid he
  have hxy : (y.toList == x.toList) = false := by rw [beq_eq_false_iff_ne]; exact fun e => hne (ba_eq.1 e)
  obtain ⟨sb, so, hA, -, -⟩ := h.cell i (by rw [hn]; exact hil)
  have i0 : (i : Int) < n := by omega
  have i1 : ¬ (i : Int) < 0 := by omega
  have i2 : (0 : Int) ≤ i := by omega
  rw [hn] at hl ⊢
  subst hA
  clear h hc ha he hat hn hy hne hb
  go_enter Tryz.func54, Tryz.ntmps54
  go_wp2_with fail
  refine HAT.out.mono ?_
  rintro e w0 ⟨rfl, kk, hk⟩
  have HB0 := Lib.hid (show Below W.heap.size W w0 from hk ▸ bdraw W kk)
  clear hk
  go_wp2_with fail
  refine (HNM.out w0).mono ?_
  rintro e w3 ⟨rfl, hb3⟩
  have HB3 := Lib.hid (HB0.out.trans (hb3.mono HB0.out.size))
  clear hb3
  go_wp2_with fail
  refine (HAT2.out w3 HB3.out).mono ?_
  rintro e w1 ⟨rfl, kk, hk⟩
  have HB1 := Lib.hid (show Below W.heap.size W w1 from hk ▸ HB3.out.trans ((bdraw w3 kk).mono HB3.out.size))
  have HBW := Lib.hid (show Below W.heap.size W (w1.alloc (Obj.cells #[] 106)) from HB1.out.alloc HB1.out.size _)
  have HOW := Lib.hid (own_weaken (own_empty w1 106 2) HB1.out.size)
  have hrc := RdC.slots (HS.out.below HBW.out)
  rw [HNL.out] at hrc
  have HRC := Lib.hid hrc
  clear hrc hk
  go_wp2_with
    (first
      | ((with_reducible refine gate_builtin (b := .append) (xs := #[.tmp 30, .tmp 31]) rfl ?_)
         refine wpList_own rfl (.tmp 30) (.tmp 31) 56 rfl W.heap.size 106 _ 2 24 Tryz.underlying56 PPrf.info106 rfl (by decide) (by decide) (.slice (some ⟨w1.heap.size, 0, none⟩) 0 0) 0 [] (some ⟨sb, so, none⟩) n c (cellsS l) (by simp [Act.eval]) (by simp [Act.eval]) HOW.out HRC.out HBW.out.size (by omega) ?_
         intro v2 w2 hown hg hat
         have hb2 : Below W.heap.size W w2 := below_own HBW.out HOW.out hg
         have hos : OwnSl w2 W.heap.size v2 l := by unfold OwnSl; rw [HNL.out]; simpa using hown
         obtain ⟨q, cap, cur, rfl, hq, hql, hqn, hqh, -, hqr⟩ := hos.open (by rw [HNL.out]; omega)
         have sf0 := blk_frozen hqh (i * 2)
         have sf1 := blk_frozen hqh (i * 2 + 1)
         obtain ⟨sb9, so9, se9, z0, z1⟩ := hqr.cell i (by rw [HNL.out]; exact hil)
         cases se9
         rw [Nat.zero_add] at z0 z1
         have HOS := Lib.hid hos
         have HB2 := Lib.hid hb2
         have HQ := Lib.hid hq
         rw [HNL.out]
         clear hos hb2 hq hqh hqr hqn
         clear hown hg hat)
      | fail)
  go_ret2
  exact ⟨_, rfl, own_name (by have := HOS.out; rwa [HNL.out] at this) HNL.out HE.out, HB2.out.setCell HQ.out _⟩
theorem size_any (A : Option Addr) (c : Nat) (l : List S106) (W : World) (h : RdSl W A l) (hc : l.length ≤ c) (hl : l.length ≤ 1000000) : Calls Tryz.prog 82 #[.slice A l.length c] W fun e w' => ∃ z, e = .returned (.int .i64 z) ∧ Below W.heap.size W w' := by
  refine (mailbagref9_Size.calls A c l _ W h hc (size_eq l (by omega))).mono ?_
  rintro e w' ⟨rfl, hd⟩
  exact ⟨_, rfl, drawn_below hd⟩
theorem putL_at {l : List S106} {j : Nat} (x : ByteArray) (m : Int) (h1 : ∀ k (hk : k < l.length), k < j → isE l[k] = false) (hj : j < l.length) (h2 : isE l[j] = true) : putL l x m = l.set j ⟨x, m⟩ := by
  unfold putL
  rw [show l.findIdx? isE = some j from List.findIdx?_eq_some_iff_getElem.2 ⟨hj, h2, fun k hk => by simpa using h1 k (by omega) hk⟩]
theorem putL_end {l : List S106} (x : ByteArray) (m : Int) (h1 : ∀ k (hk : k < l.length), isE l[k] = false) : putL l x m = l ++ [⟨x, m⟩] := by
  unfold putL
  rw [show l.findIdx? isE = none from List.findIdx?_eq_none_iff.2 fun e he => by obtain ⟨k, hk, rfl⟩ := List.mem_iff_getElem.1 he; exact h1 k hk]
set_option maxHeartbeats 8000000 in
set_option maxRecDepth 100000 in
theorem put_any {W : World} {A : Option Addr} {l : List S106} {c : Nat} (x : ByteArray) (m : Int) (h : RdSl W A l) (hc : l.length ≤ c) (hl : l.length ≤ 999999) (hx : nmL x.data.toList = true) (hm : 1 ≤ m ∧ m ≤ 65535) (ha : atL l x = none) :
    Calls Tryz.prog 45 #[.slice A l.length c, .string x, .int .i64 m] W fun e w' => ∃ v z, e = .returned (.tuple #[v, .int .i64 z, .int .i64 0]) ∧ OwnSl w' W.heap.size v (putL l x m) ∧ Below W.heap.size W w' := by
  obtain ⟨n, hn⟩ : ∃ n, l.length = n := ⟨_, rfl⟩
  have HAT2 := Lib.hid (fun W1 (hb1 : Below W.heap.size W W1) => at_any x (h.below hb1) hc (by omega))
  rw [ha, hn, show atI none = -1 from rfl] at HAT2
  have HSZ := Lib.hid (fun W1 (hb1 : Below W.heap.size W W1) => size_any A c l W1 (h.below hb1) hc (by omega))
  rw [hn] at HSZ
  have HNM := Lib.hid (fun W1 : World => name_any x W1 hx)
  have HS := Lib.hid h
  have HNL := Lib.hid hn
  have m1 : ¬ m < 1 := by omega
  have m2 : ¬ 65535 < m := by omega
  rw [hn] at hl ⊢
  clear h hc ha hn hx hm
  go_enter Tryz.func45, Tryz.ntmps45
  go_wp2_with fail
  refine (HNM.out W).mono ?_
  rintro e w3 ⟨rfl, hb3⟩
  have HB3 := Lib.hid hb3
  clear hb3
  go_wp2_with fail
  refine (HAT2.out w3 HB3.out).mono ?_
  rintro e w1 ⟨rfl, kk, hk⟩
  have HB1 := Lib.hid (show Below W.heap.size W w1 from hk ▸ HB3.out.trans ((bdraw w3 kk).mono HB3.out.size))
  have HBW := Lib.hid (show Below W.heap.size W (w1.alloc (Obj.cells #[] 106)) from HB1.out.alloc HB1.out.size _)
  have HOW := Lib.hid (own_weaken (own_empty w1 106 2) HB1.out.size)
  have hrc := RdC.slots (HS.out.below HBW.out)
  rw [HNL.out] at hrc
  have HRC := Lib.hid hrc
  clear hrc hk
  go_wp2_with
    (first
      | ((with_reducible refine gate_builtin (b := .append) (xs := #[.tmp 27, .tmp 28]) rfl ?_)
         refine wpList_own rfl (.tmp 27) (.tmp 28) 56 rfl W.heap.size 106 _ 2 24 Tryz.underlying56 PPrf.info106 rfl (by decide) (by decide) (.slice (some ⟨w1.heap.size, 0, none⟩) 0 0) 0 [] A n c (cellsS l) (by simp [Act.eval]) (by simp [Act.eval]) HOW.out HRC.out HBW.out.size (by omega) ?_
         intro v2 w2 hown hg hat
         have hb2 : Below W.heap.size W w2 := below_own HBW.out HOW.out hg
         have hos : OwnSl w2 W.heap.size v2 l := by unfold OwnSl; rw [HNL.out]; simpa using hown
         obtain ⟨A2, c2, rfl, hr2, hc2⟩ := hos.reads
         have HOS := Lib.hid hos
         have HB2 := Lib.hid hb2
         have HR2 := Lib.hid hr2
         rw [HNL.out]
         clear hos hb2 hr2 hc2
         clear hown hg hat)
      | fail)
  go_loopw [10] (fun i wr => ∃ j : Nat, i = .int .i64 j ∧ j ≤ n ∧ Hid (∀ k (hk : k < l.length), k < j → isE l[k] = false) ∧ Hid (w2 = wr)) (fun i _ => n - (intOf i).toNat)
  case atStart => exact ⟨0, rfl, by omega, Lib.hid (fun k _ h => absurd h (by omega)), Lib.hid rfl⟩
  case round =>
    obtain ⟨j, rfl, hj, HJ, HW⟩ := hrel
    have hw := HW.out
    subst hw
    clear HW
    by_cases hlt : j < n
    · have j1 : (j : Int) < n := by omega
      have hjl : j < l.length := by rw [HNL.out]; exact hlt
      obtain ⟨q, cap, cur, e1, hq, hql, hqn, hqh, -, hqr⟩ := HOS.out.open (by rw [HNL.out]; omega)
      simp only [Value.slice.injEq] at e1
      obtain ⟨rfl, -, rfl⟩ := e1
      have sf0 := blk_frozen hqh (j * 2)
      have sf1 := blk_frozen hqh (j * 2 + 1)
      obtain ⟨sb9, so9, se9, z0, z1⟩ := hqr.cell j hjl
      cases se9
      rw [Nat.zero_add] at z0 z1
      obtain ⟨s0, hs0⟩ : ∃ s, l[j].f0 = s := ⟨_, rfl⟩
      obtain ⟨s1, hs1⟩ : ∃ s, l[j].f1 = s := ⟨_, rfl⟩
      rw [hs0] at z0
      rw [hs1] at z1
      have HQ := Lib.hid hq
      have wj : IntKind.i64.wrap ((j : Int) + 1) = ((j + 1 : Nat) : Int) := by rw [IntKind.wrap_i64]; omega
      by_cases ce : s0 = ByteArray.empty
      · have hse : (s0.toList == []) = true := by rw [beq_iff_eq, ba_nil]; exact ce
        have HP := Lib.hid (putL_at x m HJ.out hjl (by unfold isE; rw [hs0]; exact decide_eq_true ce))
        clear hq hqh hqr hqn hs0 hs1 ce hjl
        go_wp2
        first | go_ret2 | go_ret3
        exact ⟨_, _, rfl, by rw [HP.out]; exact own_slot (by have := HOS.out; rwa [HNL.out] at this) HNL.out, below_two HB2.out HQ.out _ _ _ _⟩
      · have hse : (s0.toList == []) = false := by rw [beq_eq_false_iff_ne]; exact fun e => ce (ba_nil.1 e)
        have HJ2 := Lib.hid (show ∀ k (hk : k < l.length), k < j + 1 → isE l[k] = false from fun k hk hkj => by
          by_cases e : k = j
          · subst e; unfold isE; rw [hs0]; exact decide_eq_false ce
          · exact HJ.out k hk (by omega))
        clear hq hqh hqr hqn hs0 hs1 ce hjl
        go_wp2
        go_roundw
        · exact ⟨j + 1, by go_num, hlt, HJ2, Lib.hid (by trivial)⟩
        · simp [intOf]; omega
    · have j1 : ¬ (j : Int) < n := by omega
      have HP := Lib.hid (putL_end x m (fun k hk => HJ.out k hk (by rw [HNL.out] at hk; omega)))
      have HXL := Lib.hid (show ∀ u ∈ [Value.string x, .int .i64 m], u.oneCell' = true from by
        intro u hu
        have : u = Value.string x ∨ u = .int .i64 m := by simpa using hu
        rcases this with rfl | rfl <;> rfl)
      have hos2 := HOS.out
      unfold OwnSl at hos2
      rw [HNL.out] at hos2
      have HOL := Lib.hid (own_alloc hos2 (Obj.cells #[.string x, .int .i64 m] 106))
      have HXB := Lib.hid (rdc_lit w2 [.string x, .int .i64 m] 106 1 2 rfl HXL.out)
      have HBL := Lib.hid (HB2.out.alloc HB2.out.size (Obj.cells #[.string x, .int .i64 m] 106))
      clear hos2
      go_wp2_with
        (first
          | ((with_reducible refine gate_builtin (b := .append) (xs := #[.tmp 49, .tmp 53]) rfl ?_)
             refine wpList_own rfl (.tmp 49) (.tmp 53) 56 rfl W.heap.size 106 _ 2 24 Tryz.underlying56 PPrf.info106 rfl (by decide) (by decide) (.slice A2 n c2) n (cellsS l) (some ⟨w2.heap.size, 0, none⟩) 1 1 [.string x, .int .i64 m] (by simp [Act.eval]) (by simp [Act.eval]) HOL.out HXB.out HBL.out.size (by omega) ?_
             intro v4 w4 hown hg hat
             have hb4 : Below W.heap.size W w4 := below_own HBL.out HOL.out hg
             have hos4 : OwnSl w4 W.heap.size v4 (l ++ [⟨x, m⟩]) := by
               unfold OwnSl
               rw [List.length_append, HNL.out]
               simpa [cellsS] using hown
             obtain ⟨A4, c4, rfl, hr4, hc4⟩ := hos4.reads
             have HO4 := Lib.hid hos4
             have HB4 := Lib.hid hb4
             have HZ4 := Lib.hid (size_any A4 c4 _ w4 hr4 hc4 (by rw [List.length_append, HNL.out, List.length_singleton]; omega))
             obtain ⟨n4, hn4⟩ : ∃ k, (l ++ [(⟨x, m⟩ : S106)]).length = k := ⟨_, rfl⟩
             rw [hn4] at HZ4 ⊢
             have HN4 := Lib.hid hn4
             clear hown hg hat hb4 hos4 hr4 hc4 hn4)
          | fail)
      refine HZ4.out.mono ?_
      rintro e w5 ⟨z5, rfl, hb5⟩
      have HB5 := Lib.hid (HB4.out.trans (hb5.mono HB4.out.size))
      have HO5 := Lib.hid (show OwnSl w5 W.heap.size (.slice A4 n4 c4) (l ++ [⟨x, m⟩]) from own_move (by have := HO4.out; rwa [HN4.out] at this) (fun k hk => hb5.block k (own_lt (by have := HO4.out; rwa [HN4.out] at this) k hk)))
      clear hb5
      go_wp2_with fail
      refine (HSZ.out w5 HB5.out).mono ?_
      rintro e w6 ⟨z6, rfl, hb6⟩
      have HB6 := Lib.hid (HB5.out.trans (hb6.mono HB5.out.size))
      have HO6 := Lib.hid (show OwnSl w6 W.heap.size (.slice A4 n4 c4) (l ++ [⟨x, m⟩]) from own_move HO5.out (fun k hk => hb6.block k (own_lt HO5.out k hk)))
      clear hb6
      go_wp2
      first | go_ret2 | go_ret3
      exact ⟨_, _, rfl, by rw [HP.out]; exact HO6.out, HB6.out⟩
end Go.Proofs.YtpdcjdangnfeiaaGreatDoor.Rc
end
