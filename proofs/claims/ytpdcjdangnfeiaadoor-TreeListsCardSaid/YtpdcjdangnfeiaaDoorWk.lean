/- TreeErrors walked. -/
import Derived.Test.YtpdcjdangnfeiaaDoorWh
import Derived.Test.YtpdcjdangnfeiaaDoorWi
namespace Go.Proofs.YtpdcjdangnfeiaaDoor.Wk
open Go Go.Maps Go.RowKit Go.Proofs.YtpdcjdangnfeiaaDoor.Pb Go.Proofs.YtpdcjdangnfeiaaDoor.PPth Go.Proofs.YtpdcjdangnfeiaaDoorW.PrintWords Go.Proofs.YtpdcjdangnfeiaaDoorW.PrintLast Go.Proofs.YtpdcjdangnfeiaaDoorW.PrintMore Go.Proofs.YtpdcjdangnfeiaaDoor.Ta Go.Proofs.YtpdcjdangnfeiaaDoor.Tb Go.Proofs.YtpdcjdangnfeiaaDoor.Tc Go.Proofs.YtpdcjdangnfeiaaDoor.Te Go.Proofs.YtpdcjdangnfeiaaDoor.Tf Go.Proofs.YtpdcjdangnfeiaaDoor.Qa Go.Proofs.YtpdcjdangnfeiaaDoor.Qb Go.Proofs.YtpdcjdangnfeiaaDoor.Qc Go.Proofs.YtpdcjdangnfeiaaDoor.Qd Go.Proofs.YtpdcjdangnfeiaaDoor.Qe Go.Proofs.YtpdcjdangnfeiaaDoor.Qf Go.Proofs.YtpdcjdangnfeiaaDoor.Ua Go.Proofs.YtpdcjdangnfeiaaDoor.Ub Go.Proofs.YtpdcjdangnfeiaaDoor.Uc Go.Proofs.YtpdcjdangnfeiaaDoor.Ud Go.Proofs.YtpdcjdangnfeiaaDoor.Ue Go.Proofs.YtpdcjdangnfeiaaDoor.Uf Go.Proofs.YtpdcjdangnfeiaaDoor.Ba Go.Proofs.YtpdcjdangnfeiaaDoor.Ug Go.Proofs.YtpdcjdangnfeiaaDoor.Uh Go.Proofs.YtpdcjdangnfeiaaDoor.Ui Go.Proofs.YtpdcjdangnfeiaaDoor.Uj Go.Proofs.YtpdcjdangnfeiaaDoor.Uk Go.Proofs.YtpdcjdangnfeiaaDoor.Ul Go.Proofs.YtpdcjdangnfeiaaDoor.Um Go.Proofs.YtpdcjdangnfeiaaDoor.Un Go.Proofs.YtpdcjdangnfeiaaDoor.Uo Go.Proofs.YtpdcjdangnfeiaaDoor.Up Go.Proofs.YtpdcjdangnfeiaaDoor.Uq Go.Proofs.YtpdcjdangnfeiaaDoor.Ur Go.Proofs.YtpdcjdangnfeiaaDoor.Us Go.Proofs.YtpdcjdangnfeiaaDoor.Ut Go.Proofs.YtpdcjdangnfeiaaDoor.Uu Go.Proofs.YtpdcjdangnfeiaaDoor.Uv Go.Proofs.YtpdcjdangnfeiaaDoor.Uw Go.Proofs.YtpdcjdangnfeiaaDoor.Ux Go.Proofs.YtpdcjdangnfeiaaDoor.Uy Go.Proofs.YtpdcjdangnfeiaaDoor.Uz Go.Proofs.YtpdcjdangnfeiaaDoor.Va Go.Proofs.YtpdcjdangnfeiaaDoor.Vb Go.Proofs.YtpdcjdangnfeiaaDoor.Vc Go.Proofs.YtpdcjdangnfeiaaDoor.Vd Go.Proofs.YtpdcjdangnfeiaaDoor.Ve Go.Proofs.YtpdcjdangnfeiaaDoor.Wa Go.Proofs.YtpdcjdangnfeiaaDoor.Wb Go.Proofs.YtpdcjdangnfeiaaDoor.Wc Go.Proofs.YtpdcjdangnfeiaaDoor.Wd Go.Proofs.YtpdcjdangnfeiaaDoor.We Go.Proofs.YtpdcjdangnfeiaaDoor.Wg Go.Proofs.YtpdcjdangnfeiaaDoor.Wh Go.Proofs.YtpdcjdangnfeiaaDoor.Wi
section
variable {w : World} {B1 t1 m1 B2 t2 m2 : Nat} {s1 s2 : S} {q : Int}
theorem free_at2 (h : At2 w B1 t1 s1 m1 B2 t2 s2 m2 q) : Calls Tryd.prog 13 #[.pointer (some ⟨t1, 0, none⟩)] w fun e w' => e = .returned (.tuple #[.int .i64 s1.blocks, .int .i64 s1.inodes]) ∧ At2 w' B1 t1 s1 m1 B2 t2 s2 m2 q ∧ Below w.heap.size w w' := by
  refine (free_at h.left).mono ?_
  rintro e w' ⟨rfl, -, hb⟩
  exact ⟨rfl, h.below hb, hb⟩
theorem SA_refl (a : Path → Option N) : SA a a := fun _ => rfl
theorem rdO_at {w : World} {A : Option Addr} {l : List O} (h : RdO w A l) {k : Nat} {x : O} (hx : l[k]? = some x) : ∃ b o, A = some ⟨b, o, none⟩ ∧ OpAt w b (o + k * 5) x := by
  rcases h with rfl | ⟨b, o, rfl, h⟩
  · simp at hx
  · exact ⟨b, o, rfl, h k x hx⟩
end
set_option maxHeartbeats 4000000 in
set_option maxRecDepth 1000000 in
theorem errors_few (z : Nat) (hz : z ≤ 200) (A : Option Addr) (c : Nat) (l : List O) (q : Int) (W0 : World) (hq : W0.cell? ⟨0, 0, none⟩ = some (.int .i64 q)) (hl : RdO W0 A l) : Calls Tryd.prog 7 #[.int .i64 z, .slice A l.length c] W0 fun e w' => e = .returned (.bool true) ∧ Below W0.heap.size W0 w' := by
  have HKN := Lib.hid (known_any W0 q hq)
  have HFEW := Lib.hid (fun W (hb : Below W0.heap.size W0 W) => few_any A c l W (hl.below hb))
  have HN := Lib.hid (fun W (hb : Below W0.heap.size W0 W) => (show Calls Tryd.prog 11 #[.int .i64 z, .int .i64 12] W fun e w' => ∃ tb', e = .returned (.tuple #[.pointer (some ⟨tb', 0, none⟩), .int .i64 0]) ∧ At w' W.heap.size tb' q ⟨rootA, z, 11⟩ 0 ∧ Below W.heap.size W w' from new_at (w := W) (q := q) (n := z) (i := 11) (keepC hb hq) (by omega) (by omega)))
  have HL := Lib.hid hl
  obtain ⟨n, hn⟩ : ∃ n, l.length = n := ⟨_, rfl⟩
  rw [hn] at HFEW ⊢
  have HLEN := Lib.hid hn
  have z0 : ¬ (z : Int) < 0 := by omega
  have z1 : ¬ (200 : Int) < (z : Int) := by omega
  clear hq hl hn
  go_enter Tryd.func7, Tryd.ntmps7
  go_wp2_with fail
  refine HKN.out.mono ?_
  rintro e w1 ⟨rfl, hb⟩
  have HB1 := Lib.hid hb
  clear hb
  go_wp2_with fail
  refine (HFEW.out _ HB1.out).mono ?_
  rintro e w2 ⟨r, rfl, hb, hP⟩
  have HB2 := Lib.hid (bt HB1.out hb)
  have HP := Lib.hid hP
  clear hb hP
  cases r
  · go_wp2
    go_ret
    exact ⟨rfl, HB2.out⟩
  have HF := Lib.hid (HP.out rfl)
  go_wp2_with fail
  refine (HN.out _ HB2.out).mono ?_
  rintro e w3 ⟨tb', rfl, ha, hb⟩
  have HA := Lib.hid ha
  have HB3 := Lib.hid hb
  have HL2 := Lib.hid (HL.out.below HB2.out)
  clear ha hb
  go_wp2_with fail
  go_loopw [7] (fun i wr => ∃ (k : Nat) (s : S), i = .int .i64 k ∧ k ≤ n ∧ Hid (At wr w2.heap.size tb' q s k) ∧ Hid (Below w2.heap.size w2 wr)) (fun i _ => n - (intOf i).toNat)
  case atStart => exact ⟨0, _, rfl, by omega, HA, HB3⟩
  case round =>
    clear HA
    obtain ⟨k, s, rfl, hk, HA, HW⟩ := hrel
    by_cases hlt : k < n
    · have i1 : (k : Int) < n := by omega
      obtain ⟨x, hx⟩ : ∃ x, l[k]? = some x := ⟨l[k]'(by rw [HLEN.out]; exact hlt), List.getElem?_eq_getElem _⟩
      obtain ⟨b, o, rfl, hop⟩ := rdO_at HL2.out hx
      have hk150 : k ≤ 150 := by have := HF.out.1; rw [HLEN.out] at this; omega
      have HDL := Lib.hid (HF.out.2 x (List.mem_of_getElem? hx))
      have HOP := Lib.hid hop
      clear hx hop
      go_wp2_with fail
      refine (twin_at HA.out (by omega)).mono ?_
      rintro e w4 ⟨t2, rfl, h2, hb⟩
      have H2 := Lib.hid h2
      have HB4 := Lib.hid (HW.out.trans (hb.mono HW.out.size))
      clear h2 hb
      go_wp2_with fail
      refine (free_at2 H2.out).mono ?_
      rintro e w5 ⟨rfl, h2, hb⟩
      have H5 := Lib.hid h2
      have HB5 := Lib.hid (HB4.out.trans (hb.mono HB4.out.size))
      clear h2 hb
      obtain ⟨g0, g1, g2, ⟨D, dc, g3, hrd⟩, g4⟩ := HOP.out.below HB5.out
      have HRD := Lib.hid hrd
      obtain ⟨E, hE⟩ : ∃ E, doE s x = E := ⟨_, rfl⟩
      obtain ⟨s', hs'⟩ : ∃ s', doS s x = s' := ⟨_, rfl⟩
      have hdo := do_at2 x D dc H5.out (by omega) HRD.out (by have := HDL.out; omega)
      unfold opV at hdo
      rw [hE, hs'] at hdo
      have HDO := Lib.hid hdo
      have HE := Lib.hid hE
      have HS' := Lib.hid hs'
      clear hrd hdo hE hs'
      go_wp2_with fail
      refine HDO.out.mono ?_
      rintro e w6 ⟨rfl, h2, hb⟩
      have H6 := Lib.hid h2
      have HB6 := Lib.hid (HB5.out.trans hb)
      clear h2 hb
      by_cases hz : E = 0
      · subst hz
        go_wp2_with fail
        go_roundw
        · exact ⟨k + 1, s', by go_num, hlt, Lib.hid H6.out.left, HB6⟩
        · simp [intOf]; omega
      · have hss : s' = s := by
          rw [← HS'.out]
          unfold doS
          rw [if_pos (by rw [HE.out]; exact hz)]
        subst hss
        have e1 : (E == 0) = false := by simpa using hz
        clear hz
        go_wp2_with fail
        refine (free_at2 H6.out).mono ?_
        rintro e w7 ⟨rfl, h2, hb⟩
        have H7 := Lib.hid h2
        have HB7 := Lib.hid (HB6.out.trans (hb.mono HB6.out.size))
        have HSM := Lib.hid (same_true H7.out (SA_refl s'.a))
        clear h2 hb
        go_wp2_with fail
        refine HSM.out.mono ?_
        rintro e w8 ⟨rfl, h2, hb⟩
        have H8 := Lib.hid h2
        have HB8 := Lib.hid (HB7.out.trans (hb.mono HB7.out.size))
        clear h2 hb
        go_wp2_with fail
        go_roundw
        · exact ⟨k + 1, s', by go_num, hlt, Lib.hid H8.out.left, HB8⟩
        · simp [intOf]; omega
    · have i1 : ¬ (k : Int) < n := by omega
      go_wp2
      go_ret
      exact ⟨rfl, HB2.out.trans (HW.out.mono HB2.out.size)⟩
set_option maxHeartbeats 4000000 in
set_option maxRecDepth 1000000 in
theorem errors_out (z : Int) (hz : z < 0 ∨ 200 < z) (A : Option Addr) (c : Nat) (l : List O) (q : Int) (W0 : World) (hq : W0.cell? ⟨0, 0, none⟩ = some (.int .i64 q)) (hl : RdO W0 A l) : Calls Tryd.prog 7 #[.int .i64 z, .slice A l.length c] W0 fun e w' => e = .returned (.bool true) ∧ Below W0.heap.size W0 w' := by
  have HKN := Lib.hid (known_any W0 q hq)
  have HFEW := Lib.hid (fun W (hb : Below W0.heap.size W0 W) => few_any A c l W (hl.below hb))
  obtain ⟨n, hn⟩ : ∃ n, l.length = n := ⟨_, rfl⟩
  rw [hn] at HFEW ⊢
  clear hq hl hn
  by_cases z0 : z < 0
  · clear hz
    go_enter Tryd.func7, Tryd.ntmps7
    go_wp2_with fail
    refine HKN.out.mono ?_
    rintro e w1 ⟨rfl, hb⟩
    have HB1 := Lib.hid hb
    clear hb
    go_wp2_with fail
    refine (HFEW.out _ HB1.out).mono ?_
    rintro e w2 ⟨r, rfl, hb, hP⟩
    have HB2 := Lib.hid (bt HB1.out hb)
    clear hb hP
    cases r
    · go_wp2
      go_ret
      exact ⟨rfl, HB2.out⟩
    · go_wp2
      go_ret
      exact ⟨rfl, HB2.out⟩
  · have z1 : 200 < z := hz.resolve_left z0
    clear hz
    go_enter Tryd.func7, Tryd.ntmps7
    go_wp2_with fail
    refine HKN.out.mono ?_
    rintro e w1 ⟨rfl, hb⟩
    have HB1 := Lib.hid hb
    clear hb
    go_wp2_with fail
    refine (HFEW.out _ HB1.out).mono ?_
    rintro e w2 ⟨r, rfl, hb, hP⟩
    have HB2 := Lib.hid (bt HB1.out hb)
    clear hb hP
    cases r
    · go_wp2
      go_ret
      exact ⟨rfl, HB2.out⟩
    · go_wp2
      go_ret
      exact ⟨rfl, HB2.out⟩
theorem errors_walk (z : Int) (A : Option Addr) (c : Nat) (l : List O) (q : Int) (W0 : World) (hq : W0.cell? ⟨0, 0, none⟩ = some (.int .i64 q)) (hl : RdO W0 A l) : Calls Tryd.prog 7 #[.int .i64 z, .slice A l.length c] W0 fun e w' => e = .returned (.bool true) ∧ Below W0.heap.size W0 w' := by
  by_cases h : z < 0 ∨ 200 < z
  · exact errors_out z h A c l q W0 hq hl
  · obtain ⟨n, rfl⟩ : ∃ n : Nat, z = n := ⟨z.toNat, by omega⟩
    exact errors_few n (by omega) A c l q W0 hq hl
end Go.Proofs.YtpdcjdangnfeiaaDoor.Wk
