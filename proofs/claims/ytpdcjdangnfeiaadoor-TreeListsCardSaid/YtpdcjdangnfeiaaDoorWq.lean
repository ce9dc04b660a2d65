/- (*node).walk walked. -/
import Derived.Test.YtpdcjdangnfeiaaDoorWp
import Derived.ControlIn
import Derived.Laws.Concat
import Derived.Deep.RegionHeld3
namespace Go.Proofs.YtpdcjdangnfeiaaDoor.Wq
open Go Go.Maps Go.RowKit Go.Proofs.YtpdcjdangnfeiaaDoor.Pb Go.Proofs.YtpdcjdangnfeiaaDoor.PPth Go.Proofs.YtpdcjdangnfeiaaDoorW.PrintWords Go.Proofs.YtpdcjdangnfeiaaDoorW.PrintLast Go.Proofs.YtpdcjdangnfeiaaDoorW.PrintMore Go.Proofs.YtpdcjdangnfeiaaDoor.Ta Go.Proofs.YtpdcjdangnfeiaaDoor.Tb Go.Proofs.YtpdcjdangnfeiaaDoor.Tc Go.Proofs.YtpdcjdangnfeiaaDoor.Te Go.Proofs.YtpdcjdangnfeiaaDoor.Tf Go.Proofs.YtpdcjdangnfeiaaDoor.Qa Go.Proofs.YtpdcjdangnfeiaaDoor.Qb Go.Proofs.YtpdcjdangnfeiaaDoor.Qc Go.Proofs.YtpdcjdangnfeiaaDoor.Qd Go.Proofs.YtpdcjdangnfeiaaDoor.Qe Go.Proofs.YtpdcjdangnfeiaaDoor.Qf Go.Proofs.YtpdcjdangnfeiaaDoor.Ua Go.Proofs.YtpdcjdangnfeiaaDoor.Ub Go.Proofs.YtpdcjdangnfeiaaDoor.Uc Go.Proofs.YtpdcjdangnfeiaaDoor.Ud Go.Proofs.YtpdcjdangnfeiaaDoor.Ue Go.Proofs.YtpdcjdangnfeiaaDoor.Uf Go.Proofs.YtpdcjdangnfeiaaDoor.Ba Go.Proofs.YtpdcjdangnfeiaaDoor.Ug Go.Proofs.YtpdcjdangnfeiaaDoor.Uh Go.Proofs.YtpdcjdangnfeiaaDoor.Ui Go.Proofs.YtpdcjdangnfeiaaDoor.Uj Go.Proofs.YtpdcjdangnfeiaaDoor.Uk Go.Proofs.YtpdcjdangnfeiaaDoor.Ul Go.Proofs.YtpdcjdangnfeiaaDoor.Um Go.Proofs.YtpdcjdangnfeiaaDoor.Un Go.Proofs.YtpdcjdangnfeiaaDoor.Uo Go.Proofs.YtpdcjdangnfeiaaDoor.Up Go.Proofs.YtpdcjdangnfeiaaDoor.Uq Go.Proofs.YtpdcjdangnfeiaaDoor.Ur Go.Proofs.YtpdcjdangnfeiaaDoor.Us Go.Proofs.YtpdcjdangnfeiaaDoor.Ut Go.Proofs.YtpdcjdangnfeiaaDoor.Uu Go.Proofs.YtpdcjdangnfeiaaDoor.Uv Go.Proofs.YtpdcjdangnfeiaaDoor.Uw Go.Proofs.YtpdcjdangnfeiaaDoor.Ux Go.Proofs.YtpdcjdangnfeiaaDoor.Uy Go.Proofs.YtpdcjdangnfeiaaDoor.Uz Go.Proofs.YtpdcjdangnfeiaaDoor.Va Go.Proofs.YtpdcjdangnfeiaaDoor.Vb Go.Proofs.YtpdcjdangnfeiaaDoor.Vc Go.Proofs.YtpdcjdangnfeiaaDoor.Vd Go.Proofs.YtpdcjdangnfeiaaDoor.Ve Go.Proofs.YtpdcjdangnfeiaaDoor.Wa Go.Proofs.YtpdcjdangnfeiaaDoor.Wb Go.Proofs.YtpdcjdangnfeiaaDoor.Wc Go.Proofs.YtpdcjdangnfeiaaDoor.Wd Go.Proofs.YtpdcjdangnfeiaaDoor.We Go.Proofs.YtpdcjdangnfeiaaDoor.Wm Go.Proofs.YtpdcjdangnfeiaaDoor.Wp
section
variable {es : Es} {B l N : Nat} {X : Nat → Prop} {J Jx : List Row → World → Prop}
/-- How the world stands while a walk is under way. -/
structure Wk (B : Nat) (es : Es) (X : Nat → Prop) (W : World) : Prop where
  sto : Sto Tryd.prog 67 9 W B (es.map (·.2))
  nob : ∀ b, X b → NoB W b
  size : B ≤ W.heap.size
theorem Wk.kp {W W1 : World} (h : Wk B es X W) (hX : ∀ b, X b → b < B) (k : Kp X W W1) : Wk B es X W1 :=
  ⟨k.sto h.sto hX h.nob, fun b hx => k.nob b hx (by have := hX b hx; have := h.size; omega) (h.nob b hx), Nat.le_trans h.size k.size⟩
theorem Wk.below {W W1 : World} (h : Wk B es X W) (hX : ∀ b, X b → b < B) (hb : Below W.heap.size W W1) : Wk B es X W1 := h.kp hX (Kp.below hb)
theorem depth_wide (k : Nat) : (Fence.wide.depth.isSome = true → 1 ≤ k) := fun h => by simp [Fence.wide] at h
theorem infoV_row {a : Uc.Fn} {p : Path} {x : ByteArray} {t : Sh} (h : a (p ++ [x]) = some t) : encR (rowOf a (p ++ [x])) = #[.string (tx p ++ ⟨#[47]⟩ ++ x), infoV t] := by
  unfold encR rowOf infoV
  rw [tx_snoc, h]
  rfl
set_option maxHeartbeats 4000000 in
set_option maxRecDepth 1000000 in
theorem walk_step (hw : WfF (gp es)) (hn : NmOk (gp es)) (hX : ∀ b, X b → b < B) (hJ : ∀ pre W W', J pre W → Below W.heap.size W W' → J pre W')
    (hY : ∀ m pre x W, J pre W → pre.length < N → YieldAt Fence.wide m Tryd.prog l (encR x) W (YPost X J Jx pre x W))
    {p : Path} {s : Sh} (hg : gp es p = some s) (hz : size s.D ≤ 100000) (hsz : ∀ x, (gp es (p ++ [x])).isSome = true → x.size ≤ 1000000) (htz : (tx p).size ≤ 1000000) (RR : ByteArray → List Row)
    (ih : ∀ x t, gp es (p ++ [x]) = some t → ∀ pre W, Wk B es X W → J pre W → pre.length + (RR x).length ≤ N → Calls Tryd.prog 32 #[.pointer (some ⟨t.nb, 0, none⟩), .string (tx p ++ ⟨#[47]⟩ ++ x), .func (.yield l) #[] #[]] W (WPost X J Jx pre (RR x) W))
    {pre : List Row} {W : World} (hk : Wk B es X W) (hj : J pre W) (hN : pre.length + ((nms s).flatMap (fun x => rowOf (gp es) (p ++ [x]) :: RR x)).length ≤ N) :
    Calls Tryd.prog 32 #[.pointer (some ⟨s.nb, 0, none⟩), .string (tx p), .func (.yield l) #[] #[]] W (WPost X J Jx pre ((nms s).flatMap (fun x => rowOf (gp es) (p ++ [x]) :: RR x)) W) := by
  have hN0 : Nd W B s := hk.sto.ok s (List.mem_map.2 ⟨(p, s), gp_mem hg, rfl⟩)
  obtain ⟨dv, hc, -⟩ := hN0.cells
  have a2 : W.cell? ⟨s.nb, 2, none⟩ = some (kidsV s) := blk_cell hc 2
  obtain ⟨mbo, hmbo⟩ : ∃ mbo, kidsV s = .map mbo := by unfold kidsV; split <;> exact ⟨_, rfl⟩
  have hsort := sorted_node hN0 hz
  rw [hmbo] at a2 hsort
  obtain ⟨L, hL⟩ : ∃ L, nms s = L := ⟨_, rfl⟩
  obtain ⟨n, hn0⟩ : ∃ n, L.length = n := ⟨_, rfl⟩
  obtain ⟨tp, htp⟩ : ∃ tp, tx p = tp := ⟨_, rfl⟩
  rw [hL] at hN ⊢
  rw [htp] at ih htz ⊢
  obtain ⟨rl, hrl⟩ : ∃ rl : Nat → List Row, ∀ k, (L.take k).flatMap (fun x => rowOf (gp es) (p ++ [x]) :: RR x) = rl k := ⟨fun k => _, fun k => rfl⟩
  have hall : L.flatMap (fun x => rowOf (gp es) (p ++ [x]) :: RR x) = rl n := by rw [← hrl, List.take_of_length_le (by rw [hn0]; exact Nat.le_refl _)]
  rw [hall] at hN ⊢
  have HRL := Lib.hid hrl
  have HALL := Lib.hid hall
  have hnb : n ≤ 100000 := by
    rw [← hn0, ← hL]
    unfold nms
    split
    · rename_i hd
      have := names_len hN0 hd
      unfold names
      rw [List.length_map, this]; exact hz
    · exact Nat.zero_le _
  have HSORT := Lib.hid hsort
  have HJ := Lib.hid hJ
  have HY := Lib.hid hY
  have HK := Lib.hid hk
  have HJ0 := Lib.hid hj
  have HN := Lib.hid hN
  have HIH := Lib.hid ih
  have HA2 := Lib.hid a2
  have HLEN := Lib.hid hn0
  have HG := Lib.hid hg
  have HNM := Lib.hid hn
  have HL := Lib.hid hL
  have HTP := Lib.hid htp
  clear hsort hJ hY hk hj hN ih hc hn0 hn hg hL htp hrl hall
  go_enter Tryd.func32, Tryd.ntmps32
  go_wp2_with fail
  refine (keys_any mbo W).mono ?_
  rintro e w1 ⟨rfl, rfl⟩
  go_wp2_with fail
  refine HSORT.out.mono ?_
  rintro e w1 ⟨A, c, rfl, hr, hb⟩
  rw [HL.out, HLEN.out]
  rw [HL.out] at hr
  have HR := Lib.hid hr
  have HB := Lib.hid hb
  clear hr hb
  go_wp2_with fail
  go_loopw [18] (fun i wr => ∃ k : Nat, i = .int .i64 k ∧ k ≤ n ∧ Hid (J (pre ++ rl k) wr) ∧ Hid (Kp X W wr) ∧ Hid (RdN wr W.heap.size A L)) (fun i _ => n - (intOf i).toNat)
  case atStart =>
    refine ⟨0, rfl, by omega, Lib.hid ?_, Lib.hid (Kp.below HB.out), HR⟩
    have : rl 0 = [] := by rw [← HRL.out]; rfl
    rw [this, List.append_nil]
    exact HJ.out _ _ _ HJ0.out HB.out
  case round =>
    clear HR HB
    obtain ⟨k, rfl, hk, HJK, HKP, HR⟩ := hrel
    by_cases hlt : k < n
    · have i1 : (k : Int) < n := by omega
      obtain ⟨x, hx⟩ : ∃ x, L[k]? = some x := ⟨L[k]'(by rw [HLEN.out]; exact hlt), List.getElem?_eq_getElem _⟩
      have hmem : x ∈ nms s := by rw [HL.out]; exact List.mem_of_getElem? hx
      have hd : s.dir = true := by
        unfold nms at hmem
        split at hmem
        · assumption
        · cases hmem
      have hsome : (gp es (p ++ [x])).isSome = true := by
        unfold nms at hmem
        rw [if_pos hd] at hmem
        exact ((HNM.out p s HG.out hd).2 x).1 hmem
      obtain ⟨t, ht⟩ := Option.isSome_iff_exists.1 hsome
      have hxs := hsz x hsome
      have hstep : rl (k + 1) = rl k ++ rowOf (gp es) (p ++ [x]) :: RR x := by
        rw [← HRL.out, ← HRL.out, List.take_add_one, hx, List.flatMap_append]
        simp
      have hpre : rl (k + 1) <+: rl n := ⟨(L.drop (k + 1)).flatMap (fun x => rowOf (gp es) (p ++ [x]) :: RR x), by rw [← HRL.out, ← HALL.out, ← List.flatMap_append, List.take_append_drop]⟩
      obtain ⟨g, hgb, rfl, hcell⟩ : ∃ g, W.heap.size ≤ g ∧ A = some ⟨g, 0, none⟩ ∧ ∀ j x, L[j]? = some x → wr.cell? ⟨g, j, none⟩ = some (.string x) := by
        rcases HR.out with h | h
        · rw [h] at hx; simp at hx
        · exact h
      have hck := hcell k x hx
      have WK := Lib.hid (HK.out.kp hX HKP.out)
      have hNr : Nd wr B s := WK.out.sto.ok s (List.mem_map.2 ⟨(p, s), gp_mem HG.out, rfl⟩)
      have hnX : ¬ X s.nb := fun hx2 => by have := hX _ hx2; have := hNr.base; omega
      have c2 : wr.cell? ⟨s.nb, 2, none⟩ = some (.map mbo) := HKP.out.cell hnX HA2.out
      have hmb : mbo = some s.mb := by
        unfold kidsV at hmbo
        rw [if_pos hd] at hmbo
        exact (Value.map.inj hmbo).symm
      have hlook : ∀ W, Below wr.heap.size wr W → (Instr.lookup 65 (.map mbo) (.string x) false).run Tryd.prog W = .ok (.pointer (some ⟨t.nb, 0, none⟩)) W := by
        intro W hbW
        have dr := hw.dr p s HG.out hd
        have := Ta.look ((Nd.below hNr hbW).kids hd).2 law9 Tryd.underlying65 (zero56 _) x (key9 x hxs)
        rw [dr.kids, ht] at this
        rw [hmb]
        exact this
      have lk0 := hlook wr (Below.refl _ _)
      have lk1 := hlook wr.drew ((Below.refl _ _).drew)
      have HT := Lib.hid ht
      clear hlook
      have HSTEP := Lib.hid hstep
      have HPRE := Lib.hid hpre
      clear hx hmem hsome ht hstep hpre hcell hmb hNr hnX hd
      go_wp2_with fail
      have hS0 : wr.cell? ⟨s.nb, 2, none⟩ = some (.map mbo) ∧ (Instr.lookup 65 (.map mbo) (.string x) false).run Tryd.prog wr = .ok (.pointer (some ⟨t.nb, 0, none⟩)) wr := ⟨c2, lk0⟩
      have hS1 : wr.drew.cell? ⟨s.nb, 2, none⟩ = some (.map mbo) ∧ (Instr.lookup 65 (.map mbo) (.string x) false).run Tryd.prog wr.drew = .ok (.pointer (some ⟨t.nb, 0, none⟩)) wr.drew := ⟨c2, lk1⟩
      have had1 : ∀ W, (Op.stringOp .add tp ⟨#[47]⟩).run Tryd.prog W = .ok (.string (tp ++ ⟨#[47]⟩)) W := fun W => run_string_add_sum W tp ⟨#[47]⟩ (by have : (⟨#[47]⟩ : ByteArray).size = 1 := rfl; omega)
      have had2 : ∀ W, (Op.stringOp .add (tp ++ ⟨#[47]⟩) x).run Tryd.prog W = .ok (.string (tp ++ ⟨#[47]⟩ ++ x)) W := fun W => run_string_add_sum W (tp ++ ⟨#[47]⟩) x (by have : (tp ++ ⟨#[47]⟩ : ByteArray).size = tp.size + 1 := ByteArray.size_append; omega)
      have HS0 := Lib.hid hS0
      have HS1 := Lib.hid hS1
      clear hS0 hS1 lk0 lk1 c2
      rename_i kf hkf
      go_region_held3 (fun W => W.cell? ⟨s.nb, 2, none⟩ = some (.map mbo) ∧ (Instr.lookup 65 (.map mbo) (.string x) false).run Tryd.prog W = .ok (.pointer (some ⟨t.nb, 0, none⟩)) W) (first | exact HS1.out | exact HS0.out | fail) (fail)
      show kf _ _
      refine hkf _ _ ?_
      clear hkf
      have hNt : Nd wr.drew B t := (WK.out.below hX ((Below.refl _ _).drew)).sto.ok t (List.mem_map.2 ⟨(p ++ [x], t), gp_mem HT.out, rfl⟩)
      have HINF := Lib.hid (info_any hNt)
      obtain ⟨V, hV⟩ : ∃ V, infoV t = V := ⟨_, rfl⟩
      have hrow := infoV_row HT.out
      rw [HTP.out, hV] at hrow
      rw [hV] at HINF
      have HROW := Lib.hid hrow
      have hdd := depth_wide
      have hfn : ∀ f, Fence.wide.fn f := fun _ => trivial
      clear hNt hV hrow
      refine (wpIn_wide (n := 1)).1 ?_
      gi_wp2_with (first
        | (gi_at_call 26; refine (callsIn_wide.2 HINF.out).mono ?_; clear HINF; rintro e w2 ⟨rfl, hb2⟩; have HB2 := Lib.hid (((Below.refl wr.heap.size wr).drew).trans hb2); have HJ2 := Lib.hid (HJ.out _ _ _ HJK.out HB2.out); have hyy := HY.out 0 (pre ++ rl k) (rowOf (gp es) (p ++ [x])) w2 HJ2.out (by have h1 := HN.out; have h2 := HPRE.out.length_le; rw [HSTEP.out, List.length_append, List.length_cons] at h2; rw [List.length_append]; omega); rw [HROW.out] at hyy; obtain ⟨fn, tm, asg, body, hy, hR⟩ := hyy; clear hb2)
        | (refine hR.mono ?_; clear hR; rintro e w3 (⟨rfl, hj3, hk3⟩ | ⟨rfl, hx3⟩))
        | (gi_at_call 32; refine (callsIn_wide.2 (HIH.out x t HT.out (pre ++ rl k ++ [rowOf (gp es) (p ++ [x])]) w3 ((WK.out.below hX HB2.out).kp hX hk3) hj3 (by have h1 := HN.out; have h2 := HPRE.out.length_le; rw [HSTEP.out, List.length_append, List.length_cons] at h2; simp only [List.length_append, List.length_singleton]; omega))).mono ?_; rintro e w4 (⟨rfl, hj4, hk4⟩ | ⟨rfl, q4, hq4, hx4⟩)))
      all_goals first
        | (have hh := hx4
           go_ret
           have h1 := HPRE.out
           rw [HSTEP.out] at h1
           obtain ⟨u, hu⟩ := hq4
           exact .inr ⟨rfl, rl k ++ rowOf (gp es) (p ++ [x]) :: q4, List.IsPrefix.trans ⟨u, by rw [← hu]; simp⟩ h1, by simpa using hx4⟩)
        | (have hh := hx3
           go_ret
           have h1 := HPRE.out
           rw [HSTEP.out] at h1
           exact .inr ⟨rfl, rl k ++ [rowOf (gp es) (p ++ [x])], List.IsPrefix.trans ⟨RR x, by simp⟩ h1, by simpa using hx3⟩)
        | (have hkp := ((HKP.out.trans (Kp.below HB2.out)).trans hk3).trans hk4
           have hrn := (((HR.out.kp (X := X) (Kp.below HB2.out) (fun b hb => by have := hX b hb; have := HK.out.size; omega)).kp hk3 (fun b hb => by have := hX b hb; have := HK.out.size; omega)).kp hk4 (fun b hb => by have := hX b hb; have := HK.out.size; omega))
           have hjn : J (pre ++ rl (k + 1)) w4 := by rw [HSTEP.out]; simpa using hj4
           have H1 := Lib.hid hkp
           have H2 := Lib.hid hrn
           have H3 := Lib.hid hjn
           clear hkp hrn hjn hj3 hk3 hj4 hk4 hy
           go_wp2
           go_roundw
           · exact ⟨k + 1, by go_num, hlt, H3, H1, H2⟩
           · simp [intOf]; omega)
    · have i1 : ¬ (k : Int) < n := by omega
      have hkn : k = n := by omega
      subst hkn
      go_wp2
      go_ret
      exact .inl ⟨rfl, HJK.out, HKP.out⟩
theorem walk_inside (hw : WfF (gp es)) (hn : NmOk (gp es)) (hX : ∀ b, X b → b < B) (hJ : ∀ pre W W', J pre W → Below W.heap.size W W' → J pre W')
    (hY : ∀ m pre x W, J pre W → pre.length < N → YieldAt Fence.wide m Tryd.prog l (encR x) W (YPost X J Jx pre x W))
    (hz : ∀ p s, gp es p = some s → size s.D ≤ 100000 ∧ (tx p).size ≤ 1000000) (hsz : ∀ p x, (gp es (p ++ [x])).isSome = true → x.size ≤ 1000000) :
    ∀ (k : Nat) (p : Path) (s : Sh), gp es p = some s → (∀ q, (gp es q).isSome = true → q.length ≤ p.length + k) → ∀ pre W, Wk B es X W → J pre W → pre.length + (rows (gp es) k p).length ≤ N →
      Calls Tryd.prog 32 #[.pointer (some ⟨s.nb, 0, none⟩), .string (tx p), .func (.yield l) #[] #[]] W (WPost X J Jx pre (rows (gp es) k p) W) := by
  intro k
  induction k with
  | zero =>
    intro p s hg hk pre W hwk hj hN
    rw [rows_eq hn hg hk] at hN ⊢
    refine walk_step hw hn hX hJ hY hg (hz p s hg).1 (hsz p) (hz p s hg).2 (fun x => rows (gp es) (0 - 1) (p ++ [x])) ?_ hwk hj hN
    intro x t ht
    have := hk _ (by rw [ht]; rfl)
    rw [List.length_append, List.length_singleton] at this
    omega
  | succ k ih =>
    intro p s hg hk pre W hwk hj hN
    rw [rows_eq hn hg hk] at hN ⊢
    refine walk_step hw hn hX hJ hY hg (hz p s hg).1 (hsz p) (hz p s hg).2 (fun x => rows (gp es) (k + 1 - 1) (p ++ [x])) ?_ hwk hj hN
    intro x t ht pre2 W2 hwk2 hj2 hN2
    rw [← tx_snoc]
    exact ih (p ++ [x]) t ht (fun q hq => by have := hk q hq; rw [List.length_append, List.length_singleton]; omega) pre2 W2 hwk2 hj2 hN2
end
end Go.Proofs.YtpdcjdangnfeiaaDoor.Wq
