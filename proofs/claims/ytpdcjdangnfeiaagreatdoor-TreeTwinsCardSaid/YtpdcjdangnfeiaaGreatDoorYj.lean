/- move's act: what it leaves of the tree. replace's act walked. replace's act: what it leaves of the tree. replace walked: what is wrong, or the act. move walked, where something is wrong. move walked: a thing in the way, a name that is free. move walked: a name that is free. move, by paths. -/
import Derived.Test.YtpdcjdangnfeiaaGreatDoorYi
import Derived.LaidEqlPtr
import Derived.Lib.Builder
section
open Go Go.Maps Go.RowKit Go.Proofs.YtpdcjdangnfeiaaGreatDoor.Pb Go.Proofs.YtpdcjdangnfeiaaGreatDoor.PPth Go.Proofs.YtpdcjdangnfeiaaGreatDoorW.PrintWords Go.Proofs.YtpdcjdangnfeiaaGreatDoorW.PrintLast Go.Proofs.YtpdcjdangnfeiaaGreatDoorW.PrintMore Go.Proofs.YtpdcjdangnfeiaaGreatDoor.Ta Go.Proofs.YtpdcjdangnfeiaaGreatDoor.Tb Go.Proofs.YtpdcjdangnfeiaaGreatDoor.Tc Go.Proofs.YtpdcjdangnfeiaaGreatDoor.Te Go.Proofs.YtpdcjdangnfeiaaGreatDoor.Tf Go.Proofs.YtpdcjdangnfeiaaGreatDoor.Qa Go.Proofs.YtpdcjdangnfeiaaGreatDoor.Qb Go.Proofs.YtpdcjdangnfeiaaGreatDoor.Qc Go.Proofs.YtpdcjdangnfeiaaGreatDoor.Qd Go.Proofs.YtpdcjdangnfeiaaGreatDoor.Qe Go.Proofs.YtpdcjdangnfeiaaGreatDoor.Qf Go.Proofs.YtpdcjdangnfeiaaGreatDoor.Ua Go.Proofs.YtpdcjdangnfeiaaGreatDoor.Ub Go.Proofs.YtpdcjdangnfeiaaGreatDoor.Uc Go.Proofs.YtpdcjdangnfeiaaGreatDoor.Ud Go.Proofs.YtpdcjdangnfeiaaGreatDoor.Ue Go.Proofs.YtpdcjdangnfeiaaGreatDoor.Uf Go.Proofs.YtpdcjdangnfeiaaGreatDoor.Ba Go.Proofs.YtpdcjdangnfeiaaGreatDoor.Ug Go.Proofs.YtpdcjdangnfeiaaGreatDoor.Uh Go.Proofs.YtpdcjdangnfeiaaGreatDoor.Ui Go.Proofs.YtpdcjdangnfeiaaGreatDoor.Uj Go.Proofs.YtpdcjdangnfeiaaGreatDoor.Uk Go.Proofs.YtpdcjdangnfeiaaGreatDoor.Ul Go.Proofs.YtpdcjdangnfeiaaGreatDoor.Um Go.Proofs.YtpdcjdangnfeiaaGreatDoor.Un Go.Proofs.YtpdcjdangnfeiaaGreatDoor.Uo Go.Proofs.YtpdcjdangnfeiaaGreatDoor.Up
namespace Go.Proofs.YtpdcjdangnfeiaaGreatDoor.Uq
def absF (a : Uc.Fn) : Path → Option N := fun q => (a q).map toN
theorem abs_gp (es : Es) : absE es = absF (gp es) := rfl
theorem absF_on {a : Uc.Fn} {p : Path} {g : Sh → Sh} {G : N → N} (h : ∀ d, a p = some d → toN (g d) = G (toN d)) : absF (onF a p g) = onA (absF a) p G := by
  funext q
  unfold absF onF onA
  by_cases e : q = p
  · subst e
    rw [if_pos rfl, if_pos rfl]
    show Option.map toN (Option.map g (a q)) = Option.map G (Option.map toN (a q))
    cases hq : a q with
    | none => rfl
    | some d => exact congrArg some (h d hq)
  · rw [if_neg e, if_neg e]
theorem absF_mv (a : Uc.Fn) (f t : Path) : absF (mvF a f t) = mvA (absF a) f t := by
  funext q
  unfold absF mvF mvA
  by_cases h1 : t <+: q
  · rw [if_pos h1, if_pos h1]
  · rw [if_neg h1, if_neg h1]
    by_cases h2 : f <+: q
    · rw [if_pos h2, if_pos h2]; rfl
    · rw [if_neg h2, if_neg h2]
section
variable {w w' : World} {B tb n i m : Nat} {es : Es} {fp tp : Path} {s df dt dt1 : Sh} {fx tx : ByteArray}
theorem free_of (h : WfF (gp es)) (ht : gp es (tp ++ [tx]) = none) : (∀ r, r ≠ [] → gp es (tp ++ [tx] ++ r) = none) ∧ ∀ q s, gp es q = some s → ¬ tp ++ [tx] <+: q := by
  have h1 := h.none_under (p := tp ++ [tx]) (fun x => h.none_below (by intro d hd; rw [ht] at hd; cases hd) x)
  refine ⟨h1, fun q s hq hp => ?_⟩
  obtain ⟨r, rfl⟩ := hp
  by_cases e : r = []
  · subst e
    rw [List.append_nil, ht] at hq
    cases hq
  · rw [h1 r e] at hq
    cases hq
theorem mv_keep {f t q : Path} (a : Uc.Fn) (h1 : ¬ t <+: q) (h2 : ¬ f <+: q) : mvF a f t q = a q := by unfold mvF; rw [if_neg h1, if_neg h2]
theorem not_pre_self (p : Path) (x : ByteArray) : ¬ p ++ [x] <+: p := fun e => by have := e.length_le; simp at this; omega
theorem Fr.two {w w1 w2 : World} {X Y : Nat → Prop} (h : Fr w w1 X) (k : Fr w1 w2 Y) (h1 : ∀ b, Y b → b < w.heap.size → NoB w b) : Fr w w2 (fun b => X b ∨ Y b) :=
  ⟨Nat.le_trans h.size k.size, fun b hb hn => (k.block b (Nat.lt_of_lt_of_le hb h.size) (fun e => hn (.inr e))).trans (h.block b hb (fun e => hn (.inl e))), fun b hb hlt => hb.elim (fun e => h.noB b e hlt) (fun e => h1 b e hlt)⟩
/-- What move's act leaves, from what its walk says. -/
theorem mv_end {w1 w2 : World} {r : Sh} {more : Nat} (h : St w B tb es n i m) (hf : gp es (fp ++ [fx]) = some s) (ht : gp es (tp ++ [tx]) = none) (hft : ¬ fp ++ [fx] <+: tp ++ [tx]) (hdf : gp es fp = some df) (hfd : df.dir = true) (hdt : gp es tp = some dt) (htd : dt.dir = true)
    (htx : nmL tx.data.toList = true) (hm : m ≤ 2000) (hr : gp es [] = some r) (hd1 : dt1 = if fp = tp then takeSh df fx else dt) (hmore : more = if fp = tp then 0 else growsA (toN dt)) (hN1 : Nd w1 B (takeSh df fx)) (f1 : Fr w w1 (fun b => b ∈ blks df)) (b1 : Below B w w1)
    (hN2 : Nd w2 B (putSh dt1 tx s.nb)) (f2 : Fr w1 w2 (fun b => b ∈ blks dt1)) (b2 : Below B w1 w2) (f3 : Fr w2 w' (fun b => b = tb)) (b3 : Below B w2 w') (ht2 : Tre w2 B tb r.nb n i) (ht' : Tre w' B tb r.nb (n - more) i) :
    ActPost w B tb es n i m (moveS ⟨absE es, n, i⟩ (fp ++ [fx]) (tp ++ [tx])) (.returned (.tuple #[])) w' := by
  obtain ⟨hun, hfree⟩ := free_of h.wf ht
  have htf := hfree _ _ hf
  have hfree2 : ∀ e ∈ es, ¬ tp ++ [tx] <+: e.1 := fun e he => hfree e.1 e.2 (mem_gp h.nd he)
  have nfp : ¬ tp ++ [tx] <+: fp := hfree _ _ hdf
  have ntp : ¬ tp ++ [tx] <+: tp := not_pre_self _ _
  have ffp : ¬ fp ++ [fx] <+: fp := not_pre_self _ _
  have ftp : ¬ fp ++ [fx] <+: tp := fun e => hft (e.trans (List.prefix_append _ _))
  have hndm := nd_mv h.nd hfree2 (f := fp ++ [fx])
  have gm := gp_mvF h.nd hfree2 (f := fp ++ [fx])
  have g1 : gp (mvE es (fp ++ [fx]) (tp ++ [tx])) fp = some df := by rw [gm, mv_keep _ nfp ffp, hdf]
  have g2 : gp (turnE (mvE es (fp ++ [fx]) (tp ++ [tx])) fp (fun s => takeSh s fx)) tp = some dt1 := by
    rw [gp_turn, gm, mv_keep _ ntp ftp, hd1]
    by_cases e : fp = tp
    · subst e; rw [if_pos rfl, if_pos rfl, hdf]; rfl
    · rw [if_neg (fun h => e h.symm), if_neg e, hdt]
  have s0 : Sto Tryz.prog 85 9 w B ([] ++ (mvE es (fp ++ [fx]) (tp ++ [tx])).map (·.2)) := by rw [snd_mv]; simpa using h.sto
  have s1 := sto_turn [] s0 hndm g1 (g := fun s => takeSh s fx) f1 hN1 rfl
  have s2 := sto_turn [] s1 (nd_turn hndm _ _) g2 (g := fun d => putSh d tx s.nb) f2 hN2 rfl
  have s3 := Sto.keepTb s2 ht2 f3
  have l0 := h.limp hdf
  have l1 := h.limp hdt
  have drf := h.wf.dr fp df hdf hfd
  have drt := h.wf.dr tp dt hdt htd
  have hasf : has df.D (keyL fx) = true := by rw [drf.full, drf.kids, hf]; rfl
  have hast : has dt.D (keyL tx) = false := by rw [drt.full, drt.kids, ht]; rfl
  have hne : fp = tp → tx ≠ fx := by
    rintro rfl rfl
    rw [ht] at hf; cases hf
  have hd1d : dt1.dir = true := by rw [hd1]; split; exact hfd; exact htd
  have hd1s : dt1.slots ≤ m := by rw [hd1]; split; exact l0.1; exact l1.1
  have hd1l : dt1.data.length ≤ 8458240 := by rw [hd1]; split; exact l0.2.1; exact l1.2.1
  have hd1t : Tidy dt1.D := by rw [hd1]; split; exact drf.tidy.del _; exact drt.tidy
  have hd1k : size dt1.D ≤ m := by
    rw [hd1]; split
    · have := size_del (k := keyL fx) drf.tidy
      show size (df.D.del (keyL fx)) ≤ m
      omega
    · exact l1.2.2
  have hd1h : has dt1.D (keyL tx) = false := by
    rw [hd1]
    by_cases e : fp = tp
    · rw [if_pos e]
      show has (df.D.del (keyL fx)) (keyL tx) = false
      rw [has_del_other (fun h => hne e (keyL_inj.1 h))]
      have : df = dt := by subst e; rw [hdf] at hdt; exact Option.some.inj hdt
      rw [this]; exact hast
    · rw [if_neg e]; exact hast
  have hgp : gp (turnE (turnE (mvE es (fp ++ [fx]) (tp ++ [tx])) fp (fun s => takeSh s fx)) tp (fun d => putSh d tx s.nb)) = onF (onF (mvF (gp es) (fp ++ [fx]) (tp ++ [tx])) fp (fun s => takeSh s fx)) tp (fun d => putSh d tx s.nb) := by
    rw [gp_turnF, gp_turnF, gm]
  have hwf : WfF (onF (onF (mvF (gp es) (fp ++ [fx]) (tp ++ [tx])) fp (fun s => takeSh s fx)) tp (fun d => putSh d tx s.nb)) := by
    refine h.wf.mv hf hft hun htf hdt htd hdf hfd htx (fun q h1 h2 => ?_) (fun hne2 => ⟨takeSh df fx, ?_, takeSh_take df fx⟩) (fun hne2 => ⟨putSh dt tx s.nb, ?_, putSh_put dt tx s.nb⟩) (fun e => ⟨putSh (takeSh df fx) tx s.nb, ?_, ⟨rfl, rfl, rfl⟩, ?_⟩)
    · unfold onF; rw [if_neg h2, if_neg h1]
    · unfold onF; rw [if_neg hne2, if_pos rfl, mv_keep _ nfp ffp, hdf]; rfl
    · unfold onF; rw [if_pos rfl, if_neg (fun h => hne2 h.symm), mv_keep _ ntp ftp, hdt]; rfl
    · subst e
      unfold onF; rw [if_pos rfl, if_pos rfl, mv_keep _ nfp ffp, hdf]; rfl
    · exact (drf.take (takeSh_take df fx)).put (putSh_put _ tx s.nb)
  refine ⟨rfl, turnE (turnE (mvE es (fp ++ [fx]) (tp ++ [tx])) fp (fun s => takeSh s fx)) tp (fun d => putSh d tx s.nb), n - more, i, ⟨s3, nd_turn (nd_turn hndm _ _) _ _, by rw [hgp]; exact hwf, ?_, ?_, ?_⟩, ?_, ?_, by rw [len_turn, len_turn, len_mv]⟩
  · have hroot : mvF (gp es) (fp ++ [fx]) (tp ++ [tx]) [] = some r := by rw [mv_keep _ (by simp) (by simp), hr]
    rw [hgp]
    unfold onF
    rw [hroot]
    by_cases e2 : ([] : Path) = tp
    · rw [if_pos e2]
      by_cases e1 : ([] : Path) = fp
      · rw [if_pos e1]; exact ⟨_, rfl, ht'⟩
      · rw [if_neg e1]; exact ⟨_, rfl, ht'⟩
    · rw [if_neg e2]
      by_cases e1 : ([] : Path) = fp
      · rw [if_pos e1]; exact ⟨_, rfl, ht'⟩
      · rw [if_neg e1]; exact ⟨_, rfl, ht'⟩
  · intro e he
    refine lim_turn (g := fun d => putSh d tx s.nb) (Q := fun s => s.slots ≤ m + 1 ∧ s.data.length ≤ 8458240 ∧ size s.D ≤ m + 1) (nd_turn hndm _ _) g2 (fun e he => ?_) ⟨?_, ?_, ?_⟩ e he
    · refine lim_turn (g := fun s => takeSh s fx) (Q := fun s => s.slots ≤ m + 1 ∧ s.data.length ≤ 8458240 ∧ size s.D ≤ m + 1) hndm g1 (fun e he => ?_) ⟨?_, ?_, ?_⟩ e he
      · obtain ⟨e0, h0, rfl⟩ := List.mem_map.1 he
        have := h.lim e0 h0
        dsimp only
        omega
      · show df.slots ≤ _; omega
      · show df.data.length ≤ _; omega
      · show size (df.D.del (keyL fx)) ≤ _
        have := size_del (k := keyL fx) drf.tidy
        omega
    · have := putSh_slots dt1 tx s.nb; omega
    · show dt1.data.length ≤ _; omega
    · show size (dt1.D.put (keyL tx) (ptrD (some s.nb))) ≤ _
      rw [size_put hd1t]
      split <;> omega
  · have := h.num; omega
  · have hab : absE (turnE (turnE (mvE es (fp ++ [fx]) (tp ++ [tx])) fp (fun s => takeSh s fx)) tp (fun d => putSh d tx s.nb)) = onA (onA (mvA (absE es) (fp ++ [fx]) (tp ++ [tx])) fp takeA) tp putA := by
      rw [abs_gp, hgp, abs_gp, ← absF_mv, ← absF_on (g := fun s => takeSh s fx) (G := takeA), ← absF_on (g := fun d => putSh d tx s.nb) (G := putA)]
      · intro d hd
        have : d = dt1 := by
          unfold onF at hd
          rw [mv_keep _ ntp ftp] at hd
          rw [hd1]
          by_cases e : fp = tp
          · subst e
            rw [if_pos rfl, hdf] at hd
            rw [if_pos rfl]
            exact (Option.some.inj hd).symm
          · rw [if_neg (fun h => e h.symm), hdt] at hd
            rw [if_neg e]
            exact (Option.some.inj hd).symm
        rw [this]
        exact put_toN hd1d (by omega) hd1t hd1h
      · intro d hd
        rw [mv_keep _ nfp ffp, hdf] at hd
        cases hd
        exact take_toN hfd drf.tidy hasf
    have hne3 : fp ++ [fx] ≠ tp ++ [tx] := fun e => hft (e ▸ List.prefix_rfl)
    have e1 : (fp ++ [fx]).dropLast = fp := by simp
    have e2 : (tp ++ [tx]).dropLast = tp := by simp
    have e3 : absE es (tp ++ [tx]) = none := by unfold absE; rw [ht]; rfl
    have e4 : wantA (absE es tp) = growsA (toN dt) := by unfold absE; rw [hdt]; rfl
    unfold moveS
    rw [if_neg hne3]
    simp only [e3, e1, e2, e4]
    rw [hab, hmore]
  · have hin1 : ∀ b ∈ blks df, Bk tb es b := fun b hb => .inr ⟨df, List.mem_map.2 ⟨(fp, df), gp_mem hdf, rfl⟩, hb⟩
    have hin2 : ∀ b ∈ blks dt1, Bk tb es b := by
      intro b hb
      rw [hd1] at hb
      split at hb
      · exact hin1 b hb
      · exact .inr ⟨dt, List.mem_map.2 ⟨(tp, dt), gp_mem hdt, rfl⟩, hb⟩
    refine Turn.of3 h (Below.refl _ _) (Fr.two f1 f2 (fun b hb _ => (h.bk (hin2 b hb)).2.1)) (fun b hb => hb.elim (hin1 b) (hin2 b)) (b1.trans b2) f3 b3 fun s' hs' => .inl ?_
    obtain ⟨s1', h1', e1'⟩ := bk_turn (g := fun d => putSh d tx s.nb) (fun _ => rfl) hs'
    obtain ⟨s2', h2', e2'⟩ := bk_turn (g := fun s => takeSh s fx) (fun _ => rfl) h1'
    rw [snd_mv] at h2'
    exact ⟨s2', h2', e1'.trans e2'⟩
end
end Go.Proofs.YtpdcjdangnfeiaaGreatDoor.Uq
open Go.Proofs.YtpdcjdangnfeiaaGreatDoor.Uq
namespace Go.Proofs.YtpdcjdangnfeiaaGreatDoor.Ur
def setSh (s : Sh) (name : ByteArray) (b : Nat) : Sh := { s with D := s.D.put (keyL name) (ptrD (some b)) }
section
variable {w : World} {B tb n i m : Nat} {xs dt df1 : Sh} {fx tx : ByteArray}
theorem set_end {w w1 : World} {d : Sh} {x : ByteArray} {b k : Nat} (hD : Nd w B d) (hd : d.dir = true) (ho1 : w1.ownsMap Tryz.prog 9 ptrR d.mb k (d.D.put (keyL x) (ptrD (some b)))) (hg1 : w.grownBy w1 (some d.mb)) :
    Nd w1 B (setSh d x b) ∧ Fr w w1 (fun b => b ∈ blks d) ∧ Below B w w1 := by
  have hf : Fr w w1 (fun b => b ∈ blks d) := Fr.grow ⟨Nat.le_refl _, fun _ _ _ => rfl, noB_blks hD⟩ hd hg1
  refine ⟨⟨hD.base, ?_, fun _ => ⟨(hD.kids hd).1, own_size ho1⟩⟩, hf, ⟨hg1.os, hg1.tape, hg1.output, hg1.size, fun k hk => hg1.block k (by have := hD.base; have := hD.lt; omega) (fun e => by injection e with e; have := (hD.kids hd).1; omega)⟩⟩
  obtain ⟨dv, hc, hrd⟩ := hD.cells
  exact ⟨dv, blk_grown hc hg1 (fun e => by injection e with e; exact Tb.Ok.ne_map hD (hD.kids hd).2 e), hrd.fr hf⟩
set_option maxHeartbeats 4000000 in
set_option maxRecDepth 100000 in
theorem rep_walk {bs bx bt sn fn r : Nat} (hT : Nd w B dt) (htd : dt.dir = true) (hX : Nd w B xs) (ht : Tre w B tb r n i) (hfx : fx.size ≤ 1000000) (htx : tx.size ≤ 1000000)
    (hdf : ∀ w1, Nd w1 B (setSh dt tx sn) → Fr w w1 (fun b => b ∈ blks dt) → Nd w1 B df1) (hfn : df1.nb = fn) (hd1 : df1.dir = true) (l1 : xs.slots ≤ 100000) (l2 : xs.data.length ≤ 8458240) (l3 : size dt.D ≤ 1000000)
    (hne1 : ∀ b ∈ [bs, bx, bt, tb], b ∉ blks dt) (hne2 : ∀ b ∈ [bs, bx, bt, tb], b ∉ blks df1) (hx1 : ∀ b ∈ blks xs, b ∉ blks dt) (hx2 : ∀ b ∈ blks xs, b ∉ blks df1)
    (c0 : w.cell? ⟨bs, 0, none⟩ = some (.pointer (some ⟨fn, 0, none⟩))) (c1 : w.cell? ⟨bs, 1, none⟩ = some (.string fx)) (c2 : w.cell? ⟨bs, 2, none⟩ = some (.pointer (some ⟨sn, 0, none⟩)))
    (x0 : w.cell? ⟨bx, 0, none⟩ = some (.pointer (some ⟨dt.nb, 0, none⟩))) (x1 : w.cell? ⟨bx, 1, none⟩ = some (.string tx)) (x2 : w.cell? ⟨bx, 2, none⟩ = some (.pointer (some ⟨xs.nb, 0, none⟩)))
    (ct : w.cell? ⟨bt, 0, none⟩ = some (.pointer (some ⟨tb, 0, none⟩))) (hn : n ≤ 100000000) (hi : i ≤ 100000000) :
    Calls Tryz.prog 98 #[.pointer (some ⟨bs, 0, none⟩), .pointer (some ⟨bx, 0, none⟩), .pointer (some ⟨bt, 0, none⟩)] w fun e w' => e = .returned (.tuple #[]) ∧
      ∃ w1 w2, Nd w1 B (setSh dt tx sn) ∧ Fr w w1 (fun b => b ∈ blks dt) ∧ Below B w w1 ∧ Nd w2 B (takeSh df1 fx) ∧ Fr w1 w2 (fun b => b ∈ blks df1) ∧ Below B w1 w2 ∧ Fr w2 w' (fun b => b = tb) ∧ Below B w2 w' ∧ Tre w2 B tb r n i ∧ Tre w' B tb r (n + blocksN xs) (i + 1) := by
  subst hfn
  obtain ⟨dv, hc, hrd⟩ := hT.cells
  have d2 : w.cell? ⟨dt.nb, 2, none⟩ = some (.map (some dt.mb)) := (blk_cell hc 2).trans (by unfold kidsV; rw [if_pos htd]; rfl)
  have HO := Lib.hid (hT.kids htd).2
  have HTN := Lib.hid hT
  have HXN := Lib.hid hX
  have HT := Lib.hid ht
  have HDF := Lib.hid hdf
  have HN1 := Lib.hid hne1
  have HN2 := Lib.hid hne2
  have HX1 := Lib.hid hx1
  have HX2 := Lib.hid hx2
  have C0 := Lib.hid c0
  have C1 := Lib.hid c1
  have X2 := Lib.hid x2
  have CT := Lib.hid ct
  have HTD := Lib.hid htd
  clear hT hX ht hdf hne1 hne2 hx1 hx2 c0 c1 x2 ct hc hrd htd
  go_enter Tryz.func98, Tryz.ntmps98
  go_wp2_with fail
  go_still_tail 9, (by kernel_rfl)
  refine wpList_mapUpdate_own _ rfl (.tmp 7) (.tmp 9) (.tmp 11) 83 rfl 9 52 law9 Tryz.underlying83 ptrR dt.mb _ dt.D rfl HO.out (by unfold maxLen; omega) (.string tx) (.pointer (some ⟨sn, 0, none⟩)) (keyL tx) rfl rfl (key9 tx htx) (ptrD (some sn)) [] rfl ?_
  intro w1 ho1 hg1
  obtain ⟨e1, e2, e3⟩ := set_end HTN.out HTD.out ho1 (grow_drew hg1)
  have E1 := Lib.hid e1
  have E2 := Lib.hid e2
  have E3 := Lib.hid e3
  have hD1 := HDF.out w1 e1 e2
  obtain ⟨dv, hc, hrd⟩ := hD1.cells
  have d2' : w1.cell? ⟨df1.nb, 2, none⟩ = some (.map (some df1.mb)) := (blk_cell hc 2).trans (by unfold kidsV; rw [if_pos hd1]; rfl)
  have HO1 := Lib.hid (hD1.kids hd1).2
  have HD1 := Lib.hid hD1
  have HT1 := Lib.hid (Tre.keep HT.out (e2.block tb (Tre.lt HT.out) (HN1.out tb (by simp))))
  have HX3 := Lib.hid (Tb.Ok.fr HXN.out e2 (HX1.out _ (nb_mem _)) (fun h => HX1.out _ (mb_mem h)))
  have y0 := cell_fr e2 (HN1.out bs (by simp)) C0.out
  have y1 := cell_fr e2 (HN1.out bs (by simp)) C1.out
  have Y2 := Lib.hid (cell_fr e2 (HN1.out bx (by simp)) X2.out)
  have Y3 := Lib.hid (cell_fr e2 (HN1.out bt (by simp)) CT.out)
  clear ho1 hg1 e1 e2 e3 c2 x0 x1 d2 hc hrd hD1
  go_wp2_with fail
  go_still_tail 7, (by kernel_rfl)
  refine wpList_delete_own _ rfl (.tmp 16) (.tmp 18) 83 9 rfl 52 law9 Tryz.underlying83 ptrR df1.mb _ df1.D rfl HO1.out _ (keyL fx) rfl (key9 fx hfx) ?_
  intro w2 ho2 ht2
  obtain ⟨q1, q2, q3⟩ := del_end HD1.out hd1 ho2 (grow_drew ht2.grown)
  have Q1 := Lib.hid q1
  have Q2 := Lib.hid q2
  have Q3 := Lib.hid q3
  have hT2 := Tre.keep HT1.out (q2.block tb (Tre.lt HT1.out) (HN2.out tb (by simp)))
  have HT2 := Lib.hid hT2
  have hX4 : Nd w2 B xs := Tb.Ok.fr HX3.out q2 (HX2.out _ (nb_mem _)) (fun h => HX2.out _ (mb_mem h))
  have HGV := Lib.hid (give_any hX4 hT2 l1 l2 hn hi)
  have z2 := cell_fr q2 (HN2.out bx (by simp)) Y2.out
  have z3 := cell_fr q2 (HN2.out bt (by simp)) Y3.out
  clear ho2 ht2 q1 q2 q3 hT2 hX4 y0 y1 d2'
  go_wp2_with fail
  refine HGV.out.mono ?_
  rintro e w3 ⟨rfl, hf2, hb2, ht2⟩
  have HF2 := Lib.hid hf2
  have HB2 := Lib.hid hb2
  have HT3 := Lib.hid ht2
  clear hf2 hb2 ht2
  go_wp2_with fail
  go_end0
  exact ⟨rfl, w1, w2, E1.out, E2.out, E3.out, Q1.out, Q2.out, Q3.out, HF2.out, HB2.out, HT2.out, HT3.out⟩
end
end Go.Proofs.YtpdcjdangnfeiaaGreatDoor.Ur
open Go.Proofs.YtpdcjdangnfeiaaGreatDoor.Ur
namespace Go.Proofs.YtpdcjdangnfeiaaGreatDoor.Us
theorem absF_id {a : Uc.Fn} {p : Path} {g : Sh → Sh} (h : ∀ d, a p = some d → toN (g d) = toN d) : absF (onF a p g) = absF a := by
  funext q
  unfold absF onF
  by_cases e : q = p
  · subst e
    rw [if_pos rfl]
    cases hq : a q with
    | none => rfl
    | some d => exact congrArg some (h d hq)
  · rw [if_neg e]
theorem set_toN {s : Sh} {x : ByteArray} {b : Nat} (ht : Tidy s.D) (hx : has s.D (keyL x) = true) : toN (setSh s x b) = toN s := by
  unfold toN setSh
  dsimp only
  rw [size_put ht, if_pos hx]
section
variable {w w' : World} {B tb n i m : Nat} {es : Es} {fp tp : Path} {s xs df dt df1 : Sh} {fx tx : ByteArray}
/-- What replace's act leaves, from what its walk says. -/
theorem rep_end {w1 w2 : World} {r : Sh} (h : St w B tb es n i m) (hf : gp es (fp ++ [fx]) = some s) (ht : gp es (tp ++ [tx]) = some xs) (hk : ∀ y, gp es (tp ++ [tx] ++ [y]) = none) (hft : ¬ fp ++ [fx] <+: tp ++ [tx]) (hdf : gp es fp = some df) (hfd : df.dir = true) (hdt : gp es tp = some dt) (htd : dt.dir = true)
    (htx : nmL tx.data.toList = true) (hr : gp es [] = some r) (hd1 : df1 = if fp = tp then setSh df tx s.nb else df) (hN1 : Nd w1 B (setSh dt tx s.nb)) (f1 : Fr w w1 (fun b => b ∈ blks dt)) (b1 : Below B w w1)
    (hN2 : Nd w2 B (takeSh df1 fx)) (f2 : Fr w1 w2 (fun b => b ∈ blks df1)) (b2 : Below B w1 w2) (f3 : Fr w2 w' (fun b => b = tb)) (b3 : Below B w2 w') (ht2 : Tre w2 B tb r.nb n i) (ht' : Tre w' B tb r.nb (n + blocksN xs) (i + 1)) :
    ActPost w B tb es n i m (moveS ⟨absE es, n, i⟩ (fp ++ [fx]) (tp ++ [tx])) (.returned (.tuple #[])) w' := by
  have hun := h.wf.none_under (p := tp ++ [tx]) hk
  have hne3 : fp ++ [fx] ≠ tp ++ [tx] := fun e => hft (e ▸ List.prefix_rfl)
  have hfree : ∀ q s, gp es q = some s → q ≠ tp ++ [tx] → ¬ tp ++ [tx] <+: q := by
    rintro q s hq hne ⟨r, rfl⟩
    by_cases e : r = []
    · subst e; rw [List.append_nil] at hne; exact hne rfl
    · rw [hun r e] at hq; cases hq
  have htf := hfree _ _ hf hne3
  have htfp : fp ≠ tp ++ [tx] := by
    rintro rfl
    rw [hk] at hf; cases hf
  have hnd0 := nd_del h.nd (tp ++ [tx])
  have g0 : ∀ q, q ≠ tp ++ [tx] → gp (delE es (tp ++ [tx])) q = gp es q := fun q hq => by rw [gp_del, if_neg hq]
  have hfree2 : ∀ e ∈ delE es (tp ++ [tx]), ¬ tp ++ [tx] <+: e.1 := fun e he => by
    have h1 := List.mem_filter.1 he
    exact hfree e.1 e.2 (mem_gp h.nd h1.1) (by simpa using h1.2)
  have nfp : ¬ tp ++ [tx] <+: fp := hfree _ _ hdf htfp
  have ntp : ¬ tp ++ [tx] <+: tp := not_pre_self _ _
  have ffp : ¬ fp ++ [fx] <+: fp := not_pre_self _ _
  have ftp : ¬ fp ++ [fx] <+: tp := fun e => hft (e.trans (List.prefix_append _ _))
  have hndm := nd_mv hnd0 hfree2 (f := fp ++ [fx])
  have gm : gp (mvE (delE es (tp ++ [tx])) (fp ++ [fx]) (tp ++ [tx])) = mvF (gp es) (fp ++ [fx]) (tp ++ [tx]) := by
    rw [gp_mvF hnd0 hfree2]
    funext q
    unfold mvF
    by_cases e1 : tp ++ [tx] <+: q
    · rw [if_pos e1, if_pos e1]
      exact g0 _ (fun e => hft (e ▸ List.prefix_append _ _))
    · rw [if_neg e1, if_neg e1]
      by_cases e2 : fp ++ [fx] <+: q
      · rw [if_pos e2, if_pos e2]
      · rw [if_neg e2, if_neg e2]
        exact g0 q (fun e => e1 (e ▸ List.prefix_rfl))
  have g1 : gp (mvE (delE es (tp ++ [tx])) (fp ++ [fx]) (tp ++ [tx])) tp = some dt := by rw [gm, mv_keep _ ntp ftp, hdt]
  have g2 : gp (turnE (mvE (delE es (tp ++ [tx])) (fp ++ [fx]) (tp ++ [tx])) tp (fun d => setSh d tx s.nb)) fp = some df1 := by
    rw [gp_turn, gm, mv_keep _ nfp ffp, hd1, hdf]
    by_cases e : fp = tp
    · rw [if_pos e, if_pos e]; rfl
    · rw [if_neg e, if_neg e]
  have s0 : Sto Tryz.prog 85 9 w B ([] ++ (mvE (delE es (tp ++ [tx])) (fp ++ [fx]) (tp ++ [tx])).map (·.2)) := by
    rw [snd_mv]; simpa using Sto.sub h.sto (sub_del es (tp ++ [tx]))
  have s1 := sto_turn [] s0 hndm g1 (g := fun d => setSh d tx s.nb) f1 hN1 rfl
  have s2 := sto_turn [] s1 (nd_turn hndm _ _) g2 (g := fun s => takeSh s fx) f2 hN2 rfl
  have s3 := Sto.keepTb s2 ht2 f3
  have l0 := h.limp hdf
  have l1 := h.limp hdt
  have drf := h.wf.dr fp df hdf hfd
  have drt := h.wf.dr tp dt hdt htd
  have hasf : has df.D (keyL fx) = true := by rw [drf.full, drf.kids, hf]; rfl
  have hast : has dt.D (keyL tx) = true := by rw [drt.full, drt.kids, ht]; rfl
  have hne : fp = tp → fx ≠ tx := by
    rintro rfl rfl
    exact hne3 rfl
  have hd1d : df1.dir = true := by rw [hd1]; split; exact hfd; exact hfd
  have hd1s : df1.slots ≤ m := by rw [hd1]; split; exact l0.1; exact l0.1
  have hd1l : df1.data.length ≤ 8458240 := by rw [hd1]; split; exact l0.2.1; exact l0.2.1
  have hd1t : Tidy df1.D := by rw [hd1]; split; exact drf.tidy.put (isKey tx) _; exact drf.tidy
  have hd1k : size df1.D ≤ m + 1 := by
    rw [hd1]; split
    · show size (df.D.put (keyL tx) (ptrD (some s.nb))) ≤ m + 1
      rw [size_put drf.tidy]
      split <;> omega
    · omega
  have hd1h : has df1.D (keyL fx) = true := by
    rw [hd1]
    by_cases e : fp = tp
    · rw [if_pos e]
      show has (df.D.put (keyL tx) (ptrD (some s.nb))) (keyL fx) = true
      rw [has_put_other (fun h => hne e (keyL_inj.1 h))]
      exact hasf
    · rw [if_neg e]; exact hasf
  have hgp : gp (turnE (turnE (mvE (delE es (tp ++ [tx])) (fp ++ [fx]) (tp ++ [tx])) tp (fun d => setSh d tx s.nb)) fp (fun s => takeSh s fx)) = onF (onF (mvF (gp es) (fp ++ [fx]) (tp ++ [tx])) tp (fun d => setSh d tx s.nb)) fp (fun s => takeSh s fx) := by
    rw [gp_turnF, gp_turnF, gm]
  have hwf : WfF (onF (onF (mvF (gp es) (fp ++ [fx]) (tp ++ [tx])) tp (fun d => setSh d tx s.nb)) fp (fun s => takeSh s fx)) := by
    refine h.wf.mv hf hft hun htf hdt htd hdf hfd htx (fun q h1 h2 => ?_) (fun hne2 => ⟨takeSh df fx, ?_, takeSh_take df fx⟩) (fun hne2 => ⟨setSh dt tx s.nb, ?_, ⟨⟨rfl, rfl, rfl⟩, rfl, rfl⟩⟩) (fun e => ⟨takeSh (setSh df tx s.nb) fx, ?_, ⟨rfl, rfl, rfl⟩, ?_⟩)
    · unfold onF; rw [if_neg h1, if_neg h2]
    · unfold onF; rw [if_pos rfl, if_neg hne2, mv_keep _ nfp ffp, hdf]; rfl
    · unfold onF; rw [if_neg (fun h => hne2 h.symm), if_pos rfl, mv_keep _ ntp ftp, hdt]; rfl
    · subst e
      unfold onF; rw [if_pos rfl, if_pos rfl, mv_keep _ nfp ffp, hdf]; rfl
    · refine ((drf.put (d' := setSh df tx s.nb) (x := tx) (b := s.nb) ⟨⟨rfl, rfl, rfl⟩, rfl, rfl⟩).take (takeSh_take _ fx)).congr fun y => ?_
      by_cases e1 : y = fx
      · rw [if_pos e1]
        have : y ≠ tx := fun e2 => hne e (e1.symm.trans e2)
        rw [if_neg this, if_pos e1]
      · rw [if_neg e1]
        by_cases e2 : y = tx
        · rw [if_pos e2, if_pos e2]
        · rw [if_neg e2, if_neg e2, if_neg e1]
  have hlen := len_del h.nd ht
  refine ⟨rfl, turnE (turnE (mvE (delE es (tp ++ [tx])) (fp ++ [fx]) (tp ++ [tx])) tp (fun d => setSh d tx s.nb)) fp (fun s => takeSh s fx), n + blocksN xs, i + 1, ⟨s3, nd_turn (nd_turn hndm _ _) _ _, by rw [hgp]; exact hwf, ?_, ?_, ?_⟩, ?_, ?_, by rw [len_turn, len_turn, len_mv]; omega⟩
  · have hroot : mvF (gp es) (fp ++ [fx]) (tp ++ [tx]) [] = some r := by rw [mv_keep _ (by simp) (by simp), hr]
    rw [hgp]
    unfold onF
    rw [hroot]
    by_cases e2 : ([] : Path) = fp
    · rw [if_pos e2]
      by_cases e1 : ([] : Path) = tp
      · rw [if_pos e1]; exact ⟨_, rfl, ht'⟩
      · rw [if_neg e1]; exact ⟨_, rfl, ht'⟩
    · rw [if_neg e2]
      by_cases e1 : ([] : Path) = tp
      · rw [if_pos e1]; exact ⟨_, rfl, ht'⟩
      · rw [if_neg e1]; exact ⟨_, rfl, ht'⟩
  · intro e he
    refine lim_turn (g := fun s => takeSh s fx) (Q := fun s => s.slots ≤ m + 1 ∧ s.data.length ≤ 8458240 ∧ size s.D ≤ m + 1) (nd_turn hndm _ _) g2 (fun e he => ?_) ⟨?_, ?_, ?_⟩ e he
    · refine lim_turn (g := fun d => setSh d tx s.nb) (Q := fun s => s.slots ≤ m + 1 ∧ s.data.length ≤ 8458240 ∧ size s.D ≤ m + 1) hndm g1 (fun e he => ?_) ⟨?_, ?_, ?_⟩ e he
      · obtain ⟨e0, h0, rfl⟩ := List.mem_map.1 he
        have := h.lim e0 (List.mem_filter.1 h0).1
        dsimp only
        omega
      · show dt.slots ≤ _; omega
      · show dt.data.length ≤ _; omega
      · show size (dt.D.put (keyL tx) (ptrD (some s.nb))) ≤ _
        rw [size_put drt.tidy]
        split <;> omega
    · show df1.slots ≤ _; omega
    · show df1.data.length ≤ _; omega
    · show size (df1.D.del (keyL fx)) ≤ _
      have := size_del (k := keyL fx) hd1t
      omega
  · have := h.num
    have : blocksN xs ≤ 20000 := by unfold blocksN; split <;> exact allB_le _
    omega
  · have hab : absE (turnE (turnE (mvE (delE es (tp ++ [tx])) (fp ++ [fx]) (tp ++ [tx])) tp (fun d => setSh d tx s.nb)) fp (fun s => takeSh s fx)) = onA (mvA (absE es) (fp ++ [fx]) (tp ++ [tx])) fp takeA := by
      have q1 : ∀ d, onF (mvF (gp es) (fp ++ [fx]) (tp ++ [tx])) tp (fun d => setSh d tx s.nb) fp = some d → toN (takeSh d fx) = takeA (toN d) := by
        intro d hd
        have : d = df1 := by
          unfold onF at hd
          rw [mv_keep _ nfp ffp, hdf] at hd
          rw [hd1]
          by_cases e : fp = tp
          · rw [if_pos e] at hd
            rw [if_pos e]
            exact (Option.some.inj hd).symm
          · rw [if_neg e] at hd
            rw [if_neg e]
            exact (Option.some.inj hd).symm
        rw [this]
        exact take_toN hd1d hd1t hd1h
      have q2 : ∀ d, mvF (gp es) (fp ++ [fx]) (tp ++ [tx]) tp = some d → toN (setSh d tx s.nb) = toN d := by
        intro d hd
        rw [mv_keep _ ntp ftp, hdt] at hd
        cases hd
        exact set_toN drt.tidy hast
      rw [abs_gp, hgp, abs_gp, absF_on (g := fun s => takeSh s fx) (G := takeA) q1, absF_id (g := fun d => setSh d tx s.nb) q2, absF_mv]
    have e1 : (fp ++ [fx]).dropLast = fp := by simp
    have e3 : absE es (tp ++ [tx]) = some (toN xs) := by unfold absE; rw [ht]; rfl
    unfold moveS
    rw [if_neg hne3]
    simp only [e3, e1, blocks_toN]
    rw [hab]
  · have hin1 : ∀ b ∈ blks dt, Bk tb es b := fun b hb => .inr ⟨dt, List.mem_map.2 ⟨(tp, dt), gp_mem hdt, rfl⟩, hb⟩
    have hin2 : ∀ b ∈ blks df1, Bk tb es b := by
      intro b hb
      have hb2 : b ∈ blks df := by
        rw [hd1] at hb
        split at hb
        · exact hb
        · exact hb
      exact .inr ⟨df, List.mem_map.2 ⟨(fp, df), gp_mem hdf, rfl⟩, hb2⟩
    refine Turn.of3 h (Below.refl _ _) (Fr.two f1 f2 (fun b hb _ => (h.bk (hin2 b hb)).2.1)) (fun b hb => hb.elim (hin1 b) (hin2 b)) (b1.trans b2) f3 b3 fun s' hs' => .inl ?_
    obtain ⟨s1', h1', e1'⟩ := bk_turn (g := fun s => takeSh s fx) (fun _ => rfl) hs'
    obtain ⟨s2', h2', e2'⟩ := bk_turn (g := fun d => setSh d tx s.nb) (fun _ => rfl) h1'
    rw [snd_mv] at h2'
    exact ⟨s2', (sub_del _ _).subset h2', e1'.trans e2'⟩
end
end Go.Proofs.YtpdcjdangnfeiaaGreatDoor.Us
open Go.Proofs.YtpdcjdangnfeiaaGreatDoor.Us
namespace Go.Proofs.YtpdcjdangnfeiaaGreatDoor.Ut
section
variable {w : World} {B tb n i m : Nat} {es : Es} {fp tp : Path} {s xs df dt : Sh} {fx tx : ByteArray}
theorem rep_do {bs bx bt : Nat} (h : St w B tb es n i m) (hm : m ≤ 2000) (hf : gp es (fp ++ [fx]) = some s) (ht : gp es (tp ++ [tx]) = some xs) (hk : ∀ y, gp es (tp ++ [tx] ++ [y]) = none) (hft : ¬ fp ++ [fx] <+: tp ++ [tx]) (hdf : gp es fp = some df) (hfd : df.dir = true) (hdt : gp es tp = some dt) (htd : dt.dir = true)
    (htx : nmL tx.data.toList = true) (hfs : fx.size ≤ 1000000) (hts : tx.size ≤ 1000000) (hne : ∀ b ∈ [bs, bx, bt], ¬ Bk tb es b)
    (c0 : w.cell? ⟨bs, 0, none⟩ = some (.pointer (some ⟨df.nb, 0, none⟩))) (c1 : w.cell? ⟨bs, 1, none⟩ = some (.string fx)) (c2 : w.cell? ⟨bs, 2, none⟩ = some (.pointer (some ⟨s.nb, 0, none⟩)))
    (x0 : w.cell? ⟨bx, 0, none⟩ = some (.pointer (some ⟨dt.nb, 0, none⟩))) (x1 : w.cell? ⟨bx, 1, none⟩ = some (.string tx)) (x2 : w.cell? ⟨bx, 2, none⟩ = some (.pointer (some ⟨xs.nb, 0, none⟩)))
    (ct : w.cell? ⟨bt, 0, none⟩ = some (.pointer (some ⟨tb, 0, none⟩))) :
    Calls Tryz.prog 98 #[.pointer (some ⟨bs, 0, none⟩), .pointer (some ⟨bx, 0, none⟩), .pointer (some ⟨bt, 0, none⟩)] w (ActPost w B tb es n i m (moveS ⟨absE es, n, i⟩ (fp ++ [fx]) (tp ++ [tx]))) := by
  obtain ⟨r, hr, hT⟩ := h.tre
  have l1 := h.limp hdt
  have l2 := h.limp ht
  have hnum := h.num
  have hin1 : ∀ b ∈ blks dt, Bk tb es b := fun b hb => .inr ⟨dt, List.mem_map.2 ⟨(tp, dt), gp_mem hdt, rfl⟩, hb⟩
  have hin2 : ∀ b ∈ blks df, Bk tb es b := fun b hb => .inr ⟨df, List.mem_map.2 ⟨(fp, df), gp_mem hdf, rfl⟩, hb⟩
  have htfp : tp ++ [tx] ≠ fp := by
    rintro rfl
    rw [hk] at hf; cases hf
  obtain ⟨df1, hd1⟩ : ∃ df1, df1 = if fp = tp then setSh df tx s.nb else df := ⟨_, rfl⟩
  have hb1 : blks df1 = blks df := by rw [hd1]; split <;> rfl
  have hnb1 : df1.nb = df.nb := by rw [hd1]; split <;> rfl
  have hdir1 : df1.dir = true := by rw [hd1]; split <;> exact hfd
  have hap1 := nodes_apart h ht hdt (snoc_ne _ _)
  have hap2 := nodes_apart h ht hdf htfp
  have hloop : ∀ (X : Sh), (∀ b ∈ blks X, Bk tb es b) → tb ∉ blks X → ∀ b ∈ [bs, bx, bt, tb], b ∉ blks X := by
    intro X hX htb b hb hbx
    have : b = tb ∨ b ∈ [bs, bx, bt] := by simp at hb ⊢; omega
    rcases this with rfl | h3
    · exact htb hbx
    · exact hne b h3 (hX b hbx)
  refine (rep_walk (sn := s.nb) (df1 := df1) (h.ok hdt) htd (h.ok ht) hT hfs hts (fun w1 hN hfr => ?_) hnb1 hdir1 (by omega) (by omega) (by omega) (hloop dt hin1 (ne_node hT (h.ok hdt))) (by rw [hb1]; exact hloop df hin2 (ne_node hT (h.ok hdf))) hap1 (by rw [hb1]; exact hap2) c0 c1 c2 x0 x1 x2 ct (by omega) (by omega)).mono ?_
  · rw [hd1]
    by_cases e : fp = tp
    · rw [if_pos e]
      have : df = dt := by subst e; rw [hdf] at hdt; exact Option.some.inj hdt
      rw [this]; exact hN
    · rw [if_neg e]
      have hap := nodes_apart h hdf hdt e
      exact Tb.Ok.fr (h.ok hdf) hfr (hap _ (nb_mem _)) (fun hh => hap _ (mb_mem hh))
  · rintro e w' ⟨rfl, w1, w2, a1, a2, a3, a4, a5, a6, a7, a8, a9, a10⟩
    exact rep_end h hf ht hk hft hdf hfd hdt htd htx hr hd1 a1 a2 a3 a4 a5 a6 a7 a8 a9 a10
def bx3s (w : World) (tb : Nat) (sv xv : Array Value) : World := ((w.alloc (.cells #[.pointer (some ⟨tb, 0, none⟩)] 25)).alloc (.cells sv 91)).alloc (.cells xv 91)
section
variable (w : World) (tb : Nat) (sv xv : Array Value)
theorem bx3s_below : Below w.heap.size w (bx3s w tb sv xv) := (((Below.refl _ _).alloc (Nat.le_refl _) _).alloc (by simp) _).alloc (by simp; omega) _
theorem bx3s_0 : (bx3s w tb sv xv).heap[w.heap.size]? = some (.cells #[.pointer (some ⟨tb, 0, none⟩)] 25 (0, 0)) := blk_alloc (blk_alloc (Go.heap_alloc_new _ _) _) _
theorem bx3s_1 : (bx3s w tb sv xv).heap[w.heap.size + 1]? = some (.cells sv 91 (0, 0)) := by
  have := Go.heap_alloc_new (w.alloc (.cells #[.pointer (some ⟨tb, 0, none⟩)] 25)) (.cells sv 91)
  rw [World.size_alloc] at this
  exact blk_alloc this _
theorem bx3s_2 : (bx3s w tb sv xv).heap[w.heap.size + 1 + 1]? = some (.cells xv 91 (0, 0)) := by
  have := Go.heap_alloc_new ((w.alloc (.cells #[.pointer (some ⟨tb, 0, none⟩)] 25)).alloc (.cells sv 91)) (.cells xv 91)
  rw [World.size_alloc, World.size_alloc] at this
  exact this
end
set_option maxHeartbeats 2000000 in
set_option maxRecDepth 100000 in
/-- replace, where something is wrong. -/
theorem rep_wrong (E : Int) (sa xa : Option Addr) (sn xn : ByteArray) (A A2 : Option Addr) (N c N2 c2 : Nat) (hS : Nd w B s) (hX : Nd w B xs) (hE : repE (toN xs) (toN s) = E) (h0 : E ≠ 0) :
    Calls Tryz.prog 80 #[.pointer (some ⟨tb, 0, none⟩), .agg #[.pointer sa, .string sn, .pointer (some ⟨s.nb, 0, none⟩), .slice A N c], .agg #[.pointer xa, .string xn, .pointer (some ⟨xs.nb, 0, none⟩), .slice A2 N2 c2]] w (ErrPost w E) := by
  have hb := bx3s_below w tb #[.pointer sa, .string sn, .pointer (some ⟨s.nb, 0, none⟩), .slice A N c] #[.pointer xa, .string xn, .pointer (some ⟨xs.nb, 0, none⟩), .slice A2 N2 c2]
  have HB := Lib.hid hb
  obtain ⟨dv, hc, -⟩ := hS.cells
  obtain ⟨dv2, hc2, -⟩ := hX.cells
  have s0 := keepC hb (blk_cell hc 0)
  have x0 := keepC hb (blk_cell hc2 0)
  unfold repE toN at hE
  dsimp only at hE
  cases hxd : xs.dir <;> cases hsd : s.dir
  · exfalso
    rw [hxd, hsd] at hE
    simp at hE
    exact h0 hE.symm
  · rw [hxd, hsd] at hE
    simp at hE
    subst hE
    replace s0 := s0.trans (show _ = some (Value.bool true) by rw [hsd]; rfl)
    replace x0 := x0.trans (show _ = some (Value.bool false) by rw [hxd]; rfl)
    unfold bx3s at s0 x0
    clear hb hc hc2 hS hX hxd hsd
    go_enter Tryz.func80, Tryz.ntmps80
    go_wp2
    go_ret2
    exact ⟨HB.out, _, rfl⟩
  · rw [hxd, hsd] at hE
    simp at hE
    subst hE
    replace s0 := s0.trans (show _ = some (Value.bool false) by rw [hsd]; rfl)
    replace x0 := x0.trans (show _ = some (Value.bool true) by rw [hxd]; rfl)
    unfold bx3s at s0 x0
    clear hb hc hc2 hS hX hxd hsd
    go_enter Tryz.func80, Tryz.ntmps80
    go_wp2
    go_ret2
    exact ⟨HB.out, _, rfl⟩
  · rw [hxd, hsd] at hE
    simp at hE
    by_cases hk : 0 < size xs.D
    · rw [if_pos hk] at hE
      subst hE
      replace s0 := s0.trans (show _ = some (Value.bool true) by rw [hsd]; rfl)
      replace x0 := x0.trans (show _ = some (Value.bool true) by rw [hxd]; rfl)
      have x2 := (keepC hb ((blk_cell hc2 2).trans (show _ = some (Value.map (some xs.mb)) by unfold kidsV; rw [if_pos hxd]; rfl)))
      have hlen := fun ty => World.ownsMap.len ((Nd.below hX hb).kids hxd).2 Tryz.underlying83 ty
      unfold bx3s at s0 x0 x2 hlen
      have k0 : (0 : Int) < (size xs.D : Int) := by omega
      clear hb hc hc2 hS hX hxd hsd hk
      go_enter Tryz.func80, Tryz.ntmps80
      go_wp2
      go_ret2
      exact ⟨HB.out, _, rfl⟩
    · rw [if_neg hk] at hE
      exact absurd hE.symm h0
set_option maxHeartbeats 2000000 in
set_option maxRecDepth 100000 in
/-- replace, where nothing is wrong. -/
theorem rep_ok (A A2 : Option Addr) (N c N2 c2 : Nat) (h : St w B tb es n i m) (hm : m ≤ 2000) (hf : gp es (fp ++ [fx]) = some s) (ht : gp es (tp ++ [tx]) = some xs) (hft : ¬ fp ++ [fx] <+: tp ++ [tx]) (hdf : gp es fp = some df) (hfd : df.dir = true) (hdt : gp es tp = some dt) (htd : dt.dir = true)
    (htx : nmL tx.data.toList = true) (hfs : fx.size ≤ 1000000) (hts : tx.size ≤ 1000000) (hE : repE (toN xs) (toN s) = 0) :
    Calls Tryz.prog 80 #[.pointer (some ⟨tb, 0, none⟩), .agg #[.pointer (some ⟨df.nb, 0, none⟩), .string fx, .pointer (some ⟨s.nb, 0, none⟩), .slice A N c], .agg #[.pointer (some ⟨dt.nb, 0, none⟩), .string tx, .pointer (some ⟨xs.nb, 0, none⟩), .slice A2 N2 c2]] w (PlanPost w B tb es n i m 0 (moveS ⟨absE es, n, i⟩ (fp ++ [fx]) (tp ++ [tx]))) := by
  have hb := bx3s_below w tb #[.pointer (some ⟨df.nb, 0, none⟩), .string fx, .pointer (some ⟨s.nb, 0, none⟩), .slice A N c] #[.pointer (some ⟨dt.nb, 0, none⟩), .string tx, .pointer (some ⟨xs.nb, 0, none⟩), .slice A2 N2 c2]
  have HB := Lib.hid hb
  have hS := h.ok hf
  have hX := h.ok ht
  obtain ⟨dv, hc, -⟩ := hS.cells
  obtain ⟨dv2, hc2, -⟩ := hX.cells
  have s0 := keepC hb (blk_cell hc 0)
  have x0 := keepC hb (blk_cell hc2 0)
  have hE2 : xs.dir = s.dir ∧ (xs.dir = true → size xs.D = 0) := by
    unfold repE toN at hE
    dsimp only at hE
    cases hxd : xs.dir <;> cases hsd : s.dir <;> rw [hxd, hsd] at hE <;> simp at hE
    · exact ⟨rfl, fun h => by cases h⟩
    · exact ⟨rfl, fun _ => by omega⟩
  have hk : ∀ y, gp es (tp ++ [tx] ++ [y]) = none := by
    intro y
    cases hxd : xs.dir
    · exact no_kids_file h.wf ht hxd y
    · exact no_kids h.wf ht hxd (hE2.2 hxd) y
  have hdo := rep_do (bs := w.heap.size + 1) (bx := w.heap.size + 1 + 1) (bt := w.heap.size) (h.below hb) hm hf ht hk hft hdf hfd hdt htd htx hfs hts (fun b hb2 hk2 => by
      have := (h.bk hk2).1
      simp at hb2
      omega) (blk_cell (bx3s_1 w tb _ _) 0) (blk_cell (bx3s_1 w tb _ _) 1) (blk_cell (bx3s_1 w tb _ _) 2) (blk_cell (bx3s_2 w tb _ _) 0) (blk_cell (bx3s_2 w tb _ _) 1) (blk_cell (bx3s_2 w tb _ _) 2) (blk_cell (bx3s_0 w tb _ _) 0)
  have HDO := Lib.hid hdo
  have hmk : ∀ (fn : Fn) (first cap : Array Value) (w : World), (Instr.makeFunc fn first cap).run Tryz.prog w = .ok (.func fn first cap) w := fun _ _ _ _ => rfl
  cases hxd : xs.dir
  · replace s0 := s0.trans (show _ = some (Value.bool false) by rw [← hE2.1, hxd]; rfl)
    replace x0 := x0.trans (show _ = some (Value.bool false) by rw [hxd]; rfl)
    have x2 := (keepC hb ((blk_cell hc2 2).trans (show _ = some (Value.map none) by unfold kidsV; rw [if_neg (by simp [hxd])]; rfl)))
    have hlen := fun (W : World) ty => Maps.len_nil (w := W) (P := Tryz.prog) Tryz.underlying83 ty
    unfold bx3s at s0 x0 x2
    clear hb hc hc2 hS hX h hk hdo hE hE2 hxd
    go_enter Tryz.func80, Tryz.ntmps80
    go_wp2
    go_ret2
    exact ⟨HB.out, _, rfl, fun _ => ⟨98, _, rfl, enters_of Tryz.func98 (by kernel_rfl) rfl, HDO.out⟩⟩
  · replace s0 := s0.trans (show _ = some (Value.bool true) by rw [← hE2.1, hxd]; rfl)
    replace x0 := x0.trans (show _ = some (Value.bool true) by rw [hxd]; rfl)
    have x2 := (keepC hb ((blk_cell hc2 2).trans (show _ = some (Value.map (some xs.mb)) by unfold kidsV; rw [if_pos hxd]; rfl)))
    have hlen := fun ty => (World.ownsMap.len ((Nd.below hX hb).kids hxd).2 Tryz.underlying83 ty)
    rw [hE2.2 hxd] at hlen
    unfold bx3s at s0 x0 x2 hlen
    clear hb hc hc2 hS hX h hk hdo hE hE2 hxd
    go_enter Tryz.func80, Tryz.ntmps80
    go_wp2
    go_ret2
    exact ⟨HB.out, _, rfl, fun _ => ⟨98, _, rfl, enters_of Tryz.func98 (by kernel_rfl) rfl, HDO.out⟩⟩
end
end Go.Proofs.YtpdcjdangnfeiaaGreatDoor.Ut
open Go.Proofs.YtpdcjdangnfeiaaGreatDoor.Ut
namespace Go.Proofs.YtpdcjdangnfeiaaGreatDoor.Uu
section
variable {w : World} {B tb n i m : Nat} {es : Es} {fp tp l mm : Path} {s xs df dt : Sh} {fx tx : ByteArray}
set_option maxHeartbeats 1000000 in
set_option maxRecDepth 100000 in
theorem mv_nil (uv : Option Addr) (nv : ByteArray) (A A2 : Option Addr) (N c N2 c2 : Nat) : Calls Tryz.prog 41 #[.pointer (some ⟨tb, 0, none⟩), .agg #[.pointer uv, .string nv, .pointer none, .slice A N c], .slice A2 N2 c2] w (ErrPost w 8) := by
  have hb := bx2_below w tb #[.pointer uv, .string nv, .pointer none, .slice A N c]
  have HB := Lib.hid hb
  clear hb
  go_enter Tryz.func41, Tryz.ntmps41
  go_wp2
  go_ret2
  exact ⟨HB.out, _, rfl⟩
set_option maxHeartbeats 1000000 in
set_option maxRecDepth 100000 in
theorem mv_root (nv : ByteArray) (ad : Addr) (A A2 : Option Addr) (N c N2 c2 : Nat) : Calls Tryz.prog 41 #[.pointer (some ⟨tb, 0, none⟩), .agg #[.pointer none, .string nv, .pointer (some ad), .slice A N c], .slice A2 N2 c2] w (ErrPost w 13) := by
  have hb := bx2_below w tb #[.pointer none, .string nv, .pointer (some ad), .slice A N c]
  have HB := Lib.hid hb
  clear hb
  go_enter Tryz.func41, Tryz.ntmps41
  go_wp2
  go_ret2
  exact ⟨HB.out, _, rfl⟩
set_option maxHeartbeats 1000000 in
set_option maxRecDepth 100000 in
theorem mv_root2 (nv : ByteArray) (ad up : Addr) (A A2 : Option Addr) (N c c2 : Nat) : Calls Tryz.prog 41 #[.pointer (some ⟨tb, 0, none⟩), .agg #[.pointer (some up), .string nv, .pointer (some ad), .slice A N c], .slice A2 0 c2] w (ErrPost w 13) := by
  have hb := bx2_below w tb #[.pointer (some up), .string nv, .pointer (some ad), .slice A N c]
  have HB := Lib.hid hb
  clear hb
  go_enter Tryz.func41, Tryz.ntmps41
  go_wp2
  go_ret2
  exact ⟨HB.out, _, rfl⟩
set_option maxHeartbeats 2000000 in
set_option maxRecDepth 100000 in
theorem mv_way (nv : ByteArray) (ad up : Addr) (A A2 : Option Addr) (N c c2 : Nat) (h : St w B tb es n i m) (hl : RdS w A2 mm) (h0 : mm ≠ []) (hn : mm.length ≤ 1000) (hs : ∀ x ∈ mm, x.size ≤ 1000) (hw : way es [] mm ≠ 0) :
    Calls Tryz.prog 41 #[.pointer (some ⟨tb, 0, none⟩), .agg #[.pointer (some up), .string nv, .pointer (some ad), .slice A N c], .slice A2 mm.length c2] w (ErrPost w (way es [] mm)) := by
  have hb := bx2_below w tb #[.pointer (some up), .string nv, .pointer (some ad), .slice A N c]
  have HB := Lib.hid hb
  obtain ⟨r, hr, ht⟩ := (h.below hb).tre
  have hf := find_any A2 c2 mm (h.below hb).tr hr ht (hl.below hb) hn hs
  rw [if_neg hw] at hf
  unfold noSpot at hf
  obtain ⟨E, hE⟩ : ∃ E, way es [] mm = E := ⟨_, rfl⟩
  rw [hE] at hf hw ⊢
  have HF := Lib.hid hf
  have k1 : ((mm.length : Int) == 0) = false := by simp; exact h0
  have k2 : (E != 0) = true := by simpa using hw
  have k3 : mm.length ≠ 0 := by simpa using h0
  have v0 : (bx2 w tb #[.pointer (some up), .string nv, .pointer (some ad), .slice A N c]).cell? ⟨w.heap.size, 0, none⟩ = _ := blk_cell (bx2_0 w tb _) 0
  unfold bx2 at v0
  clear hb hf hE hw h hl ht hr hs
  go_enter Tryz.func41, Tryz.ntmps41
  go_wp2_with fail
  refine HF.out.mono ?_
  rintro e w1 ⟨rfl, hb1⟩
  have HB1 := Lib.hid hb1
  clear hb1
  go_wp2_with fail
  go_ret2
  exact ⟨bt HB.out (HB1.out.alloc HB1.out.size _), _, rfl⟩
set_option maxHeartbeats 2000000 in
set_option maxRecDepth 100000 in
theorem mv_below (nv : ByteArray) (ad up : Addr) (A A2 : Option Addr) (c c2 : Nat) (h : St w B tb es n i m) (hA : RdS w A l) (hl : RdS w A2 mm) (hl0 : l ≠ []) (h0 : mm ≠ []) (hln : l.length ≤ 1000) (hn : mm.length ≤ 1000) (hc2 : mm.length ≤ c2) (hs : ∀ x ∈ mm, x.size ≤ 1000) (hw : way es [] mm = 0) (hlt : l <+: mm ∧ l ≠ mm) :
    Calls Tryz.prog 41 #[.pointer (some ⟨tb, 0, none⟩), .agg #[.pointer (some up), .string nv, .pointer (some ad), .slice A l.length c], .slice A2 mm.length c2] w (ErrPost w 13) := by
  have hb := bx2_below w tb #[.pointer (some up), .string nv, .pointer (some ad), .slice A l.length c]
  have HB := Lib.hid hb
  obtain ⟨r, hr, ht⟩ := (h.below hb).tre
  have hf := find_any A2 c2 mm (h.below hb).tr hr ht (hl.below hb) hn hs
  rw [if_pos hw, hw] at hf
  obtain ⟨pu, hpu⟩ := upV_is es mm
  obtain ⟨pn, hpn⟩ := ptrV_is ((gp es mm).map (·.nb))
  unfold spotV nmV at hf
  obtain ⟨ln, hln2⟩ : ∃ ln, mm.getLastD ByteArray.empty = ln := ⟨_, rfl⟩
  rw [hpu, hpn, hln2] at hf
  have HF := Lib.hid hf
  have k1 : ((mm.length : Int) == 0) = false := by simp; exact h0
  have k3 : mm.length ≠ 0 := by simpa using h0
  have HV := Lib.hid (blk_cell (bx2_1 w tb #[.pointer (some up), .string nv, .pointer (some ad), .slice A l.length c]) 3)
  have v0 : (bx2 w tb #[.pointer (some up), .string nv, .pointer (some ad), .slice A l.length c]).cell? ⟨w.heap.size, 0, none⟩ = _ := blk_cell (bx2_0 w tb _) 0
  unfold bx2 at v0
  have HBW := Lib.hid (fun W (hW : Below w.heap.size w W) => below_any A A2 c c2 l mm W (hA.below hW) (hl.below hW) hl0 h0 hln hn hc2)
  have HEQ := Lib.hid (fun W (hW : Below w.heap.size w W) => eq_any A A2 c c2 l mm W (hA.below hW) (hl.below hW) hl0 h0 hln hn)
  have hbo : decide (l <+: mm ∧ l ≠ mm) = true := decide_eq_true hlt
  rw [hbo] at HBW
  clear hb hf hw h hl hA ht hr hs hbo hlt hpu hpn hln2
  go_enter Tryz.func41, Tryz.ntmps41
  go_wp2_with fail
  refine HF.out.mono ?_
  rintro e w1 ⟨rfl, hb1⟩
  have HB1 := Lib.hid (bt HB.out (hb1.alloc hb1.size (Obj.cells #[.pointer pu, .string ln, .pointer pn, .slice A2 mm.length c2] 91)))
  have v3 := keepC (hb1.alloc hb1.size (Obj.cells #[.pointer pu, .string ln, .pointer pn, .slice A2 mm.length c2] 91)) HV.out
  clear hb1
  go_wp2_with fail
  refine (HBW.out _ HB1.out).mono ?_
  rintro e w2 ⟨rfl, q, rfl⟩
  go_wp2_with fail
  go_ret2
  exact ⟨bt HB1.out (bdraw _ _), _, rfl⟩
set_option maxHeartbeats 2000000 in
set_option maxRecDepth 100000 in
theorem mv_same (nv : ByteArray) (ad up : Addr) (A A2 : Option Addr) (c c2 : Nat) (h : St w B tb es n i m) (hA : RdS w A l) (hl : RdS w A2 mm) (hl0 : l ≠ []) (h0 : mm ≠ []) (hln : l.length ≤ 1000) (hn : mm.length ≤ 1000) (hc2 : mm.length ≤ c2) (hs : ∀ x ∈ mm, x.size ≤ 1000) (hw : way es [] mm = 0) (hlt : l = mm) :
    Calls Tryz.prog 41 #[.pointer (some ⟨tb, 0, none⟩), .agg #[.pointer (some up), .string nv, .pointer (some ad), .slice A l.length c], .slice A2 mm.length c2] w (PlanPost w B tb es n i m 0 ⟨absE es, n, i⟩) := by
  have hb := bx2_below w tb #[.pointer (some up), .string nv, .pointer (some ad), .slice A l.length c]
  have HB := Lib.hid hb
  obtain ⟨r, hr, ht⟩ := (h.below hb).tre
  have hf := find_any A2 c2 mm (h.below hb).tr hr ht (hl.below hb) hn hs
  rw [if_pos hw, hw] at hf
  obtain ⟨pu, hpu⟩ := upV_is es mm
  obtain ⟨pn, hpn⟩ := ptrV_is ((gp es mm).map (·.nb))
  unfold spotV nmV at hf
  obtain ⟨ln, hln2⟩ : ∃ ln, mm.getLastD ByteArray.empty = ln := ⟨_, rfl⟩
  rw [hpu, hpn, hln2] at hf
  have HF := Lib.hid hf
  have k1 : ((mm.length : Int) == 0) = false := by simp; exact h0
  have k3 : mm.length ≠ 0 := by simpa using h0
  have HV := Lib.hid (blk_cell (bx2_1 w tb #[.pointer (some up), .string nv, .pointer (some ad), .slice A l.length c]) 3)
  have v0 : (bx2 w tb #[.pointer (some up), .string nv, .pointer (some ad), .slice A l.length c]).cell? ⟨w.heap.size, 0, none⟩ = _ := blk_cell (bx2_0 w tb _) 0
  unfold bx2 at v0
  have HBW := Lib.hid (fun W (hW : Below w.heap.size w W) => below_any A A2 c c2 l mm W (hA.below hW) (hl.below hW) hl0 h0 hln hn hc2)
  have HEQ := Lib.hid (fun W (hW : Below w.heap.size w W) => eq_any A A2 c c2 l mm W (hA.below hW) (hl.below hW) hl0 h0 hln hn)
  have hbo : decide (l <+: mm ∧ l ≠ mm) = false := decide_eq_false (fun h => h.2 hlt)
  have hbo2 : decide (l = mm) = true := decide_eq_true hlt
  rw [hbo] at HBW
  rw [hbo2] at HEQ
  have H := Lib.hid h
  clear hb hf hw h hl hA ht hr hs hbo hbo2 hlt hpu hpn hln2
  go_enter Tryz.func41, Tryz.ntmps41
  go_wp2_with fail
  refine HF.out.mono ?_
  rintro e w1 ⟨rfl, hb1⟩
  have HB1 := Lib.hid (bt HB.out (hb1.alloc hb1.size (Obj.cells #[.pointer pu, .string ln, .pointer pn, .slice A2 mm.length c2] 91)))
  have v3 := keepC (hb1.alloc hb1.size (Obj.cells #[.pointer pu, .string ln, .pointer pn, .slice A2 mm.length c2] 91)) HV.out
  clear hb1
  go_wp2_with fail
  refine (HBW.out _ HB1.out).mono ?_
  rintro e w2 ⟨rfl, q, rfl⟩
  go_wp2_with fail
  refine (HEQ.out _ (bt HB1.out (bdraw _ _))).mono ?_
  rintro e w2 ⟨rfl, q2, rfl⟩
  go_wp2_with fail
  go_ret2
  have hbW := bt HB1.out (bdraw (w1.alloc (Obj.cells #[.pointer pu, .string ln, .pointer pn, .slice A2 mm.length c2] 91)) (q + q2))
  refine ⟨hbW, _, rfl, fun _ => ⟨79, _, rfl, enters_of Tryz.func79 (by kernel_rfl) rfl, ?_⟩⟩
  have hsW := H.out.below hbW
  go_enter Tryz.func79, Tryz.ntmps79
  go_wp2
  go_end0
  exact ⟨rfl, es, n, i, hsW.mono (by omega), rfl, Turn.of_below hsW (Below.refl _ _) hsW.base, rfl⟩
end
end Go.Proofs.YtpdcjdangnfeiaaGreatDoor.Uu
open Go.Proofs.YtpdcjdangnfeiaaGreatDoor.Uu
namespace Go.Proofs.YtpdcjdangnfeiaaGreatDoor.Uv
theorem PlanPost.from {w W w' : World} {B tb : Nat} {es : Es} {n i m : Nat} {E : Int} {s' : S} {e : Ending} (hb : Below w.heap.size w W) (h : PlanPost W B tb es n i m E s' e w') : PlanPost w B tb es n i m E s' e w' := ⟨bt hb h.1, h.2⟩
section
variable {w : World} {B tb n i m : Nat} {es : Es} {fp tp l mm : Path} {s xs df dt : Sh} {fx tx : ByteArray}
set_option maxHeartbeats 2000000 in
set_option maxRecDepth 100000 in
theorem mv_arm (E : Int) (S' : S) (nv : ByteArray) (ad up ux ax : Addr) (ln : ByteArray) (A A2 : Option Addr) (c c2 : Nat) (h : St w B tb es n i m) (hA : RdS w A l) (hl : RdS w A2 mm) (hl0 : l ≠ []) (h0 : mm ≠ []) (hln : l.length ≤ 1000) (hn : mm.length ≤ 1000) (hc2 : mm.length ≤ c2) (hs : ∀ x ∈ mm, x.size ≤ 1000) (hw : way es [] mm = 0) (hlt : ¬ l <+: mm) (hup : upV es mm = .pointer (some ux)) (hpn : ptrV ((gp es mm).map (·.nb)) = .pointer (some ax)) (hln2 : mm.getLastD ByteArray.empty = ln)
    (hR : ∀ W, Below w.heap.size w W → Calls Tryz.prog 80 #[.pointer (some ⟨tb, 0, none⟩), .agg #[.pointer (some up), .string nv, .pointer (some ad), .slice A l.length c], .agg #[.pointer (some ux), .string ln, .pointer (some ax), .slice A2 mm.length c2]] W (PlanPost W B tb es n i m E S')) :
    Calls Tryz.prog 41 #[.pointer (some ⟨tb, 0, none⟩), .agg #[.pointer (some up), .string nv, .pointer (some ad), .slice A l.length c], .slice A2 mm.length c2] w (PlanPost w B tb es n i m E S') := by
  have hb := bx2_below w tb #[.pointer (some up), .string nv, .pointer (some ad), .slice A l.length c]
  have HB := Lib.hid hb
  obtain ⟨r, hr, ht⟩ := (h.below hb).tre
  have hf := find_any A2 c2 mm (h.below hb).tr hr ht (hl.below hb) hn hs
  rw [if_pos hw, hw] at hf
  unfold spotV nmV at hf
  rw [hup, hpn, hln2] at hf
  have HF := Lib.hid hf
  have k1 : ((mm.length : Int) == 0) = false := by simp; exact h0
  have k3 : mm.length ≠ 0 := by simpa using h0
  have HV0 := Lib.hid (blk_cell (bx2_1 w tb #[.pointer (some up), .string nv, .pointer (some ad), .slice A l.length c]) 0)
  have HV1 := Lib.hid (blk_cell (bx2_1 w tb #[.pointer (some up), .string nv, .pointer (some ad), .slice A l.length c]) 1)
  have HV2 := Lib.hid (blk_cell (bx2_1 w tb #[.pointer (some up), .string nv, .pointer (some ad), .slice A l.length c]) 2)
  have HVT := Lib.hid (blk_cell (bx2_0 w tb #[.pointer (some up), .string nv, .pointer (some ad), .slice A l.length c]) 0)
  have HV := Lib.hid (blk_cell (bx2_1 w tb #[.pointer (some up), .string nv, .pointer (some ad), .slice A l.length c]) 3)
  have v0 : (bx2 w tb #[.pointer (some up), .string nv, .pointer (some ad), .slice A l.length c]).cell? ⟨w.heap.size, 0, none⟩ = _ := blk_cell (bx2_0 w tb _) 0
  unfold bx2 at v0
  have HBW := Lib.hid (fun W (hW : Below w.heap.size w W) => below_any A A2 c c2 l mm W (hA.below hW) (hl.below hW) hl0 h0 hln hn hc2)
  have HEQ := Lib.hid (fun W (hW : Below w.heap.size w W) => eq_any A A2 c c2 l mm W (hA.below hW) (hl.below hW) hl0 h0 hln hn)
  have hbo : decide (l <+: mm ∧ l ≠ mm) = false := decide_eq_false (fun h => hlt h.1)
  have hbo2 : decide (l = mm) = false := decide_eq_false (fun h => hlt (h ▸ List.prefix_rfl))
  rw [hbo] at HBW
  rw [hbo2] at HEQ
  have HR := Lib.hid hR
  clear hb hf hw h hl hA ht hr hs hbo hbo2 hlt hup hpn hln2 hR
  go_enter Tryz.func41, Tryz.ntmps41
  go_wp2_with fail
  refine HF.out.mono ?_
  rintro e w1 ⟨rfl, hb1⟩
  have HB1 := Lib.hid (bt HB.out (hb1.alloc hb1.size (Obj.cells #[.pointer (some ux), .string ln, .pointer (some ax), .slice A2 mm.length c2] 91)))
  have v3 := keepC (hb1.alloc hb1.size (Obj.cells #[.pointer (some ux), .string ln, .pointer (some ax), .slice A2 mm.length c2] 91)) HV.out
  have q0 := keepC (hb1.alloc hb1.size (Obj.cells #[.pointer (some ux), .string ln, .pointer (some ax), .slice A2 mm.length c2] 91)) HV0.out
  have q1 := keepC (hb1.alloc hb1.size (Obj.cells #[.pointer (some ux), .string ln, .pointer (some ax), .slice A2 mm.length c2] 91)) HV1.out
  have q2 := keepC (hb1.alloc hb1.size (Obj.cells #[.pointer (some ux), .string ln, .pointer (some ax), .slice A2 mm.length c2] 91)) HV2.out
  have qt := keepC (hb1.alloc hb1.size (Obj.cells #[.pointer (some ux), .string ln, .pointer (some ax), .slice A2 mm.length c2] 91)) HVT.out
  have y0 := blk_cell (Go.heap_alloc_new w1 (Obj.cells #[.pointer (some ux), .string ln, .pointer (some ax), .slice A2 mm.length c2] 91)) 0
  have y1 := blk_cell (Go.heap_alloc_new w1 (Obj.cells #[.pointer (some ux), .string ln, .pointer (some ax), .slice A2 mm.length c2] 91)) 1
  have y2 := blk_cell (Go.heap_alloc_new w1 (Obj.cells #[.pointer (some ux), .string ln, .pointer (some ax), .slice A2 mm.length c2] 91)) 2
  have y3 := blk_cell (Go.heap_alloc_new w1 (Obj.cells #[.pointer (some ux), .string ln, .pointer (some ax), .slice A2 mm.length c2] 91)) 3
  clear hb1
  go_wp2_with fail
  refine (HBW.out _ HB1.out).mono ?_
  rintro e w2 ⟨rfl, q, rfl⟩
  go_wp2_with fail
  refine (HEQ.out _ (bt HB1.out (bdraw _ _))).mono ?_
  rintro e w2 ⟨rfl, q2, rfl⟩
  go_wp2_with fail
  refine (HR.out _ (bt HB1.out (bdraw _ _))).mono ?_
  rintro e w3 ⟨hb3, f, rfl, hf3⟩
  have HB3 := Lib.hid hb3
  have HF3 := Lib.hid hf3
  clear hb3 hf3
  go_wp2_with fail
  go_ret2
  exact ⟨bt (bt HB1.out (bdraw _ _)) HB3.out, f, rfl, HF3.out⟩
end
end Go.Proofs.YtpdcjdangnfeiaaGreatDoor.Uv
open Go.Proofs.YtpdcjdangnfeiaaGreatDoor.Uv
namespace Go.Proofs.YtpdcjdangnfeiaaGreatDoor.Uw
theorem al2 (w : World) (o1 o2 : Obj) : ((w.alloc o1).alloc o2).heap[w.heap.size + 1]? = some o2 := by
  have := Go.heap_alloc_new (w.alloc o1) o2
  rw [World.size_alloc] at this
  exact this
theorem run_neq_ptr_other {P : Program} (w : World) {tp te : TypeId} {j : TypeInfo} {a b : Addr} {ca cb : Array Value} {ta tb : TypeId} (hp : P.underlying tp = some (.pointer te)) (hte : P.info? te = some j) (hsz : j.size ≠ 0)
    (hne : a ≠ b) (ha : w.heap[a.block]? = some (.cells ca ta (0, 0))) (hb : w.heap[b.block]? = some (.cells cb tb (0, 0))) :
    (binOp .neq tp (.pointer (some a)) (.pointer (some b))).run P w = .ok (.bool true) w := by
  have h : ∀ d : Nat, (Op.equalIn (d + 1) tp (.pointer (some a)) (.pointer (some b))).run P w = .ok false w := fun d => by
    simp [Op.equalIn, run_underlying hp, sizeOf, typeInfo, hte, hsz, run_sameAddr_other w hne ha hb]
  simp only [binOp]
  simp [Op.equal, Op.maxDepth, h 9999]
theorem info67 : (Tryz.prog.info? 85).map (·.size) = some 4 := by kernel_rfl
theorem node_neq {W : World} {B : Nat} {a b : Sh} (ha : Nd W B a) (hb : Nd W B b) (hne : a.nb ≠ b.nb) : (binOp .neq 52 (.pointer (some ⟨a.nb, 0, none⟩)) (.pointer (some ⟨b.nb, 0, none⟩))).run Tryz.prog W = .ok (.bool true) W := by
  obtain ⟨j, hj, hz⟩ := Option.map_eq_some_iff.1 info67
  obtain ⟨dv, hc, -⟩ := ha.cells
  obtain ⟨dv2, hc2, -⟩ := hb.cells
  exact run_neq_ptr_other W Tryz.underlying52 hj (by omega) (fun e => hne (congrArg Addr.block e)) hc hc2
section
variable {w : World} {B tb n i m : Nat} {es : Es} {fp tp l mm : Path} {s xs df dt : Sh} {fx tx : ByteArray}
set_option maxHeartbeats 2000000 in
set_option maxRecDepth 100000 in
theorem mv_gap (nv : ByteArray) (ad : Addr) (ub : Nat) (dt : Sh) (ln : ByteArray) (A A2 : Option Addr) (c c2 : Nat) (h : St w B tb es n i m) (hA : RdS w A l) (hl : RdS w A2 mm) (hl0 : l ≠ []) (h0 : mm ≠ []) (hln : l.length ≤ 1000) (hn : mm.length ≤ 1000) (hc2 : mm.length ≤ c2) (hs : ∀ x ∈ mm, x.size ≤ 1000) (hw : way es [] mm = 0) (hlt : ¬ l <+: mm) (hup : upV es mm = .pointer (some ⟨dt.nb, 0, none⟩)) (hpn : ptrV ((gp es mm).map (·.nb)) = .pointer none) (hln2 : mm.getLastD ByteArray.empty = ln)
    (g : Nat) (df : Sh) (hdf : Nd w B df) (hub : ub = df.nb) (hdn : dt.nb ≠ df.nb) (hdd : Nd w B dt) (hgd : growsZ dt = (g : Int)) (hddir : dt.dir = true) (hds : dt.slots ≤ 90000) (hdl : dt.data.length ≤ 1000000000) (hdz : size dt.D ≤ 1000000) (E : Int) (S' : S) (hE : E = if n < g then 7 else 0)
    (hR : g ≤ n → ∀ W bm, Below w.heap.size w W → W.heap[w.heap.size]? = some (.cells #[.pointer (some ⟨tb, 0, none⟩)] 25 (0, 0)) → W.heap[w.heap.size + 1]? = some (.cells #[.pointer (some ⟨ub, 0, none⟩), .string nv, .pointer (some ad), .slice A l.length c] 91 (0, 0)) → ∀ bx, w.heap.size ≤ bx → W.heap[bx]? = some (.cells #[.pointer (some ⟨dt.nb, 0, none⟩), .string ln, .pointer none, .slice A2 mm.length c2] 91 (0, 0)) → w.heap.size ≤ bm → W.cell? ⟨bm, 0, none⟩ = some (.int .i64 g) → Calls Tryz.prog 81 #[.pointer (some ⟨w.heap.size + 1, 0, none⟩), .pointer (some ⟨bx, 0, none⟩), .pointer (some ⟨w.heap.size, 0, none⟩), .pointer (some ⟨bm, 0, none⟩)] W (ActPost W B tb es n i m S')) :
    Calls Tryz.prog 41 #[.pointer (some ⟨tb, 0, none⟩), .agg #[.pointer (some ⟨ub, 0, none⟩), .string nv, .pointer (some ad), .slice A l.length c], .slice A2 mm.length c2] w (PlanPost w B tb es n i m E S') := by
  have hb := bx2_below w tb #[.pointer (some ⟨ub, 0, none⟩), .string nv, .pointer (some ad), .slice A l.length c]
  have HB := Lib.hid hb
  obtain ⟨r, hr, ht⟩ := (h.below hb).tre
  have hf := find_any A2 c2 mm (h.below hb).tr hr ht (hl.below hb) hn hs
  rw [if_pos hw, hw] at hf
  unfold spotV nmV at hf
  rw [hup, hpn, hln2] at hf
  have HF := Lib.hid hf
  have k1 : ((mm.length : Int) == 0) = false := by simp; exact h0
  have k3 : mm.length ≠ 0 := by simpa using h0
  have HV0 := Lib.hid (blk_cell (bx2_1 w tb #[.pointer (some ⟨ub, 0, none⟩), .string nv, .pointer (some ad), .slice A l.length c]) 0)
  have HV1 := Lib.hid (blk_cell (bx2_1 w tb #[.pointer (some ⟨ub, 0, none⟩), .string nv, .pointer (some ad), .slice A l.length c]) 1)
  have HV2 := Lib.hid (blk_cell (bx2_1 w tb #[.pointer (some ⟨ub, 0, none⟩), .string nv, .pointer (some ad), .slice A l.length c]) 2)
  have HVT := Lib.hid (blk_cell (bx2_0 w tb #[.pointer (some ⟨ub, 0, none⟩), .string nv, .pointer (some ad), .slice A l.length c]) 0)
  have HV := Lib.hid (blk_cell (bx2_1 w tb #[.pointer (some ⟨ub, 0, none⟩), .string nv, .pointer (some ad), .slice A l.length c]) 3)
  have v0 : (bx2 w tb #[.pointer (some ⟨ub, 0, none⟩), .string nv, .pointer (some ad), .slice A l.length c]).cell? ⟨w.heap.size, 0, none⟩ = _ := blk_cell (bx2_0 w tb _) 0
  unfold bx2 at v0
  have HBW := Lib.hid (fun W (hW : Below w.heap.size w W) => below_any A A2 c c2 l mm W (hA.below hW) (hl.below hW) hl0 h0 hln hn hc2)
  have HEQ := Lib.hid (fun W (hW : Below w.heap.size w W) => eq_any A A2 c c2 l mm W (hA.below hW) (hl.below hW) hl0 h0 hln hn)
  have hbo : decide (l <+: mm ∧ l ≠ mm) = false := decide_eq_false (fun h => hlt h.1)
  have hbo2 : decide (l = mm) = false := decide_eq_false (fun h => hlt (h ▸ List.prefix_rfl))
  rw [hbo] at HBW
  rw [hbo2] at HEQ
  have HR := Lib.hid hR
  have HEE := Lib.hid hE
  have HGR := Lib.hid (fun W (hW : Nd W B dt) => hgd ▸ grows_any hW hddir (by omega) hdl hdz)
  have HDD := Lib.hid hdd
  have HDF := Lib.hid hdf
  have HUB := Lib.hid hub
  have HDN := Lib.hid hdn
  obtain ⟨r9, hr9, ht9⟩ := St.cells h
  have HT9 := Lib.hid ht9
  clear hb hf hw h hl hA ht hr hs hbo hbo2 hlt hup hpn hln2 hR hE hdd ht9 hr9 hgd hdf hub hdn
  go_enter Tryz.func41, Tryz.ntmps41
  go_wp2_with fail
  refine HF.out.mono ?_
  rintro e w1 ⟨rfl, hb1⟩
  have HB1 := Lib.hid (bt HB.out (hb1.alloc hb1.size (Obj.cells #[.pointer (some ⟨dt.nb, 0, none⟩), .string ln, .pointer none, .slice A2 mm.length c2] 91)))
  have v3 := keepC (hb1.alloc hb1.size (Obj.cells #[.pointer (some ⟨dt.nb, 0, none⟩), .string ln, .pointer none, .slice A2 mm.length c2] 91)) HV.out
  have q0 := keepC (hb1.alloc hb1.size (Obj.cells #[.pointer (some ⟨dt.nb, 0, none⟩), .string ln, .pointer none, .slice A2 mm.length c2] 91)) HV0.out
  have q1 := keepC (hb1.alloc hb1.size (Obj.cells #[.pointer (some ⟨dt.nb, 0, none⟩), .string ln, .pointer none, .slice A2 mm.length c2] 91)) HV1.out
  have q2 := keepC (hb1.alloc hb1.size (Obj.cells #[.pointer (some ⟨dt.nb, 0, none⟩), .string ln, .pointer none, .slice A2 mm.length c2] 91)) HV2.out
  have qt := keepC (hb1.alloc hb1.size (Obj.cells #[.pointer (some ⟨dt.nb, 0, none⟩), .string ln, .pointer none, .slice A2 mm.length c2] 91)) HVT.out
  have y0 := blk_cell (Go.heap_alloc_new w1 (Obj.cells #[.pointer (some ⟨dt.nb, 0, none⟩), .string ln, .pointer none, .slice A2 mm.length c2] 91)) 0
  have y1 := blk_cell (Go.heap_alloc_new w1 (Obj.cells #[.pointer (some ⟨dt.nb, 0, none⟩), .string ln, .pointer none, .slice A2 mm.length c2] 91)) 1
  have y2 := blk_cell (Go.heap_alloc_new w1 (Obj.cells #[.pointer (some ⟨dt.nb, 0, none⟩), .string ln, .pointer none, .slice A2 mm.length c2] 91)) 2
  have y3 := blk_cell (Go.heap_alloc_new w1 (Obj.cells #[.pointer (some ⟨dt.nb, 0, none⟩), .string ln, .pointer none, .slice A2 mm.length c2] 91)) 3
  have HX1 := Lib.hid (hb1.alloc hb1.size (Obj.cells #[.pointer (some ⟨dt.nb, 0, none⟩), .string ln, .pointer none, .slice A2 mm.length c2] 91))
  have HSZ := Lib.hid hb1.size
  clear hb1
  go_wp2_with fail
  refine (HBW.out _ HB1.out).mono ?_
  rintro e w2 ⟨rfl, q, rfl⟩
  go_wp2_with fail
  refine (HEQ.out _ (bt HB1.out (bdraw _ _))).mono ?_
  rintro e w2 ⟨rfl, q2, rfl⟩
  have hx2 : Below (bx2 w tb #[.pointer (some ⟨ub, 0, none⟩), .string nv, .pointer (some ad), .slice A l.length c]).heap.size (bx2 w tb #[.pointer (some ⟨ub, 0, none⟩), .string nv, .pointer (some ad), .slice A l.length c]) (((w1.alloc (Obj.cells #[.pointer (some ⟨dt.nb, 0, none⟩), .string ln, .pointer none, .slice A2 mm.length c2] 91)).drewN (q + q2)).alloc (Obj.cells #[.int .i64 0] 3)) := (HX1.out.trans ((bdraw _ _).mono HX1.out.size)).alloc (by have := HX1.out.size; simpa using this) _
  have p0 := keepC hx2 HV0.out
  have p1 : (((w1.alloc (Obj.cells #[.pointer (some ⟨dt.nb, 0, none⟩), .string ln, .pointer none, .slice A2 mm.length c2] 91)).drewN (q + q2)).alloc (Obj.cells #[.int .i64 0] 3)).cell? ⟨w1.heap.size, 0, none⟩ = _ := keepC (w2 := (w1.alloc (Obj.cells #[.pointer (some ⟨dt.nb, 0, none⟩), .string ln, .pointer none, .slice A2 mm.length c2] 91)).drewN (q + q2)) ((Below.refl _ _).alloc (Nat.le_refl _) _) y0
  have HX2 := Lib.hid hx2
  have hcmp : (binOp .neq 52 (.pointer (some ⟨dt.nb, 0, none⟩)) (.pointer (some ⟨ub, 0, none⟩))).run Tryz.prog (((w1.alloc (Obj.cells #[.pointer (some ⟨dt.nb, 0, none⟩), .string ln, .pointer none, .slice A2 mm.length c2] 91)).drewN (q + q2)).alloc (Obj.cells #[.int .i64 0] 3)) = .ok (.bool true) _ := HUB.out ▸ node_neq (Nd.below HDD.out (bt HB.out hx2)) (Nd.below HDF.out (bt HB.out hx2)) HDN.out
  have hz := al2 w1 (Obj.cells #[.pointer (some ⟨dt.nb, 0, none⟩), .string ln, .pointer none, .slice A2 mm.length c2] 91) (Obj.cells #[.int .i64 0] 3)
  have HZ := Lib.hid (show (((w1.alloc (Obj.cells #[.pointer (some ⟨dt.nb, 0, none⟩), .string ln, .pointer none, .slice A2 mm.length c2] 91)).drewN (q + q2)).alloc (Obj.cells #[.int .i64 0] 3)).heap[w1.heap.size + 1]? = _ from hz)
  have HY := Lib.hid (show (((w1.alloc (Obj.cells #[.pointer (some ⟨dt.nb, 0, none⟩), .string ln, .pointer none, .slice A2 mm.length c2] 91)).drewN (q + q2)).alloc (Obj.cells #[.int .i64 0] 3)).heap[w1.heap.size]? = _ from blk_alloc (Go.heap_alloc_new w1 (Obj.cells #[.pointer (some ⟨dt.nb, 0, none⟩), .string ln, .pointer none, .slice A2 mm.length c2] 91)) _)
  clear hx2 hz
  go_wp2_with fail
  refine (HGR.out _ (Nd.below HDD.out (bt HB.out HX2.out))).mono ?_
  rintro e w5 ⟨rfl, hb5⟩
  have HB5 := Lib.hid hb5
  have hz5 := (hb5.block _ (Array.getElem?_eq_some_iff.1 HZ.out).1).trans HZ.out
  have z0 := blk_cell hz5 0
  have z1 := blk_frozen hz5 0
  have u3 := keepC hb5 (keepC HX2.out HVT.out)
  have u1 : w5.cell? ⟨tb, 1, none⟩ = some (.int .i64 n) := keepC hb5 (keepC HX2.out (keepC HB.out (blk_cell HT9.out 1)))
  have HZ5 := Lib.hid hz5
  have hsz : w.heap.size + 2 ≤ w1.heap.size := by
    have := HSZ.out
    rw [bx2_size] at this
    exact this
  have hlt9 : tb < w.heap.size := (Array.getElem?_eq_some_iff.1 HT9.out).1
  have ne1 : w.heap.size ≠ w1.heap.size + 1 := by omega
  have ne2 : tb ≠ w1.heap.size + 1 := by omega
  clear hb5 hz5 p0 p1
  by_cases k : n < g
  · have HE7 : Hid (E = 7) := Lib.hid (by rw [HEE.out, if_pos k])
    have kf2 : (n : Int) < (g : Int) := by omega
    clear k
    go_wp2_with fail
    go_quiet (fail)
    go_wp2
    go_ret2
    have h5 : Below w.heap.size w w5 := bt (bt HB.out HX2.out) HB5.out
    rw [HE7.out]
    exact ErrPost.plan ⟨(h5.setCell (by show w.heap.size ≤ w1.heap.size + 1; omega) _).trans ((bdraw _ _).mono (by have := h5.size; simpa [World.setCell] using this)), _, rfl⟩ (by decide)
  · have HE7 : Hid (E = 0) := Lib.hid (by rw [HEE.out, if_neg k])
    have kf2 : ¬ (n : Int) < (g : Int) := by omega
    have KF := Lib.hid k
    have hmk : ∀ (fn : Fn) (first cap : Array Value) (w : World), (Instr.makeFunc fn first cap).run Tryz.prog w = .ok (.func fn first cap) w := fun _ _ _ _ => rfl
    clear k
    go_wp2_with fail
    go_quiet (fail)
    go_wp2
    go_ret2
    have h5 : Below w.heap.size w w5 := bt (bt HB.out HX2.out) HB5.out
    have hbW : Below w.heap.size w ((w5.setCell ⟨w1.heap.size + 1, 0, none⟩ (.int .i64 g)).drewN nq) := (h5.setCell (by show w.heap.size ≤ w1.heap.size + 1; omega) _).trans ((bdraw _ _).mono (by have := h5.size; simpa [World.setCell] using this))
    rw [HE7.out]
    refine ⟨hbW, _, rfl, fun _ => ⟨81, _, rfl, enters_of Tryz.func81 (by kernel_rfl) rfl, ?_⟩⟩
    have hfar : ∀ b, b ≠ w1.heap.size + 1 → ((w5.setCell ⟨w1.heap.size + 1, 0, none⟩ (.int .i64 g)).drewN nq).heap[b]? = w5.heap[b]? := fun b hb => Below.heap_setCell w5 ⟨w1.heap.size + 1, 0, none⟩ _ b hb
    have hs2 : (bx2 w tb #[.pointer (some ⟨ub, 0, none⟩), .string nv, .pointer (some ad), .slice A l.length c]).heap.size = w.heap.size + 2 := bx2_size _ _ _
    have hs3 := HX2.out.size
    refine HR.out (by have := KF.out; omega) _ (w1.heap.size + 1) hbW ?_ ?_ w1.heap.size (by omega) ?_ (by omega) ?_
    · exact (hfar _ (by omega)).trans ((HB5.out.block _ (by omega)).trans ((HX2.out.block _ (by omega)).trans (bx2_0 w tb _)))
    · exact (hfar _ (by omega)).trans ((HB5.out.block _ (by omega)).trans ((HX2.out.block _ (by omega)).trans (bx2_1 w tb _)))
    · exact (hfar _ (by omega)).trans ((HB5.out.block _ (Array.getElem?_eq_some_iff.1 HY.out).1).trans HY.out)
    · exact blk_cell (blk_set HZ5.out 0 _) 0
set_option maxHeartbeats 2000000 in
set_option maxRecDepth 100000 in
theorem mv_gap0 (nv : ByteArray) (ad : Addr) (dt : Sh) (ln : ByteArray) (A A2 : Option Addr) (c c2 : Nat) (h : St w B tb es n i m) (hA : RdS w A l) (hl : RdS w A2 mm) (hl0 : l ≠ []) (h0 : mm ≠ []) (hln : l.length ≤ 1000) (hn : mm.length ≤ 1000) (hc2 : mm.length ≤ c2) (hs : ∀ x ∈ mm, x.size ≤ 1000) (hw : way es [] mm = 0) (hlt : ¬ l <+: mm) (hup : upV es mm = .pointer (some ⟨dt.nb, 0, none⟩)) (hpn : ptrV ((gp es mm).map (·.nb)) = .pointer none) (hln2 : mm.getLastD ByteArray.empty = ln)
    (hdd : Nd w B dt) (S' : S)
    (hR : ∀ W bm, Below w.heap.size w W → W.heap[w.heap.size]? = some (.cells #[.pointer (some ⟨tb, 0, none⟩)] 25 (0, 0)) → W.heap[w.heap.size + 1]? = some (.cells #[.pointer (some ⟨dt.nb, 0, none⟩), .string nv, .pointer (some ad), .slice A l.length c] 91 (0, 0)) → ∀ bx, w.heap.size ≤ bx → W.heap[bx]? = some (.cells #[.pointer (some ⟨dt.nb, 0, none⟩), .string ln, .pointer none, .slice A2 mm.length c2] 91 (0, 0)) → w.heap.size ≤ bm → W.cell? ⟨bm, 0, none⟩ = some (.int .i64 ((0 : Nat) : Int)) → Calls Tryz.prog 81 #[.pointer (some ⟨w.heap.size + 1, 0, none⟩), .pointer (some ⟨bx, 0, none⟩), .pointer (some ⟨w.heap.size, 0, none⟩), .pointer (some ⟨bm, 0, none⟩)] W (ActPost W B tb es n i m S')) :
    Calls Tryz.prog 41 #[.pointer (some ⟨tb, 0, none⟩), .agg #[.pointer (some ⟨dt.nb, 0, none⟩), .string nv, .pointer (some ad), .slice A l.length c], .slice A2 mm.length c2] w (PlanPost w B tb es n i m 0 S') := by
  have hb := bx2_below w tb #[.pointer (some ⟨dt.nb, 0, none⟩), .string nv, .pointer (some ad), .slice A l.length c]
  have HB := Lib.hid hb
  obtain ⟨r, hr, ht⟩ := (h.below hb).tre
  have hf := find_any A2 c2 mm (h.below hb).tr hr ht (hl.below hb) hn hs
  rw [if_pos hw, hw] at hf
  unfold spotV nmV at hf
  rw [hup, hpn, hln2] at hf
  have HF := Lib.hid hf
  have k1 : ((mm.length : Int) == 0) = false := by simp; exact h0
  have k3 : mm.length ≠ 0 := by simpa using h0
  have HV0 := Lib.hid (blk_cell (bx2_1 w tb #[.pointer (some ⟨dt.nb, 0, none⟩), .string nv, .pointer (some ad), .slice A l.length c]) 0)
  have HV1 := Lib.hid (blk_cell (bx2_1 w tb #[.pointer (some ⟨dt.nb, 0, none⟩), .string nv, .pointer (some ad), .slice A l.length c]) 1)
  have HV2 := Lib.hid (blk_cell (bx2_1 w tb #[.pointer (some ⟨dt.nb, 0, none⟩), .string nv, .pointer (some ad), .slice A l.length c]) 2)
  have HVT := Lib.hid (blk_cell (bx2_0 w tb #[.pointer (some ⟨dt.nb, 0, none⟩), .string nv, .pointer (some ad), .slice A l.length c]) 0)
  have HV := Lib.hid (blk_cell (bx2_1 w tb #[.pointer (some ⟨dt.nb, 0, none⟩), .string nv, .pointer (some ad), .slice A l.length c]) 3)
  have v0 : (bx2 w tb #[.pointer (some ⟨dt.nb, 0, none⟩), .string nv, .pointer (some ad), .slice A l.length c]).cell? ⟨w.heap.size, 0, none⟩ = _ := blk_cell (bx2_0 w tb _) 0
  unfold bx2 at v0
  have HBW := Lib.hid (fun W (hW : Below w.heap.size w W) => below_any A A2 c c2 l mm W (hA.below hW) (hl.below hW) hl0 h0 hln hn hc2)
  have HEQ := Lib.hid (fun W (hW : Below w.heap.size w W) => eq_any A A2 c c2 l mm W (hA.below hW) (hl.below hW) hl0 h0 hln hn)
  have hbo : decide (l <+: mm ∧ l ≠ mm) = false := decide_eq_false (fun h => hlt h.1)
  have hbo2 : decide (l = mm) = false := decide_eq_false (fun h => hlt (h ▸ List.prefix_rfl))
  rw [hbo] at HBW
  rw [hbo2] at HEQ
  have HR := Lib.hid hR
  have HDD := Lib.hid hdd
  obtain ⟨r9, hr9, ht9⟩ := St.cells h
  have HT9 := Lib.hid ht9
  clear hb hf hw h hl hA ht hr hs hbo hbo2 hlt hup hpn hln2 hR hdd ht9 hr9
  go_enter Tryz.func41, Tryz.ntmps41
  go_wp2_with fail
  refine HF.out.mono ?_
  rintro e w1 ⟨rfl, hb1⟩
  have HB1 := Lib.hid (bt HB.out (hb1.alloc hb1.size (Obj.cells #[.pointer (some ⟨dt.nb, 0, none⟩), .string ln, .pointer none, .slice A2 mm.length c2] 91)))
  have v3 := keepC (hb1.alloc hb1.size (Obj.cells #[.pointer (some ⟨dt.nb, 0, none⟩), .string ln, .pointer none, .slice A2 mm.length c2] 91)) HV.out
  have q0 := keepC (hb1.alloc hb1.size (Obj.cells #[.pointer (some ⟨dt.nb, 0, none⟩), .string ln, .pointer none, .slice A2 mm.length c2] 91)) HV0.out
  have q1 := keepC (hb1.alloc hb1.size (Obj.cells #[.pointer (some ⟨dt.nb, 0, none⟩), .string ln, .pointer none, .slice A2 mm.length c2] 91)) HV1.out
  have q2 := keepC (hb1.alloc hb1.size (Obj.cells #[.pointer (some ⟨dt.nb, 0, none⟩), .string ln, .pointer none, .slice A2 mm.length c2] 91)) HV2.out
  have qt := keepC (hb1.alloc hb1.size (Obj.cells #[.pointer (some ⟨dt.nb, 0, none⟩), .string ln, .pointer none, .slice A2 mm.length c2] 91)) HVT.out
  have y0 := blk_cell (Go.heap_alloc_new w1 (Obj.cells #[.pointer (some ⟨dt.nb, 0, none⟩), .string ln, .pointer none, .slice A2 mm.length c2] 91)) 0
  have y1 := blk_cell (Go.heap_alloc_new w1 (Obj.cells #[.pointer (some ⟨dt.nb, 0, none⟩), .string ln, .pointer none, .slice A2 mm.length c2] 91)) 1
  have y2 := blk_cell (Go.heap_alloc_new w1 (Obj.cells #[.pointer (some ⟨dt.nb, 0, none⟩), .string ln, .pointer none, .slice A2 mm.length c2] 91)) 2
  have y3 := blk_cell (Go.heap_alloc_new w1 (Obj.cells #[.pointer (some ⟨dt.nb, 0, none⟩), .string ln, .pointer none, .slice A2 mm.length c2] 91)) 3
  have HX1 := Lib.hid (hb1.alloc hb1.size (Obj.cells #[.pointer (some ⟨dt.nb, 0, none⟩), .string ln, .pointer none, .slice A2 mm.length c2] 91))
  have HSZ := Lib.hid hb1.size
  clear hb1
  go_wp2_with fail
  refine (HBW.out _ HB1.out).mono ?_
  rintro e w2 ⟨rfl, q, rfl⟩
  go_wp2_with fail
  refine (HEQ.out _ (bt HB1.out (bdraw _ _))).mono ?_
  rintro e w2 ⟨rfl, q2, rfl⟩
  have hx2 : Below (bx2 w tb #[.pointer (some ⟨dt.nb, 0, none⟩), .string nv, .pointer (some ad), .slice A l.length c]).heap.size (bx2 w tb #[.pointer (some ⟨dt.nb, 0, none⟩), .string nv, .pointer (some ad), .slice A l.length c]) (((w1.alloc (Obj.cells #[.pointer (some ⟨dt.nb, 0, none⟩), .string ln, .pointer none, .slice A2 mm.length c2] 91)).drewN (q + q2)).alloc (Obj.cells #[.int .i64 0] 3)) := (HX1.out.trans ((bdraw _ _).mono HX1.out.size)).alloc (by have := HX1.out.size; simpa using this) _
  have p0 := keepC hx2 HV0.out
  have p1 : (((w1.alloc (Obj.cells #[.pointer (some ⟨dt.nb, 0, none⟩), .string ln, .pointer none, .slice A2 mm.length c2] 91)).drewN (q + q2)).alloc (Obj.cells #[.int .i64 0] 3)).cell? ⟨w1.heap.size, 0, none⟩ = _ := keepC (w2 := (w1.alloc (Obj.cells #[.pointer (some ⟨dt.nb, 0, none⟩), .string ln, .pointer none, .slice A2 mm.length c2] 91)).drewN (q + q2)) ((Below.refl _ _).alloc (Nat.le_refl _) _) y0
  have HX2 := Lib.hid hx2
  have hz := al2 w1 (Obj.cells #[.pointer (some ⟨dt.nb, 0, none⟩), .string ln, .pointer none, .slice A2 mm.length c2] 91) (Obj.cells #[.int .i64 0] 3)
  obtain ⟨j67, hj67, -⟩ := Option.map_eq_some_iff.1 info67
  have hcmp : (binOp .neq 52 (.pointer (some ⟨dt.nb, 0, none⟩)) (.pointer (some ⟨dt.nb, 0, none⟩))).run Tryz.prog (((w1.alloc (Obj.cells #[.pointer (some ⟨dt.nb, 0, none⟩), .string ln, .pointer none, .slice A2 mm.length c2] 91)).drewN (q + q2)).alloc (Obj.cells #[.int .i64 0] 3)) = .ok (.bool false) _ := Lib.run_neq_ptr_same _ _ Tryz.underlying52 hj67
  have HZ := Lib.hid (show (((w1.alloc (Obj.cells #[.pointer (some ⟨dt.nb, 0, none⟩), .string ln, .pointer none, .slice A2 mm.length c2] 91)).drewN (q + q2)).alloc (Obj.cells #[.int .i64 0] 3)).heap[w1.heap.size + 1]? = _ from hz)
  have HY := Lib.hid (show (((w1.alloc (Obj.cells #[.pointer (some ⟨dt.nb, 0, none⟩), .string ln, .pointer none, .slice A2 mm.length c2] 91)).drewN (q + q2)).alloc (Obj.cells #[.int .i64 0] 3)).heap[w1.heap.size]? = _ from blk_alloc (Go.heap_alloc_new w1 (Obj.cells #[.pointer (some ⟨dt.nb, 0, none⟩), .string ln, .pointer none, .slice A2 mm.length c2] 91)) _)
  have z0 := blk_cell HZ.out 0
  have u3 := keepC hx2 HVT.out
  have u1 : (((w1.alloc (Obj.cells #[.pointer (some ⟨dt.nb, 0, none⟩), .string ln, .pointer none, .slice A2 mm.length c2] 91)).drewN (q + q2)).alloc (Obj.cells #[.int .i64 0] 3)).cell? ⟨tb, 1, none⟩ = some (.int .i64 n) := keepC hx2 (keepC HB.out (blk_cell HT9.out 1))
  have hsz : w.heap.size + 2 ≤ w1.heap.size := by
    have := HSZ.out
    rw [bx2_size] at this
    exact this
  have kf2 : ¬ (n : Int) < 0 := by omega
  have hmk : ∀ (fn : Fn) (first cap : Array Value) (w : World), (Instr.makeFunc fn first cap).run Tryz.prog w = .ok (.func fn first cap) w := fun _ _ _ _ => rfl
  clear hx2 hz hj67
  go_wp2_with fail
  go_quiet (fail)
  go_wp2
  go_ret2
  have hbW : Below w.heap.size w ((((w1.alloc (Obj.cells #[.pointer (some ⟨dt.nb, 0, none⟩), .string ln, .pointer none, .slice A2 mm.length c2] 91)).drewN (q + q2)).alloc (Obj.cells #[.int .i64 0] 3)).drewN nq) := bt (bt HB.out HX2.out) (bdraw _ _)
  refine ⟨hbW, _, rfl, fun _ => ⟨81, _, rfl, enters_of Tryz.func81 (by kernel_rfl) rfl, ?_⟩⟩
  have hs2 : (bx2 w tb #[.pointer (some ⟨dt.nb, 0, none⟩), .string nv, .pointer (some ad), .slice A l.length c]).heap.size = w.heap.size + 2 := bx2_size _ _ _
  refine HR.out _ (w1.heap.size + 1) hbW ?_ ?_ w1.heap.size (by omega) HY.out (by omega) (blk_cell HZ.out 0)
  · exact (HX2.out.block _ (by omega)).trans (bx2_0 w tb _)
  · exact (HX2.out.block _ (by omega)).trans (bx2_1 w tb _)
end
end Go.Proofs.YtpdcjdangnfeiaaGreatDoor.Uw
open Go.Proofs.YtpdcjdangnfeiaaGreatDoor.Uw
namespace Go.Proofs.YtpdcjdangnfeiaaGreatDoor.Ux
theorem way_abs (es : Es) : ∀ (p l : Path), wayA (absE es) p l = way es p l
  | _, [] => rfl
  | p, x :: r => by
    simp only [wayA, way]
    have ih := way_abs es (p ++ [x]) r
    unfold absE at ih ⊢
    cases hg : gp es p with
    | none => rfl
    | some d =>
      simp only [Option.map_some]
      show (if d.dir = true then _ else _) = _
      rw [ih]
section
variable {w : World} {B tb n i m : Nat} {es : Es} {l mm : Path}
/-- (*Tree).move -/
theorem move_any (A A2 : Option Addr) (c c2 : Nat) (h : St w B tb es n i m) (hm : m ≤ 2000) (hA : RdS w A l) (hA2 : RdS w A2 mm) (hln : l.length ≤ 1000) (hn : mm.length ≤ 1000) (hc2 : mm.length ≤ c2)
    (hsl : ∀ x ∈ l, x.size ≤ 1000) (hs : ∀ x ∈ mm, x.size ≤ 1000 ∧ nmL x.data.toList = true) (hw : way es [] l = 0) :
    Calls Tryz.prog 41 #[.pointer (some ⟨tb, 0, none⟩), spotV es l (.slice A l.length c), .slice A2 mm.length c2] w (PlanPost w B tb es n i m (moveE ⟨absE es, n, i⟩ l mm) (moveS ⟨absE es, n, i⟩ l mm)) := by
  obtain ⟨E, hE⟩ : ∃ E, moveE ⟨absE es, n, i⟩ l mm = E := ⟨_, rfl⟩
  rw [hE]
  unfold moveE at hE
  dsimp only at hE
  rw [way_abs] at hE
  cases hgl : gp es l with
  | none =>
    have ha : absE es l = none := by unfold absE; rw [hgl]; rfl
    rw [ha] at hE
    dsimp only at hE
    subst hE
    obtain ⟨pu, hpu⟩ := upV_is es l
    unfold spotV nmV
    rw [hgl, hpu]
    exact (mv_nil pu _ A A2 _ c _ c2).mono fun _ _ h => ErrPost.plan h (by decide)
  | some s =>
    have ha : absE es l = some (toN s) := by unfold absE; rw [hgl]; rfl
    rw [ha] at hE
    dsimp only at hE
    rcases path_cases l with rfl | ⟨fp, fx, rfl⟩
    · rw [if_pos (.inl rfl)] at hE
      subst hE
      rw [spot_root, hgl]
      exact (mv_root _ _ A A2 _ c _ c2).mono fun _ _ h => ErrPost.plan h (by decide)
    · obtain ⟨df, hdf, hfd⟩ := way_up (l := fp) hw rfl
      rw [spot_snoc _ hdf, hgl]
      rcases path_cases mm with rfl | ⟨tp, tx, rfl⟩
      · rw [if_pos (.inr rfl)] at hE
        subst hE
        exact (mv_root2 _ _ _ A A2 _ c c2).mono fun _ _ h => ErrPost.plan h (by decide)
      · rw [if_neg (by simp)] at hE
        by_cases hw2 : way es [] (tp ++ [tx]) = 0
        · rw [if_neg (by simpa using hw2)] at hE
          obtain ⟨dt, hdt, htd⟩ := way_up (l := tp) hw2 rfl
          have hs1 : ∀ x ∈ tp ++ [tx], x.size ≤ 1000 := fun x hx => (hs x hx).1
          by_cases hlt : fp ++ [fx] <+: tp ++ [tx] ∧ fp ++ [fx] ≠ tp ++ [tx]
          · rw [if_pos hlt] at hE
            subst hE
            exact (mv_below _ _ _ A A2 c c2 h hA hA2 (by simp) (by simp) hln hn hc2 hs1 hw2 hlt).mono fun _ _ h => ErrPost.plan h (by decide)
          · rw [if_neg hlt] at hE
            by_cases heq : fp ++ [fx] = tp ++ [tx]
            · rw [if_pos heq] at hE
              subst hE
              have hS : moveS ⟨absE es, n, i⟩ (fp ++ [fx]) (tp ++ [tx]) = ⟨absE es, n, i⟩ := by unfold moveS; rw [if_pos heq]
              rw [hS]
              exact mv_same _ _ _ A A2 c c2 h hA hA2 (by simp) (by simp) hln hn hc2 hs1 hw2 heq
            · rw [if_neg heq] at hE
              have hft : ¬ fp ++ [fx] <+: tp ++ [tx] := fun e => hlt ⟨e, heq⟩
              have hup : upV es (tp ++ [tx]) = .pointer (some ⟨dt.nb, 0, none⟩) := by
                unfold upV
                rw [if_neg (by simp), List.dropLast_concat, hdt]; rfl
              have hlast : (tp ++ [tx]).getLastD ByteArray.empty = tx := by simp
              have htx := (hs tx (by simp)).2
              have hts := (hs tx (by simp)).1
              have hfs := hsl fx (by simp)
              cases hgm : gp es (tp ++ [tx]) with
              | some xs =>
                have ha2 : absE es (tp ++ [tx]) = some (toN xs) := by unfold absE; rw [hgm]; rfl
                rw [ha2] at hE
                dsimp only at hE
                refine mv_arm E _ fx ⟨s.nb, 0, none⟩ ⟨df.nb, 0, none⟩ ⟨dt.nb, 0, none⟩ ⟨xs.nb, 0, none⟩ tx A A2 c c2 h hA hA2 (by simp) (by simp) hln hn hc2 hs1 hw2 hft hup (by rw [hgm]; rfl) hlast fun W hW => ?_
                have hSW := h.below hW
                by_cases h0 : E = 0
                · subst h0
                  exact rep_ok A A2 _ c _ c2 hSW hm hgl hgm hft hdf hfd hdt htd htx (by omega) (by omega) hE
                · exact (rep_wrong E _ _ fx tx A A2 _ c _ c2 (hSW.ok hgl) (hSW.ok hgm) hE h0).mono fun _ _ h => ErrPost.plan h h0
              | none =>
                have ha2 : absE es (tp ++ [tx]) = none := by unfold absE; rw [hgm]; rfl
                rw [ha2] at hE
                dsimp only at hE
                have e1 : (fp ++ [fx]).dropLast = fp := by simp
                have e2 : (tp ++ [tx]).dropLast = tp := by simp
                have e4 : wantA (absE es tp) = growsA (toN dt) := by unfold absE; rw [hdt]; rfl
                rw [e1, e2, e4] at hE
                have l1 := h.limp hdt
                have l0 := h.limp hdf
                have hnum := h.num
                have hact : ∀ (g : Nat), g = (if fp = tp then 0 else growsA (toN dt)) → g ≤ n → ∀ W bm, Below w.heap.size w W → W.heap[w.heap.size]? = some (.cells #[.pointer (some ⟨tb, 0, none⟩)] 25 (0, 0)) → W.heap[w.heap.size + 1]? = some (.cells #[.pointer (some ⟨df.nb, 0, none⟩), .string fx, .pointer (some ⟨s.nb, 0, none⟩), .slice A (fp ++ [fx]).length c] 91 (0, 0)) → ∀ bx, w.heap.size ≤ bx → W.heap[bx]? = some (.cells #[.pointer (some ⟨dt.nb, 0, none⟩), .string tx, .pointer none, .slice A2 (tp ++ [tx]).length c2] 91 (0, 0)) → w.heap.size ≤ bm → W.cell? ⟨bm, 0, none⟩ = some (.int .i64 g) → Calls Tryz.prog 81 #[.pointer (some ⟨w.heap.size + 1, 0, none⟩), .pointer (some ⟨bx, 0, none⟩), .pointer (some ⟨w.heap.size, 0, none⟩), .pointer (some ⟨bm, 0, none⟩)] W (ActPost W B tb es n i m (moveS ⟨absE es, n, i⟩ (fp ++ [fx]) (tp ++ [tx]))) := by
                  intro g hgd hgn W bm hW hW0 hW1 bx hbx hWx hbm hWm
                  have hSW := h.below hW
                  obtain ⟨r, hr, hT⟩ := hSW.tre
                  obtain ⟨dt1, hd1⟩ : ∃ dt1, dt1 = if fp = tp then takeSh df fx else dt := ⟨_, rfl⟩
                  have hnb : dt1.nb = dt.nb := by
                    rw [hd1]; split
                    · rename_i e; subst e; rw [hdf] at hdt; cases hdt; rfl
                    · rfl
                  have hbl : blks dt1 = blks dt := by
                    rw [hd1]; split
                    · rename_i e; subst e; rw [hdf] at hdt; cases hdt; rfl
                    · rfl
                  have hin : ∀ {q : Path} {X : Sh}, gp es q = some X → ∀ b ∈ blks X, Bk tb es b := fun hq b hb => .inr ⟨_, List.mem_map.2 ⟨(_, _), gp_mem hq, rfl⟩, hb⟩
                  have hloop : ∀ {q : Path} {X : Sh}, gp es q = some X → ∀ b ∈ [w.heap.size + 1, bx, w.heap.size, bm, tb], b ∉ blks X := by
                    intro q X hq b hb hbx2
                    by_cases e : b = tb
                    · subst e; exact ne_node hT (hSW.ok hq) hbx2
                    · have := (h.bk (hin hq b hbx2)).1
                      simp at hb
                      omega
                  have htl := (h.bk (.inl rfl : Bk tb es tb)).1
                  refine (mv_walk (sn := s.nb) (dt1 := dt1) g (hSW.ok hdf) hfd hT (by omega) (by omega) (fun w1 hN hfr => ?_) hnb ?_ ?_ ?_ ?_ (hloop hdf) (by rw [hbl]; exact hloop hdt) (fun b hb => by simp at hb; omega) (blk_cell hW1 0) (blk_cell hW1 1) (blk_cell hW1 2) (blk_cell hWx 0) (blk_cell hWx 1) (blk_cell hW0 0) hWm hgn (by omega)).mono ?_
                  · rw [hd1]
                    by_cases e : fp = tp
                    · rw [if_pos e]; exact hN
                    · rw [if_neg e]
                      have hap := nodes_apart hSW hdt hdf (fun h => e h.symm)
                      exact Tb.Ok.fr (hSW.ok hdt) hfr (hap _ (nb_mem _)) (fun hh => hap _ (mb_mem hh))
                  · rw [hd1]; split; exact hfd; exact htd
                  · rw [hd1]; split
                    · show df.slots ≤ _; omega
                    · omega
                  · rw [hd1]; split
                    · show df.data.length ≤ _; omega
                    · omega
                  · rw [hd1]; split
                    · show size (df.D.del (keyL fx)) ≤ _
                      have := size_del (k := keyL fx) (h.wf.dr fp df hdf hfd).tidy
                      omega
                    · omega
                  · rintro e w' ⟨rfl, w1, w2, a1, a2, a3, a4, a5, a6, a7, a8, a9, a10⟩
                    exact mv_end hSW hgl hgm hft hdf hfd hdt htd htx hm hr hd1 hgd a1 a2 a3 a4 a5 a6 a7 a8 a9 a10
                by_cases e : fp = tp
                · subst e
                  have : df = dt := by rw [hdf] at hdt; exact Option.some.inj hdt
                  subst this
                  rw [if_neg (by simp)] at hE
                  subst hE
                  exact mv_gap0 fx ⟨s.nb, 0, none⟩ df tx A A2 c c2 h hA hA2 (by simp) (by simp) hln hn hc2 hs1 hw2 hft hup (by rw [hgm]; rfl) hlast (h.ok hdf) _ (hact 0 (by rw [if_pos rfl]) (Nat.zero_le _))
                · have hap := nodes_apart h hdt hdf (fun h => e h.symm)
                  refine mv_gap fx ⟨s.nb, 0, none⟩ df.nb dt tx A A2 c c2 h hA hA2 (by simp) (by simp) hln hn hc2 hs1 hw2 hft hup (by rw [hgm]; rfl) hlast (growsA (toN dt)) df (h.ok hdf) rfl (fun e2 => hap _ (nb_mem _) (e2 ▸ nb_mem _)) (h.ok hdt) (grows_toN htd (by omega)) htd (by omega) (by omega) (by omega) E _ ?_ (hact _ (by rw [if_neg e]))
                  rw [← hE]
                  by_cases k : n < growsA (toN dt)
                  · rw [if_pos ⟨e, k⟩, if_pos k]
                  · rw [if_neg (fun h => k h.2), if_neg k]
        · rw [if_pos hw2] at hE
          subst hE
          exact (mv_way _ _ _ A A2 _ c c2 h hA2 (by simp) hn (fun x hx => (hs x hx).1) hw2).mono fun _ _ h => ErrPost.plan h hw2
end
end Go.Proofs.YtpdcjdangnfeiaaGreatDoor.Ux
end
