/- path.check walked: what is wrong with names, for every row of at most 1000. -/
import Derived.Test.YthgghgecpjnoiaaDoorPc
import Derived.Test.YthgghgecpjnoiaaDoorSh
import Derived.Deep.RegionHeld3
import Derived.Deep.LoopGhost
import Derived.Deep.Light
import Derived.WalkMore
import Derived.Outline
namespace Go.Proofs.YthgghgecpjnoiaaDoor.Pd
open Go.RowKit Go.Proofs.YthgghgecpjnoiaaDoor.Pb Go.Proofs.YthgghgecpjnoiaaDoor.Pc Go.Proofs.YthgghgecpjnoiaaDoor.PPath Go.Proofs.YthgghgecpjnoiaaDoorW.PrintWords Go.Proofs.YthgghgecpjnoiaaDoorW.PrintLast Go.Proofs.YthgghgecpjnoiaaDoorW.PrintMore

theorem ret_int {k : IntKind} {a b : Int} (h : a = b) : Ending.returned (.int k a) = .returned (.int k b) := by rw [h]
theorem ret_bool {a b : Bool} (h : a = b) : Ending.returned (.bool a) = .returned (.bool b) := by rw [h]
theorem bt {w w1 w2 : World} (h : Below w.heap.size w w1) (k : Below w1.heap.size w1 w2) : Below w.heap.size w w2 := h.trans (k.mono h.size)
theorem keepC {w2 w3 : World} {b o : Nat} {v : Value} (hb : Below w2.heap.size w2 w3) (h : w2.cell? ⟨b, o, none⟩ = some v) : w3.cell? ⟨b, o, none⟩ = some v :=
  (hb.cell (p := ⟨b, o, none⟩) (World.block_lt_of_cell? _ _ h)).trans h
theorem bdraw (w : World) (n : Nat) : Below w.heap.size w (w.drewN n) := ⟨rfl, rfl, rfl, Nat.le_refl _, fun _ _ => rfl⟩

/-- A row of texts that is read. -/
def RdS (w : World) (A : Option Addr) (l : List ByteArray) : Prop :=
  l = [] ∨ ∃ b o, A = some ⟨b, o, none⟩ ∧ ∀ j x, l[j]? = some x → w.cell? ⟨b, o + j, none⟩ = some (.string x)
theorem RdS.below {w w1 : World} {A : Option Addr} {l : List ByteArray} (h : RdS w A l) (hb : Below w.heap.size w w1) : RdS w1 A l := by
  rcases h with h | ⟨b, o, e, h⟩
  · exact .inl h
  · exact .inr ⟨b, o, e, fun j x hx => keepC hb (h j x hx)⟩
theorem RdS.cell {w : World} {A : Option Addr} {l : List ByteArray} (h : RdS w A l) (j : Nat) (hj : j < l.length) : ∃ b o, A = some ⟨b, o, none⟩ ∧ w.cell? ⟨b, o + j, none⟩ = some (.string l[j]) := by
  rcases h with rfl | ⟨b, o, e, h⟩
  · exact absurd hj (by simp)
  · exact ⟨b, o, e, h j _ (List.getElem?_eq_getElem hj)⟩

theorem name_any (s : ByteArray) (w : World) : Calls Tryd.prog 59 #[.string s] w fun e w' => e = .returned (.bool (nmL (tl s))) ∧ Below w.heap.size w w' :=
  (dir_Name.calls 100 s _ w (name_eq s 100 (by decide)).1).mono fun _ _ ⟨he, hd⟩ => ⟨he, by obtain ⟨⟨n, rfl⟩⟩ := hd; exact bdraw _ _⟩

set_option maxHeartbeats 1000000 in
theorem check_any (A : Option Addr) (c : Nat) (l : List ByteArray) (w : World) (hr : RdS w A l) (hl : l.length ≤ 1000) :
    Calls Tryd.prog 48 #[.slice A l.length c] w fun e w' => e = .returned (.int .i64 (chk (l.map tl))) ∧ Below w.heap.size w w' := by
  have HR := Lib.hid hr
  have hL : ((l.length : Nat) : Int) ≤ 1000 := by omega
  clear hr
  go_enter Tryd.func48, Tryd.ntmps48
  go_wp2_with fail
  go_step3
  go_wp2_with fail
  go_step3
  go_wp2_with fail
  go_loopw [3, 8] (fun bd i wr => ∃ k : Nat, k ≤ l.length ∧ bd = .bool false ∧ i = .int .i64 k ∧ Hid (((l.take k).map tl).all nmL = true) ∧ Hid (Below w.heap.size w wr)) (fun _ i _ => l.length - (intOf i).toNat)
  case atStart => exact ⟨0, Nat.zero_le _, rfl, rfl, Lib.hid (by simp), Lib.hid (Below.refl _ _)⟩
  case round =>
    obtain ⟨k, hk, rfl, rfl, HA, HB⟩ := hrel
    by_cases hlt : k < l.length
    · obtain ⟨b, o, rfl, hc⟩ := (HR.out.below HB.out).cell k hlt
      have hts : Hid (((l.take (k + 1)).map tl).all nmL = nmL (tl l[k])) := Lib.hid (by
        rw [List.take_succ_eq_append_getElem hlt, List.map_append, List.all_append, HA.out]; simp)
      by_cases hn : nmL (tl l[k]) = true
      · have HN := Lib.hid hn
        generalize l[k] = x at hc hn HN hts
        go_wp2_with fail
        refine (name_any x _).mono ?_
        rintro e w2 ⟨rfl, hb⟩
        rw [HN.out]
        have HB2 := Lib.hid (bt HB.out hb)
        clear hb
        go_wp2
        go_roundw
        case rel =>
          go_light
          exact ⟨k + 1, by omega, rfl, by go_num, Lib.hid (by rw [hts.out, HN.out]), HB2⟩
        case measure =>
          go_light
          simp [intOf]; omega
      · have hF : Hid (chk (l.map tl) = 12) := Lib.hid (by
          unfold chk
          rw [if_neg]
          intro h
          exact hn (List.all_eq_true.1 h _ (List.mem_map.2 ⟨_, List.getElem_mem hlt, rfl⟩)))
        have HN : Hid (nmL (tl l[k]) = false) := Lib.hid (by simpa using hn)
        generalize l[k] = x at hc hn HN hts
        go_wp2_with fail
        refine (name_any x _).mono ?_
        rintro e w2 ⟨rfl, hb⟩
        rw [HN.out]
        have HB2 := Lib.hid (bt HB.out hb)
        clear hb
        go_wp2
        rw [Exit.noGoto_ret]
        go_ret
        exact ⟨ret_int hF.out.symm, HB2.out⟩
    · have hall : Hid ((l.map tl).all nmL = true) := Lib.hid (by
        have h := HA.out
        rwa [List.take_of_length_le (by omega)] at h)
      by_cases h8 : (8 : Int) < l.length
      · have hF : Hid (chk (l.map tl) = 5) := Lib.hid (by unfold chk; rw [if_pos hall.out, if_pos (by simp; omega)])
        go_wp2
        rw [Exit.noGoto_ret]
        go_ret
        exact ⟨ret_int hF.out.symm, HB.out⟩
      · have hF : Hid (chk (l.map tl) = 0) := Lib.hid (by unfold chk; rw [if_pos hall.out, if_neg (by simp; omega)])
        go_wp2
        go_ret
        exact ⟨ret_int hF.out.symm, HB.out⟩

theorem cell_of_block {w : World} {g : Nat} {cs : Array Value} {t : TypeId} {fr : Nat × Nat} (h : w.heap[g]? = some (.cells cs t fr)) (i : Nat) : w.cell? ⟨g, i, none⟩ = cs[i]? := by simp [World.cell?, h]
theorem rdS_new (w : World) (ps : List ByteArray) : RdS (w.alloc (.cells (ps.map Value.string).toArray 9)) (some ⟨w.heap.size, 0, none⟩) ps :=
  .inr ⟨_, 0, rfl, fun j x hj => by rw [cell_of_block (heap_alloc_new w _)]; simp [hj]⟩
/-- What path.Split leaves: the names, in new memory or none, and what is wrong. -/
def SplitPost (l : List UInt8) (w : World) (e : Ending) (w' : World) : Prop :=
  ∃ A c, e = .returned (.tuple #[.slice A ((splitL l).1.map tb).length c, .int .i64 (splitL l).2]) ∧ RdS w' A ((splitL l).1.map tb) ∧ ((splitL l).1.map tb).length ≤ c ∧ Below w.heap.size w w'

theorem splitPost_none {l : List UInt8} {w w' : World} {e : Ending} {x : Int} (h : splitL l = ([], x)) (he : e = .returned (.tuple #[.slice none 0 0, .int .i64 x])) (hb : Below w.heap.size w w') : SplitPost l w e w' := by
  refine ⟨none, 0, ?_, ?_, ?_, hb⟩
  · rw [h]; exact he
  · rw [h]; exact .inl rfl
  · rw [h]; simp

set_option maxHeartbeats 1000000 in
theorem split_any (s : ByteArray) (m : Int) (w : World) (hm : w.cell? ⟨0, 0, none⟩ = some (.int .i64 m)) :
    Calls Tryd.prog 29 #[.string s] w (SplitPost (tl s) w) := by
  have HM := Lib.hid hm
  clear hm
  by_cases c1 : (256 : Int) < s.size
  · have HF : Hid (splitL (tl s) = ([], 5)) := Lib.hid (by unfold splitL; rw [if_pos (by rw [tl_len]; omega)])
    go_enter Tryd.func29, Tryd.ntmps29
    go_wp2
    go_ret2
    exact splitPost_none HF.out rfl (Below.refl _ _)
  have hlen : ¬ (tl s).length > 256 := by rw [tl_len]; omega
  cases hs : tl s with
  | nil =>
    have HF : Hid (splitL (tl s) = ([], 12)) := Lib.hid (by rw [hs]; rfl)
    have e1 : Lib.hasPrefix s.data.toList (⟨#[47]⟩ : ByteArray).data.toList = false := by rw [show s.data.toList = [] from hs]; rfl
    rw [← hs]
    have E1 := Lib.hid e1
    clear hs e1 hlen
    go_enter Tryd.func29, Tryd.ntmps29
    go_wp2_with fail
    refine (Tryd.strings_CutPrefix _ _ _).mono ?_
    rintro e w' ⟨rfl, rfl⟩
    rw [E1.out]
    go_wp2
    go_ret2
    exact splitPost_none HF.out rfl (Below.refl _ _)
  | cons a r =>
    by_cases c2 : a = 47
    rotate_left
    · have HF : Hid (splitL (tl s) = ([], 12)) := Lib.hid (by rw [hs] at hlen ⊢; unfold splitL; rw [if_neg hlen]; simp [c2])
      have e1 : Lib.hasPrefix s.data.toList (⟨#[47]⟩ : ByteArray).data.toList = false := by rw [show s.data.toList = a :: r from hs]; simp [Lib.hasPrefix, List.isPrefixOf, Ne.symm c2]
      rw [← hs]
      have E1 := Lib.hid e1
      clear hs e1 hlen c2
      go_enter Tryd.func29, Tryd.ntmps29
      go_wp2_with fail
      refine (Tryd.strings_CutPrefix _ _ _).mono ?_
      rintro e w' ⟨rfl, rfl⟩
      rw [E1.out]
      go_wp2
      go_ret2
      exact splitPost_none HF.out rfl (Below.refl _ _)
    subst c2
    have e1 : Lib.hasPrefix s.data.toList (⟨#[47]⟩ : ByteArray).data.toList = true := by rw [show s.data.toList = 47 :: r from hs]; simp [Lib.hasPrefix, List.isPrefixOf]
    have e2 : Lib.trimPrefix s.data.toList (⟨#[47]⟩ : ByteArray).data.toList = r := by rw [show s.data.toList = 47 :: r from hs]; simp [Lib.trimPrefix, Lib.hasPrefix, List.isPrefixOf]
    by_cases c3 : r = []
    · have HF : Hid (splitL (tl s) = ([], 0)) := Lib.hid (by rw [hs] at hlen ⊢; unfold splitL; rw [if_neg hlen]; simp [c3])
      rw [← hs]
      have E1 := Lib.hid e1
      have E2 := Lib.hid (e2.trans c3)
      clear hs e1 e2 hlen c3
      go_enter Tryd.func29, Tryd.ntmps29
      go_wp2_with fail
      refine (Tryd.strings_CutPrefix _ _ _).mono ?_
      rintro e w' ⟨rfl, rfl⟩
      rw [E1.out, E2.out]
      go_wp2
      go_ret2
      exact splitPost_none HF.out rfl (Below.refl _ _)
    have hr : (tb r).size ≤ 256 := by rw [← tl_len, tl_tb]; rw [hs] at hlen; simp at hlen; omega
    obtain ⟨ps, hps⟩ : ∃ ps, Lib.splitB ⟨#[47]⟩ 0 (Lib.countB (tb r) ⟨#[47]⟩) (tb r) = ps := ⟨_, rfl⟩
    have hmap : ps.map tl = cut r := by
      rw [← hps]
      have := Lib.splitB_data (⟨#[47]⟩ : ByteArray) 0 (Lib.countB (tb r) ⟨#[47]⟩) (tb r)
      rw [show (fun x : ByteArray => x.data.toList) = tl from rfl] at this
      rw [this]
      have hc : Lib.countB (tb r) ⟨#[47]⟩ = r.count 47 := by
        show Lib.count (tl (tb r)) [47] = _
        rw [tl_tb, Lib.count_one]
      rw [hc]
      show Lib.splitK [47] 0 _ (tl (tb r)) = _
      rw [tl_tb, splitK_cut]
    have hlenps : ps.length = Lib.countB (tb r) ⟨#[47]⟩ + 1 := by rw [← hps]; exact Lib.splitB_all _ (by decide) 0 _ _ rfl
    have hsplit := fun W (hW : W.cell? ⟨0, 0, none⟩ = some (.int .i64 m)) => Tryd.strings_Split (tb r) ⟨#[47]⟩ m W (by omega) hW (by decide)
    rw [← hlenps, hps] at hsplit
    have hl9 : ps.length ≤ 1000 := by
      have := Lib.countB_le (⟨#[47]⟩ : ByteArray) (by decide) (tb r).size (tb r) (Nat.le_refl _)
      omega
    have hsp : splitL (tl s) = if chk (ps.map tl) = 0 then (ps.map tl, 0) else ([], chk (ps.map tl)) := by
      rw [hmap, hs]
      rw [hs] at hlen
      unfold splitL chk
      rw [if_neg hlen]
      dsimp only
      rw [if_neg (show ¬ ((47 : UInt8) ≠ 47) by simp), if_neg c3]
      by_cases d1 : (cut r).all nmL = true
      · rw [if_pos d1, if_pos d1]
        by_cases d2 : (cut r).length > 8
        · rw [if_pos d2, if_pos d2]; rfl
        · rw [if_neg d2, if_neg d2]; rfl
      · rw [if_neg d1, if_neg d1]; rfl
    have n1 : (tb r).toList.isEmpty = false := by rw [Lib.toList_data, show (tb r).data.toList = r from tl_tb r]; simpa using c3
    rw [← hs]
    have e2' : (⟨(Lib.trimPrefix s.data.toList (⟨#[47]⟩ : ByteArray).data.toList).toArray⟩ : ByteArray) = tb r := by rw [e2]; rfl
    have E1 := Lib.hid e1
    have E2 := Lib.hid e2'
    have HSP := Lib.hid hsp
    have HS := Lib.hid hsplit
    clear hs e1 e2 e2' hlen c3 hsp hsplit hmap hlenps hps hr
    generalize tb r = R at E2 HS n1
    by_cases k : chk (ps.map tl) = 0
    · have HF : Hid (splitL (tl s) = (ps.map tl, 0)) := Lib.hid (by rw [HSP.out, if_pos k])
      have HK := Lib.hid k
      clear k HSP
      go_enter Tryd.func29, Tryd.ntmps29
      go_wp2_with fail
      refine (Tryd.strings_CutPrefix _ _ _).mono ?_
      rintro e w' ⟨rfl, rfl⟩
      rw [E1.out, E2.out]
      go_wp2_with fail
      refine (HS.out _ HM.out).mono ?_
      rintro e w' ⟨rfl, rfl⟩
      go_wp2_with fail
      refine (check_any _ _ ps _ (rdS_new _ ps) hl9).mono ?_
      rintro e w2 ⟨rfl, hb⟩
      rw [HK.out]
      have hB := Lib.hid (((Below.refl _ _).alloc (Nat.le_refl _) (Obj.cells (ps.map Value.string).toArray 9)).trans (hb.mono (by simp)))
      have hR := Lib.hid ((rdS_new w' ps).below hb)
      clear hb
      go_wp2
      go_ret2
      exact ⟨_, _, by rw [HF.out, map_tb_tl]; rfl, by rw [HF.out, map_tb_tl]; exact hR.out, by rw [HF.out, map_tb_tl]; exact Nat.le_refl _, hB.out⟩
    · have HF : Hid (splitL (tl s) = ([], chk (ps.map tl))) := Lib.hid (by rw [HSP.out, if_neg k])
      have k' : (chk (ps.map tl) != 0) = true := by simpa using k
      clear k HSP
      go_enter Tryd.func29, Tryd.ntmps29
      go_wp2_with fail
      refine (Tryd.strings_CutPrefix _ _ _).mono ?_
      rintro e w' ⟨rfl, rfl⟩
      rw [E1.out, E2.out]
      go_wp2_with fail
      refine (HS.out _ HM.out).mono ?_
      rintro e w' ⟨rfl, rfl⟩
      go_wp2_with fail
      refine (check_any _ _ ps _ (rdS_new _ ps) hl9).mono ?_
      rintro e w2 ⟨rfl, hb⟩
      have hB := Lib.hid (((Below.refl _ _).alloc (Nat.le_refl _) (Obj.cells (ps.map Value.string).toArray 9)).trans (hb.mono (by simp)))
      clear hb
      go_wp2
      go_ret2
      exact splitPost_none HF.out rfl hB.out
end Go.Proofs.YthgghgecpjnoiaaDoor.Pd
