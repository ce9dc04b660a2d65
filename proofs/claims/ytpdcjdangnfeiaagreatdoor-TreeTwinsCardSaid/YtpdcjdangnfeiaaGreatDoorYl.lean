/- DERIVED: THE SHELF's CONTRACTS AT THIS DUMP, IN PLAIN WORDS (tools/lay-plain.mjs out of 'YtpdcjdangnfeiaaGreatDoorIt1.lean', which tools/lay-shelf.mjs wrote): THE SAME DECLARATIONS UNDER THE SAME NAMES: 'import', 'namespace', 'open', 'def', 'theorem' AND NOTHING ELSE: no command of the shelf's: FOR A HAND-IN. Each laying: the table of numbers ('.._ren') and one theorem, a field a fact of the dump's own or the kernel's comparison; each contract: ONE APPLICATION. info, Read, Stat, List walked. List walked: the names of a directory, sorted. A tree in memory as a plain tree: each call's answer out of the plain tree. known, the plain part and the walk. -/
import Derived.Shelf.SlIter.Nil
import Derived.Shelf.SortM.Plain
import Derived.Shelf.SortM.SortNone
import Derived.Test.YtpdcjdangnfeiaaGreatDoorProg
import Derived.Test.YtpdcjdangnfeiaaGreatDoorYk
import Derived.Lib.SlBytesConst
section
open Go.RowKit Go.Maps Go.Sort Go.Shelf
namespace Go.Proofs
def Tryz.keys34_ren : Go.Shelf.Ren := ⟨fun | 7 => 34 | 10 => 62 | n => n, fun | 23 => 83 | 26 => 9 | 3 => 52 | 28 => 88 | 0 => 0 | 27 => 87 | 33 => 98 | 4 => 4 | n => n, fun | n => n⟩
theorem Tryz.keys34 : Go.Proofs.SlLaysZ.n7 Tryz.prog Tryz.keys34_ren := {
  mixed := by kernel_rfl
  f7 := ⟨Tryz.f34.name, by decide, Tryz.func34.trans (congrArg some (by kernel_rfl))⟩
  f10 := ⟨Tryz.f62.name, by decide, Tryz.func62.trans (congrArg some (by kernel_rfl))⟩
  t0 := Tryz.underlying0
  a0 := Tryz.isAgg0
  z0 := Tryz.sizeOf0
  v0 := Tryz.zeroValue0
  t4 := Tryz.underlying4
  a4 := Tryz.isAgg4
  z4 := Tryz.sizeOf4
  v4 := Tryz.zeroValue4
  t23 := Tryz.underlying83
  a23 := Tryz.isAgg83
  z23 := Tryz.sizeOf83
  v23 := Tryz.zeroValue83
  t26 := Tryz.underlying9
  a26 := Tryz.isAgg9
  z26 := Tryz.sizeOf9
  v26 := Tryz.zeroValue9
  t27 := Tryz.underlying87
  a27 := Tryz.isAgg87
  z27 := Tryz.sizeOf87
  v27 := Tryz.zeroValue87
  t28 := Tryz.underlying88
  a28 := Tryz.isAgg88
  z28 := Tryz.sizeOf88
  v28 := Tryz.zeroValue88
  t33 := Tryz.underlying98
  a33 := Tryz.isAgg98
  z33 := Tryz.sizeOf98
  v33 := Tryz.zeroValue98 }
def Tryz.sorted33_ren : Go.Shelf.Ren := ⟨fun | 6 => 33 | 8 => 60 | 9 => 61 | 11 => 89 | 13 => 91 | 12 => 90 | 23 => 109 | 24 => 110 | 14 => 100 | 15 => 101 | 16 => 102 | 17 => 103 | 18 => 104 | 19 => 105 | 20 => 106 | 21 => 107 | 22 => 108 | 25 => 116 | 26 => 117 | 27 => 118 | 28 => 119 | 29 => 120 | 30 => 121 | 31 => 126 | n => n, fun | 26 => 9 | 28 => 88 | 24 => 47 | 0 => 0 | 3 => 3 | 37 => 142 | 48 => 157 | 50 => 159 | 4 => 4 | 40 => 149 | 39 => 148 | 45 => 154 | 5 => 5 | 9 => 9 | 51 => 163 | 55 => 167 | 57 => 173 | 58 => 50 | 33 => 98 | n => n, fun | n => n⟩
theorem Tryz.sorted33 : Go.Proofs.SlLaysZ.n6 Tryz.prog Tryz.sorted33_ren := {
  mixed := by kernel_rfl
  f6 := ⟨Tryz.f33.name, by decide, Tryz.func33.trans (congrArg some (by kernel_rfl))⟩
  f8 := ⟨Tryz.f60.name, by decide, Tryz.func60.trans (congrArg some (by kernel_rfl))⟩
  f11 := ⟨Tryz.f89.name, by decide, Tryz.func89.trans (congrArg some (by kernel_rfl))⟩
  t0 := Tryz.underlying0
  a0 := Tryz.isAgg0
  z0 := Tryz.sizeOf0
  v0 := Tryz.zeroValue0
  t24 := Tryz.underlying47
  a24 := Tryz.isAgg47
  z24 := Tryz.sizeOf47
  v24 := Tryz.zeroValue47
  t26 := Tryz.underlying9
  a26 := Tryz.isAgg9
  z26 := Tryz.sizeOf9
  v26 := Tryz.zeroValue9
  t28 := Tryz.underlying88
  a28 := Tryz.isAgg88
  z28 := Tryz.sizeOf88
  v28 := Tryz.zeroValue88
  i26 := by kernel_rfl }
def Tryz.sort61_ren : Go.Shelf.Ren := ⟨fun | 6 => 61 | 8 => 91 | 9 => 90 | 19 => 109 | 20 => 110 | 21 => 100 | 22 => 101 | 23 => 102 | 24 => 103 | 25 => 104 | 26 => 105 | 27 => 106 | 28 => 107 | 29 => 108 | 36 => 116 | 31 => 117 | 32 => 118 | 37 => 119 | 38 => 120 | 39 => 121 | 41 => 126 | n => n, fun | 27 => 47 | 29 => 9 | 3 => 3 | 32 => 142 | 26 => 47 | 0 => 0 | 44 => 157 | 46 => 159 | 4 => 4 | 36 => 149 | 35 => 148 | 41 => 154 | 5 => 5 | 9 => 9 | 53 => 163 | 57 => 167 | 63 => 173 | 64 => 50 | n => n, fun | n => n⟩
theorem Tryz.sort61 : Go.Proofs.SlLaysM.n6 Tryz.prog Tryz.sort61_ren := {
  mixed := by kernel_rfl
  f6 := ⟨Tryz.f61.name, by decide, Tryz.func61.trans (congrArg some (by kernel_rfl))⟩
  f8 := Tryz.func91.trans (congrArg some (by kernel_rfl))
  f9 := ⟨Tryz.f90.name, by decide, Tryz.func90.trans (congrArg some (by kernel_rfl))⟩
  f19 := Tryz.func109.trans (congrArg some (by kernel_rfl))
  f20 := Tryz.func110.trans (congrArg some (by kernel_rfl))
  f21 := ⟨Tryz.f100.name, by decide, Tryz.func100.trans (congrArg some (by kernel_rfl))⟩
  f22 := ⟨Tryz.f101.name, by decide, Tryz.func101.trans (congrArg some (by kernel_rfl))⟩
  f23 := ⟨Tryz.f102.name, by decide, Tryz.func102.trans (congrArg some (by kernel_rfl))⟩
  f24 := ⟨Tryz.f103.name, by decide, Tryz.func103.trans (congrArg some (by kernel_rfl))⟩
  f25 := ⟨Tryz.f104.name, by decide, Tryz.func104.trans (congrArg some (by kernel_rfl))⟩
  f26 := ⟨Tryz.f105.name, by decide, Tryz.func105.trans (congrArg some (by kernel_rfl))⟩
  f27 := ⟨Tryz.f106.name, by decide, Tryz.func106.trans (congrArg some (by kernel_rfl))⟩
  f28 := ⟨Tryz.f107.name, by decide, Tryz.func107.trans (congrArg some (by kernel_rfl))⟩
  f29 := ⟨Tryz.f108.name, by decide, Tryz.func108.trans (congrArg some (by kernel_rfl))⟩
  f31 := Tryz.func117.trans (congrArg some (by kernel_rfl))
  f32 := Tryz.func118.trans (congrArg some (by kernel_rfl))
  f36 := ⟨Tryz.f116.name, by decide, Tryz.func116.trans (congrArg some (by kernel_rfl))⟩
  f37 := ⟨Tryz.f119.name, by decide, Tryz.func119.trans (congrArg some (by kernel_rfl))⟩
  f38 := ⟨Tryz.f120.name, by decide, Tryz.func120.trans (congrArg some (by kernel_rfl))⟩
  f39 := ⟨Tryz.f121.name, by decide, Tryz.func121.trans (congrArg some (by kernel_rfl))⟩
  f41 := ⟨Tryz.f126.name, by decide, Tryz.func126.trans (congrArg some (by kernel_rfl))⟩
  t0 := Tryz.underlying0
  a0 := Tryz.isAgg0
  z0 := Tryz.sizeOf0
  v0 := Tryz.zeroValue0
  t3 := Tryz.underlying3
  a3 := Tryz.isAgg3
  z3 := Tryz.sizeOf3
  v3 := Tryz.zeroValue3
  t4 := Tryz.underlying4
  a4 := Tryz.isAgg4
  z4 := Tryz.sizeOf4
  v4 := Tryz.zeroValue4
  t5 := Tryz.underlying5
  a5 := Tryz.isAgg5
  z5 := Tryz.sizeOf5
  v5 := Tryz.zeroValue5
  t9 := Tryz.underlying9
  a9 := Tryz.isAgg9
  z9 := Tryz.sizeOf9
  v9 := Tryz.zeroValue9
  t26 := Tryz.underlying47
  a26 := Tryz.isAgg47
  z26 := Tryz.sizeOf47
  v26 := Tryz.zeroValue47
  t27 := Tryz.underlying47
  a27 := Tryz.isAgg47
  z27 := Tryz.sizeOf47
  v27 := Tryz.zeroValue47
  t29 := Tryz.underlying9
  a29 := Tryz.isAgg9
  z29 := Tryz.sizeOf9
  v29 := Tryz.zeroValue9
  t32 := Tryz.underlying142
  a32 := Tryz.isAgg142
  z32 := Tryz.sizeOf142
  v32 := Tryz.zeroValue142
  t35 := Tryz.underlying148
  a35 := Tryz.isAgg148
  z35 := Tryz.sizeOf148
  v35 := Tryz.zeroValue148
  t36 := Tryz.underlying149
  a36 := Tryz.isAgg149
  z36 := Tryz.sizeOf149
  v36 := Tryz.zeroValue149
  t41 := Tryz.underlying154
  a41 := Tryz.isAgg154
  z41 := Tryz.sizeOf154
  v41 := Tryz.zeroValue154
  t44 := Tryz.underlying157
  a44 := Tryz.isAgg157
  z44 := Tryz.sizeOf157
  v44 := Tryz.zeroValue157
  t46 := Tryz.underlying159
  a46 := Tryz.isAgg159
  z46 := Tryz.sizeOf159
  v46 := Tryz.zeroValue159
  t53 := Tryz.underlying163
  a53 := Tryz.isAgg163
  z53 := Tryz.sizeOf163
  v53 := Tryz.zeroValue163
  t57 := Tryz.underlying167
  a57 := Tryz.isAgg167
  z57 := Tryz.sizeOf167
  v57 := Tryz.zeroValue167
  t63 := Tryz.underlying173
  a63 := Tryz.isAgg173
  z63 := Tryz.sizeOf173
  v63 := Tryz.zeroValue173
  t64 := Tryz.underlying50
  a64 := Tryz.isAgg50
  z64 := Tryz.sizeOf50
  v64 := Tryz.zeroValue50 }
/-- slices.Sort's two contracts at this dump, at the fence that asks nothing. -/
theorem Tryz.sorts33 (m : Nat) : AnyZ.SortsIn Tryz.prog Tryz.sorted33_ren Fence.wide m :=
  ⟨fun blk off cap ss W hH hblk hsz => callsIn_wide.2 (AnyM.slices_Sort_string Tryz.sort61 blk off cap ss W hH hblk hsz),
   fun p cap W => callsIn_wide.2 (AnyM.slices_Sort_string_none Tryz.sort61 p cap W)⟩
/-- **maps.Keys[map[string]*mailbag/tree.node,string,*mailbag/tree.node], at whatever map, the nil one too:** a function value over ONE NEW BLOCK, which holds the map. -/
theorem Tryz.maps_Keys_34 (mb : Option Nat) (W : World) : CallsIn Fence.wide 5 Tryz.prog 34 #[.map mb] W fun e w' => e = .returned (.func (.func 62) #[] #[.pointer (some ⟨W.heap.size, 0, none⟩)]) ∧ w' = W.alloc (.cells #[.map mb] 83) :=
  AnyZ.keys_in Tryz.keys34 Fence.wide 5 trivial rfl mb W
set_option maxHeartbeats 1000000 in
/-- **slices.Sorted[string] AT WHAT maps.Keys[map[string]*mailbag/tree.node,string,*mailbag/tree.node] HANDED BACK FOR A MAP THAT IS NOT nil** ('w': the world AHEAD of maps.Keys' call): A NEW SLICE THAT HOLDS THE MAP's KEYS, SORTED; nil just where it has none; nothing that lay before has turned. -/
theorem Tryz.slices_Sorted_keys_33_34 {H : Type} (b nn : Nat) (D0 : DataW H) (R : Value → Option (DataW H × List MemPlace)) (w : World) (hown : w.ownsMap Tryz.prog 9 R b nn D0) (hmax : Maps.size D0 ≤ maxLen) (hbytes : Maps.size D0 * 16 ≤ 140737488355328) :
    CallsIn Fence.wide 5 Tryz.prog 33 #[.func (.func 62) #[] #[.pointer (some ⟨w.heap.size, 0, none⟩)]] (w.alloc (.cells #[.map (some b)] 83)) fun e w' => ∃ (v : Value) (ss : List (List UInt8)), e = .returned v ∧ ss.Perm (strKeys D0) ∧
      w'.ownsRow (w.alloc (.cells #[.map (some b)] 83)).heap.size 9 1 v ss.length ((ss.mergeSort (fun x y => decide (x ≤ y))).map encStr) ∧ (v = .slice none 0 0 ↔ ss = []) ∧ Below (w.alloc (.cells #[.map (some b)] 83)).heap.size (w.alloc (.cells #[.map (some b)] 83)) w' := by
  have hbl := hown.lt
  have hseq : SeqGives Fence.wide 2 Tryz.prog 62 #[.pointer (some ⟨w.heap.size, 0, none⟩)] encStr (fun ss => ss.Perm (strKeys D0)) (Maps.size D0) (w.alloc (.cells #[.map (some b)] 83)) :=
    AnyZ.keys_gives (ρ := Tryz.keys34_ren) { Tryz.keys34 with } Fence.wide _ trivial rfl (by omega) w.heap.size b nn D0 _ (by simp) (by simp) (by
      obtain ⟨es, clock, hb, Ft, hs, hD⟩ := hown
      exact ⟨es, clock, (Below.heap_alloc _ _ b hbl).trans hb, Ft, hs, hD⟩)
  exact AnyZ.sorted_in Tryz.sorted33 Fence.wide 5 trivial trivial trivial trivial rfl (by omega) (Tryz.sorts33 _) (enters_of Tryz.func61 (by kernel_rfl) rfl) 62 #[.pointer (some ⟨w.heap.size, 0, none⟩)] trivial (enters_of Tryz.func62 (by kernel_rfl) rfl) _ _ hmax hbytes _ hseq
set_option maxHeartbeats 1000000 in
/-- **.. AND FOR THE nil MAP: nil.** -/
theorem Tryz.slices_Sorted_keys_nil_33_34 (w : World) :
    CallsIn Fence.wide 5 Tryz.prog 33 #[.func (.func 62) #[] #[.pointer (some ⟨w.heap.size, 0, none⟩)]] (w.alloc (.cells #[.map none] 83)) fun e w' => ∃ (v : Value) (ss : List (List UInt8)), e = .returned v ∧ ss = [] ∧
      w'.ownsRow (w.alloc (.cells #[.map none] 83)).heap.size 9 1 v ss.length ((ss.mergeSort (fun x y => decide (x ≤ y))).map encStr) ∧ (v = .slice none 0 0 ↔ ss = []) ∧ Below (w.alloc (.cells #[.map none] 83)).heap.size (w.alloc (.cells #[.map none] 83)) w' := by
  have hseq : SeqGives Fence.wide 2 Tryz.prog 62 #[.pointer (some ⟨w.heap.size, 0, none⟩)] encStr (fun ss : List (List UInt8) => ss = []) 0 (w.alloc (.cells #[.map none] 83)) :=
    AnyZ.keys_gives_nil (ρ := Tryz.keys34_ren) { Tryz.keys34 with } Fence.wide _ trivial rfl w.heap.size _ (by simp) (by simp)
  exact AnyZ.sorted_in Tryz.sorted33 Fence.wide 5 trivial trivial trivial trivial rfl (by omega) (Tryz.sorts33 _) (enters_of Tryz.func61 (by kernel_rfl) rfl) 62 #[.pointer (some ⟨w.heap.size, 0, none⟩)] trivial (enters_of Tryz.func62 (by kernel_rfl) rfl) _ 0 (Nat.zero_le _) (by omega) _ hseq
end Go.Proofs
end
section
open Go Go.Maps Go.RowKit Go.Proofs.YtpdcjdangnfeiaaGreatDoor.Pb Go.Proofs.YtpdcjdangnfeiaaGreatDoor.PPth Go.Proofs.YtpdcjdangnfeiaaGreatDoorW.PrintWords Go.Proofs.YtpdcjdangnfeiaaGreatDoorW.PrintLast Go.Proofs.YtpdcjdangnfeiaaGreatDoorW.PrintMore Go.Proofs.YtpdcjdangnfeiaaGreatDoor.Ta Go.Proofs.YtpdcjdangnfeiaaGreatDoor.Tb Go.Proofs.YtpdcjdangnfeiaaGreatDoor.Tc Go.Proofs.YtpdcjdangnfeiaaGreatDoor.Te Go.Proofs.YtpdcjdangnfeiaaGreatDoor.Tf Go.Proofs.YtpdcjdangnfeiaaGreatDoor.Qa Go.Proofs.YtpdcjdangnfeiaaGreatDoor.Qb Go.Proofs.YtpdcjdangnfeiaaGreatDoor.Qc Go.Proofs.YtpdcjdangnfeiaaGreatDoor.Qd Go.Proofs.YtpdcjdangnfeiaaGreatDoor.Qe Go.Proofs.YtpdcjdangnfeiaaGreatDoor.Qf Go.Proofs.YtpdcjdangnfeiaaGreatDoor.Ua Go.Proofs.YtpdcjdangnfeiaaGreatDoor.Ub Go.Proofs.YtpdcjdangnfeiaaGreatDoor.Uc Go.Proofs.YtpdcjdangnfeiaaGreatDoor.Ud Go.Proofs.YtpdcjdangnfeiaaGreatDoor.Ue Go.Proofs.YtpdcjdangnfeiaaGreatDoor.Uf Go.Proofs.YtpdcjdangnfeiaaGreatDoor.Ba Go.Proofs.YtpdcjdangnfeiaaGreatDoor.Ug Go.Proofs.YtpdcjdangnfeiaaGreatDoor.Uh Go.Proofs.YtpdcjdangnfeiaaGreatDoor.Ui Go.Proofs.YtpdcjdangnfeiaaGreatDoor.Uj Go.Proofs.YtpdcjdangnfeiaaGreatDoor.Uk Go.Proofs.YtpdcjdangnfeiaaGreatDoor.Ul Go.Proofs.YtpdcjdangnfeiaaGreatDoor.Um Go.Proofs.YtpdcjdangnfeiaaGreatDoor.Un Go.Proofs.YtpdcjdangnfeiaaGreatDoor.Uo Go.Proofs.YtpdcjdangnfeiaaGreatDoor.Up Go.Proofs.YtpdcjdangnfeiaaGreatDoor.Uq Go.Proofs.YtpdcjdangnfeiaaGreatDoor.Ur Go.Proofs.YtpdcjdangnfeiaaGreatDoor.Us Go.Proofs.YtpdcjdangnfeiaaGreatDoor.Ut Go.Proofs.YtpdcjdangnfeiaaGreatDoor.Uu Go.Proofs.YtpdcjdangnfeiaaGreatDoor.Uv Go.Proofs.YtpdcjdangnfeiaaGreatDoor.Uw Go.Proofs.YtpdcjdangnfeiaaGreatDoor.Ux Go.Proofs.YtpdcjdangnfeiaaGreatDoor.Uy Go.Proofs.YtpdcjdangnfeiaaGreatDoor.Uz Go.Proofs.YtpdcjdangnfeiaaGreatDoor.Va
namespace Go.Proofs.YtpdcjdangnfeiaaGreatDoor.Vb
def kidsN (s : Sh) : Nat := if s.dir then size s.D else 0
def infoV (s : Sh) : Value := .agg #[.bool s.dir, .int .i64 s.data.length, .int .i64 (kidsN s)]
section
variable {w : World} {B tb n i m : Nat} {es : Es} {p : ByteArray} {L : Path} {s : Sh}
set_option maxHeartbeats 2000000 in
set_option maxRecDepth 100000 in
/-- (*node).info -/
theorem info_any (h : Nd w B s) : Calls Tryz.prog 99 #[.pointer (some ⟨s.nb, 0, none⟩)] w fun e w' => e = .returned (infoV s) ∧ Below w.heap.size w w' := by
  obtain ⟨dv, hc, A, c, rfl, -⟩ := h.cells
  have hz : ∀ o, Below w.heap.size w (w.alloc o) := fun o => (Below.refl _ _).alloc (Nat.le_refl _) o
  obtain ⟨O, hO⟩ : ∃ O : Obj, O = .cells #[.bool false, .int .i64 0, .int .i64 0] 121 := ⟨_, rfl⟩
  have hb := hz O
  have c0 := keepC hb (blk_cell hc 0)
  have c1 : (w.alloc O).cell? ⟨s.nb, 1, none⟩ = some (.slice A s.data.length c) := keepC hb (blk_cell hc 1)
  have hlen : ∃ mv, (w.alloc O).cell? ⟨s.nb, 2, none⟩ = some (.map mv) ∧ ∀ ty, (Builtin.len_ #[83] ty #[.map mv]).run Tryz.prog (w.alloc O).drew = .ok (.int .i64 (kidsN s)) (w.alloc O).drew := by
    cases hd : s.dir
    · refine ⟨none, keepC hb ((blk_cell hc 2).trans (by unfold kidsV; rw [if_neg (by simp [hd])]; rfl)), fun ty => ?_⟩
      rw [show kidsN s = 0 by unfold kidsN; rw [if_neg (by simp [hd])]]
      exact Maps.len_nil Tryz.underlying83 ty
    · refine ⟨some s.mb, keepC hb ((blk_cell hc 2).trans (by unfold kidsV; rw [if_pos hd]; rfl)), fun ty => ?_⟩
      rw [show kidsN s = size s.D by unfold kidsN; rw [if_pos hd]]
      exact World.ownsMap.len (w := (w.alloc O).drew) ((Nd.below h hb).kids hd).2 Tryz.underlying83 ty
  obtain ⟨mv, c2, hl⟩ := hlen
  subst hO
  have d0 : (w.alloc (.cells #[.bool false, .int .i64 0, .int .i64 0] 121)).cell? ⟨s.nb, 0, none⟩ = some (.bool s.dir) := c0
  have e0 := blk_cell (Go.heap_alloc_new w (.cells #[.bool false, .int .i64 0, .int .i64 0] 121)) 0
  clear h hc hz hb c0 e0
  unfold infoV
  go_enter Tryz.func99, Tryz.ntmps99
  go_wp2_with fail
  generalize hW : w.alloc (Obj.cells #[.bool false, .int .i64 0, .int .i64 0] 121) = W at *
  have z : W.heap[w.heap.size]? = some (.cells #[.bool false, .int .i64 0, .int .i64 0] 121 (0, 0)) := by rw [← hW]; exact Go.heap_alloc_new w _
  have z0 := blk_cell z 0
  have z1 := blk_cell z 1
  have z2 := blk_cell z 2
  have f0 := blk_frozen z 0
  have f1 := blk_frozen z 1
  have f2 := blk_frozen z 2
  have HW := Lib.hid hW
  have HZ := Lib.hid z
  clear hW z
  go_still_tail 14, (by kernel_rfl)
  go_wp2
  have hB : Below w.heap.size w W := HW.out ▸ (Below.refl w.heap.size w).alloc (Nat.le_refl _) _
  refine bodyPost_ret (v := .agg #[.bool s.dir, .int .i64 s.data.length, .int .i64 (kidsN s)]) ?_ rfl ⟨rfl, (((hB.setCell (Nat.le_refl _) _).setCell (Nat.le_refl _) _).setCell (Nat.le_refl _) _).drew⟩
  simp [results, go_sem, *]
theorem lk_cases (es : Es) (p : ByteArray) : (∃ s, lk es p = (some s, 0) ∧ (splitP p).2 = 0 ∧ way es [] (splitP p).1 = 0 ∧ gp es (splitP p).1 = some s) ∨ ∃ E, E ≠ 0 ∧ lk es p = (none, E) := by
  unfold lk
  by_cases c1 : (splitP p).2 = 0
  · rw [if_neg (by simpa using c1)]
    by_cases c2 : way es [] (splitP p).1 = 0
    · rw [if_neg (by simpa using c2)]
      cases hg : gp es (splitP p).1 with
      | none => exact .inr ⟨8, by decide, rfl⟩
      | some s => exact .inl ⟨s, rfl, c1, c2, rfl⟩
    · rw [if_pos c2]; exact .inr ⟨_, c2, rfl⟩
  · rw [if_pos c1]; exact .inr ⟨_, c1, rfl⟩
/-- What Read tells. -/
def rdE (o : Option Sh × Int) : List UInt8 × Int := match o with
  | (some s, _) => if s.dir then ([], 10) else (s.data, 0)
  | (none, e) => ([], e)
def ReadPost (w : World) (l : List UInt8) (E : Int) (e : Ending) (w' : World) : Prop :=
  ∃ A c, e = .returned (.tuple #[.slice A l.length c, .int .i64 E]) ∧ RdB w' A l ∧ Below w.heap.size w w'
set_option maxHeartbeats 2000000 in
set_option maxRecDepth 100000 in
/-- (*Tree).Read -/
theorem read_any (q : Int) (p : ByteArray) (h : St w B tb es n i m) (hq : w.cell? ⟨0, 0, none⟩ = some (.int .i64 q)) :
    Calls Tryz.prog 16 #[.pointer (some ⟨tb, 0, none⟩), .string p] w (ReadPost w (rdE (lk es p)).1 (rdE (lk es p)).2) := by
  have hk := look_any q p h hq
  have H := Lib.hid h
  rcases lk_cases es p with ⟨s, hs, -, -, hg⟩ | ⟨E, h0, hs⟩
  · rw [hs] at hk ⊢
    have HK : Hid (Calls Tryz.prog 30 #[.pointer (some ⟨tb, 0, none⟩), .string p] w fun e w' => e = .returned (.tuple #[.pointer (some ⟨s.nb, 0, none⟩), .int .i64 0]) ∧ Below w.heap.size w w') := Lib.hid hk
    cases hd : s.dir
    · have e1 : rdE (some s, 0) = (s.data, 0) := by unfold rdE; simp [hd]
      rw [e1]
      have hF := fun W (hW : Below w.heap.size w W) => isFile_any (Nd.below (h.ok hg) hW)
      rw [if_neg (by simp [hd])] at hF
      have HF := Lib.hid hF
      obtain ⟨dv, hc, hrd⟩ := (h.ok hg).cells
      obtain ⟨A0, c0, rfl, hc0, hr0⟩ := rd_to hrd
      have hlen := (h.limp hg).2.1
      have HC := Lib.hid hc
      have HR0 := Lib.hid hr0
      have HCL := Lib.hid (fun W (hW : Below w.heap.size w W) => clone_any A0 c0 s.data W (hr0.below hW) (by omega))
      clear hk hs h hF hc hr0 hrd
      go_enter Tryz.func16, Tryz.ntmps16
      go_wp2_with fail
      refine HK.out.mono ?_
      rintro e w1 ⟨rfl, hb1⟩
      have HB1 := Lib.hid hb1
      clear hb1
      go_wp2_with fail
      refine (HF.out _ HB1.out).mono ?_
      rintro e w2 ⟨rfl, rfl⟩
      have d1 := keepC HB1.out (blk_cell HC.out 1)
      go_wp2_with fail
      refine (HCL.out _ HB1.out).mono ?_
      rintro e w3 ⟨v, rfl, ho, hb3⟩
      obtain ⟨A3, c3, rfl, hr3, -⟩ := ho.reads
      have HR3 := Lib.hid hr3
      have HB3 := Lib.hid (bt HB1.out hb3)
      clear ho hr3 hb3 d1
      go_wp2_with fail
      go_ret2
      exact ⟨A3, c3, rfl, HR3.out, HB3.out⟩
    · have e1 : rdE (some s, 0) = ([], 10) := by unfold rdE; simp [hd]
      rw [e1]
      have hF := fun W (hW : Below w.heap.size w W) => isFile_any (Nd.below (h.ok hg) hW)
      rw [if_pos hd] at hF
      have HF := Lib.hid hF
      clear hk hs h hF
      go_enter Tryz.func16, Tryz.ntmps16
      go_wp2_with fail
      refine HK.out.mono ?_
      rintro e w1 ⟨rfl, hb1⟩
      have HB1 := Lib.hid hb1
      clear hb1
      go_wp2_with fail
      refine (HF.out _ HB1.out).mono ?_
      rintro e w2 ⟨rfl, rfl⟩
      go_wp2_with fail
      go_ret2
      exact ⟨none, 0, rfl, RdB.nil _ _, HB1.out⟩
  · rw [hs] at hk ⊢
    have HK : Hid (Calls Tryz.prog 30 #[.pointer (some ⟨tb, 0, none⟩), .string p] w fun e w' => e = .returned (.tuple #[.pointer none, .int .i64 E]) ∧ Below w.heap.size w w') := Lib.hid hk
    have e1 : rdE (none, E) = ([], E) := rfl
    rw [e1]
    have k0 : (E == 0) = false := by simpa using h0
    have k1 : (E != 0) = true := by simpa using h0
    clear hk hs h h0
    go_enter Tryz.func16, Tryz.ntmps16
    go_wp2_with fail
    refine HK.out.mono ?_
    rintro e w1 ⟨rfl, hb1⟩
    have HB1 := Lib.hid hb1
    clear hb1
    go_wp2_with fail
    go_ret2
    exact ⟨none, 0, rfl, RdB.nil _ _, HB1.out⟩
end
end Go.Proofs.YtpdcjdangnfeiaaGreatDoor.Vb
open Go.Proofs.YtpdcjdangnfeiaaGreatDoor.Vb
namespace Go.Proofs.YtpdcjdangnfeiaaGreatDoor.Vc
open Go.Sort
theorem rdS_own {w : World} {base : Nat} {v : Value} {xs : List ByteArray} (h : w.ownsRow base 9 1 v xs.length (xs.map Value.string)) : ∃ A c, v = .slice A xs.length c ∧ RdS w A xs ∧ xs.length ≤ c := by
  obtain ⟨hl, h⟩ := h
  rcases h with ⟨rfl, h0⟩ | ⟨g, cap, cur, rfl, hg, hh, hn, hm, hs, ht⟩
  · obtain rfl := List.length_eq_zero_iff.1 h0
    exact ⟨none, 0, rfl, .inl rfl, by simp⟩
  · refine ⟨_, cap, rfl, .inr ⟨g, 0, rfl, fun j x hj => ?_⟩, hn⟩
    rw [Nat.zero_add]
    have e : w.cell? ⟨g, j, none⟩ = cur[j]? := by simp [World.cell?, hh]
    have hlt : j < xs.length := (List.getElem?_eq_some_iff.1 hj).1
    rw [e, ← Array.getElem?_toList]
    have : (cur.toList.take (xs.length * 1))[j]? = some (.string x) := by rw [ht]; simp [hj]
    rwa [List.getElem?_take_of_lt (by omega)] at this
def namesL (s : Sh) : List (List UInt8) := (strKeys s.D).mergeSort (fun x y => decide (x ≤ y))
theorem names_len {w : World} {B : Nat} {s : Sh} (h : Nd w B s) (hd : s.dir = true) : (namesL s).length = size s.D := by
  unfold namesL
  rw [List.length_mergeSort]
  obtain ⟨es, clock, hb, F, hs, hD⟩ := (h.kids hd).2
  rw [hD]
  simp [strKeys, size]
/-- What List tells. -/
def lsE (o : Option Sh × Int) : List (List UInt8) × Int := match o with
  | (some s, _) => if s.dir then (namesL s, 0) else ([], 11)
  | (none, e) => ([], e)
def ListPost (w : World) (l : List (List UInt8)) (E : Int) (e : Ending) (w' : World) : Prop :=
  ∃ A c, e = .returned (.tuple #[.slice A l.length c, .int .i64 E]) ∧ RdS w' A (l.map tb) ∧ Below w.heap.size w w'
section
variable {w : World} {B tb' n i m : Nat} {es : Es} {p : ByteArray} {s : Sh}
theorem keys_any (mb : Option Nat) (W : World) : Calls Tryz.prog 34 #[.map mb] W fun e w' => e = .returned (.func (.func 62) #[] #[.pointer (some ⟨W.heap.size, 0, none⟩)]) ∧ w' = W.alloc (.cells #[.map mb] 83) := (callsIn_wide (n := 5)).1 (Tryz.maps_Keys_34 mb W)
theorem sorted_any (h : Nd w B s) (hd : s.dir = true) (hz : size s.D ≤ 100000) :
    Calls Tryz.prog 33 #[.func (.func 62) #[] #[.pointer (some ⟨w.heap.size, 0, none⟩)]] (w.alloc (.cells #[.map (some s.mb)] 83)) fun e w' => ∃ A N c, e = .returned (.slice A N c) ∧ N = (namesL s).length ∧ RdS w' A ((namesL s).map Qa.tb) ∧ Below w.heap.size w w' := by
  refine ((callsIn_wide (n := 5)).1 (Tryz.slices_Sorted_keys_33_34 s.mb (size s.D) s.D ptrR w (h.kids hd).2 (by unfold maxLen; omega) (by omega))).mono ?_
  rintro e w' ⟨v, ss, rfl, hp, hrow, hnil, hb⟩
  have e1 : ss.mergeSort (fun x y => decide (x ≤ y)) = namesL s := mergeSort_of_perm hp
  have e2 : ss.length = (namesL s).length := by rw [← e1, List.length_mergeSort]
  rw [e1, e2] at hrow
  have e3 : (namesL s).map encStr = ((namesL s).map Qa.tb).map Value.string := by rw [List.map_map]; rfl
  rw [e3] at hrow
  have e4 : (namesL s).length = ((namesL s).map Qa.tb).length := by rw [List.length_map]
  rw [e4] at hrow
  obtain ⟨A, c, rfl, hr, -⟩ := rdS_own hrow
  exact ⟨A, _, c, rfl, e4.symm, hr, ((Below.refl _ _).alloc (Nat.le_refl _) _).trans (hb.mono (by simp))⟩
set_option maxHeartbeats 2000000 in
set_option maxRecDepth 100000 in
/-- (*Tree).List -/
theorem list_any (q : Int) (p : ByteArray) (h : St w B tb' es n i m) (hm : m ≤ 2000) (hq : w.cell? ⟨0, 0, none⟩ = some (.int .i64 q)) :
    Calls Tryz.prog 17 #[.pointer (some ⟨tb', 0, none⟩), .string p] w (ListPost w (lsE (lk es p)).1 (lsE (lk es p)).2) := by
  have hk := look_any q p h hq
  rcases lk_cases es p with ⟨s, hs, -, -, hg⟩ | ⟨E, h0, hs⟩
  · rw [hs] at hk ⊢
    have HK : Hid (Calls Tryz.prog 30 #[.pointer (some ⟨tb', 0, none⟩), .string p] w fun e w' => e = .returned (.tuple #[.pointer (some ⟨s.nb, 0, none⟩), .int .i64 0]) ∧ Below w.heap.size w w') := Lib.hid hk
    have hN := h.ok hg
    have HN := Lib.hid hN
    have hlim := (h.limp hg).2.2
    obtain ⟨dv, hc, -⟩ := hN.cells
    have HC := Lib.hid hc
    cases hd : s.dir
    · have e1 : lsE (some s, 0) = ([], 11) := by unfold lsE; simp [hd]
      rw [e1]
      have HD := Lib.hid hd
      clear hk hs h hN hc hd
      go_enter Tryz.func17, Tryz.ntmps17
      go_wp2_with fail
      refine HK.out.mono ?_
      rintro e w1 ⟨rfl, hb1⟩
      have HB1 := Lib.hid hb1
      have d0 := (keepC hb1 (blk_cell HC.out 0)).trans (show _ = some (Value.bool false) by rw [HD.out]; rfl)
      clear hb1
      go_wp2_with fail
      go_ret2
      exact ⟨none, 0, rfl, .inl rfl, HB1.out⟩
    · have e1 : lsE (some s, 0) = (namesL s, 0) := by unfold lsE; simp [hd]
      rw [e1]
      have HD := Lib.hid hd
      have HS := Lib.hid (fun W (hW : Below w.heap.size w W) => sorted_any (Nd.below hN hW) hd (by omega))
      clear hk hs h hN hc hd
      go_enter Tryz.func17, Tryz.ntmps17
      go_wp2_with fail
      refine HK.out.mono ?_
      rintro e w1 ⟨rfl, hb1⟩
      have HB1 := Lib.hid hb1
      have d0 := (keepC hb1 (blk_cell HC.out 0)).trans (show _ = some (Value.bool true) by rw [HD.out]; rfl)
      have d2 := (keepC hb1 (blk_cell HC.out 2)).trans (show _ = some (Value.map (some s.mb)) by unfold kidsV; rw [if_pos HD.out]; rfl)
      clear hb1
      go_wp2_with fail
      refine (keys_any _ _).mono ?_
      rintro e w2 ⟨rfl, rfl⟩
      go_wp2_with fail
      refine (HS.out _ HB1.out).mono ?_
      rintro e w3 ⟨A, N, c, rfl, hN2, hr3, hb3⟩
      have HN2 := Lib.hid hN2
      have HR3 := Lib.hid hr3
      have HB3 := Lib.hid (bt HB1.out hb3)
      clear hN2 hr3 hb3 d0 d2
      go_wp2_with fail
      go_ret2
      exact ⟨A, c, by rw [← HN2.out]; rfl, HR3.out, HB3.out⟩
  · rw [hs] at hk ⊢
    have HK : Hid (Calls Tryz.prog 30 #[.pointer (some ⟨tb', 0, none⟩), .string p] w fun e w' => e = .returned (.tuple #[.pointer none, .int .i64 E]) ∧ Below w.heap.size w w') := Lib.hid hk
    have e1 : lsE (none, E) = ([], E) := rfl
    rw [e1]
    have k0 : (E == 0) = false := by simpa using h0
    have k1 : (E != 0) = true := by simpa using h0
    clear hk hs h h0
    go_enter Tryz.func17, Tryz.ntmps17
    go_wp2_with fail
    refine HK.out.mono ?_
    rintro e w1 ⟨rfl, hb1⟩
    have HB1 := Lib.hid hb1
    clear hb1
    go_wp2_with fail
    go_ret2
    exact ⟨none, 0, rfl, .inl rfl, HB1.out⟩
end
end Go.Proofs.YtpdcjdangnfeiaaGreatDoor.Vc
open Go.Proofs.YtpdcjdangnfeiaaGreatDoor.Vc
namespace Go.Proofs.YtpdcjdangnfeiaaGreatDoor.Vd
/-- What look tells of a plain tree. -/
def lkA (a : Path → Option N) (p : ByteArray) : Option N × Int :=
  if (splitP p).2 ≠ 0 then (none, (splitP p).2) else if wayA a [] (splitP p).1 ≠ 0 then (none, wayA a [] (splitP p).1) else match a (splitP p).1 with
  | none => (none, 8)
  | some x => (some x, 0)
theorem lk_abs (es : Es) (p : ByteArray) : lkA (absE es) p = ((lk es p).1.map toN, (lk es p).2) := by
  unfold lkA lk
  rw [way_abs]
  by_cases c1 : (splitP p).2 = 0
  · have e1 : ¬ (splitP p).2 ≠ 0 := by simpa using c1
    rw [if_neg e1, if_neg e1]
    by_cases c2 : way es [] (splitP p).1 = 0
    · have e2 : ¬ way es [] (splitP p).1 ≠ 0 := by simpa using c2
      rw [if_neg e2, if_neg e2]
      unfold absE
      cases gp es (splitP p).1 <;> rfl
    · have e2 : way es [] (splitP p).1 ≠ 0 := c2
      rw [if_pos e2, if_pos e2]; rfl
  · have e1 : (splitP p).2 ≠ 0 := c1
    rw [if_pos e1, if_pos e1]; rfl
def rdA (o : Option N × Int) : List UInt8 × Int := match o with
  | (some x, _) => if x.dir then ([], 10) else (x.data, 0)
  | (none, e) => ([], e)
theorem rd_abs (es : Es) (p : ByteArray) : rdE (lk es p) = rdA (lkA (absE es) p) := by
  rw [lk_abs]
  obtain ⟨o, e⟩ := lk es p
  cases o <;> rfl
def lsA (o : Option N × Int) : Nat × Int := match o with
  | (some x, _) => if x.dir then (x.k, 0) else (0, 11)
  | (none, e) => (0, e)
/-- A tree in memory, and the plain one that it is. -/
def At (w : World) (B tb : Nat) (q : Int) (s : S) (m : Nat) : Prop := 0 < B ∧ w.cell? ⟨0, 0, none⟩ = some (.int .i64 q) ∧ ∃ es n i, St w B tb es n i m ∧ (⟨absE es, n, i⟩ : S) = s
section
variable {w : World} {B tb' n i m : Nat} {q : Int} {s : S}
theorem At.below {w' : World} (h : At w B tb' q s m) (hb : Below w.heap.size w w') : At w' B tb' q s m := by
  obtain ⟨h0, hq, es, n, i, h1, h2⟩ := h
  exact ⟨h0, keepC hb hq, es, n, i, h1.below hb, h2⟩
theorem At.base (h : At w B tb' q s m) : B ≤ w.heap.size := by
  obtain ⟨h0, hq, es, n, i, h1, h2⟩ := h
  exact h1.base
theorem At.mono {m' : Nat} (h : At w B tb' q s m) (hm : m ≤ m') : At w B tb' q s m' := by
  obtain ⟨h0, hq, es, n, i, h1, h2⟩ := h
  exact ⟨h0, hq, es, n, i, h1.mono hm, h2⟩
def AtPost (w : World) (B tb' : Nat) (q : Int) (v : Value) (s : S) (m : Nat) (e : Ending) (w' : World) : Prop := e = .returned v ∧ At w' B tb' q s m ∧ Below B w w'
/-- Do. -/
theorem do_at (o : O) (D : Option Addr) (dc : Nat) (h : At w B tb' q s m) (hm : m ≤ 2000) (hD : RdB w D o.data) (hl : o.data.length ≤ 1000000) :
    Calls Tryz.prog 8 #[.pointer (some ⟨tb', 0, none⟩), opV o D dc] w (AtPost w B tb' q (.int .i64 (doE s o)) (doS s o) (m + 1)) := by
  obtain ⟨h0, hq, es, n, i, h1, rfl⟩ := h
  refine (do_any q o D dc h1 hm hq hD hl).mono ?_
  rintro e w' ⟨rfl, es', n', i', a1, a2, a3, -, -⟩
  exact ⟨rfl, ⟨h0, (a3.low.cell (p := ⟨0, 0, none⟩) h0).trans hq, es', n', i', a1, a2⟩, a3.low⟩
def ReadAt (w : World) (B tb' : Nat) (q : Int) (s : S) (m : Nat) (l : List UInt8) (E : Int) (e : Ending) (w' : World) : Prop :=
  ∃ A c, e = .returned (.tuple #[.slice A l.length c, .int .i64 E]) ∧ RdB w' A l ∧ At w' B tb' q s m ∧ Below w.heap.size w w'
/-- Read. -/
theorem read_at (p : ByteArray) (h : At w B tb' q s m) : Calls Tryz.prog 16 #[.pointer (some ⟨tb', 0, none⟩), .string p] w (ReadAt w B tb' q s m (rdA (lkA s.a p)).1 (rdA (lkA s.a p)).2) := by
  have H := h
  obtain ⟨h0, hq, es, n, i, h1, rfl⟩ := h
  refine (read_any q p h1 hq).mono ?_
  rintro e w' ⟨A, c, rfl, hr, hb⟩
  rw [rd_abs] at hr ⊢
  exact ⟨A, c, rfl, hr, H.below hb, hb⟩
def ListAt (w : World) (B tb' : Nat) (q : Int) (s : S) (m k : Nat) (E : Int) (e : Ending) (w' : World) : Prop :=
  ∃ A c, e = .returned (.tuple #[.slice A k c, .int .i64 E]) ∧ At w' B tb' q s m ∧ Below w.heap.size w w'
/-- List, how many. -/
theorem list_at (p : ByteArray) (h : At w B tb' q s m) (hm : m ≤ 2000) : Calls Tryz.prog 17 #[.pointer (some ⟨tb', 0, none⟩), .string p] w (ListAt w B tb' q s m (lsA (lkA s.a p)).1 (lsA (lkA s.a p)).2) := by
  have H := h
  obtain ⟨h0, hq, es, n, i, h1, rfl⟩ := h
  refine (list_any q p h1 hm hq).mono ?_
  rintro e w' ⟨A, c, rfl, -, hb⟩
  refine ⟨A, c, ?_, H.below hb, hb⟩
  have : (lsE (lk es p)).1.length = (lsA (lkA (absE es) p)).1 ∧ (lsE (lk es p)).2 = (lsA (lkA (absE es) p)).2 := by
    rw [lk_abs]
    rcases lk_cases es p with ⟨x, hx, -, -, hg⟩ | ⟨E, -, hx⟩
    · rw [hx]
      unfold lsE lsA toN
      cases hd : x.dir
      · simp [hd]
      · simp [hd, names_len (h1.ok hg) hd]
    · rw [hx]; exact ⟨rfl, rfl⟩
  rw [this.1, this.2]
/-- Free. -/
theorem free_at (h : At w B tb' q s m) : Calls Tryz.prog 18 #[.pointer (some ⟨tb', 0, none⟩)] w fun e w' => e = .returned (.tuple #[.int .i64 s.blocks, .int .i64 s.inodes]) ∧ At w' B tb' q s m ∧ Below w.heap.size w w' := by
  have H := h
  obtain ⟨h0, hq, es, n, i, h1, rfl⟩ := h
  obtain ⟨r, -, ht⟩ := h1.tre
  refine (Qf.free_any ht).mono ?_
  rintro e w' ⟨rfl, hb⟩
  exact ⟨rfl, H.below hb, hb⟩
def rootA : Path → Option N := fun q => if q = [] then some ⟨true, [], 0, 0⟩ else none
/-- New. -/
theorem new_at (hq : w.cell? ⟨0, 0, none⟩ = some (.int .i64 q)) (hn : n ≤ 16384) (hi : i < 256) : Calls Tryz.prog 6 #[.int .i64 n, .int .i64 ((i + 1 : Nat) : Int)] w fun e w' =>
    ∃ tb', e = .returned (.tuple #[.pointer (some ⟨tb', 0, none⟩), .int .i64 0]) ∧ At w' w.heap.size tb' q ⟨rootA, n, i⟩ 0 ∧ Below w.heap.size w w' := by
  refine (new_any w n i hn hi).mono ?_
  rintro e w' ⟨tb', rb, rfl, hN, hT, hb⟩
  have hg : ∀ p, gp [(([] : Path), freshSh true rb)] p = if p = [] then some (freshSh true rb) else none := by
    intro p
    rw [gp_cons]
    by_cases e : ([] : Path) = p
    · rw [if_pos e, if_pos e.symm]
    · rw [if_neg e, if_neg (fun h => e h.symm)]; rfl
  refine ⟨tb', rfl, ⟨World.block_lt_of_cell? _ _ hq, keepC hb hq, [([], freshSh true rb)], n, i, ⟨⟨fun s hs => ?_, ?_⟩, ?_, ?_, ⟨freshSh true rb, by rw [hg]; rfl, hT⟩, ?_, by omega⟩, ?_⟩, hb⟩
  · have : s = freshSh true rb := by simpa using hs
    rw [this]; exact hN
  · simpa using (blks_fresh true rb).1
  · exact List.nodup_cons.2 ⟨by simp, List.nodup_nil⟩
  · have hnone : ∀ p x, gp [(([] : Path), freshSh true rb)] (p ++ [x]) = none := fun p x => by rw [hg, if_neg (by simp)]
    refine ⟨⟨freshSh true rb, by rw [hg]; rfl, rfl⟩, (fun p x s hs => by rw [hnone] at hs; cases hs), fun p d hd hdd => ?_, fun p s hs => ?_⟩
    · rw [hg] at hd
      by_cases e : p = []
      · rw [if_pos e] at hd
        cases hd
        exact (Dr.fresh (freshSh true rb) rfl rfl).congr fun x => by rw [hnone]; rfl
      · rw [if_neg e] at hd; cases hd
    · rw [hg] at hs
      by_cases e : p = []
      · subst e; intro x hx; cases hx
      · rw [if_neg e] at hs; cases hs
  · intro e he
    have : e = ([], freshSh true rb) := by simpa using he
    rw [this]
    simp [freshSh, size]
  · have : absE [(([] : Path), freshSh true rb)] = rootA := by
      funext p
      unfold absE rootA
      rw [hg]
      by_cases e : p = []
      · rw [if_pos e, if_pos e]; rfl
      · rw [if_neg e, if_neg e]; rfl
    rw [this]
end
end Go.Proofs.YtpdcjdangnfeiaaGreatDoor.Vd
open Go.Proofs.YtpdcjdangnfeiaaGreatDoor.Vd
namespace Go.Proofs.YtpdcjdangnfeiaaGreatDoor.Ve
def emp : ByteArray := ⟨#[]⟩
def kA : ByteArray := ⟨#[47, 97]⟩
def kB : ByteArray := ⟨#[47, 98]⟩
def ko1 : O := ⟨1, kA, emp, [], 0⟩
def ko2 : O := ⟨3, kA, emp, [120, 121], 0⟩
def ko3 : O := ⟨1, kB, emp, [], 0⟩
def ko4 : O := ⟨7, kA, kB, [], 0⟩
def ks0 : S := ⟨rootA, 10, 9⟩
def ks1 : S := doS ks0 ko1
def ks2 : S := doS ks1 ko2
def ks3 : S := doS ks2 ko3
def ks4 : S := doS ks3 ko4
theorem kn1 : doE ks0 ko1 = 0 := by decide +kernel
theorem kn2 : doE ks1 ko2 = 0 := by decide +kernel
theorem kn3 : doE ks2 ko3 = 0 := by decide +kernel
theorem kn4 : doE ks3 ko4 = 0 := by decide +kernel
theorem kn5 : (rdA (lkA ks4.a kB)).1 = [120, 121] ∧ (rdA (lkA ks4.a kB)).2 = 0 := by decide +kernel
theorem kn6 : (lsA (lkA ks4.a ⟨#[47]⟩)).1 = 1 ∧ (lsA (lkA ks4.a ⟨#[47]⟩)).2 = 0 := by decide +kernel
theorem kn7 : ks4.blocks = 8 ∧ ks4.inodes = 8 := by decide +kernel
theorem lit_rd (w : World) (l : List UInt8) (fr : Nat × Nat) (hl : l.length ≤ 9223372036854775807) : RdB (w.alloc (.cells (l.map bv).toArray 5 fr)) (some ⟨w.heap.size, 0, none⟩) l := by
  refine RdB.mk hl fun j hj => ?_
  rw [cell_of_block (Go.heap_alloc_new w _)]
  simp [bv, hj]
theorem al {w : World} (o : Obj) : Below w.heap.size w (w.alloc o) := (Below.refl _ _).alloc (Nat.le_refl _) o
set_option maxHeartbeats 8000000 in
set_option maxRecDepth 100000 in
/-- known -/
theorem known_any (W0 : World) (q : Int) (hq : W0.cell? ⟨0, 0, none⟩ = some (.int .i64 q)) : Calls Tryz.prog 4 #[] W0 fun e w' => e = .returned (.bool true) ∧ Below W0.heap.size W0 w' := by
  have h0 : Calls Tryz.prog 6 #[.int .i64 10, .int .i64 10] W0 fun e w' => ∃ tb', e = .returned (.tuple #[.pointer (some ⟨tb', 0, none⟩), .int .i64 0]) ∧ At w' W0.heap.size tb' q ks0 0 ∧ Below W0.heap.size W0 w' := new_at (n := 10) (i := 9) hq (by omega) (by omega)
  have H0 := Lib.hid h0
  clear h0 hq
  go_enter Tryz.func4, Tryz.ntmps4
  go_wp2_with fail
  refine H0.out.mono ?_
  rintro e w1 ⟨tb', rfl, ha, hb⟩
  have HA0 := Lib.hid ha
  have HB0 := Lib.hid hb
  clear ha hb
  have h1 : Calls Tryz.prog 8 #[.pointer (some ⟨tb', 0, none⟩), .agg #[.int .i64 1, .string ⟨#[47, 97]⟩, .string ⟨#[]⟩, .slice none 0 0, .int .i64 0]] w1 (AtPost w1 W0.heap.size tb' q (.int .i64 0) ks1 1) := by
    have := do_at ko1 none 0 (HA0.out) (by omega) (RdB.nil _ _) (by decide)
    rw [kn1] at this
    exact this
  have HH1 := Lib.hid h1
  clear h1
  go_wp2_with fail
  refine HH1.out.mono ?_
  rintro e w2 ⟨rfl, ha, hb⟩
  have HA1 := Lib.hid ha
  have HB1 := Lib.hid (HB0.out.trans hb)
  clear ha hb
  have hcv := Lib.run_convert_bytes_const (P := Tryz.prog) w2 33 5 #[.int .u8 120, .int .u8 121] 2 2 Tryz.underlying33 Tryz.underlying5
  have hal := al (w := w2) (.cells (([120, 121] : List UInt8).map bv).toArray 5 (2, 3))
  have h2 : Calls Tryz.prog 8 #[.pointer (some ⟨tb', 0, none⟩), .agg #[.int .i64 3, .string ⟨#[47, 97]⟩, .string ⟨#[]⟩, .slice (some ⟨w2.heap.size, 0, none⟩) 2 2, .int .i64 0]] (w2.alloc (.cells (([120, 121] : List UInt8).map bv).toArray 5 (2, 3))) (AtPost (w2.alloc (.cells (([120, 121] : List UInt8).map bv).toArray 5 (2, 3))) W0.heap.size tb' q (.int .i64 0) ks2 2) := by
    have := do_at ko2 (some ⟨w2.heap.size, 0, none⟩) 2 (HA1.out.below hal) (by omega) (lit_rd w2 [120, 121] (2, 3) (by decide)) (by decide)
    rw [kn2] at this
    exact this
  have HH2 := Lib.hid h2
  have HAL := Lib.hid hal
  clear h2 hal
  go_wp2_with fail
  refine HH2.out.mono ?_
  rintro e w3 ⟨rfl, ha, hb⟩
  have HA2 := Lib.hid ha
  have HB2 := Lib.hid (HB1.out.trans ((HAL.out.mono (by have := HB1.out.size; exact this)).trans hb))
  clear ha hb hcv
  have h3 : Calls Tryz.prog 8 #[.pointer (some ⟨tb', 0, none⟩), .agg #[.int .i64 1, .string ⟨#[47, 98]⟩, .string ⟨#[]⟩, .slice none 0 0, .int .i64 0]] w3 (AtPost w3 W0.heap.size tb' q (.int .i64 0) ks3 3) := by
    have := do_at ko3 none 0 (HA2.out) (by omega) (RdB.nil _ _) (by decide)
    rw [kn3] at this
    exact this
  have HH3 := Lib.hid h3
  clear h3
  go_wp2_with fail
  refine HH3.out.mono ?_
  rintro e w4 ⟨rfl, ha, hb⟩
  have HA3 := Lib.hid ha
  have HB3 := Lib.hid (HB2.out.trans hb)
  clear ha hb
  have h4 : Calls Tryz.prog 8 #[.pointer (some ⟨tb', 0, none⟩), .agg #[.int .i64 7, .string ⟨#[47, 97]⟩, .string ⟨#[47, 98]⟩, .slice none 0 0, .int .i64 0]] w4 (AtPost w4 W0.heap.size tb' q (.int .i64 0) ks4 4) := by
    have := do_at ko4 none 0 (HA3.out) (by omega) (RdB.nil _ _) (by decide)
    rw [kn4] at this
    exact this
  have HH4 := Lib.hid h4
  clear h4
  go_wp2_with fail
  refine HH4.out.mono ?_
  rintro e w5 ⟨rfl, ha, hb⟩
  have HA4 := Lib.hid ha
  have HB4 := Lib.hid (HB3.out.trans hb)
  clear ha hb
  have h5 := read_at kB HA4.out
  rw [kn5.1, kn5.2] at h5
  have HH5 := Lib.hid (show Calls Tryz.prog 16 #[.pointer (some ⟨tb', 0, none⟩), .string ⟨#[47, 98]⟩] w5 (ReadAt w5 W0.heap.size tb' q ks4 4 [120, 121] 0) from h5)
  clear h5
  go_wp2_with fail
  refine HH5.out.mono ?_
  rintro e w6 ⟨A, c, rfl, hr, ha, hb⟩
  have HR := Lib.hid hr
  have HA5 := Lib.hid ha
  have HB5 := Lib.hid (HB4.out.trans (hb.mono HB4.out.size))
  clear hr ha hb
  have h6 := list_at ⟨#[47]⟩ HA5.out (by omega)
  rw [kn6.1, kn6.2] at h6
  have HH6 := Lib.hid h6
  clear h6
  go_wp2_with fail
  refine HH6.out.mono ?_
  rintro e w7 ⟨A2, c2, rfl, ha, hb⟩
  have HA6 := Lib.hid ha
  have HR6 := Lib.hid (HR.out.below hb)
  have HB6 := Lib.hid (HB5.out.trans (hb.mono HB5.out.size))
  clear ha hb
  have h7 := free_at HA6.out
  rw [kn7.1, kn7.2] at h7
  have HH7 := Lib.hid h7
  clear h7
  go_wp2_with fail
  refine HH7.out.mono ?_
  rintro e w8 ⟨rfl, ha, hb⟩
  have HR7 := Lib.hid (HR6.out.below hb)
  have HB7 := Lib.hid (HB6.out.trans (hb.mono HB6.out.size))
  have ht : (convert 33 9 (.slice A 2 c)).run Tryz.prog w8 = .ok (.string ⟨#[120, 121]⟩) w8 := RdB.text HR7.out c
  clear ha hb
  go_wp2_with fail
  go_ret
  exact ⟨rfl, HB7.out⟩
end Go.Proofs.YtpdcjdangnfeiaaGreatDoor.Ve
end
