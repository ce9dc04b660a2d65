/-
  DERIVED: THE SHELF's CONTRACTS AT THIS DUMP, IN PLAIN WORDS (tools/lay-plain.mjs out of 'YtpdcjdangnfeiaaDoorIt0.lean', which tools/lay-shelf.mjs wrote): THE SAME DECLARATIONS UNDER THE SAME NAMES: 'import', 'namespace', 'open', 'def', 'theorem' AND NOTHING ELSE: no command of the shelf's: FOR A HAND-IN. Each laying: the table of numbers ('.._ren') and one theorem, a field a fact of the dump's own or the kernel's comparison; each contract: ONE APPLICATION.
-/
import Derived.Shelf.SlIter.Nil
import Derived.Shelf.SortM.Plain
import Derived.Shelf.SortM.SortNone
import Derived.Test.YtpdcjdangnfeiaaDoorProg
namespace Go.Proofs
open Go.RowKit Go.Maps Go.Sort Go.Shelf
def Tryd.keys25_ren : Go.Shelf.Ren := ⟨fun | 7 => 25 | 10 => 42 | n => n, fun | 23 => 65 | 26 => 9 | 3 => 56 | 28 => 70 | 0 => 0 | 27 => 69 | 33 => 88 | 4 => 4 | n => n, fun | n => n⟩
theorem Tryd.keys25 : Go.Proofs.SlLaysZ.n7 Tryd.prog Tryd.keys25_ren := {
  mixed := by kernel_rfl
  f7 := ⟨Tryd.f25.name, by decide, Tryd.func25.trans (congrArg some (by kernel_rfl))⟩
  f10 := ⟨Tryd.f42.name, by decide, Tryd.func42.trans (congrArg some (by kernel_rfl))⟩
  t0 := Tryd.underlying0
  a0 := Tryd.isAgg0
  z0 := Tryd.sizeOf0
  v0 := Tryd.zeroValue0
  t4 := Tryd.underlying4
  a4 := Tryd.isAgg4
  z4 := Tryd.sizeOf4
  v4 := Tryd.zeroValue4
  t23 := Tryd.underlying65
  a23 := Tryd.isAgg65
  z23 := Tryd.sizeOf65
  v23 := Tryd.zeroValue65
  t26 := Tryd.underlying9
  a26 := Tryd.isAgg9
  z26 := Tryd.sizeOf9
  v26 := Tryd.zeroValue9
  t27 := Tryd.underlying69
  a27 := Tryd.isAgg69
  z27 := Tryd.sizeOf69
  v27 := Tryd.zeroValue69
  t28 := Tryd.underlying70
  a28 := Tryd.isAgg70
  z28 := Tryd.sizeOf70
  v28 := Tryd.zeroValue70
  t33 := Tryd.underlying88
  a33 := Tryd.isAgg88
  z33 := Tryd.sizeOf88
  v33 := Tryd.zeroValue88 }
def Tryd.sorted24_ren : Go.Shelf.Ren := ⟨fun | 6 => 24 | 8 => 40 | 9 => 41 | 11 => 65 | 13 => 67 | 12 => 66 | 23 => 85 | 24 => 86 | 14 => 76 | 15 => 77 | 16 => 78 | 17 => 79 | 18 => 80 | 19 => 81 | 20 => 82 | 21 => 83 | 22 => 84 | 25 => 92 | 26 => 93 | 27 => 94 | 28 => 95 | 29 => 96 | 30 => 97 | 31 => 102 | n => n, fun | 26 => 9 | 28 => 70 | 24 => 34 | 0 => 0 | 3 => 3 | 37 => 106 | 48 => 122 | 50 => 124 | 4 => 4 | 40 => 114 | 39 => 113 | 45 => 119 | 5 => 5 | 9 => 9 | 51 => 127 | 55 => 131 | 57 => 137 | 58 => 31 | 33 => 88 | n => n, fun | n => n⟩
theorem Tryd.sorted24 : Go.Proofs.SlLaysZ.n6 Tryd.prog Tryd.sorted24_ren := {
  mixed := by kernel_rfl
  f6 := ⟨Tryd.f24.name, by decide, Tryd.func24.trans (congrArg some (by kernel_rfl))⟩
  f8 := ⟨Tryd.f40.name, by decide, Tryd.func40.trans (congrArg some (by kernel_rfl))⟩
  f11 := ⟨Tryd.f65.name, by decide, Tryd.func65.trans (congrArg some (by kernel_rfl))⟩
  t0 := Tryd.underlying0
  a0 := Tryd.isAgg0
  z0 := Tryd.sizeOf0
  v0 := Tryd.zeroValue0
  t24 := Tryd.underlying34
  a24 := Tryd.isAgg34
  z24 := Tryd.sizeOf34
  v24 := Tryd.zeroValue34
  t26 := Tryd.underlying9
  a26 := Tryd.isAgg9
  z26 := Tryd.sizeOf9
  v26 := Tryd.zeroValue9
  t28 := Tryd.underlying70
  a28 := Tryd.isAgg70
  z28 := Tryd.sizeOf70
  v28 := Tryd.zeroValue70
  i26 := by kernel_rfl }
def Tryd.sort41_ren : Go.Shelf.Ren := ⟨fun | 6 => 41 | 8 => 67 | 9 => 66 | 19 => 85 | 20 => 86 | 21 => 76 | 22 => 77 | 23 => 78 | 24 => 79 | 25 => 80 | 26 => 81 | 27 => 82 | 28 => 83 | 29 => 84 | 36 => 92 | 31 => 93 | 32 => 94 | 37 => 95 | 38 => 96 | 39 => 97 | 41 => 102 | n => n, fun | 27 => 34 | 29 => 9 | 3 => 3 | 32 => 106 | 26 => 34 | 0 => 0 | 44 => 122 | 46 => 124 | 4 => 4 | 36 => 114 | 35 => 113 | 41 => 119 | 5 => 5 | 9 => 9 | 53 => 127 | 57 => 131 | 63 => 137 | 64 => 31 | n => n, fun | n => n⟩
theorem Tryd.sort41 : Go.Proofs.SlLaysM.n6 Tryd.prog Tryd.sort41_ren := {
  mixed := by kernel_rfl
  f6 := ⟨Tryd.f41.name, by decide, Tryd.func41.trans (congrArg some (by kernel_rfl))⟩
  f8 := Tryd.func67.trans (congrArg some (by kernel_rfl))
  f9 := ⟨Tryd.f66.name, by decide, Tryd.func66.trans (congrArg some (by kernel_rfl))⟩
  f19 := Tryd.func85.trans (congrArg some (by kernel_rfl))
  f20 := Tryd.func86.trans (congrArg some (by kernel_rfl))
  f21 := ⟨Tryd.f76.name, by decide, Tryd.func76.trans (congrArg some (by kernel_rfl))⟩
  f22 := ⟨Tryd.f77.name, by decide, Tryd.func77.trans (congrArg some (by kernel_rfl))⟩
  f23 := ⟨Tryd.f78.name, by decide, Tryd.func78.trans (congrArg some (by kernel_rfl))⟩
  f24 := ⟨Tryd.f79.name, by decide, Tryd.func79.trans (congrArg some (by kernel_rfl))⟩
  f25 := ⟨Tryd.f80.name, by decide, Tryd.func80.trans (congrArg some (by kernel_rfl))⟩
  f26 := ⟨Tryd.f81.name, by decide, Tryd.func81.trans (congrArg some (by kernel_rfl))⟩
  f27 := ⟨Tryd.f82.name, by decide, Tryd.func82.trans (congrArg some (by kernel_rfl))⟩
  f28 := ⟨Tryd.f83.name, by decide, Tryd.func83.trans (congrArg some (by kernel_rfl))⟩
  f29 := ⟨Tryd.f84.name, by decide, Tryd.func84.trans (congrArg some (by kernel_rfl))⟩
  f31 := Tryd.func93.trans (congrArg some (by kernel_rfl))
  f32 := Tryd.func94.trans (congrArg some (by kernel_rfl))
  f36 := ⟨Tryd.f92.name, by decide, Tryd.func92.trans (congrArg some (by kernel_rfl))⟩
  f37 := ⟨Tryd.f95.name, by decide, Tryd.func95.trans (congrArg some (by kernel_rfl))⟩
  f38 := ⟨Tryd.f96.name, by decide, Tryd.func96.trans (congrArg some (by kernel_rfl))⟩
  f39 := ⟨Tryd.f97.name, by decide, Tryd.func97.trans (congrArg some (by kernel_rfl))⟩
  f41 := ⟨Tryd.f102.name, by decide, Tryd.func102.trans (congrArg some (by kernel_rfl))⟩
  t0 := Tryd.underlying0
  a0 := Tryd.isAgg0
  z0 := Tryd.sizeOf0
  v0 := Tryd.zeroValue0
  t3 := Tryd.underlying3
  a3 := Tryd.isAgg3
  z3 := Tryd.sizeOf3
  v3 := Tryd.zeroValue3
  t4 := Tryd.underlying4
  a4 := Tryd.isAgg4
  z4 := Tryd.sizeOf4
  v4 := Tryd.zeroValue4
  t5 := Tryd.underlying5
  a5 := Tryd.isAgg5
  z5 := Tryd.sizeOf5
  v5 := Tryd.zeroValue5
  t9 := Tryd.underlying9
  a9 := Tryd.isAgg9
  z9 := Tryd.sizeOf9
  v9 := Tryd.zeroValue9
  t26 := Tryd.underlying34
  a26 := Tryd.isAgg34
  z26 := Tryd.sizeOf34
  v26 := Tryd.zeroValue34
  t27 := Tryd.underlying34
  a27 := Tryd.isAgg34
  z27 := Tryd.sizeOf34
  v27 := Tryd.zeroValue34
  t29 := Tryd.underlying9
  a29 := Tryd.isAgg9
  z29 := Tryd.sizeOf9
  v29 := Tryd.zeroValue9
  t32 := Tryd.underlying106
  a32 := Tryd.isAgg106
  z32 := Tryd.sizeOf106
  v32 := Tryd.zeroValue106
  t35 := Tryd.underlying113
  a35 := Tryd.isAgg113
  z35 := Tryd.sizeOf113
  v35 := Tryd.zeroValue113
  t36 := Tryd.underlying114
  a36 := Tryd.isAgg114
  z36 := Tryd.sizeOf114
  v36 := Tryd.zeroValue114
  t41 := Tryd.underlying119
  a41 := Tryd.isAgg119
  z41 := Tryd.sizeOf119
  v41 := Tryd.zeroValue119
  t44 := Tryd.underlying122
  a44 := Tryd.isAgg122
  z44 := Tryd.sizeOf122
  v44 := Tryd.zeroValue122
  t46 := Tryd.underlying124
  a46 := Tryd.isAgg124
  z46 := Tryd.sizeOf124
  v46 := Tryd.zeroValue124
  t53 := Tryd.underlying127
  a53 := Tryd.isAgg127
  z53 := Tryd.sizeOf127
  v53 := Tryd.zeroValue127
  t57 := Tryd.underlying131
  a57 := Tryd.isAgg131
  z57 := Tryd.sizeOf131
  v57 := Tryd.zeroValue131
  t63 := Tryd.underlying137
  a63 := Tryd.isAgg137
  z63 := Tryd.sizeOf137
  v63 := Tryd.zeroValue137
  t64 := Tryd.underlying31
  a64 := Tryd.isAgg31
  z64 := Tryd.sizeOf31
  v64 := Tryd.zeroValue31 }
/-- slices.Sort's two contracts at this dump, at the fence that asks nothing. -/
theorem Tryd.sorts24 (m : Nat) : AnyZ.SortsIn Tryd.prog Tryd.sorted24_ren Fence.wide m :=
  ⟨fun blk off cap ss W hH hblk hsz => callsIn_wide.2 (AnyM.slices_Sort_string Tryd.sort41 blk off cap ss W hH hblk hsz),
   fun p cap W => callsIn_wide.2 (AnyM.slices_Sort_string_none Tryd.sort41 p cap W)⟩

/-- **maps.Keys[map[string]*mailbag/tree.node,string,*mailbag/tree.node], at whatever map, the nil one too:** a function value over ONE NEW BLOCK, which holds the map. -/
theorem Tryd.maps_Keys_25 (mb : Option Nat) (W : World) : CallsIn Fence.wide 5 Tryd.prog 25 #[.map mb] W fun e w' => e = .returned (.func (.func 42) #[] #[.pointer (some ⟨W.heap.size, 0, none⟩)]) ∧ w' = W.alloc (.cells #[.map mb] 65) :=
  AnyZ.keys_in Tryd.keys25 Fence.wide 5 trivial rfl mb W

set_option maxHeartbeats 1000000 in
/-- **slices.Sorted[string] AT WHAT maps.Keys[map[string]*mailbag/tree.node,string,*mailbag/tree.node] HANDED BACK FOR A MAP THAT IS NOT nil** ('w': the world AHEAD of maps.Keys' call): A NEW SLICE THAT HOLDS THE MAP's KEYS, SORTED; nil just where it has none; nothing that lay before has turned. -/
theorem Tryd.slices_Sorted_keys_24_25 {H : Type} (b nn : Nat) (D0 : DataW H) (R : Value → Option (DataW H × List MemPlace)) (w : World) (hown : w.ownsMap Tryd.prog 9 R b nn D0) (hmax : Maps.size D0 ≤ maxLen) (hbytes : Maps.size D0 * 16 ≤ 140737488355328) :
    CallsIn Fence.wide 5 Tryd.prog 24 #[.func (.func 42) #[] #[.pointer (some ⟨w.heap.size, 0, none⟩)]] (w.alloc (.cells #[.map (some b)] 65)) fun e w' => ∃ (v : Value) (ss : List (List UInt8)), e = .returned v ∧ ss.Perm (strKeys D0) ∧
      w'.ownsRow (w.alloc (.cells #[.map (some b)] 65)).heap.size 9 1 v ss.length ((ss.mergeSort (fun x y => decide (x ≤ y))).map encStr) ∧ (v = .slice none 0 0 ↔ ss = []) ∧ Below (w.alloc (.cells #[.map (some b)] 65)).heap.size (w.alloc (.cells #[.map (some b)] 65)) w' := by
  have hbl := hown.lt
  have hseq : SeqGives Fence.wide 2 Tryd.prog 42 #[.pointer (some ⟨w.heap.size, 0, none⟩)] encStr (fun ss => ss.Perm (strKeys D0)) (Maps.size D0) (w.alloc (.cells #[.map (some b)] 65)) :=
    AnyZ.keys_gives (ρ := Tryd.keys25_ren) { Tryd.keys25 with } Fence.wide _ trivial rfl (by omega) w.heap.size b nn D0 _ (by simp) (by simp) (by
      obtain ⟨es, clock, hb, Ft, hs, hD⟩ := hown
      exact ⟨es, clock, (Below.heap_alloc _ _ b hbl).trans hb, Ft, hs, hD⟩)
  exact AnyZ.sorted_in Tryd.sorted24 Fence.wide 5 trivial trivial trivial trivial rfl (by omega) (Tryd.sorts24 _) (enters_of Tryd.func41 (by kernel_rfl) rfl) 42 #[.pointer (some ⟨w.heap.size, 0, none⟩)] trivial (enters_of Tryd.func42 (by kernel_rfl) rfl) _ _ hmax hbytes _ hseq

set_option maxHeartbeats 1000000 in
/-- **.. AND FOR THE nil MAP: nil.** -/
theorem Tryd.slices_Sorted_keys_nil_24_25 (w : World) :
    CallsIn Fence.wide 5 Tryd.prog 24 #[.func (.func 42) #[] #[.pointer (some ⟨w.heap.size, 0, none⟩)]] (w.alloc (.cells #[.map none] 65)) fun e w' => ∃ (v : Value) (ss : List (List UInt8)), e = .returned v ∧ ss = [] ∧
      w'.ownsRow (w.alloc (.cells #[.map none] 65)).heap.size 9 1 v ss.length ((ss.mergeSort (fun x y => decide (x ≤ y))).map encStr) ∧ (v = .slice none 0 0 ↔ ss = []) ∧ Below (w.alloc (.cells #[.map none] 65)).heap.size (w.alloc (.cells #[.map none] 65)) w' := by
  have hseq : SeqGives Fence.wide 2 Tryd.prog 42 #[.pointer (some ⟨w.heap.size, 0, none⟩)] encStr (fun ss : List (List UInt8) => ss = []) 0 (w.alloc (.cells #[.map none] 65)) :=
    AnyZ.keys_gives_nil (ρ := Tryd.keys25_ren) { Tryd.keys25 with } Fence.wide _ trivial rfl w.heap.size _ (by simp) (by simp)
  exact AnyZ.sorted_in Tryd.sorted24 Fence.wide 5 trivial trivial trivial trivial rfl (by omega) (Tryd.sorts24 _) (enters_of Tryd.func41 (by kernel_rfl) rfl) 42 #[.pointer (some ⟨w.heap.size, 0, none⟩)] trivial (enters_of Tryd.func42 (by kernel_rfl) rfl) _ 0 (Nat.zero_le _) (by omega) _ hseq

end Go.Proofs
