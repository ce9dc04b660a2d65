/- DERIVED: THE SHELF's CONTRACTS AT THIS DUMP, IN PLAIN WORDS (tools/lay-plain.mjs out of 'YtpdcjdangnfeiaaGreatDoorSh0.lean', which tools/lay-shelf.mjs wrote): THE SAME DECLARATIONS UNDER THE SAME NAMES: 'import', 'namespace', 'open', 'def', 'theorem' AND NOTHING ELSE: no command of the shelf's: FOR A HAND-IN. Each laying: the table of numbers ('.._ren') and one theorem, a field a fact of the dump's own or the kernel's comparison; each contract: ONE APPLICATION. path.check and path.Split walked: what is wrong with names; a path's names. A node's small methods walked: how many blocks it takes, how many more a name wants. A node's methods walked: how many blocks more a name wants, a name put in; a new node. A new node, a new tree walked. find walked: the way to a name. isFile, Free walked. -/
import Derived.Shelf.Small.Bits
import Derived.Shelf.Small.Wraps
import Derived.Shelf.Utf8.RuneCount
import Derived.Shelf.Strconv.Itoa0
import Derived.Shelf.Strings.Search1
import Derived.Shelf.Strings.Search2
import Derived.Shelf.Strings.Search3
import Derived.Shelf.Strings.Count
import Derived.Shelf.LaysM
import Derived.Shelf.Strings.Shaped
import Derived.Shelf.Sort.Plain
import Derived.Shelf.Strings.Prefix
import Derived.Shelf.Strings.Split
import Derived.Shelf.Strings.SplitShaped
import Derived.Shelf.Unicode.Decode
import Derived.Shelf.Strings.RuneCount
import Derived.Shelf.Strings.Explode
import Derived.Shelf.Unicode.DecodeSlow
import Derived.Shelf.Unicode.DecodeAny
import Derived.Shelf.Slices.Equal
import Derived.Shelf.Slices.In.SortNone
import Derived.Shelf.Slices.Empties2
import Derived.Shelf.Bytes.SlEqualAll
import Derived.Shelf.Bytes.Small
import Derived.Test.YtpdcjdangnfeiaaGreatDoorProg
import Derived.Test.YtpdcjdangnfeiaaGreatDoorYc
import Derived.Test.YtpdcjdangnfeiaaGreatDoorYd
import Derived.Lib.Hide
import Derived.Lib.Strings
import Derived.Deep.RegionHeld3
import Derived.Deep.LoopGhost
import Derived.Deep.Light
import Derived.WalkMore
import Derived.Outline
import Derived.Deep.QuietTactic
import Derived.BigQuiet
import Derived.Maps.OwnOps
import Derived.StillTailTactics
section
open Go.Shelf
namespace Go.Proofs
def Tryz.lays103_ren : Go.Shelf.Ren := ⟨fun | 103 => 63 | 210 => 92 | 206 => 111 | n => n, fun | 9 => 9 | 4 => 4 | 24 => 124 | 3 => 3 | n => n, fun | n => n⟩
theorem Tryz.lays103 : Go.Proofs.Lays.n103 Tryz.prog Tryz.lays103_ren := {
  mixed := by kernel_rfl
  f103 := Tryz.func63.trans (congrArg some (by kernel_rfl))
  f206 := Tryz.func111.trans (congrArg some (by kernel_rfl))
  f210 := Tryz.func92.trans (congrArg some (by kernel_rfl))
  t3 := Tryz.underlying3
  a3 := Tryz.isAgg3
  z3 := Tryz.sizeOf3
  v3 := Tryz.zeroValue3
  t4 := Tryz.underlying4
  a4 := Tryz.isAgg4
  z4 := Tryz.sizeOf4
  v4 := Tryz.zeroValue4
  t9 := Tryz.underlying9
  a9 := Tryz.isAgg9
  z9 := Tryz.sizeOf9
  v9 := Tryz.zeroValue9
  t24 := Tryz.underlying124
  a24 := Tryz.isAgg124
  z24 := Tryz.sizeOf124
  v24 := Tryz.zeroValue124 }
open Go.RowKit in
/-- strings.CutPrefix: "CutPrefix returns s without the provided leading prefix string and reports whether it found the prefix. If s doesn't start with prefix, CutPrefix returns s, false. If prefix is the empty string, CutPrefix returns s, true.": IT RETURNS '(Lib.trimPrefix s p, Lib.hasPrefix s p)'; the world is as it was. (LAID: no walk: one application.) -/
theorem Tryz.strings_CutPrefix (s p : ByteArray) (w : World) :
    Calls Tryz.prog 63 #[.string s, .string p] w fun e w' => e = .returned (.tuple #[.string ⟨(Lib.trimPrefix s.data.toList p.data.toList).toArray⟩, .bool (Lib.hasPrefix s.data.toList p.data.toList)]) ∧ w' = w := Any.strings_CutPrefix Tryz.lays103 s p w
def Tryz.lays190_ren : Go.Shelf.Ren := ⟨fun | 190 => 61 | 125 => 91 | 258 => 90 | 128 => 109 | 129 => 110 | 302 => 100 | 303 => 101 | 304 => 102 | 305 => 103 | 306 => 104 | 307 => 105 | 308 => 106 | 309 => 107 | 310 => 108 | 333 => 116 | 329 => 117 | 330 => 118 | 334 => 119 | 335 => 120 | 336 => 121 | 344 => 126 | n => n, fun | 31 => 47 | 9 => 9 | 3 => 3 | 46 => 142 | 0 => 0 | 51 => 157 | 53 => 159 | 4 => 4 | 183 => 149 | 182 => 148 | 131 => 154 | 5 => 5 | 218 => 163 | 222 => 167 | 228 => 173 | 229 => 50 | n => n, fun | n => n⟩
theorem Tryz.lays190 : Go.Proofs.Lays.n190 Tryz.prog Tryz.lays190_ren := {
  mixed := by kernel_rfl
  f125 := Tryz.func91.trans (congrArg some (by kernel_rfl))
  f128 := Tryz.func109.trans (congrArg some (by kernel_rfl))
  f129 := Tryz.func110.trans (congrArg some (by kernel_rfl))
  f190 := Tryz.func61.trans (congrArg some (by kernel_rfl))
  f258 := Tryz.func90.trans (congrArg some (by kernel_rfl))
  f302 := Tryz.func100.trans (congrArg some (by kernel_rfl))
  f303 := Tryz.func101.trans (congrArg some (by kernel_rfl))
  f304 := Tryz.func102.trans (congrArg some (by kernel_rfl))
  f305 := Tryz.func103.trans (congrArg some (by kernel_rfl))
  f306 := Tryz.func104.trans (congrArg some (by kernel_rfl))
  f307 := Tryz.func105.trans (congrArg some (by kernel_rfl))
  f308 := Tryz.func106.trans (congrArg some (by kernel_rfl))
  f309 := Tryz.func107.trans (congrArg some (by kernel_rfl))
  f310 := Tryz.func108.trans (congrArg some (by kernel_rfl))
  f329 := Tryz.func117.trans (congrArg some (by kernel_rfl))
  f330 := Tryz.func118.trans (congrArg some (by kernel_rfl))
  f333 := Tryz.func116.trans (congrArg some (by kernel_rfl))
  f334 := Tryz.func119.trans (congrArg some (by kernel_rfl))
  f335 := Tryz.func120.trans (congrArg some (by kernel_rfl))
  f336 := Tryz.func121.trans (congrArg some (by kernel_rfl))
  f344 := Tryz.func126.trans (congrArg some (by kernel_rfl))
  t0 := Tryz.underlying0
  a0 := Tryz.isAgg0
  z0 := Tryz.sizeOf0
  v0 := Tryz.zeroValue0
  t3 := Tryz.underlying3
  a3 := Tryz.isAgg3
  z3 := Tryz.sizeOf3
  v3 := Tryz.zeroValue3
  t4 := Tryz.underlying4
  a4 := Tryz.isAgg4
  z4 := Tryz.sizeOf4
  v4 := Tryz.zeroValue4
  t5 := Tryz.underlying5
  a5 := Tryz.isAgg5
  z5 := Tryz.sizeOf5
  v5 := Tryz.zeroValue5
  t9 := Tryz.underlying9
  a9 := Tryz.isAgg9
  z9 := Tryz.sizeOf9
  v9 := Tryz.zeroValue9
  t31 := Tryz.underlying47
  a31 := Tryz.isAgg47
  z31 := Tryz.sizeOf47
  v31 := Tryz.zeroValue47
  t46 := Tryz.underlying142
  a46 := Tryz.isAgg142
  z46 := Tryz.sizeOf142
  v46 := Tryz.zeroValue142
  t51 := Tryz.underlying157
  a51 := Tryz.isAgg157
  z51 := Tryz.sizeOf157
  v51 := Tryz.zeroValue157
  t53 := Tryz.underlying159
  a53 := Tryz.isAgg159
  z53 := Tryz.sizeOf159
  v53 := Tryz.zeroValue159
  t131 := Tryz.underlying154
  a131 := Tryz.isAgg154
  z131 := Tryz.sizeOf154
  v131 := Tryz.zeroValue154
  t182 := Tryz.underlying148
  a182 := Tryz.isAgg148
  z182 := Tryz.sizeOf148
  v182 := Tryz.zeroValue148
  t183 := Tryz.underlying149
  a183 := Tryz.isAgg149
  z183 := Tryz.sizeOf149
  v183 := Tryz.zeroValue149
  t218 := Tryz.underlying163
  a218 := Tryz.isAgg163
  z218 := Tryz.sizeOf163
  v218 := Tryz.zeroValue163
  t222 := Tryz.underlying167
  a222 := Tryz.isAgg167
  z222 := Tryz.sizeOf167
  v222 := Tryz.zeroValue167
  t228 := Tryz.underlying173
  a228 := Tryz.isAgg173
  z228 := Tryz.sizeOf173
  v228 := Tryz.zeroValue173
  t229 := Tryz.underlying50
  a229 := Tryz.isAgg50
  z229 := Tryz.sizeOf50
  v229 := Tryz.zeroValue50 }
open Go.Sort Go.RowKit in
theorem Tryz.slices_Sort_string (blk off cap : Nat) (ss : List (List UInt8)) (w : World) (hH : Holds encStr w blk off ss.toArray) (hblk : blk < w.heap.size) (hsz : ss.length < 4611686018427387904) :
    Calls Tryz.prog 61 #[.slice (some ⟨blk, off, none⟩) ss.length cap] w fun e w' =>
      e = .returned (.tuple #[]) ∧ ∃ n os, w' = grow (putRow encStr (Sort.ahead w n) blk off (ss.mergeSort fun x y => decide (x ≤ y)).toArray) os := Any.slices_Sort_string Tryz.lays190 blk off cap ss w hH hblk hsz
def Tryz.lays146_ren : Go.Shelf.Ren := ⟨fun | 146 => 64 | 221 => 93 | 268 => 112 | 138 => 113 | 143 => 114 | 195 => 122 | 197 => 123 | 218 => 124 | 219 => 125 | 260 => 127 | 217 => 128 | 225 => 129 | 224 => 130 | 267 => 131 | 266 => 132 | 314 => 133 | n => n, fun | 9 => 9 | 31 => 47 | 3 => 3 | 4 => 4 | 0 => 0 | 105 => 170 | 21 => 21 | 5 => 5 | 46 => 142 | 119 => 175 | 139 => 178 | 138 => 177 | 146 => 179 | 51 => 157 | n => n, fun | 1 => 0 | 3 => 1 | 4 => 2 | n => n⟩
theorem Tryz.lays146 : Go.Proofs.Lays.n146 Tryz.prog Tryz.lays146_ren := {
  mixed := by kernel_rfl
  f138 := Tryz.func113.trans (congrArg some (by kernel_rfl))
  f143 := Tryz.func114.trans (congrArg some (by kernel_rfl))
  f146 := Tryz.func64.trans (congrArg some (by kernel_rfl))
  f195 := Tryz.func122.trans (congrArg some (by kernel_rfl))
  f197 := Tryz.func123.trans (congrArg some (by kernel_rfl))
  f217 := Tryz.func128.trans (congrArg some (by kernel_rfl))
  f218 := Tryz.func124.trans (congrArg some (by kernel_rfl))
  f219 := Tryz.func125.trans (congrArg some (by kernel_rfl))
  f221 := Tryz.func93.trans (congrArg some (by kernel_rfl))
  f224 := Tryz.func130.trans (congrArg some (by kernel_rfl))
  f225 := Tryz.func129.trans (congrArg some (by kernel_rfl))
  f260 := Tryz.func127.trans (congrArg some (by kernel_rfl))
  f266 := Tryz.func132.trans (congrArg some (by kernel_rfl))
  f267 := Tryz.func131.trans (congrArg some (by kernel_rfl))
  f268 := Tryz.func112.trans (congrArg some (by kernel_rfl))
  f314 := Tryz.func133.trans (congrArg some (by kernel_rfl))
  t0 := Tryz.underlying0
  a0 := Tryz.isAgg0
  z0 := Tryz.sizeOf0
  v0 := Tryz.zeroValue0
  t3 := Tryz.underlying3
  a3 := Tryz.isAgg3
  z3 := Tryz.sizeOf3
  v3 := Tryz.zeroValue3
  t4 := Tryz.underlying4
  a4 := Tryz.isAgg4
  z4 := Tryz.sizeOf4
  v4 := Tryz.zeroValue4
  t5 := Tryz.underlying5
  a5 := Tryz.isAgg5
  z5 := Tryz.sizeOf5
  v5 := Tryz.zeroValue5
  t9 := Tryz.underlying9
  a9 := Tryz.isAgg9
  z9 := Tryz.sizeOf9
  v9 := Tryz.zeroValue9
  t21 := Tryz.underlying21
  a21 := Tryz.isAgg21
  z21 := Tryz.sizeOf21
  v21 := Tryz.zeroValue21
  t31 := Tryz.underlying47
  a31 := Tryz.isAgg47
  z31 := Tryz.sizeOf47
  v31 := Tryz.zeroValue47
  t46 := Tryz.underlying142
  a46 := Tryz.isAgg142
  z46 := Tryz.sizeOf142
  v46 := Tryz.zeroValue142
  t51 := Tryz.underlying157
  a51 := Tryz.isAgg157
  z51 := Tryz.sizeOf157
  v51 := Tryz.zeroValue157
  t105 := Tryz.underlying170
  a105 := Tryz.isAgg170
  z105 := Tryz.sizeOf170
  v105 := Tryz.zeroValue170
  t119 := Tryz.underlying175
  a119 := Tryz.isAgg175
  z119 := Tryz.sizeOf175
  t138 := Tryz.underlying177
  a138 := Tryz.isAgg177
  z138 := Tryz.sizeOf177
  v138 := Tryz.zeroValue177
  t139 := Tryz.underlying178
  a139 := Tryz.isAgg178
  z139 := Tryz.sizeOf178
  v139 := Tryz.zeroValue178
  t146 := Tryz.underlying179
  a146 := Tryz.isAgg179
  z146 := Tryz.sizeOf179
  v146 := Tryz.zeroValue179
  g1 := by kernel_rfl
  g3 := by kernel_rfl
  g4 := by kernel_rfl }
open Go.RowKit Go.Lib in
/-- strings.Split. (LAID: no walk: one application.) -/
theorem Tryz.strings_Split (s sep : ByteArray) (m : Int) (w : World) (hs : s.size < 4294967281) (hm : w.cell? ⟨0, 0, none⟩ = some (.int .i64 m)) (h1 : 1 ≤ sep.size) :
    Calls Tryz.prog 64 #[.string s, .string sep] w fun e w' =>
      e = .returned (.slice (some ⟨w.heap.size, 0, none⟩) (Lib.countB s sep + 1) (Lib.countB s sep + 1)) ∧ w' = w.alloc (.cells ((Lib.splitB sep 0 (Lib.countB s sep) s).map Value.string).toArray 9) := Any.strings_Split Tryz.lays146 (by kernel_rfl) s sep m w hs hm h1
def Tryz.lays193_ren : Go.Shelf.Ren := ⟨fun | 193 => 78 | n => n, fun | 31 => 47 | 9 => 9 | 4 => 4 | 3 => 3 | 0 => 0 | n => n, fun | n => n⟩
theorem Tryz.lays193 : Go.Proofs.Lays.n193 Tryz.prog Tryz.lays193_ren := {
  mixed := by kernel_rfl
  f193 := Tryz.func78.trans (congrArg some (by kernel_rfl))
  t0 := Tryz.underlying0
  a0 := Tryz.isAgg0
  z0 := Tryz.sizeOf0
  v0 := Tryz.zeroValue0
  t3 := Tryz.underlying3
  a3 := Tryz.isAgg3
  z3 := Tryz.sizeOf3
  v3 := Tryz.zeroValue3
  t4 := Tryz.underlying4
  a4 := Tryz.isAgg4
  z4 := Tryz.sizeOf4
  v4 := Tryz.zeroValue4
  t9 := Tryz.underlying9
  a9 := Tryz.isAgg9
  z9 := Tryz.sizeOf9
  v9 := Tryz.zeroValue9
  t31 := Tryz.underlying47
  a31 := Tryz.isAgg47
  z31 := Tryz.sizeOf47
  v31 := Tryz.zeroValue47 }
open Go.RowKit Go.Lib in
/-- slices.Equal at []string: "Equal reports whether two slices are equal: the same length and all elements equal. If the lengths are different, Equal returns false. Otherwise, the elements are compared in increasing index order, and the comparison stops at the first unequal pair. Empty and nil slices are considered equal.": IT RETURNS WHETHER THE TWO LISTS OF ELEMENTS ARE ONE; the world is as it was but for the count of draws (the test 's1[i] != s2[i]' has two reads, whose order the model draws, once a round). 'xs', 'ys': what the cells behind the two addresses hold (the spare capacity too, if you have it); 'xs.take n', 'ys.take m': the elements. THE TWO SLICES MAY OVERLAP. (LAID: no walk: one application.) -/
theorem Tryz.slices_Equal_string (b1 o1 n c b2 o2 m d : Nat) (xs ys : List ByteArray) (w : World) (hx : n ≤ xs.length) (hy : m ≤ ys.length) (hbig : n ≤ 9223372036854775807) (hbig2 : m ≤ 9223372036854775807) (hc1 : ∀ j, j < xs.length → w.cell? ⟨b1, o1 + j, none⟩ = some (.string (xs.getD j ByteArray.empty))) (hc2 : ∀ j, j < ys.length → w.cell? ⟨b2, o2 + j, none⟩ = some (.string (ys.getD j ByteArray.empty))) :
    Calls Tryz.prog 78 #[.slice (some ⟨b1, o1, none⟩) n c, .slice (some ⟨b2, o2, none⟩) m d] w fun e w' => e = .returned (.bool (decide (xs.take n = ys.take m))) ∧ ∃ q, w' = w.drewN q := Any.slices_Equal_string Tryz.lays193 b1 o1 n c b2 o2 m d xs ys w hx hy hbig hbig2 hc1 hc2
open Go.RowKit Go.Sort in
/-- .. and plain. (LAID: no walk: one application.) -/
theorem Tryz.slices_Sort_string_none (p : Option Addr) (cap : Nat) (w : World) :
    Calls Tryz.prog 61 #[.slice p 0 cap] w fun e w' => e = .returned (.tuple #[]) ∧ w' = w := Any.slices_Sort_string_none Tryz.lays190 p cap w
end Go.Proofs
end
section
open Go.RowKit Go.Proofs.YtpdcjdangnfeiaaGreatDoor.Pb Go.Proofs.YtpdcjdangnfeiaaGreatDoor.PPth Go.Proofs.YtpdcjdangnfeiaaGreatDoorW.PrintWords Go.Proofs.YtpdcjdangnfeiaaGreatDoorW.PrintLast Go.Proofs.YtpdcjdangnfeiaaGreatDoorW.PrintMore
namespace Go.Proofs.YtpdcjdangnfeiaaGreatDoor.Qa
def tb (l : List UInt8) : ByteArray := ⟨l.toArray⟩
def tl (s : ByteArray) : List UInt8 := s.data.toList
theorem tb_tl (s : ByteArray) : tb (tl s) = s := by cases s; rfl
theorem tl_tb (l : List UInt8) : tl (tb l) = l := by simp [tl, tb]
theorem tl_len (s : ByteArray) : (tl s).length = s.size := by simp [tl]
theorem tl_inj {a b : ByteArray} : tl a = tl b ↔ a = b := ⟨fun h => by rw [← tb_tl a, ← tb_tl b, h], fun h => by rw [h]⟩
theorem map_tb_tl (l : List ByteArray) : (l.map tl).map tb = l := by
  rw [List.map_map]; exact (List.map_congr_left (fun x _ => tb_tl x)).trans (List.map_id l)
def nmB (s : ByteArray) : Bool := nmL s.data.toList
theorem w64 {x : Int} (h : -9223372036854775808 ≤ x) (h' : x ≤ 9223372036854775807) : wrap64 x = x := by
  unfold wrap64; omega
theorem bt_get (s : ByteArray) (i : Nat) (h : i < s.data.toList.length) : bt s (i : Int) = ((s.data.toList[i]'h).toNat : Int) := by
  have h' : i < s.size := by simpa using h
  unfold bt
  rw [dif_pos (by rw [Int.toNat_natCast]; exact h')]
  rfl
theorem data_len (s : ByteArray) : s.data.toList.length = s.size := by simp
theorem name_l (s : ByteArray) (hs : s.size ≤ 48) (d : Nat) : ∀ (k i : Nat), i + d = s.size → d < k →
    dir_Name.l0 k s (s.size : Int) (i : Int) = some ((s.data.toList.drop i).all okC) := by
  induction d with
  | zero =>
    intro k i hi hk
    obtain ⟨k, rfl⟩ : ∃ m, k = m + 1 := ⟨k - 1, by omega⟩
    have hd : s.data.toList.drop i = [] := List.drop_of_length_le (by rw [data_len]; omega)
    simp only [dir_Name.l0]
    rw [if_neg (by omega), hd]
    rfl
  | succ d ih =>
    intro k i hi hk
    obtain ⟨k, rfl⟩ : ∃ m, k = m + 1 := ⟨k - 1, by omega⟩
    have hlt : i < s.data.toList.length := by rw [data_len]; omega
    have hd : (s.data.toList.drop i).all okC = (okC (s.data.toList[i]'hlt) && (s.data.toList.drop (i + 1)).all okC) := by
      rw [List.drop_eq_getElem_cons hlt]; rfl
    have hw : wrap64 ((i : Int) + 1) = ((i + 1 : Nat) : Int) := by rw [w64 (by omega) (by omega)]; omega
    have i1 := ih k (i + 1) (by omega) (by omega)
    have hb := bt_get s i hlt
    simp only [dir_Name.l0]
    rw [if_pos (show (i : Int) < (s.size : Int) by omega), if_pos (show (0 : Int) ≤ (i : Int) by omega), if_pos (show (i : Int) < (s.size : Int) by omega), hb, hd, hw]
    generalize s.data.toList[i]'hlt = c at hb ⊢
    by_cases b1 : (c.toNat : Int) < 33
    · have : okC c = false := by simp [okC]; omega
      rw [if_pos b1, this]; rfl
    rw [if_neg b1]
    by_cases b2 : (c.toNat : Int) > 126
    · have : okC c = false := by simp [okC]; omega
      rw [if_pos b2, this]; rfl
    rw [if_neg b2]
    by_cases b3 : (c.toNat : Int) = 47
    · have : okC c = false := by simp [okC]; omega
      rw [if_pos b3, this]; rfl
    rw [if_neg b3, i1]
    have : okC c = true := by simp [okC]; omega
    rw [this]; rfl
theorem name_eq (s : ByteArray) (k : Nat) (hk : 60 ≤ k) : dir_Name.f k s = some (nmL (tl s)) := by
  obtain ⟨k, rfl⟩ : ∃ m, k = m + 1 := ⟨k - 1, by omega⟩
  unfold dir_Name.f
  show _ = some (nmL s.data.toList)
  unfold nmL
  rw [Lib.toList_data, data_len]
  have jt : dir_Name.j0 (k + 1) s true = some false :=
    by simp only [dir_Name.j0, if_true]
  by_cases c1 : s.data.toList = []
  · rw [if_pos c1, jt, c1]; rfl
  rw [if_neg c1]
  by_cases c2 : (s.size : Int) > 48
  · rw [if_pos c2, jt]
    have : decide (s.size ≤ 48) = false := by simp; omega
    simp [this]
  rw [if_neg c2]
  have h2 : decide (s.size ≤ 48) = true := by simp; omega
  have h1 : (s.data.toList != []) = true := by simpa using c1
  by_cases c3 : s.data.toList = [46]
  · rw [if_pos c3, jt, c3]; simp
  rw [if_neg c3]
  have h3 : (s.data.toList != [46]) = true := by simpa using c3
  by_cases c4 : s.data.toList = [46, 46]
  · have : (s.data.toList == ([46, 46] : List UInt8)) = true := by rw [c4]; rfl
    rw [this, jt, c4]; simp
  have h4 : (s.data.toList == ([46, 46] : List UInt8)) = false := by simpa using c4
  have l1 := name_l s (by omega) s.size k 0 (by omega) (by omega)
  rw [h4]
  simp only [dir_Name.j0]
  rw [if_neg (by decide)]
  have h5 : (s.data.toList != [46, 46]) = true := by simpa using c4
  rw [h1, h2, h3, h5]
  simp only [Bool.true_and]
  rw [List.drop_zero] at l1
  exact l1
theorem ret_int {k : IntKind} {a b : Int} (h : a = b) : Ending.returned (.int k a) = .returned (.int k b) := by rw [h]
theorem bt {w w1 w2 : World} (h : Below w.heap.size w w1) (k : Below w1.heap.size w1 w2) : Below w.heap.size w w2 := h.trans (k.mono h.size)
theorem keepC {w2 w3 : World} {b o : Nat} {v : Value} (hb : Below w2.heap.size w2 w3) (h : w2.cell? ⟨b, o, none⟩ = some v) : w3.cell? ⟨b, o, none⟩ = some v :=
  (hb.cell (p := ⟨b, o, none⟩) (World.block_lt_of_cell? _ _ h)).trans h
theorem bdraw (w : World) (n : Nat) : Below w.heap.size w (w.drewN n) := ⟨rfl, rfl, rfl, Nat.le_refl _, fun _ _ => rfl⟩
/-- A row of texts that is read. -/
def RdS (w : World) (A : Option Addr) (l : List ByteArray) : Prop :=
  l = [] ∨ ∃ b o, A = some ⟨b, o, none⟩ ∧ ∀ j x, l[j]? = some x → w.cell? ⟨b, o + j, none⟩ = some (.string x)
theorem RdS.below {w w1 : World} {A : Option Addr} {l : List ByteArray} (h : RdS w A l) (hb : Below w.heap.size w w1) : RdS w1 A l := by
  rcases h with h | ⟨b, o, e, h⟩
  · exact .inl h
  · exact .inr ⟨b, o, e, fun j x hx => keepC hb (h j x hx)⟩
theorem RdS.cell {w : World} {A : Option Addr} {l : List ByteArray} (h : RdS w A l) (j : Nat) (hj : j < l.length) : ∃ b o, A = some ⟨b, o, none⟩ ∧ w.cell? ⟨b, o + j, none⟩ = some (.string l[j]) := by
  rcases h with rfl | ⟨b, o, e, h⟩
  · exact absurd hj (by simp)
  · exact ⟨b, o, e, h j _ (List.getElem?_eq_getElem hj)⟩
theorem name_any (s : ByteArray) (w : World) : Calls Tryz.prog 94 #[.string s] w fun e w' => e = .returned (.bool (nmL (tl s))) ∧ Below w.heap.size w w' :=
  (dir_Name.calls 100 s _ w (name_eq s 100 (by decide))).mono fun _ _ ⟨he, hd⟩ => ⟨he, by obtain ⟨⟨n, rfl⟩⟩ := hd; exact bdraw _ _⟩
set_option maxHeartbeats 1000000 in
theorem check_any (A : Option Addr) (c : Nat) (l : List ByteArray) (w : World) (hr : RdS w A l) (hl : l.length ≤ 1000) :
    Calls Tryz.prog 65 #[.slice A l.length c] w fun e w' => e = .returned (.int .i64 (chk (l.map tl))) ∧ Below w.heap.size w w' := by
  have HR := Lib.hid hr
  have hL : ((l.length : Nat) : Int) ≤ 1000 := by omega
  clear hr
  go_enter Tryz.func65, Tryz.ntmps65
  go_wp2_with fail
  go_step3
  go_wp2_with fail
  go_step3
  go_wp2_with fail
  go_loopw [3, 8] (fun bd i wr => ∃ k : Nat, k ≤ l.length ∧ bd = .bool false ∧ i = .int .i64 k ∧ Hid (((l.take k).map tl).all nmL = true) ∧ Hid (Below w.heap.size w wr)) (fun _ i _ => l.length - (intOf i).toNat)
  case atStart => exact ⟨0, Nat.zero_le _, rfl, rfl, Lib.hid (by simp), Lib.hid (Below.refl _ _)⟩
  case round =>
    obtain ⟨k, hk, rfl, rfl, HA, HB⟩ := hrel
    by_cases hlt : k < l.length
    · obtain ⟨b, o, rfl, hc⟩ := (HR.out.below HB.out).cell k hlt
      have hts : Hid (((l.take (k + 1)).map tl).all nmL = nmL (tl l[k])) := Lib.hid (by
        rw [List.take_succ_eq_append_getElem hlt, List.map_append, List.all_append, HA.out]; simp)
      by_cases hn : nmL (tl l[k]) = true
      · have HN := Lib.hid hn
        generalize l[k] = x at hc hn HN hts
        go_wp2_with fail
        refine (name_any x _).mono ?_
        rintro e w2 ⟨rfl, hb⟩
        rw [HN.out]
        have HB2 := Lib.hid (bt HB.out hb)
        clear hb
        go_wp2
        go_roundw
        case rel =>
          go_light
          exact ⟨k + 1, by omega, rfl, by go_num, Lib.hid (by rw [hts.out, HN.out]), HB2⟩
        case measure =>
          go_light
          simp [intOf]; omega
      · have hF : Hid (chk (l.map tl) = 12) := Lib.hid (by
          unfold chk
          rw [if_neg]
          intro h
          exact hn (List.all_eq_true.1 h _ (List.mem_map.2 ⟨_, List.getElem_mem hlt, rfl⟩)))
        have HN : Hid (nmL (tl l[k]) = false) := Lib.hid (by simpa using hn)
        generalize l[k] = x at hc hn HN hts
        go_wp2_with fail
        refine (name_any x _).mono ?_
        rintro e w2 ⟨rfl, hb⟩
        rw [HN.out]
        have HB2 := Lib.hid (bt HB.out hb)
        clear hb
        go_wp2
        rw [Exit.noGoto_ret]
        go_ret
        exact ⟨ret_int hF.out.symm, HB2.out⟩
    · have hall : Hid ((l.map tl).all nmL = true) := Lib.hid (by
        have h := HA.out
        rwa [List.take_of_length_le (by omega)] at h)
      by_cases h8 : (8 : Int) < l.length
      · have hF : Hid (chk (l.map tl) = 5) := Lib.hid (by unfold chk; rw [if_pos hall.out, if_pos (by simp; omega)])
        go_wp2
        rw [Exit.noGoto_ret]
        go_ret
        exact ⟨ret_int hF.out.symm, HB.out⟩
      · have hF : Hid (chk (l.map tl) = 0) := Lib.hid (by unfold chk; rw [if_pos hall.out, if_neg (by simp; omega)])
        go_wp2
        go_ret
        exact ⟨ret_int hF.out.symm, HB.out⟩
theorem cell_of_block {w : World} {g : Nat} {cs : Array Value} {t : TypeId} {fr : Nat × Nat} (h : w.heap[g]? = some (.cells cs t fr)) (i : Nat) : w.cell? ⟨g, i, none⟩ = cs[i]? := by simp [World.cell?, h]
theorem rdS_new (w : World) (ps : List ByteArray) : RdS (w.alloc (.cells (ps.map Value.string).toArray 9)) (some ⟨w.heap.size, 0, none⟩) ps :=
  .inr ⟨_, 0, rfl, fun j x hj => by rw [cell_of_block (heap_alloc_new w _)]; simp [hj]⟩
/-- What path.Split leaves: the names, in new memory or none, and what is wrong. -/
def SplitPost (l : List UInt8) (w : World) (e : Ending) (w' : World) : Prop :=
  ∃ A c, e = .returned (.tuple #[.slice A ((splitL l).1.map tb).length c, .int .i64 (splitL l).2]) ∧ RdS w' A ((splitL l).1.map tb) ∧ ((splitL l).1.map tb).length ≤ c ∧ Below w.heap.size w w'
theorem splitPost_none {l : List UInt8} {w w' : World} {e : Ending} {x : Int} (h : splitL l = ([], x)) (he : e = .returned (.tuple #[.slice none 0 0, .int .i64 x])) (hb : Below w.heap.size w w') : SplitPost l w e w' := by
  refine ⟨none, 0, ?_, ?_, ?_, hb⟩
  · rw [h]; exact he
  · rw [h]; exact .inl rfl
  · rw [h]; simp
set_option maxHeartbeats 1000000 in
theorem split_any (s : ByteArray) (m : Int) (w : World) (hm : w.cell? ⟨0, 0, none⟩ = some (.int .i64 m)) :
    Calls Tryz.prog 35 #[.string s] w (SplitPost (tl s) w) := by
  have HM := Lib.hid hm
  clear hm
  by_cases c1 : (256 : Int) < s.size
  · have HF : Hid (splitL (tl s) = ([], 5)) := Lib.hid (by unfold splitL; rw [if_pos (by rw [tl_len]; omega)])
    go_enter Tryz.func35, Tryz.ntmps35
    go_wp2
    go_ret2
    exact splitPost_none HF.out rfl (Below.refl _ _)
  have hlen : ¬ (tl s).length > 256 := by rw [tl_len]; omega
  cases hs : tl s with
  | nil =>
    have HF : Hid (splitL (tl s) = ([], 12)) := Lib.hid (by rw [hs]; rfl)
    have e1 : Lib.hasPrefix s.data.toList (⟨#[47]⟩ : ByteArray).data.toList = false := by rw [show s.data.toList = [] from hs]; rfl
    rw [← hs]
    have E1 := Lib.hid e1
    clear hs e1 hlen
    go_enter Tryz.func35, Tryz.ntmps35
    go_wp2_with fail
    refine (Tryz.strings_CutPrefix _ _ _).mono ?_
    rintro e w' ⟨rfl, rfl⟩
    rw [E1.out]
    go_wp2
    go_ret2
    exact splitPost_none HF.out rfl (Below.refl _ _)
  | cons a r =>
    by_cases c2 : a = 47
    rotate_left
    · have HF : Hid (splitL (tl s) = ([], 12)) := Lib.hid (by rw [hs] at hlen ⊢; unfold splitL; rw [if_neg hlen]; simp [c2])
      have e1 : Lib.hasPrefix s.data.toList (⟨#[47]⟩ : ByteArray).data.toList = false := by rw [show s.data.toList = a :: r from hs]; simp [Lib.hasPrefix, List.isPrefixOf, Ne.symm c2]
      rw [← hs]
      have E1 := Lib.hid e1
      clear hs e1 hlen c2
      go_enter Tryz.func35, Tryz.ntmps35
      go_wp2_with fail
      refine (Tryz.strings_CutPrefix _ _ _).mono ?_
      rintro e w' ⟨rfl, rfl⟩
      rw [E1.out]
      go_wp2
      go_ret2
      exact splitPost_none HF.out rfl (Below.refl _ _)
    subst c2
    have e1 : Lib.hasPrefix s.data.toList (⟨#[47]⟩ : ByteArray).data.toList = true := by rw [show s.data.toList = 47 :: r from hs]; simp [Lib.hasPrefix, List.isPrefixOf]
    have e2 : Lib.trimPrefix s.data.toList (⟨#[47]⟩ : ByteArray).data.toList = r := by rw [show s.data.toList = 47 :: r from hs]; simp [Lib.trimPrefix, Lib.hasPrefix, List.isPrefixOf]
    by_cases c3 : r = []
    · have HF : Hid (splitL (tl s) = ([], 0)) := Lib.hid (by rw [hs] at hlen ⊢; unfold splitL; rw [if_neg hlen]; simp [c3])
      rw [← hs]
      have E1 := Lib.hid e1
      have E2 := Lib.hid (e2.trans c3)
      clear hs e1 e2 hlen c3
      go_enter Tryz.func35, Tryz.ntmps35
      go_wp2_with fail
      refine (Tryz.strings_CutPrefix _ _ _).mono ?_
      rintro e w' ⟨rfl, rfl⟩
      rw [E1.out, E2.out]
      go_wp2
      go_ret2
      exact splitPost_none HF.out rfl (Below.refl _ _)
    have hr : (tb r).size ≤ 256 := by rw [← tl_len, tl_tb]; rw [hs] at hlen; simp at hlen; omega
    obtain ⟨ps, hps⟩ : ∃ ps, Lib.splitB ⟨#[47]⟩ 0 (Lib.countB (tb r) ⟨#[47]⟩) (tb r) = ps := ⟨_, rfl⟩
    have hmap : ps.map tl = cut r := by
      rw [← hps]
      have := Lib.splitB_data (⟨#[47]⟩ : ByteArray) 0 (Lib.countB (tb r) ⟨#[47]⟩) (tb r)
      rw [show (fun x : ByteArray => x.data.toList) = tl from rfl] at this
      rw [this]
      have hc : Lib.countB (tb r) ⟨#[47]⟩ = r.count 47 := by
        show Lib.count (tl (tb r)) [47] = _
        rw [tl_tb, Lib.count_one]
      rw [hc]
      show Lib.splitK [47] 0 _ (tl (tb r)) = _
      rw [tl_tb, splitK_cut]
    have hlenps : ps.length = Lib.countB (tb r) ⟨#[47]⟩ + 1 := by rw [← hps]; exact Lib.splitB_all _ (by decide) 0 _ _ rfl
    have hsplit := fun W (hW : W.cell? ⟨0, 0, none⟩ = some (.int .i64 m)) => Tryz.strings_Split (tb r) ⟨#[47]⟩ m W (by omega) hW (by decide)
    rw [← hlenps, hps] at hsplit
    have hl9 : ps.length ≤ 1000 := by
      have := Lib.countB_le (⟨#[47]⟩ : ByteArray) (by decide) (tb r).size (tb r) (Nat.le_refl _)
      omega
    have hsp : splitL (tl s) = if chk (ps.map tl) = 0 then (ps.map tl, 0) else ([], chk (ps.map tl)) := by
      rw [hmap, hs]
      rw [hs] at hlen
      unfold splitL chk
      rw [if_neg hlen]
      dsimp only
      rw [if_neg (show ¬ ((47 : UInt8) ≠ 47) by simp), if_neg c3]
      by_cases d1 : (cut r).all nmL = true
      · rw [if_pos d1, if_pos d1]
        by_cases d2 : (cut r).length > 8
        · rw [if_pos d2, if_pos d2]; rfl
        · rw [if_neg d2, if_neg d2]; rfl
      · rw [if_neg d1, if_neg d1]; rfl
    have n1 : (tb r).toList.isEmpty = false := by rw [Lib.toList_data, show (tb r).data.toList = r from tl_tb r]; simpa using c3
    rw [← hs]
    have e2' : (⟨(Lib.trimPrefix s.data.toList (⟨#[47]⟩ : ByteArray).data.toList).toArray⟩ : ByteArray) = tb r := by rw [e2]; rfl
    have E1 := Lib.hid e1
    have E2 := Lib.hid e2'
    have HSP := Lib.hid hsp
    have HS := Lib.hid hsplit
    clear hs e1 e2 e2' hlen c3 hsp hsplit hmap hlenps hps hr
    generalize tb r = R at E2 HS n1
    by_cases k : chk (ps.map tl) = 0
    · have HF : Hid (splitL (tl s) = (ps.map tl, 0)) := Lib.hid (by rw [HSP.out, if_pos k])
      have HK := Lib.hid k
      clear k HSP
      go_enter Tryz.func35, Tryz.ntmps35
      go_wp2_with fail
      refine (Tryz.strings_CutPrefix _ _ _).mono ?_
      rintro e w' ⟨rfl, rfl⟩
      rw [E1.out, E2.out]
      go_wp2_with fail
      refine (HS.out _ HM.out).mono ?_
      rintro e w' ⟨rfl, rfl⟩
      go_wp2_with fail
      refine (check_any _ _ ps _ (rdS_new _ ps) hl9).mono ?_
      rintro e w2 ⟨rfl, hb⟩
      rw [HK.out]
      have hB := Lib.hid (((Below.refl _ _).alloc (Nat.le_refl _) (Obj.cells (ps.map Value.string).toArray 9)).trans (hb.mono (by simp)))
      have hR := Lib.hid ((rdS_new w' ps).below hb)
      clear hb
      go_wp2
      go_ret2
      exact ⟨_, _, by rw [HF.out, map_tb_tl]; rfl, by rw [HF.out, map_tb_tl]; exact hR.out, by rw [HF.out, map_tb_tl]; exact Nat.le_refl _, hB.out⟩
    · have HF : Hid (splitL (tl s) = ([], chk (ps.map tl))) := Lib.hid (by rw [HSP.out, if_neg k])
      have k' : (chk (ps.map tl) != 0) = true := by simpa using k
      clear k HSP
      go_enter Tryz.func35, Tryz.ntmps35
      go_wp2_with fail
      refine (Tryz.strings_CutPrefix _ _ _).mono ?_
      rintro e w' ⟨rfl, rfl⟩
      rw [E1.out, E2.out]
      go_wp2_with fail
      refine (HS.out _ HM.out).mono ?_
      rintro e w' ⟨rfl, rfl⟩
      go_wp2_with fail
      refine (check_any _ _ ps _ (rdS_new _ ps) hl9).mono ?_
      rintro e w2 ⟨rfl, hb⟩
      have hB := Lib.hid (((Below.refl _ _).alloc (Nat.le_refl _) (Obj.cells (ps.map Value.string).toArray 9)).trans (hb.mono (by simp)))
      clear hb
      go_wp2
      go_ret2
      exact splitPost_none HF.out rfl hB.out
end Go.Proofs.YtpdcjdangnfeiaaGreatDoor.Qa
open Go Go.Maps Go.Proofs.YtpdcjdangnfeiaaGreatDoor.Ta Go.Proofs.YtpdcjdangnfeiaaGreatDoor.Tb Go.Proofs.YtpdcjdangnfeiaaGreatDoor.Tc Go.Proofs.YtpdcjdangnfeiaaGreatDoor.Te Go.Proofs.YtpdcjdangnfeiaaGreatDoor.Tf Go.Proofs.YtpdcjdangnfeiaaGreatDoor.Qa
namespace Go.Proofs.YtpdcjdangnfeiaaGreatDoor.Qb
theorem law9 : Keyed Tryz.prog 9 := string_keyed Tryz.underlying9
theorem key9 (s : ByteArray) (hs : s.size ≤ 1000000) : keyOf Tryz.prog 9 (.string s) = some (keyL s) := WideMaps.keyOf_string_mk Tryz.underlying9 (by unfold maxLen; omega)
theorem zero56 (w : World) : (zeroValue 52).run Tryz.prog w = .ok (.pointer none) w := by kernel_rfl
/-- A node lies so in memory. -/
abbrev Nd (w : World) (B : Nat) (s : Sh) : Prop := Ok Tryz.prog 85 9 w B s
theorem div_nat (a b : Nat) : Int.tdiv (a : Int) (b : Int) = ((a / b : Nat) : Int) := by
  rw [Int.tdiv_eq_ediv_of_nonneg (by omega)]; rfl
theorem right_eq (n : Nat) : inode_right.f (n : Int) = some (decide (n ≤ 8458240)) := by
  unfold inode_right.f inode_Most.f
  rw [if_pos (by omega)]
  show some (decide ((n : Int) ≤ 8458240)) = _
  congr 1
  by_cases h : n ≤ 8458240
  · rw [decide_eq_true h, decide_eq_true (by omega)]
  · rw [decide_eq_false h, decide_eq_false (by omega)]
theorem blocks_eq (n : Nat) (h : n ≤ 1000000000) : inode_Blocks.f (n : Int) = some ((blocksB n : Nat) : Int) := by
  unfold inode_Blocks.f blocksB
  rw [right_eq]
  show (if decide (n ≤ 8458240) = true then _ else _) = _
  by_cases h1 : n ≤ 8458240
  · rw [if_pos (decide_eq_true h1), if_neg (by omega)]
    rw [w64 (x := (n : Int) + 512) (by omega) (by omega), w64 (x := (n : Int) + 512 - 1) (by omega) (by omega)]
    have e : ((n : Int) + 512 - 1) = ((n + 511 : Nat) : Int) := by omega
    rw [e, show (512 : Int) = ((512 : Nat) : Int) from rfl, div_nat, w64 (by omega) (by omega)]
  · rw [if_neg (by simpa using h1), if_pos (by omega)]
    rfl
theorem blocksB_le (n : Nat) : blocksB n ≤ 16521 := by unfold blocksB; split <;> omega
theorem inner_eq (n : Nat) (h : n ≤ 1000000000) : inode_Inner.f (n : Int) = some ((innerB n : Nat) : Int) := by
  have hb := blocksB_le n
  unfold inode_Inner.f innerB
  rw [blocks_eq n h]
  generalize blocksB n = q at hb ⊢
  show (if (q : Int) ≤ 8 then _ else _) = _
  by_cases h1 : q ≤ 8
  · rw [if_pos (by omega), if_pos h1]; rfl
  rw [if_neg (by omega), if_neg h1]
  by_cases h2 : q ≤ 136
  · rw [if_pos (by omega), if_pos h2]; rfl
  rw [if_neg (by omega), if_neg h2]
  rw [w64 (x := (q : Int) - 8) (by omega) (by omega), w64 (x := (q : Int) - 8 - 128) (by omega) (by omega), w64 (x := (q : Int) - 8 - 128 + 128) (by omega) (by omega), w64 (x := (q : Int) - 8 - 128 + 128 - 1) (by omega) (by omega)]
  have e : ((q : Int) - 8 - 128 + 128 - 1) = ((q - 136 + 127 : Nat) : Int) := by omega
  rw [e, show (128 : Int) = ((128 : Nat) : Int) from rfl, div_nat, w64 (x := (((q - 136 + 127) / 128 : Nat) : Int)) (by omega) (by omega), w64 (by omega) (by omega)]
  congr 1
theorem all_eq (n : Nat) (h : n ≤ 1000000000) : inode_All.f (n : Int) = some ((allB n : Nat) : Int) := by
  have hb := blocksB_le n
  have hi : innerB n ≤ 200 := by unfold innerB; split; omega; split <;> omega
  unfold inode_All.f allB
  rw [blocks_eq n h, inner_eq n h]
  show some (wrap64 ((blocksB n : Int) + (innerB n : Int))) = _
  rw [w64 (by omega) (by omega)]
  congr 1
theorem drawn_below {w w' : World} (h : Drawn0 w w') : Below w.heap.size w w' := by
  obtain ⟨⟨n, rfl⟩⟩ := h
  exact bdraw _ _
/-- inode.All -/
theorem all_any (n : Nat) (h : n ≤ 1000000000) (w : World) : Calls Tryz.prog 70 #[.int .i64 n] w fun e w' => e = .returned (.int .i64 ((allB n : Nat) : Int)) ∧ Below w.heap.size w w' :=
  (inode_All.calls _ _ w (all_eq n h)).mono fun _ _ ⟨he, hd⟩ => ⟨he, drawn_below hd⟩
/-- inode.Most -/
theorem most_any (w : World) : Calls Tryz.prog 69 #[] w fun e w' => e = .returned (.int .i64 8458240) ∧ Below w.heap.size w w' :=
  (inode_Most.calls _ w rfl).mono fun _ _ ⟨he, hd⟩ => ⟨he, drawn_below hd⟩
def blocksN (s : Sh) : Nat := if s.dir then allB (s.slots * 512) else allB s.data.length
theorem allB_le (n : Nat) : allB n ≤ 20000 := by
  have hb := blocksB_le n
  have hi : innerB n ≤ 200 := by unfold innerB; split; omega; split <;> omega
  unfold allB; omega
set_option maxHeartbeats 1000000 in
set_option maxRecDepth 100000 in
/-- (*node).blocks -/
theorem blocks_any {w : World} {B : Nat} {s : Sh} (h : Nd w B s) (hs : s.slots ≤ 1000000) (hd : s.data.length ≤ 1000000000) :
    Calls Tryz.prog 71 #[.pointer (some ⟨s.nb, 0, none⟩)] w fun e w' => e = .returned (.int .i64 ((blocksN s : Nat) : Int)) ∧ Below w.heap.size w w' := by
  obtain ⟨R, hR⟩ : ∃ R, blocksN s = R := ⟨_, rfl⟩
  rw [hR]
  obtain ⟨dv, hc, A, c, rfl, -⟩ := h.cells
  have c0 := blk_cell hc 0
  have c1 := blk_cell hc 1
  have c3 := blk_cell hc 3
  have HR := Lib.hid hR
  clear hR
  by_cases k : s.dir = true
  · replace c0 : w.cell? ⟨s.nb, 0, none⟩ = some (.bool true) := c0.trans (by rw [k]; rfl)
    replace c3 : w.cell? ⟨s.nb, 3, none⟩ = some (.int .i64 s.slots) := c3
    have HA := Lib.hid (fun W => all_any (s.slots * 512) (by omega) W)
    have wk : IntKind.i64.wrap ((s.slots : Int) * 512) = ((s.slots * 512 : Nat) : Int) := by rw [IntKind.wrap_i64]; omega
    have HE : Hid (allB (s.slots * 512) = R) := Lib.hid (by rw [← HR.out, blocksN, if_pos k])
    clear h hc c1 k
    generalize s.slots * 512 = q at HA wk HE
    go_enter Tryz.func71, Tryz.ntmps71
    go_wp2_with fail
    refine (HA.out w).mono ?_
    rintro e w1 ⟨rfl, hb⟩
    rw [HE.out]
    go_wp2
    go_ret
    exact ⟨rfl, hb⟩
  · have k2 : s.dir = false := by simpa using k
    replace c0 : w.cell? ⟨s.nb, 0, none⟩ = some (.bool false) := c0.trans (by rw [k2]; rfl)
    replace c1 : w.cell? ⟨s.nb, 1, none⟩ = some (.slice A s.data.length c) := c1
    have HA := Lib.hid (fun W => all_any s.data.length hd W)
    have HE : Hid (allB s.data.length = R) := Lib.hid (by rw [← HR.out, blocksN, if_neg k])
    clear h hc c3 k k2
    generalize s.data.length = q at HA HE c1
    go_enter Tryz.func71, Tryz.ntmps71
    go_wp2_with fail
    refine (HA.out w).mono ?_
    rintro e w1 ⟨rfl, hb⟩
    rw [HE.out]
    go_wp2
    go_ret
    exact ⟨rfl, hb⟩
end Go.Proofs.YtpdcjdangnfeiaaGreatDoor.Qb
end
section
open Go Go.Maps Go.RowKit Go.Proofs.YtpdcjdangnfeiaaGreatDoor.Pb Go.Proofs.YtpdcjdangnfeiaaGreatDoorW.PrintWords Go.Proofs.YtpdcjdangnfeiaaGreatDoorW.PrintLast Go.Proofs.YtpdcjdangnfeiaaGreatDoorW.PrintMore Go.Proofs.YtpdcjdangnfeiaaGreatDoor.Ta Go.Proofs.YtpdcjdangnfeiaaGreatDoor.Tb Go.Proofs.YtpdcjdangnfeiaaGreatDoor.Tc Go.Proofs.YtpdcjdangnfeiaaGreatDoor.Te Go.Proofs.YtpdcjdangnfeiaaGreatDoor.Tf Go.Proofs.YtpdcjdangnfeiaaGreatDoor.Qa Go.Proofs.YtpdcjdangnfeiaaGreatDoor.Qb
namespace Go.Proofs.YtpdcjdangnfeiaaGreatDoor.Qc
theorem Nd.below {w w' : World} {B : Nat} {s : Sh} (h : Nd w B s) (hb : Below w.heap.size w w') : Nd w' B s :=
  h.fr (X := fun _ => False) (Fr.of_below hb _ (fun _ hx => hx.elim)) (fun hx => hx) (fun _ hx => hx)
/-- How many blocks more a name wants. -/
def growsZ (s : Sh) : Int := if size s.D < s.slots * 8 then 0 else (allB ((s.slots + 1) * 512) : Int) - (blocksN s : Int)
set_option maxHeartbeats 2000000 in
set_option maxRecDepth 100000 in
/-- (*node).grows -/
theorem grows_any {w : World} {B : Nat} {s : Sh} (h : Nd w B s) (hd : s.dir = true) (hs : s.slots ≤ 100000) (hl : s.data.length ≤ 1000000000) (hz : size s.D ≤ 1000000) :
    Calls Tryz.prog 66 #[.pointer (some ⟨s.nb, 0, none⟩)] w fun e w' => e = .returned (.int .i64 (growsZ s)) ∧ Below w.heap.size w w' := by
  obtain ⟨R, hR⟩ : ∃ R, growsZ s = R := ⟨_, rfl⟩
  rw [hR]
  have H := Lib.hid h
  obtain ⟨dv, hc, -⟩ := h.cells
  have c2 : w.cell? ⟨s.nb, 2, none⟩ = some (.map (some s.mb)) := (blk_cell hc 2).trans (by unfold kidsV; rw [if_pos hd]; rfl)
  have c3 : w.cell? ⟨s.nb, 3, none⟩ = some (.int .i64 s.slots) := blk_cell hc 3
  have hlen : ∀ n ty, (Builtin.len_ #[83] ty #[.map (some s.mb)]).run Tryz.prog (w.drewN n) = .ok (.int .i64 (size s.D)) (w.drewN n) := fun n ty =>
    World.ownsMap.len (w := w.drewN n) (h.kids hd).2 Tryz.underlying83 ty
  have HR := Lib.hid hR
  have wk : IntKind.i64.wrap ((s.slots : Int) * 8) = (s.slots : Int) * 8 := by rw [IntKind.wrap_i64]; omega
  clear h hR hc
  by_cases k : size s.D < s.slots * 8
  · have i1 : ((size s.D : Nat) : Int) < (s.slots : Int) * 8 := by omega
    have HE : Hid (R = 0) := Lib.hid (by rw [← HR.out, growsZ, if_pos k])
    clear k
    go_enter Tryz.func66, Tryz.ntmps66
    go_wp2_with fail
    go_quiet (fail)
    go_wp2
    go_ret
    exact ⟨by rw [HE.out]; rfl, bdraw _ _⟩
  · have i1 : ¬ ((size s.D : Nat) : Int) < (s.slots : Int) * 8 := by omega
    have HE : Hid (R = (allB ((s.slots + 1) * 512) : Int) - (blocksN s : Int)) := Lib.hid (by rw [← HR.out, growsZ, if_neg k])
    have HA := Lib.hid (fun W => all_any ((s.slots + 1) * 512) (by omega) W)
    have w1 : IntKind.i64.wrap ((s.slots : Int) + 1) = (s.slots : Int) + 1 := by rw [IntKind.wrap_i64]; omega
    have w2 : IntKind.i64.wrap (((s.slots : Int) + 1) * 512) = (((s.slots + 1) * 512 : Nat) : Int) := by rw [IntKind.wrap_i64]; omega
    have hb1 := allB_le ((s.slots + 1) * 512)
    have hb2 : blocksN s ≤ 20000 := by unfold blocksN; split <;> exact allB_le _
    clear k
    generalize (s.slots + 1) * 512 = q at HA HE w2 hb1
    have HBN : ∃ z : Nat, blocksN s = z := ⟨_, rfl⟩
    obtain ⟨z, hzz⟩ := HBN
    have HBL := Lib.hid (fun W (hW : Nd W B s) => blocks_any hW (by omega) hl)
    rw [hzz] at HBL HE hb2
    have w3 : IntKind.i64.wrap ((allB q : Int) - (z : Int)) = (allB q : Int) - (z : Int) := by rw [IntKind.wrap_i64]; omega
    clear hzz
    go_enter Tryz.func66, Tryz.ntmps66
    go_wp2_with fail
    go_quiet (fail)
    go_wp2_with fail
    refine (HA.out _).mono ?_
    rintro e w4 ⟨rfl, hb⟩
    have HB4 := Lib.hid (bt (bdraw w nq) hb)
    have hN := Nd.below H.out HB4.out
    clear hb
    go_wp2_with fail
    refine (HBL.out w4 hN).mono ?_
    rintro e w5 ⟨rfl, hb⟩
    have HB5 := Lib.hid (bt HB4.out hb)
    clear hb hN
    go_wp2
    go_ret
    exact ⟨by rw [HE.out]; rfl, HB5.out⟩
/-- A node with one name more. -/
def putSh (s : Sh) (name : ByteArray) (b : Nat) : Sh := { s with slots := if 0 < growsZ s then s.slots + 1 else s.slots, D := s.D.put (keyL name) (ptrD (some b)) }
theorem noB_blks {w : World} {B : Nat} {s : Sh} (h : Nd w B s) : ∀ i, i ∈ blks s → i < w.heap.size → NoB w i := fun i hi _ => (Tc.Ok.blk_lt h i hi).2.1
theorem Fr.set {w W : World} {s : Sh} (hf : Fr w W (fun i => i ∈ blks s)) (j : Nat) (u : Value) : Fr w (W.setCell ⟨s.nb, j, none⟩ u) (fun i => i ∈ blks s) :=
  ⟨by simpa [World.setCell] using hf.size, fun i hi hn => (Below.heap_setCell W ⟨s.nb, j, none⟩ u i (fun e => hn (by rw [e]; exact nb_mem s))).trans (hf.block i hi hn), hf.noB⟩
theorem Fr.grow {w W W' : World} {s : Sh} (hf : Fr w W (fun i => i ∈ blks s)) (hd : s.dir = true) (hg : W.grownBy W' (some s.mb)) : Fr w W' (fun i => i ∈ blks s) :=
  ⟨Nat.le_trans hf.size hg.size, fun i hi hn => (hg.block i (Nat.lt_of_lt_of_le hi hf.size) (fun e => hn (by injection e with e; rw [e]; exact mb_mem hd))).trans (hf.block i hi hn), hf.noB⟩
theorem put_end {w w1 W w2 : World} {B b n : Nat} {s : Sh} {name : ByteArray} {dv : Value} {sl : Nat} (h : Nd w B s) (hd : s.dir = true) (hb : Below w.heap.size w w1) (hW : Fr w1 W (fun i => i ∈ blks s)) (hBW : Below B w1 W)
    (hc : W.heap[s.nb]? = some (.cells #[.bool s.dir, dv, kidsV s, .int .i64 sl] 85 (0, 0))) (hrd : Rd w1 dv s.data) (ho : w2.ownsMap Tryz.prog 9 ptrR s.mb n (s.D.put (keyL name) (ptrD (some b)))) (hg : W.grownBy w2 (some s.mb))
    (hsl : (putSh s name b).slots = sl) (hne : s.nb ≠ s.mb) : Nd w2 B (putSh s name b) ∧ Fr w w2 (fun i => i ∈ blks s) ∧ Below B w w2 := by
  have f1 : Fr w w1 (fun i => i ∈ blks s) := Fr.of_below hb _ (noB_blks h)
  have f2 : Fr w1 w2 (fun i => i ∈ blks s) := Fr.grow hW hd hg
  have hB : B ≤ w.heap.size := by have := h.base; have := h.lt; omega
  refine ⟨⟨h.base, ⟨dv, ?_, hrd.fr f2⟩, fun _ => ⟨(h.kids hd).1, own_size ho⟩⟩, ⟨Nat.le_trans f1.size f2.size, fun i hi hn => (f2.block i (Nat.lt_of_lt_of_le hi f1.size) hn).trans (f1.block i hi hn), f1.noB⟩, ?_⟩
  · have h1 : w2.heap[s.nb]? = some (.cells #[.bool s.dir, dv, kidsV s, .int .i64 sl] 85 (0, 0)) := blk_grown hc hg (fun e => hne (by injection e))
    show w2.heap[s.nb]? = some (.cells #[.bool s.dir, dv, kidsV s, .int .i64 ((putSh s name b).slots : Int)] 85 (0, 0))
    rw [hsl]
    exact h1
  · refine (hb.mono hB).trans (hBW.trans ⟨hg.os, hg.tape, hg.output, hg.size, fun k hk => hg.block k ?_ ?_⟩)
    · have := hW.size; have := hb.size; omega
    · intro e
      injection e with e
      have := (h.kids hd).1
      omega
set_option maxHeartbeats 2000000 in
set_option maxRecDepth 100000 in
/-- (*node).put -/
theorem put_any {w : World} {B : Nat} {s : Sh} (name : ByteArray) (b : Nat) (h : Nd w B s) (hd : s.dir = true) (hs : s.slots ≤ 90000) (hl : s.data.length ≤ 1000000000) (hz : size s.D ≤ 1000000) (hn : name.size ≤ 1000000) :
    Calls Tryz.prog 68 #[.pointer (some ⟨s.nb, 0, none⟩), .string name, .pointer (some ⟨b, 0, none⟩)] w fun e w' => e = .returned (.tuple #[]) ∧ Nd w' B (putSh s name b) ∧ Fr w w' (fun i => i ∈ blks s) ∧ Below B w w' := by
  have H := Lib.hid h
  obtain ⟨R, hR⟩ : ∃ R, growsZ s = R := ⟨_, rfl⟩
  have HG := Lib.hid (fun W (hW : Nd W B s) => grows_any hW hd (by omega) hl hz)
  rw [hR] at HG
  have HR := Lib.hid hR
  clear h hR
  go_enter Tryz.func68, Tryz.ntmps68
  go_wp2_with fail
  refine (HG.out w H.out).mono ?_
  rintro e w1 ⟨rfl, hb⟩
  have HB1 := Lib.hid hb
  have N1 := Lib.hid (Nd.below H.out hb)
  clear hb
  obtain ⟨dv, hc, hrd⟩ := N1.out.cells
  have c2 : w1.cell? ⟨s.nb, 2, none⟩ = some (.map (some s.mb)) := (blk_cell hc 2).trans (by unfold kidsV; rw [if_pos hd]; rfl)
  have c3 : w1.cell? ⟨s.nb, 3, none⟩ = some (.int .i64 s.slots) := blk_cell hc 3
  have f3 := blk_frozen hc 3
  have HC := Lib.hid hc
  have HRD := Lib.hid hrd
  have hown := (N1.out.kids hd).2
  have HOWN := Lib.hid hown
  clear hc hrd hown
  by_cases k : 0 < R
  · have wk : IntKind.i64.wrap ((s.slots : Int) + 1) = (s.slots : Int) + 1 := by rw [IntKind.wrap_i64]; omega
    have hne : s.nb ≠ s.mb := Tb.Ok.ne_map N1.out HOWN.out
    have HO2 := Lib.hid (World.ownsMap.setCell (a := ⟨s.nb, 3, none⟩) HOWN.out (fun e => hne e.symm) (.int .i64 ((s.slots : Int) + 1)))
    go_wp2_with (at_mapUpdate; refine wpList_mapUpdate_own _ rfl (.tmp 19) (.tmp 20) (.tmp 21) 83 rfl 9 52 law9 Tryz.underlying83 ptrR s.mb _ s.D rfl HO2.out (by unfold maxLen; omega) (.string name) (.pointer (some ⟨b, 0, none⟩)) (keyL name) rfl rfl (key9 name hn) (ptrD (some b)) [] rfl ?_; intro w2 ho2 hg2)
    go_end0
    refine ⟨rfl, put_end H.out hd HB1.out (Fr.set ⟨Nat.le_refl _, fun _ _ _ => rfl, noB_blks N1.out⟩ 3 _) ((Below.refl B w1).setCell H.out.base _) (blk_set HC.out 3 _) HRD.out ho2 hg2 ?_ hne⟩
    show (if 0 < growsZ s then s.slots + 1 else s.slots) = s.slots + 1
    rw [if_pos (by rw [HR.out]; exact k)]
  · have hne : s.nb ≠ s.mb := Tb.Ok.ne_map N1.out HOWN.out
    go_wp2_with (at_mapUpdate; refine wpList_mapUpdate_own _ rfl (.tmp 19) (.tmp 20) (.tmp 21) 83 rfl 9 52 law9 Tryz.underlying83 ptrR s.mb _ s.D rfl HOWN.out (by unfold maxLen; omega) (.string name) (.pointer (some ⟨b, 0, none⟩)) (keyL name) rfl rfl (key9 name hn) (ptrD (some b)) [] rfl ?_; intro w2 ho2 hg2)
    go_end0
    refine ⟨rfl, put_end H.out hd HB1.out ⟨Nat.le_refl _, fun _ _ _ => rfl, noB_blks N1.out⟩ (Below.refl B w1) HC.out HRD.out ho2 hg2 ?_ hne⟩
    show (if 0 < growsZ s then s.slots + 1 else s.slots) = s.slots
    rw [if_neg (by rw [HR.out]; omega)]
end Go.Proofs.YtpdcjdangnfeiaaGreatDoor.Qc
open Go.Proofs.YtpdcjdangnfeiaaGreatDoor.Qc
namespace Go.Proofs.YtpdcjdangnfeiaaGreatDoor.Qd
def freshSh (dir : Bool) (nb : Nat) : Sh := ⟨nb, dir, [], nb + 1, 0, .map []⟩
theorem rd_nil (w : World) : Rd w (.slice none 0 0) [] := ⟨none, 0, rfl, by simp, by simp, fun h => absurd h (by simp)⟩
set_option maxHeartbeats 2000000 in
set_option maxRecDepth 100000 in
/-- fresh(false): an empty file. -/
theorem fresh_file (w : World) : Calls Tryz.prog 19 #[.bool false] w fun e w' => e = .returned (.pointer (some ⟨w.heap.size, 0, none⟩)) ∧ Nd w' w.heap.size (freshSh false w.heap.size) ∧ Below w.heap.size w w' ∧ w'.heap.size = w.heap.size + 1 := by
  go_enter Tryz.func19, Tryz.ntmps19
  go_wp2
  go_ret
  refine ⟨rfl, ⟨Nat.le_refl _, ⟨.slice none 0 0, ?_, rd_nil _⟩, fun h => by cases h⟩, (Below.refl _ _).alloc (Nat.le_refl _) _, by simp⟩
  exact Go.heap_alloc_new _ _
set_option maxHeartbeats 2000000 in
set_option maxRecDepth 100000 in
/-- fresh(true): an empty directory. -/
theorem fresh_dir (w : World) : Calls Tryz.prog 19 #[.bool true] w fun e w' => e = .returned (.pointer (some ⟨w.heap.size, 0, none⟩)) ∧ Nd w' w.heap.size (freshSh true w.heap.size) ∧ Below w.heap.size w w' ∧ w'.heap.size = w.heap.size + 2 := by
  have hmk : ∀ (W : World), (Instr.makeMap 83 none).run Tryz.prog W = .ok (.map (some W.heap.size)) (W.alloc (.map #[] 0)) := fun W => run_makeMap 83 W
  go_enter Tryz.func19, Tryz.ntmps19
  go_wp2
  go_ret
  refine ⟨rfl, ⟨Nat.le_refl _, ⟨.slice none 0 0, ?_, rd_nil _⟩, fun _ => ⟨Nat.le_succ _, ?_⟩⟩, ((Below.refl _ _).alloc (Nat.le_refl _) _).alloc (by simp) _, by simp⟩
  · exact blk_alloc (Go.heap_alloc_new w _) _
  · have h := World.ownsMap_made (H := Nat) (w.alloc (Obj.cells #[Value.bool true, Value.slice none 0 0, Value.map (some (w.heap.size + 1)), Value.int IntKind.i64 0] 85)) Tryz.prog 9 ptrR
    rw [World.size_alloc] at h
    exact h
/-- The tree's block. -/
def Tre (w : World) (B tb : Nat) (root : Nat) (blocks inodes : Nat) : Prop := B ≤ tb ∧ w.heap[tb]? = some (.cells #[.pointer (some ⟨root, 0, none⟩), .int .i64 blocks, .int .i64 inodes] 55 (0, 0))
set_option maxHeartbeats 2000000 in
set_option maxRecDepth 100000 in
/-- tree.New, where the numbers may be. -/
theorem new_any (w : World) (n i : Nat) (hn : n ≤ 16384) (hi : i < 256) : Calls Tryz.prog 6 #[.int .i64 n, .int .i64 ((i + 1 : Nat) : Int)] w fun e w' =>
    ∃ tb rb, e = .returned (.tuple #[.pointer (some ⟨tb, 0, none⟩), .int .i64 0]) ∧ Nd w' w.heap.size (freshSh true rb) ∧ Tre w' w.heap.size tb rb n i ∧ Below w.heap.size w w' := by
  obtain ⟨N, hN⟩ : ∃ N : Int, (n : Int) = N := ⟨_, rfl⟩
  obtain ⟨I, hI⟩ : ∃ I : Int, ((i + 1 : Nat) : Int) = I := ⟨_, rfl⟩
  rw [hN, hI]
  have h1 : ¬ N < 0 := by omega
  have h2 : ¬ 16384 < N := by omega
  have h3 : ¬ I < 1 := by omega
  have h4 : ¬ 256 < I := by omega
  have wi : IntKind.i64.wrap (I - 1) = I - 1 := by rw [IntKind.wrap_i64]; omega
  have HN := Lib.hid hN
  have HI := Lib.hid hI
  clear hN hI
  go_enter Tryz.func6, Tryz.ntmps6
  go_wp2_with fail
  refine (fresh_dir w).mono ?_
  rintro e w1 ⟨rfl, hnd, hb, hs⟩
  have HND := Lib.hid hnd
  have HB := Lib.hid hb
  have HS := Lib.hid hs
  clear hnd hb hs
  go_wp2
  go_ret2
  have e1 : I - 1 = ((i : Nat) : Int) := by have := HI.out; omega
  refine ⟨w1.heap.size, w.heap.size, rfl, Nd.below HND.out ((Below.refl _ _).alloc (Nat.le_refl _) _), ⟨HB.out.size, ?_⟩, HB.out.alloc HB.out.size _⟩
  rw [Go.heap_alloc_new, e1, HN.out]
end Go.Proofs.YtpdcjdangnfeiaaGreatDoor.Qd
open Go.Proofs.YtpdcjdangnfeiaaGreatDoor.Qd
namespace Go.Proofs.YtpdcjdangnfeiaaGreatDoor.Qe
abbrev Tre2 (w : World) (B : Nat) (es : List (Path × Sh)) : Prop := Tr Tryz.prog 85 9 w B es
def upV (es : List (Path × Sh)) (l : Path) : Value := if l = [] then .pointer none else ptrV ((gp es l.dropLast).map (·.nb))
def nmV (l : Path) : Value := .string (l.getLastD ByteArray.empty)
def spotV (es : List (Path × Sh)) (l : Path) (x : Value) : Value := .agg #[upV es l, nmV l, ptrV ((gp es l).map (·.nb)), x]
def noSpot : Value := .agg #[.pointer none, .string ByteArray.empty, .pointer none, .slice none 0 0]
theorem ptrV_is (o : Option Nat) : ∃ p : Option Addr, ptrV o = .pointer p := by cases o <;> exact ⟨_, rfl⟩
theorem upV_is (es : List (Path × Sh)) (l : Path) : ∃ p : Option Addr, upV es l = .pointer p := by
  unfold upV
  split
  · exact ⟨_, rfl⟩
  · exact ptrV_is _
theorem way_app (es : List (Path × Sh)) : ∀ (p a b : Path), way es p (a ++ b) = if way es p a = 0 then way es (p ++ a) b else way es p a
  | p, [], b => by simp [way]
  | p, x :: a, b => by
    have ih := way_app es (p ++ [x]) a b
    rw [List.append_assoc, List.singleton_append] at ih
    simp only [List.cons_append, way]
    rw [ih]
    obtain h | ⟨d, h⟩ : gp es p = none ∨ ∃ d, gp es p = some d := by cases gp es p <;> simp
    · simp [h]
    · by_cases hd : d.dir = true
      · simp [h, hd]
      · simp [h, hd]
def zero80 : Obj := .cells #[.pointer none, .string ByteArray.empty, .pointer none, .slice none 0 0] 91 (0, 0)
def at80 (es : List (Path × Sh)) (l : Path) (x : Value) : Obj := .cells #[upV es l, nmV l, ptrV ((gp es l).map (·.nb)), x] 91 (0, 0)
set_option maxHeartbeats 4000000 in
set_option maxRecDepth 100000 in
theorem find_any {w : World} {B tb n i : Nat} {es : List (Path × Sh)} {r : Sh} (A : Option Addr) (c : Nat) (l : Path) (h : Tre2 w B es) (hr : gp es [] = some r) (ht : Tre w B tb r.nb n i) (hl : RdS w A l) (hn : l.length ≤ 1000) (hs : ∀ x ∈ l, x.size ≤ 1000) :
    Calls Tryz.prog 36 #[.pointer (some ⟨tb, 0, none⟩), .slice A l.length c] w fun e w' => e = .returned (.tuple #[if way es [] l = 0 then spotV es l (.slice A l.length c) else noSpot, .int .i64 (way es [] l)]) ∧ Below w.heap.size w w' := by
  obtain ⟨E, hE⟩ : ∃ E, way es [] l = E := ⟨_, rfl⟩
  obtain ⟨V, hV⟩ : ∃ V, (if way es [] l = 0 then spotV es l (.slice A l.length c) else noSpot) = V := ⟨_, rfl⟩
  rw [hV, hE]
  have H := Lib.hid h
  have HR := Lib.hid hr
  have HL := Lib.hid hl
  have HS := Lib.hid hs
  have HE := Lib.hid hE
  have HV := Lib.hid hV
  have t0 : w.cell? ⟨tb, 0, none⟩ = some (.pointer (some ⟨r.nb, 0, none⟩)) := blk_cell ht.2 0
  have T0 := Lib.hid (fun (W : World) (hb : Below w.heap.size w W) => keepC hb t0)
  have t1 : (w.alloc (Obj.cells #[Value.pointer none, Value.string { data := #[] }, Value.pointer none, Value.slice none 0 0] 91)).cell? ⟨tb, 0, none⟩ = some (.pointer (some ⟨r.nb, 0, none⟩)) := T0.out _ ((Below.refl _ _).alloc (Nat.le_refl _) _)
  clear h hr hl hs hE hV ht t0
  go_enter Tryz.func36, Tryz.ntmps36
  go_wp2_with fail
  clear t1
  go_loopw [17] (fun i wr => ∃ k : Nat, i = .int .i64 k ∧ k ≤ l.length ∧ Hid (wr.heap[w.heap.size]? = some zero80) ∧ Hid (wr.heap[w.heap.size + 1]? = some (at80 es (l.take k) (.slice A l.length c))) ∧ Hid (Below w.heap.size w wr) ∧ Hid (way es [] (l.take k) = 0)) (fun i _ => l.length - (intOf i).toNat)
  case atStart =>
    refine ⟨0, rfl, by omega, Lib.hid (blk_alloc (Go.heap_alloc_new _ _) _), Lib.hid ?_, Lib.hid (((Below.refl _ _).alloc (Nat.le_refl _) _).alloc (by simp) _), Lib.hid rfl⟩
    have := Go.heap_alloc_new (w.alloc (Obj.cells #[Value.pointer none, Value.string { data := #[] }, Value.pointer none, Value.slice none 0 0] 91)) (Obj.cells #[Value.pointer none, Value.string { data := #[] }, Value.pointer (some { block := r.nb, off := 0 }), Value.slice A (List.length l) c] 91)
    rw [World.size_alloc] at this
    rw [this]
    simp [at80, upV, nmV, HR.out, ptrV]
    rfl
  case round =>
    obtain ⟨k, rfl, hk, HZ, HA, HB, HW⟩ := hrel
    have c0 := blk_cell HA.out 0
    have c1 := blk_cell HA.out 1
    have c2 : wr.cell? ⟨w.heap.size + 1, 2, none⟩ = some (ptrV ((gp es (l.take k)).map (·.nb))) := blk_cell HA.out 2
    have z0 : wr.cell? ⟨w.heap.size, 0, none⟩ = some (.pointer none) := blk_cell HZ.out 0
    have z1 : wr.cell? ⟨w.heap.size, 1, none⟩ = some (.string ByteArray.empty) := blk_cell HZ.out 1
    have z2 : wr.cell? ⟨w.heap.size, 2, none⟩ = some (.pointer none) := blk_cell HZ.out 2
    have z3 : wr.cell? ⟨w.heap.size, 3, none⟩ = some (.slice none 0 0) := blk_cell HZ.out 3
    have f0 := blk_frozen HZ.out 0
    have f1 := blk_frozen HZ.out 1
    have f2 := blk_frozen HZ.out 2
    have f3 := blk_frozen HZ.out 3
    by_cases hlt : k < l.length
    · have i1 : (k : Int) < l.length := by omega
      obtain ⟨b, o, rfl, g1⟩ := (HL.out.below HB.out).cell k hlt
      have hway : way es [] l = way es (l.take k) (l[k] :: l.drop (k + 1)) := by
        conv => lhs; rw [← List.take_append_drop k l, List.drop_eq_getElem_cons hlt]
        rw [way_app, if_pos HW.out]; rfl
      simp only [way] at hway
      obtain h | ⟨d, h⟩ : gp es (l.take k) = none ∨ ∃ d, gp es (l.take k) = some d := by cases gp es (l.take k) <;> simp
      · rw [h] at hway c2
        have HE8 : Hid (E = 8) := Lib.hid (by rw [← HE.out, hway])
        have HV8 : Hid (V = noSpot) := Lib.hid (by rw [← HV.out, hway]; rfl)
        replace c2 : wr.cell? ⟨w.heap.size + 1, 2, none⟩ = some (.pointer none) := c2
        generalize l[k] = x at g1
        clear hway h c0 c1
        go_wp2_with fail
        (try simp only [Exit.inBlock, Exit.then])
        refine bodyPost_ret (v := .tuple #[noSpot, .int .i64 8]) ?_ rfl ⟨by rw [HE8.out, HV8.out], (((HB.out.setCell (Nat.le_refl _) _).setCell (Nat.le_refl _) _).setCell (Nat.le_refl _) _).setCell (Nat.le_refl _) _⟩
        simp [results, go_sem, noSpot, *]
        rfl
      · have hN := Nd.below (H.out.ok h) HB.out
        obtain ⟨dv, hcd, -⟩ := hN.cells
        have d0 := blk_cell hcd 0
        have d2 := blk_cell hcd 2
        replace c2 : wr.cell? ⟨w.heap.size + 1, 2, none⟩ = some (.pointer (some ⟨d.nb, 0, none⟩)) := c2.trans (by rw [h]; rfl)
        by_cases hd : d.dir = true
        · have hlook := fun (W : World) (hW : Nd W B d) (s : ByteArray) (hs : s.size ≤ 1000) => Ta.look (hW.kids hd).2 law9 Tryz.underlying83 (zero56 W) s (key9 s (by omega))
          replace d0 : wr.cell? ⟨d.nb, 0, none⟩ = some (.bool true) := d0.trans (by rw [hd]; rfl)
          replace d2 : wr.cell? ⟨d.nb, 2, none⟩ = some (.map (some d.mb)) := d2.trans (by unfold kidsV; rw [if_pos hd]; rfl)
          have hx := HS.out _ (List.getElem_mem hlt)
          have lk3 : (Instr.lookup 83 (.map (some d.mb)) (.string l[k]) false).run Tryz.prog wr.drew = .ok (ptrV (kid d.D l[k])) wr.drew := hlook wr.drew (Nd.below hN (Below.refl _ _).drew) l[k] hx
          have lk := hlook wr hN l[k] hx
          have lkd : ∀ m, (Instr.lookup 83 (.map (some d.mb)) (.string l[k]) false).run Tryz.prog (wr.drewN m) = .ok (ptrV (kid d.D l[k])) (wr.drewN m) := fun m => hlook (wr.drewN m) (Nd.below hN (bdraw wr m)) l[k] hx
          have hk2 := H.out.kids _ d h hd l[k]
          rw [← List.take_succ_eq_append_getElem hlt] at hk2
          have hw2 : way es [] (l.take (k + 1)) = 0 := by
            rw [List.take_succ_eq_append_getElem hlt, way_app, if_pos HW.out, List.nil_append]
            simp [way, h, hd]
          rw [hk2] at lk lkd lk3
          obtain ⟨pv, hpv⟩ := ptrV_is ((gp es (l.take (k + 1))).map (·.nb))
          rw [hpv] at lk lkd lk3
          have HPV := Lib.hid hpv
          have hkp : ptrV (kid d.D l[k]) = .pointer pv := by rw [hk2, hpv]
          have HKP := Lib.hid hkp
          clear hpv hkp
          obtain ⟨x, hxx⟩ : ∃ x, l[k] = x := ⟨_, rfl⟩
          rw [hxx] at g1 lk lkd lk3 HKP hx
          have HXX := Lib.hid hxx
          have HD := Lib.hid h
          have HW2 := Lib.hid hw2
          clear hxx hw2
          have hmb : d.mb ≠ w.heap.size + 1 := by
            have := (World.ownsMap.lt ((H.out.ok h).kids hd).2)
            omega
          have hOW := (hN.kids hd).2
          have hlw : ∀ W : World, W.ownsMap Tryz.prog 9 ptrR d.mb (size d.D) d.D → (Instr.lookup 83 (.map (some d.mb)) (.string x) false).run Tryz.prog W.drew = .ok (.pointer pv) W.drew := fun W hW => by
            have h1 := Ta.look (w := W.drew) hW law9 Tryz.underlying83 (zero56 W.drew) x (key9 x (by omega))
            rw [HKP.out] at h1
            exact h1
          have m0 := hlw _ (World.ownsMap.setCell (a := ⟨w.heap.size + 1, 0, none⟩) hOW hmb (.pointer (some ⟨d.nb, 0, none⟩)))
          have m1 := hlw _ (World.ownsMap.setCell (a := ⟨w.heap.size + 1, 1, none⟩) hOW hmb (.string x))
          have m01 := hlw _ (World.ownsMap.setCell (a := ⟨w.heap.size + 1, 1, none⟩) (World.ownsMap.setCell (a := ⟨w.heap.size + 1, 0, none⟩) hOW hmb (.pointer (some ⟨d.nb, 0, none⟩))) hmb (.string x))
          have m10 := hlw _ (World.ownsMap.setCell (a := ⟨w.heap.size + 1, 0, none⟩) (World.ownsMap.setCell (a := ⟨w.heap.size + 1, 1, none⟩) hOW hmb (.string x)) hmb (.pointer (some ⟨d.nb, 0, none⟩)))
          clear hlw hlook
          have e0 := blk_frozen HA.out 0
          have e1 := blk_frozen HA.out 1
          have e2 := blk_frozen HA.out 2
          replace c0 : wr.cell? ⟨w.heap.size + 1, 0, none⟩ = some (upV es (l.take k)) := c0
          replace c1 : wr.cell? ⟨w.heap.size + 1, 1, none⟩ = some (nmV (l.take k)) := c1
          clear hway hcd hN hk2 hx hOW hmb h
          go_wp2_with fail
          go_region
          go_wp2_with fail
          go_roundw
          · refine ⟨k + 1, by go_num, hlt, Lib.hid ?_, Lib.hid ?_, Lib.hid ((((HB.out.setCell (Nat.le_succ _) _).setCell (Nat.le_succ _) _).setCell (Nat.le_succ _) _).drew), HW2⟩
            · exact blk_far (p := ⟨w.heap.size + 1, 2, none⟩) (blk_far (p := ⟨w.heap.size + 1, 1, none⟩) (blk_far (p := ⟨w.heap.size + 1, 0, none⟩) HZ.out (Nat.ne_of_lt (Nat.lt_succ_self _)) _) (Nat.ne_of_lt (Nat.lt_succ_self _)) _) (Nat.ne_of_lt (Nat.lt_succ_self _)) _
            · refine (blk_set (blk_set (blk_set HA.out 0 _) 1 _) 2 _).trans ?_
              have q1 : l.take (k + 1) = l.take k ++ [x] := by rw [List.take_succ_eq_append_getElem hlt, HXX.out]
              unfold at80 upV nmV
              rw [HPV.out, q1]
              simp [HD.out, ptrV]
          · simp [intOf]; omega
        · have hd2 : d.dir = false := by simpa using hd
          replace d0 : wr.cell? ⟨d.nb, 0, none⟩ = some (.bool false) := d0.trans (by rw [hd2]; rfl)
          rw [h] at hway
          simp only [hd2] at hway
          have HE8 : Hid (E = 11) := Lib.hid (by rw [← HE.out, hway]; rfl)
          have HV8 : Hid (V = noSpot) := Lib.hid (by rw [← HV.out, hway]; rfl)
          generalize l[k] = x at g1
          clear hway h c0 c1 d2 hcd hN
          go_wp2_with fail
          (try simp only [Exit.inBlock, Exit.then])
          refine bodyPost_ret (v := .tuple #[noSpot, .int .i64 11]) ?_ rfl ⟨by rw [HE8.out, HV8.out], (((HB.out.setCell (Nat.le_refl _) _).setCell (Nat.le_refl _) _).setCell (Nat.le_refl _) _).setCell (Nat.le_refl _) _⟩
          simp [results, go_sem, noSpot, *]
          rfl
    · have i1 : ¬ (k : Int) < l.length := by omega
      have ek : l.take k = l := List.take_of_length_le (by omega)
      rw [ek] at HW HA c0 c1 c2
      have c3 : wr.cell? ⟨w.heap.size + 1, 3, none⟩ = some (.slice A l.length c) := blk_cell HA.out 3
      have HE8 : Hid (E = 0) := Lib.hid (by rw [← HE.out, HW.out])
      obtain ⟨pu, hpu⟩ := upV_is es l
      obtain ⟨pn, hpn⟩ := ptrV_is ((gp es l).map (·.nb))
      obtain ⟨nm, hnm⟩ : ∃ nm, l.getLastD ByteArray.empty = nm := ⟨_, rfl⟩
      have HV8 : Hid (V = .agg #[.pointer pu, .string nm, .pointer pn, .slice A l.length c]) := Lib.hid (by rw [← HV.out, HW.out, if_pos rfl]; unfold spotV nmV; rw [hpu, hpn, hnm])
      replace c0 : wr.cell? ⟨w.heap.size + 1, 0, none⟩ = some (.pointer pu) := c0.trans (by rw [← hpu]; rfl)
      replace c1 : wr.cell? ⟨w.heap.size + 1, 1, none⟩ = some (.string nm) := c1.trans (by rw [← hnm]; rfl)
      rw [hpn] at c2
      clear hpu hpn hnm ek
      go_wp2_with fail
      (try simp only [Exit.inBlock, Exit.then])
      refine bodyPost_ret (v := .tuple #[.agg #[.pointer pu, .string nm, .pointer pn, .slice A l.length c], .int .i64 0]) ?_ rfl ⟨by rw [HE8.out, HV8.out], (((HB.out.setCell (Nat.le_refl _) _).setCell (Nat.le_refl _) _).setCell (Nat.le_refl _) _).setCell (Nat.le_refl _) _⟩
      simp [results, go_sem, *]
end Go.Proofs.YtpdcjdangnfeiaaGreatDoor.Qe
namespace Go.Proofs.YtpdcjdangnfeiaaGreatDoor.Qf
set_option maxHeartbeats 1000000 in
theorem isFile_nil (w : World) : Calls Tryz.prog 31 #[.pointer none] w fun e w' => e = .returned (.int .i64 8) ∧ w' = w := by
  go_enter Tryz.func31, Tryz.ntmps31
  go_wp2
  go_ret
  exact ⟨rfl, rfl⟩
set_option maxHeartbeats 1000000 in
theorem isFile_any {w : World} {B : Nat} {s : Sh} (h : Nd w B s) : Calls Tryz.prog 31 #[.pointer (some ⟨s.nb, 0, none⟩)] w fun e w' => e = .returned (.int .i64 (if s.dir then 10 else 0)) ∧ w' = w := by
  obtain ⟨dv, hc, -⟩ := h.cells
  have c0 := blk_cell hc 0
  by_cases k : s.dir = true
  · replace c0 : w.cell? ⟨s.nb, 0, none⟩ = some (.bool true) := c0.trans (by rw [k]; rfl)
    rw [if_pos k]
    clear h hc k
    go_enter Tryz.func31, Tryz.ntmps31
    go_wp2
    go_ret
    exact ⟨rfl, rfl⟩
  · have k2 : s.dir = false := by simpa using k
    replace c0 : w.cell? ⟨s.nb, 0, none⟩ = some (.bool false) := c0.trans (by rw [k2]; rfl)
    rw [if_neg k]
    clear h hc k k2
    go_enter Tryz.func31, Tryz.ntmps31
    go_wp2
    go_ret
    exact ⟨rfl, rfl⟩
set_option maxHeartbeats 1000000 in
theorem free_any {w : World} {B tb rb n i : Nat} (h : Tre w B tb rb n i) : Calls Tryz.prog 18 #[.pointer (some ⟨tb, 0, none⟩)] w fun e w' => e = .returned (.tuple #[.int .i64 n, .int .i64 i]) ∧ Below w.heap.size w w' := by
  have c1 : w.cell? ⟨tb, 1, none⟩ = some (.int .i64 n) := blk_cell h.2 1
  have c2 : w.cell? ⟨tb, 2, none⟩ = some (.int .i64 i) := blk_cell h.2 2
  clear h
  go_enter Tryz.func18, Tryz.ntmps18
  go_wp2_with fail
  go_quiet (fail)
  go_wp2
  go_ret2
  exact ⟨rfl, bdraw _ _⟩
end Go.Proofs.YtpdcjdangnfeiaaGreatDoor.Qf
end
