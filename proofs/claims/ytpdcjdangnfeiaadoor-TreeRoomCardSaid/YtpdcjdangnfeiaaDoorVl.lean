/- TreeRoom: the plain part: files in the root, one by one made, filled, taken away. -/
import Derived.Test.YtpdcjdangnfeiaaDoorM9
namespace Go.Proofs.YtpdcjdangnfeiaaDoor.Vl
open Go Go.Maps Go.RowKit Go.Proofs.YtpdcjdangnfeiaaDoor.Pb Go.Proofs.YtpdcjdangnfeiaaDoor.PPth Go.Proofs.YtpdcjdangnfeiaaDoorW.PrintWords Go.Proofs.YtpdcjdangnfeiaaDoorW.PrintLast Go.Proofs.YtpdcjdangnfeiaaDoorW.PrintMore Go.Proofs.YtpdcjdangnfeiaaDoor.Ta Go.Proofs.YtpdcjdangnfeiaaDoor.Tb Go.Proofs.YtpdcjdangnfeiaaDoor.Tc Go.Proofs.YtpdcjdangnfeiaaDoor.Te Go.Proofs.YtpdcjdangnfeiaaDoor.Tf Go.Proofs.YtpdcjdangnfeiaaDoor.Qa Go.Proofs.YtpdcjdangnfeiaaDoor.Qb Go.Proofs.YtpdcjdangnfeiaaDoor.Qc Go.Proofs.YtpdcjdangnfeiaaDoor.Qd Go.Proofs.YtpdcjdangnfeiaaDoor.Qe Go.Proofs.YtpdcjdangnfeiaaDoor.Qf Go.Proofs.YtpdcjdangnfeiaaDoor.Ua Go.Proofs.YtpdcjdangnfeiaaDoor.Ub Go.Proofs.YtpdcjdangnfeiaaDoor.Uc Go.Proofs.YtpdcjdangnfeiaaDoor.Ud Go.Proofs.YtpdcjdangnfeiaaDoor.Ue Go.Proofs.YtpdcjdangnfeiaaDoor.Uf Go.Proofs.YtpdcjdangnfeiaaDoor.Ba Go.Proofs.YtpdcjdangnfeiaaDoor.Ug Go.Proofs.YtpdcjdangnfeiaaDoor.Uh Go.Proofs.YtpdcjdangnfeiaaDoor.Ui Go.Proofs.YtpdcjdangnfeiaaDoor.Uj Go.Proofs.YtpdcjdangnfeiaaDoor.Uk Go.Proofs.YtpdcjdangnfeiaaDoor.Ul Go.Proofs.YtpdcjdangnfeiaaDoor.Um Go.Proofs.YtpdcjdangnfeiaaDoor.Un Go.Proofs.YtpdcjdangnfeiaaDoor.Uo Go.Proofs.YtpdcjdangnfeiaaDoor.Up Go.Proofs.YtpdcjdangnfeiaaDoor.Uq Go.Proofs.YtpdcjdangnfeiaaDoor.Ur Go.Proofs.YtpdcjdangnfeiaaDoor.Us Go.Proofs.YtpdcjdangnfeiaaDoor.Ut Go.Proofs.YtpdcjdangnfeiaaDoor.Uu Go.Proofs.YtpdcjdangnfeiaaDoor.Uv Go.Proofs.YtpdcjdangnfeiaaDoor.Uw Go.Proofs.YtpdcjdangnfeiaaDoor.Ux Go.Proofs.YtpdcjdangnfeiaaDoor.Uy Go.Proofs.YtpdcjdangnfeiaaDoor.Uz Go.Proofs.YtpdcjdangnfeiaaDoor.Va Go.Proofs.YtpdcjdangnfeiaaDoor.Vb Go.Proofs.YtpdcjdangnfeiaaDoor.Vc Go.Proofs.YtpdcjdangnfeiaaDoor.Vd
def em : ByteArray := ⟨#[]⟩
def nB (i : Nat) : ByteArray := ⟨#[102, UInt8.ofNat (97 + i)]⟩
def rB (i : Nat) : ByteArray := ⟨#[47, 102, UInt8.ofNat (97 + i)]⟩
theorem rB_split : ∀ i : Fin 30, splitP (rB i.val) = ([nB i.val], 0) := by decide +kernel
theorem nB_inj : ∀ i j : Fin 30, nB i.val = nB j.val → i = j := by decide +kernel
theorem em_split : (splitP em).1 = [] := by decide +kernel
theorem doS_ok {s : S} {o : O} (h : doE s o = 0) : doS s o = planS s o (splitP o.path).1 (splitP o.to).1 := by unfold doS; rw [if_neg (by simp [h])]
def zs (n : Nat) : List UInt8 := List.replicate n 0
/-- Files lo up to hi in the root, of these sizes; what is free. -/
structure Rm (z : Nat → Nat) (sl lo hi : Nat) (s : S) (bl ino : Nat) : Prop where
  root : s.a [] = some ⟨true, [], sl, hi - lo⟩
  file : ∀ i, i < 30 → s.a [nB i] = if lo ≤ i ∧ i < hi then some ⟨false, zs (z i), 0, 0⟩ else none
  blocks : s.blocks = bl
  inodes : s.inodes = ino
theorem way1 {s : S} {x : ByteArray} {r : N} (hr : s.a [] = some r) (hd : r.dir = true) : wayA s.a [] [x] = 0 := by
  simp [wayA, hr, hd]
section
variable {z : Nat → Nat} {sl lo hi bl ino : Nat} {s : S}
theorem do1 {k : Int} {x p : ByteArray} {b : List UInt8} {n : Int} {r : N} (hr : s.a [] = some r) (hd : r.dir = true) (hp : splitP p = ([x], 0)) (hk : 1 ≤ k ∧ k < 7) :
    doE s ⟨k, p, em, b, n⟩ = planE s ⟨k, p, em, b, n⟩ [x] [] ∧ (doE s ⟨k, p, em, b, n⟩ = 0 → doS s ⟨k, p, em, b, n⟩ = planS s ⟨k, p, em, b, n⟩ [x] []) := by
  have h1 : doE s ⟨k, p, em, b, n⟩ = planE s ⟨k, p, em, b, n⟩ [x] [] := by
    unfold doE
    dsimp only
    rw [if_neg (by omega), hp]
    rw [if_neg (by simp), if_neg (by rintro ⟨h, -⟩; omega), way1 hr hd, if_neg (by simp), em_split]
  refine ⟨h1, fun h => ?_⟩
  rw [doS_ok h]
  dsimp only
  rw [hp, em_split]
theorem nB_ne {i j : Nat} (hi : i < 30) (hj : j < 30) (h : i ≠ j) : ¬ ([nB i] : Path) = [nB j] := by
  intro e
  have := nB_inj ⟨i, hi⟩ ⟨j, hj⟩ (by simpa using e)
  exact h (by simpa using this)
/-- A file made. -/
theorem room_make (h : Rm z sl 0 hi s bl (ino + 1)) (hh : hi < 30) (hsl : sl = (hi + 7) / 8) (hz : z hi = 0) (hb : 10 ≤ bl) :
    doE s ⟨1, rB hi, em, [], 0⟩ = 0 ∧ Rm z ((hi + 1 + 7) / 8) 0 (hi + 1) (doS s ⟨1, rB hi, em, [], 0⟩) (bl + (hi + 7) / 8 - (hi + 1 + 7) / 8) ino := by
  obtain ⟨e1, e2⟩ := do1 (k := 1) (b := []) (n := 0) h.root rfl (rB_split ⟨hi, hh⟩) (by omega)
  have hf := h.file hi hh
  rw [if_neg (by omega)] at hf
  have hg : growsA ⟨true, [], sl, hi - 0⟩ = (hi + 1 + 7) / 8 - (hi + 7) / 8 := by
    unfold growsA blocksA
    dsimp only
    rw [hsl]
    by_cases c : hi - 0 < (hi + 7) / 8 * 8
    · rw [if_pos c]; omega
    · rw [if_neg c]
      have c1 : allB (((hi + 7) / 8 + 1) * 512) = (hi + 7) / 8 + 1 := by rw [allB_small (by omega)]; omega
      have c2 : allB ((hi + 7) / 8 * 512) = (hi + 7) / 8 := by rw [allB_small (by omega)]; omega
      rw [c1, if_pos rfl, c2]
      omega
  have hw : wantA (s.a [nB hi].dropLast) = (hi + 1 + 7) / 8 - (hi + 7) / 8 := by
    show wantA (s.a []) = _
    rw [h.root]; exact hg
  have e3 : planE s ⟨1, rB hi, em, [], 0⟩ [nB hi] [] = 0 := by
    show makeE s [nB hi] = 0
    unfold makeE
    rw [hf, hw, h.blocks, h.inodes]
    rw [if_neg (by simp), if_neg (by omega)]
  rw [e3] at e1
  refine ⟨e1, ?_⟩
  rw [e2 e1]
  have e4 : planS s ⟨1, rB hi, em, [], 0⟩ [nB hi] [] = makeS s [nB hi] false := rfl
  rw [e4]
  unfold makeS
  rw [hw]
  refine ⟨?_, fun i hi30 => ?_, ?_, ?_⟩
  · show (onA (setA s.a [nB hi] (freshA false)) [] putA) [] = _
    unfold onA setA
    rw [if_pos rfl, if_neg (by simp), h.root]
    show some (putA ⟨true, [], sl, hi - 0⟩) = _
    unfold putA
    dsimp only
    congr 2
    · rw [hsl]; split <;> omega
  · show (onA (setA s.a [nB hi] (freshA false)) [] putA) [nB i] = _
    unfold onA setA
    rw [if_neg (by simp)]
    by_cases c : i = hi
    · subst c
      rw [if_pos rfl, if_pos (by omega), hz]; rfl
    · rw [if_neg (nB_ne hi30 hh c), h.file i hi30]
      by_cases c2 : 0 ≤ i ∧ i < hi
      · rw [if_pos c2, if_pos (by omega)]
      · rw [if_neg c2, if_neg (by omega)]
  · show s.blocks - _ = _
    rw [h.blocks]; omega
  · show s.inodes - 1 = _
    rw [h.inodes]; rfl
/-- A file filled: the sizes turn at one place. -/
theorem room_fill {j n : Nat} (h : Rm z sl 0 hi s bl ino) (hj : j < hi) (hh : hi ≤ 30) (hz : z j = 0) (hn : n ≤ 4095) (hb : 10 ≤ bl) :
    doE s ⟨3, rB j, em, zs n, 0⟩ = 0 ∧ Rm (fun i => if i = j then n else z i) sl 0 hi (doS s ⟨3, rB j, em, zs n, 0⟩) (bl - allB n) ino := by
  have hj30 : j < 30 := by omega
  obtain ⟨e1, e2⟩ := do1 (k := 3) (b := zs n) (n := 0) h.root rfl (rB_split ⟨j, hj30⟩) (by omega)
  have hf := h.file j hj30
  rw [if_pos (by omega), hz] at hf
  have hl : (zs n).length = n := by simp [zs]
  have hal : allB n ≤ 8 := by rw [allB_small (by omega)]; omega
  have h0 : allB 0 = 0 := by decide +kernel
  have e3 : planE s ⟨3, rB j, em, zs n, 0⟩ [nB j] [] = 0 := by
    show appE s (zs n).length (s.a [nB j]) = 0
    rw [hf, hl]
    unfold appE
    dsimp only
    rw [if_neg (by decide)]
    show (if 8458240 - (zs 0).length < n then (5 : Int) else if s.blocks < allB ((zs 0).length + n) - allB (zs 0).length then 7 else 0) = 0
    have hz0 : (zs 0).length = 0 := rfl
    rw [hz0, Nat.zero_add, h0, h.blocks, if_neg (by omega), if_neg (by omega)]
  rw [e3] at e1
  refine ⟨e1, ?_⟩
  rw [e2 e1]
  have e4 : planS s ⟨3, rB j, em, zs n, 0⟩ [nB j] [] = ⟨setA s.a [nB j] ⟨false, zs n, 0, 0⟩, s.blocks - allB n, s.inodes⟩ := by
    show appS s [nB j] (zs n) (s.a [nB j]) = _
    rw [hf]
    show (⟨setA s.a [nB j] ⟨false, zs 0 ++ zs n, 0, 0⟩, s.blocks - (allB ((zs 0).length + (zs n).length) - allB (zs 0).length), s.inodes⟩ : S) = _
    have hz0 : (zs 0).length = 0 := rfl
    rw [hz0, hl, Nat.zero_add, h0]; rfl
  rw [e4]
  refine ⟨?_, fun i hi30 => ?_, ?_, h.inodes⟩
  · show setA s.a [nB j] ⟨false, zs n, 0, 0⟩ [] = _
    unfold setA
    rw [if_neg (by simp)]; exact h.root
  · show setA s.a [nB j] ⟨false, zs n, 0, 0⟩ [nB i] = _
    unfold setA
    by_cases c : i = j
    · subst c
      rw [if_pos rfl, if_pos (by omega)]
      simp
    · rw [if_neg (nB_ne hi30 hj30 c), h.file i hi30]
      by_cases c2 : 0 ≤ i ∧ i < hi
      · rw [if_pos c2, if_pos c2]; simp [c]
      · rw [if_neg c2, if_neg c2]
  · show s.blocks - _ = _
    rw [h.blocks]
/-- The first file that is there goes. -/
theorem room_take (h : Rm z sl lo hi s bl ino) (hl : lo < hi) (hh : hi ≤ 30) :
    doE s ⟨5, rB lo, em, [], 0⟩ = 0 ∧ Rm z sl (lo + 1) hi (doS s ⟨5, rB lo, em, [], 0⟩) (bl + allB (z lo)) (ino + 1) := by
  have hj30 : lo < 30 := by omega
  obtain ⟨e1, e2⟩ := do1 (k := 5) (b := []) (n := 0) h.root rfl (rB_split ⟨lo, hj30⟩) (by omega)
  have hf := h.file lo hj30
  rw [if_pos (by omega)] at hf
  have e3 : planE s ⟨5, rB lo, em, [], 0⟩ [nB lo] [] = 0 := by
    show remE [nB lo] (decide ((5 : Int) = 6)) (s.a [nB lo]) = 0
    rw [hf]; rfl
  rw [e3] at e1
  refine ⟨e1, ?_⟩
  rw [e2 e1]
  have e4 : planS s ⟨5, rB lo, em, [], 0⟩ [nB lo] [] = ⟨onA (delA s.a [nB lo]) [] takeA, s.blocks + allB (zs (z lo)).length, s.inodes + 1⟩ := by
    show remS s [nB lo] (s.a [nB lo]) = _
    rw [hf]; rfl
  rw [e4]
  have hzl : (zs (z lo)).length = z lo := by simp [zs]
  rw [hzl]
  refine ⟨?_, fun i hi30 => ?_, ?_, ?_⟩
  · show onA (delA s.a [nB lo]) [] takeA [] = _
    unfold onA delA
    rw [if_pos rfl, if_neg (by simp), h.root]
    show some (takeA _) = _
    unfold takeA
    dsimp only
    congr 2
  · show onA (delA s.a [nB lo]) [] takeA [nB i] = _
    unfold onA delA
    rw [if_neg (by simp)]
    by_cases c : i = lo
    · subst c
      rw [if_pos rfl, if_neg (by omega)]
    · rw [if_neg (nB_ne hi30 hj30 c), h.file i hi30]
      by_cases c2 : lo ≤ i ∧ i < hi
      · rw [if_pos c2, if_pos (by omega)]
      · rw [if_neg c2, if_neg (by omega)]
  · show s.blocks + _ = _
    rw [h.blocks]
  · show s.inodes + 1 = _
    rw [h.inodes]
end
end Go.Proofs.YtpdcjdangnfeiaaDoor.Vl
