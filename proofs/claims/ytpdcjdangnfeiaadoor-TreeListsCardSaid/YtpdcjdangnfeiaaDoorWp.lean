/- Walk: (*node).walk hands each path below to yield, in order. -/
import Derived.Test.YtpdcjdangnfeiaaDoorWm
import Derived.RangeFuncNested
import Derived.RangeFuncBound
import Derived.RangeFuncLeaves
import Derived.WalkKit
import Derived.TacticsInMore
import Derived.Deep.LoopGhost
namespace Go.Proofs.YtpdcjdangnfeiaaDoor.Wp
open Go Go.Maps Go.RowKit Go.Proofs.YtpdcjdangnfeiaaDoor.Pb Go.Proofs.YtpdcjdangnfeiaaDoor.PPth Go.Proofs.YtpdcjdangnfeiaaDoorW.PrintWords Go.Proofs.YtpdcjdangnfeiaaDoorW.PrintLast Go.Proofs.YtpdcjdangnfeiaaDoorW.PrintMore Go.Proofs.YtpdcjdangnfeiaaDoor.Ta Go.Proofs.YtpdcjdangnfeiaaDoor.Tb Go.Proofs.YtpdcjdangnfeiaaDoor.Tc Go.Proofs.YtpdcjdangnfeiaaDoor.Te Go.Proofs.YtpdcjdangnfeiaaDoor.Tf Go.Proofs.YtpdcjdangnfeiaaDoor.Qa Go.Proofs.YtpdcjdangnfeiaaDoor.Qb Go.Proofs.YtpdcjdangnfeiaaDoor.Qc Go.Proofs.YtpdcjdangnfeiaaDoor.Qd Go.Proofs.YtpdcjdangnfeiaaDoor.Qe Go.Proofs.YtpdcjdangnfeiaaDoor.Qf Go.Proofs.YtpdcjdangnfeiaaDoor.Ua Go.Proofs.YtpdcjdangnfeiaaDoor.Ub Go.Proofs.YtpdcjdangnfeiaaDoor.Uc Go.Proofs.YtpdcjdangnfeiaaDoor.Ud Go.Proofs.YtpdcjdangnfeiaaDoor.Ue Go.Proofs.YtpdcjdangnfeiaaDoor.Uf Go.Proofs.YtpdcjdangnfeiaaDoor.Ba Go.Proofs.YtpdcjdangnfeiaaDoor.Ug Go.Proofs.YtpdcjdangnfeiaaDoor.Uh Go.Proofs.YtpdcjdangnfeiaaDoor.Ui Go.Proofs.YtpdcjdangnfeiaaDoor.Uj Go.Proofs.YtpdcjdangnfeiaaDoor.Uk Go.Proofs.YtpdcjdangnfeiaaDoor.Ul Go.Proofs.YtpdcjdangnfeiaaDoor.Um Go.Proofs.YtpdcjdangnfeiaaDoor.Un Go.Proofs.YtpdcjdangnfeiaaDoor.Uo Go.Proofs.YtpdcjdangnfeiaaDoor.Up Go.Proofs.YtpdcjdangnfeiaaDoor.Uq Go.Proofs.YtpdcjdangnfeiaaDoor.Ur Go.Proofs.YtpdcjdangnfeiaaDoor.Us Go.Proofs.YtpdcjdangnfeiaaDoor.Ut Go.Proofs.YtpdcjdangnfeiaaDoor.Uu Go.Proofs.YtpdcjdangnfeiaaDoor.Uv Go.Proofs.YtpdcjdangnfeiaaDoor.Uw Go.Proofs.YtpdcjdangnfeiaaDoor.Ux Go.Proofs.YtpdcjdangnfeiaaDoor.Uy Go.Proofs.YtpdcjdangnfeiaaDoor.Uz Go.Proofs.YtpdcjdangnfeiaaDoor.Va Go.Proofs.YtpdcjdangnfeiaaDoor.Vb Go.Proofs.YtpdcjdangnfeiaaDoor.Vc Go.Proofs.YtpdcjdangnfeiaaDoor.Vd Go.Proofs.YtpdcjdangnfeiaaDoor.Ve Go.Proofs.YtpdcjdangnfeiaaDoor.Wa Go.Proofs.YtpdcjdangnfeiaaDoor.Wb Go.Proofs.YtpdcjdangnfeiaaDoor.Wc Go.Proofs.YtpdcjdangnfeiaaDoor.Wd Go.Proofs.YtpdcjdangnfeiaaDoor.We Go.Proofs.YtpdcjdangnfeiaaDoor.Wm
/-- What a round keeps: all cells and maps but some blocks; those hold no bytes. -/
structure Kp (X : Nat → Prop) (W W' : World) : Prop where
  size : W.heap.size ≤ W'.heap.size
  keep : ∀ b o, W.heap[b]? = some o → ¬ X b → (o.isCells = true ∨ o.isWalk = true) → W'.heap[b]? = some o
  nob : ∀ b, X b → b < W.heap.size → NoB W b → NoB W' b
section
variable {X : Nat → Prop} {W W1 W2 : World}
theorem Kp.refl (X : Nat → Prop) (W : World) : Kp X W W := ⟨Nat.le_refl _, fun _ _ h _ _ => h, fun _ _ _ h => h⟩
theorem Kp.trans (h : Kp X W W1) (k : Kp X W1 W2) : Kp X W W2 :=
  ⟨Nat.le_trans h.size k.size, fun b o hb hx ho => k.keep b o (h.keep b o hb hx ho) hx ho, fun b hx hb hn => k.nob b hx (Nat.lt_of_lt_of_le hb h.size) (h.nob b hx hb hn)⟩
theorem nob_heap {b : Nat} (e : W1.heap[b]? = W.heap[b]?) (h : NoB W b) : NoB W1 b := by
  intro o y hc
  refine h o y ?_
  rw [← hc]
  exact (World.cell?_of_block (a := ⟨b, o, none⟩) e).symm
theorem Kp.below (h : Below W.heap.size W W1) : Kp X W W1 :=
  ⟨h.size, fun b _ hb _ _ => (h.block b (Array.getElem?_eq_some_iff.1 hb).1).trans hb, fun b _ hb hn => nob_heap (h.block b hb) hn⟩
theorem cells_of_cell {b o : Nat} {v : Value} (h : W.cell? ⟨b, o, none⟩ = some v) : ∃ ob, W.heap[b]? = some ob ∧ ob.isCells = true := by
  cases hb : W.heap[b]? with
  | none => simp [World.cell?, hb] at h
  | some ob =>
    cases ob <;> simp [World.cell?, hb] at h
    exact ⟨_, rfl, rfl⟩
theorem Kp.cell (h : Kp X W W1) {b o : Nat} {v : Value} (hx : ¬ X b) (hc : W.cell? ⟨b, o, none⟩ = some v) : W1.cell? ⟨b, o, none⟩ = some v := by
  obtain ⟨ob, h1, h2⟩ := cells_of_cell hc
  rw [← hc]
  exact World.cell?_of_block (a := ⟨b, o, none⟩) ((h.keep b ob h1 hx (.inl h2)).trans h1.symm)
theorem Kp.sto (h : Kp X W W1) {B : Nat} {σ : List Sh} (hs : Sto Tryd.prog 67 9 W B σ) (hX : ∀ b, X b → b < B) (hn : ∀ b, X b → NoB W b) : Sto Tryd.prog 67 9 W1 B σ := by
  refine hs.fr (X := fun i => ¬ ∃ o, W.heap[i]? = some o ∧ ¬ X i ∧ (o.isCells = true ∨ o.isWalk = true)) ⟨h.size, fun i hi hx => ?_, fun i hx hi => ?_⟩ fun i hx s hs1 hi => ?_
  · obtain ⟨o, h1, h2, h3⟩ := Classical.not_not.1 hx
    rw [h1]
    exact h.keep i o h1 h2 h3
  · intro o y hc
    obtain ⟨ob, h1, h2⟩ := cells_of_cell hc
    by_cases hxi : X i
    · exact hn i hxi o y hc
    · exact hx ⟨ob, h1, hxi, .inl h2⟩
  · have ho := hs.ok s hs1
    have hb := (Tc.Ok.blk_lt ho i hi).2.2
    have hnx : ¬ X i := fun hx2 => by have := hX i hx2; omega
    refine hx ?_
    unfold blks at hi
    obtain ⟨dv, hc, -⟩ := ho.cells
    by_cases hd : s.dir = true
    · rw [if_pos hd] at hi
      rcases List.mem_cons.1 hi with rfl | hi
      · exact ⟨_, hc, hnx, .inl rfl⟩
      · obtain rfl : i = s.mb := by simpa using hi
        obtain ⟨es, clock, he, -⟩ := (ho.kids hd).2
        exact ⟨_, he, hnx, .inr rfl⟩
    · rw [if_neg hd] at hi
      obtain rfl : i = s.nb := by simpa using hi
      exact ⟨_, hc, hnx, .inl rfl⟩
end
/-- The names of a node, a file has none. -/
def nms (s : Sh) : List ByteArray := if s.dir then names s else []
theorem rdS_own2 {w : World} {base : Nat} {v : Value} {xs : List ByteArray} (h : w.ownsRow base 9 1 v xs.length (xs.map Value.string)) : ∃ A c, v = .slice A xs.length c ∧ (xs = [] ∨ ∃ g, base ≤ g ∧ A = some ⟨g, 0, none⟩ ∧ ∀ j x, xs[j]? = some x → w.cell? ⟨g, j, none⟩ = some (.string x)) := by
  obtain ⟨hl, h⟩ := h
  rcases h with ⟨rfl, h0⟩ | ⟨g, cap, cur, rfl, hg, hh, hn, hm, hs, ht⟩
  · obtain rfl := List.length_eq_zero_iff.1 h0
    exact ⟨none, 0, rfl, .inl rfl⟩
  · refine ⟨_, cap, rfl, .inr ⟨g, hg, rfl, fun j x hj => ?_⟩⟩
    have e : w.cell? ⟨g, j, none⟩ = cur[j]? := by simp [World.cell?, hh]
    have hlt : j < xs.length := (List.getElem?_eq_some_iff.1 hj).1
    rw [e, ← Array.getElem?_toList]
    have : (cur.toList.take (xs.length * 1))[j]? = some (.string x) := by rw [ht]; simp [hj]
    rwa [List.getElem?_take_of_lt (by omega)] at this
/-- A row of names in blocks from base on. -/
def RdN (w : World) (base : Nat) (A : Option Addr) (l : List ByteArray) : Prop := l = [] ∨ ∃ g, base ≤ g ∧ A = some ⟨g, 0, none⟩ ∧ ∀ j x, l[j]? = some x → w.cell? ⟨g, j, none⟩ = some (.string x)
def SortPost (w : World) (s : Sh) (e : Ending) (w' : World) : Prop := ∃ A c, e = .returned (.slice A (nms s).length c) ∧ RdN w' w.heap.size A (nms s) ∧ Below w.heap.size w w'
open Go.Sort in
theorem sorted_node {w : World} {B : Nat} {s : Sh} (h : Nd w B s) (hz : size s.D ≤ 100000) : Calls Tryd.prog 24 #[.func (.func 42) #[] #[.pointer (some ⟨w.heap.size, 0, none⟩)]] (w.alloc (.cells #[kidsV s] 65)) (SortPost w s) := by
  by_cases hd : s.dir = true
  · have hk : kidsV s = .map (some s.mb) := by unfold kidsV; rw [if_pos hd]
    have hn : nms s = names s := by unfold nms; rw [if_pos hd]
    rw [hk]
    refine ((callsIn_wide (n := 5)).1 (Tryd.slices_Sorted_keys_24_25 s.mb (size s.D) s.D ptrR w (h.kids hd).2 (by unfold maxLen; omega) (by omega))).mono ?_
    rintro e w' ⟨v, ss, rfl, hp, hrow, hnil, hb⟩
    have e1 : ss.mergeSort (fun x y => decide (x ≤ y)) = namesL s := mergeSort_of_perm hp
    have e2 : ss.length = (namesL s).length := by rw [← e1, List.length_mergeSort]
    rw [e1, e2] at hrow
    have e3 : (namesL s).map encStr = (names s).map Value.string := by unfold names; rw [List.map_map]; rfl
    rw [e3] at hrow
    have e4 : (namesL s).length = (names s).length := by unfold names; rw [List.length_map]
    rw [e4] at hrow
    obtain ⟨A, c, rfl, hr⟩ := rdS_own2 hrow
    refine ⟨A, c, by rw [hn], ?_, ((Below.refl _ _).alloc (Nat.le_refl _) _).trans (hb.mono (by simp))⟩
    rw [hn]
    rcases hr with hr | ⟨g, h1, h2, h3⟩
    · exact .inl hr
    · exact .inr ⟨g, by simp at h1; omega, h2, h3⟩
  · have hk : kidsV s = .map none := by unfold kidsV; rw [if_neg hd]
    have hn : nms s = [] := by unfold nms; rw [if_neg hd]
    rw [hk]
    refine ((callsIn_wide (n := 5)).1 (Tryd.slices_Sorted_keys_nil_24_25 w)).mono ?_
    rintro e w' ⟨v, ss, rfl, hp, hrow, hnil, hb⟩
    obtain rfl := hnil.2 hp
    exact ⟨none, 0, by rw [hn]; rfl, .inl hn, ((Below.refl _ _).alloc (Nat.le_refl _) _).trans (hb.mono (by simp))⟩
theorem RdN.below {w w' : World} {base : Nat} {A : Option Addr} {l : List ByteArray} (h : RdN w base A l) (hb : Below w.heap.size w w') : RdN w' base A l := by
  rcases h with h | ⟨g, h1, h2, h3⟩
  · exact .inl h
  · exact .inr ⟨g, h1, h2, fun j x hj => keepC hb (h3 j x hj)⟩
theorem RdN.kp {w w' : World} {base : Nat} {X : Nat → Prop} {A : Option Addr} {l : List ByteArray} (h : RdN w base A l) (hk : Kp X w w') (hX : ∀ b, X b → b < base) : RdN w' base A l := by
  rcases h with h | ⟨g, h1, h2, h3⟩
  · exact .inl h
  · exact .inr ⟨g, h1, h2, fun j x hj => hk.cell (fun hx => by have := hX g hx; omega) (h3 j x hj)⟩
/-- An element as yield takes it. -/
def encR (x : Row) : Array Value := #[.string x.1, .agg #[.bool x.2.dir, .int .i64 x.2.data.length, .int .i64 x.2.k]]
def YPost (X : Nat → Prop) (J Jx : List Row → World → Prop) (pre : List Row) (x : Row) (W : World) (e : Ending) (W' : World) : Prop :=
  (e = .returned (.bool true) ∧ J (pre ++ [x]) W' ∧ Kp X W W') ∨ (e = .returned (.bool false) ∧ Jx (pre ++ [x]) W')
def WPost (X : Nat → Prop) (J Jx : List Row → World → Prop) (pre R : List Row) (W : World) (e : Ending) (W' : World) : Prop :=
  (e = .returned (.bool true) ∧ J (pre ++ R) W' ∧ Kp X W W') ∨ (e = .returned (.bool false) ∧ ∃ q, q <+: R ∧ Jx (pre ++ q) W')
theorem rows_eq {a : Uc.Fn} (hn : NmOk a) {k : Nat} {p : Path} {s : Sh} (hs : a p = some s) (hk : ∀ q, (a q).isSome = true → q.length ≤ p.length + k) :
    rows a k p = (nms s).flatMap (fun x => rowOf a (p ++ [x]) :: rows a (k - 1) (p ++ [x])) := by
  by_cases hd : s.dir = true
  · have e : nms s = names s := by unfold nms; rw [if_pos hd]
    rw [e]
    cases k with
    | succ k => exact rows_dir hs hd
    | zero =>
      have : names s = [] := by
        refine List.eq_nil_iff_forall_not_mem.2 fun x hx => ?_
        have := hk _ (((hn p s hs hd).2 x).1 hx)
        rw [List.length_append, List.length_singleton] at this
        omega
      rw [this]; rfl
  · have e : nms s = [] := by unfold nms; rw [if_neg hd]
    rw [e, rows_file hs (by simpa using hd)]; rfl
end Go.Proofs.YtpdcjdangnfeiaaDoor.Wp
