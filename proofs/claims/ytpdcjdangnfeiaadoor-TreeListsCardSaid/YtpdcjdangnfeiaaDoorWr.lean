/- Walk, and what its function value hands to a loop. -/
import Derived.Test.YtpdcjdangnfeiaaDoorWi
import Derived.Test.YtpdcjdangnfeiaaDoorWq
namespace Go.Proofs.YtpdcjdangnfeiaaDoor.Wr
open Go Go.Maps Go.RowKit Go.Proofs.YtpdcjdangnfeiaaDoor.Pb Go.Proofs.YtpdcjdangnfeiaaDoor.PPth Go.Proofs.YtpdcjdangnfeiaaDoorW.PrintWords Go.Proofs.YtpdcjdangnfeiaaDoorW.PrintLast Go.Proofs.YtpdcjdangnfeiaaDoorW.PrintMore Go.Proofs.YtpdcjdangnfeiaaDoor.Ta Go.Proofs.YtpdcjdangnfeiaaDoor.Tb Go.Proofs.YtpdcjdangnfeiaaDoor.Tc Go.Proofs.YtpdcjdangnfeiaaDoor.Te Go.Proofs.YtpdcjdangnfeiaaDoor.Tf Go.Proofs.YtpdcjdangnfeiaaDoor.Qa Go.Proofs.YtpdcjdangnfeiaaDoor.Qb Go.Proofs.YtpdcjdangnfeiaaDoor.Qc Go.Proofs.YtpdcjdangnfeiaaDoor.Qd Go.Proofs.YtpdcjdangnfeiaaDoor.Qe Go.Proofs.YtpdcjdangnfeiaaDoor.Qf Go.Proofs.YtpdcjdangnfeiaaDoor.Ua Go.Proofs.YtpdcjdangnfeiaaDoor.Ub Go.Proofs.YtpdcjdangnfeiaaDoor.Uc Go.Proofs.YtpdcjdangnfeiaaDoor.Ud Go.Proofs.YtpdcjdangnfeiaaDoor.Ue Go.Proofs.YtpdcjdangnfeiaaDoor.Uf Go.Proofs.YtpdcjdangnfeiaaDoor.Ba Go.Proofs.YtpdcjdangnfeiaaDoor.Ug Go.Proofs.YtpdcjdangnfeiaaDoor.Uh Go.Proofs.YtpdcjdangnfeiaaDoor.Ui Go.Proofs.YtpdcjdangnfeiaaDoor.Uj Go.Proofs.YtpdcjdangnfeiaaDoor.Uk Go.Proofs.YtpdcjdangnfeiaaDoor.Ul Go.Proofs.YtpdcjdangnfeiaaDoor.Um Go.Proofs.YtpdcjdangnfeiaaDoor.Un Go.Proofs.YtpdcjdangnfeiaaDoor.Uo Go.Proofs.YtpdcjdangnfeiaaDoor.Up Go.Proofs.YtpdcjdangnfeiaaDoor.Uq Go.Proofs.YtpdcjdangnfeiaaDoor.Ur Go.Proofs.YtpdcjdangnfeiaaDoor.Us Go.Proofs.YtpdcjdangnfeiaaDoor.Ut Go.Proofs.YtpdcjdangnfeiaaDoor.Uu Go.Proofs.YtpdcjdangnfeiaaDoor.Uv Go.Proofs.YtpdcjdangnfeiaaDoor.Uw Go.Proofs.YtpdcjdangnfeiaaDoor.Ux Go.Proofs.YtpdcjdangnfeiaaDoor.Uy Go.Proofs.YtpdcjdangnfeiaaDoor.Uz Go.Proofs.YtpdcjdangnfeiaaDoor.Va Go.Proofs.YtpdcjdangnfeiaaDoor.Vb Go.Proofs.YtpdcjdangnfeiaaDoor.Vc Go.Proofs.YtpdcjdangnfeiaaDoor.Vd Go.Proofs.YtpdcjdangnfeiaaDoor.Ve Go.Proofs.YtpdcjdangnfeiaaDoor.Wa Go.Proofs.YtpdcjdangnfeiaaDoor.Wb Go.Proofs.YtpdcjdangnfeiaaDoor.Wc Go.Proofs.YtpdcjdangnfeiaaDoor.Wd Go.Proofs.YtpdcjdangnfeiaaDoor.We Go.Proofs.YtpdcjdangnfeiaaDoor.Wg Go.Proofs.YtpdcjdangnfeiaaDoor.Wi Go.Proofs.YtpdcjdangnfeiaaDoor.Wm Go.Proofs.YtpdcjdangnfeiaaDoor.Wp Go.Proofs.YtpdcjdangnfeiaaDoor.Wq
theorem room_of_none {F : Fence} (hd : F.depth = none) (k : Nat) : F.room k := fun d h => by rw [hd] at h; cases h
theorem round_any {F : Fence} (hd : F.depth = none) {m m' : Nat} {P : Program} {l : Nat} {f : FuncId} {tmps : Array Value} {assign body : Code} {w : World} {R : Ending → World → Prop}
    (h : RoundIn F m P l f tmps assign body w R) : RoundIn F m' P l f tmps assign body w R := ⟨h.1, fun c cs _ => h.2 c cs (room_of_none hd _)⟩
theorem yield_any {F : Fence} (hd : F.depth = none) {m : Nat} (m' : Nat) {P : Program} {l : Nat} {args : Array Value} {W : World} {R : Ending → World → Prop} (h : YieldAt F m P l args W R) : YieldAt F m' P l args W R := by
  obtain ⟨fn, tmps, assign, body, hy, hR⟩ := h
  exact ⟨fn, tmps, assign, body, hy, round_any hd hR⟩
/-- Paths are no deeper than there are nodes. -/
theorem depth_lt {es : Es} (hw : WfF (gp es)) {q : Path} (hq : (gp es q).isSome = true) : q.length + 1 ≤ es.length := by
  have hpre : ∀ j, (gp es (q.take j)).isSome = true := by
    intro j
    have e : q = q.take j ++ q.drop j := (List.take_append_drop j q).symm
    cases hc : gp es (q.take j) with
    | some s => rfl
    | none =>
      by_cases h0 : q.drop j = []
      · rw [h0, List.append_nil] at e
        rw [← e] at hc
        rw [hc] at hq; exact hq
      · have := hw.none_under (fun y => hw.none_below (fun d hd => by rw [hc] at hd; cases hd) y) (q.drop j) h0
        rw [← e] at this
        rw [this] at hq; cases hq
  have h1 : ((List.range (q.length + 1)).map (fun j => q.take j)).Nodup := by
    refine List.pairwise_map.2 ((List.nodup_range).imp_of_mem ?_)
    intro a b ha hb hab e
    have h2 := congrArg List.length e
    rw [List.length_take, List.length_take] at h2
    have := List.mem_range.1 ha
    have := List.mem_range.1 hb
    omega
  have := len_le _ (es.map (·.1)) h1 fun x hx => by
    obtain ⟨j, -, rfl⟩ := List.mem_map.1 hx
    obtain ⟨s, hs⟩ := Option.isSome_iff_exists.1 (hpre j)
    exact List.mem_map.2 ⟨(_, s), gp_mem hs, rfl⟩
  simpa using this
theorem tx_size : ∀ (n : Nat) (p : Path), p.length ≤ n → (∀ x ∈ p, x.size ≤ 48) → (tx p).size ≤ 49 * n := by
  intro n
  induction n with
  | zero =>
    intro p h _
    have : p = [] := List.length_eq_zero_iff.1 (by omega)
    subst this
    show ByteArray.empty.size ≤ _
    exact Nat.le_refl _
  | succ n ih =>
    intro p h hx
    by_cases h0 : p = []
    · subst h0
      have := ih [] (by simp) (by simp)
      omega
    obtain ⟨p', y, rfl⟩ : ∃ p' y, p = p' ++ [y] := ⟨p.dropLast, p.getLast h0, (List.dropLast_concat_getLast h0).symm⟩
    have h1 := ih p' (by simp at h; omega) (fun x hx2 => hx x (by simp [hx2]))
    have h2 := hx y (by simp)
    rw [tx_snoc, ByteArray.size_append, ByteArray.size_append]
    have : (⟨#[47]⟩ : ByteArray).size = 1 := rfl
    omega
theorem nm_size {x : ByteArray} (h : nmL x.data.toList = true) : x.size ≤ 48 := by
  simp only [nmL, Bool.and_eq_true, decide_eq_true_eq] at h
  have := h.1.1.1.2
  rw [Array.length_toList] at this
  exact this
theorem same_len {es fs : Es} (h1 : Nd1 es) (h2 : Nd1 fs) (h : absE fs = absE es) : fs.length = es.length := by
  have key : ∀ {es fs : Es}, Nd1 fs → absE fs = absE es → fs.length ≤ es.length := by
    intro es fs h2 h
    have := len_le (fs.map (·.1)) (es.map (·.1)) (show (fs.map (·.1)).Nodup from h2) fun q hq => by
      obtain ⟨e, he, rfl⟩ := List.mem_map.1 hq
      have h3 := congrFun h e.1
      unfold absE at h3
      rw [mem_gp h2 he] at h3
      obtain ⟨s, hs, -⟩ := Option.map_eq_some_iff.1 h3.symm
      exact List.mem_map.2 ⟨(_, s), gp_mem hs, rfl⟩
    rwa [List.length_map, List.length_map] at this
  exact Nat.le_antisymm (key h2 h) (key h1 h.symm)
/-- What is known of the tree that Walk goes over. -/
structure Wok (w1 : World) (B1 nb : Nat) (fs : Es) (R : List Row) : Prop where
  sto : Sto Tryd.prog 67 9 w1 B1 (fs.map (·.2))
  size : B1 ≤ w1.heap.size
  go : ∀ (l N : Nat) (X : Nat → Prop) (J Jx : List Row → World → Prop), (∀ b, X b → b < B1) → (∀ pre W W', J pre W → Below W.heap.size W W' → J pre W') → (∀ m pre x W, J pre W → pre.length < N → YieldAt Fence.wide m Tryd.prog l (encR x) W (YPost X J Jx pre x W)) →
    ∀ pre W, Wk B1 fs X W → J pre W → pre.length + R.length ≤ N → Calls Tryd.prog 32 #[.pointer (some ⟨nb, 0, none⟩), .string ByteArray.empty, .func (.yield l) #[] #[]] W (WPost X J Jx pre R W)
  apart : ∀ (pre : List Row) (x : Row), pre ++ [x] <+: R → x.1 ≠ Wm.lastT pre
theorem wok_of {w w1 : World} {B B1 tb nb n i m : Nat} {es fs : Es} (h : St w B tb es n i m) (hm : m ≤ 2000) (hes : es.length ≤ 1000) (t : Tw w1 B1 nb es [] fs) (hB : B1 ≤ w1.heap.size) : ∃ R, Wok w1 B1 nb fs R ∧ R.length + 1 = es.length := by
  obtain ⟨O1, hO1⟩ : ∃ O1, Obj.cells #[.pointer (some ⟨nb, 0, none⟩), .int .i64 n, .int .i64 i] 59 = O1 := ⟨_, rfl⟩
  have hb := (Below.refl w1.heap.size w1).alloc (Nat.le_refl _) O1
  obtain ⟨a1, a2⟩ := tw_st (t2 := w1.heap.size) h (Tw.below t hb) ⟨hB, by rw [← hO1]; exact Go.heap_alloc_new _ _⟩
  obtain ⟨k, hk⟩ := exists_bound fs
  obtain ⟨r, hr, hnb⟩ := t.root
  have hlen := same_len h.nd t.nd a2
  have hn := St.nmOk a1
  have hd : ∀ q, (gp fs q).isSome = true → q.length ≤ 1000 := fun q hq => by have := depth_lt a1.wf hq; omega
  have hns : ∀ q, (gp fs q).isSome = true → ∀ x ∈ q, x.size ≤ 48 := fun q hq x hx => by
    obtain ⟨s, hs⟩ := Option.isSome_iff_exists.1 hq
    exact nm_size (a1.wf.nm q s hs x hx)
  refine ⟨rows (gp fs) k [], ⟨t.sto, hB, fun l N X J Jx hX hJ hY pre W hwk hj hN => ?_, fun pre x hp => rows_apart a1.wf hn k hp⟩, ?_⟩
  · have := walk_inside a1.wf hn hX hJ hY (fun p s hs => ⟨by have := (a1.limp hs).2.2; omega, by have h3 := tx_size 1000 p (hd p (by rw [hs]; rfl)) (hns p (by rw [hs]; rfl)); omega⟩) (fun p x hx => by have := hns _ hx x (by simp); omega) k [] r hr (fun q hq => by obtain ⟨s, hs⟩ := Option.isSome_iff_exists.1 hq; have := hk q s hs; simpa using this) pre W hwk hj hN
    rw [hnb] at this
    exact this
  · have := paths_len a1 hk
    unfold rows
    rw [List.length_map, ← hlen, ← this]
set_option maxHeartbeats 1000000 in
set_option maxRecDepth 100000 in
theorem walk_stops {w1 : World} {B1 nb bt n : Nat} {fs : Es} {R : List Row} {X : Nat → Prop} (h : Wok w1 B1 nb fs R) (hc : w1.cell? ⟨bt, 0, none⟩ = some (.pointer (some ⟨nb, 0, none⟩))) (hX : ∀ b, X b → b < B1) (hnob : ∀ b, X b → NoB w1 b) :
    SeqStopsK Fence.wide n Tryd.prog 31 #[.pointer (some ⟨bt, 0, none⟩)] encR (Kp X) (fun xs => xs = R) (fun pre => pre <+: R) R.length w1 := by
  intro l J Jx W hW hJ hJx hY h0
  refine callsIn_wide.2 ?_
  show Calls Tryd.prog 31 #[.func (.yield l) #[] #[], .pointer (some ⟨bt, 0, none⟩)] W _
  have hwk : Wk B1 fs X W := ⟨h.sto.below hW, fun b hb => nob_heap (hW.block b (by have := hX b hb; have := h.size; omega)) (hnob b hb), Nat.le_trans h.size hW.size⟩
  have hcall := h.go l R.length X J Jx hX (fun pre W1 W2 hj hb => hJ pre W1 W2 none hj ⟨hb.os, hb.tape, hb.output, hb.size, fun k hk _ => hb.block k hk⟩ (fun r e => by cases e)) (fun m pre x W1 hj hl => yield_any rfl m (hY pre x W1 hj hl)) [] W hwk h0 (by simp)
  have c0 := keepC hW hc
  have HC := Lib.hid hcall
  clear hcall hY hJ hJx h0 hwk hW hnob
  go_enter Tryd.func31, Tryd.ntmps31
  go_wp2_with fail
  refine HC.out.mono ?_
  rintro e w2 (⟨rfl, hj2, -⟩ | ⟨rfl, q, hq, hx⟩)
  · go_wp2
    go_end0
    exact ⟨⟨_, rfl⟩, .inl ⟨_, rfl, by simpa using hj2⟩⟩
  · go_wp2
    go_end0
    exact ⟨⟨_, rfl⟩, .inr ⟨q, hq, by simpa using hx⟩⟩
/-- What Walk hands back. -/
def WalkPost (w : World) (es : Es) (e : Ending) (w' : World) : Prop := ∃ nb bt fs R, e = .returned (.func (.func 31) #[] #[.pointer (some ⟨bt, 0, none⟩)]) ∧ w'.cell? ⟨bt, 0, none⟩ = some (.pointer (some ⟨nb, 0, none⟩)) ∧ Wok w' w.heap.size nb fs R ∧ R.length + 1 = es.length ∧ Below w.heap.size w w'
section
variable {w : World} {B tb n i m : Nat} {es : Es}
set_option maxHeartbeats 1000000 in
set_option maxRecDepth 100000 in
/-- (*Tree).Walk -/
theorem walk_any (h : St w B tb es n i m) (hm : m ≤ 2000) (hes : es.length ≤ 1000) : Calls Tryd.prog 20 #[.pointer (some ⟨tb, 0, none⟩)] w (WalkPost w es) := by
  obtain ⟨r, g1, ht⟩ := h.tre
  obtain ⟨k, hk⟩ := exists_bound es
  have hc := twin_any h.wf (fun p d hd => by have := h.limp hd; exact ⟨by omega, by omega⟩) k [] r g1 (fun q s h => by have := hk q s h; simpa using this) w h.sto
  have c0 : w.cell? ⟨tb, 0, none⟩ = some (.pointer (some ⟨r.nb, 0, none⟩)) := blk_cell ht.2 0
  have HC := Lib.hid hc
  have H := Lib.hid h
  clear hc h g1 ht hk
  go_enter Tryd.func20, Tryd.ntmps20
  go_wp2_with fail
  refine HC.out.mono ?_
  rintro e w1 ⟨nb, fs, rfl, htw, hb⟩
  have HTW := Lib.hid htw
  have HB := Lib.hid hb
  clear htw hb
  go_wp2_with fail
  go_ret
  have hba := (Below.refl w1.heap.size w1).alloc (Nat.le_refl _) (.cells #[.pointer (some ⟨nb, 0, none⟩)] 56)
  obtain ⟨R, h1, h2⟩ := wok_of H.out hm hes (Tw.below HTW.out hba) (Nat.le_trans HB.out.size hba.size)
  exact ⟨nb, w1.heap.size, fs, R, rfl, blk_cell (Go.heap_alloc_new w1 _) 0, h1, h2, HB.out.trans (hba.mono HB.out.size)⟩
end
end Go.Proofs.YtpdcjdangnfeiaaDoor.Wr
