/- A row of acts that came in, opened; Few. A tree and the document's, side by side; two of each. TreeTwins walked. -/
import Derived.Test.YtpdcjdangnfeiaaGreatDoorYl
import Derived.Deep.Slices
import Derived.ChangeSlices
import Derived.ProofKit
import Derived.Test.YtpdcjdangnfeiaaGreatDoorZu
section
open Go Go.Maps Go.RowKit Go.Proofs.YtpdcjdangnfeiaaGreatDoor.Pb Go.Proofs.YtpdcjdangnfeiaaGreatDoor.PPth Go.Proofs.YtpdcjdangnfeiaaGreatDoorW.PrintWords Go.Proofs.YtpdcjdangnfeiaaGreatDoorW.PrintLast Go.Proofs.YtpdcjdangnfeiaaGreatDoorW.PrintMore Go.Proofs.YtpdcjdangnfeiaaGreatDoor.Ta Go.Proofs.YtpdcjdangnfeiaaGreatDoor.Tb Go.Proofs.YtpdcjdangnfeiaaGreatDoor.Tc Go.Proofs.YtpdcjdangnfeiaaGreatDoor.Te Go.Proofs.YtpdcjdangnfeiaaGreatDoor.Tf Go.Proofs.YtpdcjdangnfeiaaGreatDoor.Qa Go.Proofs.YtpdcjdangnfeiaaGreatDoor.Qb Go.Proofs.YtpdcjdangnfeiaaGreatDoor.Qc Go.Proofs.YtpdcjdangnfeiaaGreatDoor.Qd Go.Proofs.YtpdcjdangnfeiaaGreatDoor.Qe Go.Proofs.YtpdcjdangnfeiaaGreatDoor.Qf Go.Proofs.YtpdcjdangnfeiaaGreatDoor.Ua Go.Proofs.YtpdcjdangnfeiaaGreatDoor.Ub Go.Proofs.YtpdcjdangnfeiaaGreatDoor.Uc Go.Proofs.YtpdcjdangnfeiaaGreatDoor.Ud Go.Proofs.YtpdcjdangnfeiaaGreatDoor.Ue Go.Proofs.YtpdcjdangnfeiaaGreatDoor.Uf Go.Proofs.YtpdcjdangnfeiaaGreatDoor.Ba Go.Proofs.YtpdcjdangnfeiaaGreatDoor.Ug Go.Proofs.YtpdcjdangnfeiaaGreatDoor.Uh Go.Proofs.YtpdcjdangnfeiaaGreatDoor.Ui Go.Proofs.YtpdcjdangnfeiaaGreatDoor.Uj Go.Proofs.YtpdcjdangnfeiaaGreatDoor.Uk Go.Proofs.YtpdcjdangnfeiaaGreatDoor.Ul Go.Proofs.YtpdcjdangnfeiaaGreatDoor.Um Go.Proofs.YtpdcjdangnfeiaaGreatDoor.Un Go.Proofs.YtpdcjdangnfeiaaGreatDoor.Uo Go.Proofs.YtpdcjdangnfeiaaGreatDoor.Up Go.Proofs.YtpdcjdangnfeiaaGreatDoor.Uq Go.Proofs.YtpdcjdangnfeiaaGreatDoor.Ur Go.Proofs.YtpdcjdangnfeiaaGreatDoor.Us Go.Proofs.YtpdcjdangnfeiaaGreatDoor.Ut Go.Proofs.YtpdcjdangnfeiaaGreatDoor.Uu Go.Proofs.YtpdcjdangnfeiaaGreatDoor.Uv Go.Proofs.YtpdcjdangnfeiaaGreatDoor.Uw Go.Proofs.YtpdcjdangnfeiaaGreatDoor.Ux Go.Proofs.YtpdcjdangnfeiaaGreatDoor.Uy Go.Proofs.YtpdcjdangnfeiaaGreatDoor.Uz Go.Proofs.YtpdcjdangnfeiaaGreatDoor.Va Go.Proofs.YtpdcjdangnfeiaaGreatDoor.Vb Go.Proofs.YtpdcjdangnfeiaaGreatDoor.Vc Go.Proofs.YtpdcjdangnfeiaaGreatDoor.Vd Go.Proofs.YtpdcjdangnfeiaaGreatDoor.Ve
namespace Go.Proofs.YtpdcjdangnfeiaaGreatDoor.Wh
open Go.ChangeShapes Go.WideShapes Go.ChangeAt
theorem byte_val (n : Nat) (h : n < 256) : bv (UInt8.ofNat n) = .int .u8 (n : Int) := by
  have e : (UInt8.ofNat n).toNat = n := by rw [UInt8.toNat_ofNat']; exact Nat.mod_eq_of_lt h
  show Value.int .u8 (((UInt8.ofNat n).toNat : Nat) : Int) = _
  rw [e]
set_option maxRecDepth 100000 in
theorem open_bytes1 {H : Type} {enc : TypeId × Value → H} {W : World} {fuel : Nat} {v : Value} {x : DataW H × List MemPlace}
    (hf : DataW.trod enc Tryz.prog W 0 (fun _ => true) true fuel 33 [v] = some x) :
    ∃ (A : Option Addr) (c : Nat) (l : List UInt8), v = .slice A l.length c ∧ RdB W A l ∧ l.length ≤ c := by
  rcases open_ints Tryz.underlying33 Tryz.underlying5 (by kernel_rfl) hf with ⟨hcs, _⟩ | ⟨a, len, cap, zs, hcs, _, hl, hm, hz, _, hcell, hwz⟩
  · simp at hcs
    subst hcs
    exact ⟨none, 0, [], rfl, RdB.nil _ _, by simp⟩
  · simp at hcs
    subst hcs
    simp at hz
    have hlen : ((zs.take len).map (fun z => UInt8.ofNat z.toNat)).length = len := by simp; omega
    refine ⟨some a, cap, (zs.take len).map (fun z => UInt8.ofNat z.toNat), by rw [hlen], ?_, by omega⟩
    unfold maxLen at hm
    refine ⟨rfl, by omega, fun _ => ⟨a, rfl, fun j hj => ?_⟩⟩
    rw [hlen] at hj
    rw [hcell j (by omega)]
    have hj2 : j < zs.length := by omega
    rw [List.getD_eq_getElem?_getD, List.getD_eq_getElem?_getD, List.getElem?_map, List.getElem?_take_of_lt hj, List.getElem?_eq_getElem hj2]
    have hw := hwz zs[j] (List.getElem_mem hj2)
    have hw2 : 0 ≤ zs[j] ∧ zs[j] ≤ 255 := by
      simp [Lit.wf, IntKind.min, IntKind.max, IntKind.signed, IntKind.bits] at hw
      omega
    simp only [Option.map_some, Option.getD_some]
    obtain ⟨n, hn⟩ : ∃ n : Nat, zs[j] = (n : Int) := ⟨zs[j].toNat, by omega⟩
    rw [hn] at hw2 ⊢
    rw [Int.toNat_natCast]
    exact congrArg some (byte_val n (by omega)).symm
theorem cells30 : Tryz.prog.cellsOf 35 = 5 := by kernel_rfl
theorem cells28 : Tryz.prog.cellsOf 33 = 1 := by kernel_rfl
theorem cells9 : Tryz.prog.cellsOf 9 = 1 := by kernel_rfl
theorem cells3 : Tryz.prog.cellsOf 3 = 1 := by kernel_rfl
theorem list5 {α : Type} {l : List α} (h : l.length = 5) : ∃ a b c d e, l = [a, b, c, d, e] := by
  match l, h with
  | [a, b, c, d, e], _ => exact ⟨a, b, c, d, e, rfl⟩
/-- An act in memory. -/
def OpAt (w : World) (b o : Nat) (x : O) : Prop :=
  w.cell? ⟨b, o, none⟩ = some (.int .i64 x.kind) ∧ w.cell? ⟨b, o + 1, none⟩ = some (.string x.path) ∧ w.cell? ⟨b, o + 2, none⟩ = some (.string x.to) ∧ (∃ D c, w.cell? ⟨b, o + 3, none⟩ = some (.slice D x.data.length c) ∧ RdB w D x.data) ∧ w.cell? ⟨b, o + 4, none⟩ = some (.int .i64 x.n)
theorem OpAt.below {w w' : World} {b o : Nat} {x : O} (h : OpAt w b o x) (hb : Below w.heap.size w w') : OpAt w' b o x := by
  obtain ⟨h1, h2, h3, ⟨D, c, h4, h5⟩, h6⟩ := h
  exact ⟨keepC hb h1, keepC hb h2, keepC hb h3, ⟨D, c, keepC hb h4, h5.below hb⟩, keepC hb h6⟩
/-- A row of acts. -/
def RdO (w : World) (A : Option Addr) (l : List O) : Prop := l = [] ∨ ∃ b o, A = some ⟨b, o, none⟩ ∧ ∀ j x, l[j]? = some x → OpAt w b (o + j * 5) x
theorem RdO.below {w w' : World} {A : Option Addr} {l : List O} (h : RdO w A l) (hb : Below w.heap.size w w') : RdO w' A l := by
  rcases h with h | ⟨b, o, h1, h2⟩
  · exact .inl h
  · exact .inr ⟨b, o, h1, fun j x hj => (h2 j x hj).below hb⟩
set_option maxRecDepth 100000 in
theorem open_op {H : Type} {enc : TypeId × Value → H} {W : World} {fuel : Nat} {c0 c1 c2 c3 c4 : Value} {x : DataW H × List MemPlace}
    (hf : DataW.trod enc Tryz.prog W 0 (fun _ => true) true fuel 35 [c0, c1, c2, c3, c4] = some x) :
    ∃ (k : Int) (p t : ByteArray) (A : Option Addr) (c : Nat) (l : List UInt8) (n : Int), c0 = .int .i64 k ∧ c1 = .string p ∧ c2 = .string t ∧ c3 = .slice A l.length c ∧ RdB W A l ∧ c4 = .int .i64 n := by
  obtain ⟨xs, n, _, _, hl, hlen, hfld⟩ := DataW.trod_struct Tryz.underlying35 hf
  have hx : ∀ i, i < 5 → ∃ y, xs[i]? = some y := fun i hi => ⟨xs[i]'(by rw [hlen]; exact hi), List.getElem?_eq_getElem _⟩
  have h0 := hfld 0 _ rfl
  have h1 := hfld 1 _ rfl
  have h2 := hfld 2 _ rfl
  have h3 := hfld 3 _ rfl
  have h4 := hfld 4 _ rfl
  obtain ⟨y0, g0⟩ := hx 0 (by omega)
  obtain ⟨y1, g1⟩ := hx 1 (by omega)
  obtain ⟨y2, g2⟩ := hx 2 (by omega)
  obtain ⟨y3, g3⟩ := hx 3 (by omega)
  obtain ⟨y4, g4⟩ := hx 4 (by omega)
  rw [g0] at h0
  rw [g1] at h1
  rw [g2] at h2
  rw [g3] at h3
  rw [g4] at h4
  obtain ⟨k, e0, _, _⟩ := DataW.trod_int Tryz.underlying3 h0
  obtain ⟨p, e1, _, _⟩ := DataW.trod_string Tryz.underlying9 h1
  obtain ⟨t, e2, _, _⟩ := DataW.trod_string Tryz.underlying9 h2
  obtain ⟨m, e4, _, _⟩ := DataW.trod_int Tryz.underlying3 h4
  simp [cells3, cells9] at e0 e1 e2 e4
  simp [cells28] at h3
  obtain ⟨A, c, l, e3, hr, -⟩ := open_bytes1 h3
  exact ⟨k, p, t, A, c, l, m, e0, e1, e2, e3, hr, e4⟩
set_option maxRecDepth 100000 in
theorem okWide_slice' {W : World} {r : Reach} {b0 : Nat} {v : Value} (hv : Value.okWide Tryz.prog W r b0 22 v) : ∃ a len cap, v = .slice a len cap := okWide_slice Tryz.underlying22 hv
set_option maxRecDepth 100000 in
theorem open_ops {H : Type} {enc : TypeId × Value → H} {W : World} {r : Reach} {b0 : Nat} {v : Value} {d : DataW H} {p : List MemPlace} (hv : Value.okWide Tryz.prog W r b0 22 v)
    (h : DataW.Trod enc Tryz.prog W 0 (fun _ => true) true 22 v d p) :
    ∃ (A : Option Addr) (c : Nat) (l : List O), v = .slice A l.length c ∧ RdO W A l ∧ l.length ≤ c := by
  obtain ⟨a, len, cap, rfl⟩ := okWide_slice' hv
  obtain ⟨fuel, hf⟩ := h
  rcases Go.Deep.open_slice Tryz.underlying22 hf with ⟨hcs, _⟩ | ⟨a, len, cap, m, n, D, Pl, hcs, _, hl, hm, hmm, _, hall⟩
  · simp [Value.cells] at hcs
    obtain ⟨rfl, rfl, rfl⟩ := hcs
    exact ⟨none, 0, [], rfl, .inl rfl, by simp⟩
  · simp [Value.cells] at hcs
    obtain ⟨rfl, rfl, rfl⟩ := hcs
    simp at hmm
    subst hmm
    rw [cells30] at hall
    obtain ⟨b, o, sp⟩ := a
    by_cases h0 : len = 0
    · subst h0
      exact ⟨_, _, [], rfl, .inl rfl, by simp⟩
    have hsp : sp = none := by
      obtain ⟨cs', h1, h2⟩ := hall 0 (by omega)
      obtain ⟨_, hlen, hcell⟩ := World.cells?_some h1
      have h3 := hcell 0 (by omega)
      obtain ⟨c0, c1, c2, c3, c4, rfl⟩ := list5 hlen
      have hs := World.cell?_spot h3
      simpa [Addr.add] using hs
    subst hsp
    have hone : ∀ i, i < len → ∃ x : O, OpAt W b (o + i * 5) x := by
      intro i hi
      obtain ⟨cs', h1, h2⟩ := hall i (by omega)
      obtain ⟨_, hlen, hcell⟩ := World.cells?_some h1
      obtain ⟨c0, c1, c2, c3, c4, rfl⟩ := list5 hlen
      obtain ⟨k, p, t, A, c, l, z, rfl, rfl, rfl, rfl, hr, rfl⟩ := open_op h2
      simp only [Addr.add_lit] at hcell
      have q0 := hcell 0 (by omega)
      have q1 := hcell 1 (by omega)
      have q2 := hcell 2 (by omega)
      have q3 := hcell 3 (by omega)
      have q4 := hcell 4 (by omega)
      refine ⟨⟨k, p, t, l, z⟩, ?_, ?_, ?_, ⟨A, c, ?_, hr⟩, ?_⟩
      · exact q0
      · exact q1
      · exact q2
      · exact q3
      · exact q4
    obtain ⟨f, hF⟩ : ∃ f : Nat → O, ∀ i, i < len → OpAt W b (o + i * 5) (f i) :=
      ⟨fun i => if h : i < len then (hone i h).choose else ⟨0, ByteArray.empty, ByteArray.empty, [], 0⟩, fun i hi => by dsimp only; rw [dif_pos hi]; exact (hone i hi).choose_spec⟩
    refine ⟨some ⟨b, o, none⟩, m, (List.range len).map f, by simp, .inr ⟨b, o, rfl, fun j x hj => ?_⟩, by simpa using hl⟩
    rw [List.getElem?_map] at hj
    have hj2 : j < len := by
      by_cases h : j < len
      · exact h
      · rw [List.getElem?_eq_none (by simpa using h)] at hj; cases hj
    rw [List.getElem?_range hj2] at hj
    have : f j = x := by simpa using hj
    rw [← this]
    exact hF j hj2
/-- Few's bounds. -/
def FewP (l : List O) : Prop := l.length ≤ 150 ∧ ∀ x ∈ l, x.data.length ≤ 8192
def FewPost (w : World) (l : List O) (e : Ending) (w' : World) : Prop := ∃ r, e = .returned (.bool r) ∧ Below w.heap.size w w' ∧ (r = true → FewP l)
set_option maxHeartbeats 4000000 in
set_option maxRecDepth 100000 in
theorem few_any (A : Option Addr) (c : Nat) (l : List O) (w : World) (h : RdO w A l) : Calls Tryz.prog 5 #[.slice A l.length c] w (FewPost w l) := by
  obtain ⟨n, hn⟩ : ∃ n, l.length = n := ⟨_, rfl⟩
  rw [hn]
  by_cases h0 : 150 < n
  · have i0 : (150 : Int) < (n : Int) := by omega
    go_enter Tryz.func5, Tryz.ntmps5
    go_wp2
    go_ret
    exact ⟨false, rfl, Below.refl _ _, fun h => by cases h⟩
  have i0 : ¬ (150 : Int) < (n : Int) := by omega
  rcases h with rfl | ⟨b, o, rfl, h⟩
  · simp at hn
    subst hn
    go_enter Tryz.func5, Tryz.ntmps5
    go_wp2_with fail
    go_loop [3, 4] (fun z i => z = .int .i64 0 ∧ i = .int .i64 0) (fun _ _ => 0)
    case atStart => exact ⟨rfl, rfl⟩
    case round =>
      obtain ⟨rfl, rfl⟩ := hrel
      go_wp2
      go_ret
      exact ⟨true, rfl, Below.refl _ _, fun _ => ⟨by simp, by simp⟩⟩
  · have HN := Lib.hid hn
    have H := Lib.hid h
    clear hn h
    go_enter Tryz.func5, Tryz.ntmps5
    go_wp2_with fail
    go_loop [3, 4] (fun z i => ∃ (k : Nat) (q : Int), i = .int .i64 k ∧ z = .int .i64 q ∧ k ≤ n ∧ Hid (∀ j x, j < k → l[j]? = some x → x.data.length ≤ 8192)) (fun _ i => n - (intOf i).toNat)
    case atStart => exact ⟨0, 0, rfl, rfl, by omega, Lib.hid (fun j x hj => by omega)⟩
    case round =>
      obtain ⟨k, q, rfl, rfl, hk, HP⟩ := hrel
      by_cases hlt : k < n
      · have i1 : (k : Int) < n := by omega
        obtain ⟨x, hx⟩ : ∃ x, l[k]? = some x := ⟨l[k]'(by rw [HN.out]; exact hlt), List.getElem?_eq_getElem _⟩
        obtain ⟨-, g1, g2, ⟨D, dc, g3, -⟩, -⟩ := H.out k x hx
        have HX := Lib.hid hx
        clear hx
        obtain ⟨dl, hdl⟩ : ∃ dl, x.data.length = dl := ⟨_, rfl⟩
        rw [hdl] at g3
        have HDL := Lib.hid hdl
        clear hdl
        generalize x.path = xp at g1
        generalize x.to = xt at g2
        by_cases c1 : (8192 : Int) < (dl : Int)
        · go_wp2
          go_ret
          exact ⟨false, rfl, Below.refl _ _, fun h => by cases h⟩
        by_cases c2 : (600 : Int) < (xp.size : Int)
        · go_wp2
          go_ret
          exact ⟨false, rfl, Below.refl _ _, fun h => by cases h⟩
        by_cases c3 : (600 : Int) < (xt.size : Int)
        · go_wp2
          go_ret
          exact ⟨false, rfl, Below.refl _ _, fun h => by cases h⟩
        go_wp2
        go_light
        refine ⟨⟨k + 1, _, by go_num, rfl, hlt, Lib.hid (fun j y hj hy => ?_)⟩, by simp [intOf]; omega⟩
        by_cases e : j = k
        · subst e
          rw [HX.out] at hy
          cases hy
          rw [HDL.out]; omega
        · exact HP.out j y (by omega) hy
      · have i1 : ¬ (k : Int) < n := by omega
        obtain ⟨r, hr⟩ : ∃ r, decide (q ≤ 32768) = r := ⟨_, rfl⟩
        go_wp2
        go_ret
        refine ⟨_, rfl, Below.refl _ _, fun _ => ⟨by rw [HN.out]; omega, fun x hx => ?_⟩⟩
        obtain ⟨j, hj⟩ := List.getElem?_of_mem hx
        have := (List.getElem?_eq_some_iff.1 hj).1
        exact HP.out j x (by rw [HN.out] at this; omega) hj
end Go.Proofs.YtpdcjdangnfeiaaGreatDoor.Wh
open Go.Proofs.YtpdcjdangnfeiaaGreatDoor.Wa Go.Proofs.YtpdcjdangnfeiaaGreatDoor.Wb Go.Proofs.YtpdcjdangnfeiaaGreatDoor.Wc Go.Proofs.YtpdcjdangnfeiaaGreatDoor.Wd Go.Proofs.YtpdcjdangnfeiaaGreatDoor.We Go.Proofs.YtpdcjdangnfeiaaGreatDoor.Wg Go.Proofs.YtpdcjdangnfeiaaGreatDoor.Wi Go.Proofs.YtpdcjdangnfeiaaGreatDoor.Wm Go.Proofs.YtpdcjdangnfeiaaGreatDoor.Wp Go.Proofs.YtpdcjdangnfeiaaGreatDoor.Wq Go.Proofs.YtpdcjdangnfeiaaGreatDoor.Wr Go.Proofs.YtpdcjdangnfeiaaGreatDoor.Rd Go.Proofs.YtpdcjdangnfeiaaGreatDoor.Sg Go.Proofs.YtpdcjdangnfeiaaGreatDoor.Si Go.Proofs.YtpdcjdangnfeiaaGreatDoor.Sj Go.Proofs.YtpdcjdangnfeiaaGreatDoor.Sk Go.Proofs.YtpdcjdangnfeiaaGreatDoor.Wh
namespace Go.Proofs.YtpdcjdangnfeiaaGreatDoor.Sl
open Go.Proofs.YtpdcjdangnfeiaaGreatDoor.Rc (Rf Rf2 Gb Fz RS Tied Rel RR toRR OwnR rowsR rwalk_any rsame_any Deep doR2 rdo_any do_tied RP Rp nodeT NdT)
/-- A tree that is the document's. -/
structure Pair (w : World) (B tb : Nat) (es : Es) (n i m : Nat) (R g b : Nat) (r : RS) : Prop where
  st : St w B tb es n i m
  rf : Rf w R g b r.L r.n r.m
  tied : ∃ ix, Tied r ⟨absE es, n, i⟩ (m + 1) ix
  sum : es.length + i = 40
theorem Pair.below {w w' : World} {B tb n i m R g b : Nat} {es : Es} {r : RS} (h : Pair w B tb es n i m R g b r) (hb : Below w.heap.size w w') : Pair w' B tb es n i m R g b r := ⟨h.st.below hb, Rc.Rf.below h.rf hb, h.tied, h.sum⟩
theorem Pair.es {w : World} {B tb n i m R g b : Nat} {es : Es} {r : RS} (h : Pair w B tb es n i m R g b r) : es.length ≤ 41 := by have := h.sum; omega
/-- A tree of the root alone is the document's. -/
def ix0 : Path → Option Nat := fun q => if q = [] then some 0 else none
theorem tied0 : Tied ⟨[⟨true, true, [], []⟩], 60, 39⟩ ⟨rootA, 60, 39⟩ 1 ix0 := by
  have h0 : ∀ (p : Path) (x : ByteArray), ix0 (p ++ [x]) = none := fun p x => by unfold ix0; rw [if_neg (by simp)]
  refine ⟨⟨rfl, rfl, fun p k hk => ?_, fun p q k hp hq => ?_, fun p hp => ⟨?_, fun x => h0 p x⟩⟩, ⟨by simp, fun k x hx => ?_, fun k x hx e he => ?_⟩, rfl, rfl, by decide, by decide⟩
  · unfold ix0 at hk
    split at hk
    · rename_i hp
      subst hp
      cases hk
      refine ⟨by simp, rfl, rfl, fun x => ?_, fun hd => (by cases hd), fun _ => rfl, fun i j e f hi => (by simp [thL] at hi)⟩
      rw [h0]
      exact (Rc.K_nil x).symm
    · cases hk
  · unfold ix0 at hp hq
    split at hp
    · split at hq
      · rename_i h1 h2; rw [h1, h2]
      · cases hq
    · cases hp
  · unfold ix0 at hp
    split at hp
    · cases hp
    · rename_i h1
      show rootA p = none
      unfold rootA
      rw [if_neg h1]
  · have : x = ⟨true, true, [], []⟩ := by simpa using List.mem_of_getElem? hx
    subst this
    simp
  · have : x = ⟨true, true, [], []⟩ := by simpa using List.mem_of_getElem? hx
    subst this
    simp at he
theorem pair0 {w : World} {B tb R g b : Nat} {q : Int} (h : At w B tb q ⟨rootA, 60, 39⟩ 0) (k : Rf w R g b [⟨true, true, [], []⟩] 60 39) : ∃ es n i, Pair w B tb es n i 0 R g b ⟨[⟨true, true, [], []⟩], 60, 39⟩ := by
  obtain ⟨h0, hq, es, n, i, h1, h2⟩ := h
  have e1 : absE es = rootA := congrArg S.a h2
  have e2 : n = 60 := congrArg S.blocks h2
  have e3 : i = 39 := congrArg S.inodes h2
  subst e2 e3
  refine ⟨es, 60, 39, h1, k, ⟨ix0, by rw [e1]; exact tied0⟩, ?_⟩
  have h3 : Nd1 [(([] : Path), freshSh true 0)] := by
    show ([([] : Path)]).Nodup
    simp
  have h4 := same_len h3 h1.nd (by
    rw [e1]
    funext p
    unfold absE rootA
    rw [gp_cons]
    by_cases e : p = []
    · rw [if_pos e, if_pos e.symm]; rfl
    · rw [if_neg e, if_neg (fun h => e h.symm)]; rfl)
  rw [h4]; rfl
/-- Two trees that are the document's two, all apart. -/
structure Two (w : World) (B1 t1 : Nat) (e1 : Es) (n1 i1 m1 R1 g1 b1 : Nat) (r1 : RS) (B2 t2 : Nat) (e2 : Es) (n2 i2 m2 R2 g2 b2 : Nat) (r2 : RS) : Prop where
  p1 : Pair w B1 t1 e1 n1 i1 m1 R1 g1 b1 r1
  p2 : Pair w B2 t2 e2 n2 i2 m2 R2 g2 b2 r2
  ap : ∀ b, Bk t1 e1 b → ¬ Bk t2 e2 b
  rp : Ap g1 b1 g2 b2
theorem Two.below {w w' : World} {B1 t1 n1 i1 m1 R1 g1 b1 B2 t2 n2 i2 m2 R2 g2 b2 : Nat} {e1 e2 : Es} {r1 r2 : RS} (h : Two w B1 t1 e1 n1 i1 m1 R1 g1 b1 r1 B2 t2 e2 n2 i2 m2 R2 g2 b2 r2) (hb : Below w.heap.size w w') : Two w' B1 t1 e1 n1 i1 m1 R1 g1 b1 r1 B2 t2 e2 n2 i2 m2 R2 g2 b2 r2 := ⟨h.p1.below hb, h.p2.below hb, h.ap, h.rp⟩
theorem Two.at2 {w : World} {B1 t1 n1 i1 m1 R1 g1 b1 B2 t2 n2 i2 m2 R2 g2 b2 : Nat} {e1 e2 : Es} {r1 r2 : RS} {q : Int} (h : Two w B1 t1 e1 n1 i1 m1 R1 g1 b1 r1 B2 t2 e2 n2 i2 m2 R2 g2 b2 r2) (h1 : 0 < B1) (h2 : 0 < B2) (hq : w.cell? ⟨0, 0, none⟩ = some (.int .i64 q)) : At2 w B1 t1 ⟨absE e1, n1, i1⟩ m1 B2 t2 ⟨absE e2, n2, i2⟩ m2 q :=
  ⟨h1, h2, hq, e1, n1, i1, e2, n2, i2, h.p1.st, rfl, h.p2.st, rfl, h.ap⟩
/-- What the tree's act leaves, and then the document's. -/
theorem pair_mid {w w' w'' : World} {B tb n i m R g b : Nat} {es : Es} {r : RS} {o : O} (h : Pair w B tb es n i m R g b r) (hm : m ≤ 2000) {es' : Es} {n' i' : Nat} (a1 : St w' B tb es' n' i' (m + 1)) (a2 : (⟨absE es', n', i'⟩ : S) = doS ⟨absE es, n, i⟩ o) (a3 : Turn w w' B tb es es') (a4 : es'.length + i' = es.length + i)
    (hb : Below w'.heap.size w' w'') {w3 : World} {b' : Nat} (k : Rf w3 R g b' (doR2 r o).1.L (doR2 r o).1.n (doR2 r o).1.m) (hz : Fz w'' w3 (Gb g b)) : Pair w3 B tb es' n' i' (m + 1) R g b' (doR2 r o).1 := by
  have k0 := Rc.Rf.below (turn_rf h.st a3 h.rf) hb
  obtain ⟨ix, ht⟩ := h.tied
  obtain ⟨ix', ht'⟩ := do_tied ht (by omega) o
  exact ⟨fz_st (a1.below hb) k0 hz, k, ⟨ix', by rw [a2]; exact ht'⟩, by rw [a4]; exact h.sum⟩
open Classical in
/-- What Same says of two, and of the document's two. -/
theorem same3 {w : World} {B1 t1 n1 i1 m1 R1 g1 b1 B2 t2 n2 i2 m2 R2 g2 b2 : Nat} {e1 e2 : Es} {r1 r2 : RS} {q : Int} (h : Two w B1 t1 e1 n1 i1 m1 R1 g1 b1 r1 B2 t2 e2 n2 i2 m2 R2 g2 b2 r2) (h1 : 0 < B1) (h2 : 0 < B2) (hq : w.cell? ⟨0, 0, none⟩ = some (.int .i64 q)) (hm1 : m1 ≤ 2000) (hm2 : m2 ≤ 2000) :
    ∃ Z : Bool, (∀ W, Below w.heap.size w W → Calls Tryz.prog 13 #[.pointer (some ⟨t1, 0, none⟩), .pointer (some ⟨t2, 0, none⟩)] W fun e w' => e = .returned (.bool Z) ∧ Below W.heap.size W w') ∧
      (∀ W, Below w.heap.size w W → Calls Tryz.prog 13 #[.pointer (some ⟨t2, 0, none⟩), .pointer (some ⟨t1, 0, none⟩)] W fun e w' => e = .returned (.bool Z) ∧ Below W.heap.size W w') ∧
      (∀ W, Below w.heap.size w W → Calls Tryz.prog 15 #[.pointer (some ⟨g2, 0, none⟩), .pointer (some ⟨g1, 0, none⟩)] W fun e w' => e = .returned (.bool Z) ∧ Below W.heap.size W w') := by
  obtain ⟨x1, y1⟩ := h.p1.tied
  obtain ⟨x2, y2⟩ := h.p2.tied
  have l1 := h.p1.es
  have l2 := h.p2.es
  have d1 := deep_of y1.rel h.p1.st.wf y1.wf 41 [] 0 y1.rel.root (by simpa using l1)
  have d2 := deep_of y2.rel h.p2.st.wf y2.wf 41 [] 0 y2.rel.root (by simpa using l2)
  have z1 := rows_len y1.rel h.p1.st l1
  have z2 := rows_len y2.rel h.p2.st l2
  have hs : rowsR r2.L 41 0 ByteArray.empty = rowsR r1.L 41 0 ByteArray.empty ↔ SA (absE e2) (absE e1) := Rc.rows_sa y2.rel y1.rel h.p2.st.wf h.p1.st.wf (St.nmOk h.p2.st) (St.nmOk h.p1.st) (Rc.st_nmS h.p2.st) (Rc.st_nmS h.p1.st) (fun q hq => by have := depth_lt h.p2.st.wf hq; omega) (fun q hq => by have := depth_lt h.p1.st.wf hq; omega)
  have hy : SA (absE e2) (absE e1) ↔ SA (absE e1) (absE e2) := ⟨fun h r => (h r).symm, fun h r => (h r).symm⟩
  refine ⟨decide (SA (absE e1) (absE e2)), fun W hb => ?_, fun W hb => ?_, fun W hb => ?_⟩
  · refine (same_at2 ((h.below hb).at2 h1 h2 (keepC hb hq))).mono ?_
    rintro e w' ⟨rfl, -, hb'⟩
    exact ⟨rfl, hb'⟩
  · refine (same_at2 ((h.below hb).at2 h1 h2 (keepC hb hq)).symm).mono ?_
    rintro e w' ⟨rfl, -, hb'⟩
    exact ⟨by rw [decide_eq_decide.2 hy], hb'⟩
  · refine (rsame_any 41 (Rc.Rf.below h.p2.rf hb) y2.wf (by omega) d2 (Rc.Rf.below h.p1.rf hb) y1.wf (by omega) d1 (by omega) (by omega) (by omega)).mono ?_
    rintro e w' ⟨rfl, hb'⟩
    exact ⟨by rw [decide_eq_decide.2 (hs.trans hy)], hb'⟩
theorem rdO_at {w : World} {A : Option Addr} {l : List O} (h : RdO w A l) {k : Nat} {x : O} (hx : l[k]? = some x) : ∃ b o, A = some ⟨b, o, none⟩ ∧ OpAt w b (o + k * 5) x := by
  rcases h with rfl | ⟨b, o, rfl, h⟩
  · simp at hx
  · exact ⟨b, o, rfl, h k x hx⟩
end Go.Proofs.YtpdcjdangnfeiaaGreatDoor.Sl
open Go.Proofs.YtpdcjdangnfeiaaGreatDoor.Sl
namespace Go.Proofs.YtpdcjdangnfeiaaGreatDoor.Sm
open Go.Proofs.YtpdcjdangnfeiaaGreatDoor.Rc (Rf Rf2 Gb Fz RS Tied Rel RR toRR OwnR rowsR rwalk_any rsame_any Deep doR2 rdo_any do_tied RP Rp nodeT NdT)
theorem two_mid {w w' w'' : World} {B1 t1 n1 i1 m1 R1 g1 b1 B2 t2 n2 i2 m2 R2 g2 b2 : Nat} {e1 e2 : Es} {r1 r2 : RS} {o : O} (h : Two w B1 t1 e1 n1 i1 m1 R1 g1 b1 r1 B2 t2 e2 n2 i2 m2 R2 g2 b2 r2) (hm : m1 ≤ 2000) {es' : Es} {n' i' : Nat} (a1 : St w' B1 t1 es' n' i' (m1 + 1)) (a2 : (⟨absE es', n', i'⟩ : S) = doS ⟨absE e1, n1, i1⟩ o) (a3 : Turn w w' B1 t1 e1 es') (a4 : es'.length + i' = e1.length + i1)
    (hb : Below w'.heap.size w' w'') {w3 : World} {b' : Nat} (k : Rf w3 R1 g1 b' (doR2 r1 o).1.L (doR2 r1 o).1.n (doR2 r1 o).1.m) (hb' : b' = b1 ∨ w''.heap.size ≤ b') (hz : Fz w'' w3 (Gb g1 b1)) :
    Two w3 B1 t1 es' n' i' (m1 + 1) R1 g1 b' (doR2 r1 o).1 B2 t2 e2 n2 i2 m2 R2 g2 b2 r2 := by
  have k1 := Rc.Rf.below (turn_rf h.p1.st a3 h.p1.rf) hb
  have k2 := Rc.Rf.below (turn_rf h.p1.st a3 h.p2.rf) hb
  obtain ⟨f1, f2⟩ := fz_rf (R := 0) (L := []) (x := 0) (y := 0) k2 h.rp hz hb'
  refine ⟨pair_mid h.p1 hm a1 a2 a3 a4 hb k hz, ⟨fz_st ((st_other h.p2.st a3.fr h.ap).below hb) k1 hz, f1, h.p2.tied, h.p2.sum⟩, fun b hb1 hb2 => ?_, f2⟩
  rcases a3.new b hb1 with h3 | h3
  · exact h.ap b h3 hb2
  · have := (h.p2.st.bk hb2).1
    omega
set_option maxHeartbeats 16000000 in
set_option maxRecDepth 1000000 in
theorem twins_walk (A1 : Option Addr) (c1 : Nat) (l : List O) (A2 : Option Addr) (c2 : Nat) (l2 : List O) (q : Int) (W0 : World) (hq : W0.cell? ⟨0, 0, none⟩ = some (.int .i64 q)) (hl : RdO W0 A1 l) (hl2 : RdO W0 A2 l2) :
    Calls Tryz.prog 3 #[.slice A1 l.length c1, .slice A2 l2.length c2] W0 fun e w' => e = .returned (.bool true) ∧ Below W0.heap.size W0 w' := by
  have HKN := Lib.hid (known_any W0 q hq)
  have HF1 := Lib.hid (fun W (hb : Below W0.heap.size W0 W) => few_any A1 c1 l W (hl.below hb))
  have HF2 := Lib.hid (fun W (hb : Below W0.heap.size W0 W) => few_any A2 c2 l2 W (hl2.below hb))
  have HN := Lib.hid (fun W (hb : Below W0.heap.size W0 W) => (show Calls Tryz.prog 6 #[.int .i64 60, .int .i64 40] W fun e w' => ∃ tb', e = .returned (.tuple #[.pointer (some ⟨tb', 0, none⟩), .int .i64 0]) ∧ At w' W.heap.size tb' q ⟨rootA, 60, 39⟩ 0 ∧ Below W.heap.size W w' from new_at (w := W) (q := q) (n := 60) (i := 39) (keepC hb hq) (by omega) (by omega)))
  have HRN := Lib.hid Rc.rnew_any
  have HL := Lib.hid hl
  have HL2 := Lib.hid hl2
  have HQ := Lib.hid hq
  obtain ⟨n, hn⟩ : ∃ n, l.length = n := ⟨_, rfl⟩
  obtain ⟨n2, hn2⟩ : ∃ n, l2.length = n := ⟨_, rfl⟩
  rw [hn] at HF1 ⊢
  rw [hn2] at HF2 ⊢
  have HLEN := Lib.hid hn
  have HLEN2 := Lib.hid hn2
  clear hq hl hl2 hn hn2
  go_enter Tryz.func3, Tryz.ntmps3
  go_wp2_with fail
  refine HKN.out.mono ?_
  rintro e w1 ⟨rfl, hb⟩
  have HB1 := Lib.hid hb
  clear hb
  go_wp2_with fail
  refine (HF1.out _ HB1.out).mono ?_
  rintro e w2 ⟨r, rfl, hb, hP⟩
  have HB2 := Lib.hid (HB1.out.trans (hb.mono HB1.out.size))
  have HP := Lib.hid hP
  clear hb hP
  cases r with
  | false =>
    go_wp2
    go_ret
    exact ⟨rfl, HB2.out⟩
  | true =>
  have HFW := Lib.hid (HP.out rfl)
  clear HP
  go_wp2_with fail
  refine (HF2.out _ HB2.out).mono ?_
  rintro e w3 ⟨r, rfl, hb, hP⟩
  have HB3 := Lib.hid (HB2.out.trans (hb.mono HB2.out.size))
  have HP := Lib.hid hP
  clear hb hP
  cases r with
  | false =>
    go_wp2
    go_ret
    exact ⟨rfl, HB3.out⟩
  | true =>
  have HFW2 := Lib.hid (HP.out rfl)
  clear HP
  go_wp2_with fail
  refine (HN.out _ HB3.out).mono ?_
  rintro e w4 ⟨tb, rfl, ha, hb⟩
  have HA := Lib.hid ha
  have HB4 := Lib.hid hb
  clear ha hb
  go_wp2_with fail
  refine (HRN.out w4).mono ?_
  rintro e w5 ⟨g, b0, rfl, hr, hb⟩
  have HB5 := Lib.hid (HB4.out.trans (hb.mono HB4.out.size))
  obtain ⟨es0, n0, i0, hp0⟩ := pair0 (HA.out.below hb) hr
  have HP0 := Lib.hid hp0
  have HPOS := Lib.hid HA.out.1
  have HL3 := Lib.hid (HL.out.below HB3.out)
  have HL23 := Lib.hid (HL2.out.below HB3.out)
  have HQ3 := Lib.hid (keepC HB3.out HQ.out)
  have HS34 := Lib.hid HB4.out.size
  clear hb hr hp0 HA
  go_wp2_with fail
  go_loopw [9] (fun i wr => ∃ (k : Nat) (es : Es) (n1 i1 b : Nat) (r : RS), i = .int .i64 k ∧ k ≤ n ∧ Hid (Pair wr w3.heap.size tb es n1 i1 k w4.heap.size g b r) ∧ Hid (Below w3.heap.size w3 wr)) (fun i _ => n - (intOf i).toNat)
  case atStart => exact ⟨0, es0, n0, i0, b0, _, rfl, by omega, HP0, HB5⟩
  case round =>
    obtain ⟨k, es, n1, i1, b, r, rfl, hk, HPR, HW⟩ := hrel
    have hn150 : n ≤ 150 := by have := HFW.out.1; rw [HLEN.out] at this; omega
    have hn250 : n2 ≤ 150 := by have := HFW2.out.1; rw [HLEN2.out] at this; omega
    by_cases hlt : k < n
    · have j1 : (k : Int) < n := by omega
      obtain ⟨x, hx⟩ : ∃ x, l[k]? = some x := ⟨l[k]'(by rw [HLEN.out]; exact hlt), List.getElem?_eq_getElem _⟩
      obtain ⟨bo, o, rfl, hop⟩ := rdO_at HL3.out hx
      have HDL := Lib.hid (HFW.out.2 x (List.mem_of_getElem? hx))
      have HOP := Lib.hid hop
      obtain ⟨g0, g1, g2, ⟨D, dc, g3, hrd⟩, g4⟩ := hop
      have HRD := Lib.hid hrd
      have y0 := keepC HW.out g0
      have y1 := keepC HW.out g1
      have y2 := keepC HW.out g2
      have y3 := keepC HW.out g3
      have y4 := keepC HW.out g4
      have G0 := Lib.hid g0
      have G1 := Lib.hid g1
      have G2 := Lib.hid g2
      have G3 := Lib.hid g3
      have G4 := Lib.hid g4
      have hdo := do_any q x D dc HPR.out.st (by omega) (keepC HW.out HQ3.out) (HRD.out.below HW.out) (by have := HDL.out; omega)
      unfold opV at hdo
      have HDO := Lib.hid hdo
      obtain ⟨x0, xp, xt, xd, xn⟩ := x
      try dsimp only at y0 y1 y2 y3 y4
      clear hdo hx hrd g0 g1 g2 g3 g4
      go_wp2_with fail
      refine HDO.out.mono ?_
      rintro e w6 ⟨rfl, es', n', i', a1, a2, a3, a4, -⟩
      have HA1 := Lib.hid a1
      have HA2 := Lib.hid a2
      have HA3 := Lib.hid a3
      have HA4 := Lib.hid a4
      have HB6 := Lib.hid (HW.out.trans a3.low)
      clear a1 a2 a3 a4 y0 y1 y2 y3 y4
      have y0 := keepC HB6.out G0.out
      have y1 := keepC HB6.out G1.out
      have y2 := keepC HB6.out G2.out
      have y3 := keepC HB6.out G3.out
      have y4 := keepC HB6.out G4.out
      try dsimp only at y0 y1 y2 y3 y4
      have hof := Rc.of_any w6 ⟨x0, xp, xt, xd, xn⟩ D dc
      unfold opV at hof
      have HOF := Lib.hid hof
      clear hof
      go_wp2_with fail
      refine HOF.out.mono ?_
      rintro e w7 ⟨rfl, hb7⟩
      have HB67 := Lib.hid hb7
      have HB7 := Lib.hid (HB6.out.trans (hb7.mono HB6.out.size))
      have k7 := Rc.Rf.below (turn_rf HPR.out.st HA3.out HPR.out.rf) hb7
      obtain ⟨ix, ht⟩ := HPR.out.tied
      have hrdo := rdo_any ⟨x0, xp, xt, xd, xn⟩ D dc k7 ht (by omega) (HRD.out.below HB7.out) (by have := HDL.out; dsimp only at this ⊢; omega)
      unfold opV at hrdo
      have HRDO := Lib.hid hrdo
      clear hrdo hb7 k7 ht y0 y1 y2 y3 y4
      go_wp2_with fail
      refine HRDO.out.mono ?_
      rintro e w8 ⟨rfl, b', k8, hb8, hz8, hl8⟩
      have hp := pair_mid HPR.out (by omega) HA1.out HA2.out HA3.out HA4.out HB67.out k8 hz8
      have HP8 := Lib.hid hp
      have HB8 := Lib.hid (show Below w3.heap.size w3 w8 from HB7.out.trans (hl8.mono HS34.out))
      clear k8 hb8 hz8 hl8 hp
      go_wp2
      go_roundw
      · exact ⟨k + 1, es', n', i', b', _, by go_num, hlt, HP8, HB8⟩
      · simp [intOf]; omega
    · have j1 : ¬ (k : Int) < n := by omega
      have hkn : k = n := by omega
      subst hkn
      go_wp2_with fail
      refine (twin_st HPR.out.st (by omega)).mono ?_
      rintro e w6 ⟨t2, fs, rfl, hst2, habs, hb6⟩
      have HST2 := Lib.hid hst2
      have HABS := Lib.hid habs
      have HB6 := Lib.hid hb6
      clear hst2 habs hb6
      obtain ⟨ix, ht⟩ := HPR.out.tied
      have HTI := Lib.hid ht
      have htw := Rc.rtwin_any (Rc.Rf.below HPR.out.rf HB6.out) ht.wf (by omega)
      have HTW := Lib.hid htw
      clear ht htw
      go_wp2_with fail
      refine HTW.out.mono ?_
      rintro e w7 ⟨g2, b2, rfl, hrf2, hb7⟩
      have htwo : Two w7 w3.heap.size tb es n1 i1 k w6.heap.size g2 b2 r wr.heap.size t2 fs n1 i1 k w4.heap.size g b r := by
        refine ⟨⟨(HPR.out.st.below HB6.out).below hb7, hrf2, ⟨ix, HTI.out⟩, HPR.out.sum⟩, ⟨HST2.out.below hb7, Rc.Rf.below (Rc.Rf.below HPR.out.rf HB6.out) hb7, ⟨ix, by rw [HABS.out]; exact HTI.out⟩, ?_⟩, fun b hb1 hb2 => ?_, ?_⟩
        · have := same_len HPR.out.st.nd HST2.out.nd HABS.out
          rw [this]; exact HPR.out.sum
        · have h1 := (HPR.out.st.bk hb1).1
          have h2 := (HST2.out.bk hb2).2.2
          omega
        · have h1 := HPR.out.rf.ltg
          have h2 := HPR.out.rf.ltb
          have h3 := hrf2.base
          have h4 := HB6.out.size
          exact ⟨by omega, by omega, by omega, by omega⟩
      have HTWO := Lib.hid htwo
      have hw37 : Below w3.heap.size w3 w7 := HW.out.trans ((HB6.out.trans (hb7.mono HB6.out.size)).mono HW.out.size)
      have HW7 := Lib.hid hw37
      have HP2 := Lib.hid (show 0 < wr.heap.size by have := HW.out.size; have := HPOS.out; omega)
      have hsame := same_true (htwo.at2 HPOS.out HP2.out (keepC hw37 HQ3.out)) (show SA (absE es) (absE fs) by rw [HABS.out]; exact fun _ => rfl)
      have HSAME := Lib.hid hsame
      have HS3 := Lib.hid HW.out.size
      have HS6 := Lib.hid (Nat.le_trans HW.out.size HB6.out.size)
      clear hrf2 hb7 htwo hw37 hsame
      go_wp2_with fail
      refine HSAME.out.mono ?_
      rintro e w8 ⟨rfl, -, hb8⟩
      have HTWO8 := Lib.hid (HTWO.out.below hb8)
      have HW8 := Lib.hid (HW7.out.trans (hb8.mono HW7.out.size))
      clear hb8 HSAME HTWO
      go_wp2_with fail
      go_loopw [12] (fun i wq => ∃ (d : Nat) (es' : Es) (n' i' b' : Nat) (r' : RS), i = .int .i64 d ∧ d ≤ n2 ∧ Hid (Two wq w3.heap.size tb es' n' i' (k + d) w6.heap.size g2 b' r' wr.heap.size t2 fs n1 i1 k w4.heap.size g b r) ∧ Hid (Below w3.heap.size w3 wq)) (fun i _ => n2 - (intOf i).toNat)
      case atStart => exact ⟨0, es, n1, i1, b2, r, rfl, by omega, HTWO8, HW8⟩
      case round =>
        obtain ⟨d, es', n', i', b', r', rfl, hd, HTW2, HWQ⟩ := hrel
        by_cases hlt2 : d < n2
        · have j2 : (d : Int) < n2 := by omega
          obtain ⟨x, hx⟩ : ∃ x, l2[d]? = some x := ⟨l2[d]'(by rw [HLEN2.out]; exact hlt2), List.getElem?_eq_getElem _⟩
          obtain ⟨bo, o, rfl, hop⟩ := rdO_at HL23.out hx
          have HDL := Lib.hid (HFW2.out.2 x (List.mem_of_getElem? hx))
          have HOP := Lib.hid hop
          obtain ⟨g0, g1, g2', ⟨D, dc, g3, hrd⟩, g4⟩ := hop
          have HRD := Lib.hid hrd
          have y0 := keepC HWQ.out g0
          have y1 := keepC HWQ.out g1
          have y2 := keepC HWQ.out g2'
          have y3 := keepC HWQ.out g3
          have y4 := keepC HWQ.out g4
          have G0 := Lib.hid g0
          have G1 := Lib.hid g1
          have G2 := Lib.hid g2'
          have G3 := Lib.hid g3
          have G4 := Lib.hid g4
          have hdo := do_any q x D dc HTW2.out.p1.st (by omega) (keepC HWQ.out HQ3.out) (HRD.out.below HWQ.out) (by have := HDL.out; omega)
          unfold opV at hdo
          have HDO := Lib.hid hdo
          obtain ⟨x0, xp, xt, xd, xn⟩ := x
          try dsimp only at y0 y1 y2 y3 y4
          clear hdo hx hrd g0 g1 g2' g3 g4
          go_wp2_with fail
          refine HDO.out.mono ?_
          rintro e w9 ⟨rfl, es9, n9, i9, a1, a2, a3, a4, -⟩
          have HA1 := Lib.hid a1
          have HA2 := Lib.hid a2
          have HA3 := Lib.hid a3
          have HA4 := Lib.hid a4
          have HB9 := Lib.hid (HWQ.out.trans a3.low)
          clear a1 a2 a3 a4 y0 y1 y2 y3 y4
          have y0 := keepC HB9.out G0.out
          have y1 := keepC HB9.out G1.out
          have y2 := keepC HB9.out G2.out
          have y3 := keepC HB9.out G3.out
          have y4 := keepC HB9.out G4.out
          try dsimp only at y0 y1 y2 y3 y4
          have hof := Rc.of_any w9 ⟨x0, xp, xt, xd, xn⟩ D dc
          unfold opV at hof
          have HOF := Lib.hid hof
          clear hof
          go_wp2_with fail
          refine HOF.out.mono ?_
          rintro e w10 ⟨rfl, hb10⟩
          have HB910 := Lib.hid hb10
          have HB10 := Lib.hid (HB9.out.trans (hb10.mono HB9.out.size))
          have k10 := Rc.Rf.below (turn_rf HTW2.out.p1.st HA3.out HTW2.out.p1.rf) hb10
          obtain ⟨ix', ht'⟩ := HTW2.out.p1.tied
          have hrdo := rdo_any ⟨x0, xp, xt, xd, xn⟩ D dc k10 ht' (by omega) (HRD.out.below HB10.out) (by have := HDL.out; dsimp only at this ⊢; omega)
          unfold opV at hrdo
          have HRDO := Lib.hid hrdo
          clear hrdo hb10 k10 ht' y0 y1 y2 y3 y4
          go_wp2_with fail
          refine HRDO.out.mono ?_
          rintro e w11 ⟨rfl, b11, k11, hb11, hz11, hl11⟩
          have hp := two_mid HTW2.out (by omega) HA1.out HA2.out HA3.out HA4.out HB910.out k11 hb11 hz11
          have HP11 := Lib.hid hp
          have HB11 := Lib.hid (show Below w3.heap.size w3 w11 from HB10.out.trans (hl11.mono HS6.out))
          clear k11 hb11 hz11 hl11 hp
          go_wp2
          go_roundw
          · exact ⟨d + 1, es9, n9, i9, b11, _, by go_num, hlt2, HP11, HB11⟩
          · simp [intOf]; omega
        · have j2 : ¬ (d : Int) < n2 := by omega
          have hqq := keepC HWQ.out HQ3.out
          obtain ⟨Z, s1, s2, s3⟩ := same3 HTW2.out HPOS.out HP2.out hqq (by omega) (by omega)
          obtain ⟨x1, y1⟩ := HTW2.out.p1.tied
          obtain ⟨x2, y2⟩ := HTW2.out.p2.tied
          have HS1 := Lib.hid s1
          have HS2 := Lib.hid s2
          have HS33 := Lib.hid s3
          have HLK1 := Lib.hid (fun W (hb : Below wr.heap.size wr W) => looks_any q (HTW2.out.p1.st.below hb) HPOS.out (by omega) HTW2.out.p1.es (keepC hb hqq) (Rc.Rf.below HTW2.out.p1.rf hb) y1 (by omega))
          have HLK2 := Lib.hid (fun W (hb : Below wr.heap.size wr W) => looks_any q (HTW2.out.p2.st.below hb) HP2.out (by omega) HTW2.out.p2.es (keepC hb hqq) (Rc.Rf.below HTW2.out.p2.rf hb) y2 (by omega))
          clear s1 s2 s3 y1 y2 hqq
          go_wp2_with fail
          refine (HLK2.out _ (Below.refl _ _)).mono ?_
          rintro e v1 ⟨rfl, hv1⟩
          have HV1 := Lib.hid hv1
          clear hv1
          go_wp2_with fail
          refine (HLK1.out _ HV1.out).mono ?_
          rintro e v2 ⟨rfl, hv2⟩
          have HV2 := Lib.hid (HV1.out.trans (hv2.mono HV1.out.size))
          clear hv2
          go_wp2_with fail
          refine (HS1.out _ HV2.out).mono ?_
          rintro e v3 ⟨rfl, hv3⟩
          have HV3 := Lib.hid (HV2.out.trans (hv3.mono HV2.out.size))
          clear hv3
          go_wp2_with fail
          refine (HS33.out _ HV3.out).mono ?_
          rintro e v4 ⟨rfl, hv4⟩
          have HV4 := Lib.hid (HV3.out.trans (hv4.mono HV3.out.size))
          clear hv4
          go_wp2_with fail
          refine (HS2.out _ HV4.out).mono ?_
          rintro e v5 ⟨rfl, hv5⟩
          have HV5 := Lib.hid (HV4.out.trans (hv5.mono HV4.out.size))
          clear hv5
          go_wp2_with fail
          refine (HS33.out _ HV5.out).mono ?_
          rintro e v6 ⟨rfl, hv6⟩
          have HV6 := Lib.hid (HV5.out.trans (hv6.mono HV5.out.size))
          clear hv6
          go_wp2
          go_ret
          exact ⟨rfl, HB3.out.trans ((HWQ.out.trans (HV6.out.mono HWQ.out.size)).mono HB3.out.size)⟩
end Go.Proofs.YtpdcjdangnfeiaaGreatDoor.Sm
end
