/- A row of acts that came in, opened; Few. -/
import Derived.Test.YtpdcjdangnfeiaaDoorM9
import Derived.Deep.Slices
import Derived.ChangeSlices
import Derived.ProofKit
namespace Go.Proofs.YtpdcjdangnfeiaaDoor.Wh
open Go Go.Maps Go.RowKit Go.Proofs.YtpdcjdangnfeiaaDoor.Pb Go.Proofs.YtpdcjdangnfeiaaDoor.PPth Go.Proofs.YtpdcjdangnfeiaaDoorW.PrintWords Go.Proofs.YtpdcjdangnfeiaaDoorW.PrintLast Go.Proofs.YtpdcjdangnfeiaaDoorW.PrintMore Go.Proofs.YtpdcjdangnfeiaaDoor.Ta Go.Proofs.YtpdcjdangnfeiaaDoor.Tb Go.Proofs.YtpdcjdangnfeiaaDoor.Tc Go.Proofs.YtpdcjdangnfeiaaDoor.Te Go.Proofs.YtpdcjdangnfeiaaDoor.Tf Go.Proofs.YtpdcjdangnfeiaaDoor.Qa Go.Proofs.YtpdcjdangnfeiaaDoor.Qb Go.Proofs.YtpdcjdangnfeiaaDoor.Qc Go.Proofs.YtpdcjdangnfeiaaDoor.Qd Go.Proofs.YtpdcjdangnfeiaaDoor.Qe Go.Proofs.YtpdcjdangnfeiaaDoor.Qf Go.Proofs.YtpdcjdangnfeiaaDoor.Ua Go.Proofs.YtpdcjdangnfeiaaDoor.Ub Go.Proofs.YtpdcjdangnfeiaaDoor.Uc Go.Proofs.YtpdcjdangnfeiaaDoor.Ud Go.Proofs.YtpdcjdangnfeiaaDoor.Ue Go.Proofs.YtpdcjdangnfeiaaDoor.Uf Go.Proofs.YtpdcjdangnfeiaaDoor.Ba Go.Proofs.YtpdcjdangnfeiaaDoor.Ug Go.Proofs.YtpdcjdangnfeiaaDoor.Uh Go.Proofs.YtpdcjdangnfeiaaDoor.Ui Go.Proofs.YtpdcjdangnfeiaaDoor.Uj Go.Proofs.YtpdcjdangnfeiaaDoor.Uk Go.Proofs.YtpdcjdangnfeiaaDoor.Ul Go.Proofs.YtpdcjdangnfeiaaDoor.Um Go.Proofs.YtpdcjdangnfeiaaDoor.Un Go.Proofs.YtpdcjdangnfeiaaDoor.Uo Go.Proofs.YtpdcjdangnfeiaaDoor.Up Go.Proofs.YtpdcjdangnfeiaaDoor.Uq Go.Proofs.YtpdcjdangnfeiaaDoor.Ur Go.Proofs.YtpdcjdangnfeiaaDoor.Us Go.Proofs.YtpdcjdangnfeiaaDoor.Ut Go.Proofs.YtpdcjdangnfeiaaDoor.Uu Go.Proofs.YtpdcjdangnfeiaaDoor.Uv Go.Proofs.YtpdcjdangnfeiaaDoor.Uw Go.Proofs.YtpdcjdangnfeiaaDoor.Ux Go.Proofs.YtpdcjdangnfeiaaDoor.Uy Go.Proofs.YtpdcjdangnfeiaaDoor.Uz Go.Proofs.YtpdcjdangnfeiaaDoor.Va Go.Proofs.YtpdcjdangnfeiaaDoor.Vb Go.Proofs.YtpdcjdangnfeiaaDoor.Vc Go.Proofs.YtpdcjdangnfeiaaDoor.Vd Go.Proofs.YtpdcjdangnfeiaaDoor.Ve
open Go.ChangeShapes Go.WideShapes Go.ChangeAt
theorem byte_val (n : Nat) (h : n < 256) : bv (UInt8.ofNat n) = .int .u8 (n : Int) := by
  have e : (UInt8.ofNat n).toNat = n := by rw [UInt8.toNat_ofNat']; exact Nat.mod_eq_of_lt h
  show Value.int .u8 (((UInt8.ofNat n).toNat : Nat) : Int) = _
  rw [e]
set_option maxRecDepth 100000 in
theorem open_bytes1 {H : Type} {enc : TypeId × Value → H} {W : World} {fuel : Nat} {v : Value} {x : DataW H × List MemPlace}
    (hf : DataW.trod enc Tryd.prog W 0 (fun _ => true) true fuel 28 [v] = some x) :
    ∃ (A : Option Addr) (c : Nat) (l : List UInt8), v = .slice A l.length c ∧ RdB W A l ∧ l.length ≤ c := by
  rcases open_ints Tryd.underlying28 Tryd.underlying5 (by kernel_rfl) hf with ⟨hcs, _⟩ | ⟨a, len, cap, zs, hcs, _, hl, hm, hz, _, hcell, hwz⟩
  · simp at hcs
    subst hcs
    exact ⟨none, 0, [], rfl, RdB.nil _ _, by simp⟩
  · simp at hcs
    subst hcs
    simp at hz
    have hlen : ((zs.take len).map (fun z => UInt8.ofNat z.toNat)).length = len := by simp; omega
    refine ⟨some a, cap, (zs.take len).map (fun z => UInt8.ofNat z.toNat), by rw [hlen], ?_, by omega⟩
    unfold maxLen at hm
    refine ⟨rfl, by omega, fun _ => ⟨a, rfl, fun j hj => ?_⟩⟩
    rw [hlen] at hj
    rw [hcell j (by omega)]
    have hj2 : j < zs.length := by omega
    rw [List.getD_eq_getElem?_getD, List.getD_eq_getElem?_getD, List.getElem?_map, List.getElem?_take_of_lt hj, List.getElem?_eq_getElem hj2]
    have hw := hwz zs[j] (List.getElem_mem hj2)
    have hw2 : 0 ≤ zs[j] ∧ zs[j] ≤ 255 := by
      simp [Lit.wf, IntKind.min, IntKind.max, IntKind.signed, IntKind.bits] at hw
      omega
    simp only [Option.map_some, Option.getD_some]
    obtain ⟨n, hn⟩ : ∃ n : Nat, zs[j] = (n : Int) := ⟨zs[j].toNat, by omega⟩
    rw [hn] at hw2 ⊢
    rw [Int.toNat_natCast]
    exact congrArg some (byte_val n (by omega)).symm
theorem cells30 : Tryd.prog.cellsOf 30 = 5 := by kernel_rfl
theorem cells28 : Tryd.prog.cellsOf 28 = 1 := by kernel_rfl
theorem cells9 : Tryd.prog.cellsOf 9 = 1 := by kernel_rfl
theorem cells3 : Tryd.prog.cellsOf 3 = 1 := by kernel_rfl
theorem list5 {α : Type} {l : List α} (h : l.length = 5) : ∃ a b c d e, l = [a, b, c, d, e] := by
  match l, h with
  | [a, b, c, d, e], _ => exact ⟨a, b, c, d, e, rfl⟩
/-- An act in memory. -/
def OpAt (w : World) (b o : Nat) (x : O) : Prop :=
  w.cell? ⟨b, o, none⟩ = some (.int .i64 x.kind) ∧ w.cell? ⟨b, o + 1, none⟩ = some (.string x.path) ∧ w.cell? ⟨b, o + 2, none⟩ = some (.string x.to) ∧ (∃ D c, w.cell? ⟨b, o + 3, none⟩ = some (.slice D x.data.length c) ∧ RdB w D x.data) ∧ w.cell? ⟨b, o + 4, none⟩ = some (.int .i64 x.n)
theorem OpAt.below {w w' : World} {b o : Nat} {x : O} (h : OpAt w b o x) (hb : Below w.heap.size w w') : OpAt w' b o x := by
  obtain ⟨h1, h2, h3, ⟨D, c, h4, h5⟩, h6⟩ := h
  exact ⟨keepC hb h1, keepC hb h2, keepC hb h3, ⟨D, c, keepC hb h4, h5.below hb⟩, keepC hb h6⟩
/-- A row of acts. -/
def RdO (w : World) (A : Option Addr) (l : List O) : Prop := l = [] ∨ ∃ b o, A = some ⟨b, o, none⟩ ∧ ∀ j x, l[j]? = some x → OpAt w b (o + j * 5) x
theorem RdO.below {w w' : World} {A : Option Addr} {l : List O} (h : RdO w A l) (hb : Below w.heap.size w w') : RdO w' A l := by
  rcases h with h | ⟨b, o, h1, h2⟩
  · exact .inl h
  · exact .inr ⟨b, o, h1, fun j x hj => (h2 j x hj).below hb⟩
set_option maxRecDepth 100000 in
theorem open_op {H : Type} {enc : TypeId × Value → H} {W : World} {fuel : Nat} {c0 c1 c2 c3 c4 : Value} {x : DataW H × List MemPlace}
    (hf : DataW.trod enc Tryd.prog W 0 (fun _ => true) true fuel 30 [c0, c1, c2, c3, c4] = some x) :
    ∃ (k : Int) (p t : ByteArray) (A : Option Addr) (c : Nat) (l : List UInt8) (n : Int), c0 = .int .i64 k ∧ c1 = .string p ∧ c2 = .string t ∧ c3 = .slice A l.length c ∧ RdB W A l ∧ c4 = .int .i64 n := by
  obtain ⟨xs, n, _, _, hl, hlen, hfld⟩ := DataW.trod_struct Tryd.underlying30 hf
  have hx : ∀ i, i < 5 → ∃ y, xs[i]? = some y := fun i hi => ⟨xs[i]'(by rw [hlen]; exact hi), List.getElem?_eq_getElem _⟩
  have h0 := hfld 0 _ rfl
  have h1 := hfld 1 _ rfl
  have h2 := hfld 2 _ rfl
  have h3 := hfld 3 _ rfl
  have h4 := hfld 4 _ rfl
  obtain ⟨y0, g0⟩ := hx 0 (by omega)
  obtain ⟨y1, g1⟩ := hx 1 (by omega)
  obtain ⟨y2, g2⟩ := hx 2 (by omega)
  obtain ⟨y3, g3⟩ := hx 3 (by omega)
  obtain ⟨y4, g4⟩ := hx 4 (by omega)
  rw [g0] at h0
  rw [g1] at h1
  rw [g2] at h2
  rw [g3] at h3
  rw [g4] at h4
  obtain ⟨k, e0, _, _⟩ := DataW.trod_int Tryd.underlying3 h0
  obtain ⟨p, e1, _, _⟩ := DataW.trod_string Tryd.underlying9 h1
  obtain ⟨t, e2, _, _⟩ := DataW.trod_string Tryd.underlying9 h2
  obtain ⟨m, e4, _, _⟩ := DataW.trod_int Tryd.underlying3 h4
  simp [cells3, cells9] at e0 e1 e2 e4
  simp [cells28] at h3
  obtain ⟨A, c, l, e3, hr, -⟩ := open_bytes1 h3
  exact ⟨k, p, t, A, c, l, m, e0, e1, e2, e3, hr, e4⟩
set_option maxRecDepth 100000 in
theorem okWide_slice' {W : World} {r : Reach} {b0 : Nat} {v : Value} (hv : Value.okWide Tryd.prog W r b0 47 v) : ∃ a len cap, v = .slice a len cap := okWide_slice Tryd.underlying47 hv
set_option maxRecDepth 100000 in
theorem open_ops {H : Type} {enc : TypeId × Value → H} {W : World} {r : Reach} {b0 : Nat} {v : Value} {d : DataW H} {p : List MemPlace} (hv : Value.okWide Tryd.prog W r b0 47 v)
    (h : DataW.Trod enc Tryd.prog W 0 (fun _ => true) true 47 v d p) :
    ∃ (A : Option Addr) (c : Nat) (l : List O), v = .slice A l.length c ∧ RdO W A l ∧ l.length ≤ c := by
  obtain ⟨a, len, cap, rfl⟩ := okWide_slice' hv
  obtain ⟨fuel, hf⟩ := h
  rcases Go.Deep.open_slice Tryd.underlying47 hf with ⟨hcs, _⟩ | ⟨a, len, cap, m, n, D, Pl, hcs, _, hl, hm, hmm, _, hall⟩
  · simp [Value.cells] at hcs
    obtain ⟨rfl, rfl, rfl⟩ := hcs
    exact ⟨none, 0, [], rfl, .inl rfl, by simp⟩
  · simp [Value.cells] at hcs
    obtain ⟨rfl, rfl, rfl⟩ := hcs
    simp at hmm
    subst hmm
    rw [cells30] at hall
    obtain ⟨b, o, sp⟩ := a
    by_cases h0 : len = 0
    · subst h0
      exact ⟨_, _, [], rfl, .inl rfl, by simp⟩
    have hsp : sp = none := by
      obtain ⟨cs', h1, h2⟩ := hall 0 (by omega)
      obtain ⟨_, hlen, hcell⟩ := World.cells?_some h1
      have h3 := hcell 0 (by omega)
      obtain ⟨c0, c1, c2, c3, c4, rfl⟩ := list5 hlen
      have hs := World.cell?_spot h3
      simpa [Addr.add] using hs
    subst hsp
    have hone : ∀ i, i < len → ∃ x : O, OpAt W b (o + i * 5) x := by
      intro i hi
      obtain ⟨cs', h1, h2⟩ := hall i (by omega)
      obtain ⟨_, hlen, hcell⟩ := World.cells?_some h1
      obtain ⟨c0, c1, c2, c3, c4, rfl⟩ := list5 hlen
      obtain ⟨k, p, t, A, c, l, z, rfl, rfl, rfl, rfl, hr, rfl⟩ := open_op h2
      simp only [Addr.add_lit] at hcell
      have q0 := hcell 0 (by omega)
      have q1 := hcell 1 (by omega)
      have q2 := hcell 2 (by omega)
      have q3 := hcell 3 (by omega)
      have q4 := hcell 4 (by omega)
      refine ⟨⟨k, p, t, l, z⟩, ?_, ?_, ?_, ⟨A, c, ?_, hr⟩, ?_⟩
      · exact q0
      · exact q1
      · exact q2
      · exact q3
      · exact q4
    obtain ⟨f, hF⟩ : ∃ f : Nat → O, ∀ i, i < len → OpAt W b (o + i * 5) (f i) :=
      ⟨fun i => if h : i < len then (hone i h).choose else ⟨0, ByteArray.empty, ByteArray.empty, [], 0⟩, fun i hi => by dsimp only; rw [dif_pos hi]; exact (hone i hi).choose_spec⟩
    refine ⟨some ⟨b, o, none⟩, m, (List.range len).map f, by simp, .inr ⟨b, o, rfl, fun j x hj => ?_⟩, by simpa using hl⟩
    rw [List.getElem?_map] at hj
    have hj2 : j < len := by
      by_cases h : j < len
      · exact h
      · rw [List.getElem?_eq_none (by simpa using h)] at hj; cases hj
    rw [List.getElem?_range hj2] at hj
    have : f j = x := by simpa using hj
    rw [← this]
    exact hF j hj2
/-- Few's bounds. -/
def FewP (l : List O) : Prop := l.length ≤ 150 ∧ ∀ x ∈ l, x.data.length ≤ 8192
def FewPost (w : World) (l : List O) (e : Ending) (w' : World) : Prop := ∃ r, e = .returned (.bool r) ∧ Below w.heap.size w w' ∧ (r = true → FewP l)
set_option maxHeartbeats 4000000 in
set_option maxRecDepth 100000 in
theorem few_any (A : Option Addr) (c : Nat) (l : List O) (w : World) (h : RdO w A l) : Calls Tryd.prog 17 #[.slice A l.length c] w (FewPost w l) := by
  obtain ⟨n, hn⟩ : ∃ n, l.length = n := ⟨_, rfl⟩
  rw [hn]
  by_cases h0 : 150 < n
  · have i0 : (150 : Int) < (n : Int) := by omega
    go_enter Tryd.func17, Tryd.ntmps17
    go_wp2
    go_ret
    exact ⟨false, rfl, Below.refl _ _, fun h => by cases h⟩
  have i0 : ¬ (150 : Int) < (n : Int) := by omega
  rcases h with rfl | ⟨b, o, rfl, h⟩
  · simp at hn
    subst hn
    go_enter Tryd.func17, Tryd.ntmps17
    go_wp2_with fail
    go_loop [3, 4] (fun z i => z = .int .i64 0 ∧ i = .int .i64 0) (fun _ _ => 0)
    case atStart => exact ⟨rfl, rfl⟩
    case round =>
      obtain ⟨rfl, rfl⟩ := hrel
      go_wp2
      go_ret
      exact ⟨true, rfl, Below.refl _ _, fun _ => ⟨by simp, by simp⟩⟩
  · have HN := Lib.hid hn
    have H := Lib.hid h
    clear hn h
    go_enter Tryd.func17, Tryd.ntmps17
    go_wp2_with fail
    go_loop [3, 4] (fun z i => ∃ (k : Nat) (q : Int), i = .int .i64 k ∧ z = .int .i64 q ∧ k ≤ n ∧ Hid (∀ j x, j < k → l[j]? = some x → x.data.length ≤ 8192)) (fun _ i => n - (intOf i).toNat)
    case atStart => exact ⟨0, 0, rfl, rfl, by omega, Lib.hid (fun j x hj => by omega)⟩
    case round =>
      obtain ⟨k, q, rfl, rfl, hk, HP⟩ := hrel
      by_cases hlt : k < n
      · have i1 : (k : Int) < n := by omega
        obtain ⟨x, hx⟩ : ∃ x, l[k]? = some x := ⟨l[k]'(by rw [HN.out]; exact hlt), List.getElem?_eq_getElem _⟩
        obtain ⟨-, g1, g2, ⟨D, dc, g3, -⟩, -⟩ := H.out k x hx
        have HX := Lib.hid hx
        clear hx
        obtain ⟨dl, hdl⟩ : ∃ dl, x.data.length = dl := ⟨_, rfl⟩
        rw [hdl] at g3
        have HDL := Lib.hid hdl
        clear hdl
        generalize x.path = xp at g1
        generalize x.to = xt at g2
        by_cases c1 : (8192 : Int) < (dl : Int)
        · go_wp2
          go_ret
          exact ⟨false, rfl, Below.refl _ _, fun h => by cases h⟩
        by_cases c2 : (600 : Int) < (xp.size : Int)
        · go_wp2
          go_ret
          exact ⟨false, rfl, Below.refl _ _, fun h => by cases h⟩
        by_cases c3 : (600 : Int) < (xt.size : Int)
        · go_wp2
          go_ret
          exact ⟨false, rfl, Below.refl _ _, fun h => by cases h⟩
        go_wp2
        go_light
        refine ⟨⟨k + 1, _, by go_num, rfl, hlt, Lib.hid (fun j y hj hy => ?_)⟩, by simp [intOf]; omega⟩
        by_cases e : j = k
        · subst e
          rw [HX.out] at hy
          cases hy
          rw [HDL.out]; omega
        · exact HP.out j y (by omega) hy
      · have i1 : ¬ (k : Int) < n := by omega
        obtain ⟨r, hr⟩ : ∃ r, decide (q ≤ 32768) = r := ⟨_, rfl⟩
        go_wp2
        go_ret
        refine ⟨_, rfl, Below.refl _ _, fun _ => ⟨by rw [HN.out]; omega, fun x hx => ?_⟩⟩
        obtain ⟨j, hj⟩ := List.getElem?_of_mem hx
        have := (List.getElem?_eq_some_iff.1 hj).1
        exact HP.out j x (by rw [HN.out] at this; omega) hj
end Go.Proofs.YtpdcjdangnfeiaaDoor.Wh
