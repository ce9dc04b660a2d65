/- The rows that the reference's Walk tells, walked. The reference's Walk and Same walked. -/
import Derived.Test.YtpdcjdangnfeiaaGreatDoorZp
import Derived.Test.YtpdcjdangnfeiaaGreatDoorZi
section
open Go Go.RowKit Go.Proofs.YtpdcjdangnfeiaaGreatDoor.Pb Go.Proofs.YtpdcjdangnfeiaaGreatDoor.PPrf Go.Proofs.YtpdcjdangnfeiaaGreatDoorW.PrintWords Go.Proofs.YtpdcjdangnfeiaaGreatDoorW.PrintLast Go.Proofs.YtpdcjdangnfeiaaGreatDoorW.PrintMore Go.Proofs.YtpdcjdangnfeiaaGreatDoor.Qa Go.Proofs.YtpdcjdangnfeiaaGreatDoor.Tb Go.Proofs.YtpdcjdangnfeiaaGreatDoor.Rb Go.Proofs.YtpdcjdangnfeiaaGreatDoor.Ba Go.Proofs.YtpdcjdangnfeiaaGreatDoor.Rd Go.Proofs.YtpdcjdangnfeiaaGreatDoor.Te Go.Proofs.YtpdcjdangnfeiaaGreatDoor.Rq Go.Proofs.YtpdcjdangnfeiaaGreatDoor.Ua Go.Proofs.YtpdcjdangnfeiaaGreatDoor.Wm Go.Proofs.YtpdcjdangnfeiaaGreatDoor.Ui
namespace Go.Proofs.YtpdcjdangnfeiaaGreatDoor.Rc
theorem info78 : (Tryz.prog.info? 78).map (fun i => (i.zero, i.size, i.bytes)) = some (some (.agg #[(.string ⟨#[]⟩), .bool false, .int .i64 0, .int .i64 0, .string ⟨#[]⟩]), 5, 56) := by kernel_rfl
def cellsR (x : RR) : List Value := [.string x.p, .bool x.dir, .int .i64 x.sz, .int .i64 x.kids, .string (Qa.tb x.b)]
/-- A row of rows of the call's own. -/
def OwnR (w : World) (base : Nat) (v : Value) (l : List RR) : Prop := w.ownsRow base 78 5 v l.length (l.flatMap cellsR)
theorem OwnR.nil (w : World) (base : Nat) : OwnR w base (.slice none 0 0) [] := ⟨rfl, .inl ⟨rfl, rfl⟩⟩
theorem OwnR.slice {w : World} {base : Nat} {v : Value} {l : List RR} (h : OwnR w base v l) : ∃ A c, v = .slice A l.length c := by
  obtain ⟨-, ⟨rfl, h0⟩ | ⟨q, c, cur, rfl, -⟩⟩ := h
  · exact ⟨none, 0, by rw [h0]⟩
  · exact ⟨_, c, rfl⟩
theorem OwnR.below {w w' : World} {base : Nat} {v : Value} {l : List RR} (h : OwnR w base v l) (hb : Below w.heap.size w w') : OwnR w' base v l := own_move h fun k hk => hb.block k (own_lt h k hk)
theorem rdB_text {w : World} {A : Option Addr} {l : List UInt8} (h : RdB w A l) (c : Nat) : (convert 33 9 (.slice A l.length c)).run Tryz.prog w = .ok (.string (Qa.tb l)) w := RdB.text h c
theorem gr_below {a b c : World} {r : Option Nat} (h : a.grownBy b r) (hb : Below b.heap.size b c) : a.grownBy c r := ⟨hb.os.trans h.os, hb.tape.trans h.tape, hb.output.trans h.output, Nat.le_trans h.size hb.size, fun k hk hn => (hb.block k (Nat.lt_of_lt_of_le hk h.size)).trans (h.block k hk hn)⟩
theorem gr_pre {a b c : World} {r : Option Nat} (hb : Below a.heap.size a b) (h : b.grownBy c r) : a.grownBy c r := ⟨h.os.trans hb.os, h.tape.trans hb.tape, h.output.trans hb.output, Nat.le_trans hb.size h.size, fun k hk hn => (h.block k (Nat.lt_of_lt_of_le hk hb.size) hn).trans (hb.block k hk)⟩
def Ob (a : World) (v o : Value) : Prop := o.ownBlock = v.ownBlock ∨ ∃ q, o.ownBlock = some q ∧ a.heap.size ≤ q
theorem gr_own {a b c : World} {v o : Value} (h : a.grownBy b v.ownBlock) (ho : Ob a v o) (hg : b.grownBy c o.ownBlock) : a.grownBy c v.ownBlock := by
  refine ⟨hg.os.trans h.os, hg.tape.trans h.tape, hg.output.trans h.output, Nat.le_trans h.size hg.size, fun k hk hn => (hg.block k (Nat.lt_of_lt_of_le hk h.size) ?_).trans (h.block k hk hn)⟩
  rcases ho with ho | ⟨q, ho, hq⟩
  · rw [ho]; exact hn
  · rw [ho]
    intro e
    cases e
    omega
theorem Ob.trans {a b : World} {v o u : Value} (hs : a.heap.size ≤ b.heap.size) (h : Ob a v o) (k : Ob b o u) : Ob a v u := by
  rcases k with k | ⟨q, k, hq⟩
  · rcases h with h | ⟨q, h, hq⟩
    · exact .inl (k.trans h)
    · exact .inr ⟨q, k.trans h, hq⟩
  · exact .inr ⟨q, k, Nat.le_trans hs hq⟩
theorem names_anyR {W : World} {A : Option Addr} {l : List S106} {c : Nat} (h : RdSl W A l) (hc : l.length ≤ c) (hl : l.length ≤ 1000000) :
    Calls Tryz.prog 50 #[.slice A l.length c] W fun e w' => ∃ A' c', e = .returned (.slice A' (nmR l).length c') ∧ OwnN w' W.heap.size (.slice A' (nmR l).length c') (nmR l) ∧ Below W.heap.size W w' := by
  refine (names_own h hc hl).mono ?_
  rintro e w' ⟨v, rfl, ho, hb⟩
  obtain ⟨A', c', rfl, -, -⟩ := ho.open
  exact ⟨A', c', rfl, ho, hb⟩
theorem ownN_rdN {w : World} {base c : Nat} {A : Option Addr} {l : List ByteArray} (h : OwnN w base (.slice A l.length c) l) (hl : l.length ≤ 1000000) : RdN w A l := by
  obtain ⟨A', c', e, h1, -⟩ := h.reads hl
  simp only [Value.slice.injEq] at e
  obtain ⟨rfl, -, rfl⟩ := e
  exact h1
/-- All that lies below a directory is there, and not deeper than so. -/
def Deep (L : List T) : Nat → Nat → Prop
  | 0, _ => False
  | f + 1, k => k < L.length ∧ ∀ x ∈ nmR (thL L k).S, x.size ≤ 1000 ∧ ∃ i j : Nat, atL (thL L k).S x = some i ∧ inoL (thL L k).S i = (j : Int) + 1 ∧ j < L.length ∧ ((thL L j).dir = true → Deep L f j)
def stepR (L : List T) (f k : Nat) (q x : ByteArray) : List RR := rowR L (kidR L k x) (q ++ ⟨#[47]⟩ ++ x) :: if (thL L (kidR L k x)).dir then rowsR L f (kidR L k x) (q ++ ⟨#[47]⟩ ++ x) else []
theorem take_flat {α β : Type} (l : List α) (F : α → List β) (j : Nat) (hj : j < l.length) : (l.take (j + 1)).flatMap F = (l.take j).flatMap F ++ F l[j] := by
  rw [List.take_succ_eq_append_getElem hj, List.flatMap_append]; simp
theorem flat_le {α β : Type} (l : List α) (F : α → List β) (j : Nat) (hj : j < l.length) : ((l.take j).flatMap F).length + (F l[j]).length ≤ (l.flatMap F).length := by
  have h := take_flat l F j hj
  have h2 : l.flatMap F = (l.take (j + 1)).flatMap F ++ (l.drop (j + 1)).flatMap F := by rw [← List.flatMap_append, List.take_append_drop]
  rw [h2, h]
  simp
set_option maxHeartbeats 16000000 in
set_option maxRecDepth 100000 in
theorem rows_any {w0 : World} {B g b M : Nat} {L : List T} {n m : Int} (h : Rf w0 B g b L n m) (hw : WfL L M) (hM : M ≤ 50000) :
    ∀ (f k : Nat) (q : ByteArray) (out : List RR) (v : Value) (W : World), Deep L f k → q.size + 1001 * f ≤ 1000000 → out.length + (rowsR L f k q).length ≤ 1000000 → Below w0.heap.size w0 W → OwnR W w0.heap.size v out →
    Calls Tryz.prog 59 #[.pointer (some ⟨g, 0, none⟩), .int .i64 k, .string q, v] W fun e w' => ∃ v', e = .returned v' ∧ OwnR w' w0.heap.size v' (out ++ rowsR L f k q) ∧ Below w0.heap.size w0 w' ∧ W.grownBy w' v.ownBlock ∧ Ob W v v' := by
  intro f
  induction f with
  | zero => intro k q out v W hd; exact hd.elim
  | succ f ih =>
  intro k q out v W hd hq hlen hbW hown
  obtain ⟨hk, hkids⟩ := hd
  obtain ⟨nm, hnm⟩ : ∃ z, nmR (thL L k).S = z := ⟨_, rfl⟩
  obtain ⟨nl, hnl⟩ : ∃ z, nm.length = z := ⟨_, rfl⟩
  have hrows : rowsR L (f + 1) k q = nm.flatMap (stepR L f k q) := by rw [rowsR, hnm]; rfl
  rw [hrows] at hlen ⊢
  rw [hnm] at hkids
  obtain ⟨N, hN⟩ : ∃ N, L.length = N := ⟨_, rfl⟩
  have i0 : (k : Int) < N := by omega
  have i00 : k < N := by omega
  have HBW := Lib.hid hbW
  have HR := Lib.hid (h.below hbW)
  have H0 := Lib.hid h
  have HW := Lib.hid hw
  have HN := Lib.hid hN
  have HIH := Lib.hid ih
  have HKIDS := Lib.hid hkids
  have HLEN := Lib.hid hlen
  have HNLE := Lib.hid hnl
  have HOWN := Lib.hid hown
  have HKK := Lib.hid hk
  have HQS := Lib.hid hq
  obtain ⟨cap, -, hT⟩ := h.tree
  rw [hN] at hT
  obtain ⟨BAk, bck, SA, sc, -, -, -, c3, -, -, hS, hSc⟩ := h.thing k _ (thL_get hk)
  have hsz := (hw.sz k _ (thL_get hk)).1
  obtain ⟨sk, hsk⟩ : ∃ s, (thL L k).S = s := ⟨_, rfl⟩
  rw [hsk] at c3 hS hSc hsz hnm
  obtain ⟨sl, hsl⟩ : ∃ s, sk.length = s := ⟨_, rfl⟩
  rw [hsl] at c3 hSc hsz
  have HSK := Lib.hid hsk
  have HSL := Lib.hid hsl
  have HS := Lib.hid hS
  have HT := Lib.hid hT
  have C3 := Lib.hid c3
  have y0 : W.cell? ⟨g, 0, none⟩ = some (.slice (some ⟨b, 0, none⟩) N cap) := keepC hbW (blk_cell hT 0)
  have y3 := keepC hbW c3
  have HNM := Lib.hid (names_anyR (c := sc) (hS.below hbW) (by rw [hsl]; exact hSc) (by rw [hsl]; omega))
  rw [hsl, hnm, hnl] at HNM
  have HNML := Lib.hid (show nm.length ≤ 1000000 by have := nmF_le sk []; rw [← hnm]; unfold nmR; simp only [List.length_nil] at this; omega)
  clear h hw hrows hkids hlen hbW hown hN ih hk hT hS c3 hsk hsl hnm hq hnl
  go_enter Tryz.func59, Tryz.ntmps59
  go_wp2_with fail
  refine HNM.out.mono ?_
  rintro e w1 ⟨A1, c1, rfl, hr1, hb1⟩
  have hvlt : ∀ k, v.ownBlock = some k → k < W.heap.size := fun k hk => own_lt HOWN.out k hk
  have HBW1 := Lib.hid hb1
  have HVLT := Lib.hid hvlt
  have HB1 := Lib.hid (HBW.out.trans (hb1.mono HBW.out.size))
  have HR1 := Lib.hid hr1
  have HO1 := Lib.hid (HOWN.out.below hb1)
  clear hr1 hb1 y0 y3 hvlt
  go_wp2_with fail
  go_loopw [3, 10, 11, 12] (fun o i x y wr => ∃ d : Nat, i = .int .i64 d ∧ d ≤ nl ∧ Hid (Below w1.heap.size w1 wr → True) ∧ Hid (OwnR wr w0.heap.size o (out ++ (nm.take d).flatMap (stepR L f k q))) ∧ Hid (Below w0.heap.size w0 wr) ∧ Hid (w1.grownBy wr v.ownBlock) ∧ Hid (Ob w1 v o)) (fun _ i _ _ _ => nl - (intOf i).toNat)
  case atStart => exact ⟨0, rfl, by omega, Lib.hid (fun _ => trivial), by rw [List.take_zero, List.flatMap_nil, List.append_nil]; exact HO1, HB1, Lib.hid ⟨rfl, rfl, rfl, Nat.le_refl _, fun _ _ _ => rfl⟩, Lib.hid (.inl rfl)⟩
  case round =>
    obtain ⟨d, rfl, hd, -, HO, HB, HG, HOB⟩ := hrel
    have hrr : OwnN wr W.heap.size (.slice A1 nl c1) nm := own_move HR1.out (fun k hk => HG.out.block k (own_lt HR1.out k hk) (fun e => by have h1 := HVLT.out k e.symm; have h2 := own_base HR1.out k hk; omega))
    have HRN := Lib.hid (ownN_rdN (by rw [HNLE.out]; exact hrr) HNML.out)
    clear hrr
    by_cases hlt : d < nl
    · have j1 : (d : Int) < nl := by omega
      have hdl : d < nm.length := by rw [HNLE.out]; exact hlt
      obtain ⟨nb, no, rfl, n1⟩ := HRN.out.cell d hdl
      obtain ⟨x, hx⟩ : ∃ x, nm[d] = x := ⟨_, rfl⟩
      rw [hx] at n1
      obtain ⟨hxs, i, j, hat, hij, hj, hdeep⟩ := HKIDS.out x (hx ▸ List.getElem_mem hdl)
      rw [HSK.out] at hat hij
      have hkid : kidR L k x = j := by unfold kidR K; rw [HSK.out, hat]; show (inoL sk i - 1).toNat = j; omega
      obtain ⟨e9, he9, hf9, -⟩ := atL_some hat
      have hil : i < sl := by rw [← HSL.out]; exact (List.getElem?_eq_some_iff.1 he9).1
      have hili : (i : Int) < sl := by omega
      have hipos : (0 : Int) ≤ (i : Int) := by omega
      have hin : e9.f1 = (j : Int) + 1 := by rw [← hij]; unfold inoL; rw [List.getD_eq_getElem?_getD, he9, Option.getD_some]
      have y0 : wr.cell? ⟨g, 0, none⟩ = some (.slice (some ⟨b, 0, none⟩) N cap) := keepC HB.out (blk_cell HT.out 0)
      have y3 := keepC HB.out C3.out
      obtain ⟨sb, so, rfl, -, s1⟩ := (HS.out.below HB.out).cell i (by rw [HSL.out]; exact hil)
      obtain ⟨hge2, hge⟩ := List.getElem?_eq_some_iff.1 he9
      rw [hge, hin] at s1
      have HAT := Lib.hid (fun n => at_any x ((HS.out.below HB.out).below (bdraw wr n)) (by rw [HSL.out]; exact hSc) (by rw [HSL.out]; omega))
      rw [HSL.out, hat, show atI (some i) = (i : Int) from rfl] at HAT
      have hjN : j < N := by rw [← HN.out]; exact hj
      have j0 : (j : Int) < N := by omega
      have hLM := HW.out.len
      have hNM : N ≤ 50000 := by rw [← HN.out]; omega
      have wj0 : IntKind.i64.wrap (j : Int) = (j : Int) := by rw [IntKind.wrap_i64]; omega
      have wj : IntKind.i64.wrap ((j : Int) + 1 - 1) = (j : Int) := by rw [IntKind.wrap_i64]; omega
      have wd : IntKind.i64.wrap ((d : Int) + 1) = ((d + 1 : Nat) : Int) := by rw [IntKind.wrap_i64]; have h21 := HRN.out.2.1; rw [HNLE.out] at h21; omega
      have hqs := HQS.out
      have h471 : (⟨#[47]⟩ : ByteArray).size = 1 := rfl
      have had1 : ∀ W, (Op.stringOp .add q ⟨#[47]⟩).run Tryz.prog W = .ok (.string (q ++ ⟨#[47]⟩)) W := fun W => run_string_add_sum W q ⟨#[47]⟩ (by rw [h471]; omega)
      have had2 : ∀ W, (Op.stringOp .add (q ++ ⟨#[47]⟩) x).run Tryz.prog W = .ok (.string (q ++ ⟨#[47]⟩ ++ x)) W := fun W => run_string_add_sum W (q ++ ⟨#[47]⟩) x (by rw [ByteArray.size_append, h471]; omega)
      clear hqs h471
      have HXE := Lib.hid hx
      have HDEEP := Lib.hid hdeep
      have HJL := Lib.hid hj
      have HKID := Lib.hid hkid
      have HXS := Lib.hid hxs
      obtain ⟨BA, bc, SAj, scj, -, d1, d2, -, hB, hBc, -, -⟩ := H0.out.thing j _ (thL_get hj)
      obtain ⟨tbB, htb⟩ : ∃ z, Qa.tb (thL L j).B = z := ⟨_, rfl⟩
      obtain ⟨bl, hbl⟩ : ∃ z, (thL L j).B.length = z := ⟨_, rfl⟩
      obtain ⟨dj, hdj⟩ : ∃ z, (thL L j).dir = z := ⟨_, rfl⟩
      have hcv : ∀ W, Below w0.heap.size w0 W → (convert 33 9 (.slice BA bl bc)).run Tryz.prog W = .ok (.string tbB) W := fun W hb => by rw [← hbl, ← htb]; exact rdB_text (hB.below hb) bc
      rw [hbl] at d2
      rw [hdj] at d1
      have HCV := Lib.hid hcv
      have D1 := Lib.hid d1
      have D2 := Lib.hid d2
      have HTB := Lib.hid htb
      have HBL := Lib.hid hbl
      have HDJ := Lib.hid hdj
      clear hge2 hge hat hij hj hdeep hkid he9 hf9 hin hx hxs hcv htb hbl hdj d1 d2 hB
      go_wp2_with fail
      go_quiet (first | (go_at_call 44; refine Calls.quiet_of (HAT.out _)) | fail)
      go_upto_region 7 with fail
      obtain ⟨wz, hwz⟩ : ∃ wz, wr.drewN nq = wz := ⟨_, rfl⟩
      rw [hwz]
      have hbz : Below wr.heap.size wr wz := hwz ▸ bdraw wr nq
      have HBZ := Lib.hid (HB.out.trans (hbz.mono HB.out.size))
      have HOZ := Lib.hid (HO.out.below hbz)
      have HBZR := Lib.hid hbz
      have HKS := Lib.hid (show ∀ W, Below w0.heap.size w0 W → (fun W : World => W.cell? ⟨g, 0, none⟩ = some (.slice (some ⟨b, 0, none⟩) N cap) ∧ W.cell? ⟨b, j * 4 + 2, none⟩ = some (.slice BA bl bc) ∧ (convert 33 9 (.slice BA bl bc)).run Tryz.prog W = .ok (.string tbB) W) W from fun W hb => ⟨keepC hb (blk_cell HT.out 0), keepC hb D2.out, HCV.out W hb⟩)
      have HK0 := Lib.hid (show Below w0.heap.size w0 wz ∧ (fun W : World => W.cell? ⟨g, 0, none⟩ = some (.slice (some ⟨b, 0, none⟩) N cap) ∧ W.cell? ⟨b, j * 4 + 2, none⟩ = some (.slice BA bl bc) ∧ (convert 33 9 (.slice BA bl bc)).run Tryz.prog W = .ok (.string tbB) W) wz from ⟨HBZ.out, HKS.out _ HBZ.out⟩)
      have hinf := fun W (hb : Below w0.heap.size w0 W) => rinfo_any j (H0.out.below hb) HW.out hM HJL.out
      obtain ⟨zs, hzs⟩ : ∃ z, (if (thL L j).dir then 0 else (thL L j).B.length) = z := ⟨_, rfl⟩
      obtain ⟨zk, hzk⟩ : ∃ z, (if (thL L j).dir then (nmR (thL L j).S).length else 0) = z := ⟨_, rfl⟩
      rw [hzs, hzk, HDJ.out] at hinf
      have HINF := Lib.hid hinf
      have HROW := Lib.hid (show rowR L j (q ++ ⟨#[47]⟩ ++ x) = ⟨q ++ ⟨#[47]⟩ ++ x, dj, zs, zk, (thL L j).B⟩ from by unfold rowR; rw [hzs, hzk, HDJ.out])
      obtain ⟨qx, hqx⟩ : ∃ z, q ++ ⟨#[47]⟩ ++ x = z := ⟨_, rfl⟩
      rw [hqx] at HROW
      rw [hqx]
      have HQX := Lib.hid hqx
      obtain ⟨cur, hcur⟩ : ∃ z, out ++ (nm.take d).flatMap (stepR L f k q) = z := ⟨_, rfl⟩
      rw [hcur] at HOZ
      have HCUR := Lib.hid hcur
      have hcl : cur.length ≤ 1000000 := by
        rw [← hcur, List.length_append]
        have h1 := flat_le nm (stepR L f k q) d (by rw [HNLE.out]; exact hlt)
        have h2 := HLEN.out
        omega
      have HCL := Lib.hid hcl
      have HNWS := Lib.hid (show ∀ u ∈ [Value.string qx, .bool dj, .int .i64 zs, .int .i64 zk, .string tbB], u.oneCell' = true from by
        intro u hu
        have : u = Value.string qx ∨ u = .bool dj ∨ u = .int .i64 zs ∨ u = .int .i64 zk ∨ u = .string tbB := by simpa using hu
        rcases this with rfl | rfl | rfl | rfl | rfl <;> rfl)
      clear hwz hbz y0 y3 s1 hinf hzs hzk hqx hcur had1 had2 hcl n1
      go_region_held3 (fun W : World => Below w0.heap.size w0 W ∧ W.cell? ⟨g, 0, none⟩ = some (.slice (some ⟨b, 0, none⟩) N cap) ∧ W.cell? ⟨b, j * 4 + 2, none⟩ = some (.slice BA bl bc) ∧ (convert 33 9 (.slice BA bl bc)).run Tryz.prog W = .ok (.string tbB) W) (first | assumption | exact kpC (T := (fun W : World => W.cell? ⟨g, 0, none⟩ = some (.slice (some ⟨b, 0, none⟩) N cap) ∧ W.cell? ⟨b, j * 4 + 2, none⟩ = some (.slice BA bl bc) ∧ (convert 33 9 (.slice BA bl bc)).run Tryz.prog W = .ok (.string tbB) W)) (by assumption) (by assumption) HKS.out | exact kp1 (T := (fun W : World => W.cell? ⟨g, 0, none⟩ = some (.slice (some ⟨b, 0, none⟩) N cap) ∧ W.cell? ⟨b, j * 4 + 2, none⟩ = some (.slice BA bl bc) ∧ (convert 33 9 (.slice BA bl bc)).run Tryz.prog W = .ok (.string tbB) W)) (by first | assumption | exact HK0.out) HKS.out | exact kpA (T := (fun W : World => W.cell? ⟨g, 0, none⟩ = some (.slice (some ⟨b, 0, none⟩) N cap) ∧ W.cell? ⟨b, j * 4 + 2, none⟩ = some (.slice BA bl bc) ∧ (convert 33 9 (.slice BA bl bc)).run Tryz.prog W = .ok (.string tbB) W)) _ (by first | assumption | exact HK0.out) HKS.out | exact ⟨by assumption, HKS.out _ (by assumption)⟩)
        (first
          | (go_at_call 88
             refine (HINF.out _ (And.left (by first | assumption | exact HK0.out))).mono ?_
             rintro e w5 ⟨rfl, hb⟩
             have HB5 := Lib.hid (show Below wz.heap.size wz w5 from by first | exact hb | exact (Below.refl wz.heap.size wz).drew.trans hb)
             have HO5 := Lib.hid (show OwnR w5 w0.heap.size u3 cur from by first | exact HOZ.out.below hb | exact (HOZ.out.below (Below.refl _ _).drew).below hb))
          | (refine step_own rfl (.tmp 60) (.tmp 75) 73 rfl w0.heap.size 78 _ 5 56 Tryz.underlying73 info78 rfl (by decide) (by decide) u3 cur.length (cur.flatMap cellsR) (some ⟨w5.heap.size, 0, none⟩) 1 1 [Value.string qx, .bool dj, .int .i64 zs, .int .i64 zk, .string tbB] (by simp [Act.eval]) (by simp [Act.eval]) (own_alloc HO5.out _) (rdc_lit w5 [Value.string qx, .bool dj, .int .i64 zs, .int .i64 zk, .string tbB] 78 1 5 rfl HNWS.out) (And.left (by assumption : Below w0.heap.size w0 _ ∧ _)).size (by have := HCL.out; omega) ?_
             intro v6 w6 hown6 hg6 hat6
             have hb6 : Below w0.heap.size w0 w6 := below_own (And.left (by assumption : Below w0.heap.size w0 _ ∧ _)) (own_alloc HO5.out _) hg6
             have HO6 := Lib.hid (show OwnR w6 w0.heap.size v6 (cur ++ [rowR L j qx]) from by
               rw [HROW.out]
               unfold OwnR
               rw [List.length_append, List.flatMap_append, List.length_singleton]
               simpa [cellsR, HTB.out] using hown6)
             have HG6 := Lib.hid (show w1.grownBy w6 v.ownBlock from gr_own (gr_below HG.out (HBZR.out.trans ((HB5.out.alloc HB5.out.size _).mono HBZR.out.size))) HOB.out hg6)
             have HOB6 := Lib.hid (show Ob w1 v v6 from Ob.trans (b := w5) (Nat.le_trans HG.out.size (Nat.le_trans HBZR.out.size HB5.out.size)) HOB.out (hat6.elim .inl fun h => .inr ⟨_, h, by first | exact Nat.le_refl _ | simp⟩))
             clear hown6 hg6 hat6)
          | fail)
      have hbs := (by assumption : Below w0.heap.size w0 w6 ∧ _)
      have hb6 := hbs.1
      have y0 : w6.cell? ⟨g, 0, none⟩ = some (.slice (some ⟨b, 0, none⟩) N cap) := keepC hb6 (blk_cell HT.out 0)
      have y1 := keepC hb6 D1.out
      have HB6 := Lib.hid hb6
      clear hbs hb6
      have hstep : stepR L f k q x = rowR L j qx :: if dj then rowsR L f j qx else [] := by unfold stepR; rw [HKID.out, HQX.out, HDJ.out]
      have hnxt : out ++ (nm.take (d + 1)).flatMap (stepR L f k q) = cur ++ stepR L f k q x := by
        rw [take_flat nm _ d (by rw [HNLE.out]; exact hlt), ← List.append_assoc, HCUR.out, HXE.out]
      cases dj with
      | false =>
        rw [hstep, if_neg (show ¬ false = true by simp)] at hnxt
        have HNXT := Lib.hid hnxt
        clear hnxt hstep
        go_wp2
        go_roundw
        · exact ⟨d + 1, by go_num, hlt, Lib.hid (fun _ => trivial), by rw [HNXT.out]; exact HO6, HB6, HG6, HOB6⟩
        · simp [intOf]; omega
      | true =>
        rw [hstep, if_pos (show true = true from rfl)] at hnxt
        have hl2 := flat_le nm (stepR L f k q) d (by rw [HNLE.out]; exact hlt)
        rw [HXE.out, hstep, if_pos (show true = true from rfl), List.length_cons] at hl2
        have hqx := HQX.out
        have hcall := HIH.out j qx (cur ++ [rowR L j qx]) v6 w6 (HDEEP.out HDJ.out) (by rw [← hqx, ByteArray.size_append, ByteArray.size_append]; have h471 : (⟨#[47]⟩ : ByteArray).size = 1 := rfl; rw [h471]; have := HQS.out; have := HXS.out; omega) (by rw [List.length_append, List.length_singleton, ← HCUR.out, List.length_append]; have := HLEN.out; omega) HB6.out HO6.out
        have HCALL := Lib.hid hcall
        have HNXT := Lib.hid hnxt
        clear hnxt hstep hl2 hqx hcall
        go_wp2_with fail
        refine HCALL.out.mono ?_
        rintro e w7 ⟨v7, rfl, ho7, hb7, hg7, hob7⟩
        rw [List.append_assoc, List.singleton_append] at ho7
        have HO7 := Lib.hid ho7
        have HB7 := Lib.hid hb7
        have HG7 := Lib.hid (gr_own HG6.out HOB6.out hg7)
        have HOB7 := Lib.hid (Ob.trans HG6.out.size HOB6.out hob7)
        clear ho7 hb7 hg7 hob7
        go_wp2
        go_roundw
        · exact ⟨d + 1, by go_num, hlt, Lib.hid (fun _ => trivial), by rw [HNXT.out]; exact HO7, HB7, HG7, HOB7⟩
        · simp [intOf]; omega
    · have j1 : ¬ (d : Int) < nl := by omega
      have hdn : d = nl := by omega
      have ho9 := HO.out
      rw [hdn, ← HNLE.out, List.take_length] at ho9
      have HO9 := Lib.hid ho9
      clear ho9
      go_wp2
      go_ret
      exact ⟨_, rfl, HO9.out, HB.out, gr_pre HBW1.out HG.out, Ob.trans HBW1.out.size (.inl rfl) HOB.out⟩
end Go.Proofs.YtpdcjdangnfeiaaGreatDoor.Rc
namespace Go.Proofs.YtpdcjdangnfeiaaGreatDoor.Rc
theorem cellsR_at : ∀ (l : List RR) (i : Nat) (x : RR), l[i]? = some x → ∀ (c : Nat) (u : Value), (cellsR x)[c]? = some u → (l.flatMap cellsR)[i * 5 + c]? = some u
  | [], i, x, h, c, u, hu => by simp at h
  | y :: l, 0, x, h, c, u, hu => by
    have : y = x := by simpa using h
    subst this
    rw [List.flatMap_cons, Nat.zero_mul, Nat.zero_add, List.getElem?_append_left (List.getElem?_eq_some_iff.1 hu).1]
    exact hu
  | y :: l, i + 1, x, h, c, u, hu => by
    have h' : l[i]? = some x := by simpa using h
    have h5 : (cellsR y).length = 5 := rfl
    rw [List.flatMap_cons, List.getElem?_append_right (by rw [h5]; omega), h5, show (i + 1) * 5 + c - 5 = i * 5 + c by omega]
    exact cellsR_at l i x h' c u hu
theorem OwnR.open {w : World} {base : Nat} {v : Value} {l : List RR} (h : OwnR w base v l) (h0 : 0 < l.length) :
    ∃ q cap, v = .slice (some ⟨q, 0, none⟩) l.length cap ∧ base ≤ q ∧ q < w.heap.size ∧ ∀ i x, l[i]? = some x → w.cell? ⟨q, i * 5, none⟩ = some (.string x.p) ∧ w.cell? ⟨q, i * 5 + 1, none⟩ = some (.bool x.dir) ∧ w.cell? ⟨q, i * 5 + 2, none⟩ = some (.int .i64 x.sz) ∧ w.cell? ⟨q, i * 5 + 3, none⟩ = some (.int .i64 x.kids) ∧ w.cell? ⟨q, i * 5 + 4, none⟩ = some (.string (Qa.tb x.b)) := by
  obtain ⟨-, ⟨-, h1⟩ | ⟨q, cap, cur, rfl, hq, hh, hn, hm, hs, ht⟩⟩ := h
  · omega
  · refine ⟨q, cap, rfl, hq, (Array.getElem?_eq_some_iff.1 hh).1, fun i x hi => ?_⟩
    have hlt := (List.getElem?_eq_some_iff.1 hi).1
    have key : ∀ c u, c < 5 → (cellsR x)[c]? = some u → w.cell? ⟨q, i * 5 + c, none⟩ = some u := by
      intro c u hc hu
      have := cellsR_at l i x hi c u hu
      rw [← ht, List.getElem?_take_of_lt (by omega), Array.getElem?_toList] at this
      rw [cell_of_block hh]
      exact this
    exact ⟨key 0 _ (by omega) rfl, key 1 _ (by omega) rfl, key 2 _ (by omega) rfl, key 3 _ (by omega) rfl, key 4 _ (by omega) rfl⟩
set_option maxHeartbeats 4000000 in
set_option maxRecDepth 100000 in
/-- (*Tree).Walk -/
theorem rwalk_any {w : World} {B g b M : Nat} {L : List T} {n m : Int} (f : Nat) (h : Rf w B g b L n m) (hw : WfL L M) (hM : M ≤ 50000) (hd : Deep L f 0) (hf : f ≤ 900) (hl : (rowsR L f 0 ByteArray.empty).length ≤ 1000000) :
    Calls Tryz.prog 29 #[.pointer (some ⟨g, 0, none⟩)] w fun e w' => ∃ v, e = .returned v ∧ OwnR w' w.heap.size v (rowsR L f 0 ByteArray.empty) ∧ Below w.heap.size w w' := by
  have hr := rows_any h hw hM f 0 ByteArray.empty [] (.slice none 0 0) w hd (by have : ByteArray.empty.size = 0 := rfl; rw [this]; omega) (by simpa using hl) (Below.refl _ _) (OwnR.nil _ _)
  have HR := Lib.hid hr
  clear hr h hw hd hl
  go_enter Tryz.func29, Tryz.ntmps29
  go_wp2_with (first | (go_at_call 59; refine HR.out.mono ?_; rintro e w1 ⟨v1, rfl, ho, hb, -, -⟩) | fail)
  go_ret
  rw [List.nil_append] at ho
  exact ⟨_, rfl, ho, hb⟩
theorem rr_ext {x y : RR} : x = y ↔ x.p.toList = y.p.toList ∧ x.dir = y.dir ∧ (x.sz : Int) = y.sz ∧ (x.kids : Int) = y.kids ∧ (Qa.tb x.b).toList = (Qa.tb y.b).toList := by
  constructor
  · rintro rfl; exact ⟨rfl, rfl, rfl, rfl, rfl⟩
  · rintro ⟨h1, h2, h3, h4, h5⟩
    obtain ⟨xp, xd, xs, xk, xb⟩ := x
    obtain ⟨yp, yd, ys, yk, yb⟩ := y
    have e5 : xb = yb := by
      have := congrArg (fun z : ByteArray => z.data.toList) (ba_eq.1 h5)
      simpa [tb_data] using this
    dsimp only at h1 h2 h3 h4 h5
    simp only [RR.mk.injEq]
    exact ⟨ba_eq.1 h1, h2, by omega, by omega, e5⟩
theorem eqA76 (d : Nat) (w : World) (x0 y0 : Bool) (x1 y1 : Int) (x2 y2 : Int) :
    (Op.equalIn (d + 2) 76 (.agg #[.bool x0, .int .i64 x1, .int .i64 x2]) (.agg #[.bool y0, .int .i64 y1, .int .i64 y2])).run Tryz.prog w = .ok (x0 == y0 && (x1 == y1 && (x2 == y2))) w := by
  refine eqA_of Tryz.underlying76 (by kernel_rfl) ?_
  refine eqf_cons (by rfl) (by go_simp; rfl) (by go_simp; rfl) (by go_simp) ?_
  refine eqf_cons (by rfl) (by go_simp; rfl) (by go_simp; rfl) (by go_simp) ?_
  exact eqf_last (by rfl) (by go_simp; rfl) (by go_simp; rfl) (by go_simp)
theorem eqA78 (d : Nat) (w : World) (x0 y0 : ByteArray) (x1 y1 : Bool) (x2 y2 : Int) (x3 y3 : Int) (x4 y4 : ByteArray) :
    (Op.equalIn (d + 3) 78 (.agg #[.string x0, .bool x1, .int .i64 x2, .int .i64 x3, .string x4]) (.agg #[.string y0, .bool y1, .int .i64 y2, .int .i64 y3, .string y4])).run Tryz.prog w = .ok (x0.toList == y0.toList && ((x1 == y1 && (x2 == y2 && (x3 == y3))) && (x4.toList == y4.toList))) w := by
  refine eqA_of Tryz.underlying78 (by kernel_rfl) ?_
  refine eqf_cons (by rfl) (by go_simp; rfl) (by go_simp; rfl) (by go_simp) ?_
  refine eqf_cons (by rfl) (by go_simp) (by go_simp) (eqA76 (d + 0) w _ _ _ _ _ _) ?_
  exact eqf_last (by rfl) (by go_simp; rfl) (by go_simp; rfl) (by go_simp)
attribute [local go_sem high] eqA78
section
open Classical
set_option maxHeartbeats 8000000 in
set_option maxRecDepth 100000 in
/-- Same of two trees of the document's. -/
theorem rsame_any {w : World} {B1 g1 b1 M1 B2 g2 b2 M2 : Nat} {L1 L2 : List T} {n1 m1 n2 m2 : Int} (f : Nat) (h1 : Rf w B1 g1 b1 L1 n1 m1) (hw1 : WfL L1 M1) (hM1 : M1 ≤ 50000) (hd1 : Deep L1 f 0) (h2 : Rf w B2 g2 b2 L2 n2 m2) (hw2 : WfL L2 M2) (hM2 : M2 ≤ 50000) (hd2 : Deep L2 f 0) (hf : f ≤ 900) (hl1 : (rowsR L1 f 0 ByteArray.empty).length ≤ 1000000) (hl2 : (rowsR L2 f 0 ByteArray.empty).length ≤ 1000000) :
    Calls Tryz.prog 15 #[.pointer (some ⟨g1, 0, none⟩), .pointer (some ⟨g2, 0, none⟩)] w fun e w' => e = .returned (.bool (decide (rowsR L1 f 0 ByteArray.empty = rowsR L2 f 0 ByteArray.empty))) ∧ Below w.heap.size w w' := by
  have HR1 := Lib.hid (rwalk_any f h1 hw1 hM1 hd1 hf hl1)
  have HR2 := Lib.hid (fun W (hb : Below w.heap.size w W) => rwalk_any f (h2.below hb) hw2 hM2 hd2 hf hl2)
  obtain ⟨X, hX⟩ : ∃ X, rowsR L1 f 0 ByteArray.empty = X := ⟨_, rfl⟩
  obtain ⟨Y, hY⟩ : ∃ Y, rowsR L2 f 0 ByteArray.empty = Y := ⟨_, rfl⟩
  rw [hX] at HR1 hl1 ⊢
  rw [hY] at HR2 hl2 ⊢
  obtain ⟨Z, hZ⟩ : ∃ Z, decide (X = Y) = Z := ⟨_, rfl⟩
  rw [hZ]
  have HZ := Lib.hid hZ
  obtain ⟨nx, hnx⟩ : ∃ k, X.length = k := ⟨_, rfl⟩
  obtain ⟨ny, hny⟩ : ∃ k, Y.length = k := ⟨_, rfl⟩
  rw [hnx] at hl1
  have HNX := Lib.hid hnx
  have HNY := Lib.hid hny
  clear h1 hw1 hd1 h2 hw2 hd2 hX hY hZ hnx hny hl2
  go_enter Tryz.func15, Tryz.ntmps15
  go_wp2_with fail
  refine HR1.out.mono ?_
  rintro e w1 ⟨v1, rfl, ho1, hb1⟩
  have HO1 := Lib.hid ho1
  have HB1 := Lib.hid hb1
  clear ho1 hb1
  go_wp2_with fail
  refine (HR2.out _ HB1.out).mono ?_
  rintro e w2 ⟨v2, rfl, ho2, hb2⟩
  have HB2 := Lib.hid (HB1.out.trans (hb2.mono HB1.out.size))
  have HP1 := Lib.hid (HO1.out.below hb2)
  have HP2 := Lib.hid ho2
  clear ho2 hb2
  obtain ⟨A1, c1, e1⟩ := HP1.out.slice
  obtain ⟨A2, c2, e2⟩ := HP2.out.slice
  rw [HNX.out] at e1
  rw [HNY.out] at e2
  subst e1 e2
  by_cases cl : nx = ny
  case neg =>
    have hf : decide (X = Y) = false := by
      rw [decide_eq_false_iff_not]
      rintro rfl
      exact cl (HNX.out.symm.trans HNY.out)
    rw [HZ.out] at hf
    subst hf
    have cb : ((nx : Int) == (ny : Int)) = false := by rw [beq_eq_false_iff_ne]; omega
    have cb2 : ¬ (nx : Int) = (ny : Int) := by omega
    go_wp2
    go_ret
    exact ⟨rfl, HB2.out⟩
  subst cl
  go_wp2_with fail
  go_loopw [7] (fun i wr => ∃ k d : Nat, i = .int .i64 k ∧ k ≤ nx ∧ Hid (X.take k = Y.take k) ∧ Hid (wr = w2.drewN d)) (fun i _ => nx - (intOf i).toNat)
  case atStart => exact ⟨0, 0, rfl, by omega, Lib.hid rfl, Lib.hid rfl⟩
  case round =>
    obtain ⟨k, d, rfl, hk, HE, HD⟩ := hrel
    by_cases hlt : k < nx
    · have j1 : (k : Int) < nx := by omega
      have hkx : k < X.length := by rw [HNX.out]; exact hlt
      have hky : k < Y.length := by rw [HNY.out]; exact hlt
      obtain ⟨q1, k1, e1, -, -, ha1⟩ := HP1.out.open (by omega)
      obtain ⟨q2, k2, e2, -, -, ha2⟩ := HP2.out.open (by omega)
      simp only [Value.slice.injEq] at e1 e2
      obtain ⟨rfl, -, rfl⟩ := e1
      obtain ⟨rfl, -, rfl⟩ := e2
      obtain ⟨x, hx⟩ : ∃ x, X[k] = x := ⟨_, rfl⟩
      obtain ⟨y, hy⟩ : ∃ y, Y[k] = y := ⟨_, rfl⟩
      have hbd : Below w2.heap.size w2 wr := HD.out ▸ bdraw w2 d
      obtain ⟨p0, p1, p2, p3, p4⟩ := ha1 k x (by rw [List.getElem?_eq_getElem hkx, hx])
      obtain ⟨r0, r1, r2, r3, r4⟩ := ha2 k y (by rw [List.getElem?_eq_getElem hky, hy])
      have p0 := keepC hbd p0
      have p1 := keepC hbd p1
      have p2 := keepC hbd p2
      have p3 := keepC hbd p3
      have p4 := keepC hbd p4
      have r0 := keepC hbd r0
      have r1 := keepC hbd r1
      have r2 := keepC hbd r2
      have r3 := keepC hbd r3
      have r4 := keepC hbd r4
      clear ha1 ha2
      have hbd' := Lib.hid hbd
      clear hbd
      by_cases hxy : x = y
      · have hnext : X.take (k + 1) = Y.take (k + 1) := by
          rw [List.take_succ_eq_append_getElem hkx, List.take_succ_eq_append_getElem hky, hx, hy, hxy, HE.out]
        subst hxy
        have HNXT := Lib.hid hnext
        clear hnext hx hy
        go_wp2_with fail
        go_quiet (fail)
        go_wp2
        go_roundw
        · exact ⟨k + 1, d + nq, by go_num, hlt, HNXT, Lib.hid (by rw [HD.out, World.drewN_drewN])⟩
        · simp [intOf]; omega
      · have hf : decide (X = Y) = false := by
          rw [decide_eq_false_iff_not]
          rintro rfl
          exact hxy (hx.symm.trans hy)
        rw [HZ.out] at hf
        subst hf
        have hne := mt rr_ext.2 hxy
        obtain ⟨xp, xd, xs, xk, xb⟩ := x
        obtain ⟨yp, yd, ys, yk, yb⟩ := y
        dsimp only at hne p0 p1 p2 p3 p4 r0 r1 r2 r3 r4
        have HNE := Lib.hid hne
        clear hne hxy hx hy
        go_wp2_with fail
        go_quiet (fail)
        have hbq : Below w.heap.size w (wr.drewN nq) := HB2.out.trans ((hbd'.out.trans ((bdraw wr nq).mono hbd'.out.size)).mono HB2.out.size)
        have HBQ := Lib.hid hbq
        clear hbq
        go_wp2
        all_goals first
          | (go_ret; exact ⟨rfl, HBQ.out⟩)
          | (exfalso
             rename_i hc
             refine HNE.out ?_
             simp [and_assoc] at hc ⊢
             exact hc)
    · have j1 : ¬ (k : Int) < nx := by omega
      have hkn : k = nx := by omega
      have hf : decide (X = Y) = true := by
        rw [decide_eq_true_eq]
        have h1 := HE.out
        rw [List.take_of_length_le (by rw [HNX.out]; omega), List.take_of_length_le (by rw [HNY.out]; omega)] at h1
        exact h1
      rw [HZ.out] at hf
      subst hf
      go_wp2
      go_ret
      exact ⟨rfl, HD.out ▸ HB2.out.trans ((bdraw w2 d).mono HB2.out.size)⟩
end
end Go.Proofs.YtpdcjdangnfeiaaGreatDoor.Rc
end
