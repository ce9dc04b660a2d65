/- The tree and the document's things side by side in memory: what an act on the one leaves of the other; the tree's Walk told exactly. Rows: has a tree just these paths, kinds, bytes? Walked, where it has. A drawn region that only reads, inside a loop's round: one walk of its own order serves every order. -/
import Derived.Test.YtpdcjdangnfeiaaGreatDoorZq
import Derived.Test.YtpdcjdangnfeiaaGreatDoorZm
import Derived.Test.YtpdcjdangnfeiaaGreatDoorZr
import Derived.Laws.Cover1
import Derived.Sort.QuietTacIn
import Derived.TacticsInMore
section
open Go Go.Maps Go.RowKit Go.Proofs.YtpdcjdangnfeiaaGreatDoor.Pb Go.Proofs.YtpdcjdangnfeiaaGreatDoor.PPth Go.Proofs.YtpdcjdangnfeiaaGreatDoorW.PrintWords Go.Proofs.YtpdcjdangnfeiaaGreatDoorW.PrintLast Go.Proofs.YtpdcjdangnfeiaaGreatDoorW.PrintMore Go.Proofs.YtpdcjdangnfeiaaGreatDoor.Ta Go.Proofs.YtpdcjdangnfeiaaGreatDoor.Tb Go.Proofs.YtpdcjdangnfeiaaGreatDoor.Tc Go.Proofs.YtpdcjdangnfeiaaGreatDoor.Te Go.Proofs.YtpdcjdangnfeiaaGreatDoor.Tf Go.Proofs.YtpdcjdangnfeiaaGreatDoor.Qa Go.Proofs.YtpdcjdangnfeiaaGreatDoor.Qb Go.Proofs.YtpdcjdangnfeiaaGreatDoor.Qc Go.Proofs.YtpdcjdangnfeiaaGreatDoor.Qd Go.Proofs.YtpdcjdangnfeiaaGreatDoor.Qe Go.Proofs.YtpdcjdangnfeiaaGreatDoor.Qf Go.Proofs.YtpdcjdangnfeiaaGreatDoor.Ua Go.Proofs.YtpdcjdangnfeiaaGreatDoor.Ub Go.Proofs.YtpdcjdangnfeiaaGreatDoor.Uc Go.Proofs.YtpdcjdangnfeiaaGreatDoor.Ud Go.Proofs.YtpdcjdangnfeiaaGreatDoor.Ue Go.Proofs.YtpdcjdangnfeiaaGreatDoor.Uf Go.Proofs.YtpdcjdangnfeiaaGreatDoor.Ba Go.Proofs.YtpdcjdangnfeiaaGreatDoor.Ug Go.Proofs.YtpdcjdangnfeiaaGreatDoor.Uh Go.Proofs.YtpdcjdangnfeiaaGreatDoor.Ui Go.Proofs.YtpdcjdangnfeiaaGreatDoor.Uj Go.Proofs.YtpdcjdangnfeiaaGreatDoor.Uk Go.Proofs.YtpdcjdangnfeiaaGreatDoor.Ul Go.Proofs.YtpdcjdangnfeiaaGreatDoor.Um Go.Proofs.YtpdcjdangnfeiaaGreatDoor.Un Go.Proofs.YtpdcjdangnfeiaaGreatDoor.Uo Go.Proofs.YtpdcjdangnfeiaaGreatDoor.Up Go.Proofs.YtpdcjdangnfeiaaGreatDoor.Uq Go.Proofs.YtpdcjdangnfeiaaGreatDoor.Ur Go.Proofs.YtpdcjdangnfeiaaGreatDoor.Us Go.Proofs.YtpdcjdangnfeiaaGreatDoor.Ut Go.Proofs.YtpdcjdangnfeiaaGreatDoor.Uu Go.Proofs.YtpdcjdangnfeiaaGreatDoor.Uv Go.Proofs.YtpdcjdangnfeiaaGreatDoor.Uw Go.Proofs.YtpdcjdangnfeiaaGreatDoor.Ux Go.Proofs.YtpdcjdangnfeiaaGreatDoor.Uy Go.Proofs.YtpdcjdangnfeiaaGreatDoor.Uz Go.Proofs.YtpdcjdangnfeiaaGreatDoor.Va Go.Proofs.YtpdcjdangnfeiaaGreatDoor.Vb Go.Proofs.YtpdcjdangnfeiaaGreatDoor.Vc Go.Proofs.YtpdcjdangnfeiaaGreatDoor.Vd Go.Proofs.YtpdcjdangnfeiaaGreatDoor.Ve Go.Proofs.YtpdcjdangnfeiaaGreatDoor.Wa Go.Proofs.YtpdcjdangnfeiaaGreatDoor.Wb Go.Proofs.YtpdcjdangnfeiaaGreatDoor.Wc Go.Proofs.YtpdcjdangnfeiaaGreatDoor.Wd Go.Proofs.YtpdcjdangnfeiaaGreatDoor.We Go.Proofs.YtpdcjdangnfeiaaGreatDoor.Wg Go.Proofs.YtpdcjdangnfeiaaGreatDoor.Wi Go.Proofs.YtpdcjdangnfeiaaGreatDoor.Wm Go.Proofs.YtpdcjdangnfeiaaGreatDoor.Wp Go.Proofs.YtpdcjdangnfeiaaGreatDoor.Wq Go.Proofs.YtpdcjdangnfeiaaGreatDoor.Wr Go.Proofs.YtpdcjdangnfeiaaGreatDoor.Rd
namespace Go.Proofs.YtpdcjdangnfeiaaGreatDoor.Sg
open Go.Proofs.YtpdcjdangnfeiaaGreatDoor.Rc (Rf Rf2 Cl cl_cells Gb Fz RS Tied Rel NdT Deep rowsR RR toRR rows_eq NmS st_nmS nmR nmR_up K nodeT rows_sa root_gp Cv cv_bool cv_slice cv_int Rp)
theorem ix_len {es : Es} {L : List Rc.T} {ix : Path → Option Nat} (h : Rel L (absE es) ix) (hw : WfF (gp es)) {q : Path} (hq : (ix q).isSome = true) : q.length + 1 ≤ es.length := by
  rw [← Rc.gp_iff2 h] at hq
  exact depth_lt hw hq
theorem deep_of {es : Es} {L : List Rc.T} {M : Nat} {ix : Path → Option Nat} (h : Rel L (absE es) ix) (hw : WfF (gp es)) (hL : WfL L M) : ∀ (f : Nat) (p : Path) (k : Nat), ix p = some k → es.length ≤ p.length + f → Deep L f k := by
  intro f
  induction f with
  | zero =>
    intro p k hk hl
    have := ix_len h hw (q := p) (by rw [hk]; rfl)
    omega
  | succ f ih =>
    intro p k hk hl
    obtain ⟨hkl, hN⟩ := h.at_ p k hk
    refine ⟨hkl, fun x hx => ?_⟩
    have hK := (nmR_up hN.uniq).2 x |>.1 hx
    obtain ⟨j0, hj0⟩ := Option.isSome_iff_exists.1 hK
    obtain ⟨i, hi, hij⟩ := Option.map_eq_some_iff.1 hj0
    obtain ⟨-, j, hj, hjl⟩ := walk_next hL hkl hi
    have hix : ix (p ++ [x]) = some j := by
      rw [hN.kid, hj0, ← hij, hj]
      congr 1
      omega
    have hsz : x.size ≤ 48 := by
      have hg : (gp es (p ++ [x])).isSome = true := by rw [Rc.gp_iff2 h, hix]; rfl
      obtain ⟨s, hs⟩ := Option.isSome_iff_exists.1 hg
      exact nm_size (hw.nm _ s hs x (by simp))
    exact ⟨by omega, i, j, hi, hj, hjl, fun _ => ih (p ++ [x]) j hix (by simp; omega)⟩
theorem rows_len {w : World} {B tb n i m : Nat} {es : Es} {L : List Rc.T} {ix : Path → Option Nat} (h : Rel L (absE es) ix) (hs : St w B tb es n i m) (hes : es.length ≤ 41) : (rowsR L 41 0 ByteArray.empty).length ≤ 41 := by
  obtain ⟨r, hr, hd, -⟩ := root_gp h
  have e := rows_eq h (St.nmOk hs) (st_nmS hs) 41 [] r 0 hr hd h.root
  rw [show tx [] = ByteArray.empty from rfl] at e
  have hl := paths_len hs (k := 41) (fun q s hq => by have := depth_lt hs.wf (q := q) (by rw [hq]; rfl); omega)
  rw [e, List.length_map]
  unfold rows
  rw [List.length_map]
  omega
/-- What rows a tree has. -/
def RowsOf (es : Es) (R : List Row) : Prop := ∃ fs, absE fs = absE es ∧ WfF (gp fs) ∧ NmOk (gp fs) ∧ NmS (gp fs) ∧ (∀ q, (gp fs q).isSome = true → q.length ≤ 41) ∧ R = rows (gp fs) 41 []
theorem wok_of2 {w w1 : World} {B B1 tb nb n i m : Nat} {es fs : Es} (h : St w B tb es n i m) (hm : m ≤ 2000) (hes : es.length ≤ 41) (t : Tw w1 B1 nb es [] fs) (hB : B1 ≤ w1.heap.size) : ∃ R, Wok w1 B1 nb fs R ∧ R.length + 1 = es.length ∧ RowsOf es R := by
  obtain ⟨O1, hO1⟩ : ∃ O1, Obj.cells #[.pointer (some ⟨nb, 0, none⟩), .int .i64 n, .int .i64 i] 55 = O1 := ⟨_, rfl⟩
  have hb := (Below.refl w1.heap.size w1).alloc (Nat.le_refl _) O1
  obtain ⟨a1, a2⟩ := tw_st (t2 := w1.heap.size) h (Tw.below t hb) ⟨hB, by rw [← hO1]; exact Go.heap_alloc_new _ _⟩
  obtain ⟨r, hr, hnb⟩ := t.root
  have hlen := same_len h.nd t.nd a2
  have hn := St.nmOk a1
  have hk : ∀ q s, gp fs q = some s → q.length ≤ 41 := fun q s hq => by have := depth_lt a1.wf (q := q) (by rw [hq]; rfl); omega
  have hd : ∀ q, (gp fs q).isSome = true → q.length ≤ 1000 := fun q hq => by have := depth_lt a1.wf hq; omega
  have hns : ∀ q, (gp fs q).isSome = true → ∀ x ∈ q, x.size ≤ 48 := fun q hq x hx => by
    obtain ⟨s, hs⟩ := Option.isSome_iff_exists.1 hq
    exact nm_size (a1.wf.nm q s hs x hx)
  refine ⟨rows (gp fs) 41 [], ⟨t.sto, hB, fun l N X J Jx hX hJ hY pre W hwk hj hN => ?_, fun pre x hp => rows_apart a1.wf hn 41 hp⟩, ?_, fs, a2, a1.wf, hn, st_nmS a1, fun q hq => by obtain ⟨s, hs⟩ := Option.isSome_iff_exists.1 hq; exact hk q s hs, rfl⟩
  · have := walk_inside a1.wf hn hX hJ hY (fun p s hs => ⟨by have := (a1.limp hs).2.2; omega, by have h3 := tx_size 1000 p (hd p (by rw [hs]; rfl)) (hns p (by rw [hs]; rfl)); omega⟩) (fun p x hx => by have := hns _ hx x (by simp); omega) 41 [] r hr (fun q hq => by obtain ⟨s, hs⟩ := Option.isSome_iff_exists.1 hq; have := hk q s hs; simpa using this) pre W hwk hj hN
    rw [hnb] at this
    exact this
  · have := paths_len a1 hk
    unfold rows
    rw [List.length_map, ← hlen, ← this]
/-- What Walk hands back, told exactly. -/
def WalkPost2 (w : World) (es : Es) (e : Ending) (w' : World) : Prop := ∃ nb bt fs R, e = .returned (.func (.func 86) #[] #[.pointer (some ⟨bt, 0, none⟩)]) ∧ w'.cell? ⟨bt, 0, none⟩ = some (.pointer (some ⟨nb, 0, none⟩)) ∧ Wok w' w.heap.size nb fs R ∧ R.length + 1 = es.length ∧ RowsOf es R ∧ Below w.heap.size w w'
section
variable {w : World} {B tb n i m : Nat} {es : Es}
set_option maxHeartbeats 1000000 in
set_option maxRecDepth 100000 in
theorem walk_any2 (h : St w B tb es n i m) (hm : m ≤ 2000) (hes : es.length ≤ 41) : Calls Tryz.prog 58 #[.pointer (some ⟨tb, 0, none⟩)] w (WalkPost2 w es) := by
  obtain ⟨r, g1, ht⟩ := h.tre
  obtain ⟨k, hk⟩ := exists_bound es
  have hc := twin_any h.wf (fun p d hd => by have := h.limp hd; exact ⟨by omega, by omega⟩) k [] r g1 (fun q s h => by have := hk q s h; simpa using this) w h.sto
  have c0 : w.cell? ⟨tb, 0, none⟩ = some (.pointer (some ⟨r.nb, 0, none⟩)) := blk_cell ht.2 0
  have HC := Lib.hid hc
  have H := Lib.hid h
  clear hc h g1 ht hk
  go_enter Tryz.func58, Tryz.ntmps58
  go_wp2_with fail
  refine HC.out.mono ?_
  rintro e w1 ⟨nb, fs, rfl, htw, hb⟩
  have HTW := Lib.hid htw
  have HB := Lib.hid hb
  clear htw hb
  go_wp2_with fail
  go_ret
  have hba := (Below.refl w1.heap.size w1).alloc (Nat.le_refl _) (.cells #[.pointer (some ⟨nb, 0, none⟩)] 52)
  obtain ⟨R, h1, h2, h3⟩ := wok_of2 H.out hm hes (Tw.below HTW.out hba) (Nat.le_trans HB.out.size hba.size)
  exact ⟨nb, w1.heap.size, fs, R, rfl, blk_cell (Go.heap_alloc_new w1 _) 0, h1, h2, h3, HB.out.trans (hba.mono HB.out.size)⟩
end
/-- A tree's blocks hold no bytes, no texts, and are no things' blocks. -/
theorem bk_cl {w : World} {B tb n i m : Nat} {es : Es} (h : St w B tb es n i m) {b : Nat} (hb : Bk tb es b) : Cl w b ∧ ∀ cs t fr, w.heap[b]? = some (.cells cs t fr) → t ≠ 61 ∧ t ≠ 58 := by
  rcases hb with rfl | ⟨s, hs, hb⟩
  · obtain ⟨r, -, -, ht⟩ := h.tre
    refine ⟨cl_cells ht ?_, fun cs t fr hh => ?_⟩
    · intro u hu
      have : u = .pointer (some ⟨r.nb, 0, none⟩) ∨ u = .int .i64 n ∨ u = .int .i64 i := by simpa using hu
      rcases this with rfl | rfl | rfl
      · exact ⟨fun _ h => (by cases h), fun _ h => (by cases h)⟩
      · exact cv_int _
      · exact cv_int _
    · rw [ht] at hh
      cases hh
      exact ⟨by decide, by decide⟩
  · have hok := h.sto.ok s hs
    have hnb : Cl w s.nb ∧ ∀ cs t fr, w.heap[s.nb]? = some (.cells cs t fr) → t ≠ 61 ∧ t ≠ 58 := by
      obtain ⟨dv, hc, A, c, rfl, -⟩ := hok.cells
      refine ⟨cl_cells hc ?_, fun cs t fr hh => ?_⟩
      · intro u hu
        have : u = .bool s.dir ∨ u = .slice A s.data.length c ∨ u = kidsV s ∨ u = .int .i64 s.slots := by simpa using hu
        rcases this with rfl | rfl | rfl | rfl
        · exact cv_bool _
        · exact cv_slice _ _ _
        · unfold kidsV
          split <;> exact ⟨fun _ h => (by cases h), fun _ h => (by cases h)⟩
        · exact cv_int _
      · rw [hc] at hh
        cases hh
        exact ⟨by decide, by decide⟩
    unfold blks at hb
    split at hb
    · rename_i hd
      simp at hb
      rcases hb with rfl | rfl
      · exact hnb
      · obtain ⟨es', clock, he, -⟩ := (hok.kids hd).2
        refine ⟨fun o v hc => ?_, fun cs t fr hh => ?_⟩
        · simp [World.cell?, he] at hc
        · rw [he] at hh; cases hh
    · simp at hb
      subst hb
      exact hnb
theorem bk_not {w : World} {B tb n i m : Nat} {es : Es} (h : St w B tb es n i m) {R g b : Nat} {L : List Rc.T} {x y : Int} (k : Rf w R g b L x y) : ∀ q, Gb g b q → ¬ Bk tb es q := by
  rintro q (rfl | rfl) hq
  · obtain ⟨c, -, ht⟩ := k.tree
    exact ((bk_cl h hq).2 _ _ _ ht).1 rfl
  · obtain ⟨cs, ht, -⟩ := k.row
    exact ((bk_cl h hq).2 _ _ _ ht).2 rfl
/-- An act on a tree leaves the document's things. -/
theorem turn_rf {w w' : World} {B tb n i m : Nat} {es es' : Es} (h : St w B tb es n i m) (t : Turn w w' B tb es es') {R g b : Nat} {L : List Rc.T} {x y : Int} (k : Rf w R g b L x y) : Rf w' R g b L x y :=
  Rc.Rf.fz k (X := Bk tb es) ⟨t.fr.size, t.fr.block, fun i hi _ => (bk_cl h hi).1⟩ (fun hb => bk_not h k g (.inl rfl) hb) (fun hb => bk_not h k b (.inr rfl) hb)
/-- An act on the document's things leaves a tree. -/
theorem fz_st {w w' : World} {B tb n i m : Nat} {es : Es} (h : St w B tb es n i m) {R g b : Nat} {L : List Rc.T} {x y : Int} (k : Rf w R g b L x y) (hz : Fz w w' (Gb g b)) : St w' B tb es n i m := st_other h hz.fr (bk_not h k)
/-- Things' blocks, apart. -/
structure Ap (g1 b1 g2 b2 : Nat) : Prop where
  a : g1 ≠ g2
  b : g1 ≠ b2
  c : b1 ≠ g2
  d : b1 ≠ b2
theorem Ap.symm {g1 b1 g2 b2 : Nat} (h : Ap g1 b1 g2 b2) : Ap g2 b2 g1 b1 := ⟨h.a.symm, h.c.symm, h.b.symm, h.d.symm⟩
/-- An act on the one's things leaves the other's. -/
theorem fz_rf {w w' : World} {R g b R2 g2 b2 b' : Nat} {L L2 : List Rc.T} {x y x2 y2 : Int} (k2 : Rf w R2 g2 b2 L2 x2 y2) (ha : Ap g b g2 b2) (hz : Fz w w' (Gb g b)) (hb' : b' = b ∨ w.heap.size ≤ b') : Rf w' R2 g2 b2 L2 x2 y2 ∧ Ap g b' g2 b2 := by
  refine ⟨Rc.Rf.fz k2 hz (fun h => h.elim ha.a.symm ha.c.symm) (fun h => h.elim ha.b.symm ha.d.symm), ?_⟩
  rcases hb' with rfl | hb'
  · exact ha
  · exact ⟨ha.a, ha.b, by have := k2.ltg; omega, by have := k2.ltb; omega⟩
end Go.Proofs.YtpdcjdangnfeiaaGreatDoor.Sg
open Go.Proofs.YtpdcjdangnfeiaaGreatDoor.Sg
namespace Go.Proofs.YtpdcjdangnfeiaaGreatDoor.Si
open Go.Proofs.YtpdcjdangnfeiaaGreatDoor.Rc (Rf Rf2 Gb Fz RS Tied Rel RR toRR OwnR)
theorem tx_flat (p : Path) : (tx p).data.toList = p.flatMap fun x => 47 :: x.data.toList := by
  have key : ∀ (p : Path) (t : ByteArray), (p.foldl (fun t x => t ++ ⟨#[47]⟩ ++ x) t).data.toList = t.data.toList ++ p.flatMap fun x => 47 :: x.data.toList := by
    intro p
    induction p with
    | nil => intro t; simp
    | cons x p ih =>
      intro t
      rw [List.foldl_cons, ih, List.flatMap_cons, ByteArray.toList_data_append, ByteArray.toList_data_append]
      simp
  have := key p ByteArray.empty
  simpa [tx] using this
theorem split_tx {q : Path} (hq : q ≠ []) (hn : ∀ x ∈ q, nmL x.data.toList = true) (h : (splitP (tx q)).2 = 0) : (splitP (tx q)).1 = q := by
  obtain ⟨ps, hps⟩ : ∃ ps, (splitL (tx q).data.toList).1 = ps := ⟨_, rfl⟩
  have h' : (splitL (tx q).data.toList).2 = 0 := h
  obtain ⟨h1, h2, -⟩ := split_ok h'
  rw [hps] at h1 h2
  have hall := (chk_zero h1).1
  have e1 : (splitP (tx q)).1 = ps.map fun l => ⟨l.toArray⟩ := by unfold splitP; rw [hps]
  rw [e1]
  have hst : ∀ p ∈ ps, ∀ c ∈ p, c ≠ (47 : UInt8) := fun p hp => noStroke (List.all_eq_true.1 hall p hp)
  rw [tx_flat] at h2
  obtain ⟨x, r, rfl⟩ := List.exists_cons_of_ne_nil hq
  have e2 : ps = (x :: r).map fun x => x.data.toList := by
    cases ps with
    | nil =>
      exfalso
      have hx := hn x (by simp)
      have e3 : [] = x.data.toList ++ r.flatMap fun x => 47 :: x.data.toList := by
        have : joinL [] = [47] := rfl
        rw [this, List.flatMap_cons] at h2
        exact (List.cons.inj h2).2
      have : x.data.toList = [] := (List.append_eq_nil_iff.1 e3.symm).1
      rw [this] at hx
      simp [nmL] at hx
    | cons p ps =>
      have e3 : p ++ ps.flatMap (fun q => 47 :: q) = x.data.toList ++ (r.map fun x => x.data.toList).flatMap fun q => 47 :: q := by
        rw [joinL, if_neg (by simp), List.flatMap_cons, List.flatMap_cons] at h2
        rw [List.flatMap_map]
        exact (List.cons.inj h2).2
      have c1 := cut_flat p ps hst
      have c2 := cut_flat x.data.toList (r.map fun x => x.data.toList) (by
        intro q hq c hc
        have : ∃ y ∈ x :: r, q = y.data.toList := by
          rcases List.mem_cons.1 hq with rfl | hq
          · exact ⟨x, by simp, rfl⟩
          · obtain ⟨y, hy, rfl⟩ := List.mem_map.1 hq
            exact ⟨y, by simp [hy], rfl⟩
        obtain ⟨y, hy, rfl⟩ := this
        exact noStroke (hn y hy) c hc)
      rw [← e3, c1] at c2
      simpa using c2
  rw [e2, List.map_map]
  conv => rhs; rw [← List.map_id (x :: r)]
  exact List.map_congr_left fun z _ => by cases z; rfl
/-- What Read tells at a path is what stands in the rows. -/
theorem read_row {w : World} {B tb n i m : Nat} {es : Es} (h : St w B tb es n i m) {R : List Row} (hR : RowsOf es R) {x : Row} (hx : x ∈ R) (hd : x.2.dir = false) (he : (rdE (lk es x.1)).2 = 0) : (rdE (lk es x.1)).1 = x.2.data := by
  obtain ⟨fs, ha, hw, hn, -, -, rfl⟩ := hR
  obtain ⟨p, hp, rfl⟩ := List.mem_map.1 hx
  obtain ⟨r, hr, he0, hs⟩ := paths_below hn _ _ _ hp
  have hpr : p = r := by simpa using he0
  subst hpr
  obtain ⟨s, hs⟩ := Option.isSome_iff_exists.1 hs
  have hgs : (absE fs) p = some (toN s) := by unfold absE; rw [hs]; rfl
  rw [ha] at hgs
  obtain ⟨s', hs', hss⟩ := Option.map_eq_some_iff.1 hgs
  have e1 : (rowOf (gp fs) p).1 = tx p := rfl
  have e2 : (rowOf (gp fs) p).2 = toN s := by unfold rowOf; rw [hs]; rfl
  rw [e1] at he ⊢
  rw [e2] at hd ⊢
  rcases lk_cases es (tx p) with ⟨u, hu, h0, -, hg⟩ | ⟨E, h0, hu⟩
  · rw [split_tx hr (fun x hx => h.wf.nm p s' hs' x hx) h0, hs'] at hg
    cases hg
    rw [hu]
    unfold rdE
    have hd' : s'.dir = false := by have : (toN s').dir = (toN s).dir := congrArg N.dir hss; exact this.trans hd
    have hdt : s'.data = (toN s).data := congrArg N.data hss
    simp [hd', hdt]
  · rw [hu] at he
    exact absurd he (by unfold rdE; simpa using h0)
end Go.Proofs.YtpdcjdangnfeiaaGreatDoor.Si
end
section
open Go
namespace Go.Proofs.YtpdcjdangnfeiaaGreatDoor.Sr
/-- No operation defers. -/
def noDef (o : Oper) : Bool := match o.op with
  | .defer _ => false
  | _ => true
theorem noDef_ne {o : Oper} (h : noDef o = true) : ∀ c, o.op ≠ .defer c := by
  intro c hc
  unfold noDef at h
  rw [hc] at h
  cases h
section
variable {F : Fence} {n : Nat} {P : Program} {ops : Array Oper} {C : World → Prop} {md : Region.Mode}
theorem op_r {o : Oper} {a : Act} {K : Act → Prop} {K' : Act → World → Prop} {Q' : Exit → Act → World → Prop} {w : World} (hnd : noDef o = true) (hw : C w) (h : ∀ a w', C w' → K a → K' a w') (ha : o.askedIn F P a C) (hh : o.quietIn F n P a C K) : o.wpIn F n P a w K' Q' := by
  obtain ⟨v, h1, h2⟩ := hh
  have h3 := h1 w hw
  unfold Oper.quietAtIn at h3
  refine ⟨ha w hw, ?_⟩
  rw [Oper.semAt_eq _ _ _ (noDef_ne hnd)]
  obtain ⟨r, hr⟩ : ∃ r, (execOp a.eval o).run P w = r := ⟨_, rfl⟩
  rw [hr] at h3 ⊢
  cases r with
  | halt x w' => exact h3.elim
  | ok x w' =>
    cases x with
    | value u =>
      obtain ⟨rfl, rfl⟩ := h3
      exact h _ _ hw h2
    | skip =>
      obtain ⟨rfl, rfl⟩ := h3
      exact h _ _ hw h2
    | enter f args =>
      obtain ⟨rfl, hd, hc⟩ := h3
      exact ⟨hd, hc.mono fun e w'' ⟨he, hw''⟩ => by subst he; exact h _ _ hw'' h2⟩
    | _ => exact h3.elim
theorem any_r (hnd : ∀ (i : Nat) (o : Oper), ops[i]? = some o → noDef o = true) {Q : Act → Prop} {Q' : Exit → Act → World → Prop} (hQ : ∀ a w, C w → Q a → Q' .normal a w) (fuel : Nat) : ∀ (listed : Array Bool) (a : Act) (w : World), C w → wpAnyQIn F n P md ops C Q fuel listed a → wpAnyIn F n P md ops Q' fuel listed a w := by
  induction fuel with
  | zero => exact fun _ _ _ hw h => ⟨h.1, hQ _ _ hw h.2⟩
  | succ fuel ih =>
    refine fun listed a w hw h => ⟨fun h0 => hQ _ _ hw (h.1 h0), fun i hi => ?_⟩
    have h2 := h.2 i hi
    unfold qOpIn at h2
    unfold wpOpIn
    cases ho : ops[i]? with
    | none =>
      rw [ho] at h2
      exact ih _ a w hw h2
    | some o =>
      rw [ho] at h2
      dsimp only at h2 ⊢
      obtain ⟨ha, hh⟩ := h2
      split
      · rename_i hwant
        rw [if_pos hwant] at hh
        exact op_r (hnd i o ho) hw (fun a' w' hw' => ih _ a' w' hw') ha hh
      · rename_i hwant
        rw [if_neg hwant] at hh
        exact ⟨ha w hw, ih _ _ w hw hh⟩
theorem round_quiet {id : Nat} {Q : Exit → Act → World → Prop} {a : Act} {w : World} {l : List Oper} (hnd : l.all noDef = true) (hm : P.follows .mixedOrders = true) (hB : Region.lexB .any l.toArray = true)
    (h : wpQuietIn F n P l.toArray (fun w' => ∃ n, w' = w.drewN n) (fun a' => ∀ w', (∃ n, w' = w.drewN n) → Q .normal a' w') l a) : (Code.region id l.toArray true).wpIn F n P Q a w := by
  simp only [Region.lexB, Bool.and_eq_true] at hB
  refine wpIn_region_any hm (any_r (C := fun w' => ∃ n, w' = w.drewN n) (Q := fun a' => ∀ w', (∃ n, w' = w.drewN n) → Q .normal a' w') (fun i o ho => ?_) (fun _ w' hw' h => h w' hw') _ _ _ _ ⟨1, rfl⟩ ?_)
  · have : o ∈ l := List.mem_of_getElem? (by simpa using ho)
    exact List.all_eq_true.1 hnd o this
  · have := wpAnyQIn_lex (F := F) (n := n) (P := P) (C := fun w' => ∃ n, w' = w.drewN n) (md := .any) (Q := fun a' => ∀ w', (∃ n, w' = w.drewN n) → Q .normal a' w') hB.1 l 0 (Array.replicate l.toArray.size false) a (by simp) (by simpa using hB.2) h
    simpa using this
end
end Go.Proofs.YtpdcjdangnfeiaaGreatDoor.Sr
end
