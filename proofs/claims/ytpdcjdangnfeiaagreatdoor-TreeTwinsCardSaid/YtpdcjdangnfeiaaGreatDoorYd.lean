/- Paths as plain lists of bytes: cutting at strokes, joining, parents, what lies under what. No program in sight. A map of the call's own from texts to pointers to blocks: looked into, stored into, struck from. A tree's nodes as they lie in memory, each by itself: what one holds, and what keeps it. Many nodes in memory, apart from each other: one is turned, one comes, one goes. The names that the laws make, as plain bytes: each is a name, no two are one; what a size takes in blocks. A tree by its paths: which node lies at which path; how a way through it goes. The tree as a function from paths to nodes: what each act answers and leaves. No program in sight. -/
import Derived.Lib.SplitLaws
import Derived.Maps.OwnSet
import Derived.Below
namespace Go.Proofs.YtpdcjdangnfeiaaGreatDoor.Pb
def okC (c : UInt8) : Bool := decide (33 ≤ c.toNat ∧ c.toNat ≤ 126 ∧ c.toNat ≠ 47)
def nmL (l : List UInt8) : Bool := l != [] && decide (l.length ≤ 48) && l != [46] && l != [46, 46] && l.all okC
def cut : List UInt8 → List (List UInt8)
  | [] => [[]]
  | c :: r => if c = 47 then [] :: cut r else match cut r with
    | [] => [[c]]
    | p :: ps => (c :: p) :: ps
theorem cut_ne (l : List UInt8) : cut l ≠ [] := by
  cases l with
  | nil => simp [cut]
  | cons c r =>
    unfold cut
    split
    · simp
    · split <;> simp
theorem cut_stroke (r : List UInt8) : cut (47 :: r) = [] :: cut r := by simp [cut]
theorem cut_other {c : UInt8} (h : c ≠ 47) {r p : List UInt8} {ps : List (List UInt8)} (e : cut r = p :: ps) : cut (c :: r) = (c :: p) :: ps := by
  rw [cut, if_neg h, e]
theorem index_stroke (r : List UInt8) : Lib.index (47 :: r) [47] = 0 := by rw [Lib.index]; simp [List.isPrefixOf]
theorem index_other {c : UInt8} (h : c ≠ 47) (r : List UInt8) : Lib.index (c :: r) [47] = if Lib.index r [47] == -1 then -1 else Lib.index r [47] + 1 := by
  have hp : ([47] : List UInt8).isPrefixOf (c :: r) = false := by simp [List.isPrefixOf, Ne.symm h]
  rw [Lib.index, hp]; simp
theorem index_none {r : List UInt8} (h : Lib.index r [47] = -1) : r.count 47 = 0 := by rw [← Lib.count_one, Lib.count_miss h]
theorem splitK_cut : ∀ l : List UInt8, Lib.splitK [47] 0 (l.count 47) l = cut l
  | [] => rfl
  | c :: r => by
    have ih := splitK_cut r
    by_cases hc : c = 47
    · subst hc
      rw [List.count_cons_self, cut_stroke, ← ih, Lib.splitK, index_stroke]
      simp
    · rw [List.count_cons_of_ne (by simpa using hc)]
      cases hk : r.count 47 with
      | zero =>
        rw [hk] at ih
        exact (cut_other hc ih.symm).symm
      | succ k =>
        rw [hk] at ih
        have hix : ¬ Lib.index r [47] = -1 := fun e => by have := index_none e; omega
        have hge := Lib.index_ge r [47]
        obtain ⟨j, hj⟩ : ∃ j : Nat, Lib.index r [47] = j := ⟨(Lib.index r [47]).toNat, by omega⟩
        rw [Lib.splitK, if_neg (by rw [hj]; simp)] at ih
        rw [Lib.splitK, index_other hc, if_neg (by rw [hj]; simp; omega), if_neg (by rw [hj]; simp)]
        rw [cut_other hc ih.symm, hj]
        have e1 : ((j : Int) + 1).toNat = j + 1 := by omega
        rw [e1, Int.toNat_natCast]
        simp
def joinL (ps : List (List UInt8)) : List UInt8 := if ps = [] then [47] else ps.flatMap fun p => 47 :: p
theorem flat_cut : ∀ r : List UInt8, (cut r).flatMap (fun p => 47 :: p) = 47 :: r
  | [] => rfl
  | c :: r => by
    have ih := flat_cut r
    by_cases hc : c = 47
    · subst hc; rw [cut_stroke, List.flatMap_cons, ih]; rfl
    · cases h : cut r with
      | nil => exact absurd h (cut_ne r)
      | cons p ps =>
        rw [cut_other hc h]
        rw [h, List.flatMap_cons] at ih
        rw [List.flatMap_cons]
        have : p ++ ps.flatMap (fun p => 47 :: p) = r := by simpa using ih
        simp [this]
theorem join_cut (r : List UInt8) : joinL (cut r) = 47 :: r := by rw [joinL, if_neg (cut_ne r), flat_cut]
theorem noStroke {p : List UInt8} (h : nmL p = true) : ∀ c ∈ p, c ≠ 47 := by
  intro c hc e
  simp only [nmL, Bool.and_eq_true] at h
  have := List.all_eq_true.1 h.2 c hc
  subst e
  simp [okC] at this
theorem cut_app : ∀ (p : List UInt8) (r : List UInt8) (_ : ∀ c ∈ p, c ≠ 47) {q : List UInt8} {ps : List (List UInt8)}, cut r = q :: ps → cut (p ++ r) = (p ++ q) :: ps
  | [], _, _, _, _, h => h
  | c :: p, r, hn, _, _, h => cut_other (hn c List.mem_cons_self) (cut_app p r (fun x hx => hn x (List.mem_cons_of_mem _ hx)) h)
theorem cut_flat : ∀ (p : List UInt8) (ps : List (List UInt8)), (∀ q ∈ p :: ps, ∀ c ∈ q, c ≠ (47 : UInt8)) → cut (p ++ ps.flatMap fun q => 47 :: q) = p :: ps
  | p, [], h => by
    have := cut_app p [] (h p List.mem_cons_self) (q := []) (ps := []) rfl
    simpa using this
  | p, q :: ps, h => by
    have ih := cut_flat q ps (fun x hx => h x (List.mem_cons_of_mem _ hx))
    have e : cut (47 :: (q ++ ps.flatMap fun q => 47 :: q)) = [] :: q :: ps := by rw [cut_stroke, ih]
    have := cut_app p _ (h p List.mem_cons_self) e
    simpa [List.flatMap_cons] using this
/-- A path's names, and what is wrong with it. -/
def splitL (l : List UInt8) : List (List UInt8) × Int :=
  if l.length > 256 then ([], 5) else match l with
  | [] => ([], 12)
  | c :: r => if c ≠ 47 then ([], 12) else if r = [] then ([], 0) else if (cut r).all nmL = true then (if (cut r).length > 8 then ([], 5) else (cut r, 0)) else ([], 12)
def chk (ps : List (List UInt8)) : Int := if ps.all nmL = true then (if ps.length > 8 then 5 else 0) else 12
theorem chk_zero {ps : List (List UInt8)} (h : chk ps = 0) : ps.all nmL = true ∧ ps.length ≤ 8 := by
  unfold chk at h
  by_cases c : ps.all nmL = true
  · rw [if_pos c] at h
    refine ⟨c, ?_⟩
    by_cases c2 : ps.length > 8
    · rw [if_pos c2] at h; exact absurd h (by decide)
    · omega
  · rw [if_neg c] at h; exact absurd h (by decide)
/-- What splits well: its names are names, few, and joined they are it. -/
theorem split_ok {l : List UInt8} (h : (splitL l).2 = 0) : chk (splitL l).1 = 0 ∧ joinL (splitL l).1 = l ∧ l.length ≤ 256 := by
  unfold splitL at h ⊢
  by_cases c1 : l.length > 256
  · rw [if_pos c1] at h; exact absurd h (by decide)
  rw [if_neg c1] at h ⊢
  cases l with
  | nil => exact absurd h (by decide)
  | cons c r =>
    dsimp only at h ⊢
    by_cases c2 : c ≠ 47
    · rw [if_pos c2] at h; exact absurd h (by decide)
    rw [if_neg c2] at h ⊢
    have e : c = 47 := by simpa using c2
    by_cases c3 : r = []
    · rw [if_pos c3]; subst e c3; exact ⟨rfl, rfl, by omega⟩
    rw [if_neg c3] at h ⊢
    by_cases c4 : (cut r).all nmL = true
    · rw [if_pos c4] at h ⊢
      by_cases c5 : (cut r).length > 8
      · rw [if_pos c5] at h; exact absurd h (by decide)
      · rw [if_neg c5]
        refine ⟨?_, ?_, by omega⟩
        · simp only [chk]; rw [if_pos c4, if_neg c5]
        · rw [e]; exact join_cut r
    · rw [if_neg c4] at h; exact absurd h (by decide)
end Go.Proofs.YtpdcjdangnfeiaaGreatDoor.Pb
section
open Go Go.Maps
namespace Go.Proofs.YtpdcjdangnfeiaaGreatDoor.Ta
/-- How a pointer to a block's begin reads. -/
def ptrR : Value → Option (DataW Nat × List MemPlace)
  | .pointer none => some (.nil, [])
  | .pointer (some ⟨b, 0, none⟩) => some (.lit (.int .i64 (b : Int)), [])
  | _ => none
def ptrV : Option Nat → Value
  | none => .pointer none
  | some b => .pointer (some ⟨b, 0, none⟩)
def ptrD : Option Nat → DataW Nat
  | none => .nil
  | some b => .lit (.int .i64 (b : Int))
theorem ptrR_V (o : Option Nat) : ptrR (ptrV o) = some (ptrD o, []) := by cases o <;> rfl
theorem ptrR_inv {v : Value} {d : DataW Nat} {ps : List MemPlace} (h : ptrR v = some (d, ps)) : ∃ o, v = ptrV o ∧ d = ptrD o := by
  unfold ptrR at h
  split at h
  · cases h; exact ⟨none, rfl, rfl⟩
  · rename_i b
    cases h; exact ⟨some b, rfl, rfl⟩
  · cases h
theorem ptrD_inj {a b : Option Nat} (h : ptrD a = ptrD b) : a = b := by
  cases a <;> cases b <;> simp [ptrD] at h ⊢
  omega
def keyL (s : ByteArray) : Lit := .string s.data.toList
theorem keyL_inj {a b : ByteArray} : keyL a = keyL b ↔ a = b := by
  constructor
  · intro h
    cases a with | mk a => cases b with | mk b =>
    simp [keyL] at h
    rw [h]
  · rintro rfl; rfl
/-- What a map's datum holds at a name. -/
def kid (D : DataW Nat) (s : ByteArray) : Option Nat :=
  match D.atKey (keyL s) .nil with
  | .lit (.int _ n) => some n.toNat
  | _ => none
theorem kid_of {D : DataW Nat} {s : ByteArray} {o : Option Nat} (h : D.atKey (keyL s) .nil = ptrD o) : kid D s = o := by
  unfold kid
  rw [h]
  cases o <;> simp [ptrD]
theorem isKey (s : ByteArray) : WideAt.IsKeyLit (keyL s) := trivial
theorem kid_put_same {D : DataW Nat} (h : IsMap D) (s : ByteArray) (o : Option Nat) : kid (D.put (keyL s) (ptrD o)) s = o := kid_of (atKey_put_same h (isKey s) _ _)
theorem kid_put_other {D : DataW Nat} {s s' : ByteArray} (h : s' ≠ s) (d : DataW Nat) : kid (D.put (keyL s) d) s' = kid D s' := by
  unfold kid
  rw [atKey_put_other (fun e => h (keyL_inj.1 e))]
theorem kid_del_same (D : DataW Nat) (s : ByteArray) : kid (D.del (keyL s)) s = none := by
  unfold kid
  rw [atKey_del_same]
theorem kid_del_other {D : DataW Nat} {s s' : ByteArray} (h : s' ≠ s) : kid (D.del (keyL s)) s' = kid D s' := by
  unfold kid
  rw [atKey_del_other (fun e => h (keyL_inj.1 e))]
theorem kid_empty (s : ByteArray) : kid (.map []) s = none := by
  unfold kid
  rw [atKey_of_not_has (by simp [has_eq])]
section
variable {P : Program} {k e t : TypeId} {w : World} {b n : Nat} {D : DataW Nat}
/-- m[s] -/
theorem look (h : w.ownsMap P k ptrR b n D) (K : Keyed P k) (ht : P.underlying t = some (.map k e)) (hz : (zeroValue e).run P w = .ok (.pointer none) w) (s : ByteArray) (hk : keyOf P k (.string s) = some (keyL s)) :
    (Instr.lookup t (.map (some b)) (.string s) false).run P w = .ok (ptrV (kid D s)) w := by
  obtain ⟨v, ps, hrun, hv⟩ := h.lookup K ht hz (z := .pointer none) (zd := .nil) (zp := []) rfl hk
  obtain ⟨o, rfl, ho⟩ := ptrR_inv hv
  rw [hrun, kid_of ho]
/-- m[s] = p -/
theorem put (h : w.ownsMap P k ptrR b n D) (K : Keyed P k) (ht : P.underlying t = some (.map k e)) (hn : n < maxLen) (s : ByteArray) (hk : keyOf P k (.string s) = some (keyL s)) (o : Option Nat) :
    ∃ w', (Instr.mapUpdate t (.map (some b)) (.string s) (ptrV o)).run P w = .ok () w' ∧ w'.ownsMap P k ptrR b (n + 1) (D.put (keyL s) (ptrD o)) ∧ w.grownBy w' (some b) := by
  obtain ⟨w', h1, h2, h3⟩ := h.store K ht hn hk (ptrR_V o)
  exact ⟨w', h1, h2, h3.grown⟩
/-- delete(m, s) -/
theorem del (h : w.ownsMap P k ptrR b n D) (K : Keyed P k) (ht : P.underlying t = some (.map k e)) (s : ByteArray) (hk : keyOf P k (.string s) = some (keyL s)) (ty : TypeId) :
    ∃ w', (Builtin.delete_ #[t, k] ty #[.map (some b), .string s]).run P w = .ok (.tuple #[]) w' ∧ w'.ownsMap P k ptrR b n (D.del (keyL s)) ∧ w.grownBy w' (some b) := by
  obtain ⟨w', h1, h2, h3⟩ := h.drop K ht hk ty
  exact ⟨w', h1, h2, h3.grown⟩
end
end Go.Proofs.YtpdcjdangnfeiaaGreatDoor.Ta
open Go.RowKit Go.Proofs.YtpdcjdangnfeiaaGreatDoor.Ta
namespace Go.Proofs.YtpdcjdangnfeiaaGreatDoor.Tb
/-- A slice of bytes that is read. -/
def Rd (w : World) (v : Value) (l : List UInt8) : Prop :=
  ∃ A c, v = .slice A l.length c ∧ l.length ≤ c ∧ l.length ≤ 9223372036854775807 ∧ (0 < l.length → ∃ b o, A = some ⟨b, o, none⟩ ∧ ∀ j (hj : j < l.length), w.cell? ⟨b, o + j, none⟩ = some (.int .u8 (l[j].toNat : Int)))
/-- No cell of the block is a byte. -/
def NoB (w : World) (i : Nat) : Prop := ∀ o y, w.cell? ⟨i, o, none⟩ ≠ some (.int .u8 y)
/-- All but some blocks are as they were; those hold no bytes. -/
structure Fr (w w' : World) (X : Nat → Prop) : Prop where
  size : w.heap.size ≤ w'.heap.size
  block : ∀ i, i < w.heap.size → ¬ X i → w'.heap[i]? = w.heap[i]?
  noB : ∀ i, X i → i < w.heap.size → NoB w i
theorem Fr.refl (w : World) : Fr w w (fun _ => False) := ⟨Nat.le_refl _, fun _ _ _ => rfl, fun _ h => h.elim⟩
theorem Fr.mono {w w' : World} {X Y : Nat → Prop} (h : Fr w w' X) (hY : ∀ i, X i → Y i) (hb : ∀ i, Y i → i < w.heap.size → NoB w i) : Fr w w' Y :=
  ⟨h.size, fun i hi hn => h.block i hi (fun hx => hn (hY i hx)), hb⟩
theorem Fr.trans {w w1 w2 : World} {X : Nat → Prop} (h : Fr w w1 X) (k : Fr w1 w2 X) : Fr w w2 X :=
  ⟨Nat.le_trans h.size k.size, fun i hi hn => (k.block i (Nat.lt_of_lt_of_le hi h.size) hn).trans (h.block i hi hn), h.noB⟩
theorem Fr.of_below {w w' : World} (h : Below w.heap.size w w') (X : Nat → Prop) (hX : ∀ i, X i → i < w.heap.size → NoB w i) : Fr w w' X :=
  ⟨h.size, fun i hi _ => h.block i hi, hX⟩
theorem Rd.fr {w w' : World} {X : Nat → Prop} {v : Value} {l : List UInt8} (h : Rd w v l) (hf : Fr w w' X) : Rd w' v l := by
  obtain ⟨A, c, e, hc, hm, hr⟩ := h
  refine ⟨A, c, e, hc, hm, fun h0 => ?_⟩
  obtain ⟨b, o, e2, hcell⟩ := hr h0
  refine ⟨b, o, e2, fun j hj => ?_⟩
  have h1 := hcell j hj
  have hlt : b < w.heap.size := World.block_lt_of_cell? w _ h1
  rw [← h1]
  refine World.cell?_of_block (a := ⟨b, o + j, none⟩) (hf.block b hlt fun hx => ?_)
  exact hf.noB b hx hlt (o + j) _ h1
/-- What a node holds: where it lies, whether it is a directory, its bytes, where its map lies, its blocks of slots, its names. -/
structure Sh where
  nb : Nat
  dir : Bool
  data : List UInt8
  mb : Nat
  slots : Nat
  D : DataW Nat
def kidsV (s : Sh) : Value := if s.dir then .map (some s.mb) else .map none
theorem own_size {P : Program} {k : TypeId} {R : Value → Option (DataW Nat × List MemPlace)} {w : World} {b n : Nat} {D : DataW Nat} (h : w.ownsMap P k R b n D) : w.ownsMap P k R b (size D) D := by
  obtain ⟨es, clock, hb, F, hs, rfl⟩ := h
  exact ⟨es, clock, hb, F, by simp [size, length_sorted], rfl⟩
/-- The node lies so in w, from block B on. -/
structure Ok (P : Program) (tn k : TypeId) (w : World) (B : Nat) (s : Sh) : Prop where
  base : B ≤ s.nb
  cells : ∃ dv, w.heap[s.nb]? = some (.cells #[.bool s.dir, dv, kidsV s, .int .i64 s.slots] tn (0, 0)) ∧ Rd w dv s.data
  kids : s.dir = true → B ≤ s.mb ∧ w.ownsMap P k ptrR s.mb (size s.D) s.D
section
variable {P : Program} {tn k : TypeId} {w w' : World} {B : Nat} {s : Sh} {X : Nat → Prop}
theorem own_fr {R : Value → Option (DataW Nat × List MemPlace)} {b n : Nat} {D : DataW Nat} (h : w.ownsMap P k R b n D) (hf : Fr w w' X) (hb : ¬ X b) : w'.ownsMap P k R b n D := by
  have hlt := h.lt
  obtain ⟨es, clock, he, F, hs, hD⟩ := h
  exact ⟨es, clock, (hf.block b hlt hb).trans he, F, hs, hD⟩
theorem Ok.fr (h : Ok P tn k w B s) (hf : Fr w w' X) (h1 : ¬ X s.nb) (h2 : s.dir = true → ¬ X s.mb) : Ok P tn k w' B s := by
  obtain ⟨dv, hc, hr⟩ := h.cells
  refine ⟨h.base, ⟨dv, ?_, hr.fr hf⟩, fun hd => ⟨(h.kids hd).1, own_fr (h.kids hd).2 hf (h2 hd)⟩⟩
  have hlt : s.nb < w.heap.size := (Array.getElem?_eq_some_iff.1 hc).1
  exact (hf.block _ hlt h1).trans hc
theorem Ok.lt (h : Ok P tn k w B s) : s.nb < w.heap.size := by
  obtain ⟨dv, hc, -⟩ := h.cells
  exact (Array.getElem?_eq_some_iff.1 hc).1
theorem noB_map {b : Nat} {es : Array MapEntry} {clock : Nat} (h : w.heap[b]? = some (.map es clock)) : NoB w b := by
  intro o y hc
  simp [World.cell?, h] at hc
theorem noB_own {R : Value → Option (DataW Nat × List MemPlace)} {b n : Nat} {D : DataW Nat} (h : w.ownsMap P k R b n D) : NoB w b := by
  obtain ⟨es, clock, he, -⟩ := h
  exact noB_map he
theorem noB_cells {b : Nat} {cs : Array Value} {t : TypeId} {fr : Nat × Nat} (h : w.heap[b]? = some (.cells cs t fr)) (hn : ∀ v ∈ cs.toList, ∀ y, v ≠ .int .u8 y) : NoB w b := by
  intro o y hc
  have : cs[o]? = some (.int .u8 y) := by simpa [World.cell?, h] using hc
  exact hn _ (Array.mem_toList_iff.2 (Array.mem_of_getElem? this)) y rfl
theorem Ok.noB (h : Ok P tn k w B s) : NoB w s.nb := by
  obtain ⟨dv, hc, A, c, rfl, -⟩ := h.cells
  refine noB_cells hc ?_
  intro v hv y e
  subst e
  unfold kidsV at hv
  split at hv <;> simp at hv
/-- A map's block is no node's. -/
theorem Ok.ne_map (h : Ok P tn k w B s) {R : Value → Option (DataW Nat × List MemPlace)} {b n : Nat} {D : DataW Nat} (hm : w.ownsMap P k R b n D) : s.nb ≠ b := by
  obtain ⟨dv, hc, -⟩ := h.cells
  obtain ⟨es, clock, he, -⟩ := hm
  intro e
  rw [e, he] at hc
  cases hc
end
end Go.Proofs.YtpdcjdangnfeiaaGreatDoor.Tb
open Go.Proofs.YtpdcjdangnfeiaaGreatDoor.Tb
namespace Go.Proofs.YtpdcjdangnfeiaaGreatDoor.Tc
/-- The blocks that a node may turn. -/
def blks (s : Sh) : List Nat := if s.dir then [s.nb, s.mb] else [s.nb]
structure Sto (P : Program) (tn k : TypeId) (w : World) (B : Nat) (σ : List Sh) : Prop where
  ok : ∀ s ∈ σ, Ok P tn k w B s
  nd : (σ.flatMap blks).Nodup
section
variable {P : Program} {tn k : TypeId} {w w' : World} {B : Nat} {σ σ1 σ2 : List Sh} {s s' : Sh} {X : Nat → Prop}
theorem nb_mem (s : Sh) : s.nb ∈ blks s := by unfold blks; split <;> simp
theorem mb_mem (h : s.dir = true) : s.mb ∈ blks s := by unfold blks; rw [if_pos h]; simp
theorem Ok.blk_lt (h : Ok P tn k w B s) : ∀ i ∈ blks s, i < w.heap.size ∧ NoB w i ∧ B ≤ i := by
  intro i hi
  unfold blks at hi
  split at hi
  · rename_i hd
    simp at hi
    rcases hi with rfl | rfl
    · exact ⟨h.lt, h.noB, h.base⟩
    · exact ⟨(h.kids hd).2.lt, noB_own (h.kids hd).2, (h.kids hd).1⟩
  · simp at hi
    subst hi
    exact ⟨h.lt, h.noB, h.base⟩
theorem Sto.fr (h : Sto P tn k w B σ) (hf : Fr w w' X) (hX : ∀ i, X i → ∀ s ∈ σ, i ∉ blks s) : Sto P tn k w' B σ :=
  ⟨fun s hs => (h.ok s hs).fr hf (fun hx => hX _ hx s hs (nb_mem s)) (fun hd hx => hX _ hx s hs (mb_mem hd)), h.nd⟩
theorem Sto.below (h : Sto P tn k w B σ) (hb : Below w.heap.size w w') : Sto P tn k w' B σ :=
  h.fr (X := fun _ => False) (Fr.of_below hb _ (fun _ hx => hx.elim)) (fun _ hx => hx.elim)
/-- What lies before and behind a node is apart from it. -/
theorem apart (h : ((σ1 ++ s :: σ2).flatMap blks).Nodup) : ∀ x, x ∈ σ1 ∨ x ∈ σ2 → ∀ i ∈ blks s, i ∉ blks x := by
  rw [List.flatMap_append, List.flatMap_cons] at h
  rw [List.nodup_append] at h
  obtain ⟨-, h2, h3⟩ := h
  rw [List.nodup_append] at h2
  intro x hx i hi hix
  rcases hx with hx | hx
  · exact h3 i (List.mem_flatMap.2 ⟨x, hx, hix⟩) i (List.mem_append.2 (.inl hi)) rfl
  · exact h2.2.2 i hi i (List.mem_flatMap.2 ⟨x, hx, hix⟩) rfl
/-- One node is turned, in its own blocks. -/
theorem Sto.turn (h : Sto P tn k w B (σ1 ++ s :: σ2)) (hf : Fr w w' (fun i => i ∈ blks s)) (ho : Ok P tn k w' B s') (hb : blks s' = blks s) : Sto P tn k w' B (σ1 ++ s' :: σ2) := by
  have ha := apart h.nd
  refine ⟨fun x hx => ?_, ?_⟩
  · rw [List.mem_append, List.mem_cons] at hx
    rcases hx with hx | rfl | hx
    · exact (h.ok x (by simp [hx])).fr hf (fun hi => ha x (.inl hx) _ hi (nb_mem x)) (fun hd hi => ha x (.inl hx) _ hi (mb_mem hd))
    · exact ho
    · exact (h.ok x (by simp [hx])).fr hf (fun hi => ha x (.inr hx) _ hi (nb_mem x)) (fun hd hi => ha x (.inr hx) _ hi (mb_mem hd))
  · have := h.nd
    rw [List.flatMap_append, List.flatMap_cons] at this ⊢
    rw [hb]; exact this
/-- A new node, in new blocks. -/
theorem Sto.add (h : Sto P tn k w B σ) (ho : Ok P tn k w B s) (hn : (blks s).Nodup) (hd : ∀ x ∈ σ, ∀ i ∈ blks s, i ∉ blks x) : Sto P tn k w B (s :: σ) := by
  refine ⟨fun x hx => ?_, ?_⟩
  · rcases List.mem_cons.1 hx with rfl | hx
    · exact ho
    · exact h.ok x hx
  · rw [List.flatMap_cons, List.nodup_append]
    refine ⟨hn, h.nd, fun i hi j hj e => ?_⟩
    subst e
    obtain ⟨x, hx, hix⟩ := List.mem_flatMap.1 hj
    exact hd x hx i hi hix
theorem flat_sub {τ : List Sh} (hs : τ.Sublist σ) : (τ.flatMap blks).Sublist (σ.flatMap blks) := by
  induction hs with
  | slnil => exact .slnil
  | cons a _ ih => rw [List.flatMap_cons]; exact ih.trans (List.sublist_append_right _ _)
  | cons_cons a _ ih => rw [List.flatMap_cons, List.flatMap_cons]; exact (List.Sublist.refl _).append ih
theorem Sto.sub (h : Sto P tn k w B σ) {τ : List Sh} (hs : τ.Sublist σ) : Sto P tn k w B τ :=
  ⟨fun s hm => h.ok s (hs.subset hm), List.Nodup.sublist (flat_sub hs) h.nd⟩
/-- A node is told by its block. -/
def get (σ : List Sh) (b : Nat) : Option Sh := σ.find? (fun s => s.nb == b)
theorem nb_inj (h : (σ.flatMap blks).Nodup) {x y : Sh} (hx : x ∈ σ) (hy : y ∈ σ) (e : x.nb = y.nb) : x = y := by
  induction σ with
  | nil => cases hx
  | cons z σ ih =>
    rw [List.flatMap_cons, List.nodup_append] at h
    obtain ⟨-, h2, h3⟩ := h
    rcases List.mem_cons.1 hx with e1 | hx' <;> rcases List.mem_cons.1 hy with e2 | hy'
    · rw [e1, e2]
    · subst e1
      exact absurd e (h3 _ (nb_mem _) _ (List.mem_flatMap.2 ⟨y, hy', nb_mem y⟩))
    · subst e2
      exact absurd e.symm (h3 _ (nb_mem _) _ (List.mem_flatMap.2 ⟨x, hx', nb_mem x⟩))
    · exact ih h2 hx' hy'
end
end Go.Proofs.YtpdcjdangnfeiaaGreatDoor.Tc
end
section
open Go.Proofs.YtpdcjdangnfeiaaGreatDoor.Pb
namespace Go.Proofs.YtpdcjdangnfeiaaGreatDoor.Te
/-- What a size takes. -/
def blocksB (size : Nat) : Nat := if 8458240 < size then 0 else (size + 511) / 512
def innerB (size : Nat) : Nat := if blocksB size ≤ 8 then 0 else if blocksB size ≤ 136 then 1 else 2 + (blocksB size - 136 + 127) / 128
def allB (size : Nat) : Nat := blocksB size + innerB size
end Go.Proofs.YtpdcjdangnfeiaaGreatDoor.Te
end
section
open Go Go.Maps Go.RowKit Go.Proofs.YtpdcjdangnfeiaaGreatDoor.Ta Go.Proofs.YtpdcjdangnfeiaaGreatDoor.Tb Go.Proofs.YtpdcjdangnfeiaaGreatDoor.Tc
namespace Go.Proofs.YtpdcjdangnfeiaaGreatDoor.Tf
abbrev Path := List ByteArray
/-- What lies at a path. -/
def gp (es : List (Path × Sh)) (p : Path) : Option Sh := (es.find? (fun e => decide (e.1 = p))).map (·.2)
theorem gp_mem {es : List (Path × Sh)} {p : Path} {s : Sh} (h : gp es p = some s) : (p, s) ∈ es := by
  unfold gp at h
  obtain ⟨e, he, rfl⟩ := Option.map_eq_some_iff.1 h
  have h1 := List.mem_of_find?_eq_some he
  have h2 : e.1 = p := by simpa using List.find?_some he
  rw [← h2]
  exact h1
theorem mem_gp {es : List (Path × Sh)} (hn : (es.map (·.1)).Nodup) {p : Path} {s : Sh} (h : (p, s) ∈ es) : gp es p = some s := by
  induction es with
  | nil => cases h
  | cons e es ih =>
    rw [List.map_cons, List.nodup_cons] at hn
    unfold gp
    rw [List.find?_cons]
    rcases List.mem_cons.1 h with rfl | h
    · simp
    · have hne : ¬ e.1 = p := by
        intro e2
        exact hn.1 (List.mem_map.2 ⟨(p, s), h, e2.symm⟩)
      rw [decide_eq_false hne]
      exact ih hn.2 h
/-- The whole tree lies so in memory. -/
structure Tr (P : Program) (tn k : TypeId) (w : World) (B : Nat) (es : List (Path × Sh)) : Prop where
  sto : Sto P tn k w B (es.map (·.2))
  nd : (es.map (·.1)).Nodup
  root : ∃ s, gp es [] = some s ∧ s.dir = true
  par : ∀ p x s, gp es (p ++ [x]) = some s → ∃ d, gp es p = some d ∧ d.dir = true
  kids : ∀ p d, gp es p = some d → d.dir = true → ∀ x, kid d.D x = (gp es (p ++ [x])).map (·.nb)
  bare : ∀ p d, gp es p = some d → d.dir = true → d.data = []
/-- What is wrong on a way: no such thing ahead of its end, or a file. -/
def way (es : List (Path × Sh)) : Path → Path → Int
  | _, [] => 0
  | p, x :: r => match gp es p with
    | none => 8
    | some d => if d.dir then way es (p ++ [x]) r else 11
theorem way_snoc (es : List (Path × Sh)) : ∀ (p l : Path) (x : ByteArray), way es p (l ++ [x]) = if way es p l ≠ 0 then way es p l else match gp es (p ++ l) with
    | none => 8
    | some d => if d.dir then 0 else 11
  | p, [], x => by
    rw [List.nil_append, List.append_nil]
    simp only [way]
    simp
  | p, y :: l, x => by
    rw [List.cons_append]
    simp only [way]
    have ih := way_snoc es (p ++ [y]) l x
    rw [List.append_assoc, List.singleton_append] at ih
    rw [ih]
    obtain h | ⟨d, h⟩ : gp es p = none ∨ ∃ d, gp es p = some d := by cases gp es p <;> simp
    · simp [h]
    · by_cases hd : d.dir = true
      · simp [h, hd]
      · simp [h, hd]
section
variable {P : Program} {tn k : TypeId} {w : World} {B : Nat} {es : List (Path × Sh)}
theorem Tr.ok (h : Tr P tn k w B es) {p : Path} {s : Sh} (hs : gp es p = some s) : Ok P tn k w B s :=
  h.sto.ok s (List.mem_map.2 ⟨(p, s), gp_mem hs, rfl⟩)
theorem Tr.below {w' : World} (h : Tr P tn k w B es) (hb : Below w.heap.size w w') : Tr P tn k w' B es :=
  ⟨h.sto.below hb, h.nd, h.root, h.par, h.kids, h.bare⟩
/-- Nothing lies below what is not there, or is a file. -/
theorem Tr.none_below (h : Tr P tn k w B es) {p : Path} (hp : ∀ d, gp es p = some d → d.dir = false) (x : ByteArray) : gp es (p ++ [x]) = none := by
  cases hg : gp es (p ++ [x]) with
  | none => rfl
  | some s =>
    obtain ⟨d, h1, h2⟩ := h.par p x s hg
    rw [hp d h1] at h2
    cases h2
end
end Go.Proofs.YtpdcjdangnfeiaaGreatDoor.Tf
end
section
open Go.Proofs.YtpdcjdangnfeiaaGreatDoor.Pb Go.Proofs.YtpdcjdangnfeiaaGreatDoor.Te
namespace Go.Proofs.YtpdcjdangnfeiaaGreatDoor.Ua
abbrev Way := List ByteArray
/-- A file, or a directory: its bytes, its blocks of slots, how many names it has. -/
structure N where
  dir : Bool
  data : List UInt8
  slots : Nat
  k : Nat
/-- A tree: what lies at each path, what is free. -/
structure S where
  a : Way → Option N
  blocks : Nat
  inodes : Nat
/-- An act. -/
structure O where
  kind : Int
  path : ByteArray
  to : ByteArray
  data : List UInt8
  n : Int
def setA (a : Way → Option N) (p : Way) (n : N) : Way → Option N := fun q => if q = p then some n else a q
def delA (a : Way → Option N) (p : Way) : Way → Option N := fun q => if q = p then none else a q
/-- What lies at f, with all below it, comes to t. -/
def mvA (a : Way → Option N) (f t : Way) : Way → Option N := fun q => if t <+: q then a (f ++ q.drop t.length) else if f <+: q then none else a q
def onA (a : Way → Option N) (p : Way) (g : N → N) : Way → Option N := fun q => if q = p then (a q).map g else a q
def wayA (a : Way → Option N) : Way → Way → Int
  | _, [] => 0
  | p, x :: r => match a p with
    | none => 8
    | some d => if d.dir then wayA a (p ++ [x]) r else 11
def blocksA (n : N) : Nat := if n.dir then allB (n.slots * 512) else allB n.data.length
def growsA (d : N) : Nat := if d.k < d.slots * 8 then 0 else allB ((d.slots + 1) * 512) - blocksA d
def putA (d : N) : N := { d with slots := if d.k < d.slots * 8 then d.slots else d.slots + 1, k := d.k + 1 }
def takeA (d : N) : N := { d with k := d.k - 1 }
def freshA (dir : Bool) : N := ⟨dir, [], 0, 0⟩
def splitP (s : ByteArray) : Way × Int := (((splitL s.data.toList).1.map fun l => ⟨l.toArray⟩), (splitL s.data.toList).2)
/-- The blocks that a directory, if it is there, wants for one name more. -/
def wantA (o : Option N) : Nat := match o with
  | none => 0
  | some d => growsA d
def makeE (s : S) (l : Way) : Int := if (s.a l).isSome then 9 else if s.inodes = 0 ∨ s.blocks < wantA (s.a l.dropLast) then 7 else 0
def makeS (s : S) (l : Way) (dir : Bool) : S := ⟨onA (setA s.a l (freshA dir)) l.dropLast putA, s.blocks - wantA (s.a l.dropLast), s.inodes - 1⟩
def appE (s : S) (n : Nat) : Option N → Int
  | none => 8
  | some x => if x.dir then 10 else if 8458240 - x.data.length < n then 5 else if s.blocks < allB (x.data.length + n) - allB x.data.length then 7 else 0
def appS (s : S) (l : Way) (b : List UInt8) : Option N → S
  | none => s
  | some x => ⟨setA s.a l { x with data := x.data ++ b }, s.blocks - (allB (x.data.length + b.length) - allB x.data.length), s.inodes⟩
def cutE (n : Int) : Option N → Int
  | none => 8
  | some x => if x.dir then 10 else if n < 0 ∨ (x.data.length : Int) < n then 1 else 0
def cutS (s : S) (l : Way) (n : Nat) : Option N → S
  | none => s
  | some x => ⟨setA s.a l { x with data := x.data.take n }, s.blocks + (allB x.data.length - allB n), s.inodes⟩
def remE (l : Way) (dir : Bool) : Option N → Int
  | none => 8
  | some x => if x.dir = true ∧ dir = false then 10 else if x.dir = false ∧ dir = true then 11 else if dir = true ∧ (l = [] ∨ 0 < x.k) then 13 else 0
def remS (s : S) (l : Way) : Option N → S
  | none => s
  | some x => ⟨onA (delA s.a l) l.dropLast takeA, s.blocks + blocksA x, s.inodes + 1⟩
def repE (x y : N) : Int := if x.dir = true ∧ y.dir = false then 10 else if x.dir = false ∧ y.dir = true then 11 else if 0 < x.k then 13 else 0
def moveE (s : S) (l m : Way) : Int := match s.a l with
  | none => 8
  | some y => if l = [] ∨ m = [] then 13 else if wayA s.a [] m ≠ 0 then wayA s.a [] m else if l <+: m ∧ l ≠ m then 13 else if l = m then 0 else match s.a m with
    | some x => repE x y
    | none => if l.dropLast ≠ m.dropLast ∧ s.blocks < wantA (s.a m.dropLast) then 7 else 0
def moveS (s : S) (l m : Way) : S := if l = m then s else match s.a m with
    | some x => ⟨onA (mvA s.a l m) l.dropLast takeA, s.blocks + blocksA x, s.inodes + 1⟩
    | none => ⟨onA (onA (mvA s.a l m) l.dropLast takeA) m.dropLast putA, s.blocks - (if l.dropLast = m.dropLast then 0 else wantA (s.a m.dropLast)), s.inodes⟩
def planE (s : S) (o : O) (l m : Way) : Int :=
  if o.kind ≤ 2 then makeE s l else if o.kind = 3 then appE s o.data.length (s.a l) else if o.kind = 4 then cutE o.n (s.a l) else if o.kind ≤ 6 then remE l (decide (o.kind = 6)) (s.a l) else moveE s l m
def planS (s : S) (o : O) (l m : Way) : S :=
  if o.kind ≤ 2 then makeS s l (decide (o.kind = 2)) else if o.kind = 3 then appS s l o.data (s.a l) else if o.kind = 4 then cutS s l o.n.toNat (s.a l) else if o.kind ≤ 6 then remS s l (s.a l) else moveS s l m
/-- What is wrong with an act. -/
def doE (s : S) (o : O) : Int :=
  if o.kind < 1 ∨ 7 < o.kind then 1 else if (splitP o.path).2 ≠ 0 then (splitP o.path).2 else if o.kind = 7 ∧ (splitP o.to).2 ≠ 0 then (splitP o.to).2 else
  if wayA s.a [] (splitP o.path).1 ≠ 0 then wayA s.a [] (splitP o.path).1 else planE s o (splitP o.path).1 (splitP o.to).1
/-- What an act leaves. -/
def doS (s : S) (o : O) : S := if doE s o ≠ 0 then s else planS s o (splitP o.path).1 (splitP o.to).1
end Go.Proofs.YtpdcjdangnfeiaaGreatDoor.Ua
end
