/- A row of zeros. -/
import Derived.Test.YtidadgibhmiojaaGy
import Derived.Laws.MakeOwn
set_option linter.unusedSimpArgs false
set_option linter.unusedVariables false
namespace Go.Farm
open Go.Conc
theorem run_mkf (P : Program) (fn : Fn) (first cap : Array Value) (w : World) : (Instr.makeFunc fn first cap).run P w = .ok (.func fn first cap) w := rfl
theorem events_mkf (P : Program) (fn : Fn) (first cap : Array Value) (w : World) : (Instr.makeFunc fn first cap).events P w #[] = #[] := rfl
theorem madeCells_eq (z : Value) (n : Nat) : madeCells #[z] n = Array.replicate n z := by
  unfold madeCells
  apply Array.ext
  · simp
  · intro i h1 h2; simp [Nat.mod_one]
set_option maxRecDepth 20000 in
theorem mk_gen {P : Program} (w : World) (t e : TypeId) (i : TypeInfo) (z : Value) (ht : P.underlying t = some (.slice e)) (hi : P.info? e = some i) (hz : i.zero = some z) (hz1 : z.cells = #[z]) (hs : i.size = 1) (hb : i.bytes ≤ 24) (n : Nat) (hn4 : n ≤ 4096) :
    (Instr.makeSlice t (.int .i64 (n : Int)) (.int .i64 (n : Int))).run P w = .ok (.slice (some ⟨w.heap.size, 0, none⟩) n n) (w.alloc (.cells (Array.replicate n z) e)) ∧ (Instr.makeSlice t (.int .i64 (n : Int)) (.int .i64 (n : Int))).events P w #[] = #[] := by
  have h1 : (i.bytes : Int) * (n : Int) ≤ 98304 := by
    have h2 : i.bytes * n ≤ 24 * 4096 := Nat.mul_le_mul hb hn4
    have h3 : ((i.bytes * n : Nat) : Int) ≤ 98304 := by omega
    rwa [Int.natCast_mul] at h3
  have hr := run_makeSlice (P := P) w t e i z ht hi hz .i64 .i64 (n : Int) (n : Int) (by omega) (by omega) (by rw [hs, Nat.mul_one, Int.toNat_natCast]; omega) (by omega) (by omega)
  rw [hz1, hs] at hr
  simp only [Int.toNat_natCast, Nat.mul_one, madeCells_eq] at hr
  refine ⟨hr, ?_⟩
  have wl : IntKind.i64.wrap (n : Int) = (n : Int) := by rw [IntKind.wrap_i64]; omega
  have n1 : ¬ (n : Int) < 0 := by omega
  have n2 : ¬ (281474976710656 < (i.bytes : Int) * (n : Int)) := by omega
  have n5 : ¬ (roomBytes < n * i.bytes) := by
    have h1 : n * i.bytes ≤ 4096 * 24 := Nat.mul_le_mul hn4 hb
    have h2 : (4096 * 24 : Nat) ≤ roomBytes := by decide
    omega
  by_cases hn : n = 0
  · subst hn
    have w0 : IntKind.i64.wrap 0 = 0 := by decide
    simp [Instr.makeSlice, go_sem, run_underlying ht, asInt, asIntOf, typeInfo, hi, Go.sizeOf, hs, newRow, askRoom, w0]
  · simp [Instr.makeSlice, go_sem, run_underlying ht, asInt, asIntOf, typeInfo, hi, Go.sizeOf, zeroValue, hz, hs, wl, n1, n2, n5, hn, newRow, askRoom]
theorem Hold.sub {c c' : Cx} {w w1 : World} (r : Hold c' w w1) (h : ∀ a, c.O a ∨ c.U a ∨ c.Z a → c'.O a ∨ c'.U a ∨ c'.Z a) : Hold c w w1 := ⟨r.size, fun a ha => r.cell a (h a ha), r.grow⟩
theorem Hold.put {c : Cx} {w w1 : World} {A : Addr} {v : Value} (h : Hold c w w1) (hd : ∀ z, c.O z ∨ c.U z ∨ c.Z z → z ≠ A) : Hold c w (w1.setCell A v) :=
  ⟨by rw [World.size_setCell]; exact h.size, fun z hz => ⟨(World.cell?_setCell_other _ _ _ _ (Ne.symm (hd z hz))).trans (h.cell z hz).1, (World.frozen?_setCell _ _ _ _).trans (h.cell z hz).2⟩, h.grow.trans (Grow.set _ _ _)⟩
theorem Hold.alloc {c : Cx} {w w1 : World} (h : Hold c w w1) (hb : c.Low w) (ob : Obj) : Hold c w (w1.alloc ob) := by
  have hlt : ∀ a : Addr, a.block < w.heap.size → a.block < w1.heap.size := fun a ha => Nat.lt_of_lt_of_le ha h.size
  refine ⟨by rw [World.size_alloc]; exact Nat.le_succ_of_le h.size, fun z hz => ⟨(World.cell?_alloc_lt _ _ _ (hlt z (hb z hz))).trans (h.cell z hz).1, (World.frozen?_alloc_old _ _ _ (Nat.ne_of_lt (hlt z (hb z hz)))).trans (h.cell z hz).2⟩, by rw [World.size_alloc]; exact Nat.le_succ_of_le h.size, fun a ha => (World.frozen?_alloc_old _ _ _ (Nat.ne_of_lt (hlt a ha))).trans (h.grow.frz a ha), fun a u hu => ?_⟩
  obtain ⟨v, hv⟩ := h.grow.ex a u hu
  exact ⟨v, (World.cell?_alloc_old _ _ _ (fun e => by rw [World.cell?, e] at hv; simp at hv)).trans hv⟩
/-- an operation that allots a block of cells: what is known behind it -/
theorem T.alloc1 {P : Program} {Post : Value → World → Prop} {c : Cx} {bb : Bool} {m : Nat} {w : World} {b : Frame} {a : Go.Act} {k : List Item} {cs : List Frame} {ops : Array Oper} {i : Nat} {rest : List Nat} {o : Oper} (t : Bool) (hn : c.Neat) (hb : c.Low w)
    (hm : ∀ κ ms lb J, c.mem = some (κ, ms, lb, J) → ms = .m0) (ho : ops[i]? = some o) (hw : Region.wanted o (yielded ops a.tmps) = true) (hk : b.kind ≠ .early) (pv : Nat → Value) (arr : Array Value) (ty : TypeId)
    (hr : ∀ w1 : World, (execOp a.eval o).run P w1 = .ok (.value (pv w1.heap.size)) (w1.alloc (.cells arr ty)) ∧ (execOp a.eval o).events P w1 #[] = #[])
    (hT : ∀ w' N, w.heap.size ≤ N → N < w'.heap.size → (c.with t N).Neat → (c.with t N).Low w' → (∀ L, Facts L c w → Facts L (c.with t N) w') → (∀ i v, arr[i]? = some v → w'.cell? ⟨N, i, none⟩ = some v ∧ w'.frozen? ⟨N, i, none⟩ = false) → Hold c w w' →
      T P Post m bb (c.with t N) (G (b.at (a.put o.dst (pv N)) (.inRegion ops rest :: k)) cs) w') :
    T P Post (m + 1) bb c (G (b.at a (.inRegion ops (i :: rest) :: k)) cs) w :=
  T.alloc t hn hb hm ho hw hk pv (.cells arr ty) (fun w1 _ => hr w1) fun w1 r hb1 =>
    hT _ _ r.size (by rw [World.size_alloc]; omega) (Cx.with_neat hn hb1 hm t) (hb1.alloc t _) (fun L hL => (hL.hold r).alloc hb1 t _)
      (fun i v hv => ⟨(World.cell?_alloc_new _ _ _ _).trans hv, World.frozen?_alloc_new _ _ _ _⟩) (r.alloc hb _)
end Go.Farm
