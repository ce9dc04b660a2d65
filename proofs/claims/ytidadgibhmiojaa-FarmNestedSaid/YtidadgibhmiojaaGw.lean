/- Steps of one that allots, stores, draws an order, enters a closure; cells that hold what they hold. -/
import Derived.Test.YtidadgibhmiojaaGs
import Derived.Conc.CompanyDraw
set_option linter.unusedSimpArgs false
set_option linter.unusedVariables false
namespace Go.Farm
open Go.Conc Go.RowKit Go.Conc.Lib Go.ConcR.Gen Go.ConcN.Gen
open Go.ConcR (DC0)
variable {P : Program} {Post : Value → World → Prop}
/-- c' is some of what c is -/
structure Less (c c' : Cx) : Prop where
  own : ∀ a, c'.O a ∨ c'.U a → c.O a ∨ c.U a
  un : ∀ a, c'.U a → c.U a
  ou : ∀ a, c'.O a → ¬ c'.U a
  oz : ∀ a, c'.Z a → ¬ c'.O a ∧ ¬ c'.U a
  ro : ∀ a, c'.Z a → c.Z a ∨ c.O a ∨ c.U a
  par : c'.par = c.par
  mem : c'.mem = c.mem
  lk : c'.lk = c.lk
  bare : ∀ κ ms lb J, c.mem = some (κ, ms, lb, J) → ms = .m0
theorem Less.idle {c c' : Cx} (h : Less c c') (w : World) : Idle c w w #[] c' :=
  ⟨rfl, rfl, rfl, Nat.le_refl _, fun _ _ _ => rfl, fun _ _ _ => rfl, fun _ _ => rfl, fun _ h => by simp at h, fun a ha => (h.own a ha).elim .inl (fun x => .inr (.inl x)), fun a ha => .inl (h.un a ha), h.ou, h.oz,
    fun a ha => (h.ro a ha).elim .inl (fun x => .inr (x.elim .inl (fun y => .inr (.inl y)))), h.par, h.mem, h.lk, fun κ ms lb J h1 h2 => absurd (h.bare κ ms lb J h1) h2, fun _ u h => ⟨u, h⟩⟩
theorem Less.neat {c c' : Cx} (h : Less c c') : c'.Neat := ⟨h.ou, h.oz⟩
theorem Less.cells {c c' : Cx} (h : Less c c') {a : Addr} (ha : c'.O a ∨ c'.U a ∨ c'.Z a) : c.O a ∨ c.U a ∨ c.Z a := by
  rcases ha with h1 | h1 | h1
  · exact (h.own a (.inl h1)).elim .inl (fun x => .inr (.inl x))
  · exact .inr (.inl (h.un a h1))
  · exact (h.ro a h1).elim (fun x => .inr (.inr x)) (fun x => x.elim .inl (fun y => .inr (.inl y)))
theorem Less.hold {c c' : Cx} (h : Less c c') {w w1 : World} (r : Hold c w w1) : Hold c' w w1 := ⟨r.size, fun a ha => r.cell a (h.cells ha), r.grow⟩
/-- what one has lies in the heap -/
def Cx.Low (c : Cx) (w : World) : Prop := ∀ a, c.O a ∨ c.U a ∨ c.Z a → a.block < w.heap.size
theorem Cx.Low.hold {c : Cx} {w w1 : World} (h : c.Low w) (r : Hold c w w1) : c.Low w1 := fun a ha => Nat.lt_of_lt_of_le (h a ha) r.size
/-- a quiet step behind which it has less -/
theorem T.turn {c c' : Cx} {b : Bool} {m : Nat} {g : Goroutine} {w : World} (hl : Less c c') (hs : g.status = .running)
    (h : ∀ w1, Hold c w w1 → LiveC c w1 → (stepG P b g w1).goes (fun g' w' es => DC0 w1 w' es ∧ T P Post m b c' g' w)) : T P Post (m + 1) b c g w := by
  refine Act.idle hs (fun w1 r => ?_)
  obtain ⟨g', w', es, h1, h2, h3⟩ := goes_spec (h w1 r.hold r.live)
  obtain ⟨rfl, rfl⟩ := h2
  exact ⟨g', w', #[], c', h1, hl.idle w', h3.hold (hl.hold r.hold)⟩
theorem Idle.set {c : Cx} (hn : c.Neat) {A : Addr} (hA : c.O A) (w : World) (v : Value) {es : Array Event} (he : ∀ e ∈ es, e = ⟨.cell A, true, false⟩ ∨ e = ⟨.cell A, true, true⟩ ∨ e = ⟨.cell A, false, true⟩) : Idle c w (w.setCell A v) es c := by
  refine ⟨rfl, rfl, rfl, by rw [World.size_setCell]; exact Nat.le_refl _, fun k hk hno => ?_, fun a _ hno => World.cell?_setCell_other _ _ _ _ (fun e => hno (.inl (e ▸ hA))), fun a _ => World.frozen?_setCell _ _ _ _, fun e h => ?_, fun a ha => ha.elim .inl (fun x => .inr (.inl x)), fun a ha => .inl ha, hn.ou, hn.oz, fun a ha => .inl ha, rfl, rfl, ?_, fun _ _ _ _ _ _ => rfl, (Grow.set w A v).ex⟩
  · have hne : k ≠ A.block := fun e => hno A e.symm (.inl hA)
    exact Below.heap_setCell w A v k hne
  · rcases he e h with rfl | rfl | rfl
    · exact hA
    · exact hA
    · exact .inl hA
  · rw [deafBehind_still (fun e h => by rcases he e h with rfl | rfl | rfl <;> exact ⟨by simp, by simp⟩)]
/-- a store into an own cell -/
theorem T.store {c : Cx} {bb : Bool} {m : Nat} {w : World} {b : Frame} {a : Go.Act} {k : List Item} {cs : List Frame} {ops : Array Oper} {i : Nat} {rest : List Nat} {o : Oper} (hn : c.Neat) {A : Addr} (hA : c.O A) {u v : Value}
    (hc : w.cell? A = some u) (hz : w.frozen? A = false) (ho : ops[i]? = some o) (hw : Region.wanted o (yielded ops a.tmps) = true) (hk : b.kind ≠ .early)
    (hr : ∀ w1 : World, w1.cell? A = some u → w1.frozen? A = false → (execOp a.eval o).run P w1 = .ok .skip (w1.setCell A v) ∧ (execOp a.eval o).events P w1 #[] = #[⟨.cell A, true, false⟩])
    (hT : T P Post m bb c (G (b.at (a.put o.dst undef) (.inRegion ops rest :: k)) cs) (w.setCell A v)) : T P Post (m + 1) bb c (G (b.at a (.inRegion ops (i :: rest) :: k)) cs) w := by
  refine T.opk ho hw hk fun w1 hF hL K hK => ?_
  have h1 := (hF.cell A (.inl hA)).1.trans hc
  obtain ⟨e1, e2⟩ := hr w1 h1 ((hF.cell A (.inl hA)).2.trans hz)
  rw [e1]
  refine hK _ _ c (Idle.set hn hA w1 v (fun e he => ?_)) (hT.hold ⟨?_, fun z hzz => ⟨?_, ?_⟩, ?_, fun z hzz => ?_, fun z x hx => ?_⟩)
  · have hm := mem_listed he
    rw [e2] at hm
    simp at hm
    exact .inl hm
  · rw [World.size_setCell, World.size_setCell]; exact hF.size
  · by_cases e : z = A
    · subst e; rw [World.cell?_setCell_same _ _ _ h1, World.cell?_setCell_same _ _ _ hc]
    · rw [World.cell?_setCell_other _ _ _ _ (Ne.symm e), World.cell?_setCell_other _ _ _ _ (Ne.symm e)]; exact (hF.cell z hzz).1
  · rw [World.frozen?_setCell, World.frozen?_setCell]; exact (hF.cell z hzz).2
  · rw [World.size_setCell, World.size_setCell]; exact hF.size
  · rw [World.frozen?_setCell, World.frozen?_setCell]; rw [World.size_setCell] at hzz; exact hF.grow.frz z hzz
  · by_cases e : z = A
    · subst e; exact ⟨v, World.cell?_setCell_same _ _ _ h1⟩
    · rw [World.cell?_setCell_other _ _ _ _ (Ne.symm e)] at hx ⊢; exact hF.grow.ex z x hx
/-- with a new block: to be touched, or not yet -/
def Cx.with (c : Cx) (t : Bool) (N : Nat) : Cx := if t then { c with O := fun a => c.O a ∨ a.block = N } else { c with U := fun a => c.U a ∨ a.block = N }
theorem Idle.alloc {c : Cx} (hn : c.Neat) {w : World} (hb : c.Low w) (hm : ∀ κ ms lb J, c.mem = some (κ, ms, lb, J) → ms = .m0) (t : Bool) (ob : Obj) : Idle c w (w.alloc ob) #[] (c.with t w.heap.size) := by
  have hlt : w.heap.size < (w.alloc ob).heap.size := by rw [World.size_alloc]; omega
  have hne : ∀ a : Addr, a.block < w.heap.size → a.block ≠ w.heap.size := fun a h => by omega
  have hp : (c.with t w.heap.size).par = c.par ∧ (c.with t w.heap.size).mem = c.mem ∧ (c.with t w.heap.size).lk = c.lk ∧ (c.with t w.heap.size).Z = c.Z := by cases t <;> exact ⟨rfl, rfl, rfl, rfl⟩
  refine ⟨rfl, rfl, rfl, by omega, fun k hk _ => Below.heap_alloc w ob k hk, fun a ha _ => World.cell?_alloc_lt _ _ _ ha, fun a ha => World.frozen?_alloc_old _ _ _ (hne a ha), fun e he => by simp at he, fun a ha => ?_, fun a ha => ?_, fun a ha hu => ?_, fun a ha => ?_, fun a ha => ?_, hp.1, hp.2.1, hp.2.2.1, fun κ ms lb J h1 h2 => absurd (hm κ ms lb J h1) h2, fun a u h => ⟨u, (World.cell?_alloc_old _ _ _ (fun e => ?_)).trans h⟩⟩
  · cases t
    · rcases ha with h | h | h
      · exact .inl h
      · exact .inr (.inl h)
      · exact .inr (.inr (by rw [h]; exact ⟨Nat.le_refl _, hlt⟩))
    · rcases ha with (h | h) | h
      · exact .inl h
      · exact .inr (.inr (by rw [h]; exact ⟨Nat.le_refl _, hlt⟩))
      · exact .inr (.inl h)
  · cases t
    · rcases ha with h | h
      · exact .inl h
      · exact .inr (by rw [h]; exact ⟨Nat.le_refl _, hlt⟩)
    · exact .inl ha
  · cases t
    · rcases hu with h | h
      · exact hn.ou a ha h
      · exact hne a (hb a (.inl ha)) h
    · rcases ha with h | h
      · exact hn.ou a h hu
      · exact hne a (hb a (.inr (.inl hu))) h
  · rw [hp.2.2.2] at ha
    have h1 := hb a (.inr (.inr ha))
    cases t
    · exact ⟨(hn.oz a ha).1, fun h => h.elim (hn.oz a ha).2 (fun e => hne a h1 e)⟩
    · exact ⟨fun h => h.elim (hn.oz a ha).1 (fun e => hne a h1 e), (hn.oz a ha).2⟩
  · rw [hp.2.2.2] at ha; exact .inl ha
  · rw [World.cell?, e] at h; simp at h
theorem Cx.Low.alloc {c : Cx} {w : World} (hb : c.Low w) (t : Bool) (ob : Obj) : (c.with t w.heap.size).Low (w.alloc ob) := by
  intro a ha
  rw [World.size_alloc]
  cases t
  · rcases ha with h | (h | h) | h
    · exact Nat.lt_succ_of_lt (hb a (.inl h))
    · exact Nat.lt_succ_of_lt (hb a (.inr (.inl h)))
    · omega
    · exact Nat.lt_succ_of_lt (hb a (.inr (.inr h)))
  · rcases ha with (h | h) | h | h
    · exact Nat.lt_succ_of_lt (hb a (.inl h))
    · omega
    · exact Nat.lt_succ_of_lt (hb a (.inr (.inl h)))
    · exact Nat.lt_succ_of_lt (hb a (.inr (.inr h)))
/-- an operation that allots a block -/
theorem T.alloc {c : Cx} {bb : Bool} {m : Nat} {w : World} {b : Frame} {a : Go.Act} {k : List Item} {cs : List Frame} {ops : Array Oper} {i : Nat} {rest : List Nat} {o : Oper} (t : Bool) (hn : c.Neat) (hb : c.Low w)
    (hm : ∀ κ ms lb J, c.mem = some (κ, ms, lb, J) → ms = .m0) (ho : ops[i]? = some o) (hw : Region.wanted o (yielded ops a.tmps) = true) (hk : b.kind ≠ .early) (pv : Nat → Value) (ob : Obj)
    (hr : ∀ w1 : World, Hold c w w1 → (execOp a.eval o).run P w1 = .ok (.value (pv w1.heap.size)) (w1.alloc ob) ∧ (execOp a.eval o).events P w1 #[] = #[])
    (hT : ∀ w1, Hold c w w1 → c.Low w1 → T P Post m bb (c.with t w1.heap.size) (G (b.at (a.put o.dst (pv w1.heap.size)) (.inRegion ops rest :: k)) cs) (w1.alloc ob)) :
    T P Post (m + 1) bb c (G (b.at a (.inRegion ops (i :: rest) :: k)) cs) w := by
  refine T.opk ho hw hk fun w1 hF hL K hK => ?_
  obtain ⟨e1, e2⟩ := hr w1 hF
  rw [e1]
  have e3 : listed P b.fn a o w1 = #[] := by unfold listed; rw [e2]; exact seen_none P _
  refine hK _ _ _ ?_ (hT w1 hF (hb.hold hF))
  rw [e3]
  exact Idle.alloc hn (hb.hold hF) hm t ob
/-- an operation that enters a function, whatever value holds it -/
theorem T.enter {c : Cx} {bb : Bool} {m : Nat} {w : World} {b : Frame} {a : Go.Act} {k : List Item} {cs : List Frame} {ops : Array Oper} {i : Nat} {rest : List Nat} {o : Oper} (hn : c.Neat)
    (ho : ops[i]? = some o) (hw : Region.wanted o (yielded ops a.tmps) = true) (hk : b.kind ≠ .early) {f : FuncId} {args : Array Value}
    (hr : ∀ w1 : World, (execOp a.eval o).run P w1 = .ok (.enter f args) w1 ∧ (execOp a.eval o).events P w1 #[] = #[])
    (hT : T P Post m bb c (G (Frame.enter P f args .normal) (b.at a (.inRegion ops (i :: rest) :: k) :: cs)) w) : T P Post (m + 1) bb c (G (b.at a (.inRegion ops (i :: rest) :: k)) cs) w := by
  refine T.goes1 hn rfl fun w1 hF hL => ?_
  obtain ⟨e1, e2⟩ := hr w1
  have e3 : listed P b.fn a o w1 = #[] := by unfold listed; rw [e2]; exact seen_none P _
  rw [stepG_enter ho hw hk e1, e3]
  exact ⟨⟨rfl, rfl⟩, hT⟩
/-- a region asks the tape for its order -/
theorem T.draw {c : Cx} {bb : Bool} {m : Nat} {w : World} {b : Frame} {a : Go.Act} {k : List Item} {cs : List Frame} {ops : Array Oper} {id : Nat} (hn : c.Neat) (hm : P.follows .mixedOrders = true)
    (hT : ∀ t, T P Post m bb c (G (b.at a (.inRegion ops (Region.linearise.go .any ops ops.size t (Array.replicate ops.size false) []) :: k)) cs) w) : T P Post (m + 1) bb c (G (b.at a (.code (.region id ops true) :: k)) cs) w := by
  refine Act.idle rfl fun w1 r => ⟨_, _, _, c, stepG_region_draw, ⟨rfl, rfl, rfl, Nat.le_refl _, fun _ _ _ => rfl, fun _ _ _ => rfl, fun _ _ => rfl, fun _ h => by simp at h, fun _ h => h.elim (fun h => .inl h) (fun h => .inr (.inl h)), fun _ h => .inl h, hn.ou, hn.oz, fun _ h => .inl h, rfl, rfl, rfl, fun _ _ _ _ _ _ => rfl, fun _ u h => ⟨u, h⟩⟩, ?_⟩
  have e : Region.schedule (P.follows .mixedOrders) ops (w1.tape w1.drawn (.order b.fn id)) = Region.linearise.go .any ops ops.size (w1.tape w1.drawn (.order b.fn id)) (Array.replicate ops.size false) [] := by
    simp only [Region.schedule, hm, Bool.true_or, if_true]; rfl
  rw [e]
  exact (hT _).hold ⟨r.size, r.cell, ⟨r.size, r.grow.frz, r.grow.ex⟩⟩
/-- whichever of those that may come up comes up -/
theorem ord_step {ops : Array Oper} {listed : Array Bool} {rs : List Nat} {fuel : Nat} (hr : Region.ready .any ops listed = rs) (hne : rs ≠ []) (t : Nat) :
    ∃ i ∈ rs, ∃ t', Region.linearise.go .any ops (fuel + 1) t listed [] = i :: Region.linearise.go .any ops fuel t' (listed.setIfInBounds i true) [] := by
  have h0 : Region.linearise.go .any ops (fuel + 1) t listed [] = (match (Region.ready .any ops listed)[t % (Region.ready .any ops listed).length]? with
      | some i => Region.linearise.go .any ops fuel (t / (Region.ready .any ops listed).length) (listed.setIfInBounds i true) [i]
      | none => [].reverse) := by simp only [Region.linearise.go]; rfl
  rw [h0, hr]
  have hlt : t % rs.length < rs.length := Nat.mod_lt _ (List.length_pos_iff.2 hne)
  rw [List.getElem?_eq_getElem hlt]
  refine ⟨rs[t % rs.length], List.getElem_mem hlt, t / rs.length, ?_⟩
  simp only []
  rw [linearise_go_acc, List.reverse_singleton, List.singleton_append]
theorem T.any {c : Cx} {bb : Bool} {m : Nat} {w : World} {b : Frame} {a : Go.Act} {k : List Item} {cs : List Frame} {ops : Array Oper} {listed : Array Bool} (rs : List Nat) {fuel : Nat} (hr : Region.ready .any ops listed = rs) (hne : rs ≠ [])
    (hT : ∀ i ∈ rs, ∀ t, T P Post m bb c (G (b.at a (.inRegion ops (i :: Region.linearise.go .any ops fuel t (listed.setIfInBounds i true) []) :: k)) cs) w) (t : Nat) :
    T P Post m bb c (G (b.at a (.inRegion ops (Region.linearise.go .any ops (fuel + 1) t listed []) :: k)) cs) w := by
  obtain ⟨i, hi, t', e⟩ := ord_step (fuel := fuel) hr hne t
  rw [e]
  exact hT i hi t'
theorem ord_done {ops : Array Oper} {t : Nat} {listed : Array Bool} : Region.linearise.go .any ops 0 t listed [] = [] := rfl
/-- cells that all may read hold what they hold -/
def Has (Zc : List (Addr × Value)) (c : Cx) (w : World) : Prop := ∀ p ∈ Zc, c.Z p.1 ∧ w.cell? p.1 = some p.2
theorem Has.hold {Zc : List (Addr × Value)} {c : Cx} {w w1 : World} (h : Has Zc c w) (r : Hold c w w1) : Has Zc c w1 := fun p hp => ⟨(h p hp).1, (r.cell p.1 (.inr (.inr (h p hp).1))).1.trans (h p hp).2⟩
theorem Has.mono {Zc : List (Addr × Value)} {c c' : Cx} {w : World} (h : Has Zc c w) (hz : ∀ a, c.Z a → c'.Z a) : Has Zc c' w := fun p hp => ⟨hz _ (h p hp).1, (h p hp).2⟩
/-- a task's cell holds what the task came to -/
def doneAt (cell : Nat → Addr) (V : Nat → AS → Value → World → Prop) (j : Nat) (X : AS) (w : World) : Prop := X (cell j) ∧ ∃ v, w.cell? (cell j) = some v ∧ V j X v w
def VStable (V : Nat → AS → Value → World → Prop) : Prop := ∀ j X v w w', (∀ a, X a → w'.cell? a = w.cell? a ∧ w'.frozen? a = w.frozen? a) → V j X v w → V j X v w'
def VMono (V : Nat → AS → Value → World → Prop) : Prop := ∀ j (X X' : AS) v w, (∀ a, X a → X' a) → V j X v w → V j X' v w
end Go.Farm
