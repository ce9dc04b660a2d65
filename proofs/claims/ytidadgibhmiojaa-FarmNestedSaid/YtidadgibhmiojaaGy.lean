/- Facts of own cells; a crew opens; a worker is started. -/
import Derived.Test.YtidadgibhmiojaaGx
set_option linter.unusedSimpArgs false
set_option linter.unusedVariables false
namespace Go.Farm
open Go.Conc Go.RowKit Go.Conc.Lib Go.ConcR.Gen Go.ConcN.Gen
open Go.ConcR (DC0)
variable {P : Program} {Post : Value → World → Prop}
def Facts (L : List (Addr × Value)) (c : Cx) (w : World) : Prop := ∀ p ∈ L, (c.O p.1 ∨ c.U p.1 ∨ c.Z p.1) ∧ w.cell? p.1 = some p.2 ∧ w.frozen? p.1 = false
theorem Facts.nil (c : Cx) (w : World) : Facts [] c w := fun _ h => by simp at h
theorem Facts.hold {L : List (Addr × Value)} {c : Cx} {w w1 : World} (h : Facts L c w) (r : Hold c w w1) : Facts L c w1 := fun p hp =>
  let ⟨h1, h2, h3⟩ := h p hp; ⟨h1, (r.cell _ h1).1.trans h2, (r.cell _ h1).2.trans h3⟩
theorem Facts.low {L : List (Addr × Value)} {c : Cx} {w : World} (hb : c.Low w) (h : Facts L c w) {p : Addr × Value} (hp : p ∈ L) : p.1.block < w.heap.size := hb _ (h p hp).1
theorem Cx.with_cells {c : Cx} {t : Bool} {N : Nat} {a : Addr} (h : c.O a ∨ c.U a ∨ c.Z a) : (c.with t N).O a ∨ (c.with t N).U a ∨ (c.with t N).Z a := by
  cases t
  · rcases h with h | h | h
    · exact .inl h
    · exact .inr (.inl (.inl h))
    · exact .inr (.inr h)
  · rcases h with h | h | h
    · exact .inl (.inl h)
    · exact .inr (.inl h)
    · exact .inr (.inr h)
theorem Facts.alloc {L : List (Addr × Value)} {c : Cx} {w : World} (h : Facts L c w) (hb : c.Low w) (t : Bool) (ob : Obj) : Facts L (c.with t w.heap.size) (w.alloc ob) := fun p hp =>
  let ⟨h1, h2, h3⟩ := h p hp
  have hlt := hb _ h1
  ⟨Cx.with_cells h1, (World.cell?_alloc_lt _ _ _ hlt).trans h2, (World.frozen?_alloc_old _ _ _ (by omega)).trans h3⟩
theorem Facts.turn {L : List (Addr × Value)} {c c' : Cx} {w : World} (h : Facts L c w) (hc : ∀ a, c.O a ∨ c.U a ∨ c.Z a → c'.O a ∨ c'.U a ∨ c'.Z a) : Facts L c' w := fun p hp => let ⟨h1, h2, h3⟩ := h p hp; ⟨hc _ h1, h2, h3⟩
theorem Facts.set {L : List (Addr × Value)} {c : Cx} {w : World} (h : Facts L c w) {A : Addr} (hA : ∀ p ∈ L, p.1 ≠ A) (v : Value) : Facts L c (w.setCell A v) := fun p hp =>
  let ⟨h1, h2, h3⟩ := h p hp; ⟨h1, (World.cell?_setCell_other _ _ _ _ (Ne.symm (hA p hp))).trans h2, (World.frozen?_setCell _ _ _ _).trans h3⟩
theorem Facts.cons {L : List (Addr × Value)} {c : Cx} {w : World} {A : Addr} {v : Value} (h : Facts L c w) (h1 : c.O A ∨ c.U A ∨ c.Z A) (h2 : w.cell? A = some v) (h3 : w.frozen? A = false) : Facts ((A, v) :: L) c w := fun p hp => by
  rcases List.mem_cons.1 hp with rfl | hp
  · exact ⟨h1, h2, h3⟩
  · exact h p hp
theorem Cx.with_neat {c : Cx} (hn : c.Neat) {w : World} (hb : c.Low w) (hm : ∀ κ ms lb J, c.mem = some (κ, ms, lb, J) → ms = .m0) (t : Bool) : (c.with t w.heap.size).Neat :=
  let h := Idle.alloc hn hb hm t (.cells #[] 0); ⟨h.ou, h.oz⟩
/-- a quiet step; what is known of the world then -/
theorem T.goes2 {c : Cx} {b : Bool} {m : Nat} {g : Goroutine} {w : World} (hn : c.Neat) (hs : g.status = .running)
    (h : ∀ w1, Hold c w w1 → LiveC c w1 → (stepG P b g w1).goes (fun g' w' es => DC0 w1 w' es ∧ T P Post m b c g' w1)) : T P Post (m + 1) b c g w := by
  refine Act.idle hs (fun w1 r => ?_)
  obtain ⟨g', w', es, h1, h2, h3⟩ := goes_spec (h w1 r.hold r.live)
  obtain ⟨rfl, rfl⟩ := h2
  exact ⟨g', w', #[], c, h1, Idle.none hn w' (by simp) rfl, h3⟩
/-- a quiet step at which a crew is set up -/
theorem T.open {c c' : Cx} {κ : Crew} {b : Bool} {m : Nat} {g : Goroutine} {w : World} (hs : g.status = .running) (ho : ∀ w1, Hold c w w1 → Opens c κ w1 c')
    (h : ∀ w1, Hold c w w1 → LiveC c w1 → (stepG P b g w1).goes (fun g' w' es => DC0 w1 w' es ∧ T P Post m b c' g' w)) : T P Post (m + 1) b c g w := by
  refine Act.opn hs (fun w1 r => ?_)
  obtain ⟨g', w', es, h1, h2, h3⟩ := goes_spec (h w1 r.hold r.live)
  obtain ⟨rfl, rfl⟩ := h2
  have o := ho w' r.hold
  refine ⟨g', κ, c', h1, o, h3.hold ⟨r.size, fun a ha => r.cell a ?_, r.grow⟩⟩
  rw [o.O, o.Z] at ha
  exact ha.imp id (fun x => x.imp (fun y => (o.sub a y).1) id)
/-- a worker is started -/
theorem T.spawn {c : Cx} {κ : Crew} {sp : Nat} {bb : Bool} {m : Nat} {w : World} {b : Frame} {a : Go.Act} {k : List Item} {cs : List Frame} {ops : Array Oper} {i : Nat} {rest : List Nat} {o : Oper} (hp : c.par = some (κ, .p3, sp)) (hk : sp < 1024)
    (ho : ops[i]? = some o) (hw : Region.wanted o (yielded ops a.tmps) = true) (hkd : b.kind ≠ .early) {d : Deferred} {f : Fn} {cp : Array Value} (hd : d.target = .fn f cp)
    (hr : ∀ w1 : World, (execOp a.eval o).run P w1 = .ok (.spawn d) w1 ∧ (execOp a.eval o).events P w1 #[] = #[])
    (hT : T P Post m bb { c with par := some (κ, .p0, sp + 1) } (G (b.at (a.put o.dst undef) (.inRegion ops rest :: k)) cs) w)
    (hC : ∀ w1, Hold c w w1 → T P Post m false ⟨none3, none3, c.Z, none, some (κ, .m0, 0, fun _ => False), 0⟩ (born P d) w1) :
    T P Post (m + 1) bb c (G (b.at a (.inRegion ops (i :: rest) :: k)) cs) w := by
  refine Act.spawn κ sp hp hk rfl (fun w1 r => ?_)
  obtain ⟨e1, e2⟩ := hr w1
  have e3 : listed P b.fn a o w1 = #[] := by unfold listed; rw [e2]; exact seen_none P _
  refine ⟨_, _, c.Z, ?_, fun _ h => h, hT.hold ⟨r.size, r.cell, r.grow⟩, hC w1 r.hold⟩
  rw [stepG_spawn ho hw hkd e1 hd, e3]
end Go.Farm
