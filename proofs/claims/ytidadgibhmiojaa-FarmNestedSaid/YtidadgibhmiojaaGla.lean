/- Steps on own cells by the library's own entries; the marks of one that is alone. -/
import Derived.Test.YtidadgibhmiojaaGz
set_option linter.unusedSimpArgs false
set_option linter.unusedVariables false
namespace Go.Farm
open Go.Conc Go.RowKit Go.Conc.Lib Go.ConcR.Gen Go.ConcN.Gen
open Go.ConcR (DC0)
variable {P : Program} {Post : Value → World → Prop}
/-- a step that turns an own cell -/
theorem T.ownStep {c : Cx} {b : Bool} {m : Nat} {g g' : Goroutine} {w : World} {A : Addr} {u v : Value} {es : Array Event} (hn : c.Neat) (hA : c.O A) (hc : w.cell? A = some u) (hz : w.frozen? A = false) (hs : g.status = .running)
    (h : ∀ w1 : World, w1.cell? A = some u → w1.frozen? A = false → stepG P b g w1 = .go g' (w1.setCell A v) es) (hes : ∀ e ∈ es, e = ⟨.cell A, true, false⟩ ∨ e = ⟨.cell A, true, true⟩ ∨ e = ⟨.cell A, false, true⟩)
    (hT : T P Post m b c g' (w.setCell A v)) : T P Post (m + 1) b c g w := by
  refine Act.idle hs (fun w1 r => ?_)
  have h1 := (r.cell A (.inl hA)).1.trans hc
  refine ⟨g', w1.setCell A v, es, c, h w1 h1 ((r.cell A (.inl hA)).2.trans hz), Idle.set hn hA w1 v hes, hT.hold ⟨?_, fun z hzz => ⟨?_, ?_⟩, ?_, fun z hzz => ?_, fun z x hx => ?_⟩⟩
  · rw [World.size_setCell, World.size_setCell]; exact r.size
  · by_cases e : z = A
    · subst e; rw [World.cell?_setCell_same _ _ _ h1, World.cell?_setCell_same _ _ _ hc]
    · rw [World.cell?_setCell_other _ _ _ _ (Ne.symm e), World.cell?_setCell_other _ _ _ _ (Ne.symm e)]; exact (r.cell z hzz).1
  · rw [World.frozen?_setCell, World.frozen?_setCell]; exact (r.cell z hzz).2
  · rw [World.size_setCell, World.size_setCell]; exact r.size
  · rw [World.frozen?_setCell, World.frozen?_setCell]; rw [World.size_setCell] at hzz; exact r.grow.frz z hzz
  · by_cases e : z = A
    · subst e; exact ⟨v, World.cell?_setCell_same _ _ _ h1⟩
    · rw [World.cell?_setCell_other _ _ _ _ (Ne.symm e)] at hx ⊢; exact r.grow.ex z x hx
/-- a step that reads an own cell -/
theorem T.ownRead {c : Cx} {b : Bool} {m : Nat} {g g' : Goroutine} {w : World} {A : Addr} {u : Value} {s : Bool} (hn : c.Neat) (hA : c.O A ∨ c.Z A) (hc : w.cell? A = some u) (hs : g.status = .running)
    (h : ∀ w1 : World, w1.cell? A = some u → stepG P b g w1 = .go g' w1 #[⟨.cell A, false, s⟩]) (hT : T P Post m b c g' w) : T P Post (m + 1) b c g w := by
  refine Act.idle hs (fun w1 r => ?_)
  have h1 := (r.cell A (hA.elim .inl (fun x => .inr (.inr x)))).1.trans hc
  refine ⟨g', w1, _, c, h w1 h1, Idle.none hn w1 (fun e he => ?_) ?_, hT.hold r.hold⟩
  · simp at he; subst he; exact hA
  · exact deafBehind_still (fun e he => by simp at he; subst he; exact ⟨by simp, by simp⟩) _
/-- a mark of one that is alone -/
theorem T.mark {c c' : Cx} {b : Bool} {m : Nat} {g g' : Goroutine} {w : World} {mk : Mark} (hn : c.Neat) (hp : c.par = none) (hm : c.mem = none) (hs : g.status = .running)
    (hk : (mk = .disable ∧ c' = { c with lk := c.lk + 1 }) ∨ (mk = .enable ∧ c' = { c with lk := c.lk - 1 }) ∨ (∃ A, (mk = .acquire A ∨ mk = .releaseMerge A) ∧ c.O A ∧ c' = c))
    (h : ∀ w1 : World, stepG P b g w1 = .go g' w1 #[⟨.mark mk, false, true⟩]) (hT : T P Post m b c' g' w) : T P Post (m + 1) b c g w := by
  refine Act.idle hs (fun w1 r => ?_)
  have hc : c'.O = c.O ∧ c'.U = c.U ∧ c'.Z = c.Z ∧ c'.par = c.par ∧ c'.mem = c.mem := by
    rcases hk with ⟨-, rfl⟩ | ⟨-, rfl⟩ | ⟨A, -, -, rfl⟩ <;> exact ⟨rfl, rfl, rfl, rfl, rfl⟩
  obtain ⟨h1, h2, h3, h4, h5⟩ := hc
  refine ⟨g', w1, _, c', h w1, ⟨rfl, rfl, rfl, Nat.le_refl _, fun _ _ _ => rfl, fun _ _ _ => rfl, fun _ _ => rfl, fun e he => ?_, fun a ha => ?_, fun a ha => ?_, ?_, ?_, fun a ha => ?_, h4, h5, ?_, fun κ ms lb J hx => ?_, fun _ u hu => ⟨u, hu⟩⟩, hT.hold ⟨r.size, fun a ha => r.cell a (by rw [h1, h2, h3] at ha; exact ha), r.grow⟩⟩
  · simp at he
    subst he
    rcases hk with ⟨rfl, rfl⟩ | ⟨rfl, rfl⟩ | ⟨A, hA, hO, rfl⟩
    · exact .inr (.inr (.inr ⟨.inl rfl, hp, hm⟩))
    · exact .inr (.inr (.inr ⟨.inr rfl, hp, hm⟩))
    · exact .inr (.inr (.inl ⟨A, hA, hO⟩))
  · rw [h1, h2] at ha; exact ha.elim .inl (fun x => .inr (.inl x))
  · rw [h2] at ha; exact .inl ha
  · rw [h1, h2]; exact hn.ou
  · rw [h1, h2, h3]; exact hn.oz
  · rw [h3] at ha; exact .inl ha
  · rcases hk with ⟨rfl, rfl⟩ | ⟨rfl, rfl⟩ | ⟨A, rfl | rfl, hO, rfl⟩ <;> rfl
  · rw [hm] at hx; cases hx
theorem run_call_clo {P : Program} {a : Go.Act} {o : Oper} {d : FuncId} {fn : Func} {t : Operand} {args : Array Operand} {ats : Array TypeId} {caps : Array Value} (hop : o.op = .call { callee := .value t, args, argTypes := ats }) (ht : a.eval t = .func (.func d) #[] caps)
    (hf : P.funcs[d]? = some fn) (hname : (fn.name == "runtime.NumGoroutine") = false) (hb : fn.body.isNone = false) (w : World) : (execOp a.eval o).run P w = .ok (.enter d (args.map a.eval ++ caps)) w ∧ (execOp a.eval o).events P w #[] = #[] := by
  have h1 : ¬ fn.name = "runtime.NumGoroutine" := by simpa using hname
  have h2 : ¬ fn.body = none := by cases hx : fn.body <;> simp_all
  constructor
  · unfold execOp
    simp [hop, resolve, Deferred.ofValue, invoke, callFunc, hf, h1, h2, ht]
  · unfold execOp
    simp [hop, resolve, Deferred.ofValue, invoke, callFunc, hf, h1, h2, ht]
/-- a closure is called -/
theorem T.clo {P : Program} {Post : Value → World → Prop} {c : Cx} {bb : Bool} {m : Nat} {w : World} {b : Frame} {a : Go.Act} {k : List Item} {cs : List Frame} {ops : Array Oper} {i : Nat} {rest : List Nat} {o : Oper} (hn : c.Neat)
    (ho : ops[i]? = some o) (hw : Region.wanted o (yielded ops a.tmps) = true) (hk : b.kind ≠ .early) {d : FuncId} {fn : Func} {code : Code} {t : Operand} {args : Array Operand} {ats : Array TypeId} {caps : Array Value}
    (hop : o.op = .call { callee := .value t, args, argTypes := ats }) (ht : a.eval t = .func (.func d) #[] caps) (hf : P.funcs[d]? = some fn) (hname : (fn.name == "runtime.NumGoroutine") = false) (hb : fn.body = some code)
    (hT : T P Post m bb c (G ((base d).at { tmps := (args.map a.eval ++ caps) ++ Array.replicate (fn.ntmps - (args.map a.eval ++ caps).size) undef, defers := [] } [.code code]) (b.at a (.inRegion ops (i :: rest) :: k) :: cs)) w) :
    T P Post (m + 1) bb c (G (b.at a (.inRegion ops (i :: rest) :: k)) cs) w :=
  T.enter hn ho hw hk (fun w1 => run_call_clo hop ht hf hname (by rw [hb]; rfl) w1) (by rw [enter_at _ hf hb]; exact hT)
end Go.Farm
