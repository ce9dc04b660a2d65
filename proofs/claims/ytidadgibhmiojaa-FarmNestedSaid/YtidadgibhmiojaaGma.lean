/- The end of the outermost function. -/
import Derived.Test.YtidadgibhmiojaaGla
set_option linter.unusedSimpArgs false
set_option linter.unusedVariables false
namespace Go.Farm
open Go.Conc
variable {P : Program} {Post : Value → World → Prop}
theorem stepG_fin1 {b : Frame} {a : Go.Act} {todo : List Item} {fn : Func} {t : Tmp} {w : World} (hn : b.kind = .normal) (hd : a.defers = []) (hf : P.funcs[b.fn]? = some fn) (hr : fn.results = #[.tmp t]) (hi : P.inits.idxOf? b.fn = none) :
    stepG P true (G { b.at a todo with mode := .returning } []) w = .ended (.done (a.tmps.getD t undef)) w #[] := by
  have h1 := results_tmp hr a.tmps P w
  have h2 := events_results_tmp (P := P) (w := w) hr a.tmps #[]
  simp [G, stepG, unwind, doReturn, Frame.at, hn, hd, hf, h1, h2, seen, GStep.after, hi]
theorem T.done {c : Cx} {w : World} {b : Frame} {a : Go.Act} {todo : List Item} {fn : Func} {t : Tmp} (hp : c.par = none) (hn : b.kind = .normal) (hd : a.defers = []) (hf : P.funcs[b.fn]? = some fn) (hr : fn.results = #[.tmp t]) (hi : P.inits.idxOf? b.fn = none)
    (hv : ∀ w1, Post (a.tmps.getD t undef) w1) : T P Post 1 true c (G { b.at a todo with mode := .returning } []) w :=
  Act.ret hp rfl (fun w1 r => ⟨_, #[], stepG_fin1 hn hd hf hr hi, fun e he => by simp at he, hv w1⟩)
end Go.Farm
