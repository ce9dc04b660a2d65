/- Steps of one that is alone with its own cells, one by one. -/
import Derived.Test.YtidadgibhmiojaaGq
import Derived.Conc.WgGenN2
namespace Go.Farm
open Go.Conc Go.RowKit Go.Conc.Lib Go.ConcR.Gen Go.ConcN.Gen
open Go.ConcR (DC0)
variable {P : Program} {Post : Value → World → Prop}
theorem goes_spec {s : GStep} {K : Goroutine → World → Array Event → Prop} (h : s.goes K) : ∃ g w es, s = .go g w es ∧ K g w es := by
  cases s with
  | go g w es => exact ⟨g, w, es, rfl, h⟩
  | _ => exact h.elim
theorem Idle.none {c : Cx} (hn : c.Neat) (w : World) {es : Array Event} (h : ∀ e ∈ es, EvOk c e) (hd : deafBehind c.lk es = c.lk) : Idle c w w es c := Own0.none hn.ou hn.oz h hd
/-- a step that turns nothing and lists nothing -/
theorem T.goes1 {c : Cx} {b : Bool} {m : Nat} {g : Goroutine} {w : World} (hn : c.Neat) (hs : g.status = .running)
    (h : ∀ w1, Hold c w w1 → LiveC c w1 → (stepG P b g w1).goes (fun g' w' es => DC0 w1 w' es ∧ T P Post m b c g' w)) : T P Post (m + 1) b c g w := by
  refine Act.idle hs (fun w1 r => ?_)
  obtain ⟨g', w', es, h1, h2, h3⟩ := goes_spec (h w1 r.hold r.live)
  obtain ⟨rfl, rfl⟩ := h2
  exact ⟨g', w', #[], c, h1, Idle.none hn w' (by simp) rfl, h3.hold r.hold⟩
/-- an operation -/
theorem T.opk {c : Cx} {bb : Bool} {m : Nat} {w : World} {b : Frame} {a : Go.Act} {k : List Item} {cs : List Frame} {ops : Array Oper} {i : Nat} {rest : List Nat} {o : Oper}
    (ho : ops[i]? = some o) (hw : Region.wanted o (yielded ops a.tmps) = true) (hk : b.kind ≠ .early)
    (h : ∀ w1, Hold c w w1 → LiveC c w1 → ∀ K : Go.Act → World → Prop, (∀ a' w' c', Idle c w1 w' (listed P b.fn a o w1) c' → T P Post m bb c' (G (b.at a' (.inRegion ops rest :: k)) cs) w' → K a' w') → uponK o a K ((execOp a.eval o).run P w1)) :
    T P Post (m + 1) bb c (G (b.at a (.inRegion ops (i :: rest) :: k)) cs) w := by
  refine Act.idle rfl (fun w1 r => ?_)
  have h1 := h w1 r.hold r.live (fun a' w' => ∃ c', Idle c w1 w' (listed P b.fn a o w1) c' ∧ T P Post m bb c' (G (b.at a' (.inRegion ops rest :: k)) cs) w') (fun a' w' c' x y => ⟨c', x, y⟩)
  revert h1
  cases e : (execOp a.eval o).run P w1 with
  | ok x w' =>
    cases x with
    | value v => exact fun ⟨c', x, y⟩ => ⟨_, w', _, c', stepG_value ho hw hk e, x, y⟩
    | skip => exact fun ⟨c', x, y⟩ => ⟨_, w', _, c', stepG_none ho hw hk e, x, y⟩
    | _ => exact fun h => h.elim
  | halt _ _ => exact fun h => h.elim
/-- an operation that turns nothing -/
theorem T.quiet {c : Cx} {bb : Bool} {m : Nat} {w : World} {b : Frame} {a : Go.Act} {k : List Item} {cs : List Frame} {ops : Array Oper} {i : Nat} {rest : List Nat} {o : Oper} (hn : c.Neat)
    (ho : ops[i]? = some o) (hw : Region.wanted o (yielded ops a.tmps) = true) (hk : b.kind ≠ .early)
    (h : ∀ w1, Hold c w w1 → LiveC c w1 → ∀ K : Go.Act → World → Prop, (∀ a', (∀ e ∈ (execOp a.eval o).events P w1 #[], EvOk c e ∧ e.loc ≠ .mark .disable ∧ e.loc ≠ .mark .enable) → T P Post m bb c (G (b.at a' (.inRegion ops rest :: k)) cs) w → K a' w1) → uponK o a K ((execOp a.eval o).run P w1)) :
    T P Post (m + 1) bb c (G (b.at a (.inRegion ops (i :: rest) :: k)) cs) w :=
  T.opk ho hw hk fun w1 hF hL K hK => h w1 hF hL K fun a' h1 h2 => hK a' w1 c (Idle.none hn w1 (fun e he => (h1 e (mem_listed he)).1) (deafBehind_still (fun e he => (h1 e (mem_listed he)).2) _)) (h2.hold hF)
/-- what has been listed of an own cell -/
theorem EvOk.rd {c : Cx} {a : Addr} (s : Bool) (h : c.O a ∨ c.Z a) : EvOk c ⟨.cell a, false, s⟩ ∧ (⟨.cell a, false, s⟩ : Event).loc ≠ .mark .disable ∧ (⟨.cell a, false, s⟩ : Event).loc ≠ .mark .enable := ⟨h, by simp, by simp⟩
theorem Live.cellSt {κ : Crew} {w : World} (h : Live κ w) : ∃ v, w.cell? ⟨κ.Wg, 0, none⟩ = some v := h.cell0
theorem Live.cellSm {κ : Crew} {w : World} (h : Live κ w) : ∃ v, w.cell? ⟨κ.Wg, 1, none⟩ = some v := h.cell1
end Go.Farm
