/- Crews: what is asked of a goroutine that owns cells, starts a crew, is one of a crew. -/
import Derived.Conc.CrowdBase
import Derived.Conc.Know
import Derived.Conc.Deaf
import Derived.Conc.QuitsD
import Derived.Conc.Beside
import Derived.Below
namespace Go.Farm
open Go.Conc
abbrev AS := Addr → Prop
abbrev K32 : Nat := 4294967296
def rdE (a : Addr) : Event := ⟨.cell a, false, true⟩
def wrE (a : Addr) : Event := ⟨.cell a, true, true⟩
def mkE (m : Mark) : Event := ⟨.mark m, false, true⟩
def semE (a : Addr) : Array Event := #[mkE .disable, rdE a, wrE a, mkE .enable]
/-- a crew: its group's block, its counter's block, how many tasks, the cell of each, what is said of each that is done, by the cells X -/
structure Crew where
  Wg : Nat
  Cn : Nat
  n : Nat
  cell : Nat → Addr
  D : Nat → AS → World → Prop
def Crew.st (κ : Crew) : Addr := ⟨κ.Wg, 0, none⟩
def Crew.sm (κ : Crew) : Addr := ⟨κ.Wg, 1, none⟩
def Crew.cn (κ : Crew) : Addr := ⟨κ.Cn, 0, none⟩
/-- where a starter stands: nothing going on; deaf ahead of the add or the load; added; hearing again, the worker is to be started; seen v; registered; (p7 v: ahead of the load again, not more than v counted) woken; about to hear; about to acquire -/
inductive PS where
  | p0 | p1 | p2 | p3
  | p4 (v : Nat)
  | p5 | p6
  | p7 (v : Nat)
  | p8 | p9
  deriving DecidableEq
/-- where a worker stands: at work; released; deaf ahead of the decrement; the last one: ahead of its load, its store, its semrelease -/
inductive MS where
  | m0 | m1 | m2 | m3 | m4 | m5
  deriving DecidableEq
def PS.deaf : PS → Nat
  | .p0 | .p3 | .p9 => 0
  | _ => 1
def MS.deaf : MS → Nat
  | .m0 | .m1 => 0
  | _ => 1
/-- what a goroutine has: cells that it owns, such ones untouched, cells that all may read; its crew as a starter (how many workers have been started); the crew that it is of: the least number that its counter can have, the tasks that it took; how often it has said that it is not to be heard (a lone one, in a lock) -/
structure Cx where
  O : AS
  U : AS
  Z : AS
  par : Option (Crew × PS × Nat)
  mem : Option (Crew × MS × Nat × (Nat → Prop))
  lk : Nat
def Cx.has (c : Cx) (κ : Crew) : Prop := (∃ ps sp, c.par = some (κ, ps, sp)) ∨ (∃ ms lb J, c.mem = some (κ, ms, lb, J))
def Live (κ : Crew) (w : World) : Prop := ∃ st sm : Nat, w.cell? κ.st = some (.int .u64 st) ∧ w.cell? κ.sm = some (.int .u32 sm)
/-- cells stay, none freezes or thaws -/
structure Grow (w w1 : World) : Prop where
  size : w.heap.size ≤ w1.heap.size
  frz : ∀ a, a.block < w.heap.size → w1.frozen? a = w.frozen? a
  ex : ∀ a u, w.cell? a = some u → ∃ u', w1.cell? a = some u'
theorem Grow.refl (w : World) : Grow w w := ⟨Nat.le_refl _, fun _ _ => rfl, fun _ u h => ⟨u, h⟩⟩
theorem Grow.trans {a b d : World} (h : Grow a b) (k : Grow b d) : Grow a d :=
  ⟨Nat.le_trans h.size k.size, fun x hx => (k.frz x (Nat.lt_of_lt_of_le hx h.size)).trans (h.frz x hx), fun x u hu => let ⟨v, hv⟩ := h.ex x u hu; k.ex x v hv⟩
theorem Grow.set (w : World) (A : Addr) (v : Value) : Grow w (w.setCell A v) := by
  refine ⟨by rw [World.size_setCell]; exact Nat.le_refl _, fun a _ => World.frozen?_setCell _ _ _ _, fun a u h => ?_⟩
  by_cases e : a = A
  · subst e; exact ⟨v, World.cell?_setCell_same _ _ _ h⟩
  · exact ⟨u, (World.cell?_setCell_other _ _ _ _ (Ne.symm e)).trans h⟩
/-- what the others may turn -/
structure Rely (c : Cx) (w w1 : World) : Prop where
  size : w.heap.size ≤ w1.heap.size
  cell : ∀ a, c.O a ∨ c.U a ∨ c.Z a → w1.cell? a = w.cell? a ∧ w1.frozen? a = w.frozen? a
  live : ∀ κ, c.has κ → Live κ w1
  grow : Grow w w1
theorem Rely.trans {c : Cx} {a b d : World} (h : Rely c a b) (k : Rely c b d) : Rely c a d :=
  ⟨Nat.le_trans h.size k.size, fun x hx => ⟨(k.cell x hx).1.trans (h.cell x hx).1, (k.cell x hx).2.trans (h.cell x hx).2⟩, k.live, h.grow.trans k.grow⟩
/-- what an ordinary step may list -/
def EvOk (c : Cx) (e : Event) : Prop := match e.loc with
  | .cell a => if e.write then c.O a else c.O a ∨ c.Z a
  | .mark m => (∃ f, m = .extern f) ∨ m = .noRoom ∨ (∃ a, (m = .acquire a ∨ m = .releaseMerge a) ∧ c.O a) ∨ ((m = .disable ∨ m = .enable) ∧ c.par = none ∧ c.mem = none)
  | _ => False
/-- an ordinary step -/
structure Idle (c : Cx) (w w' : World) (es : Array Event) (c' : Cx) : Prop where
  tape : w'.tape = w.tape
  os : w'.os = w.os
  output : w'.output = w.output
  size : w.heap.size ≤ w'.heap.size
  block : ∀ k, k < w.heap.size → (∀ a, a.block = k → ¬ (c.O a ∨ c.U a)) → w'.heap[k]? = w.heap[k]?
  cell : ∀ a, a.block < w.heap.size → ¬ (c.O a ∨ c.U a) → w'.cell? a = w.cell? a
  frozen : ∀ a, a.block < w.heap.size → w'.frozen? a = w.frozen? a
  evs : ∀ e ∈ es, EvOk c' e
  own : ∀ a, c'.O a ∨ c'.U a → c.O a ∨ c.U a ∨ (w.heap.size ≤ a.block ∧ a.block < w'.heap.size)
  un : ∀ a, c'.U a → c.U a ∨ (w.heap.size ≤ a.block ∧ a.block < w'.heap.size)
  ou : ∀ a, c'.O a → ¬ c'.U a
  oz : ∀ a, c'.Z a → ¬ c'.O a ∧ ¬ c'.U a
  ro : ∀ a, c'.Z a → c.Z a ∨ c.O a ∨ c.U a ∨ (w.heap.size ≤ a.block ∧ a.block < w'.heap.size)
  par : c'.par = c.par
  mem : c'.mem = c.mem
  lk : c'.lk = deafBehind c.lk es
  bare : ∀ κ ms lb J, c.mem = some (κ, ms, lb, J) → ms ≠ .m0 → c' = c
  ex : ∀ a u, w.cell? a = some u → ∃ u', w'.cell? a = some u'
/-- what is said of a task stands while its cells stand -/
def Crew.Stable (κ : Crew) : Prop := ∀ j X w w', (∀ a, X a → w'.cell? a = w.cell? a ∧ w'.frozen? a = w.frozen? a) → κ.D j X w → κ.D j X w'
/-- a crew is set up out of untouched cells -/
structure Opens (c : Cx) (κ : Crew) (w : World) (c' : Cx) : Prop where
  none : c.par = none
  lk : c.lk = 0
  par : c'.par = some (κ, .p0, 0)
  mem : c'.mem = c.mem
  O : c'.O = c.O
  Z : c'.Z = c.Z
  sub : ∀ a, c'.U a → c.U a ∧ a ≠ κ.st ∧ a ≠ κ.sm ∧ a ≠ κ.cn ∧ ∀ j, j < κ.n → a ≠ κ.cell j
  u1 : c.U κ.st
  u2 : c.U κ.sm
  u3 : c.U κ.cn
  u4 : ∀ j, j < κ.n → c.U (κ.cell j)
  inj : ∀ i j, i < κ.n → j < κ.n → κ.cell i = κ.cell j → i = j
  far : ∀ j, j < κ.n → κ.cell j ≠ κ.st ∧ κ.cell j ≠ κ.sm ∧ κ.cell j ≠ κ.cn
  cw : κ.Cn ≠ κ.Wg
  v1 : w.cell? κ.st = some (.int .u64 0)
  v2 : w.cell? κ.sm = some (.int .u32 0)
  v3 : w.cell? κ.cn = some (.int .i64 0)
  z1 : w.frozen? κ.st = false
  z2 : w.frozen? κ.sm = false
  z3 : w.frozen? κ.cn = false
  small : κ.n < 1048576
  stable : κ.Stable
/-- the starter's steps on its group -/
inductive PStep (κ : Crew) : PS → World → World → Array Event → PS → Prop where
  | dis (w : World) : PStep κ .p0 w w #[mkE .disable] .p1
  | add (w : World) (v : Nat) (h : w.cell? κ.st = some (.int .u64 (v * K32 : Nat))) : PStep κ .p1 w (w.setCell κ.st (.int .u64 ((v + 1) * K32 : Nat))) #[rdE κ.st, wrE κ.st] .p2
  | sread (w : World) : PStep κ .p2 w w #[mkE (.read κ.sm)] .p2
  | en2 (w : World) : PStep κ .p2 w w #[mkE .enable] .p3
  | ld0 (w : World) (h : w.cell? κ.st = some (.int .u64 (0 : Nat))) : PStep κ .p1 w w #[rdE κ.st] .p8
  | ld (w : World) (v : Nat) (h : w.cell? κ.st = some (.int .u64 (v * K32 : Nat))) (hv : v ≠ 0) : PStep κ .p1 w w #[rdE κ.st] (.p4 v)
  | ld07 (w : World) (m : Nat) (h : w.cell? κ.st = some (.int .u64 (0 : Nat))) : PStep κ (.p7 m) w w #[rdE κ.st] .p8
  | ld7 (w : World) (m v : Nat) (h : w.cell? κ.st = some (.int .u64 (v * K32 : Nat))) (hv : v ≠ 0) : PStep κ (.p7 m) w w #[rdE κ.st] (.p4 v)
  | hit (w : World) (v : Nat) (h : w.cell? κ.st = some (.int .u64 (v * K32 : Nat))) (hv : v ≠ 0) : PStep κ (.p4 v) w (w.setCell κ.st (.int .u64 (v * K32 + 1 : Nat))) #[rdE κ.st, wrE κ.st] .p5
  | miss (w : World) (v m : Nat) (h : w.cell? κ.st = some (.int .u64 (m * K32 : Nat))) : PStep κ (.p4 v) w w #[rdE κ.st] (.p7 m)
  | swrite (w : World) : PStep κ .p5 w w #[mkE (.write κ.sm)] .p5
  | ld6 (w : World) : PStep κ .p6 w w #[rdE κ.st] .p8
  | en8 (w : World) : PStep κ .p8 w w #[mkE .enable] .p9
/-- what a starter may meet in its group -/
def POk (κ : Crew) (ps : PS) (w : World) : Prop := match ps with
  | .p4 m | .p7 m => ∃ v : Nat, v ≤ m ∧ w.cell? κ.st = some (.int .u64 (v * K32 : Nat)) ∧ w.cell? κ.sm = some (.int .u32 (0 : Nat)) ∧ w.frozen? κ.st = false
  | .p1 => ∃ v : Nat, v ≤ 1048576 ∧ w.cell? κ.st = some (.int .u64 (v * K32 : Nat)) ∧ w.cell? κ.sm = some (.int .u32 (0 : Nat)) ∧ w.frozen? κ.st = false
  | .p6 => w.cell? κ.st = some (.int .u64 (0 : Nat)) ∧ w.cell? κ.sm = some (.int .u32 (0 : Nat))
  | _ => True
/-- a worker's steps on the group; none: it only leaves -/
inductive MStep (κ : Crew) : MS → World → World → Array Event → Option MS → Prop where
  | dis (w : World) : MStep κ .m1 w w #[mkE .disable] (some .m2)
  | dec (w : World) (v wt : Nat) (hw : wt ≤ 1) (h : w.cell? κ.st = some (.int .u64 ((v + 1) * K32 + wt : Nat))) :
      MStep κ .m2 w (w.setCell κ.st (.int .u64 (v * K32 + wt : Nat))) #[rdE κ.st, wrE κ.st] (if v = 0 ∧ wt = 1 then some .m3 else none)
  | ld (w : World) : MStep κ .m3 w w #[rdE κ.st] (some .m4)
  | sto (w : World) : MStep κ .m4 w (w.setCell κ.st (.int .u64 (0 : Nat))) #[wrE κ.st] (some .m5)
  | sem (w : World) : MStep κ .m5 w (w.setCell κ.sm (.int .u32 (1 : Nat))) (semE κ.sm) none
def MOk (κ : Crew) (ms : MS) (w : World) : Prop := match ms with
  | .m2 => ∃ v wt : Nat, wt ≤ 1 ∧ v ≤ 1048576 ∧ w.cell? κ.st = some (.int .u64 ((v + 1) * K32 + wt : Nat)) ∧ w.cell? κ.sm = some (.int .u32 (0 : Nat)) ∧ w.frozen? κ.st = false
  | .m3 | .m4 => w.cell? κ.st = some (.int .u64 (1 : Nat)) ∧ w.cell? κ.sm = some (.int .u32 (0 : Nat)) ∧ w.frozen? κ.st = false
  | .m5 => w.cell? κ.st = some (.int .u64 (0 : Nat)) ∧ w.cell? κ.sm = some (.int .u32 (0 : Nat)) ∧ w.frozen? κ.sm = false
  | _ => True
def none3 : AS := fun _ => False
/-- a worker that has released has nothing -/
def Cx.bare (κ : Crew) (ms : MS) (lb : Nat) (J : Nat → Prop) : Cx := ⟨none3, none3, none3, none, some (κ, ms, lb, J), 0⟩
/-- the next step of a goroutine: R: what holds behind it; Q: it only leaves -/
inductive Act (P : Program) (Post : Value → World → Prop) (R : Bool → Cx → Goroutine → World → Prop) (Q : Goroutine → Prop) : Bool → Cx → Goroutine → World → Prop where
  | idle {b : Bool} {c : Cx} {g : Goroutine} {w : World} (hs : g.status = .running)
      (h : ∀ w1, Rely c w w1 → ∃ g' w' es c', stepG P b g w1 = .go g' w' es ∧ Idle c w1 w' es c' ∧ R b c' g' w') : Act P Post R Q b c g w
  | opn {b : Bool} {c : Cx} {g : Goroutine} {w : World} (hs : g.status = .running)
      (h : ∀ w1, Rely c w w1 → ∃ g' κ c', stepG P b g w1 = .go g' w1 #[] ∧ Opens c κ w1 c' ∧ R b c' g' w1) : Act P Post R Q b c g w
  | wgp {b : Bool} {c : Cx} {g : Goroutine} {w : World} (κ : Crew) (ps : PS) (sp : Nat) (hp : c.par = some (κ, ps, sp)) (hs : g.status = .running)
      (h : ∀ w1, Rely c w w1 → POk κ ps w1 → ∃ g' w' es ps', stepG P b g w1 = .go g' w' es ∧ PStep κ ps w1 w' es ps' ∧ R b { c with par := some (κ, ps', sp) } g' w') : Act P Post R Q b c g w
  | acq {b : Bool} {c : Cx} {g : Goroutine} {w : World} (κ : Crew) (sp : Nat) (hp : c.par = some (κ, .p5, sp)) (hs : g.status = .running) (ho : g.offers = none)
      (hb : ∀ w1, Rely c w w1 → w1.cell? κ.sm = some (.int .u32 (0 : Nat)) → stepG P b g w1 = .go { g with status := .blocked } w1 #[])
      (h : ∀ w1, Rely c w w1 → w1.cell? κ.sm = some (.int .u32 (1 : Nat)) → w1.frozen? κ.sm = false → ∃ g', stepG P b g w1 = .go g' (w1.setCell κ.sm (.int .u32 (0 : Nat))) (semE κ.sm) ∧
        R b { c with par := some (κ, .p6, sp) } g' (w1.setCell κ.sm (.int .u32 (0 : Nat)))) : Act P Post R Q b c g w
  | spawn {b : Bool} {c : Cx} {g : Goroutine} {w : World} (κ : Crew) (sp : Nat) (hp : c.par = some (κ, .p3, sp)) (hk : sp < 1024) (hs : g.status = .running)
      (h : ∀ w1, Rely c w w1 → ∃ g' ch Z', stepG P b g w1 = .spawn g' ch w1 #[] ∧ (∀ a, Z' a → c.Z a) ∧ R b { c with par := some (κ, .p0, sp + 1) } g' w1 ∧
        R false ⟨none3, none3, Z', none, some (κ, .m0, 0, fun _ => False), 0⟩ ch w1) : Act P Post R Q b c g w
  | close {b : Bool} {c : Cx} {g : Goroutine} {w : World} (κ : Crew) (sp : Nat) (hp : c.par = some (κ, .p9, sp)) (hk : 0 < sp) (hs : g.status = .running)
      (h : ∀ w1, Rely c w w1 → ∃ g', stepG P b g w1 = .go g' w1 #[mkE (.acquire κ.st)] ∧
        ∀ X : AS, (∀ a, X a → a.block < w1.heap.size) → (∀ a, X a → ¬ c.O a ∧ ¬ c.U a ∧ ¬ c.Z a) → (∀ j, j < κ.n → ∃ Y : AS, (∀ a, Y a → X a) ∧ κ.D j Y w1) → R b { c with O := fun a => c.O a ∨ X a, par := none, lk := 0 } g' w1) : Act P Post R Q b c g w
  | tick {c : Cx} {g : Goroutine} {w : World} (κ : Crew) (lb : Nat) (J : Nat → Prop) (hm : c.mem = some (κ, .m0, lb, J)) (hp : c.par = none) (hlb : lb ≤ κ.n) (hs : g.status = .running)
      (h : ∀ w1, Rely c w w1 → ∀ j : Nat, lb ≤ j → j ≤ 4194304 → w1.cell? κ.cn = some (.int .i64 (j : Int)) → w1.frozen? κ.cn = false →
        ∃ g', stepG P false g w1 = .go g' (w1.setCell κ.cn (.int .i64 ((j + 1 : Nat) : Int))) #[rdE κ.cn, wrE κ.cn] ∧
          (j < κ.n → R false { c with U := fun a => c.U a ∨ a = κ.cell j, mem := some (κ, .m0, j + 1, fun i => J i ∨ i = j) } g' (w1.setCell κ.cn (.int .i64 ((j + 1 : Nat) : Int)))) ∧
          (κ.n ≤ j → R false { c with mem := some (κ, .m0, j + 1, J) } g' (w1.setCell κ.cn (.int .i64 ((j + 1 : Nat) : Int))))) : Act P Post R Q false c g w
  | rel {c : Cx} {g : Goroutine} {w : World} (κ : Crew) (lb : Nat) (J : Nat → Prop) (hm : c.mem = some (κ, .m0, lb, J)) (hp : c.par = none) (hl : c.lk = 0) (hlb : κ.n < lb) (hs : g.status = .running)
      (h : ∀ w1, Rely c w w1 → ∃ g', stepG P false g w1 = .go g' w1 #[mkE (.releaseMerge κ.st)] ∧ (∀ j, J j → κ.D j (fun a => c.O a ∨ c.U a) w1) ∧ R false (Cx.bare κ .m1 lb J) g' w1) : Act P Post R Q false c g w
  | wgm {c : Cx} {g : Goroutine} {w : World} (κ : Crew) (ms : MS) (lb : Nat) (J : Nat → Prop) (hm : c = Cx.bare κ ms lb J) (hw : ms = .m5 → mayWake P g = true) (hs : g.status = .running)
      (h : ∀ w1, Rely c w w1 → MOk κ ms w1 → ∃ g' w' es ms', stepG P false g w1 = .go g' w' es ∧ MStep κ ms w1 w' es ms' ∧
        (∀ m, ms' = some m → R false (Cx.bare κ m lb J) g' w') ∧ (ms' = none → Q g')) : Act P Post R Q false c g w
  | ret {c : Cx} {g : Goroutine} {w : World} (hp : c.par = none) (hs : g.status = .running)
      (h : ∀ w1, Rely c w w1 → ∃ v es, stepG P true g w1 = .ended (.done v) w1 es ∧ (∀ e ∈ es, EvOk c e) ∧ Post v w1) : Act P Post R Q true c g w
/-- within n steps (those that it starts have as many) the goroutine is at its end, whatever the others do -/
def T (P : Program) (Post : Value → World → Prop) : Nat → Bool → Cx → Goroutine → World → Prop
  | 0 => fun _ _ _ _ => False
  | n + 1 => Act P Post (T P Post n) (QuitsD P n 1)
variable {P : Program} {Post : Value → World → Prop} {R R' : Bool → Cx → Goroutine → World → Prop} {Q Q' : Goroutine → Prop}
theorem Act.running {b : Bool} {c : Cx} {g : Goroutine} {w : World} (h : Act P Post R Q b c g w) : g.status = .running := by
  cases h <;> assumption
theorem Act.rely {b : Bool} {c : Cx} {g : Goroutine} {w w1 : World} (h : Act P Post R Q b c g w) (r : Rely c w w1) : Act P Post R Q b c g w1 := by
  cases h with
  | idle hs h => exact .idle hs fun w2 r2 => h w2 (r.trans r2)
  | opn hs h => exact .opn hs fun w2 r2 => h w2 (r.trans r2)
  | wgp κ ps sp hp hs h => exact .wgp κ ps sp hp hs fun w2 r2 => h w2 (r.trans r2)
  | acq κ sp hp hs ho hb h => exact .acq κ sp hp hs ho (fun w2 r2 => hb w2 (r.trans r2)) fun w2 r2 => h w2 (r.trans r2)
  | spawn κ sp hp hk hs h => exact .spawn κ sp hp hk hs fun w2 r2 => h w2 (r.trans r2)
  | close κ sp hp hk hs h => exact .close κ sp hp hk hs fun w2 r2 => h w2 (r.trans r2)
  | tick κ lb J hm hp hlb hs h => exact .tick κ lb J hm hp hlb hs fun w2 r2 => h w2 (r.trans r2)
  | rel κ lb J hm hp hl hlb hs h => exact .rel κ lb J hm hp hl hlb hs fun w2 r2 => h w2 (r.trans r2)
  | wgm κ ms lb J hm hw hs h => exact .wgm κ ms lb J hm hw hs fun w2 r2 => h w2 (r.trans r2)
  | ret hp hs h => exact .ret hp hs fun w2 r2 => h w2 (r.trans r2)
theorem T.running {n : Nat} {b : Bool} {c : Cx} {g : Goroutine} {w : World} (h : T P Post n b c g w) : g.status = .running := by
  cases n with
  | zero => exact h.elim
  | succ n => exact Act.running h
theorem T.rely {n : Nat} {b : Bool} {c : Cx} {g : Goroutine} {w w1 : World} (h : T P Post n b c g w) (r : Rely c w w1) : T P Post n b c g w1 := by
  cases n with
  | zero => exact h
  | succ n => exact Act.rely h r
theorem Act.mono (hR : ∀ b c g w, R b c g w → R' b c g w) (hQ : ∀ g, Q g → Q' g) {b : Bool} {c : Cx} {g : Goroutine} {w : World} (h : Act P Post R Q b c g w) : Act P Post R' Q' b c g w := by
  cases h with
  | idle hs h => exact .idle hs fun w2 r2 => let ⟨g', w', es, c', h1, h2, h3⟩ := h w2 r2; ⟨g', w', es, c', h1, h2, hR _ _ _ _ h3⟩
  | opn hs h => exact .opn hs fun w2 r2 => let ⟨g', κ, c', h1, h2, h3⟩ := h w2 r2; ⟨g', κ, c', h1, h2, hR _ _ _ _ h3⟩
  | wgp κ ps sp hp hs h => exact .wgp κ ps sp hp hs fun w2 r2 o => let ⟨g', w', es, ps', h1, h2, h3⟩ := h w2 r2 o; ⟨g', w', es, ps', h1, h2, hR _ _ _ _ h3⟩
  | acq κ sp hp hs ho hb h => exact .acq κ sp hp hs ho hb fun w2 r2 h1 h2 => let ⟨g', h3, h4⟩ := h w2 r2 h1 h2; ⟨g', h3, hR _ _ _ _ h4⟩
  | spawn κ sp hp hk hs h => exact .spawn κ sp hp hk hs fun w2 r2 => let ⟨g', ch, Z', h1, h2, h3, h4⟩ := h w2 r2; ⟨g', ch, Z', h1, h2, hR _ _ _ _ h3, hR _ _ _ _ h4⟩
  | close κ sp hp hk hs h => exact .close κ sp hp hk hs fun w2 r2 => let ⟨g', h1, h2⟩ := h w2 r2; ⟨g', h1, fun X x1 x2 x3 => hR _ _ _ _ (h2 X x1 x2 x3)⟩
  | tick κ lb J hm hp hlb hs h => exact .tick κ lb J hm hp hlb hs fun w2 r2 j h1 h2 h3 h4 => let ⟨g', k1, k2, k3⟩ := h w2 r2 j h1 h2 h3 h4; ⟨g', k1, fun x => hR _ _ _ _ (k2 x), fun x => hR _ _ _ _ (k3 x)⟩
  | rel κ lb J hm hp hl hlb hs h => exact .rel κ lb J hm hp hl hlb hs fun w2 r2 => let ⟨g', h1, h2, h3⟩ := h w2 r2; ⟨g', h1, h2, hR _ _ _ _ h3⟩
  | wgm κ ms lb J hm hw hs h => exact .wgm κ ms lb J hm hw hs fun w2 r2 o => let ⟨g', w', es, ms', h1, h2, h3, h4⟩ := h w2 r2 o; ⟨g', w', es, ms', h1, h2, fun m x => hR _ _ _ _ (h3 m x), fun x => hQ _ (h4 x)⟩
  | ret hp hs h => exact .ret hp hs h
theorem QuitsD.more : ∀ {n d : Nat} {g : Goroutine}, QuitsD P n d g → QuitsD P (n + 1) d g
  | 0, _, _, h => .inl h
  | _ + 1, _, _, h => h.imp id fun ⟨hs, g', es, h1, h2, h3⟩ => ⟨hs, g', es, h1, h2, QuitsD.more h3⟩
theorem T.more : ∀ {n : Nat} {b : Bool} {c : Cx} {g : Goroutine} {w : World}, T P Post n b c g w → T P Post (n + 1) b c g w
  | 0, _, _, _, _, h => h.elim
  | _ + 1, _, _, _, _, h => Act.mono (fun _ _ _ _ x => T.more x) (fun _ x => QuitsD.more x) h
theorem T.le {m n : Nat} (hmn : m ≤ n) {b : Bool} {c : Cx} {g : Goroutine} {w : World} (h : T P Post m b c g w) : T P Post n b c g w := by
  obtain ⟨d, rfl⟩ := Nat.exists_eq_add_of_le hmn
  induction d with
  | zero => exact h
  | succ d ih => exact T.more (ih (by omega))
end Go.Farm
