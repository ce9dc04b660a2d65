/- What is held of the whole machine between two steps. -/
import Derived.Test.YtidadgibhmiojaaGc
import Derived.Conc.Crowd
namespace Go.Farm
open Go.Conc Go.RowKit
open Go.ConcN (sumTo upd sumTo_upd upd_ne upd_same sumTo_congr le_sumTo)
theorem fork_knowsG {t : Trace} {i k : Nat} {x y : MemOp} (hx : x.g = i ∧ x.act = .go k) (hy : y.g = k ∧ y.act = .start) (h0 : Deaf t i = 0) (hk : Deaf t k = 0) {z : Nat} (h : Knows t i z) : Knows (t ++ #[x, y]) k z := by
  have hxp : (t ++ #[x, y])[t.size]? = some x := by rw [Array.getElem?_append_right (Nat.le_refl _)]; simp
  have hyp : (t ++ #[x, y])[t.size + 1]? = some y := by rw [Array.getElem?_append_right (by omega)]; simp
  have h1 : HappensBefore (t ++ #[x, y]) z t.size := h.hb_new (Nat.le_refl _) hxp hx.1
  have e0 : (t ++ #[x, y]).heard t.size := ⟨i, by simp [Trace.g?, hx.1], by rw [deaf_old (Nat.le_refl _)]; exact h0⟩
  have e1 : (t ++ #[x, y]).heard (t.size + 1) := ⟨k, by simp [Trace.g?, hy.1], by rw [deaf_succ hxp, deaf_old (Nat.le_refl _)]; simp only [deafStep, hx.2]; exact hk⟩
  exact ⟨t.size + 1, y, hyp, hy.1, .inr (h1.trans (.single (.inr ⟨.spawn (child := k) (by rw [act?_of hxp, hx.2]) (by rw [act?_of hyp, hy.2]) (by simp [Trace.g?, hy.1]), e0, e1⟩)))⟩
/-- a go statement: the child knows what its starter knows -/
theorem TI.fork {t : Trace} {own : Addr → Owner} {Z Z' : Nat → AS} {live live' : Nat → Prop} {rels : Nat → Nat → Prop} {size i k : Nat} (h : TI t own Z live rels size)
    {x y : MemOp} (hx : x.g = i ∧ x.act = .go k) (hy : y.g = k ∧ y.act = .start) (h0 : Deaf t i = 0) (hk : Deaf t k = 0)
    (hZ : ∀ j a, Z' j a → Z j a ∨ (j = k ∧ Z i a)) (hl : ∀ j, live j → live' j) : TI (t ++ #[x, y]) own Z' live' rels size := by
  have hu : ∀ op ∈ #[x, y], op.act.touch? = none := fun op hop => by
    simp only [List.mem_toArray, List.mem_cons, List.not_mem_nil, or_false] at hop
    rcases hop with e | e <;> rw [e]
    · rw [hx.2]; rfl
    · rw [hy.2]; rfl
  have h1 := h.mute #[x, y] hu (size' := size) (fun op hop => by
    simp only [List.mem_toArray, List.mem_cons, List.not_mem_nil, or_false] at hop
    rcases hop with e | e <;> rw [e]
    · rw [hx.2]; trivial
    · rw [hy.2]; trivial) (Nat.le_refl _) (fun op hop a => by
    simp only [List.mem_toArray, List.mem_cons, List.not_mem_nil, or_false] at hop
    rcases hop with e | e <;> rw [e]
    · rw [hx.2]; simp
    · rw [hy.2]; simp)
  have tt : ∀ {z : Nat} {b : Touch}, touchAt (t ++ #[x, y]) z = some b → touchAt t z = some b := fun hb => (touchAt_app hb hu).1
  refine ⟨h1.race, h1.ow, h1.un, fun a j hz => ?_, fun a j hz z b hb hl2 hw => ?_, h1.ret, h1.shr, fun z hz => ?_, h1.norel, h1.low, h1.big⟩
  · rcases hZ j a hz with h2 | ⟨-, h2⟩
    · exact h.zro a j h2
    · exact h.zro a i h2
  · rcases hZ j a hz with h2 | ⟨rfl, h2⟩
    · exact h1.ro a j h2 z b hb hl2 hw
    · exact fork_knowsG hx hy h0 hk (h.ro a i h2 z b (tt hb) hl2 hw)
  · rcases h1.over z hz with ⟨j, h2, h3⟩ | h2
    · exact .inl ⟨j, hl j h2, h3⟩
    · exact .inr h2
/-- a goroutine's ghost: its fuel, what it has, whether it only leaves, who started it -/
structure GS where
  n : Nat
  c : Cx
  quit : Bool
  boss : Nat
/-- its stage as one of p's -/
def GS.stage (s : GS) (p : Nat) : Option MS := if s.quit = false ∧ s.boss = p then s.c.mem.map (·.2.1) else none
def isCnt : Option MS → Nat
  | some .m0 | some .m1 | some .m2 => 1
  | _ => 0
def isLast : Option MS → Bool
  | some .m3 | some .m4 | some .m5 => true
  | _ => false
/-- may it still draw a task? -/
def GS.act (s : GS) (p : Nat) : Nat := if s.quit = false ∧ s.boss = p then (match s.c.mem with | some (κ, .m0, lb, _) => if lb ≤ κ.n then 1 else 0 | _ => 0) else 0
def PS.pend : PS → Nat
  | .p2 | .p3 => 1
  | _ => 0
/-- what the group's cells hold: v counted, l: the last one's stage -/
def GVal (ps : PS) (v : Nat) (l : Option MS) (st sm : Nat) : Prop := match ps with
  | .p5 => (l = none ∧ 1 ≤ v ∧ st = v * K32 + 1 ∧ sm = 0) ∨ (v = 0 ∧ (l = some .m3 ∨ l = some .m4) ∧ st = 1 ∧ sm = 0) ∨ (v = 0 ∧ l = some .m5 ∧ st = 0 ∧ sm = 0) ∨ (v = 0 ∧ l = none ∧ st = 0 ∧ sm = 1)
  | .p6 | .p8 | .p9 => v = 0 ∧ l = none ∧ st = 0 ∧ sm = 0
  | .p4 m | .p7 m => l = none ∧ st = v * K32 ∧ sm = 0 ∧ v ≤ m
  | _ => l = none ∧ st = v * K32 ∧ sm = 0
def counted (N : Nat) (Γ : Nat → GS) (p : Nat) : Nat := sumTo N fun i => isCnt ((Γ i).stage p)
def active (N : Nat) (Γ : Nat → GS) (p : Nat) : Nat := sumTo N fun i => (Γ i).act p
def lastOf (Γ : Nat → GS) (la : Option Nat) (p : Nat) : Option MS := la.bind fun i => (Γ i).stage p
structure CrewOk (N : Nat) (Γ : Nat → GS) (own : Addr → Owner) (t : Trace) (cv : Nat) (la : Option Nat) (rel : Nat → Prop) (w : World) (p : Nat) (κ : Crew) (ps : PS) (k : Nat) : Prop where
  st : own κ.st = .grp p
  sm : own κ.sm = .grp p
  cn : own κ.cn = .cnt p
  val : ∃ st sm : Nat, w.cell? κ.st = some (.int .u64 st) ∧ w.cell? κ.sm = some (.int .u32 sm) ∧ GVal ps (counted N Γ p + ps.pend) (lastOf Γ la p) st sm
  fz : w.frozen? κ.st = false ∧ w.frozen? κ.sm = false ∧ w.frozen? κ.cn = false
  cc : w.cell? κ.cn = some (.int .i64 (cv : Int))
  cb : (cv - κ.n) + active N Γ p ≤ k
  kb : k ≤ 1024
  vb : counted N Γ p ≤ k
  lk : ∀ i, i < N → (isLast ((Γ i).stage p) = true ↔ la = some i)
  lN : ∀ i, la = some i → i < N
  pool : ∀ j, j < κ.n → cv ≤ j → own (κ.cell j) = .pool p
  inj : ∀ i j, i < κ.n → j < κ.n → κ.cell i = κ.cell j → i = j
  task : ∀ j, j < κ.n → j < cv → (∃ i lb J, i < N ∧ (Γ i).quit = false ∧ (Γ i).boss = p ∧ (Γ i).c.mem = some (κ, .m0, lb, J) ∧ J j) ∨ (∃ X : AS, (∀ a, X a → ∃ r, own a = .ret p r) ∧ κ.D j X w)
  some1 : 0 < k → (∃ i, i < N ∧ ((Γ i).stage p).isSome = true) ∨ ∃ r, rel r
  full : (∃ r, rel r) → κ.n ≤ cv
  stable : κ.Stable
  rels : ∀ r, rel r → IsRel t κ.st r
  small : κ.n < 1048576
  relm : ∀ i, i < N → ∀ ms, (Γ i).stage p = some ms → ms ≠ .m0 → ∃ r, rel r
/-- a goroutine between two steps -/
def Thr (P : Program) (Post : Value → World → Prop) (t : Trace) (w : World) (i : Nat) (g : Goroutine) (s : GS) : Prop :=
  if s.quit = true then i ≠ 0 ∧ QuitsD P s.n (Deaf t i) g
  else ∃ g0, T P Post s.n (i == 0) s.c g0 w ∧ (g = g0 ∨ (g = { g0 with status := .blocked } ∧ g0.offers = none ∧ ∃ κ k, s.c.par = some (κ, .p5, k) ∧ w.cell? κ.sm = some (.int .u32 (0 : Nat))))
def Cx.deaf (c : Cx) : Nat := (match c.par with | some (_, ps, _) => ps.deaf | none => c.lk) + (match c.mem with | some (_, ms, _, _) => ms.deaf | none => 0)
def ZF (N : Nat) (Γ : Nat → GS) : Nat → AS := fun i a => i < N ∧ (Γ i).quit = false ∧ (Γ i).c.Z a
def LF (N : Nat) (Γ : Nat → GS) : Nat → Prop := fun i => i < N ∧ (Γ i).quit = false ∧ ∀ κ ms lb J, (Γ i).c.mem = some (κ, ms, lb, J) → ms = .m0
structure Inv (P : Program) (Post : Value → World → Prop) (B : Nat) (w0 : World) (gs : Array Goroutine) (w : World) (t : Trace) (Γ : Nat → GS) (own : Addr → Owner) (cv : Nat → Nat) (la : Nat → Option Nat) (rels : Nat → Nat → Prop) : Prop where
  pos : 0 < gs.size
  thr : ∀ i g, gs[i]? = some g → Thr P Post t w i g (Γ i)
  main : (Γ 0).quit = false ∧ (Γ 0).c.mem = none
  mem : ∀ i, i < gs.size → 0 < i → (Γ i).quit = false → ∃ κ ms lb J ps k, (Γ i).c.mem = some (κ, ms, lb, J) ∧ (Γ i).boss < i ∧ (Γ (Γ i).boss).quit = false ∧ (Γ (Γ i).boss).c.par = some (κ, ps, k) ∧ lb ≤ cv (Γ i).boss ∧
    (ms ≠ .m0 → (Γ i).c = Cx.bare κ ms lb J)
  crew : ∀ p κ ps k, p < gs.size → (Γ p).quit = false → (Γ p).c.par = some (κ, ps, k) → CrewOk gs.size Γ own t (cv p) (la p) (rels p) w p κ ps k
  norel : ∀ p r, rels p r → p < gs.size ∧ (Γ p).quit = false ∧ ∃ x, (Γ p).c.par = some x
  deaf : ∀ i, i < gs.size → (Γ i).quit = false → Deaf t i = (Γ i).c.deaf
  above : ∀ j, gs.size ≤ j → Deaf t j = 0
  owO : ∀ i, i < gs.size → (Γ i).quit = false → ∀ a, (Γ i).c.O a → own a = .ow i
  owU : ∀ i, i < gs.size → (Γ i).quit = false → ∀ a, (Γ i).c.U a → own a = .un i
  ti : TI t own (ZF gs.size Γ) (LF gs.size Γ) rels w.heap.size
  base : ∀ a, own a ≠ .free → B ≤ a.block
  bsz : B ≤ w.heap.size
  old : Below B w0 w
end Go.Farm
