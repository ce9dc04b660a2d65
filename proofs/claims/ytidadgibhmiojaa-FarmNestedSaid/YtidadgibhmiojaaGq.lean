/- A stretch of ordinary steps. -/
import Derived.Test.YtidadgibhmiojaaGp
import Derived.Conc.Own
namespace Go.Farm
open Go.Conc Go.RowKit
variable {P : Program} {Post : Value → World → Prop}
/-- what the others may turn of c's own -/
structure Hold (c : Cx) (w w1 : World) : Prop where
  size : w.heap.size ≤ w1.heap.size
  cell : ∀ a, c.O a ∨ c.U a ∨ c.Z a → w1.cell? a = w.cell? a ∧ w1.frozen? a = w.frozen? a
  grow : Grow w w1
theorem Rely.hold {c : Cx} {w w1 : World} (h : Rely c w w1) : Hold c w w1 := ⟨h.size, h.cell, h.grow⟩
theorem Hold.refl (c : Cx) (w : World) : Hold c w w := ⟨Nat.le_refl _, fun _ _ => ⟨rfl, rfl⟩, Grow.refl _⟩
theorem Hold.trans {c : Cx} {a b d : World} (h : Hold c a b) (k : Hold c b d) : Hold c a d :=
  ⟨Nat.le_trans h.size k.size, fun x hx => ⟨(k.cell x hx).1.trans (h.cell x hx).1, (k.cell x hx).2.trans (h.cell x hx).2⟩, h.grow.trans k.grow⟩
/-- an ordinary step that leaves what it has as it is -/
def Own0 (c : Cx) (w w' : World) (es : Array Event) : Prop := Idle c w w' es c
theorem T.of_goes {c : Cx} {b : Bool} {Stop : Goroutine → World → Prop} {m : Nat} (hS : ∀ g' w', Stop g' w' → T P Post m b c g' w') :
    ∀ {n : Nat} {g : Goroutine} {w : World}, Goes P b (Hold c) (Own0 c) Stop n g w → T P Post (m + n) b c g w
  | 0, g, w, h => hS g w (h w (Hold.refl c w))
  | n + 1, g, w, h => by
    rcases h with h | ⟨hs, h⟩
    · exact T.le (by omega) (hS g w (h w (Hold.refl c w)))
    · refine Act.idle hs (fun w1 r => ?_)
      have h1 := h w1 r.hold
      cases e : stepG P b g w1 with
      | go g' w' es =>
        rw [e] at h1
        exact ⟨g', w', es, c, rfl, h1.1, T.of_goes hS h1.2⟩
      | _ => rw [e] at h1; exact h1.elim
/-- a step that lists nothing and turns nothing -/
theorem Own0.none {c : Cx} (hc : ∀ a, c.O a → ¬ c.U a) (hz : ∀ a, c.Z a → ¬ c.O a ∧ ¬ c.U a) {w : World} {es : Array Event} (h : ∀ e ∈ es, EvOk c e) (hd : deafBehind c.lk es = c.lk) : Own0 c w w es :=
  ⟨rfl, rfl, rfl, Nat.le_refl _, fun _ _ _ => rfl, fun _ _ _ => rfl, fun _ _ => rfl, h, fun _ h => h.elim (fun h => .inl h) (fun h => .inr (.inl h)), fun _ h => .inl h, hc, hz, fun _ h => .inl h, rfl, rfl, hd.symm, fun _ _ _ _ _ _ => rfl, fun _ u h => ⟨u, h⟩⟩
/-- what one has is in order -/
structure Cx.Neat (c : Cx) : Prop where
  ou : ∀ a, c.O a → ¬ c.U a
  oz : ∀ a, c.Z a → ¬ c.O a ∧ ¬ c.U a
theorem Hold.rely {c : Cx} {w w1 w2 : World} (h : Hold c w w1) (r : Rely c w1 w2) : Rely c w w2 :=
  ⟨Nat.le_trans h.size r.size, fun x hx => ⟨(r.cell x hx).1.trans (h.cell x hx).1, (r.cell x hx).2.trans (h.cell x hx).2⟩, r.live, h.grow.trans r.grow⟩
variable {R : Bool → Cx → Goroutine → World → Prop} {Q : Goroutine → Prop}
theorem Act.hold {b : Bool} {c : Cx} {g : Goroutine} {w w1 : World} (h : Act P Post R Q b c g w) (r : Hold c w w1) : Act P Post R Q b c g w1 := by
  cases h with
  | idle hs h => exact .idle hs fun w2 r2 => h w2 (r.rely r2)
  | opn hs h => exact .opn hs fun w2 r2 => h w2 (r.rely r2)
  | wgp κ ps sp hp hs h => exact .wgp κ ps sp hp hs fun w2 r2 => h w2 (r.rely r2)
  | acq κ sp hp hs ho hb h => exact .acq κ sp hp hs ho (fun w2 r2 => hb w2 (r.rely r2)) fun w2 r2 => h w2 (r.rely r2)
  | spawn κ sp hp hk hs h => exact .spawn κ sp hp hk hs fun w2 r2 => h w2 (r.rely r2)
  | close κ sp hp hk hs h => exact .close κ sp hp hk hs fun w2 r2 => h w2 (r.rely r2)
  | tick κ lb J hm hp hlb hs h => exact .tick κ lb J hm hp hlb hs fun w2 r2 => h w2 (r.rely r2)
  | rel κ lb J hm hp hl hlb hs h => exact .rel κ lb J hm hp hl hlb hs fun w2 r2 => h w2 (r.rely r2)
  | wgm κ ms lb J hm hw hs h => exact .wgm κ ms lb J hm hw hs fun w2 r2 => h w2 (r.rely r2)
  | ret hp hs h => exact .ret hp hs fun w2 r2 => h w2 (r.rely r2)
theorem T.hold {n : Nat} {b : Bool} {c : Cx} {g : Goroutine} {w w1 : World} (h : T P Post n b c g w) (r : Hold c w w1) : T P Post n b c g w1 := by
  cases n with
  | zero => exact h
  | succ n => exact Act.hold h r
/-- the crews' groups are there -/
def LiveC (c : Cx) (w : World) : Prop := ∀ κ, c.has κ → Live κ w
theorem Live.cell0 {κ : Crew} {w : World} (h : Live κ w) : ∃ v, w.cell? κ.st = some v := let ⟨_, _, x, _⟩ := h; ⟨_, x⟩
theorem Live.cell1 {κ : Crew} {w : World} (h : Live κ w) : ∃ v, w.cell? κ.sm = some v := let ⟨_, _, _, x⟩ := h; ⟨_, x⟩
/-- a stretch that turns nothing, lists nothing; all that it may look at is whether the crews' groups are there -/
theorem T.of_slide {c : Cx} {b : Bool} {D : World → World → Array Event → Prop} {Stop : Goroutine → World → Prop} {m : Nat} (hc : c.Neat) (hD : ∀ w w' es, D w w' es → w' = w ∧ es = #[]) {w0 wv : World} (hv : LiveC c wv)
    (hS : ∀ g' w', Stop g' w' → T P Post m b c g' w0) : ∀ {n : Nat} {g : Goroutine} {w : World}, Goes P b (fun _ w1 => LiveC c w1) D Stop n g w → T P Post (m + n) b c g w0
  | 0, g, w, h => hS g wv (h wv hv)
  | n + 1, g, w, h => by
    rcases h with h | ⟨hs, h⟩
    · exact T.le (by omega) (hS g wv (h wv hv))
    · refine Act.idle hs (fun w1 r => ?_)
      have h1 := h w1 r.live
      cases e : stepG P b g w1 with
      | go g' w' es =>
        rw [e] at h1
        obtain ⟨rfl, rfl⟩ := hD _ _ _ h1.1
        exact ⟨g', w', #[], c, rfl, Own0.none hc.ou hc.oz (by simp) rfl, (T.of_slide hc hD hv hS h1.2).hold r.hold⟩
      | _ => rw [e] at h1; exact h1.elim
end Go.Farm
