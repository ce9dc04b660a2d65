/- What is held of the trace: every touch of a cell is known by its owner; what counts is known by somebody who lives, or lies ahead of a release that is still to be acquired. -/
import Derived.Test.YtidadgibhmiojaaGa
namespace Go.Farm
open Go.Conc
inductive Owner where
  | free
  | ow (i : Nat)
  | un (i : Nat)
  | ro
  | pool (p : Nat)
  | ret (p r : Nat)
  | grp (p : Nat)
  | cnt (p : Nat)
  deriving DecidableEq
/-- the release r was made for p -/
structure TI (t : Trace) (own : Addr → Owner) (Z : Nat → AS) (live : Nat → Prop) (rels : Nat → Nat → Prop) (size : Nat) : Prop where
  race : ∀ said, ¬ Race said t
  ow : ∀ a i, own a = .ow i → ∀ x b, touchAt t x = some b → b.loc = .cell a → Knows t i x
  un : ∀ a, (∃ i, own a = .un i) ∨ (∃ p, own a = .pool p) → ∀ x b, touchAt t x = some b → b.loc ≠ .cell a
  zro : ∀ a i, Z i a → own a = .ro
  ro : ∀ a i, Z i a → ∀ x b, touchAt t x = some b → b.loc = .cell a → b.write = true → Knows t i x
  ret : ∀ a p r, own a = .ret p r → rels p r ∧ ∀ x b, touchAt t x = some b → b.loc = .cell a → Before t x r
  shr : ∀ a p, own a = .grp p ∨ own a = .cnt p → ∀ x b, touchAt t x = some b → b.loc = .cell a → b.kind ≠ .plain ∧ (b.kind = .said → own a = .grp p ∧ Knows t p x)
  over : ∀ x, t.counts x → (∃ i, live i ∧ Knows t i x) ∨ (∃ p r, rels p r ∧ Before t x r)
  norel : ∀ op ∈ t, ∀ a, op.act ≠ .mark (.release a)
  low : ∀ op ∈ t, op.act.low size
  big : ∀ a, own a ≠ .free → a.block < size
theorem touch_low {t : Trace} {size : Nat} (h : ∀ op ∈ t, op.act.low size) {x : Nat} {b : Touch} {a : Addr} (hx : touchAt t x = some b) (hb : b.loc = .cell a) : a.block < size := by
  obtain ⟨op, hop, hb'⟩ := touch_of hx
  have h1 := h op (Array.mem_of_getElem? hop)
  cases hact : op.act with
  | access e =>
    rw [hact] at h1 hb'
    simp only [MemAct.touch?, Option.some.injEq] at hb'
    subst hb'
    simp only at hb
    simp only [MemAct.low, hb, Loc.low] at h1
    exact h1
  | mark m =>
    rw [hact] at h1 hb'
    cases m <;> simp [MemAct.touch?] at hb'
    all_goals
      subst hb'
      simp only at hb
      injection hb with e
      subst e
      exact h1
  | _ => rw [hact] at hb'; simp [MemAct.touch?] at hb'
/-- what goroutine i may touch, so that the owners are own' behind it -/
def Touches (own own' : Addr → Owner) (Z : Nat → AS) (size : Nat) (i : Nat) (b : Touch) : Prop :=
  ∃ a, b.loc = .cell a ∧
    (((own a = .ow i ∨ own a = .un i ∨ size ≤ a.block) ∧ (own' a = .ow i ∨ own' a = .ro ∨ own' a = .free)) ∨
     (own a = .ro ∧ Z i a ∧ b.write = false ∧ own' a = .ro) ∨
     ((∃ p, own a = .grp p ∨ own a = .cnt p) ∧ b.kind = .atomic ∧ own' a = own a) ∨
     (own a = .grp i ∧ b.kind = .said ∧ own' a = own a))
/-- how owners may turn in a step of goroutine i's -/
structure Turns (own own' : Addr → Owner) (Z Z' : Nat → AS) (size size' : Nat) (i : Nat) : Prop where
  sz : size ≤ size'
  ow : ∀ a j, own' a = .ow j → own a = .ow j ∨ (j = i ∧ (own a = .un i ∨ size ≤ a.block))
  un : ∀ a j, own' a = .un j → own a = .un j ∨ (j = i ∧ (size ≤ a.block ∨ ∃ p, own a = .pool p))
  pool : ∀ a p, own' a = .pool p → own a = .pool p ∨ own a = .un i
  ret : ∀ a p r, own' a = .ret p r → own a = .ret p r
  grp : ∀ a p, own' a = .grp p → own a = .grp p ∨ own a = .un i
  cnt : ∀ a p, own' a = .cnt p → own a = .cnt p ∨ own a = .un i
  z : ∀ j a, Z' j a → own' a = .ro ∧ (Z j a ∨ (j = i ∧ (own a = .ow i ∨ own a = .un i ∨ size ≤ a.block)))
  big : ∀ a, own' a ≠ .free → a.block < size'
theorem TI.app {t : Trace} {own own' : Addr → Owner} {Z Z' : Nat → AS} {live : Nat → Prop} {rels : Nat → Nat → Prop} {size size' i : Nat} (h : TI t own Z live rels size)
    (u : Trace) (hu : ∀ op ∈ u, op.g = i) (hT : Turns own own' Z Z' size size' i) (hb : ∀ op ∈ u, ∀ b, op.act.touch? = some b → Touches own own' Z size i b)
    (hlow : ∀ op ∈ u, op.act.low size') (hnr : ∀ op ∈ u, ∀ a, op.act ≠ .mark (.release a))
    (hc : live i ∨ ∀ x, t.size ≤ x → ¬ (t ++ u).counts x) : TI (t ++ u) own' Z' live rels size' := by
  -- a touch of the new part
  have newt : ∀ x b, t.size ≤ x → touchAt (t ++ u) x = some b → (∃ z, (t ++ u)[x]? = some z ∧ z.g = i) ∧ Touches own own' Z size i b := fun x b hx hxb => by
    obtain ⟨op, hop, hob⟩ := touch_of hxb
    rcases getElem?_append_cases hop with ⟨hlt, _⟩ | ⟨_, hm⟩
    · omega
    · exact ⟨⟨op, hop, hu op hm⟩, hb op hm b hob⟩
  have old : ∀ x b, touchAt (t ++ u) x = some b → x < t.size → touchAt t x = some b := fun x b hxb hx => by rwa [touchAt_old hx] at hxb
  have kn : ∀ x b, t.size ≤ x → touchAt (t ++ u) x = some b → Knows (t ++ u) i x := fun x b hx hxb => by
    obtain ⟨⟨z, hz, hzg⟩, -⟩ := newt x b hx hxb
    have := knows_own hz
    rwa [hzg] at this
  have notouch : ∀ a, size ≤ a.block → ∀ x b, touchAt t x = some b → b.loc ≠ .cell a := fun a ha x b hxb hl => by
    have := touch_low h.low hxb hl
    omega
  refine ⟨fun said => noRace_append (h.race said) hu fun x a' ha' op hop b hbt hcf => ?_, fun a j ho x b hxb hl => ?_, fun a ho x b hxb hl => ?_, fun a j hz => (hT.z j a hz).1, fun a j hz x b hxb hl hwr => ?_,
    fun a p r ho => ?_, fun a p ho x b hxb hl => ?_, fun x hx => ?_, fun op hop => ?_, fun op hop => ?_, hT.big⟩
  · obtain ⟨a, hl, hcase⟩ := hb op hop b hbt
    obtain ⟨hloc, -, hwr, hk⟩ := hcf
    have hl' : a'.loc = .cell a := hloc.trans hl
    rcases hcase with ⟨h1 | h1 | h1, -⟩ | ⟨-, h2, h3, -⟩ | ⟨⟨p, h1⟩, h2, -⟩ | ⟨h1, h2, -⟩
    · exact h.ow a i h1 x a' ha' hl'
    · exact absurd hl' (h.un a (.inl ⟨i, h1⟩) x a' ha')
    · exact absurd hl' (notouch a h1 x a' ha')
    · rw [h3] at hwr
      exact h.ro a i h2 x a' ha' hl' (hwr.resolve_right (by simp))
    · have h3 := (h.shr a p h1 x a' ha' hl').1
      rw [h2] at hk
      rcases hk with hk | hk | ⟨_, _, hk⟩
      · exact absurd hk h3
      · cases hk
      · cases hk
    · have h3 := h.shr a i (.inl h1) x a' ha' hl'
      rw [h2] at hk
      rcases hk with hk | hk | ⟨_, hk, _⟩
      · exact absurd hk h3.1
      · cases hk
      · exact (h3.2 hk).2
  · -- ow
    rcases Nat.lt_or_ge x t.size with hx | hx
    · have hxb' := old x b hxb hx
      rcases hT.ow a j ho with h1 | ⟨rfl, h1 | h1⟩
      · exact (h.ow a j h1 x b hxb' hl).app u
      · exact absurd hl (h.un a (.inl ⟨j, h1⟩) x b hxb')
      · exact absurd hl (notouch a h1 x b hxb')
    · obtain ⟨-, a2, hl2, hcase⟩ := newt x b hx hxb
      rw [hl] at hl2
      injection hl2 with e
      subst e
      rcases hcase with ⟨-, h2 | h2 | h2⟩ | ⟨-, -, -, h2⟩ | ⟨⟨p, h1⟩, -, h2⟩ | ⟨h1, -, h2⟩
      · rw [ho] at h2
        injection h2 with e
        subst e
        exact kn x b hx hxb
      · rw [ho] at h2; cases h2
      · rw [ho] at h2; cases h2
      · rw [ho] at h2; cases h2
      · rw [ho] at h2; rcases h1 with h1 | h1 <;> rw [h1] at h2 <;> cases h2
      · rw [ho, h1] at h2; cases h2
  · -- un, pool
    rcases Nat.lt_or_ge x t.size with hx | hx
    · have hxb' := old x b hxb hx
      rcases ho with ⟨j, h1⟩ | ⟨p, h1⟩
      · rcases hT.un a j h1 with h2 | ⟨-, h2 | ⟨p, h2⟩⟩
        · exact h.un a (.inl ⟨j, h2⟩) x b hxb' hl
        · exact notouch a h2 x b hxb' hl
        · exact h.un a (.inr ⟨p, h2⟩) x b hxb' hl
      · rcases hT.pool a p h1 with h2 | h2
        · exact h.un a (.inr ⟨p, h2⟩) x b hxb' hl
        · exact h.un a (.inl ⟨i, h2⟩) x b hxb' hl
    · obtain ⟨-, a2, hl2, hcase⟩ := newt x b hx hxb
      rw [hl] at hl2
      injection hl2 with e
      subst e
      have hne : ∀ o, own' a = o → (∃ j, o = .un j) ∨ ∃ p, o = .pool p := fun o e => by
        rcases ho with ⟨j, h1⟩ | ⟨p, h1⟩
        · exact .inl ⟨j, by rw [← e, h1]⟩
        · exact .inr ⟨p, by rw [← e, h1]⟩
      rcases hcase with ⟨-, h2 | h2 | h2⟩ | ⟨-, -, -, h2⟩ | ⟨⟨p, h1⟩, -, h2⟩ | ⟨h1, -, h2⟩
      · rcases hne _ h2 with ⟨_, e⟩ | ⟨_, e⟩ <;> cases e
      · rcases hne _ h2 with ⟨_, e⟩ | ⟨_, e⟩ <;> cases e
      · rcases hne _ h2 with ⟨_, e⟩ | ⟨_, e⟩ <;> cases e
      · rcases hne _ h2 with ⟨_, e⟩ | ⟨_, e⟩ <;> cases e
      · rcases h1 with h1 | h1 <;> rw [h1] at h2 <;> rcases hne _ h2 with ⟨_, e⟩ | ⟨_, e⟩ <;> cases e
      · rw [h1] at h2; rcases hne _ h2 with ⟨_, e⟩ | ⟨_, e⟩ <;> cases e
  · -- ro
    obtain ⟨ho, hz'⟩ := hT.z j a hz
    rcases Nat.lt_or_ge x t.size with hx | hx
    · have hxb' := old x b hxb hx
      rcases hz' with h1 | ⟨rfl, h1 | h1 | h1⟩
      · exact (h.ro a j h1 x b hxb' hl hwr).app u
      · exact (h.ow a j h1 x b hxb' hl).app u
      · exact absurd hl (h.un a (.inl ⟨j, h1⟩) x b hxb')
      · exact absurd hl (notouch a h1 x b hxb')
    · rcases hz' with h1 | ⟨rfl, -⟩
      · obtain ⟨-, a2, hl2, hcase⟩ := newt x b hx hxb
        rw [hl] at hl2
        injection hl2 with e
        subst e
        have hro := h.zro a j h1
        have hbig := h.big a (by rw [hro]; simp)
        rcases hcase with ⟨h2 | h2 | h2, -⟩ | ⟨-, -, h2, -⟩ | ⟨⟨p, h2 | h2⟩, -, -⟩ | ⟨h2, -, -⟩
        · rw [hro] at h2; cases h2
        · rw [hro] at h2; cases h2
        · omega
        · rw [hwr] at h2; cases h2
        · rw [hro] at h2; cases h2
        · rw [hro] at h2; cases h2
        · rw [hro] at h2; cases h2
      · exact kn x b hx hxb
  · -- ret
    have h1 := hT.ret a p r ho
    obtain ⟨h2, h3⟩ := h.ret a p r h1
    refine ⟨h2, fun x b hxb hl => ?_⟩
    rcases Nat.lt_or_ge x t.size with hx | hx
    · exact (h3 x b (old x b hxb hx) hl).app u
    · obtain ⟨-, a2, hl2, hcase⟩ := newt x b hx hxb
      rw [hl] at hl2
      injection hl2 with e
      subst e
      have hbig := h.big a (by rw [h1]; simp)
      rcases hcase with ⟨h4 | h4 | h4, -⟩ | ⟨h4, -, -, -⟩ | ⟨⟨p, h4 | h4⟩, -, -⟩ | ⟨h4, -, -⟩
      · rw [h1] at h4; cases h4
      · rw [h1] at h4; cases h4
      · omega
      · rw [h1] at h4; cases h4
      · rw [h1] at h4; cases h4
      · rw [h1] at h4; cases h4
      · rw [h1] at h4; cases h4
  · -- grp, cnt
    have hsrc : (own a = .grp p ∧ own' a = .grp p) ∨ (own a = .cnt p ∧ own' a = .cnt p) ∨ own a = .un i := by
      rcases ho with h1 | h1
      · rcases hT.grp a p h1 with h2 | h2
        · exact .inl ⟨h2, h1⟩
        · exact .inr (.inr h2)
      · rcases hT.cnt a p h1 with h2 | h2
        · exact .inr (.inl ⟨h2, h1⟩)
        · exact .inr (.inr h2)
    rcases Nat.lt_or_ge x t.size with hx | hx
    · have hxb' := old x b hxb hx
      rcases hsrc with ⟨h1, h2⟩ | ⟨h1, h2⟩ | h1
      · obtain ⟨k1, k2⟩ := h.shr a p (.inl h1) x b hxb' hl
        exact ⟨k1, fun hs => ⟨h2, ((k2 hs).2).app u⟩⟩
      · obtain ⟨k1, k2⟩ := h.shr a p (.inr h1) x b hxb' hl
        refine ⟨k1, fun hs => ?_⟩
        have := (k2 hs).1
        rw [h1] at this; cases this
      · exact absurd hl (h.un a (.inl ⟨i, h1⟩) x b hxb')
    · obtain ⟨-, a2, hl2, hcase⟩ := newt x b hx hxb
      rw [hl] at hl2
      injection hl2 with e
      subst e
      have hne : ¬ (own' a = .ow i ∨ own' a = .ro ∨ own' a = .free) := by
        rcases ho with h1 | h1 <;> rw [h1] <;> simp
      rcases hcase with ⟨-, h4⟩ | ⟨-, -, -, h4⟩ | ⟨-, h4, -⟩ | ⟨h4, h5, h6⟩
      · exact absurd h4 hne
      · exact absurd (.inr (.inl h4)) hne
      · rw [h4]; exact ⟨by simp, fun e => by cases e⟩
      · rw [h5]
        have h7 : own' a = .grp i := by rw [h6, h4]
        have hip : p = i := by
          rcases ho with h1 | h1
          · rw [h7] at h1; injection h1 with e; exact e.symm
          · rw [h7] at h1; cases h1
        subst hip
        exact ⟨by simp, fun _ => ⟨h7, kn x b hx hxb⟩⟩
  · -- over
    rcases Nat.lt_or_ge x t.size with hlt | hge
    · rcases h.over x ((counts_old hlt).1 hx) with ⟨j, h1, h2⟩ | ⟨p, r, h1, h2⟩
      · exact .inl ⟨j, h1, h2.app u⟩
      · exact .inr ⟨p, r, h1, h2.app u⟩
    · rcases hc with hlv | hn
      · obtain ⟨b, hxb, -⟩ := hx
        exact .inl ⟨i, hlv, kn x b hge hxb⟩
      · exact absurd hx (hn x hge)
  · rcases Array.mem_append.1 hop with h1 | h1
    · exact h.norel op h1
    · exact hnr op h1
  · rcases Array.mem_append.1 hop with h1 | h1
    · exact MemAct.low_mono hT.sz (h.low op h1)
    · exact hlow op h1
end Go.Farm
