/- A worker's task, over each kind: the region is of the shape. -/
import Derived.Test.YtidadgibhmiojaaGx
import Derived.Test.YtidadgibhmiojaaLk
import Derived.Conc.EventLaws2
set_option linter.unusedSimpArgs false
set_option linter.unusedVariables false
namespace Go.Proofs.Ytidadgibhmiojaa
open Go.Conc Go.RowKit Go.Farm
theorem mix : Try.prog.follows .mixedOrders = true := by kernel_rfl
noncomputable def o4Bool : Array Oper := (opsOf 4 (Try.f31.body.getD .skip)).getD #[]
theorem o4Bool_size : o4Bool.size = 7 := by kernel_rfl
theorem o4Bool_0 {o : Oper} (h : o4Bool[0]? = some o) : o.op = .load 35 (.tmp 4) := by
  have e : (o4Bool[0]?).map (·.op) = some (.load 35 (.tmp 4)) := by kernel_rfl
  rw [h] at e
  exact Option.some.inj e
theorem o4Bool_1 {o : Oper} (h : o4Bool[1]? = some o) : o.op = .move (.tmp 5) := by
  have e : (o4Bool[1]?).map (·.op) = some (.move (.tmp 5)) := by kernel_rfl
  rw [h] at e
  exact Option.some.inj e
theorem o4Bool_2 {o : Oper} (h : o4Bool[2]? = some o) : o.op = .load 38 (.tmp 3) := by
  have e : (o4Bool[2]?).map (·.op) = some (.load 38 (.tmp 3)) := by kernel_rfl
  rw [h] at e
  exact Option.some.inj e
theorem o4Bool_3 {o : Oper} (h : o4Bool[3]? = some o) : o.op = .move (.tmp 5) := by
  have e : (o4Bool[3]?).map (·.op) = some (.move (.tmp 5)) := by kernel_rfl
  rw [h] at e
  exact Option.some.inj e
theorem o4Bool_4 {o : Oper} (h : o4Bool[4]? = some o) : o.op = .call { callee := .value (.tmp 17), args := #[.tmp 18], argTypes := #[3] } := by
  have e : (o4Bool[4]?).map (·.op) = some (.call { callee := .value (.tmp 17), args := #[.tmp 18], argTypes := #[3] }) := by kernel_rfl
  rw [h] at e
  exact Option.some.inj e
theorem o4Bool_5 {o : Oper} (h : o4Bool[5]? = some o) : o.op = .indexAddr 35 (.tmp 15) (.tmp 16) := by
  have e : (o4Bool[5]?).map (·.op) = some (.indexAddr 35 (.tmp 15) (.tmp 16)) := by kernel_rfl
  rw [h] at e
  exact Option.some.inj e
theorem o4Bool_6 {o : Oper} (h : o4Bool[6]? = some o) : o.op = .store 4 (.tmp 20) (.tmp 19) := by
  have e : (o4Bool[6]?).map (·.op) = some (.store 4 (.tmp 20) (.tmp 19)) := by kernel_rfl
  rw [h] at e
  exact Option.some.inj e
set_option maxHeartbeats 4000000 in
theorem regionBool : TaskRegion Try.prog o4Bool (fun v => ∃ b, v = .bool b) where
  size := o4Bool_size
  want i o h := by
    have hi := (Array.getElem?_eq_some_iff.1 h).1
    rw [o4Bool_size] at hi
    have e : ∀ i, i < 7 → (o4Bool[i]?).map (·.guard) = some none := by
      intro i hi
      obtain rfl | rfl | rfl | rfl | rfl | rfl | rfl : i = 0 ∨ i = 1 ∨ i = 2 ∨ i = 3 ∨ i = 4 ∨ i = 5 ∨ i = 6 := by omega
      all_goals kernel_rfl
    have e1 := e i hi
    rw [h] at e1
    exact Option.some.inj e1
  dst i o h := by
    have hi := (Array.getElem?_eq_some_iff.1 h).1
    rw [o4Bool_size] at hi
    have e : ∀ i, i < 7 → (o4Bool[i]?).map (·.dst) = some (if i < 6 then some (15 + i) else none) := by
      intro i hi
      obtain rfl | rfl | rfl | rfl | rfl | rfl | rfl : i = 0 ∨ i = 1 ∨ i = 2 ∨ i = 3 ∨ i = 4 ∨ i = 5 ∨ i = 6 := by omega
      all_goals kernel_rfl
    have e1 := e i hi
    rw [h] at e1
    exact Option.some.inj e1
  have7 i h := ⟨o4Bool[i]'(by rw [o4Bool_size]; exact h), Array.getElem?_eq_getElem _⟩
  r0 o a w A R n h ha hc := by
    have hop := o4Bool_0 h
    constructor
    · unfold execOp; simp only [hop, ha]; simp [go_sem, hc]
    · unfold execOp; simp only [hop, ha]; simp [go_sem, hc]
  r1 o a w h := by
    have hop := o4Bool_1 h
    constructor
    · unfold execOp; simp only [hop]; simp [go_sem]
    · unfold execOp; simp only [hop]; simp [go_sem]
  r2 o a w A d caps h ha hc := by
    have hop := o4Bool_2 h
    constructor
    · unfold execOp; simp only [hop, ha]; simp [go_sem, hc]
    · unfold execOp; simp only [hop, ha]; simp [go_sem, hc]
  r3 o a w h := by
    have hop := o4Bool_3 h
    constructor
    · unfold execOp; simp only [hop]; simp [go_sem]
    · unfold execOp; simp only [hop]; simp [go_sem]
  r4 o a w d caps hfn h ha := by
    obtain ⟨fn, c, h1, h2, h3⟩ := hfn
    have hop := o4Bool_4 h
    have h2' : ¬ fn.name = "runtime.NumGoroutine" := by simpa using h2
    constructor
    · unfold execOp; simp [hop, resolve, Deferred.ofValue, invoke, callFunc, h1, h2', h3, ha]
    · unfold execOp; simp [hop, resolve, Deferred.ofValue, invoke, callFunc, h1, h2', h3, ha]
  r5 o a w R n j h ha hb hj := by
    have hop := o4Bool_5 h
    have hlt : (j : Int) < (n : Int) := by omega
    have hj0 : (0 : Int) ≤ (j : Int) := by omega
    constructor
    · unfold execOp; simp only [hop, ha, hb]; simp [go_sem, hlt, hj0]
    · unfold execOp; simp only [hop, ha, hb]; simp [go_sem, hlt, hj0]
  r6 o a w A u h ha hv hc hz := by
    have hop := o4Bool_6 h
    obtain ⟨b, hv⟩ := hv
    constructor
    · unfold execOp; simp only [hop, ha, hv]; simp [go_sem, stored, hc, hz]
    · unfold execOp; simp only [hop, ha, hv]; first | (simp [go_sem, storedEv, hc, hz]; done) | (simp [go_sem]; rw [events_store _ _ _ _ _ _ rfl]; simp [storedEv, hc, hz])
  qa0123 := by kernel_rfl
  qa012 := by kernel_rfl
  qa013 := by kernel_rfl
  qa01 := by kernel_rfl
  qb0123 := by kernel_rfl
  qa023 := by kernel_rfl
  qa02 := by kernel_rfl
  qa03 := by kernel_rfl
  qa0 := by kernel_rfl
  qb023 := by kernel_rfl
  qa123 := by kernel_rfl
  qa12 := by kernel_rfl
  qa13 := by kernel_rfl
  qa1 := by kernel_rfl
  qb123 := by kernel_rfl
  qa23 := by kernel_rfl
  qa2 := by kernel_rfl
  qa3 := by kernel_rfl
  qa := by kernel_rfl
  qb23 := by kernel_rfl
  qb01235 := by kernel_rfl
noncomputable def o4Int : Array Oper := (opsOf 4 (Try.f27.body.getD .skip)).getD #[]
theorem o4Int_size : o4Int.size = 7 := by kernel_rfl
theorem o4Int_0 {o : Oper} (h : o4Int[0]? = some o) : o.op = .load 29 (.tmp 4) := by
  have e : (o4Int[0]?).map (·.op) = some (.load 29 (.tmp 4)) := by kernel_rfl
  rw [h] at e
  exact Option.some.inj e
theorem o4Int_1 {o : Oper} (h : o4Int[1]? = some o) : o.op = .move (.tmp 5) := by
  have e : (o4Int[1]?).map (·.op) = some (.move (.tmp 5)) := by kernel_rfl
  rw [h] at e
  exact Option.some.inj e
theorem o4Int_2 {o : Oper} (h : o4Int[2]? = some o) : o.op = .load 27 (.tmp 3) := by
  have e : (o4Int[2]?).map (·.op) = some (.load 27 (.tmp 3)) := by kernel_rfl
  rw [h] at e
  exact Option.some.inj e
theorem o4Int_3 {o : Oper} (h : o4Int[3]? = some o) : o.op = .move (.tmp 5) := by
  have e : (o4Int[3]?).map (·.op) = some (.move (.tmp 5)) := by kernel_rfl
  rw [h] at e
  exact Option.some.inj e
theorem o4Int_4 {o : Oper} (h : o4Int[4]? = some o) : o.op = .call { callee := .value (.tmp 17), args := #[.tmp 18], argTypes := #[3] } := by
  have e : (o4Int[4]?).map (·.op) = some (.call { callee := .value (.tmp 17), args := #[.tmp 18], argTypes := #[3] }) := by kernel_rfl
  rw [h] at e
  exact Option.some.inj e
theorem o4Int_5 {o : Oper} (h : o4Int[5]? = some o) : o.op = .indexAddr 29 (.tmp 15) (.tmp 16) := by
  have e : (o4Int[5]?).map (·.op) = some (.indexAddr 29 (.tmp 15) (.tmp 16)) := by kernel_rfl
  rw [h] at e
  exact Option.some.inj e
theorem o4Int_6 {o : Oper} (h : o4Int[6]? = some o) : o.op = .store 3 (.tmp 20) (.tmp 19) := by
  have e : (o4Int[6]?).map (·.op) = some (.store 3 (.tmp 20) (.tmp 19)) := by kernel_rfl
  rw [h] at e
  exact Option.some.inj e
set_option maxHeartbeats 4000000 in
theorem regionInt : TaskRegion Try.prog o4Int (fun v => ∃ z, v = .int .i64 z) where
  size := o4Int_size
  want i o h := by
    have hi := (Array.getElem?_eq_some_iff.1 h).1
    rw [o4Int_size] at hi
    have e : ∀ i, i < 7 → (o4Int[i]?).map (·.guard) = some none := by
      intro i hi
      obtain rfl | rfl | rfl | rfl | rfl | rfl | rfl : i = 0 ∨ i = 1 ∨ i = 2 ∨ i = 3 ∨ i = 4 ∨ i = 5 ∨ i = 6 := by omega
      all_goals kernel_rfl
    have e1 := e i hi
    rw [h] at e1
    exact Option.some.inj e1
  dst i o h := by
    have hi := (Array.getElem?_eq_some_iff.1 h).1
    rw [o4Int_size] at hi
    have e : ∀ i, i < 7 → (o4Int[i]?).map (·.dst) = some (if i < 6 then some (15 + i) else none) := by
      intro i hi
      obtain rfl | rfl | rfl | rfl | rfl | rfl | rfl : i = 0 ∨ i = 1 ∨ i = 2 ∨ i = 3 ∨ i = 4 ∨ i = 5 ∨ i = 6 := by omega
      all_goals kernel_rfl
    have e1 := e i hi
    rw [h] at e1
    exact Option.some.inj e1
  have7 i h := ⟨o4Int[i]'(by rw [o4Int_size]; exact h), Array.getElem?_eq_getElem _⟩
  r0 o a w A R n h ha hc := by
    have hop := o4Int_0 h
    constructor
    · unfold execOp; simp only [hop, ha]; simp [go_sem, hc]
    · unfold execOp; simp only [hop, ha]; simp [go_sem, hc]
  r1 o a w h := by
    have hop := o4Int_1 h
    constructor
    · unfold execOp; simp only [hop]; simp [go_sem]
    · unfold execOp; simp only [hop]; simp [go_sem]
  r2 o a w A d caps h ha hc := by
    have hop := o4Int_2 h
    constructor
    · unfold execOp; simp only [hop, ha]; simp [go_sem, hc]
    · unfold execOp; simp only [hop, ha]; simp [go_sem, hc]
  r3 o a w h := by
    have hop := o4Int_3 h
    constructor
    · unfold execOp; simp only [hop]; simp [go_sem]
    · unfold execOp; simp only [hop]; simp [go_sem]
  r4 o a w d caps hfn h ha := by
    obtain ⟨fn, c, h1, h2, h3⟩ := hfn
    have hop := o4Int_4 h
    have h2' : ¬ fn.name = "runtime.NumGoroutine" := by simpa using h2
    constructor
    · unfold execOp; simp [hop, resolve, Deferred.ofValue, invoke, callFunc, h1, h2', h3, ha]
    · unfold execOp; simp [hop, resolve, Deferred.ofValue, invoke, callFunc, h1, h2', h3, ha]
  r5 o a w R n j h ha hb hj := by
    have hop := o4Int_5 h
    have hlt : (j : Int) < (n : Int) := by omega
    have hj0 : (0 : Int) ≤ (j : Int) := by omega
    constructor
    · unfold execOp; simp only [hop, ha, hb]; simp [go_sem, hlt, hj0]
    · unfold execOp; simp only [hop, ha, hb]; simp [go_sem, hlt, hj0]
  r6 o a w A u h ha hv hc hz := by
    have hop := o4Int_6 h
    obtain ⟨b, hv⟩ := hv
    constructor
    · unfold execOp; simp only [hop, ha, hv]; simp [go_sem, stored, hc, hz]
    · unfold execOp; simp only [hop, ha, hv]; first | (simp [go_sem, storedEv, hc, hz]; done) | (simp [go_sem]; rw [events_store _ _ _ _ _ _ rfl]; simp [storedEv, hc, hz])
  qa0123 := by kernel_rfl
  qa012 := by kernel_rfl
  qa013 := by kernel_rfl
  qa01 := by kernel_rfl
  qb0123 := by kernel_rfl
  qa023 := by kernel_rfl
  qa02 := by kernel_rfl
  qa03 := by kernel_rfl
  qa0 := by kernel_rfl
  qb023 := by kernel_rfl
  qa123 := by kernel_rfl
  qa12 := by kernel_rfl
  qa13 := by kernel_rfl
  qa1 := by kernel_rfl
  qb123 := by kernel_rfl
  qa23 := by kernel_rfl
  qa2 := by kernel_rfl
  qa3 := by kernel_rfl
  qa := by kernel_rfl
  qb23 := by kernel_rfl
  qb01235 := by kernel_rfl
noncomputable def o4Ints : Array Oper := (opsOf 4 (Try.f32.body.getD .skip)).getD #[]
theorem o4Ints_size : o4Ints.size = 7 := by kernel_rfl
theorem o4Ints_0 {o : Oper} (h : o4Ints[0]? = some o) : o.op = .load 40 (.tmp 4) := by
  have e : (o4Ints[0]?).map (·.op) = some (.load 40 (.tmp 4)) := by kernel_rfl
  rw [h] at e
  exact Option.some.inj e
theorem o4Ints_1 {o : Oper} (h : o4Ints[1]? = some o) : o.op = .move (.tmp 5) := by
  have e : (o4Ints[1]?).map (·.op) = some (.move (.tmp 5)) := by kernel_rfl
  rw [h] at e
  exact Option.some.inj e
theorem o4Ints_2 {o : Oper} (h : o4Ints[2]? = some o) : o.op = .load 43 (.tmp 3) := by
  have e : (o4Ints[2]?).map (·.op) = some (.load 43 (.tmp 3)) := by kernel_rfl
  rw [h] at e
  exact Option.some.inj e
theorem o4Ints_3 {o : Oper} (h : o4Ints[3]? = some o) : o.op = .move (.tmp 5) := by
  have e : (o4Ints[3]?).map (·.op) = some (.move (.tmp 5)) := by kernel_rfl
  rw [h] at e
  exact Option.some.inj e
theorem o4Ints_4 {o : Oper} (h : o4Ints[4]? = some o) : o.op = .call { callee := .value (.tmp 17), args := #[.tmp 18], argTypes := #[3] } := by
  have e : (o4Ints[4]?).map (·.op) = some (.call { callee := .value (.tmp 17), args := #[.tmp 18], argTypes := #[3] }) := by kernel_rfl
  rw [h] at e
  exact Option.some.inj e
theorem o4Ints_5 {o : Oper} (h : o4Ints[5]? = some o) : o.op = .indexAddr 40 (.tmp 15) (.tmp 16) := by
  have e : (o4Ints[5]?).map (·.op) = some (.indexAddr 40 (.tmp 15) (.tmp 16)) := by kernel_rfl
  rw [h] at e
  exact Option.some.inj e
theorem o4Ints_6 {o : Oper} (h : o4Ints[6]? = some o) : o.op = .store 29 (.tmp 20) (.tmp 19) := by
  have e : (o4Ints[6]?).map (·.op) = some (.store 29 (.tmp 20) (.tmp 19)) := by kernel_rfl
  rw [h] at e
  exact Option.some.inj e
set_option maxHeartbeats 4000000 in
theorem regionInts : TaskRegion Try.prog o4Ints (fun v => ∃ a l m, v = .slice a l m) where
  size := o4Ints_size
  want i o h := by
    have hi := (Array.getElem?_eq_some_iff.1 h).1
    rw [o4Ints_size] at hi
    have e : ∀ i, i < 7 → (o4Ints[i]?).map (·.guard) = some none := by
      intro i hi
      obtain rfl | rfl | rfl | rfl | rfl | rfl | rfl : i = 0 ∨ i = 1 ∨ i = 2 ∨ i = 3 ∨ i = 4 ∨ i = 5 ∨ i = 6 := by omega
      all_goals kernel_rfl
    have e1 := e i hi
    rw [h] at e1
    exact Option.some.inj e1
  dst i o h := by
    have hi := (Array.getElem?_eq_some_iff.1 h).1
    rw [o4Ints_size] at hi
    have e : ∀ i, i < 7 → (o4Ints[i]?).map (·.dst) = some (if i < 6 then some (15 + i) else none) := by
      intro i hi
      obtain rfl | rfl | rfl | rfl | rfl | rfl | rfl : i = 0 ∨ i = 1 ∨ i = 2 ∨ i = 3 ∨ i = 4 ∨ i = 5 ∨ i = 6 := by omega
      all_goals kernel_rfl
    have e1 := e i hi
    rw [h] at e1
    exact Option.some.inj e1
  have7 i h := ⟨o4Ints[i]'(by rw [o4Ints_size]; exact h), Array.getElem?_eq_getElem _⟩
  r0 o a w A R n h ha hc := by
    have hop := o4Ints_0 h
    constructor
    · unfold execOp; simp only [hop, ha]; simp [go_sem, hc]
    · unfold execOp; simp only [hop, ha]; simp [go_sem, hc]
  r1 o a w h := by
    have hop := o4Ints_1 h
    constructor
    · unfold execOp; simp only [hop]; simp [go_sem]
    · unfold execOp; simp only [hop]; simp [go_sem]
  r2 o a w A d caps h ha hc := by
    have hop := o4Ints_2 h
    constructor
    · unfold execOp; simp only [hop, ha]; simp [go_sem, hc]
    · unfold execOp; simp only [hop, ha]; simp [go_sem, hc]
  r3 o a w h := by
    have hop := o4Ints_3 h
    constructor
    · unfold execOp; simp only [hop]; simp [go_sem]
    · unfold execOp; simp only [hop]; simp [go_sem]
  r4 o a w d caps hfn h ha := by
    obtain ⟨fn, c, h1, h2, h3⟩ := hfn
    have hop := o4Ints_4 h
    have h2' : ¬ fn.name = "runtime.NumGoroutine" := by simpa using h2
    constructor
    · unfold execOp; simp [hop, resolve, Deferred.ofValue, invoke, callFunc, h1, h2', h3, ha]
    · unfold execOp; simp [hop, resolve, Deferred.ofValue, invoke, callFunc, h1, h2', h3, ha]
  r5 o a w R n j h ha hb hj := by
    have hop := o4Ints_5 h
    have hlt : (j : Int) < (n : Int) := by omega
    have hj0 : (0 : Int) ≤ (j : Int) := by omega
    constructor
    · unfold execOp; simp only [hop, ha, hb]; simp [go_sem, hlt, hj0]
    · unfold execOp; simp only [hop, ha, hb]; simp [go_sem, hlt, hj0]
  r6 o a w A u h ha hv hc hz := by
    have hop := o4Ints_6 h
    obtain ⟨x, l, m, hv⟩ := hv
    constructor
    · unfold execOp; simp only [hop, ha, hv]; simp [go_sem, stored, hc, hz]
    · unfold execOp; simp only [hop, ha, hv]; first | (simp [go_sem, storedEv, hc, hz]; done) | (simp [go_sem]; rw [events_store _ _ _ _ _ _ rfl]; simp [storedEv, hc, hz])
  qa0123 := by kernel_rfl
  qa012 := by kernel_rfl
  qa013 := by kernel_rfl
  qa01 := by kernel_rfl
  qb0123 := by kernel_rfl
  qa023 := by kernel_rfl
  qa02 := by kernel_rfl
  qa03 := by kernel_rfl
  qa0 := by kernel_rfl
  qb023 := by kernel_rfl
  qa123 := by kernel_rfl
  qa12 := by kernel_rfl
  qa13 := by kernel_rfl
  qa1 := by kernel_rfl
  qb123 := by kernel_rfl
  qa23 := by kernel_rfl
  qa2 := by kernel_rfl
  qa3 := by kernel_rfl
  qa := by kernel_rfl
  qb23 := by kernel_rfl
  qb01235 := by kernel_rfl
end Go.Proofs.Ytidadgibhmiojaa
