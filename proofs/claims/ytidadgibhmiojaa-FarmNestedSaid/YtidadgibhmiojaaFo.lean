/- FarmNested: the walk. -/
import Derived.Test.YtidadgibhmiojaaFn
import Derived.Test.YtidadgibhmiojaaFl
set_option linter.unusedSimpArgs false
set_option linter.unusedVariables false
namespace Go.Proofs.Ytidadgibhmiojaa
open Go.Conc Go.RowKit Go.Conc.Lib Go.ConcR.Gen Go.ConcN.Gen Go.Farm
open Go.ConcR (DC0)
abbrev zA (Nb Nm : Nat) : AS := fun a => a.block = Nb ∨ a.block = Nm
noncomputable def o11 : Array Oper := (opsOf 11 (Try.f5.body.getD .skip)).getD #[]
theorem o11_size : o11.size = 7 := by kernel_rfl
theorem o11_0 {o : Oper} (h : o11[0]? = some o) : o.op = .move (.tmp 9) ∧ o.dst = some 65 ∧ o.guard = none := by
  have e1 : (o11[0]?).map (·.op) = some (.move (.tmp 9)) := by kernel_rfl
  have e2 : (o11[0]?).map (·.dst) = some (some 65) := by kernel_rfl
  have e3 : (o11[0]?).map (·.guard) = some none := by kernel_rfl
  rw [h] at e1 e2 e3
  exact ⟨Option.some.inj e1, Option.some.inj e2, Option.some.inj e3⟩
theorem o11_1 {o : Oper} (h : o11[1]? = some o) : o.op = .move (.tmp 11) ∧ o.dst = some 66 ∧ o.guard = none := by
  have e1 : (o11[1]?).map (·.op) = some (.move (.tmp 11)) := by kernel_rfl
  have e2 : (o11[1]?).map (·.dst) = some (some 66) := by kernel_rfl
  have e3 : (o11[1]?).map (·.guard) = some none := by kernel_rfl
  rw [h] at e1 e2 e3
  exact ⟨Option.some.inj e1, Option.some.inj e2, Option.some.inj e3⟩
theorem o11_2 {o : Oper} (h : o11[2]? = some o) : o.op = .indexAddr 40 (.tmp 65) (.tmp 66) ∧ o.dst = some 67 ∧ o.guard = none := by
  have e1 : (o11[2]?).map (·.op) = some (.indexAddr 40 (.tmp 65) (.tmp 66)) := by kernel_rfl
  have e2 : (o11[2]?).map (·.dst) = some (some 67) := by kernel_rfl
  have e3 : (o11[2]?).map (·.guard) = some none := by kernel_rfl
  rw [h] at e1 e2 e3
  exact ⟨Option.some.inj e1, Option.some.inj e2, Option.some.inj e3⟩
theorem o11_3 {o : Oper} (h : o11[3]? = some o) : o.op = .load 29 (.tmp 67) ∧ o.dst = some 68 ∧ o.guard = none := by
  have e1 : (o11[3]?).map (·.op) = some (.load 29 (.tmp 67)) := by kernel_rfl
  have e2 : (o11[3]?).map (·.dst) = some (some 68) := by kernel_rfl
  have e3 : (o11[3]?).map (·.guard) = some none := by kernel_rfl
  rw [h] at e1 e2 e3
  exact ⟨Option.some.inj e1, Option.some.inj e2, Option.some.inj e3⟩
theorem o11_4 {o : Oper} (h : o11[4]? = some o) : o.op = .call { callee := .builtin .len, args := #[.tmp 68], argTypes := #[29] } ∧ o.dst = some 69 ∧ o.guard = none := by
  have e1 : (o11[4]?).map (·.op) = some (.call { callee := .builtin .len, args := #[.tmp 68], argTypes := #[29] }) := by kernel_rfl
  have e2 : (o11[4]?).map (·.dst) = some (some 69) := by kernel_rfl
  have e3 : (o11[4]?).map (·.guard) = some none := by kernel_rfl
  rw [h] at e1 e2 e3
  exact ⟨Option.some.inj e1, Option.some.inj e2, Option.some.inj e3⟩
theorem o11_5 {o : Oper} (h : o11[5]? = some o) : o.op = .load 3 (.tmp 7) ∧ o.dst = some 70 ∧ o.guard = none := by
  have e1 : (o11[5]?).map (·.op) = some (.load 3 (.tmp 7)) := by kernel_rfl
  have e2 : (o11[5]?).map (·.dst) = some (some 70) := by kernel_rfl
  have e3 : (o11[5]?).map (·.guard) = some none := by kernel_rfl
  rw [h] at e1 e2 e3
  exact ⟨Option.some.inj e1, Option.some.inj e2, Option.some.inj e3⟩
theorem o11_6 {o : Oper} (h : o11[6]? = some o) : o.op = .binOp .neq 3 (.tmp 69) (.tmp 70) 3 ∧ o.dst = some 71 ∧ o.guard = none := by
  have e1 : (o11[6]?).map (·.op) = some (.binOp .neq 3 (.tmp 69) (.tmp 70) 3) := by kernel_rfl
  have e2 : (o11[6]?).map (·.dst) = some (some 71) := by kernel_rfl
  have e3 : (o11[6]?).map (·.guard) = some none := by kernel_rfl
  rw [h] at e1 e2 e3
  exact ⟨Option.some.inj e1, Option.some.inj e2, Option.some.inj e3⟩
set_option maxRecDepth 100000 in
set_option maxHeartbeats 16000000 in
theorem len_region {a b n m Nb Nm R : Nat} {R' i F : Nat} {X : AS} {w : World} (hn : Cx.Neat (⟨X, none3, zA Nb Nm, none, none, 0⟩ : Cx)) (hi : i < n) (hX : X ⟨R, i, none⟩) (hc : w.cell? ⟨R, i, none⟩ = some (.slice (some ⟨R', 0, none⟩) m m)) (hm : w.cell? ⟨Nm, 0, none⟩ = some (.int .i64 (m : Int)))
    {kk : List Item} {y4 y6 y12 y13 y14 y15 y16 y17 y18 y19 y20 y21 y22 y23 y24 y25 y26 y27 y28 y29 y30 y31 y32 y33 y34 y35 y36 y37 y38 y39 y40 y41 y42 y43 y44 y45 y46 y47 y48 y49 y50 y51 y52 y53 y54 y55 y56 y57 y58 y59 y60 y61 y62 y63 y64 y65 y66 y67 y68 y69 y70 y71 y72 y73 y74 y75 y76 y77 y78 y79 y80 y81 y82 y83 y84 y85 y86 y87 y88 : Value} (hT : T Try.prog PT F true (⟨X, none3, zA Nb Nm, none, none, 0⟩ : Cx) (G ((base 5).at ⟨#[.int .i64 (a : Int), .int .i64 (b : Int), .int .i64 (n : Int), .int .i64 (m : Int), y4, .pointer (some ⟨Nb, 0, none⟩), y6, .pointer (some ⟨Nm, 0, none⟩), .bool false, .slice (some ⟨R, 0, none⟩) n n, .int .i64 0, .int .i64 (i : Int), y12, y13, y14, y15, y16, y17, y18, y19, y20, y21, y22, y23, y24, y25, y26, y27, y28, y29, y30, y31, y32, y33, y34, y35, y36, y37, y38, y39, y40, y41, y42, y43, y44, y45, y46, y47, y48, y49, y50, y51, y52, y53, y54, y55, y56, y57, y58, y59, y60, y61, y62, y63, y64, .slice (some ⟨R, 0, none⟩) n n, .int .i64 (i : Int), .pointer (some ⟨R, i, none⟩), (.slice (some ⟨R', 0, none⟩) m m), .int .i64 (m : Int), .int .i64 (m : Int), .bool false, y72, y73, y74, y75, y76, y77, y78, y79, y80, y81, y82, y83, y84, y85, y86, y87, y88], []⟩ (.inRegion o11 [] :: kk)) []) w) :
    T Try.prog PT (F + 8) true (⟨X, none3, zA Nb Nm, none, none, 0⟩ : Cx) (G ((base 5).at ⟨#[.int .i64 (a : Int), .int .i64 (b : Int), .int .i64 (n : Int), .int .i64 (m : Int), y4, .pointer (some ⟨Nb, 0, none⟩), y6, .pointer (some ⟨Nm, 0, none⟩), .bool false, .slice (some ⟨R, 0, none⟩) n n, .int .i64 0, .int .i64 (i : Int), y12, y13, y14, y15, y16, y17, y18, y19, y20, y21, y22, y23, y24, y25, y26, y27, y28, y29, y30, y31, y32, y33, y34, y35, y36, y37, y38, y39, y40, y41, y42, y43, y44, y45, y46, y47, y48, y49, y50, y51, y52, y53, y54, y55, y56, y57, y58, y59, y60, y61, y62, y63, y64, y65, y66, y67, y68, y69, y70, y71, y72, y73, y74, y75, y76, y77, y78, y79, y80, y81, y82, y83, y84, y85, y86, y87, y88], []⟩ (.code (.region 11 o11 true) :: kk)) []) w := by
  have hw : ∀ (o : Oper) y, o.guard = none → Region.wanted o y = true := fun o y h => by unfold Region.wanted; rw [h]
  have hlt : (i : Int) < (n : Int) := by omega
  have hi0 : (0 : Int) ≤ (i : Int) := by omega
  have hz : zA Nb Nm ⟨Nm, 0, none⟩ := .inr rfl
  obtain ⟨o0, h0⟩ : ∃ o, o11[0]? = some o := ⟨o11[0]'(by rw [o11_size]; omega), Array.getElem?_eq_getElem _⟩
  obtain ⟨p0, d0, g0⟩ := o11_0 h0
  obtain ⟨o1, h1⟩ : ∃ o, o11[1]? = some o := ⟨o11[1]'(by rw [o11_size]; omega), Array.getElem?_eq_getElem _⟩
  obtain ⟨p1, d1, g1⟩ := o11_1 h1
  obtain ⟨o2, h2⟩ : ∃ o, o11[2]? = some o := ⟨o11[2]'(by rw [o11_size]; omega), Array.getElem?_eq_getElem _⟩
  obtain ⟨p2, d2, g2⟩ := o11_2 h2
  obtain ⟨o3, h3⟩ : ∃ o, o11[3]? = some o := ⟨o11[3]'(by rw [o11_size]; omega), Array.getElem?_eq_getElem _⟩
  obtain ⟨p3, d3, g3⟩ := o11_3 h3
  obtain ⟨o4, h4⟩ : ∃ o, o11[4]? = some o := ⟨o11[4]'(by rw [o11_size]; omega), Array.getElem?_eq_getElem _⟩
  obtain ⟨p4, d4, g4⟩ := o11_4 h4
  obtain ⟨o5, h5⟩ : ∃ o, o11[5]? = some o := ⟨o11[5]'(by rw [o11_size]; omega), Array.getElem?_eq_getElem _⟩
  obtain ⟨p5, d5, g5⟩ := o11_5 h5
  obtain ⟨o6, h6⟩ : ∃ o, o11[6]? = some o := ⟨o11[6]'(by rw [o11_size]; omega), Array.getElem?_eq_getElem _⟩
  obtain ⟨p6, d6, g6⟩ := o11_6 h6
  have s0123456 : ∀ t, T Try.prog PT (F + 0) true (⟨X, none3, zA Nb Nm, none, none, 0⟩ : Cx) (G ((base 5).at ⟨#[.int .i64 (a : Int), .int .i64 (b : Int), .int .i64 (n : Int), .int .i64 (m : Int), y4, .pointer (some ⟨Nb, 0, none⟩), y6, .pointer (some ⟨Nm, 0, none⟩), .bool false, .slice (some ⟨R, 0, none⟩) n n, .int .i64 0, .int .i64 (i : Int), y12, y13, y14, y15, y16, y17, y18, y19, y20, y21, y22, y23, y24, y25, y26, y27, y28, y29, y30, y31, y32, y33, y34, y35, y36, y37, y38, y39, y40, y41, y42, y43, y44, y45, y46, y47, y48, y49, y50, y51, y52, y53, y54, y55, y56, y57, y58, y59, y60, y61, y62, y63, y64, .slice (some ⟨R, 0, none⟩) n n, .int .i64 (i : Int), .pointer (some ⟨R, i, none⟩), (.slice (some ⟨R', 0, none⟩) m m), .int .i64 (m : Int), .int .i64 (m : Int), .bool false, y72, y73, y74, y75, y76, y77, y78, y79, y80, y81, y82, y83, y84, y85, y86, y87, y88], []⟩ (.inRegion o11 (Region.linearise.go .any o11 0 t #[true, true, true, true, true, true, true] []) :: kk)) []) w := by
    intro t
    rw [ord_done]
    exact hT
  have s012345 : ∀ t, T Try.prog PT (F + 1) true (⟨X, none3, zA Nb Nm, none, none, 0⟩ : Cx) (G ((base 5).at ⟨#[.int .i64 (a : Int), .int .i64 (b : Int), .int .i64 (n : Int), .int .i64 (m : Int), y4, .pointer (some ⟨Nb, 0, none⟩), y6, .pointer (some ⟨Nm, 0, none⟩), .bool false, .slice (some ⟨R, 0, none⟩) n n, .int .i64 0, .int .i64 (i : Int), y12, y13, y14, y15, y16, y17, y18, y19, y20, y21, y22, y23, y24, y25, y26, y27, y28, y29, y30, y31, y32, y33, y34, y35, y36, y37, y38, y39, y40, y41, y42, y43, y44, y45, y46, y47, y48, y49, y50, y51, y52, y53, y54, y55, y56, y57, y58, y59, y60, y61, y62, y63, y64, .slice (some ⟨R, 0, none⟩) n n, .int .i64 (i : Int), .pointer (some ⟨R, i, none⟩), (.slice (some ⟨R', 0, none⟩) m m), .int .i64 (m : Int), .int .i64 (m : Int), y71, y72, y73, y74, y75, y76, y77, y78, y79, y80, y81, y82, y83, y84, y85, y86, y87, y88], []⟩ (.inRegion o11 (Region.linearise.go .any o11 1 t #[true, true, true, true, true, true, false] []) :: kk)) []) w := by
    intro t
    refine T.any [6] (by kernel_rfl) (by simp) (fun j hj t => ?_) t
    simp only [List.mem_cons, List.not_mem_nil, or_false] at hj
    subst hj
    have nx := s0123456 t
    refine T.val hn (.bool false) h6 (hw _ _ g6) (by k_ne) (fun w1 _ => ⟨by unfold execOp; simp only [p6]; simp [go_sem, hlt, hi0], fun e he => by unfold execOp at he; simp only [p6] at he; simp [go_sem, hlt, hi0] at he⟩) ?_
    rw [d6]
    walk_nrm
    exact nx
  have s01234 : ∀ t, T Try.prog PT (F + 2) true (⟨X, none3, zA Nb Nm, none, none, 0⟩ : Cx) (G ((base 5).at ⟨#[.int .i64 (a : Int), .int .i64 (b : Int), .int .i64 (n : Int), .int .i64 (m : Int), y4, .pointer (some ⟨Nb, 0, none⟩), y6, .pointer (some ⟨Nm, 0, none⟩), .bool false, .slice (some ⟨R, 0, none⟩) n n, .int .i64 0, .int .i64 (i : Int), y12, y13, y14, y15, y16, y17, y18, y19, y20, y21, y22, y23, y24, y25, y26, y27, y28, y29, y30, y31, y32, y33, y34, y35, y36, y37, y38, y39, y40, y41, y42, y43, y44, y45, y46, y47, y48, y49, y50, y51, y52, y53, y54, y55, y56, y57, y58, y59, y60, y61, y62, y63, y64, .slice (some ⟨R, 0, none⟩) n n, .int .i64 (i : Int), .pointer (some ⟨R, i, none⟩), (.slice (some ⟨R', 0, none⟩) m m), .int .i64 (m : Int), y70, y71, y72, y73, y74, y75, y76, y77, y78, y79, y80, y81, y82, y83, y84, y85, y86, y87, y88], []⟩ (.inRegion o11 (Region.linearise.go .any o11 2 t #[true, true, true, true, true, false, false] []) :: kk)) []) w := by
    intro t
    refine T.any [5] (by kernel_rfl) (by simp) (fun j hj t => ?_) t
    simp only [List.mem_cons, List.not_mem_nil, or_false] at hj
    subst hj
    have nx := s012345 t
    refine T.val hn (.int .i64 (m : Int)) h5 (hw _ _ g5) (by k_ne) (fun w1 hF => ⟨by have fc := (hF.cell _ (.inr (.inr hz))).1.trans hm; unfold execOp; simp only [p5]; simp [go_sem, fc], fun e he => by have fc := (hF.cell _ (.inr (.inr hz))).1.trans hm; unfold execOp at he; simp only [p5] at he; simp [go_sem, fc] at he; exact ⟨_, _, he, .inr hz⟩⟩) ?_
    rw [d5]
    walk_nrm
    exact nx
  have s01235 : ∀ t, T Try.prog PT (F + 2) true (⟨X, none3, zA Nb Nm, none, none, 0⟩ : Cx) (G ((base 5).at ⟨#[.int .i64 (a : Int), .int .i64 (b : Int), .int .i64 (n : Int), .int .i64 (m : Int), y4, .pointer (some ⟨Nb, 0, none⟩), y6, .pointer (some ⟨Nm, 0, none⟩), .bool false, .slice (some ⟨R, 0, none⟩) n n, .int .i64 0, .int .i64 (i : Int), y12, y13, y14, y15, y16, y17, y18, y19, y20, y21, y22, y23, y24, y25, y26, y27, y28, y29, y30, y31, y32, y33, y34, y35, y36, y37, y38, y39, y40, y41, y42, y43, y44, y45, y46, y47, y48, y49, y50, y51, y52, y53, y54, y55, y56, y57, y58, y59, y60, y61, y62, y63, y64, .slice (some ⟨R, 0, none⟩) n n, .int .i64 (i : Int), .pointer (some ⟨R, i, none⟩), (.slice (some ⟨R', 0, none⟩) m m), y69, .int .i64 (m : Int), y71, y72, y73, y74, y75, y76, y77, y78, y79, y80, y81, y82, y83, y84, y85, y86, y87, y88], []⟩ (.inRegion o11 (Region.linearise.go .any o11 2 t #[true, true, true, true, false, true, false] []) :: kk)) []) w := by
    intro t
    refine T.any [4] (by kernel_rfl) (by simp) (fun j hj t => ?_) t
    simp only [List.mem_cons, List.not_mem_nil, or_false] at hj
    subst hj
    have nx := s012345 t
    refine T.val hn (.int .i64 (m : Int)) h4 (hw _ _ g4) (by k_ne) (fun w1 _ => ⟨by unfold execOp; simp only [p4]; simp [go_sem, hlt, hi0], fun e he => by unfold execOp at he; simp only [p4] at he; simp [go_sem, hlt, hi0] at he⟩) ?_
    rw [d4]
    walk_nrm
    exact nx
  have s0123 : ∀ t, T Try.prog PT (F + 3) true (⟨X, none3, zA Nb Nm, none, none, 0⟩ : Cx) (G ((base 5).at ⟨#[.int .i64 (a : Int), .int .i64 (b : Int), .int .i64 (n : Int), .int .i64 (m : Int), y4, .pointer (some ⟨Nb, 0, none⟩), y6, .pointer (some ⟨Nm, 0, none⟩), .bool false, .slice (some ⟨R, 0, none⟩) n n, .int .i64 0, .int .i64 (i : Int), y12, y13, y14, y15, y16, y17, y18, y19, y20, y21, y22, y23, y24, y25, y26, y27, y28, y29, y30, y31, y32, y33, y34, y35, y36, y37, y38, y39, y40, y41, y42, y43, y44, y45, y46, y47, y48, y49, y50, y51, y52, y53, y54, y55, y56, y57, y58, y59, y60, y61, y62, y63, y64, .slice (some ⟨R, 0, none⟩) n n, .int .i64 (i : Int), .pointer (some ⟨R, i, none⟩), (.slice (some ⟨R', 0, none⟩) m m), y69, y70, y71, y72, y73, y74, y75, y76, y77, y78, y79, y80, y81, y82, y83, y84, y85, y86, y87, y88], []⟩ (.inRegion o11 (Region.linearise.go .any o11 3 t #[true, true, true, true, false, false, false] []) :: kk)) []) w := by
    intro t
    refine T.any [4, 5] (by kernel_rfl) (by simp) (fun j hj t => ?_) t
    simp only [List.mem_cons, List.not_mem_nil, or_false] at hj
    rcases hj with rfl | rfl
    · have nx := s01234 t
      refine T.val hn (.int .i64 (m : Int)) h4 (hw _ _ g4) (by k_ne) (fun w1 _ => ⟨by unfold execOp; simp only [p4]; simp [go_sem, hlt, hi0], fun e he => by unfold execOp at he; simp only [p4] at he; simp [go_sem, hlt, hi0] at he⟩) ?_
      rw [d4]
      walk_nrm
      exact nx
    · have nx := s01235 t
      refine T.val hn (.int .i64 (m : Int)) h5 (hw _ _ g5) (by k_ne) (fun w1 hF => ⟨by have fc := (hF.cell _ (.inr (.inr hz))).1.trans hm; unfold execOp; simp only [p5]; simp [go_sem, fc], fun e he => by have fc := (hF.cell _ (.inr (.inr hz))).1.trans hm; unfold execOp at he; simp only [p5] at he; simp [go_sem, fc] at he; exact ⟨_, _, he, .inr hz⟩⟩) ?_
      rw [d5]
      walk_nrm
      exact nx
  have s0125 : ∀ t, T Try.prog PT (F + 3) true (⟨X, none3, zA Nb Nm, none, none, 0⟩ : Cx) (G ((base 5).at ⟨#[.int .i64 (a : Int), .int .i64 (b : Int), .int .i64 (n : Int), .int .i64 (m : Int), y4, .pointer (some ⟨Nb, 0, none⟩), y6, .pointer (some ⟨Nm, 0, none⟩), .bool false, .slice (some ⟨R, 0, none⟩) n n, .int .i64 0, .int .i64 (i : Int), y12, y13, y14, y15, y16, y17, y18, y19, y20, y21, y22, y23, y24, y25, y26, y27, y28, y29, y30, y31, y32, y33, y34, y35, y36, y37, y38, y39, y40, y41, y42, y43, y44, y45, y46, y47, y48, y49, y50, y51, y52, y53, y54, y55, y56, y57, y58, y59, y60, y61, y62, y63, y64, .slice (some ⟨R, 0, none⟩) n n, .int .i64 (i : Int), .pointer (some ⟨R, i, none⟩), y68, y69, .int .i64 (m : Int), y71, y72, y73, y74, y75, y76, y77, y78, y79, y80, y81, y82, y83, y84, y85, y86, y87, y88], []⟩ (.inRegion o11 (Region.linearise.go .any o11 3 t #[true, true, true, false, false, true, false] []) :: kk)) []) w := by
    intro t
    refine T.any [3] (by kernel_rfl) (by simp) (fun j hj t => ?_) t
    simp only [List.mem_cons, List.not_mem_nil, or_false] at hj
    subst hj
    have nx := s01235 t
    refine T.val hn ((.slice (some ⟨R', 0, none⟩) m m)) h3 (hw _ _ g3) (by k_ne) (fun w1 hF => ⟨by have fc := (hF.cell _ (.inl hX)).1.trans hc; unfold execOp; simp only [p3]; simp [go_sem, fc], fun e he => by have fc := (hF.cell _ (.inl hX)).1.trans hc; unfold execOp at he; simp only [p3] at he; simp [go_sem, fc] at he; exact ⟨_, _, he, .inl hX⟩⟩) ?_
    rw [d3]
    walk_nrm
    exact nx
  have s012 : ∀ t, T Try.prog PT (F + 4) true (⟨X, none3, zA Nb Nm, none, none, 0⟩ : Cx) (G ((base 5).at ⟨#[.int .i64 (a : Int), .int .i64 (b : Int), .int .i64 (n : Int), .int .i64 (m : Int), y4, .pointer (some ⟨Nb, 0, none⟩), y6, .pointer (some ⟨Nm, 0, none⟩), .bool false, .slice (some ⟨R, 0, none⟩) n n, .int .i64 0, .int .i64 (i : Int), y12, y13, y14, y15, y16, y17, y18, y19, y20, y21, y22, y23, y24, y25, y26, y27, y28, y29, y30, y31, y32, y33, y34, y35, y36, y37, y38, y39, y40, y41, y42, y43, y44, y45, y46, y47, y48, y49, y50, y51, y52, y53, y54, y55, y56, y57, y58, y59, y60, y61, y62, y63, y64, .slice (some ⟨R, 0, none⟩) n n, .int .i64 (i : Int), .pointer (some ⟨R, i, none⟩), y68, y69, y70, y71, y72, y73, y74, y75, y76, y77, y78, y79, y80, y81, y82, y83, y84, y85, y86, y87, y88], []⟩ (.inRegion o11 (Region.linearise.go .any o11 4 t #[true, true, true, false, false, false, false] []) :: kk)) []) w := by
    intro t
    refine T.any [3, 5] (by kernel_rfl) (by simp) (fun j hj t => ?_) t
    simp only [List.mem_cons, List.not_mem_nil, or_false] at hj
    rcases hj with rfl | rfl
    · have nx := s0123 t
      refine T.val hn ((.slice (some ⟨R', 0, none⟩) m m)) h3 (hw _ _ g3) (by k_ne) (fun w1 hF => ⟨by have fc := (hF.cell _ (.inl hX)).1.trans hc; unfold execOp; simp only [p3]; simp [go_sem, fc], fun e he => by have fc := (hF.cell _ (.inl hX)).1.trans hc; unfold execOp at he; simp only [p3] at he; simp [go_sem, fc] at he; exact ⟨_, _, he, .inl hX⟩⟩) ?_
      rw [d3]
      walk_nrm
      exact nx
    · have nx := s0125 t
      refine T.val hn (.int .i64 (m : Int)) h5 (hw _ _ g5) (by k_ne) (fun w1 hF => ⟨by have fc := (hF.cell _ (.inr (.inr hz))).1.trans hm; unfold execOp; simp only [p5]; simp [go_sem, fc], fun e he => by have fc := (hF.cell _ (.inr (.inr hz))).1.trans hm; unfold execOp at he; simp only [p5] at he; simp [go_sem, fc] at he; exact ⟨_, _, he, .inr hz⟩⟩) ?_
      rw [d5]
      walk_nrm
      exact nx
  have s015 : ∀ t, T Try.prog PT (F + 4) true (⟨X, none3, zA Nb Nm, none, none, 0⟩ : Cx) (G ((base 5).at ⟨#[.int .i64 (a : Int), .int .i64 (b : Int), .int .i64 (n : Int), .int .i64 (m : Int), y4, .pointer (some ⟨Nb, 0, none⟩), y6, .pointer (some ⟨Nm, 0, none⟩), .bool false, .slice (some ⟨R, 0, none⟩) n n, .int .i64 0, .int .i64 (i : Int), y12, y13, y14, y15, y16, y17, y18, y19, y20, y21, y22, y23, y24, y25, y26, y27, y28, y29, y30, y31, y32, y33, y34, y35, y36, y37, y38, y39, y40, y41, y42, y43, y44, y45, y46, y47, y48, y49, y50, y51, y52, y53, y54, y55, y56, y57, y58, y59, y60, y61, y62, y63, y64, .slice (some ⟨R, 0, none⟩) n n, .int .i64 (i : Int), y67, y68, y69, .int .i64 (m : Int), y71, y72, y73, y74, y75, y76, y77, y78, y79, y80, y81, y82, y83, y84, y85, y86, y87, y88], []⟩ (.inRegion o11 (Region.linearise.go .any o11 4 t #[true, true, false, false, false, true, false] []) :: kk)) []) w := by
    intro t
    refine T.any [2] (by kernel_rfl) (by simp) (fun j hj t => ?_) t
    simp only [List.mem_cons, List.not_mem_nil, or_false] at hj
    subst hj
    have nx := s0125 t
    refine T.val hn (.pointer (some ⟨R, i, none⟩)) h2 (hw _ _ g2) (by k_ne) (fun w1 _ => ⟨by unfold execOp; simp only [p2]; simp [go_sem, hlt, hi0], fun e he => by unfold execOp at he; simp only [p2] at he; simp [go_sem, hlt, hi0] at he⟩) ?_
    rw [d2]
    walk_nrm
    exact nx
  have s01 : ∀ t, T Try.prog PT (F + 5) true (⟨X, none3, zA Nb Nm, none, none, 0⟩ : Cx) (G ((base 5).at ⟨#[.int .i64 (a : Int), .int .i64 (b : Int), .int .i64 (n : Int), .int .i64 (m : Int), y4, .pointer (some ⟨Nb, 0, none⟩), y6, .pointer (some ⟨Nm, 0, none⟩), .bool false, .slice (some ⟨R, 0, none⟩) n n, .int .i64 0, .int .i64 (i : Int), y12, y13, y14, y15, y16, y17, y18, y19, y20, y21, y22, y23, y24, y25, y26, y27, y28, y29, y30, y31, y32, y33, y34, y35, y36, y37, y38, y39, y40, y41, y42, y43, y44, y45, y46, y47, y48, y49, y50, y51, y52, y53, y54, y55, y56, y57, y58, y59, y60, y61, y62, y63, y64, .slice (some ⟨R, 0, none⟩) n n, .int .i64 (i : Int), y67, y68, y69, y70, y71, y72, y73, y74, y75, y76, y77, y78, y79, y80, y81, y82, y83, y84, y85, y86, y87, y88], []⟩ (.inRegion o11 (Region.linearise.go .any o11 5 t #[true, true, false, false, false, false, false] []) :: kk)) []) w := by
    intro t
    refine T.any [2, 5] (by kernel_rfl) (by simp) (fun j hj t => ?_) t
    simp only [List.mem_cons, List.not_mem_nil, or_false] at hj
    rcases hj with rfl | rfl
    · have nx := s012 t
      refine T.val hn (.pointer (some ⟨R, i, none⟩)) h2 (hw _ _ g2) (by k_ne) (fun w1 _ => ⟨by unfold execOp; simp only [p2]; simp [go_sem, hlt, hi0], fun e he => by unfold execOp at he; simp only [p2] at he; simp [go_sem, hlt, hi0] at he⟩) ?_
      rw [d2]
      walk_nrm
      exact nx
    · have nx := s015 t
      refine T.val hn (.int .i64 (m : Int)) h5 (hw _ _ g5) (by k_ne) (fun w1 hF => ⟨by have fc := (hF.cell _ (.inr (.inr hz))).1.trans hm; unfold execOp; simp only [p5]; simp [go_sem, fc], fun e he => by have fc := (hF.cell _ (.inr (.inr hz))).1.trans hm; unfold execOp at he; simp only [p5] at he; simp [go_sem, fc] at he; exact ⟨_, _, he, .inr hz⟩⟩) ?_
      rw [d5]
      walk_nrm
      exact nx
  have s05 : ∀ t, T Try.prog PT (F + 5) true (⟨X, none3, zA Nb Nm, none, none, 0⟩ : Cx) (G ((base 5).at ⟨#[.int .i64 (a : Int), .int .i64 (b : Int), .int .i64 (n : Int), .int .i64 (m : Int), y4, .pointer (some ⟨Nb, 0, none⟩), y6, .pointer (some ⟨Nm, 0, none⟩), .bool false, .slice (some ⟨R, 0, none⟩) n n, .int .i64 0, .int .i64 (i : Int), y12, y13, y14, y15, y16, y17, y18, y19, y20, y21, y22, y23, y24, y25, y26, y27, y28, y29, y30, y31, y32, y33, y34, y35, y36, y37, y38, y39, y40, y41, y42, y43, y44, y45, y46, y47, y48, y49, y50, y51, y52, y53, y54, y55, y56, y57, y58, y59, y60, y61, y62, y63, y64, .slice (some ⟨R, 0, none⟩) n n, y66, y67, y68, y69, .int .i64 (m : Int), y71, y72, y73, y74, y75, y76, y77, y78, y79, y80, y81, y82, y83, y84, y85, y86, y87, y88], []⟩ (.inRegion o11 (Region.linearise.go .any o11 5 t #[true, false, false, false, false, true, false] []) :: kk)) []) w := by
    intro t
    refine T.any [1] (by kernel_rfl) (by simp) (fun j hj t => ?_) t
    simp only [List.mem_cons, List.not_mem_nil, or_false] at hj
    subst hj
    have nx := s015 t
    refine T.val hn (.int .i64 (i : Int)) h1 (hw _ _ g1) (by k_ne) (fun w1 _ => ⟨by unfold execOp; simp only [p1]; simp [go_sem, hlt, hi0], fun e he => by unfold execOp at he; simp only [p1] at he; simp [go_sem, hlt, hi0] at he⟩) ?_
    rw [d1]
    walk_nrm
    exact nx
  have s15 : ∀ t, T Try.prog PT (F + 5) true (⟨X, none3, zA Nb Nm, none, none, 0⟩ : Cx) (G ((base 5).at ⟨#[.int .i64 (a : Int), .int .i64 (b : Int), .int .i64 (n : Int), .int .i64 (m : Int), y4, .pointer (some ⟨Nb, 0, none⟩), y6, .pointer (some ⟨Nm, 0, none⟩), .bool false, .slice (some ⟨R, 0, none⟩) n n, .int .i64 0, .int .i64 (i : Int), y12, y13, y14, y15, y16, y17, y18, y19, y20, y21, y22, y23, y24, y25, y26, y27, y28, y29, y30, y31, y32, y33, y34, y35, y36, y37, y38, y39, y40, y41, y42, y43, y44, y45, y46, y47, y48, y49, y50, y51, y52, y53, y54, y55, y56, y57, y58, y59, y60, y61, y62, y63, y64, y65, .int .i64 (i : Int), y67, y68, y69, .int .i64 (m : Int), y71, y72, y73, y74, y75, y76, y77, y78, y79, y80, y81, y82, y83, y84, y85, y86, y87, y88], []⟩ (.inRegion o11 (Region.linearise.go .any o11 5 t #[false, true, false, false, false, true, false] []) :: kk)) []) w := by
    intro t
    refine T.any [0] (by kernel_rfl) (by simp) (fun j hj t => ?_) t
    simp only [List.mem_cons, List.not_mem_nil, or_false] at hj
    subst hj
    have nx := s015 t
    refine T.val hn (.slice (some ⟨R, 0, none⟩) n n) h0 (hw _ _ g0) (by k_ne) (fun w1 _ => ⟨by unfold execOp; simp only [p0]; simp [go_sem, hlt, hi0], fun e he => by unfold execOp at he; simp only [p0] at he; simp [go_sem, hlt, hi0] at he⟩) ?_
    rw [d0]
    walk_nrm
    exact nx
  have s1 : ∀ t, T Try.prog PT (F + 6) true (⟨X, none3, zA Nb Nm, none, none, 0⟩ : Cx) (G ((base 5).at ⟨#[.int .i64 (a : Int), .int .i64 (b : Int), .int .i64 (n : Int), .int .i64 (m : Int), y4, .pointer (some ⟨Nb, 0, none⟩), y6, .pointer (some ⟨Nm, 0, none⟩), .bool false, .slice (some ⟨R, 0, none⟩) n n, .int .i64 0, .int .i64 (i : Int), y12, y13, y14, y15, y16, y17, y18, y19, y20, y21, y22, y23, y24, y25, y26, y27, y28, y29, y30, y31, y32, y33, y34, y35, y36, y37, y38, y39, y40, y41, y42, y43, y44, y45, y46, y47, y48, y49, y50, y51, y52, y53, y54, y55, y56, y57, y58, y59, y60, y61, y62, y63, y64, y65, .int .i64 (i : Int), y67, y68, y69, y70, y71, y72, y73, y74, y75, y76, y77, y78, y79, y80, y81, y82, y83, y84, y85, y86, y87, y88], []⟩ (.inRegion o11 (Region.linearise.go .any o11 6 t #[false, true, false, false, false, false, false] []) :: kk)) []) w := by
    intro t
    refine T.any [0, 5] (by kernel_rfl) (by simp) (fun j hj t => ?_) t
    simp only [List.mem_cons, List.not_mem_nil, or_false] at hj
    rcases hj with rfl | rfl
    · have nx := s01 t
      refine T.val hn (.slice (some ⟨R, 0, none⟩) n n) h0 (hw _ _ g0) (by k_ne) (fun w1 _ => ⟨by unfold execOp; simp only [p0]; simp [go_sem, hlt, hi0], fun e he => by unfold execOp at he; simp only [p0] at he; simp [go_sem, hlt, hi0] at he⟩) ?_
      rw [d0]
      walk_nrm
      exact nx
    · have nx := s15 t
      refine T.val hn (.int .i64 (m : Int)) h5 (hw _ _ g5) (by k_ne) (fun w1 hF => ⟨by have fc := (hF.cell _ (.inr (.inr hz))).1.trans hm; unfold execOp; simp only [p5]; simp [go_sem, fc], fun e he => by have fc := (hF.cell _ (.inr (.inr hz))).1.trans hm; unfold execOp at he; simp only [p5] at he; simp [go_sem, fc] at he; exact ⟨_, _, he, .inr hz⟩⟩) ?_
      rw [d5]
      walk_nrm
      exact nx
  have s0 : ∀ t, T Try.prog PT (F + 6) true (⟨X, none3, zA Nb Nm, none, none, 0⟩ : Cx) (G ((base 5).at ⟨#[.int .i64 (a : Int), .int .i64 (b : Int), .int .i64 (n : Int), .int .i64 (m : Int), y4, .pointer (some ⟨Nb, 0, none⟩), y6, .pointer (some ⟨Nm, 0, none⟩), .bool false, .slice (some ⟨R, 0, none⟩) n n, .int .i64 0, .int .i64 (i : Int), y12, y13, y14, y15, y16, y17, y18, y19, y20, y21, y22, y23, y24, y25, y26, y27, y28, y29, y30, y31, y32, y33, y34, y35, y36, y37, y38, y39, y40, y41, y42, y43, y44, y45, y46, y47, y48, y49, y50, y51, y52, y53, y54, y55, y56, y57, y58, y59, y60, y61, y62, y63, y64, .slice (some ⟨R, 0, none⟩) n n, y66, y67, y68, y69, y70, y71, y72, y73, y74, y75, y76, y77, y78, y79, y80, y81, y82, y83, y84, y85, y86, y87, y88], []⟩ (.inRegion o11 (Region.linearise.go .any o11 6 t #[true, false, false, false, false, false, false] []) :: kk)) []) w := by
    intro t
    refine T.any [1, 5] (by kernel_rfl) (by simp) (fun j hj t => ?_) t
    simp only [List.mem_cons, List.not_mem_nil, or_false] at hj
    rcases hj with rfl | rfl
    · have nx := s01 t
      refine T.val hn (.int .i64 (i : Int)) h1 (hw _ _ g1) (by k_ne) (fun w1 _ => ⟨by unfold execOp; simp only [p1]; simp [go_sem, hlt, hi0], fun e he => by unfold execOp at he; simp only [p1] at he; simp [go_sem, hlt, hi0] at he⟩) ?_
      rw [d1]
      walk_nrm
      exact nx
    · have nx := s05 t
      refine T.val hn (.int .i64 (m : Int)) h5 (hw _ _ g5) (by k_ne) (fun w1 hF => ⟨by have fc := (hF.cell _ (.inr (.inr hz))).1.trans hm; unfold execOp; simp only [p5]; simp [go_sem, fc], fun e he => by have fc := (hF.cell _ (.inr (.inr hz))).1.trans hm; unfold execOp at he; simp only [p5] at he; simp [go_sem, fc] at he; exact ⟨_, _, he, .inr hz⟩⟩) ?_
      rw [d5]
      walk_nrm
      exact nx
  have s5 : ∀ t, T Try.prog PT (F + 6) true (⟨X, none3, zA Nb Nm, none, none, 0⟩ : Cx) (G ((base 5).at ⟨#[.int .i64 (a : Int), .int .i64 (b : Int), .int .i64 (n : Int), .int .i64 (m : Int), y4, .pointer (some ⟨Nb, 0, none⟩), y6, .pointer (some ⟨Nm, 0, none⟩), .bool false, .slice (some ⟨R, 0, none⟩) n n, .int .i64 0, .int .i64 (i : Int), y12, y13, y14, y15, y16, y17, y18, y19, y20, y21, y22, y23, y24, y25, y26, y27, y28, y29, y30, y31, y32, y33, y34, y35, y36, y37, y38, y39, y40, y41, y42, y43, y44, y45, y46, y47, y48, y49, y50, y51, y52, y53, y54, y55, y56, y57, y58, y59, y60, y61, y62, y63, y64, y65, y66, y67, y68, y69, .int .i64 (m : Int), y71, y72, y73, y74, y75, y76, y77, y78, y79, y80, y81, y82, y83, y84, y85, y86, y87, y88], []⟩ (.inRegion o11 (Region.linearise.go .any o11 6 t #[false, false, false, false, false, true, false] []) :: kk)) []) w := by
    intro t
    refine T.any [0, 1] (by kernel_rfl) (by simp) (fun j hj t => ?_) t
    simp only [List.mem_cons, List.not_mem_nil, or_false] at hj
    rcases hj with rfl | rfl
    · have nx := s05 t
      refine T.val hn (.slice (some ⟨R, 0, none⟩) n n) h0 (hw _ _ g0) (by k_ne) (fun w1 _ => ⟨by unfold execOp; simp only [p0]; simp [go_sem, hlt, hi0], fun e he => by unfold execOp at he; simp only [p0] at he; simp [go_sem, hlt, hi0] at he⟩) ?_
      rw [d0]
      walk_nrm
      exact nx
    · have nx := s15 t
      refine T.val hn (.int .i64 (i : Int)) h1 (hw _ _ g1) (by k_ne) (fun w1 _ => ⟨by unfold execOp; simp only [p1]; simp [go_sem, hlt, hi0], fun e he => by unfold execOp at he; simp only [p1] at he; simp [go_sem, hlt, hi0] at he⟩) ?_
      rw [d1]
      walk_nrm
      exact nx
  have s : ∀ t, T Try.prog PT (F + 7) true (⟨X, none3, zA Nb Nm, none, none, 0⟩ : Cx) (G ((base 5).at ⟨#[.int .i64 (a : Int), .int .i64 (b : Int), .int .i64 (n : Int), .int .i64 (m : Int), y4, .pointer (some ⟨Nb, 0, none⟩), y6, .pointer (some ⟨Nm, 0, none⟩), .bool false, .slice (some ⟨R, 0, none⟩) n n, .int .i64 0, .int .i64 (i : Int), y12, y13, y14, y15, y16, y17, y18, y19, y20, y21, y22, y23, y24, y25, y26, y27, y28, y29, y30, y31, y32, y33, y34, y35, y36, y37, y38, y39, y40, y41, y42, y43, y44, y45, y46, y47, y48, y49, y50, y51, y52, y53, y54, y55, y56, y57, y58, y59, y60, y61, y62, y63, y64, y65, y66, y67, y68, y69, y70, y71, y72, y73, y74, y75, y76, y77, y78, y79, y80, y81, y82, y83, y84, y85, y86, y87, y88], []⟩ (.inRegion o11 (Region.linearise.go .any o11 7 t #[false, false, false, false, false, false, false] []) :: kk)) []) w := by
    intro t
    refine T.any [0, 1, 5] (by kernel_rfl) (by simp) (fun j hj t => ?_) t
    simp only [List.mem_cons, List.not_mem_nil, or_false] at hj
    rcases hj with rfl | rfl | rfl
    · have nx := s0 t
      refine T.val hn (.slice (some ⟨R, 0, none⟩) n n) h0 (hw _ _ g0) (by k_ne) (fun w1 _ => ⟨by unfold execOp; simp only [p0]; simp [go_sem, hlt, hi0], fun e he => by unfold execOp at he; simp only [p0] at he; simp [go_sem, hlt, hi0] at he⟩) ?_
      rw [d0]
      walk_nrm
      exact nx
    · have nx := s1 t
      refine T.val hn (.int .i64 (i : Int)) h1 (hw _ _ g1) (by k_ne) (fun w1 _ => ⟨by unfold execOp; simp only [p1]; simp [go_sem, hlt, hi0], fun e he => by unfold execOp at he; simp only [p1] at he; simp [go_sem, hlt, hi0] at he⟩) ?_
      rw [d1]
      walk_nrm
      exact nx
    · have nx := s5 t
      refine T.val hn (.int .i64 (m : Int)) h5 (hw _ _ g5) (by k_ne) (fun w1 hF => ⟨by have fc := (hF.cell _ (.inr (.inr hz))).1.trans hm; unfold execOp; simp only [p5]; simp [go_sem, fc], fun e he => by have fc := (hF.cell _ (.inr (.inr hz))).1.trans hm; unfold execOp at he; simp only [p5] at he; simp [go_sem, fc] at he; exact ⟨_, _, he, .inr hz⟩⟩) ?_
      rw [d5]
      walk_nrm
      exact nx
  refine T.le (m := (F + 7) + 1) (by omega) (T.draw hn mix (fun t => ?_))
  exact s t
noncomputable def la5 : Code := (loopOf (Try.f5.body.getD .skip)).getD .skip
noncomputable def lb5 : Code := (loopOf la5).getD .skip
noncomputable def q5 : Code := (rest4b (Try.f5.body.getD .skip)).getD .skip
set_option maxRecDepth 100000 in
set_option maxHeartbeats 16000000 in
theorem inner_loop {a b n m Nb Nm R : Nat} {R' i F : Nat} {X : AS} {w : World} (hn : Cx.Neat (⟨X, none3, zA Nb Nm, none, none, 0⟩ : Cx)) (hi : i < n) (hX : X ⟨R, i, none⟩) (hc : w.cell? ⟨R, i, none⟩ = some (.slice (some ⟨R', 0, none⟩) m m)) (hm : w.cell? ⟨Nm, 0, none⟩ = some (.int .i64 (m : Int))) (hm4 : m ≤ 4096)
    (hv : ∀ k, k < m → X ⟨R', k, none⟩ ∧ w.cell? ⟨R', k, none⟩ = some (.int .i64 (val i k))) {kk : List Item} (hT : ∀ {y4 y6 y13 y14 y15 y16 y17 y18 y19 y20 y21 y22 y23 y24 y25 y26 y27 y28 y29 y30 y31 y32 y33 y34 y35 y36 y37 y38 y39 y40 y41 y42 y43 y44 y45 y46 y47 y48 y49 y50 y51 y52 y53 y54 y55 y56 y57 y58 y59 y60 y61 y62 y63 y64 y65 y66 y67 y68 y69 y70 y71 y72 y73 y74 y75 y76 y77 y78 y79 y80 y81 y82 y83 y84 y85 y86 y87 y88 : Value}, T Try.prog PT F true (⟨X, none3, zA Nb Nm, none, none, 0⟩ : Cx) (G ((base 5).at ⟨#[.int .i64 (a : Int), .int .i64 (b : Int), .int .i64 (n : Int), .int .i64 (m : Int), y4, .pointer (some ⟨Nb, 0, none⟩), y6, .pointer (some ⟨Nm, 0, none⟩), .bool false, .slice (some ⟨R, 0, none⟩) n n, .int .i64 0, .int .i64 (i : Int), .int .i64 (m : Int), y13, y14, y15, y16, y17, y18, y19, y20, y21, y22, y23, y24, y25, y26, y27, y28, y29, y30, y31, y32, y33, y34, y35, y36, y37, y38, y39, y40, y41, y42, y43, y44, y45, y46, y47, y48, y49, y50, y51, y52, y53, y54, y55, y56, y57, y58, y59, y60, y61, y62, y63, y64, y65, y66, y67, y68, y69, y70, y71, y72, y73, y74, y75, y76, y77, y78, y79, y80, y81, y82, y83, y84, y85, y86, y87, y88], []⟩ kk) []) w) :
    ∀ (q k : Nat), k + q = m → ∀ {y4 y6 y13 y14 y15 y16 y17 y18 y19 y20 y21 y22 y23 y24 y25 y26 y27 y28 y29 y30 y31 y32 y33 y34 y35 y36 y37 y38 y39 y40 y41 y42 y43 y44 y45 y46 y47 y48 y49 y50 y51 y52 y53 y54 y55 y56 y57 y58 y59 y60 y61 y62 y63 y64 y65 y66 y67 y68 y69 y70 y71 y72 y73 y74 y75 y76 y77 y78 y79 y80 y81 y82 y83 y84 y85 y86 y87 y88 : Value}, T Try.prog PT (60 * q + 40 + F) true (⟨X, none3, zA Nb Nm, none, none, 0⟩ : Cx) (G ((base 5).at ⟨#[.int .i64 (a : Int), .int .i64 (b : Int), .int .i64 (n : Int), .int .i64 (m : Int), y4, .pointer (some ⟨Nb, 0, none⟩), y6, .pointer (some ⟨Nm, 0, none⟩), .bool false, .slice (some ⟨R, 0, none⟩) n n, .int .i64 0, .int .i64 (i : Int), .int .i64 (k : Int), y13, y14, y15, y16, y17, y18, y19, y20, y21, y22, y23, y24, y25, y26, y27, y28, y29, y30, y31, y32, y33, y34, y35, y36, y37, y38, y39, y40, y41, y42, y43, y44, y45, y46, y47, y48, y49, y50, y51, y52, y53, y54, y55, y56, y57, y58, y59, y60, y61, y62, y63, y64, y65, y66, y67, y68, y69, y70, y71, y72, y73, y74, y75, y76, y77, y78, y79, y80, y81, y82, y83, y84, y85, y86, y87, y88], []⟩ (.code lb5 :: .inLoop lb5 :: .inBlock 2 :: kk)) []) w := by
  intro q
  have hlt : (i : Int) < (n : Int) := by omega
  have hi0 : (0 : Int) ≤ (i : Int) := by omega
  have hz : zA Nb Nm ⟨Nm, 0, none⟩ := .inr rfl
  induction q with
  | zero =>
    intro k hk y4 y6 y13 y14 y15 y16 y17 y18 y19 y20 y21 y22 y23 y24 y25 y26 y27 y28 y29 y30 y31 y32 y33 y34 y35 y36 y37 y38 y39 y40 y41 y42 y43 y44 y45 y46 y47 y48 y49 y50 y51 y52 y53 y54 y55 y56 y57 y58 y59 y60 y61 y62 y63 y64 y65 y66 y67 y68 y69 y70 y71 y72 y73 y74 y75 y76 y77 y78 y79 y80 y81 y82 y83 y84 y85 y86 y87 y88
    obtain rfl : k = m := by omega
    have hkl : ¬ (k : Int) < (k : Int) := by omega
    refine T.le (m := F + 30) (by omega) ?_
    simp only [la5, lb5, q5, o11, opsOf, Try.f5, loopOf, rest4b, Option.getD_some, Option.none_or, Option.some_or, Option.or_none, reduceIte, Nat.reduceEqDiff]
    refine T.goes1 hn rfl (fun _ _ _ => ?_); rw [stepG_seq]; simp only [goes_go]; refine ⟨by u_nil, ?_⟩
    refine T.goes1 hn rfl (fun _ _ _ => ?_); rw [stepG_seq]; simp only [goes_go]; refine ⟨by u_nil, ?_⟩
    refine T.goes1 hn rfl (fun _ _ _ => ?_); rw [stepG_region]; simp only [goes_go, List.size_toArray, List.length_cons, List.length_nil, Nat.reduceAdd, Nat.zero_add, List.range, List.range.loop]; refine ⟨by u_nil, ?_⟩
    refine T.goes1 hn rfl (fun _ _ _ => ?_); refine goes_oper_k rfl rfl (by k_ne) (fun K hK => ?_); go_simp; refine hK _ _ ⟨?_, ?_⟩; (u_none; intro e he; have hm := mem_listed he; simp [go_sem, *] at hm); clear hK K; try walk_nrm
    refine T.quiet hn rfl rfl (by k_ne) (fun w₁ hF hL K hK => ?_); have fc := (hF.cell _ (.inr (.inr (hz)))).1.trans (hm); go_simp; refine hK _ ?_ ?_; (intro e he; simp [go_sem, *] at he; subst he; exact EvOk.rd false (.inr (hz))); clear hK K fc; try walk_nrm
    refine T.goes1 hn rfl (fun _ _ _ => ?_); refine goes_oper_k rfl rfl (by k_ne) (fun K hK => ?_); go_simp; refine hK _ _ ⟨?_, ?_⟩; (u_none; intro e he; have hm := mem_listed he; simp [go_sem, *] at hm); clear hK K; try walk_nrm
    refine T.goes1 hn rfl (fun _ _ _ => ?_); rw [stepG_region_end]; simp only [goes_go]; refine ⟨by u_nil, ?_⟩
    refine T.goes1 hn rfl (fun _ _ _ => ?_); rw [stepG_cond (t := false) rfl]; simp only [goes_go, if_true, if_false, Bool.false_eq_true, ↓reduceIte]; refine ⟨by u_nil, ?_⟩
    refine T.goes1 hn rfl (fun _ _ _ => ?_); refine goes_exit rfl ?_; refine ⟨by u_nil, ?_⟩
    exact T.le (by omega) hT
  | succ q ih =>
    intro k hk y4 y6 y13 y14 y15 y16 y17 y18 y19 y20 y21 y22 y23 y24 y25 y26 y27 y28 y29 y30 y31 y32 y33 y34 y35 y36 y37 y38 y39 y40 y41 y42 y43 y44 y45 y46 y47 y48 y49 y50 y51 y52 y53 y54 y55 y56 y57 y58 y59 y60 y61 y62 y63 y64 y65 y66 y67 y68 y69 y70 y71 y72 y73 y74 y75 y76 y77 y78 y79 y80 y81 y82 y83 y84 y85 y86 y87 y88
    have hkl : (k : Int) < (m : Int) := by omega
    have hk0 : (0 : Int) ≤ (k : Int) := by omega
    have hinc : IntKind.i64.wrap ((k : Int) + 1) = ((k + 1 : Nat) : Int) := by rw [IntKind.wrap_i64]; omega
    obtain ⟨hXk, hck⟩ := hv k (by omega)
    unfold val at hck
    refine T.le (m := 60 * q + 40 + F + 50) (by omega) ?_
    replace ih := @ih (k + 1) (by omega)
    simp only [la5, lb5, q5, o11, opsOf, Try.f5, loopOf, rest4b, Option.getD_some, Option.none_or, Option.some_or, Option.or_none, reduceIte, Nat.reduceEqDiff] at ih ⊢
    refine T.goes1 hn rfl (fun _ _ _ => ?_); rw [stepG_seq]; simp only [goes_go]; refine ⟨by u_nil, ?_⟩
    refine T.goes1 hn rfl (fun _ _ _ => ?_); rw [stepG_seq]; simp only [goes_go]; refine ⟨by u_nil, ?_⟩
    refine T.goes1 hn rfl (fun _ _ _ => ?_); rw [stepG_region]; simp only [goes_go, List.size_toArray, List.length_cons, List.length_nil, Nat.reduceAdd, Nat.zero_add, List.range, List.range.loop]; refine ⟨by u_nil, ?_⟩
    refine T.goes1 hn rfl (fun _ _ _ => ?_); refine goes_oper_k rfl rfl (by k_ne) (fun K hK => ?_); go_simp; refine hK _ _ ⟨?_, ?_⟩; (u_none; intro e he; have hm := mem_listed he; simp [go_sem, *] at hm); clear hK K; try walk_nrm
    refine T.quiet hn rfl rfl (by k_ne) (fun w₁ hF hL K hK => ?_); have fc := (hF.cell _ (.inr (.inr (hz)))).1.trans (hm); go_simp; refine hK _ ?_ ?_; (intro e he; simp [go_sem, *] at he; subst he; exact EvOk.rd false (.inr (hz))); clear hK K fc; try walk_nrm
    refine T.goes1 hn rfl (fun _ _ _ => ?_); refine goes_oper_k rfl rfl (by k_ne) (fun K hK => ?_); go_simp; refine hK _ _ ⟨?_, ?_⟩; (u_none; intro e he; have hm := mem_listed he; simp [go_sem, *] at hm); clear hK K; try walk_nrm
    refine T.goes1 hn rfl (fun _ _ _ => ?_); rw [stepG_region_end]; simp only [goes_go]; refine ⟨by u_nil, ?_⟩
    refine T.goes1 hn rfl (fun _ _ _ => ?_); rw [stepG_cond (t := true) rfl]; simp only [goes_go, if_true, if_false, Bool.false_eq_true, ↓reduceIte]; refine ⟨by u_nil, ?_⟩
    refine T.goes1 hn rfl (fun _ _ _ => ?_); rw [stepG_skip]; simp only [goes_go]; refine ⟨by u_nil, ?_⟩
    refine T.goes1 hn rfl (fun _ _ _ => ?_); rw [stepG_seq]; simp only [goes_go]; refine ⟨by u_nil, ?_⟩
    refine T.goes1 hn rfl (fun _ _ _ => ?_); rw [stepG_block]; simp only [goes_go]; refine ⟨by u_nil, ?_⟩
    refine T.goes1 hn rfl (fun _ _ _ => ?_); rw [stepG_seq]; simp only [goes_go]; refine ⟨by u_nil, ?_⟩
    refine T.goes1 hn rfl (fun _ _ _ => ?_); rw [stepG_region]; simp only [goes_go, List.size_toArray, List.length_cons, List.length_nil, Nat.reduceAdd, Nat.zero_add, List.range, List.range.loop]; refine ⟨by u_nil, ?_⟩
    refine T.goes1 hn rfl (fun _ _ _ => ?_); refine goes_oper_k rfl rfl (by k_ne) (fun K hK => ?_); go_simp; refine hK _ _ ⟨?_, ?_⟩; (u_none; intro e he; have hm := mem_listed he; simp [go_sem, *] at hm); clear hK K; try walk_nrm
    refine T.goes1 hn rfl (fun _ _ _ => ?_); refine goes_oper_k rfl rfl (by k_ne) (fun K hK => ?_); go_simp; refine hK _ _ ⟨?_, ?_⟩; (u_none; intro e he; have hm := mem_listed he; simp [go_sem, *] at hm); clear hK K; try walk_nrm
    refine T.goes1 hn rfl (fun _ _ _ => ?_); refine goes_oper_k rfl rfl (by k_ne) (fun K hK => ?_); go_simp; refine hK _ _ ⟨?_, ?_⟩; (u_none; intro e he; have hm := mem_listed he; simp [go_sem, *] at hm); clear hK K; try walk_nrm
    refine T.quiet hn rfl rfl (by k_ne) (fun w₁ hF hL K hK => ?_); have fc := (hF.cell _ (.inl (hX))).1.trans (hc); go_simp; refine hK _ ?_ ?_; (intro e he; simp [go_sem, *] at he; subst he; exact EvOk.rd false (.inl (hX))); clear hK K fc; try walk_nrm
    refine T.goes1 hn rfl (fun _ _ _ => ?_); refine goes_oper_k rfl rfl (by k_ne) (fun K hK => ?_); go_simp; refine hK _ _ ⟨?_, ?_⟩; (u_none; intro e he; have hm := mem_listed he; simp [go_sem, *] at hm); clear hK K; try walk_nrm
    refine T.goes1 hn rfl (fun _ _ _ => ?_); refine goes_oper_k rfl rfl (by k_ne) (fun K hK => ?_); go_simp; refine hK _ _ ⟨?_, ?_⟩; (u_none; intro e he; have hm := mem_listed he; simp [go_sem, *] at hm); clear hK K; try walk_nrm
    refine T.quiet hn rfl rfl (by k_ne) (fun w₁ hF hL K hK => ?_); have fc := (hF.cell _ (.inl (hXk))).1.trans (hck); go_simp; refine hK _ ?_ ?_; (intro e he; simp [go_sem, *] at he; subst he; exact EvOk.rd false (.inl (hXk))); clear hK K fc; try walk_nrm
    refine T.goes1 hn rfl (fun _ _ _ => ?_); refine goes_oper_k rfl rfl (by k_ne) (fun K hK => ?_); go_simp; refine hK _ _ ⟨?_, ?_⟩; (u_none; intro e he; have hm := mem_listed he; simp [go_sem, *] at hm); clear hK K; try walk_nrm
    refine T.goes1 hn rfl (fun _ _ _ => ?_); refine goes_oper_k rfl rfl (by k_ne) (fun K hK => ?_); go_simp; refine hK _ _ ⟨?_, ?_⟩; (u_none; intro e he; have hm := mem_listed he; simp [go_sem, *] at hm); clear hK K; try walk_nrm
    refine T.goes1 hn rfl (fun _ _ _ => ?_); refine goes_oper_k rfl rfl (by k_ne) (fun K hK => ?_); go_simp; refine hK _ _ ⟨?_, ?_⟩; (u_none; intro e he; have hm := mem_listed he; simp [go_sem, *] at hm); clear hK K; try walk_nrm
    refine T.goes1 hn rfl (fun _ _ _ => ?_); refine goes_oper_k rfl rfl (by k_ne) (fun K hK => ?_); go_simp; refine hK _ _ ⟨?_, ?_⟩; (u_none; intro e he; have hm := mem_listed he; simp [go_sem, *] at hm); clear hK K; try walk_nrm
    refine T.goes1 hn rfl (fun _ _ _ => ?_); refine goes_oper_k rfl rfl (by k_ne) (fun K hK => ?_); go_simp; refine hK _ _ ⟨?_, ?_⟩; (u_none; intro e he; have hm := mem_listed he; simp [go_sem, *] at hm); clear hK K; try walk_nrm
    refine T.goes1 hn rfl (fun _ _ _ => ?_); rw [stepG_region_end]; simp only [goes_go]; refine ⟨by u_nil, ?_⟩
    refine T.goes1 hn rfl (fun _ _ _ => ?_); rw [stepG_cond (t := false) rfl]; simp only [goes_go, if_true, if_false, Bool.false_eq_true, ↓reduceIte]; refine ⟨by u_nil, ?_⟩
    refine T.goes1 hn rfl (fun _ _ _ => ?_); rw [stepG_skip]; simp only [goes_go]; refine ⟨by u_nil, ?_⟩
    refine T.goes1 hn rfl (fun _ _ _ => ?_); rw [stepG_inBlock]; simp only [goes_go]; refine ⟨by u_nil, ?_⟩
    refine T.goes1 hn rfl (fun _ _ _ => ?_); rw [stepG_region]; simp only [goes_go, List.size_toArray, List.length_cons, List.length_nil, Nat.reduceAdd, Nat.zero_add, List.range, List.range.loop]; refine ⟨by u_nil, ?_⟩
    refine T.goes1 hn rfl (fun _ _ _ => ?_); refine goes_oper_k rfl rfl (by k_ne) (fun K hK => ?_); go_simp; refine hK _ _ ⟨?_, ?_⟩; (u_none; intro e he; have hm := mem_listed he; simp [go_sem, *] at hm); clear hK K; try walk_nrm
    refine T.goes1 hn rfl (fun _ _ _ => ?_); refine goes_oper_k rfl rfl (by k_ne) (fun K hK => ?_); go_simp; refine hK _ _ ⟨?_, ?_⟩; (u_none; intro e he; have hm := mem_listed he; simp [go_sem, *] at hm); clear hK K; try walk_nrm
    refine T.goes1 hn rfl (fun _ _ _ => ?_); refine goes_oper_k rfl rfl (by k_ne) (fun K hK => ?_); go_simp; refine hK _ _ ⟨?_, ?_⟩; (u_none; intro e he; have hm := mem_listed he; simp [go_sem, *] at hm); clear hK K; try walk_nrm
    refine T.goes1 hn rfl (fun _ _ _ => ?_); rw [stepG_region_end]; simp only [goes_go]; refine ⟨by u_nil, ?_⟩
    refine T.goes1 hn rfl (fun _ _ _ => ?_); rw [stepG_inLoop]; simp only [goes_go]; refine ⟨by u_nil, ?_⟩
    exact T.le (by omega) ih
set_option maxRecDepth 100000 in
set_option maxHeartbeats 16000000 in
theorem outer_loop {a b n m Nb Nm R : Nat} {X : AS} {w : World} (hn : Cx.Neat (⟨X, none3, zA Nb Nm, none, none, 0⟩ : Cx)) (hn4 : n ≤ 4096) (hm4 : m ≤ 4096) (hm : w.cell? ⟨Nm, 0, none⟩ = some (.int .i64 (m : Int)))
    (hv : ∀ i, i < n → X ⟨R, i, none⟩ ∧ ∃ R' : Nat, w.cell? ⟨R, i, none⟩ = some (.slice (some ⟨R', 0, none⟩) m m) ∧ ∀ k, k < m → X ⟨R', k, none⟩ ∧ w.cell? ⟨R', k, none⟩ = some (.int .i64 (val i k))) :
    ∀ (q i : Nat), i + q = n → ∀ {y4 y6 y12 y13 y14 y15 y16 y17 y18 y19 y20 y21 y22 y23 y24 y25 y26 y27 y28 y29 y30 y31 y32 y33 y34 y35 y36 y37 y38 y39 y40 y41 y42 y43 y44 y45 y46 y47 y48 y49 y50 y51 y52 y53 y54 y55 y56 y57 y58 y59 y60 y61 y62 y63 y64 y65 y66 y67 y68 y69 y70 y71 y72 y73 y74 y75 y76 y77 y78 y79 y80 y81 y82 y83 y84 y85 y86 y87 y88 : Value}, T Try.prog PT ((60 * m + 200) * q + 40) true (⟨X, none3, zA Nb Nm, none, none, 0⟩ : Cx) (G ((base 5).at ⟨#[.int .i64 (a : Int), .int .i64 (b : Int), .int .i64 (n : Int), .int .i64 (m : Int), y4, .pointer (some ⟨Nb, 0, none⟩), y6, .pointer (some ⟨Nm, 0, none⟩), .bool false, .slice (some ⟨R, 0, none⟩) n n, .int .i64 0, .int .i64 (i : Int), y12, y13, y14, y15, y16, y17, y18, y19, y20, y21, y22, y23, y24, y25, y26, y27, y28, y29, y30, y31, y32, y33, y34, y35, y36, y37, y38, y39, y40, y41, y42, y43, y44, y45, y46, y47, y48, y49, y50, y51, y52, y53, y54, y55, y56, y57, y58, y59, y60, y61, y62, y63, y64, y65, y66, y67, y68, y69, y70, y71, y72, y73, y74, y75, y76, y77, y78, y79, y80, y81, y82, y83, y84, y85, y86, y87, y88], []⟩ (.code la5 :: .inLoop la5 :: .inBlock 0 :: [.code q5])) []) w := by
  intro q
  induction q with
  | zero =>
    intro i hi y4 y6 y12 y13 y14 y15 y16 y17 y18 y19 y20 y21 y22 y23 y24 y25 y26 y27 y28 y29 y30 y31 y32 y33 y34 y35 y36 y37 y38 y39 y40 y41 y42 y43 y44 y45 y46 y47 y48 y49 y50 y51 y52 y53 y54 y55 y56 y57 y58 y59 y60 y61 y62 y63 y64 y65 y66 y67 y68 y69 y70 y71 y72 y73 y74 y75 y76 y77 y78 y79 y80 y81 y82 y83 y84 y85 y86 y87 y88
    obtain rfl : i = n := by omega
    have hlt : ¬ (i : Int) < (i : Int) := by omega
    refine T.le (m := 30) (by omega) ?_
    simp only [la5, lb5, q5, o11, opsOf, Try.f5, loopOf, rest4b, Option.getD_some, Option.none_or, Option.some_or, Option.or_none, reduceIte, Nat.reduceEqDiff]
    refine T.goes1 hn rfl (fun _ _ _ => ?_); rw [stepG_seq]; simp only [goes_go]; refine ⟨by u_nil, ?_⟩
    refine T.goes1 hn rfl (fun _ _ _ => ?_); rw [stepG_seq]; simp only [goes_go]; refine ⟨by u_nil, ?_⟩
    refine T.goes1 hn rfl (fun _ _ _ => ?_); rw [stepG_region]; simp only [goes_go, List.size_toArray, List.length_cons, List.length_nil, Nat.reduceAdd, Nat.zero_add, List.range, List.range.loop]; refine ⟨by u_nil, ?_⟩
    refine T.goes1 hn rfl (fun _ _ _ => ?_); refine goes_oper_k rfl rfl (by k_ne) (fun K hK => ?_); go_simp; refine hK _ _ ⟨?_, ?_⟩; (u_none; intro e he; have hm := mem_listed he; simp [go_sem, *] at hm); clear hK K; try walk_nrm
    refine T.goes1 hn rfl (fun _ _ _ => ?_); refine goes_oper_k rfl rfl (by k_ne) (fun K hK => ?_); go_simp; refine hK _ _ ⟨?_, ?_⟩; (u_none; intro e he; have hm := mem_listed he; simp [go_sem, *] at hm); clear hK K; try walk_nrm
    refine T.goes1 hn rfl (fun _ _ _ => ?_); refine goes_oper_k rfl rfl (by k_ne) (fun K hK => ?_); go_simp; refine hK _ _ ⟨?_, ?_⟩; (u_none; intro e he; have hm := mem_listed he; simp [go_sem, *] at hm); clear hK K; try walk_nrm
    refine T.goes1 hn rfl (fun _ _ _ => ?_); rw [stepG_region_end]; simp only [goes_go]; refine ⟨by u_nil, ?_⟩
    refine T.goes1 hn rfl (fun _ _ _ => ?_); rw [stepG_cond (t := false) rfl]; simp only [goes_go, if_true, if_false, Bool.false_eq_true, ↓reduceIte]; refine ⟨by u_nil, ?_⟩
    refine T.goes1 hn rfl (fun _ _ _ => ?_); refine goes_exit rfl ?_; refine ⟨by u_nil, ?_⟩
    refine T.goes1 hn rfl (fun _ _ _ => ?_); rw [stepG_seq]; simp only [goes_go]; refine ⟨by u_nil, ?_⟩
    refine T.goes1 hn rfl (fun _ _ _ => ?_); rw [stepG_region]; simp only [goes_go, List.size_toArray, List.length_cons, List.length_nil, Nat.reduceAdd, Nat.zero_add, List.range, List.range.loop]; refine ⟨by u_nil, ?_⟩
    refine T.goes1 hn rfl (fun _ _ _ => ?_); refine goes_oper_k rfl rfl (by k_ne) (fun K hK => ?_); go_simp; refine hK _ _ ⟨?_, ?_⟩; (u_none; intro e he; have hm := mem_listed he; simp [go_sem, *] at hm); clear hK K; try walk_nrm
    refine T.goes1 hn rfl (fun _ _ _ => ?_); rw [stepG_region_end]; simp only [goes_go]; refine ⟨by u_nil, ?_⟩
    refine T.goes1 hn rfl (fun _ _ _ => ?_); rw [stepG_ret']; simp only [goes_go]; refine ⟨by u_nil, ?_⟩
    refine T.le (m := 1) (by omega) (T.done rfl rfl rfl Try.func5 rfl (by kernel_rfl) (fun w1 => rfl))
  | succ q ih =>
    intro i hi y4 y6 y12 y13 y14 y15 y16 y17 y18 y19 y20 y21 y22 y23 y24 y25 y26 y27 y28 y29 y30 y31 y32 y33 y34 y35 y36 y37 y38 y39 y40 y41 y42 y43 y44 y45 y46 y47 y48 y49 y50 y51 y52 y53 y54 y55 y56 y57 y58 y59 y60 y61 y62 y63 y64 y65 y66 y67 y68 y69 y70 y71 y72 y73 y74 y75 y76 y77 y78 y79 y80 y81 y82 y83 y84 y85 y86 y87 y88
    have hlt : (i : Int) < (n : Int) := by omega
    have hi0 : (0 : Int) ≤ (i : Int) := by omega
    have hinc : IntKind.i64.wrap ((i : Int) + 1) = ((i + 1 : Nat) : Int) := by rw [IntKind.wrap_i64]; omega
    obtain ⟨hXi, R', hci, hvi⟩ := hv i (by omega)
    have hz : zA Nb Nm ⟨Nm, 0, none⟩ := .inr rfl
    have hin := fun (F : Nat) (kk : List Item) => @inner_loop a b n m Nb Nm R R' i F X w hn (by omega) hXi hci hm hm4 hvi kk
    have hlen := fun (F : Nat) (kk : List Item) => @len_region a b n m Nb Nm R R' i F X w hn (by omega) hXi hci hm kk
    obtain ⟨f0, hf0⟩ : ∃ f0, f0 = (60 * m + 200) * q + 40 := ⟨_, rfl⟩
    refine T.le (m := f0 + 60 * m + 190) (by rw [hf0, Nat.mul_succ]; omega) ?_
    replace ih := @ih (i + 1) (by omega)
    rw [← hf0] at ih
    simp only [la5, lb5, q5, o11, opsOf, Try.f5, loopOf, rest4b, Option.getD_some, Option.none_or, Option.some_or, Option.or_none, reduceIte, Nat.reduceEqDiff] at ih hin hlen ⊢
    refine T.goes1 hn rfl (fun _ _ _ => ?_); rw [stepG_seq]; simp only [goes_go]; refine ⟨by u_nil, ?_⟩
    refine T.goes1 hn rfl (fun _ _ _ => ?_); rw [stepG_seq]; simp only [goes_go]; refine ⟨by u_nil, ?_⟩
    refine T.goes1 hn rfl (fun _ _ _ => ?_); rw [stepG_region]; simp only [goes_go, List.size_toArray, List.length_cons, List.length_nil, Nat.reduceAdd, Nat.zero_add, List.range, List.range.loop]; refine ⟨by u_nil, ?_⟩
    refine T.goes1 hn rfl (fun _ _ _ => ?_); refine goes_oper_k rfl rfl (by k_ne) (fun K hK => ?_); go_simp; refine hK _ _ ⟨?_, ?_⟩; (u_none; intro e he; have hm := mem_listed he; simp [go_sem, *] at hm); clear hK K; try walk_nrm
    refine T.goes1 hn rfl (fun _ _ _ => ?_); refine goes_oper_k rfl rfl (by k_ne) (fun K hK => ?_); go_simp; refine hK _ _ ⟨?_, ?_⟩; (u_none; intro e he; have hm := mem_listed he; simp [go_sem, *] at hm); clear hK K; try walk_nrm
    refine T.goes1 hn rfl (fun _ _ _ => ?_); refine goes_oper_k rfl rfl (by k_ne) (fun K hK => ?_); go_simp; refine hK _ _ ⟨?_, ?_⟩; (u_none; intro e he; have hm := mem_listed he; simp [go_sem, *] at hm); clear hK K; try walk_nrm
    refine T.goes1 hn rfl (fun _ _ _ => ?_); rw [stepG_region_end]; simp only [goes_go]; refine ⟨by u_nil, ?_⟩
    refine T.goes1 hn rfl (fun _ _ _ => ?_); rw [stepG_cond (t := true) rfl]; simp only [goes_go, if_true, if_false, Bool.false_eq_true, ↓reduceIte]; refine ⟨by u_nil, ?_⟩
    refine T.goes1 hn rfl (fun _ _ _ => ?_); rw [stepG_skip]; simp only [goes_go]; refine ⟨by u_nil, ?_⟩
    refine T.goes1 hn rfl (fun _ _ _ => ?_); rw [stepG_seq]; simp only [goes_go]; refine ⟨by u_nil, ?_⟩
    refine T.goes1 hn rfl (fun _ _ _ => ?_); rw [stepG_block]; simp only [goes_go]; refine ⟨by u_nil, ?_⟩
    refine T.goes1 hn rfl (fun _ _ _ => ?_); rw [stepG_seq]; simp only [goes_go]; refine ⟨by u_nil, ?_⟩
    refine T.goes1 hn rfl (fun _ _ _ => ?_); rw [stepG_seq]; simp only [goes_go]; refine ⟨by u_nil, ?_⟩
    refine T.le (m := (f0 + 60 * m + 160) + 8) (by omega) (hlen _ _ ?_)
    refine T.goes1 hn rfl (fun _ _ _ => ?_); rw [stepG_region_end]; simp only [goes_go]; refine ⟨by u_nil, ?_⟩
    refine T.goes1 hn rfl (fun _ _ _ => ?_); rw [stepG_cond (t := false) rfl]; simp only [goes_go, if_true, if_false, Bool.false_eq_true, ↓reduceIte]; refine ⟨by u_nil, ?_⟩
    refine T.goes1 hn rfl (fun _ _ _ => ?_); rw [stepG_skip]; simp only [goes_go]; refine ⟨by u_nil, ?_⟩
    refine T.goes1 hn rfl (fun _ _ _ => ?_); rw [stepG_seq]; simp only [goes_go]; refine ⟨by u_nil, ?_⟩
    refine T.goes1 hn rfl (fun _ _ _ => ?_); rw [stepG_region]; simp only [goes_go, List.size_toArray, List.length_cons, List.length_nil, Nat.reduceAdd, Nat.zero_add, List.range, List.range.loop]; refine ⟨by u_nil, ?_⟩
    refine T.goes1 hn rfl (fun _ _ _ => ?_); refine goes_oper_k rfl rfl (by k_ne) (fun K hK => ?_); go_simp; refine hK _ _ ⟨?_, ?_⟩; (u_none; intro e he; have hm := mem_listed he; simp [go_sem, *] at hm); clear hK K; try walk_nrm
    refine T.goes1 hn rfl (fun _ _ _ => ?_); rw [stepG_region_end]; simp only [goes_go]; refine ⟨by u_nil, ?_⟩
    refine T.goes1 hn rfl (fun _ _ _ => ?_); rw [stepG_block]; simp only [goes_go]; refine ⟨by u_nil, ?_⟩
    refine T.goes1 hn rfl (fun _ _ _ => ?_); rw [stepG_loop]; simp only [goes_go]; refine ⟨by u_nil, ?_⟩
    refine T.le (m := 60 * m + 40 + (f0 + 80)) (by omega) (hin (f0 + 80) _ (fun {u4 u6 u13 u14 u15 u16 u17 u18 u19 u20 u21 u22 u23 u24 u25 u26 u27 u28 u29 u30 u31 u32 u33 u34 u35 u36 u37 u38 u39 u40 u41 u42 u43 u44 u45 u46 u47 u48 u49 u50 u51 u52 u53 u54 u55 u56 u57 u58 u59 u60 u61 u62 u63 u64 u65 u66 u67 u68 u69 u70 u71 u72 u73 u74 u75 u76 u77 u78 u79 u80 u81 u82 u83 u84 u85 u86 u87 u88} => ?_) m 0 (by omega))
    refine T.goes1 hn rfl (fun _ _ _ => ?_); rw [stepG_inBlock]; simp only [goes_go]; refine ⟨by u_nil, ?_⟩
    refine T.goes1 hn rfl (fun _ _ _ => ?_); rw [stepG_region]; simp only [goes_go, List.size_toArray, List.length_cons, List.length_nil, Nat.reduceAdd, Nat.zero_add, List.range, List.range.loop]; refine ⟨by u_nil, ?_⟩
    refine T.goes1 hn rfl (fun _ _ _ => ?_); refine goes_oper_k rfl rfl (by k_ne) (fun K hK => ?_); go_simp; refine hK _ _ ⟨?_, ?_⟩; (u_none; intro e he; have hm := mem_listed he; simp [go_sem, *] at hm); clear hK K; try walk_nrm
    refine T.goes1 hn rfl (fun _ _ _ => ?_); refine goes_oper_k rfl rfl (by k_ne) (fun K hK => ?_); go_simp; refine hK _ _ ⟨?_, ?_⟩; (u_none; intro e he; have hm := mem_listed he; simp [go_sem, *] at hm); clear hK K; try walk_nrm
    refine T.goes1 hn rfl (fun _ _ _ => ?_); refine goes_oper_k rfl rfl (by k_ne) (fun K hK => ?_); go_simp; refine hK _ _ ⟨?_, ?_⟩; (u_none; intro e he; have hm := mem_listed he; simp [go_sem, *] at hm); clear hK K; try walk_nrm
    refine T.goes1 hn rfl (fun _ _ _ => ?_); rw [stepG_region_end]; simp only [goes_go]; refine ⟨by u_nil, ?_⟩
    refine T.goes1 hn rfl (fun _ _ _ => ?_); rw [stepG_inLoop]; simp only [goes_go]; refine ⟨by u_nil, ?_⟩
    exact T.le (by omega) ih
end Go.Proofs.Ytidadgibhmiojaa
