/- What is asked of a task; the code of a region. -/
import Derived.Test.YtidadgibhmiojaaGw
namespace Go.Farm
open Go.Conc Go.RowKit
/-- a task: called with number j it comes back with a value of which V is said, by cells that are new -/
def TaskOk (P : Program) (Post : Value → World → Prop) (d : FuncId) (caps : Array Value) (Zc : List (Addr × Value)) (V : Nat → AS → Value → World → Prop) (FD : Nat) : Prop :=
  ∀ {κ : Crew} {lb : Nat} {J : Nat → Prop} {c : Cx} {w : World} {j mT : Nat} {b₀ : Frame} {a₀ : Go.Act} {ops₀ : Array Oper} {i₀ : Nat} {rest₀ : List Nat} {k₀ : List Item} {cs : List Frame},
    c.Neat → c.Low w → c.mem = some (κ, .m0, lb, J) → c.par = none → c.lk = 0 → Has Zc c w → j < 4096 →
    (∀ w' (X : AS) v, Hold c w w' → (∀ a, X a → w.heap.size ≤ a.block ∧ a.block < w'.heap.size) → V j X v w' →
      T P Post mT false { c with O := fun a => c.O a ∨ X a } (G (b₀.at (a₀.put ((ops₀[i₀]?).bind (·.dst)) v) (.inRegion ops₀ rest₀ :: k₀)) cs) w') →
    T P Post (mT + FD) false c (G (Frame.enter P d (#[.int .i64 j] ++ caps) .normal) (b₀.at a₀ (.inRegion ops₀ (i₀ :: rest₀) :: k₀) :: cs)) w
/-- the operations of region number id -/
def opsOf (id : Nat) : Code → Option (Array Oper)
  | .region i ops _ => if i = id then some ops else none
  | .seq x y => (opsOf id x).or (opsOf id y)
  | .cond _ x y => (opsOf id x).or (opsOf id y)
  | .block _ x => opsOf id x
  | .loop x => opsOf id x
  | _ => none
theorem Cx.grown_neat {c : Cx} (hn : c.Neat) {w : World} (hb : c.Low w) {X : AS} (hX : ∀ a, X a → w.heap.size ≤ a.block) : Cx.Neat { c with O := fun a => c.O a ∨ X a } :=
  ⟨fun a ha hu => ha.elim (fun h => hn.ou a h hu) (fun h => by have h1 := hb a (.inr (.inl hu)); have h2 := hX a h; omega),
   fun a hz => ⟨fun ha => ha.elim (hn.oz a hz).1 (fun h => by have h1 := hb a (.inr (.inr hz)); have h2 := hX a h; omega), (hn.oz a hz).2⟩⟩
theorem Cx.grown_low {c : Cx} {w w' : World} (hb : c.Low w') {X : AS} (hX : ∀ a, X a → a.block < w'.heap.size) : Cx.Low { c with O := fun a => c.O a ∨ X a } w' := fun a ha => by
  rcases ha with (h | h) | h | h
  · exact hb a (.inl h)
  · exact hX a h
  · exact hb a (.inr (.inl h))
  · exact hb a (.inr (.inr h))
/-- an operation whose value is known -/
theorem T.val {P : Program} {Post : Value → World → Prop} {c : Cx} {bb : Bool} {m : Nat} {w : World} {b : Frame} {a : Go.Act} {k : List Item} {cs : List Frame} {ops : Array Oper} {i : Nat} {rest : List Nat} {o : Oper} (hn : c.Neat) (v : Value)
    (ho : ops[i]? = some o) (hw : Region.wanted o (yielded ops a.tmps) = true) (hk : b.kind ≠ .early)
    (hr : ∀ w1 : World, Hold c w w1 → (execOp a.eval o).run P w1 = .ok (.value v) w1 ∧ ∀ e ∈ (execOp a.eval o).events P w1 #[], ∃ A s, e = ⟨.cell A, false, s⟩ ∧ (c.O A ∨ c.Z A))
    (hT : T P Post m bb c (G (b.at (a.put o.dst v) (.inRegion ops rest :: k)) cs) w) : T P Post (m + 1) bb c (G (b.at a (.inRegion ops (i :: rest) :: k)) cs) w := by
  refine T.quiet hn ho hw hk fun w1 hF hL K hK => ?_
  obtain ⟨e1, e2⟩ := hr w1 hF
  rw [e1]
  refine hK _ (fun e he => ?_) hT
  obtain ⟨A, s, rfl, h⟩ := e2 e he
  exact EvOk.rd s h
/-- a region of this shape: out[i] = do(i) -/
structure TaskRegion (P : Program) (ops : Array Oper) (isV : Value → Prop) : Prop where
  size : ops.size = 7
  want : ∀ (i : Nat) (o : Oper), ops[i]? = some o → o.guard = none
  dst : ∀ (i : Nat) (o : Oper), ops[i]? = some o → o.dst = if i < 6 then some (15 + i) else none
  have7 : ∀ i, i < 7 → ∃ o, ops[i]? = some o
  r0 : ∀ (o : Oper) (a : Go.Act) (w : World) (A : Addr) (R n : Nat), ops[0]? = some o → a.eval (.tmp 4) = .pointer (some A) → w.cell? A = some (.slice (some ⟨R, 0, none⟩) n n) → (execOp a.eval o).run P w = .ok (.value (.slice (some ⟨R, 0, none⟩) n n)) w ∧ (execOp a.eval o).events P w #[] = #[⟨.cell A, false, false⟩]
  r1 : ∀ (o : Oper) (a : Go.Act) (w : World), ops[1]? = some o → (execOp a.eval o).run P w = .ok (.value (a.eval (.tmp 5))) w ∧ (execOp a.eval o).events P w #[] = #[]
  r2 : ∀ (o : Oper) (a : Go.Act) (w : World) (A : Addr) (d : FuncId) (caps : Array Value), ops[2]? = some o → a.eval (.tmp 3) = .pointer (some A) → w.cell? A = some (.func (.func d) #[] caps) → (execOp a.eval o).run P w = .ok (.value (.func (.func d) #[] caps)) w ∧ (execOp a.eval o).events P w #[] = #[⟨.cell A, false, false⟩]
  r3 : ∀ (o : Oper) (a : Go.Act) (w : World), ops[3]? = some o → (execOp a.eval o).run P w = .ok (.value (a.eval (.tmp 5))) w ∧ (execOp a.eval o).events P w #[] = #[]
  r4 : ∀ (o : Oper) (a : Go.Act) (w : World) (d : FuncId) (caps : Array Value), (∃ fn c, P.funcs[d]? = some fn ∧ (fn.name == "runtime.NumGoroutine") = false ∧ fn.body = some c) → ops[4]? = some o → a.eval (.tmp 17) = .func (.func d) #[] caps → (execOp a.eval o).run P w = .ok (.enter d (#[a.eval (.tmp 18)] ++ caps)) w ∧ (execOp a.eval o).events P w #[] = #[]
  r5 : ∀ (o : Oper) (a : Go.Act) (w : World) (R n j : Nat), ops[5]? = some o → a.eval (.tmp 15) = .slice (some ⟨R, 0, none⟩) n n → a.eval (.tmp 16) = .int .i64 (j : Int) → j < n → (execOp a.eval o).run P w = .ok (.value (.pointer (some ⟨R, j, none⟩))) w ∧ (execOp a.eval o).events P w #[] = #[]
  r6 : ∀ (o : Oper) (a : Go.Act) (w : World) (A : Addr) (u : Value), ops[6]? = some o → a.eval (.tmp 20) = .pointer (some A) → isV (a.eval (.tmp 19)) → w.cell? A = some u → w.frozen? A = false → (execOp a.eval o).run P w = .ok .skip (w.setCell A (a.eval (.tmp 19))) ∧ (execOp a.eval o).events P w #[] = #[⟨.cell A, true, false⟩]
  qa0123 : Region.ready .any ops #[true, true, true, true, false, false, false] = [4]
  qa012 : Region.ready .any ops #[true, true, true, false, false, false, false] = [3]
  qa013 : Region.ready .any ops #[true, true, false, true, false, false, false] = [2]
  qa01 : Region.ready .any ops #[true, true, false, false, false, false, false] = [2, 3]
  qb0123 : Region.ready .any ops #[true, true, true, true, true, false, false] = [5]
  qa023 : Region.ready .any ops #[true, false, true, true, false, false, false] = [1, 4]
  qa02 : Region.ready .any ops #[true, false, true, false, false, false, false] = [1, 3]
  qa03 : Region.ready .any ops #[true, false, false, true, false, false, false] = [1, 2]
  qa0 : Region.ready .any ops #[true, false, false, false, false, false, false] = [1, 2, 3]
  qb023 : Region.ready .any ops #[true, false, true, true, true, false, false] = [1]
  qa123 : Region.ready .any ops #[false, true, true, true, false, false, false] = [0, 4]
  qa12 : Region.ready .any ops #[false, true, true, false, false, false, false] = [0, 3]
  qa13 : Region.ready .any ops #[false, true, false, true, false, false, false] = [0, 2]
  qa1 : Region.ready .any ops #[false, true, false, false, false, false, false] = [0, 2, 3]
  qb123 : Region.ready .any ops #[false, true, true, true, true, false, false] = [0]
  qa23 : Region.ready .any ops #[false, false, true, true, false, false, false] = [0, 1, 4]
  qa2 : Region.ready .any ops #[false, false, true, false, false, false, false] = [0, 1, 3]
  qa3 : Region.ready .any ops #[false, false, false, true, false, false, false] = [0, 1, 2]
  qa : Region.ready .any ops #[false, false, false, false, false, false, false] = [0, 1, 2, 3]
  qb23 : Region.ready .any ops #[false, false, true, true, true, false, false] = [0, 1]
  qb01235 : Region.ready .any ops #[true, true, true, true, true, true, false] = [6]
set_option maxRecDepth 10000 in
set_option maxHeartbeats 4000000 in
theorem task_gen {P : Program} {Post : Value → World → Prop} {ops : Array Oper} {isV : Value → Prop} (hR : TaskRegion P ops isV) {κ : Crew} {lb : Nat} {J : Nat → Prop} {c : Cx} {w : World} {d : FuncId} {caps : Array Value} {Zc : List (Addr × Value)} {V : Nat → AS → Value → World → Prop} {FD : Nat} (hdo : TaskOk P Post d caps Zc V FD)
    (hfn : ∃ fn c, P.funcs[d]? = some fn ∧ (fn.name == "runtime.NumGoroutine") = false ∧ fn.body = some c) (hmix : P.follows .mixedOrders = true)
    (hVt : ∀ j X v w, V j X v w → isV v) {R n : Nat} {db ob : Addr} {j mT : Nat} (hn : c.Neat) (hb : c.Low w) (hm : c.mem = some (κ, .m0, lb, J)) (hp : c.par = none) (hl : c.lk = 0) (hZ : Has Zc c w)
    (hzd : c.Z db ∧ w.cell? db = some (.func (.func d) #[] caps)) (hzo : c.Z ob ∧ w.cell? ob = some (.slice (some ⟨R, 0, none⟩) n n)) (hj : j < n) (hj2 : j < 4096) (hO : c.O ⟨R, j, none⟩) (hex : ∃ u, w.cell? ⟨R, j, none⟩ = some u) (hfz : w.frozen? ⟨R, j, none⟩ = false)
    {fr : Frame} (hk : fr.kind ≠ .early) {ds : List Deferred} {k : List Item} {cs : List Frame} {v0 v1 v2 v6 v7 v8 v9 v10 v11 v12 v13 v14 x15 x16 x17 x18 x19 x20 : Value} {id : Nat}
    (hT : ∀ w' (X : AS) vv, Hold c w w' → (∀ a, X a → w.heap.size ≤ a.block ∧ a.block < w'.heap.size) → V j X vv w' → T P Post (mT) false ({ c with O := fun a => c.O a ∨ X a }) (G (fr.at ⟨#[v0, v1, v2, .pointer (some db), .pointer (some ob), .int .i64 (j : Int), v6, v7, v8, v9, v10, v11, v12, v13, v14, .slice (some ⟨R, 0, none⟩) n n, .int .i64 (j : Int), .func (.func d) #[] caps, .int .i64 (j : Int), vv, .pointer (some ⟨R, j, none⟩)], ds⟩ (.inRegion ops ([]) :: k)) cs) (w'.setCell ⟨R, j, none⟩ vv)) :
    T P Post (mT + FD + 20) false c (G (fr.at ⟨#[v0, v1, v2, .pointer (some db), .pointer (some ob), .int .i64 (j : Int), v6, v7, v8, v9, v10, v11, v12, v13, v14, x15, x16, x17, x18, x19, x20], ds⟩ (.code (.region id ops true) :: k)) cs) w := by
  have hw : ∀ (i : Nat) (o : Oper) y, ops[i]? = some o → Region.wanted o y = true := fun i o y h => by unfold Region.wanted; rw [hR.want i o h]
  obtain ⟨o0, h0⟩ := hR.have7 0 (by omega)
  obtain ⟨o1, h1⟩ := hR.have7 1 (by omega)
  obtain ⟨o2, h2⟩ := hR.have7 2 (by omega)
  obtain ⟨o3, h3⟩ := hR.have7 3 (by omega)
  obtain ⟨o4, h4⟩ := hR.have7 4 (by omega)
  obtain ⟨o5, h5⟩ := hR.have7 5 (by omega)
  obtain ⟨o6, h6⟩ := hR.have7 6 (by omega)
  have d0 : o0.dst = some 15 := hR.dst 0 o0 h0
  have d1 : o1.dst = some 16 := hR.dst 1 o1 h1
  have d2 : o2.dst = some 17 := hR.dst 2 o2 h2
  have d3 : o3.dst = some 18 := hR.dst 3 o3 h3
  have d4 : o4.dst = some 19 := hR.dst 4 o4 h4
  have d5 : o5.dst = some 20 := hR.dst 5 o5 h5
  have d6 : o6.dst = none := hR.dst 6 o6 h6
  obtain ⟨hzd1, hzd2⟩ := hzd
  obtain ⟨hzo1, hzo2⟩ := hzo
  have s6 : ∀ (w' : World) (X : AS) (vv : Value), Hold c w w' → (∀ a, X a → w.heap.size ≤ a.block ∧ a.block < w'.heap.size) → V j X vv w' → ∀ t, T P Post (mT + 1) false ({ c with O := fun a => c.O a ∨ X a }) (G (fr.at ⟨#[v0, v1, v2, .pointer (some db), .pointer (some ob), .int .i64 (j : Int), v6, v7, v8, v9, v10, v11, v12, v13, v14, .slice (some ⟨R, 0, none⟩) n n, .int .i64 (j : Int), .func (.func d) #[] caps, .int .i64 (j : Int), vv, .pointer (some ⟨R, j, none⟩)], ds⟩ (.inRegion ops (Region.linearise.go .any ops 1 t #[true, true, true, true, true, true, false] []) :: k)) cs) w' := by
    intro w' X vv hH hX hV t
    have hn1 : Cx.Neat { c with O := fun a => c.O a ∨ X a } := Cx.grown_neat hn hb (fun a h => (hX a h).1)
    refine T.any [6] hR.qb01235 (by simp) (fun i hi t => ?_) t
    simp only [List.mem_singleton] at hi
    subst hi
    have hT := hT w' X vv hH hX hV
    obtain ⟨u, hu⟩ := hex
    refine T.store hn1 (.inl hO) (A := ⟨R, j, none⟩) (v := vv) (u := u) ((hH.cell _ (.inl hO)).1.trans hu) ((hH.cell _ (.inl hO)).2.trans hfz) h6 (hw 6 _ _ h6) hk (fun w1 e1 e2 => hR.r6 o6 _ w1 ⟨R, j, none⟩ u h6 rfl (hVt j X vv w' hV) e1 e2) ?_
    rw [d6]
    exact hT
  have s5 : ∀ (w' : World) (X : AS) (vv : Value), Hold c w w' → (∀ a, X a → w.heap.size ≤ a.block ∧ a.block < w'.heap.size) → V j X vv w' → ∀ t, T P Post (mT + 2) false ({ c with O := fun a => c.O a ∨ X a }) (G (fr.at ⟨#[v0, v1, v2, .pointer (some db), .pointer (some ob), .int .i64 (j : Int), v6, v7, v8, v9, v10, v11, v12, v13, v14, .slice (some ⟨R, 0, none⟩) n n, .int .i64 (j : Int), .func (.func d) #[] caps, .int .i64 (j : Int), vv, x20], ds⟩ (.inRegion ops (Region.linearise.go .any ops 2 t #[true, true, true, true, true, false, false] []) :: k)) cs) w' := by
    intro w' X vv hH hX hV t
    have hn1 : Cx.Neat { c with O := fun a => c.O a ∨ X a } := Cx.grown_neat hn hb (fun a h => (hX a h).1)
    refine T.any [5] hR.qb0123 (by simp) (fun i hi t => ?_) t
    simp only [List.mem_singleton] at hi
    subst hi
    have nx := s6 w' X vv hH hX hV t
    refine T.val hn1 (.pointer (some ⟨R, j, none⟩)) h5 (hw 5 _ _ h5) hk (fun w1 _ => ⟨(hR.r5 o5 _ w1 R n j h5 rfl rfl hj).1, fun e he => by rw [(hR.r5 o5 _ w1 R n j h5 rfl rfl hj).2] at he; simp at he⟩) ?_
    rw [d5]
    walk_nrm
    exact nx
  have b023 : ∀ (w' : World) (X : AS) (vv : Value), Hold c w w' → (∀ a, X a → w.heap.size ≤ a.block ∧ a.block < w'.heap.size) → V j X vv w' → ∀ t, T P Post (mT + 3) false ({ c with O := fun a => c.O a ∨ X a }) (G (fr.at ⟨#[v0, v1, v2, .pointer (some db), .pointer (some ob), .int .i64 (j : Int), v6, v7, v8, v9, v10, v11, v12, v13, v14, .slice (some ⟨R, 0, none⟩) n n, x16, .func (.func d) #[] caps, .int .i64 (j : Int), vv, x20], ds⟩ (.inRegion ops (Region.linearise.go .any ops 3 t #[true, false, true, true, true, false, false] []) :: k)) cs) w' := by
    intro w' X vv hH hX hV t
    have hn1 : Cx.Neat { c with O := fun a => c.O a ∨ X a } := Cx.grown_neat hn hb (fun a h => (hX a h).1)
    have hzo3 := (hH.cell _ (.inr (.inr hzo1))).1.trans hzo2
    refine T.any [1] hR.qb023 (by simp) (fun i hi t => ?_) t
    simp only [List.mem_cons, List.not_mem_nil, or_false] at hi
    subst hi
    have nx := s5 w' X vv hH hX hV t
    refine T.val hn1 (.int .i64 (j : Int)) h1 (hw 1 _ _ h1) hk (fun w1 _ => ⟨(hR.r1 o1 _ w1 h1).1, fun e he => by rw [(hR.r1 o1 _ w1 h1).2] at he; simp at he⟩) ?_
    rw [d1]
    walk_nrm
    exact nx
  have b123 : ∀ (w' : World) (X : AS) (vv : Value), Hold c w w' → (∀ a, X a → w.heap.size ≤ a.block ∧ a.block < w'.heap.size) → V j X vv w' → ∀ t, T P Post (mT + 3) false ({ c with O := fun a => c.O a ∨ X a }) (G (fr.at ⟨#[v0, v1, v2, .pointer (some db), .pointer (some ob), .int .i64 (j : Int), v6, v7, v8, v9, v10, v11, v12, v13, v14, x15, .int .i64 (j : Int), .func (.func d) #[] caps, .int .i64 (j : Int), vv, x20], ds⟩ (.inRegion ops (Region.linearise.go .any ops 3 t #[false, true, true, true, true, false, false] []) :: k)) cs) w' := by
    intro w' X vv hH hX hV t
    have hn1 : Cx.Neat { c with O := fun a => c.O a ∨ X a } := Cx.grown_neat hn hb (fun a h => (hX a h).1)
    have hzo3 := (hH.cell _ (.inr (.inr hzo1))).1.trans hzo2
    refine T.any [0] hR.qb123 (by simp) (fun i hi t => ?_) t
    simp only [List.mem_cons, List.not_mem_nil, or_false] at hi
    subst hi
    have nx := s5 w' X vv hH hX hV t
    refine T.val hn1 (.slice (some ⟨R, 0, none⟩) n n) h0 (hw 0 _ _ h0) hk (fun w1 hF => ⟨(hR.r0 o0 _ w1 ob R n h0 rfl ((hF.cell _ (.inr (.inr hzo1))).1.trans hzo3)).1, fun e he => by rw [(hR.r0 o0 _ w1 ob R n h0 rfl ((hF.cell _ (.inr (.inr hzo1))).1.trans hzo3)).2] at he; simp at he; exact ⟨_, _, he, .inr hzo1⟩⟩) ?_
    rw [d0]
    walk_nrm
    exact nx
  have b23 : ∀ (w' : World) (X : AS) (vv : Value), Hold c w w' → (∀ a, X a → w.heap.size ≤ a.block ∧ a.block < w'.heap.size) → V j X vv w' → ∀ t, T P Post (mT + 4) false ({ c with O := fun a => c.O a ∨ X a }) (G (fr.at ⟨#[v0, v1, v2, .pointer (some db), .pointer (some ob), .int .i64 (j : Int), v6, v7, v8, v9, v10, v11, v12, v13, v14, x15, x16, .func (.func d) #[] caps, .int .i64 (j : Int), vv, x20], ds⟩ (.inRegion ops (Region.linearise.go .any ops 4 t #[false, false, true, true, true, false, false] []) :: k)) cs) w' := by
    intro w' X vv hH hX hV t
    have hn1 : Cx.Neat { c with O := fun a => c.O a ∨ X a } := Cx.grown_neat hn hb (fun a h => (hX a h).1)
    have hzo3 := (hH.cell _ (.inr (.inr hzo1))).1.trans hzo2
    refine T.any [0, 1] hR.qb23 (by simp) (fun i hi t => ?_) t
    simp only [List.mem_cons, List.not_mem_nil, or_false] at hi
    rcases hi with rfl | rfl
    · have nx := b023 w' X vv hH hX hV t
      refine T.val hn1 (.slice (some ⟨R, 0, none⟩) n n) h0 (hw 0 _ _ h0) hk (fun w1 hF => ⟨(hR.r0 o0 _ w1 ob R n h0 rfl ((hF.cell _ (.inr (.inr hzo1))).1.trans hzo3)).1, fun e he => by rw [(hR.r0 o0 _ w1 ob R n h0 rfl ((hF.cell _ (.inr (.inr hzo1))).1.trans hzo3)).2] at he; simp at he; exact ⟨_, _, he, .inr hzo1⟩⟩) ?_
      rw [d0]
      walk_nrm
      exact nx
    · have nx := b123 w' X vv hH hX hV t
      refine T.val hn1 (.int .i64 (j : Int)) h1 (hw 1 _ _ h1) hk (fun w1 _ => ⟨(hR.r1 o1 _ w1 h1).1, fun e he => by rw [(hR.r1 o1 _ w1 h1).2] at he; simp at he⟩) ?_
      rw [d1]
      walk_nrm
      exact nx
  have a0123 : ∀ t, T P Post (mT + FD + 3) false (c) (G (fr.at ⟨#[v0, v1, v2, .pointer (some db), .pointer (some ob), .int .i64 (j : Int), v6, v7, v8, v9, v10, v11, v12, v13, v14, .slice (some ⟨R, 0, none⟩) n n, .int .i64 (j : Int), .func (.func d) #[] caps, .int .i64 (j : Int), x19, x20], ds⟩ (.inRegion ops (Region.linearise.go .any ops 3 t #[true, true, true, true, false, false, false] []) :: k)) cs) w := by
    intro t
    refine T.any [4] hR.qa0123 (by simp) (fun i hi t => ?_) t
    simp only [List.mem_cons, List.not_mem_nil, or_false] at hi
    subst hi
    refine T.enter hn h4 (hw 4 _ _ h4) hk (f := d) (args := #[.int .i64 (j : Int)] ++ caps) (fun w1 => hR.r4 o4 _ w1 d caps hfn h4 rfl) ?_
    refine T.le (m := (mT + 2) + FD) (by omega) (hdo hn hb hm hp hl hZ hj2 (fun w' X v hH hX hV => ?_))
    have nx := s5 w' X v hH hX hV t
    rw [h4]
    simp only [Option.bind_some, d4]
    walk_nrm
    exact nx
  have a023 : ∀ t, T P Post (mT + FD + 4) false (c) (G (fr.at ⟨#[v0, v1, v2, .pointer (some db), .pointer (some ob), .int .i64 (j : Int), v6, v7, v8, v9, v10, v11, v12, v13, v14, .slice (some ⟨R, 0, none⟩) n n, x16, .func (.func d) #[] caps, .int .i64 (j : Int), x19, x20], ds⟩ (.inRegion ops (Region.linearise.go .any ops 4 t #[true, false, true, true, false, false, false] []) :: k)) cs) w := by
    intro t
    refine T.any [1, 4] hR.qa023 (by simp) (fun i hi t => ?_) t
    simp only [List.mem_cons, List.not_mem_nil, or_false] at hi
    rcases hi with rfl | rfl
    · have nx := a0123 t
      refine T.val hn (.int .i64 (j : Int)) h1 (hw 1 _ _ h1) hk (fun w1 _ => ⟨(hR.r1 o1 _ w1 h1).1, fun e he => by rw [(hR.r1 o1 _ w1 h1).2] at he; simp at he⟩) ?_
      rw [d1]
      walk_nrm
      exact nx
    · refine T.enter hn h4 (hw 4 _ _ h4) hk (f := d) (args := #[.int .i64 (j : Int)] ++ caps) (fun w1 => hR.r4 o4 _ w1 d caps hfn h4 rfl) ?_
      refine T.le (m := (mT + 3) + FD) (by omega) (hdo hn hb hm hp hl hZ hj2 (fun w' X v hH hX hV => ?_))
      have nx := b023 w' X v hH hX hV t
      rw [h4]
      simp only [Option.bind_some, d4]
      walk_nrm
      exact nx
  have a123 : ∀ t, T P Post (mT + FD + 4) false (c) (G (fr.at ⟨#[v0, v1, v2, .pointer (some db), .pointer (some ob), .int .i64 (j : Int), v6, v7, v8, v9, v10, v11, v12, v13, v14, x15, .int .i64 (j : Int), .func (.func d) #[] caps, .int .i64 (j : Int), x19, x20], ds⟩ (.inRegion ops (Region.linearise.go .any ops 4 t #[false, true, true, true, false, false, false] []) :: k)) cs) w := by
    intro t
    refine T.any [0, 4] hR.qa123 (by simp) (fun i hi t => ?_) t
    simp only [List.mem_cons, List.not_mem_nil, or_false] at hi
    rcases hi with rfl | rfl
    · have nx := a0123 t
      refine T.val hn (.slice (some ⟨R, 0, none⟩) n n) h0 (hw 0 _ _ h0) hk (fun w1 hF => ⟨(hR.r0 o0 _ w1 ob R n h0 rfl ((hF.cell _ (.inr (.inr hzo1))).1.trans hzo2)).1, fun e he => by rw [(hR.r0 o0 _ w1 ob R n h0 rfl ((hF.cell _ (.inr (.inr hzo1))).1.trans hzo2)).2] at he; simp at he; exact ⟨_, _, he, .inr hzo1⟩⟩) ?_
      rw [d0]
      walk_nrm
      exact nx
    · refine T.enter hn h4 (hw 4 _ _ h4) hk (f := d) (args := #[.int .i64 (j : Int)] ++ caps) (fun w1 => hR.r4 o4 _ w1 d caps hfn h4 rfl) ?_
      refine T.le (m := (mT + 3) + FD) (by omega) (hdo hn hb hm hp hl hZ hj2 (fun w' X v hH hX hV => ?_))
      have nx := b123 w' X v hH hX hV t
      rw [h4]
      simp only [Option.bind_some, d4]
      walk_nrm
      exact nx
  have a23 : ∀ t, T P Post (mT + FD + 5) false (c) (G (fr.at ⟨#[v0, v1, v2, .pointer (some db), .pointer (some ob), .int .i64 (j : Int), v6, v7, v8, v9, v10, v11, v12, v13, v14, x15, x16, .func (.func d) #[] caps, .int .i64 (j : Int), x19, x20], ds⟩ (.inRegion ops (Region.linearise.go .any ops 5 t #[false, false, true, true, false, false, false] []) :: k)) cs) w := by
    intro t
    refine T.any [0, 1, 4] hR.qa23 (by simp) (fun i hi t => ?_) t
    simp only [List.mem_cons, List.not_mem_nil, or_false] at hi
    rcases hi with rfl | rfl | rfl
    · have nx := a023 t
      refine T.val hn (.slice (some ⟨R, 0, none⟩) n n) h0 (hw 0 _ _ h0) hk (fun w1 hF => ⟨(hR.r0 o0 _ w1 ob R n h0 rfl ((hF.cell _ (.inr (.inr hzo1))).1.trans hzo2)).1, fun e he => by rw [(hR.r0 o0 _ w1 ob R n h0 rfl ((hF.cell _ (.inr (.inr hzo1))).1.trans hzo2)).2] at he; simp at he; exact ⟨_, _, he, .inr hzo1⟩⟩) ?_
      rw [d0]
      walk_nrm
      exact nx
    · have nx := a123 t
      refine T.val hn (.int .i64 (j : Int)) h1 (hw 1 _ _ h1) hk (fun w1 _ => ⟨(hR.r1 o1 _ w1 h1).1, fun e he => by rw [(hR.r1 o1 _ w1 h1).2] at he; simp at he⟩) ?_
      rw [d1]
      walk_nrm
      exact nx
    · refine T.enter hn h4 (hw 4 _ _ h4) hk (f := d) (args := #[.int .i64 (j : Int)] ++ caps) (fun w1 => hR.r4 o4 _ w1 d caps hfn h4 rfl) ?_
      refine T.le (m := (mT + 4) + FD) (by omega) (hdo hn hb hm hp hl hZ hj2 (fun w' X v hH hX hV => ?_))
      have nx := b23 w' X v hH hX hV t
      rw [h4]
      simp only [Option.bind_some, d4]
      walk_nrm
      exact nx
  have a012 : ∀ t, T P Post (mT + FD + 4) false (c) (G (fr.at ⟨#[v0, v1, v2, .pointer (some db), .pointer (some ob), .int .i64 (j : Int), v6, v7, v8, v9, v10, v11, v12, v13, v14, .slice (some ⟨R, 0, none⟩) n n, .int .i64 (j : Int), .func (.func d) #[] caps, x18, x19, x20], ds⟩ (.inRegion ops (Region.linearise.go .any ops 4 t #[true, true, true, false, false, false, false] []) :: k)) cs) w := by
    intro t
    refine T.any [3] hR.qa012 (by simp) (fun i hi t => ?_) t
    simp only [List.mem_cons, List.not_mem_nil, or_false] at hi
    subst hi
    have nx := a0123 t
    refine T.val hn (.int .i64 (j : Int)) h3 (hw 3 _ _ h3) hk (fun w1 _ => ⟨(hR.r3 o3 _ w1 h3).1, fun e he => by rw [(hR.r3 o3 _ w1 h3).2] at he; simp at he⟩) ?_
    rw [d3]
    walk_nrm
    exact nx
  have a02 : ∀ t, T P Post (mT + FD + 5) false (c) (G (fr.at ⟨#[v0, v1, v2, .pointer (some db), .pointer (some ob), .int .i64 (j : Int), v6, v7, v8, v9, v10, v11, v12, v13, v14, .slice (some ⟨R, 0, none⟩) n n, x16, .func (.func d) #[] caps, x18, x19, x20], ds⟩ (.inRegion ops (Region.linearise.go .any ops 5 t #[true, false, true, false, false, false, false] []) :: k)) cs) w := by
    intro t
    refine T.any [1, 3] hR.qa02 (by simp) (fun i hi t => ?_) t
    simp only [List.mem_cons, List.not_mem_nil, or_false] at hi
    rcases hi with rfl | rfl
    · have nx := a012 t
      refine T.val hn (.int .i64 (j : Int)) h1 (hw 1 _ _ h1) hk (fun w1 _ => ⟨(hR.r1 o1 _ w1 h1).1, fun e he => by rw [(hR.r1 o1 _ w1 h1).2] at he; simp at he⟩) ?_
      rw [d1]
      walk_nrm
      exact nx
    · have nx := a023 t
      refine T.val hn (.int .i64 (j : Int)) h3 (hw 3 _ _ h3) hk (fun w1 _ => ⟨(hR.r3 o3 _ w1 h3).1, fun e he => by rw [(hR.r3 o3 _ w1 h3).2] at he; simp at he⟩) ?_
      rw [d3]
      walk_nrm
      exact nx
  have a12 : ∀ t, T P Post (mT + FD + 5) false (c) (G (fr.at ⟨#[v0, v1, v2, .pointer (some db), .pointer (some ob), .int .i64 (j : Int), v6, v7, v8, v9, v10, v11, v12, v13, v14, x15, .int .i64 (j : Int), .func (.func d) #[] caps, x18, x19, x20], ds⟩ (.inRegion ops (Region.linearise.go .any ops 5 t #[false, true, true, false, false, false, false] []) :: k)) cs) w := by
    intro t
    refine T.any [0, 3] hR.qa12 (by simp) (fun i hi t => ?_) t
    simp only [List.mem_cons, List.not_mem_nil, or_false] at hi
    rcases hi with rfl | rfl
    · have nx := a012 t
      refine T.val hn (.slice (some ⟨R, 0, none⟩) n n) h0 (hw 0 _ _ h0) hk (fun w1 hF => ⟨(hR.r0 o0 _ w1 ob R n h0 rfl ((hF.cell _ (.inr (.inr hzo1))).1.trans hzo2)).1, fun e he => by rw [(hR.r0 o0 _ w1 ob R n h0 rfl ((hF.cell _ (.inr (.inr hzo1))).1.trans hzo2)).2] at he; simp at he; exact ⟨_, _, he, .inr hzo1⟩⟩) ?_
      rw [d0]
      walk_nrm
      exact nx
    · have nx := a123 t
      refine T.val hn (.int .i64 (j : Int)) h3 (hw 3 _ _ h3) hk (fun w1 _ => ⟨(hR.r3 o3 _ w1 h3).1, fun e he => by rw [(hR.r3 o3 _ w1 h3).2] at he; simp at he⟩) ?_
      rw [d3]
      walk_nrm
      exact nx
  have a2 : ∀ t, T P Post (mT + FD + 6) false (c) (G (fr.at ⟨#[v0, v1, v2, .pointer (some db), .pointer (some ob), .int .i64 (j : Int), v6, v7, v8, v9, v10, v11, v12, v13, v14, x15, x16, .func (.func d) #[] caps, x18, x19, x20], ds⟩ (.inRegion ops (Region.linearise.go .any ops 6 t #[false, false, true, false, false, false, false] []) :: k)) cs) w := by
    intro t
    refine T.any [0, 1, 3] hR.qa2 (by simp) (fun i hi t => ?_) t
    simp only [List.mem_cons, List.not_mem_nil, or_false] at hi
    rcases hi with rfl | rfl | rfl
    · have nx := a02 t
      refine T.val hn (.slice (some ⟨R, 0, none⟩) n n) h0 (hw 0 _ _ h0) hk (fun w1 hF => ⟨(hR.r0 o0 _ w1 ob R n h0 rfl ((hF.cell _ (.inr (.inr hzo1))).1.trans hzo2)).1, fun e he => by rw [(hR.r0 o0 _ w1 ob R n h0 rfl ((hF.cell _ (.inr (.inr hzo1))).1.trans hzo2)).2] at he; simp at he; exact ⟨_, _, he, .inr hzo1⟩⟩) ?_
      rw [d0]
      walk_nrm
      exact nx
    · have nx := a12 t
      refine T.val hn (.int .i64 (j : Int)) h1 (hw 1 _ _ h1) hk (fun w1 _ => ⟨(hR.r1 o1 _ w1 h1).1, fun e he => by rw [(hR.r1 o1 _ w1 h1).2] at he; simp at he⟩) ?_
      rw [d1]
      walk_nrm
      exact nx
    · have nx := a23 t
      refine T.val hn (.int .i64 (j : Int)) h3 (hw 3 _ _ h3) hk (fun w1 _ => ⟨(hR.r3 o3 _ w1 h3).1, fun e he => by rw [(hR.r3 o3 _ w1 h3).2] at he; simp at he⟩) ?_
      rw [d3]
      walk_nrm
      exact nx
  have a013 : ∀ t, T P Post (mT + FD + 4) false (c) (G (fr.at ⟨#[v0, v1, v2, .pointer (some db), .pointer (some ob), .int .i64 (j : Int), v6, v7, v8, v9, v10, v11, v12, v13, v14, .slice (some ⟨R, 0, none⟩) n n, .int .i64 (j : Int), x17, .int .i64 (j : Int), x19, x20], ds⟩ (.inRegion ops (Region.linearise.go .any ops 4 t #[true, true, false, true, false, false, false] []) :: k)) cs) w := by
    intro t
    refine T.any [2] hR.qa013 (by simp) (fun i hi t => ?_) t
    simp only [List.mem_cons, List.not_mem_nil, or_false] at hi
    subst hi
    have nx := a0123 t
    refine T.val hn (.func (.func d) #[] caps) h2 (hw 2 _ _ h2) hk (fun w1 hF => ⟨(hR.r2 o2 _ w1 db d caps h2 rfl ((hF.cell _ (.inr (.inr hzd1))).1.trans hzd2)).1, fun e he => by rw [(hR.r2 o2 _ w1 db d caps h2 rfl ((hF.cell _ (.inr (.inr hzd1))).1.trans hzd2)).2] at he; simp at he; exact ⟨_, _, he, .inr hzd1⟩⟩) ?_
    rw [d2]
    walk_nrm
    exact nx
  have a03 : ∀ t, T P Post (mT + FD + 5) false (c) (G (fr.at ⟨#[v0, v1, v2, .pointer (some db), .pointer (some ob), .int .i64 (j : Int), v6, v7, v8, v9, v10, v11, v12, v13, v14, .slice (some ⟨R, 0, none⟩) n n, x16, x17, .int .i64 (j : Int), x19, x20], ds⟩ (.inRegion ops (Region.linearise.go .any ops 5 t #[true, false, false, true, false, false, false] []) :: k)) cs) w := by
    intro t
    refine T.any [1, 2] hR.qa03 (by simp) (fun i hi t => ?_) t
    simp only [List.mem_cons, List.not_mem_nil, or_false] at hi
    rcases hi with rfl | rfl
    · have nx := a013 t
      refine T.val hn (.int .i64 (j : Int)) h1 (hw 1 _ _ h1) hk (fun w1 _ => ⟨(hR.r1 o1 _ w1 h1).1, fun e he => by rw [(hR.r1 o1 _ w1 h1).2] at he; simp at he⟩) ?_
      rw [d1]
      walk_nrm
      exact nx
    · have nx := a023 t
      refine T.val hn (.func (.func d) #[] caps) h2 (hw 2 _ _ h2) hk (fun w1 hF => ⟨(hR.r2 o2 _ w1 db d caps h2 rfl ((hF.cell _ (.inr (.inr hzd1))).1.trans hzd2)).1, fun e he => by rw [(hR.r2 o2 _ w1 db d caps h2 rfl ((hF.cell _ (.inr (.inr hzd1))).1.trans hzd2)).2] at he; simp at he; exact ⟨_, _, he, .inr hzd1⟩⟩) ?_
      rw [d2]
      walk_nrm
      exact nx
  have a13 : ∀ t, T P Post (mT + FD + 5) false (c) (G (fr.at ⟨#[v0, v1, v2, .pointer (some db), .pointer (some ob), .int .i64 (j : Int), v6, v7, v8, v9, v10, v11, v12, v13, v14, x15, .int .i64 (j : Int), x17, .int .i64 (j : Int), x19, x20], ds⟩ (.inRegion ops (Region.linearise.go .any ops 5 t #[false, true, false, true, false, false, false] []) :: k)) cs) w := by
    intro t
    refine T.any [0, 2] hR.qa13 (by simp) (fun i hi t => ?_) t
    simp only [List.mem_cons, List.not_mem_nil, or_false] at hi
    rcases hi with rfl | rfl
    · have nx := a013 t
      refine T.val hn (.slice (some ⟨R, 0, none⟩) n n) h0 (hw 0 _ _ h0) hk (fun w1 hF => ⟨(hR.r0 o0 _ w1 ob R n h0 rfl ((hF.cell _ (.inr (.inr hzo1))).1.trans hzo2)).1, fun e he => by rw [(hR.r0 o0 _ w1 ob R n h0 rfl ((hF.cell _ (.inr (.inr hzo1))).1.trans hzo2)).2] at he; simp at he; exact ⟨_, _, he, .inr hzo1⟩⟩) ?_
      rw [d0]
      walk_nrm
      exact nx
    · have nx := a123 t
      refine T.val hn (.func (.func d) #[] caps) h2 (hw 2 _ _ h2) hk (fun w1 hF => ⟨(hR.r2 o2 _ w1 db d caps h2 rfl ((hF.cell _ (.inr (.inr hzd1))).1.trans hzd2)).1, fun e he => by rw [(hR.r2 o2 _ w1 db d caps h2 rfl ((hF.cell _ (.inr (.inr hzd1))).1.trans hzd2)).2] at he; simp at he; exact ⟨_, _, he, .inr hzd1⟩⟩) ?_
      rw [d2]
      walk_nrm
      exact nx
  have a3 : ∀ t, T P Post (mT + FD + 6) false (c) (G (fr.at ⟨#[v0, v1, v2, .pointer (some db), .pointer (some ob), .int .i64 (j : Int), v6, v7, v8, v9, v10, v11, v12, v13, v14, x15, x16, x17, .int .i64 (j : Int), x19, x20], ds⟩ (.inRegion ops (Region.linearise.go .any ops 6 t #[false, false, false, true, false, false, false] []) :: k)) cs) w := by
    intro t
    refine T.any [0, 1, 2] hR.qa3 (by simp) (fun i hi t => ?_) t
    simp only [List.mem_cons, List.not_mem_nil, or_false] at hi
    rcases hi with rfl | rfl | rfl
    · have nx := a03 t
      refine T.val hn (.slice (some ⟨R, 0, none⟩) n n) h0 (hw 0 _ _ h0) hk (fun w1 hF => ⟨(hR.r0 o0 _ w1 ob R n h0 rfl ((hF.cell _ (.inr (.inr hzo1))).1.trans hzo2)).1, fun e he => by rw [(hR.r0 o0 _ w1 ob R n h0 rfl ((hF.cell _ (.inr (.inr hzo1))).1.trans hzo2)).2] at he; simp at he; exact ⟨_, _, he, .inr hzo1⟩⟩) ?_
      rw [d0]
      walk_nrm
      exact nx
    · have nx := a13 t
      refine T.val hn (.int .i64 (j : Int)) h1 (hw 1 _ _ h1) hk (fun w1 _ => ⟨(hR.r1 o1 _ w1 h1).1, fun e he => by rw [(hR.r1 o1 _ w1 h1).2] at he; simp at he⟩) ?_
      rw [d1]
      walk_nrm
      exact nx
    · have nx := a23 t
      refine T.val hn (.func (.func d) #[] caps) h2 (hw 2 _ _ h2) hk (fun w1 hF => ⟨(hR.r2 o2 _ w1 db d caps h2 rfl ((hF.cell _ (.inr (.inr hzd1))).1.trans hzd2)).1, fun e he => by rw [(hR.r2 o2 _ w1 db d caps h2 rfl ((hF.cell _ (.inr (.inr hzd1))).1.trans hzd2)).2] at he; simp at he; exact ⟨_, _, he, .inr hzd1⟩⟩) ?_
      rw [d2]
      walk_nrm
      exact nx
  have a01 : ∀ t, T P Post (mT + FD + 5) false (c) (G (fr.at ⟨#[v0, v1, v2, .pointer (some db), .pointer (some ob), .int .i64 (j : Int), v6, v7, v8, v9, v10, v11, v12, v13, v14, .slice (some ⟨R, 0, none⟩) n n, .int .i64 (j : Int), x17, x18, x19, x20], ds⟩ (.inRegion ops (Region.linearise.go .any ops 5 t #[true, true, false, false, false, false, false] []) :: k)) cs) w := by
    intro t
    refine T.any [2, 3] hR.qa01 (by simp) (fun i hi t => ?_) t
    simp only [List.mem_cons, List.not_mem_nil, or_false] at hi
    rcases hi with rfl | rfl
    · have nx := a012 t
      refine T.val hn (.func (.func d) #[] caps) h2 (hw 2 _ _ h2) hk (fun w1 hF => ⟨(hR.r2 o2 _ w1 db d caps h2 rfl ((hF.cell _ (.inr (.inr hzd1))).1.trans hzd2)).1, fun e he => by rw [(hR.r2 o2 _ w1 db d caps h2 rfl ((hF.cell _ (.inr (.inr hzd1))).1.trans hzd2)).2] at he; simp at he; exact ⟨_, _, he, .inr hzd1⟩⟩) ?_
      rw [d2]
      walk_nrm
      exact nx
    · have nx := a013 t
      refine T.val hn (.int .i64 (j : Int)) h3 (hw 3 _ _ h3) hk (fun w1 _ => ⟨(hR.r3 o3 _ w1 h3).1, fun e he => by rw [(hR.r3 o3 _ w1 h3).2] at he; simp at he⟩) ?_
      rw [d3]
      walk_nrm
      exact nx
  have a0 : ∀ t, T P Post (mT + FD + 6) false (c) (G (fr.at ⟨#[v0, v1, v2, .pointer (some db), .pointer (some ob), .int .i64 (j : Int), v6, v7, v8, v9, v10, v11, v12, v13, v14, .slice (some ⟨R, 0, none⟩) n n, x16, x17, x18, x19, x20], ds⟩ (.inRegion ops (Region.linearise.go .any ops 6 t #[true, false, false, false, false, false, false] []) :: k)) cs) w := by
    intro t
    refine T.any [1, 2, 3] hR.qa0 (by simp) (fun i hi t => ?_) t
    simp only [List.mem_cons, List.not_mem_nil, or_false] at hi
    rcases hi with rfl | rfl | rfl
    · have nx := a01 t
      refine T.val hn (.int .i64 (j : Int)) h1 (hw 1 _ _ h1) hk (fun w1 _ => ⟨(hR.r1 o1 _ w1 h1).1, fun e he => by rw [(hR.r1 o1 _ w1 h1).2] at he; simp at he⟩) ?_
      rw [d1]
      walk_nrm
      exact nx
    · have nx := a02 t
      refine T.val hn (.func (.func d) #[] caps) h2 (hw 2 _ _ h2) hk (fun w1 hF => ⟨(hR.r2 o2 _ w1 db d caps h2 rfl ((hF.cell _ (.inr (.inr hzd1))).1.trans hzd2)).1, fun e he => by rw [(hR.r2 o2 _ w1 db d caps h2 rfl ((hF.cell _ (.inr (.inr hzd1))).1.trans hzd2)).2] at he; simp at he; exact ⟨_, _, he, .inr hzd1⟩⟩) ?_
      rw [d2]
      walk_nrm
      exact nx
    · have nx := a03 t
      refine T.val hn (.int .i64 (j : Int)) h3 (hw 3 _ _ h3) hk (fun w1 _ => ⟨(hR.r3 o3 _ w1 h3).1, fun e he => by rw [(hR.r3 o3 _ w1 h3).2] at he; simp at he⟩) ?_
      rw [d3]
      walk_nrm
      exact nx
  have a1 : ∀ t, T P Post (mT + FD + 6) false (c) (G (fr.at ⟨#[v0, v1, v2, .pointer (some db), .pointer (some ob), .int .i64 (j : Int), v6, v7, v8, v9, v10, v11, v12, v13, v14, x15, .int .i64 (j : Int), x17, x18, x19, x20], ds⟩ (.inRegion ops (Region.linearise.go .any ops 6 t #[false, true, false, false, false, false, false] []) :: k)) cs) w := by
    intro t
    refine T.any [0, 2, 3] hR.qa1 (by simp) (fun i hi t => ?_) t
    simp only [List.mem_cons, List.not_mem_nil, or_false] at hi
    rcases hi with rfl | rfl | rfl
    · have nx := a01 t
      refine T.val hn (.slice (some ⟨R, 0, none⟩) n n) h0 (hw 0 _ _ h0) hk (fun w1 hF => ⟨(hR.r0 o0 _ w1 ob R n h0 rfl ((hF.cell _ (.inr (.inr hzo1))).1.trans hzo2)).1, fun e he => by rw [(hR.r0 o0 _ w1 ob R n h0 rfl ((hF.cell _ (.inr (.inr hzo1))).1.trans hzo2)).2] at he; simp at he; exact ⟨_, _, he, .inr hzo1⟩⟩) ?_
      rw [d0]
      walk_nrm
      exact nx
    · have nx := a12 t
      refine T.val hn (.func (.func d) #[] caps) h2 (hw 2 _ _ h2) hk (fun w1 hF => ⟨(hR.r2 o2 _ w1 db d caps h2 rfl ((hF.cell _ (.inr (.inr hzd1))).1.trans hzd2)).1, fun e he => by rw [(hR.r2 o2 _ w1 db d caps h2 rfl ((hF.cell _ (.inr (.inr hzd1))).1.trans hzd2)).2] at he; simp at he; exact ⟨_, _, he, .inr hzd1⟩⟩) ?_
      rw [d2]
      walk_nrm
      exact nx
    · have nx := a13 t
      refine T.val hn (.int .i64 (j : Int)) h3 (hw 3 _ _ h3) hk (fun w1 _ => ⟨(hR.r3 o3 _ w1 h3).1, fun e he => by rw [(hR.r3 o3 _ w1 h3).2] at he; simp at he⟩) ?_
      rw [d3]
      walk_nrm
      exact nx
  have a : ∀ t, T P Post (mT + FD + 7) false (c) (G (fr.at ⟨#[v0, v1, v2, .pointer (some db), .pointer (some ob), .int .i64 (j : Int), v6, v7, v8, v9, v10, v11, v12, v13, v14, x15, x16, x17, x18, x19, x20], ds⟩ (.inRegion ops (Region.linearise.go .any ops 7 t #[false, false, false, false, false, false, false] []) :: k)) cs) w := by
    intro t
    refine T.any [0, 1, 2, 3] hR.qa (by simp) (fun i hi t => ?_) t
    simp only [List.mem_cons, List.not_mem_nil, or_false] at hi
    rcases hi with rfl | rfl | rfl | rfl
    · have nx := a0 t
      refine T.val hn (.slice (some ⟨R, 0, none⟩) n n) h0 (hw 0 _ _ h0) hk (fun w1 hF => ⟨(hR.r0 o0 _ w1 ob R n h0 rfl ((hF.cell _ (.inr (.inr hzo1))).1.trans hzo2)).1, fun e he => by rw [(hR.r0 o0 _ w1 ob R n h0 rfl ((hF.cell _ (.inr (.inr hzo1))).1.trans hzo2)).2] at he; simp at he; exact ⟨_, _, he, .inr hzo1⟩⟩) ?_
      rw [d0]
      walk_nrm
      exact nx
    · have nx := a1 t
      refine T.val hn (.int .i64 (j : Int)) h1 (hw 1 _ _ h1) hk (fun w1 _ => ⟨(hR.r1 o1 _ w1 h1).1, fun e he => by rw [(hR.r1 o1 _ w1 h1).2] at he; simp at he⟩) ?_
      rw [d1]
      walk_nrm
      exact nx
    · have nx := a2 t
      refine T.val hn (.func (.func d) #[] caps) h2 (hw 2 _ _ h2) hk (fun w1 hF => ⟨(hR.r2 o2 _ w1 db d caps h2 rfl ((hF.cell _ (.inr (.inr hzd1))).1.trans hzd2)).1, fun e he => by rw [(hR.r2 o2 _ w1 db d caps h2 rfl ((hF.cell _ (.inr (.inr hzd1))).1.trans hzd2)).2] at he; simp at he; exact ⟨_, _, he, .inr hzd1⟩⟩) ?_
      rw [d2]
      walk_nrm
      exact nx
    · have nx := a3 t
      refine T.val hn (.int .i64 (j : Int)) h3 (hw 3 _ _ h3) hk (fun w1 _ => ⟨(hR.r3 o3 _ w1 h3).1, fun e he => by rw [(hR.r3 o3 _ w1 h3).2] at he; simp at he⟩) ?_
      rw [d3]
      walk_nrm
      exact nx
  refine T.le (m := (mT + FD + 7) + 1) (by omega) (T.draw hn hmix (fun t => ?_))
  rw [hR.size]
  exact a t
end Go.Farm
