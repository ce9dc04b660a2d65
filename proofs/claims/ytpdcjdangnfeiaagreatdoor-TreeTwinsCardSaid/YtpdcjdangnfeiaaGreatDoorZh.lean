/- Rename on the document's things is the plain tree's; the whole of Do. No program in sight. The document's Do on things is the plain tree's Do. No program in sight. -/
import Derived.Test.YtpdcjdangnfeiaaGreatDoorZg
section
open Go Go.RowKit Go.Proofs.YtpdcjdangnfeiaaGreatDoor.Pb Go.Proofs.YtpdcjdangnfeiaaGreatDoor.PPrf Go.Proofs.YtpdcjdangnfeiaaGreatDoorW.PrintWords Go.Proofs.YtpdcjdangnfeiaaGreatDoorW.PrintLast Go.Proofs.YtpdcjdangnfeiaaGreatDoorW.PrintMore Go.Proofs.YtpdcjdangnfeiaaGreatDoor.Qa Go.Proofs.YtpdcjdangnfeiaaGreatDoor.Tb Go.Proofs.YtpdcjdangnfeiaaGreatDoor.Rb Go.Proofs.YtpdcjdangnfeiaaGreatDoor.Ba Go.Proofs.YtpdcjdangnfeiaaGreatDoor.Rd Go.Proofs.YtpdcjdangnfeiaaGreatDoor.Te Go.Proofs.YtpdcjdangnfeiaaGreatDoor.Rq Go.Proofs.YtpdcjdangnfeiaaGreatDoor.Ua
namespace Go.Proofs.YtpdcjdangnfeiaaGreatDoor.Rc
section
variable {r : RS} {s : Ua.S} {M : Nat} {ix : Wy → Option Nat}
theorem Tied.mono (h : Tied r s M ix) {M' : Nat} (hM : M ≤ M') : Tied r s M' ix := ⟨h.rel, h.wf.mono hM, h.n, h.m, by have := h.bn; omega, by have := h.bm; omega⟩
theorem be_iff (l m : Wy) (p p2 : Wy) (hl : l.length = p.length + 1) (hm : m.length = p2.length + 1) : (decide (p.length < p2.length) && eqN l m (p.length + 1)) = true ↔ l <+: m ∧ l ≠ m := by
  by_cases c : p.length < p2.length
  · rw [decide_eq_true c, Bool.true_and, ← hl]
    exact below_of (by omega)
  · rw [decide_eq_false c, Bool.false_and]
    constructor
    · intro h; cases h
    · rintro ⟨h1, h2⟩
      exact absurd (h1.eq_of_length (by have := h1.length_le; omega)) h2
theorem se_iff (l m : Wy) (p p2 : Wy) (hl : l.length = p.length + 1) (hm : m.length = p2.length + 1) : (decide (p2.length = p.length) && eqN l m (p.length + 1)) = true ↔ l = m := by
  by_cases c : p2.length = p.length
  · rw [decide_eq_true c, Bool.true_and]
    unfold eqN
    rw [decide_eq_true_eq, List.take_of_length_le (by omega), List.take_of_length_le (by omega)]
  · rw [decide_eq_false c, Bool.false_and]
    constructor
    · intro h; cases h
    · rintro rfl; omega
theorem thL_setS {L : List T} {k a : Nat} (S : List S106) (hk : k < L.length) : thL (setS L k S) a = if a = k then { thL L k with S := S } else thL L a := thL_set _ hk
theorem len_setS (L : List T) (k : Nat) (S : List S106) : (setS L k S).length = L.length := List.length_set
theorem slots_room (S : List S106) : cnt S ≤ slotsL S * 8 := by
  have := cnt_le S
  unfold slotsL
  omega
/-- The directory that lies at the end of a way. -/
theorem Tied.dir (h : Tied r s M ix) {p2 : Wy} {ti : Nat} (ht : ix p2 = some ti) : ti < r.L.length ∧ Uq (thL r.L ti).S ∧ s.a p2 = some (nodeT (thL r.L ti)) := ⟨(h.rel.at_ p2 ti ht).1, (h.rel.at_ p2 ti ht).2.uniq, (h.rel.at_ p2 ti ht).2.nd⟩
theorem over_eq (x y : T) (hx : x.dir = false → x.S = []) : overE y x = repE (nodeT x) (nodeT y) := by
  unfold overE repE nodeT
  dsimp only
  by_cases c1 : x.dir = true ∧ y.dir = false
  · rw [if_pos c1, if_pos c1]
  · rw [if_neg c1, if_neg c1]
    by_cases c2 : x.dir = false ∧ y.dir = true
    · rw [if_pos c2, if_pos c2]
    · rw [if_neg c2, if_neg c2]
      cases hd : x.dir with
      | false => rw [hx hd]; simp [cnt]
      | true =>
        by_cases c3 : nmR x.S = []
        · have := nmR_nil.1 c3
          rw [if_neg (by simp [c3]), if_neg (by omega)]
        · have : 0 < cnt x.S := by rw [← nmR_len]; exact List.length_pos_iff.2 c3
          rw [if_pos ⟨rfl, c3⟩, if_pos this]
theorem over_leaf {x y : T} (h : overE y x = 0) (hx : x.dir = false → x.S = []) : cnt x.S = 0 := by
  unfold overE at h
  by_cases c1 : x.dir = true ∧ y.dir = false
  · rw [if_pos c1] at h; simp at h
  · rw [if_neg c1] at h
    by_cases c2 : x.dir = false ∧ y.dir = true
    · rw [if_pos c2] at h; simp at h
    · rw [if_neg c2] at h
      cases hd : x.dir with
      | false => rw [hx hd]; rfl
      | true =>
        by_cases c3 : nmR x.S = []
        · exact nmR_nil.1 c3
        · rw [if_pos ⟨hd, c3⟩] at h; simp at h
theorem mvA_at {a : Wy → Option N} {f t q : Wy} (h1 : ¬ t <+: q) (h2 : ¬ f <+: q) : mvA a f t q = a q := by
  unfold mvA
  rw [if_neg h1, if_neg h2]
theorem not_pre_snoc (p : Wy) (x : ByteArray) : ¬ (p ++ [x]) <+: p := by
  rintro ⟨u, hu⟩
  have := congrArg List.length hu
  simp at this
theorem rename_ok (h : Tied r s M ix) (p : Wy) (x : ByteArray) (p2 : Wy) (y : ByteArray) : RenOk r p x p2 y := by
  refine ⟨fun h0 => ?_, fun h0 h1 h2 i hi ho => ?_, fun he hn h0 => ?_⟩
  · obtain ⟨k, i, e1, e2, e3, -⟩ := h.parent ((h.walk (p ++ [x])).2.1 h0)
    rw [e2]
    exact ⟨i, e3⟩
  · have hx := (h.walk (p ++ [x])).2.1 h0
    obtain ⟨k, i', e1, e2, e3, -⟩ := h.parent hx
    have ht := (h.walk p2).2.1 h1
    rw [e2]
    dsimp only
    have hm : ix (p2 ++ [y]) = some (inoL (thL r.L (walkL r.L 0 p2).1).S i - 1).toNat := by rw [h.kid ht, K, hi]; rfl
    have hNj := (h.rel.at_ _ _ hm).2
    have hleaf := over_leaf ho hNj.file
    constructor
    · intro e
      rw [e] at hm
      exact snoc_ne2 _ _ (h.rel.inj _ _ _ hm ht)
    · intro e
      rw [e] at hm hleaf
      have := h.rel.inj _ _ _ hm e1
      have hk := h.kid hm x
      rw [K_of_cnt hleaf, this, hx] at hk
      cases hk
  · rintro rfl
    have hx := (h.walk (p ++ [y])).2.1 h0
    obtain ⟨k, i', e1, e2, e3, -⟩ := h.parent hx
    rw [e2] at he
    dsimp only at he
    rw [← he, e3] at hn
    cases hn
theorem rename_rel (h : Tied r s M ix) (hM : M ≤ 40000) (p : Wy) (x : ByteArray) (p2 : Wy) (y : ByteArray) (hy0 : y ≠ ByteArray.empty) :
    Out r s M (renameR2 r p x p2 y) (if wayA s.a [] (p ++ [x]) ≠ 0 then wayA s.a [] (p ++ [x]) else moveE s (p ++ [x]) (p2 ++ [y])) (Ua.moveS s (p ++ [x]) (p2 ++ [y])) := by
  obtain ⟨w1, w2, -⟩ := h.walk (p ++ [x])
  unfold renameR2
  obtain ⟨⟨k, E⟩, hke⟩ : ∃ z, walkL r.L 0 (p ++ [x]) = z := ⟨_, rfl⟩
  rw [hke] at w1 w2 ⊢
  dsimp only at w1 w2 ⊢
  by_cases c1 : E = 0
  case neg =>
    rw [if_pos c1]
    by_cases cw : wayA s.a [] (p ++ [x]) = 0
    · rw [if_neg (by simp [cw])] at w1
      cases ha : s.a (p ++ [x]) with
      | none =>
        rw [ha] at w1
        rw [if_neg (by simp [cw])]
        have e8 : E = 8 := by simpa using w1
        subst e8
        unfold moveE
        rw [ha]
        exact Out.err (by simp)
      | some d => rw [ha] at w1; simp at w1; exact absurd w1 c1
    · rw [if_pos cw] at w1
      rw [if_pos cw, ← w1]
      exact Out.err c1
  subst c1
  have hx := w2 rfl
  obtain ⟨a, i9, hp, hwk, hat9, hij9, hak, hda, hx0⟩ := h.parent hx
  obtain ⟨hk, hNk⟩ := h.rel.at_ _ k hx
  obtain ⟨ha, hNa⟩ := h.rel.at_ p a hp
  have cw := h.way0 (p := p ++ [x]) (by rw [hx]; rfl)
  rw [cw, if_neg (show ¬ (0 : Int) ≠ 0 by simp), if_neg (show ¬ (0 : Int) ≠ 0 by simp)]
  unfold moveE
  rw [hNk.nd]
  dsimp only
  rw [if_neg (show ¬ (p ++ [x] = [] ∨ p2 ++ [y] = []) by simp), h.ahead p2 y]
  obtain ⟨-, v2, -⟩ := h.walk p2
  obtain ⟨⟨ti, E2⟩, hie⟩ : ∃ z, walkL r.L 0 p2 = z := ⟨_, rfl⟩
  rw [hie] at v2 ⊢
  dsimp only at v2 ⊢
  by_cases c2 : E2 = 0
  case neg =>
    rw [if_pos c2, if_pos c2, if_pos c2]
    exact Out.err c2
  subst c2
  have ht := v2 rfl
  rw [if_neg (show ¬ (0 : Int) ≠ 0 by simp), if_neg (show ¬ (0 : Int) ≠ 0 by simp)]
  cases hd : (thL r.L ti).dir with
  | false =>
    rw [if_pos rfl, if_neg (show ¬ false = true by simp), if_pos (show (11 : Int) ≠ 0 by simp)]
    exact Out.err (by simp)
  | true =>
  rw [if_neg (show ¬ true = false by simp), if_pos (show true = true from rfl), if_neg (show ¬ (0 : Int) ≠ 0 by simp)]
  have bi := be_iff (p ++ [x]) (p2 ++ [y]) p p2 (by simp) (by simp)
  have si := se_iff (p ++ [x]) (p2 ++ [y]) p p2 (by simp) (by simp)
  by_cases cb : (p ++ [x]) <+: (p2 ++ [y]) ∧ p ++ [x] ≠ p2 ++ [y]
  · rw [if_pos (bi.2 cb), if_pos cb]
    exact Out.err (by simp)
  rw [if_neg (fun h => cb (bi.1 h)), if_neg cb]
  by_cases cs : p ++ [x] = p2 ++ [y]
  · rw [if_pos (si.2 cs), if_pos cs]
    refine Out.ok (ix' := ix) ?_
    unfold Ua.moveS
    rw [if_pos cs]
    exact h.mono (by omega)
  rw [if_neg (fun h => cs (si.1 h)), if_neg cs, hwk]
  dsimp only
  obtain ⟨hti, hNt⟩ := h.rel.at_ p2 ti ht
  have hm : ix (p2 ++ [y]) = K (thL r.L ti).S y := h.kid ht y
  have hnp : ¬ (p ++ [x]) <+: p2 := fun hh => cb ⟨hh.trans (List.prefix_append _ _), cs⟩
  obtain ⟨f1, f2, f3⟩ := h.wf.at_ hti
  obtain ⟨g1, g2, g3⟩ := h.wf.at_ ha
  have hbn := h.bn
  have hbm := h.bm
  have hnpp := not_pre_snoc p x
  have hnp22 := not_pre_snoc p2 y
  have hpp : a = ti ↔ p = p2 := by
    constructor
    · rintro rfl; exact h.rel.inj _ _ _ hp ht
    · rintro rfl; rw [hp] at ht; exact Option.some.inj ht
  have hxy : a = ti → x ≠ y := by
    intro e e2
    exact cs (by rw [hpp.1 e, e2])
  have hwl := h.wf.len
  unfold renTail
  cases hat : atL (thL r.L ti).S y with
  | some i =>
    dsimp only
    have hmj : ix (p2 ++ [y]) = some (inoL (thL r.L ti).S i - 1).toNat := by rw [hm, K, hat]; rfl
    obtain ⟨j, hj⟩ : ∃ j, (inoL (thL r.L ti).S i - 1).toNat = j := ⟨_, rfl⟩
    rw [hj] at hmj ⊢
    obtain ⟨hjl, hNj⟩ := h.rel.at_ _ j hmj
    rw [hNj.nd]
    dsimp only
    rw [← over_eq (thL r.L j) (thL r.L k) hNj.file]
    by_cases co : overE (thL r.L k) (thL r.L j) = 0
    case neg =>
      rw [if_pos co]
      exact Out.err co
    rw [co, if_neg (show ¬ (0 : Int) ≠ 0 by simp)]
    have hleaf := over_leaf co hNj.file
    have hkj : ∀ z, ix (p2 ++ [y] ++ [z]) = none := fun z => by rw [h.kid hmj, K_of_cnt hleaf]
    have hjt : j ≠ ti := by rintro rfl; exact snoc_ne2 _ _ (h.rel.inj _ _ _ hmj ht)
    have hja : j ≠ a := by
      rintro rfl
      have := h.rel.inj _ _ _ hmj hp
      have h9 := hkj x
      rw [this, hx] at h9
      cases h9
    have hnm : ¬ (p2 ++ [y]) <+: p := by
      rintro ⟨u, hu⟩
      cases u with
      | nil =>
        rw [List.append_nil] at hu
        rw [hu] at hmj
        rw [hp] at hmj
        exact hja (Option.some.inj hmj).symm
      | cons z u =>
        have := h.rel.sub (hkj z) u
        rw [show p2 ++ [y] ++ [z] ++ u = p from by rw [← hu]; simp, hp] at this
        cases this
    obtain ⟨q1, q2, q3, q4, q5, q6⟩ := inoL_facts hNt.uniq hat ((k : Int) + 1)
    have hk1 : ((k : Int) + 1 - 1).toNat = k := by omega
    rw [hk1] at q2
    have l1 : (r.L.set j noT).length = r.L.length := List.length_set
    have l2 : (setS (r.L.set j noT) ti ((thL r.L ti).S.set i ⟨y, (k : Int) + 1⟩)).length = r.L.length := by rw [len_setS, l1]
    have t1 : ∀ q, thL (setS (r.L.set j noT) ti ((thL r.L ti).S.set i ⟨y, (k : Int) + 1⟩)) q = if q = ti then { thL r.L ti with S := (thL r.L ti).S.set i ⟨y, (k : Int) + 1⟩ } else if q = j then noT else thL r.L q := by
      intro q
      rw [thL_setS _ (by rw [l1]; exact hti), thL_set _ hjl, thL_set _ hjl, if_neg (Ne.symm hjt)]
    have hat9' : atL (thL (setS (r.L.set j noT) ti ((thL r.L ti).S.set i ⟨y, (k : Int) + 1⟩)) a).S x = some i9 := by
      rw [t1]
      by_cases e : a = ti
      · rw [if_pos e]
        show atL ((thL r.L ti).S.set i ⟨y, (k : Int) + 1⟩) x = some i9
        rw [q6, ← e]; exact hat9
      · rw [if_neg e, if_neg (Ne.symm hja)]; exact hat9
    have hU2 : Uq (thL (setS (r.L.set j noT) ti ((thL r.L ti).S.set i ⟨y, (k : Int) + 1⟩)) a).S := by
      rw [t1]
      by_cases e : a = ti
      · rw [if_pos e]; exact q1
      · rw [if_neg e, if_neg (Ne.symm hja)]; exact hNa.uniq
    obtain ⟨-, u2, u3, u4, u5, u6, u7, u8⟩ := takeL_facts hU2 hat9'
    have t2 : ∀ q, thL (repL r.L k ti a j i x y) q = if q = a then { thL (setS (r.L.set j noT) ti ((thL r.L ti).S.set i ⟨y, (k : Int) + 1⟩)) a with S := takeS (thL (setS (r.L.set j noT) ti ((thL r.L ti).S.set i ⟨y, (k : Int) + 1⟩)) a).S x } else thL (setS (r.L.set j noT) ti ((thL r.L ti).S.set i ⟨y, (k : Int) + 1⟩)) q := by
      intro q
      unfold repL
      rw [thL_setS _ (by rw [l2]; exact ha)]
    obtain ⟨L2, hL2⟩ : ∃ L2, setS (r.L.set j noT) ti ((thL r.L ti).S.set i ⟨y, (k : Int) + 1⟩) = L2 := ⟨_, rfl⟩
    have hrep : repL r.L k ti a j i x y = setS L2 a (takeS (thL L2 a).S x) := by rw [← hL2]; rfl
    rw [hL2] at t1 t2 u2 u3 u4 u5 u6 u7 u8 l2
    have ta : thL L2 a = { thL r.L a with S := (thL L2 a).S } := by
      rw [t1]
      by_cases e : a = ti
      · rw [if_pos e, e]
      · rw [if_neg e, if_neg (Ne.symm hja)]
    have hlen : (repL r.L k ti a j i x y).length = r.L.length := by rw [hrep, len_setS, l2]
    have ea : thL (repL r.L k ti a j i x y) a = { thL r.L a with S := takeS (thL L2 a).S x } := by
      rw [t2, if_pos rfl, ta]
    have hbl := blocksT_le (thL r.L j)
    have hI2 : ∀ e ∈ (thL L2 a).S, e.f0 ≠ ByteArray.empty → 1 ≤ e.f1 ∧ e.f1 ≤ r.L.length := by
      intro e he h0
      rw [t1] at he
      by_cases c : a = ti
      · rw [if_pos c] at he
        rcases q5 e he with he | rfl
        · exact f3 e he h0
        · show 1 ≤ (k : Int) + 1 ∧ (k : Int) + 1 ≤ r.L.length
          omega
      · rw [if_neg c, if_neg (Ne.symm hja)] at he
        exact g3 e he h0
    have hS2 : (thL L2 a).S.length ≤ M := by
      rw [t1]
      by_cases c : a = ti
      · rw [if_pos c]
        show ((thL r.L ti).S.set i ⟨y, (k : Int) + 1⟩).length ≤ M
        rw [List.length_set]; exact f1
      · rw [if_neg c, if_neg (Ne.symm hja)]; exact g1
    refine Out.ok (ix' := mvX ix (p ++ [x]) (p2 ++ [y])) ⟨?_, ?_, ?_, ?_, ?_, ?_⟩
    · refine h.rel.mv (kf := a) (kt := ti) (kx := k) (Sf := takeS (thL L2 a).S x) (St := (thL (repL r.L k ti a j i x y) ti).S) hp ht hx hnp cs hkj (by rw [hlen]; exact Nat.le_refl _) hd ea ?_ ?_ ?_ ?_ u2 ?_ ?_ ?_ ?_
      · by_cases e : ti = a
        · subst e
          rw [ea]
        · rw [t2, if_neg e, t1, if_pos rfl]
      · intro q hq n1 n2 n3
        rw [t2, if_neg n1, t1, if_neg n2, if_neg (fun e => n3 (by rw [e]; exact hmj))]
      · intro e
        refine ⟨fun z => ?_, fun z => ?_⟩
        · rw [u3, t1, if_neg e, if_neg (Ne.symm hja)]
        · rw [t2, if_neg (Ne.symm e), t1, if_pos rfl]
          exact q2 z
      · intro e z
        rw [u3, t1, if_pos e]
        show (if z = x then none else K ((thL r.L ti).S.set i ⟨y, (k : Int) + 1⟩) z) = _
        rw [q2, e]
        by_cases z1 : z = x
        · rw [if_pos z1, if_pos z1, if_neg (by rw [z1]; exact hxy e)]
        · rw [if_neg z1, if_neg z1]
      · by_cases e : ti = a
        · subst e
          rw [ea]; exact u2
        · rw [t2, if_neg e, t1, if_pos rfl]; exact q1
      · rw [ea]
        unfold Ua.moveS
        rw [if_neg cs, hNj.nd]
        dsimp only
        rw [List.dropLast_concat]
        unfold onA
        rw [if_pos rfl, mvA_at hnm hnpp, hNa.nd, Option.map_some]
        unfold takeA nodeT
        dsimp only
        rw [u4, u6]
        by_cases e : a = ti
        · rw [t1, if_pos e]
          show some (N.mk _ _ (slotsL (thL r.L a).S) (cnt (thL r.L a).S - 1)) = some (N.mk _ _ (slotsL ((thL r.L ti).S.set i ⟨y, (k : Int) + 1⟩)) (cnt ((thL r.L ti).S.set i ⟨y, (k : Int) + 1⟩) - 1))
          rw [q3, q4, e]
        · rw [t1, if_neg e, if_neg (Ne.symm hja)]
      · by_cases e : a = ti
        · have hpe := hpp.1 e
          subst hpe
          subst e
          rw [ea]
          unfold Ua.moveS
          rw [if_neg cs, hNj.nd]
          dsimp only
          rw [List.dropLast_concat]
          unfold onA
          rw [if_pos rfl, mvA_at hnm hnpp, hNa.nd, Option.map_some]
          unfold takeA nodeT
          dsimp only
          rw [u4, u6, t1, if_pos rfl]
          show some (N.mk _ _ (slotsL (thL r.L a).S) (cnt (thL r.L a).S - 1)) = some (N.mk _ _ (slotsL ((thL r.L a).S.set i ⟨y, (k : Int) + 1⟩)) (cnt ((thL r.L a).S.set i ⟨y, (k : Int) + 1⟩) - 1))
          rw [q3, q4]
        · have hne : p2 ≠ p := fun e2 => e (hpp.2 e2.symm)
          rw [t2, if_neg (Ne.symm e), t1, if_pos rfl]
          unfold Ua.moveS
          rw [if_neg cs, hNj.nd]
          dsimp only
          rw [List.dropLast_concat]
          unfold onA
          rw [if_neg hne, mvA_at hnp22 hnp, hNt.nd]
          unfold nodeT
          dsimp only
          rw [q3, q4]
      · intro q n1 n2
        unfold Ua.moveS
        rw [if_neg cs, hNj.nd]
        dsimp only
        rw [List.dropLast_concat]
        unfold onA
        rw [if_neg n1]
    · show WfL (repL r.L k ti a j i x y) (M + 1)
      have x1 := h.wf.set (k := j) (M' := M + 1) (by omega) noT (by simp [noT]) (by simp [noT]) (by simp [noT])
      have x2 : WfL L2 (M + 1) := by
        rw [← hL2]
        refine x1.set (by omega) _ ?_ ?_ ?_
        · show ((thL r.L ti).S.set i ⟨y, (k : Int) + 1⟩).length ≤ M + 1
          rw [List.length_set]; omega
        · show (thL (r.L.set j noT) ti).B.length ≤ _
          rw [thL_set_ne _ (Ne.symm hjt)]; exact f2
        · rw [l1]
          intro e he h0
          rcases q5 e he with he | rfl
          · exact f3 e he h0
          · show 1 ≤ (k : Int) + 1 ∧ (k : Int) + 1 ≤ r.L.length
            omega
      rw [hrep]
      refine x2.set (by omega) _ ?_ ?_ ?_
      · show (takeS (thL L2 a).S x).length ≤ M + 1
        omega
      · rw [ta]; exact g2
      · rw [l2]
        intro e he h0
        rcases u7 e he with he | rfl
        · exact hI2 e he h0
        · exact absurd rfl h0
    · show r.n + (blocksT (thL r.L j) : Int) = _
      unfold Ua.moveS
      rw [if_neg cs, hNj.nd]
      dsimp only
      rw [blocks_eq, h.n]
      omega
    · show r.m + 1 = _
      unfold Ua.moveS
      rw [if_neg cs, hNj.nd]
      dsimp only
      rw [h.m]
      omega
    · unfold Ua.moveS
      rw [if_neg cs, hNj.nd]
      dsimp only
      rw [blocks_eq]
      omega
    · unfold Ua.moveS
      rw [if_neg cs, hNj.nd]
      dsimp only
      omega
  | none =>
    dsimp only
    have hmn : ix (p2 ++ [y]) = none := by rw [hm, K_none']; exact hat
    have ham := h.rel.anone.1 hmn
    rw [ham]
    dsimp only
    rw [List.dropLast_concat, List.dropLast_concat]
    have hkj : ∀ z, ix (p2 ++ [y] ++ [z]) = none := (h.rel.none_ _ hmn).2
    have hnm : ¬ (p2 ++ [y]) <+: p := by
      rintro ⟨u, hu⟩
      have := h.rel.sub hmn u
      rw [hu, hp] at this
      cases this
    by_cases e : a = ti
    · have hpe := hpp.1 e
      subst hpe
      subst e
      rw [if_pos rfl, if_neg (fun h => h.1 rfl)]
      obtain ⟨-, u2, u3, u4, u5, u6, u7⟩ := moveL_facts hNa.uniq hat9 hy0 hat
      have hKx : K (thL r.L a).S x = some k := by rw [← h.kid hp, hx]
      have ea : thL (setS r.L a (moveS (thL r.L a).S x y)) a = { thL r.L a with S := moveS (thL r.L a).S x y } := by rw [thL_setS _ ha, if_pos rfl]
      obtain ⟨-, -, -, -, hpos, -⟩ := takeL_facts hNa.uniq hat9
      have hroom := slots_room (thL r.L a).S
      have hap : (Ua.moveS s (p ++ [x]) (p ++ [y])).a p = some (nodeT (thL (setS r.L a (moveS (thL r.L a).S x y)) a)) := by
        rw [ea]
        unfold Ua.moveS
        rw [if_neg cs, ham]
        dsimp only
        rw [List.dropLast_concat, List.dropLast_concat]
        unfold onA
        rw [if_pos rfl, if_pos rfl, mvA_at hnm hnpp, hNa.nd, Option.map_some, Option.map_some]
        unfold takeA putA nodeT
        dsimp only
        rw [u4, u5, if_pos (by omega)]
        congr 2
        omega
      refine Out.ok (ix' := mvX ix (p ++ [x]) (p ++ [y])) ⟨?_, ?_, ?_, ?_, ?_, ?_⟩
      · refine h.rel.mv (kf := a) (kt := a) (kx := k) (Sf := moveS (thL r.L a).S x y) (St := moveS (thL r.L a).S x y) hp hp hx hnp cs hkj (by rw [len_setS]; exact Nat.le_refl _) hda ea ea ?_ (fun h => absurd rfl h) ?_ u2 u2 hap hap ?_
        · intro q hq n1 n2 n3
          rw [thL_setS _ ha, if_neg n1]
        · intro _ z
          rw [u3, hKx]
        · intro q n1 n2
          unfold Ua.moveS
          rw [if_neg cs, ham]
          dsimp only
          rw [List.dropLast_concat, List.dropLast_concat]
          unfold onA
          rw [if_neg n1, if_neg n1]
      · refine h.wf.set (by omega) _ ?_ g2 ?_
        · show (moveS (thL r.L a).S x y).length ≤ M + 1
          omega
        · intro e he h0
          rcases u6 e he with he | rfl
          · exact g3 e he h0
          · obtain ⟨e9, he9, hf9, -⟩ := atL_some hat9
            show 1 ≤ inoL (thL r.L a).S i9 ∧ inoL (thL r.L a).S i9 ≤ r.L.length
            rw [inoL_get he9]
            exact g3 e9 (List.mem_of_getElem? he9) (by rw [hf9]; exact hx0)
      · unfold Ua.moveS
        rw [if_neg cs, ham]
        dsimp only
        rw [List.dropLast_concat, List.dropLast_concat, if_pos rfl]
        exact h.n
      · unfold Ua.moveS
        rw [if_neg cs, ham]
        exact h.m
      · unfold Ua.moveS
        rw [if_neg cs, ham]
        dsimp only
        omega
      · unfold Ua.moveS
        rw [if_neg cs, ham]
        dsimp only
        omega
    · have hne : p ≠ p2 := fun e2 => e (hpp.2 e2)
      rw [if_neg e]
      have hB := hNt.dirB hd
      have hg := grow_eq hNt.uniq hy0 hat ((k : Int) + 1) (by omega)
      have hnt : nodeT (thL r.L ti) = ⟨true, [], slotsL (thL r.L ti).S, cnt (thL r.L ti).S⟩ := by unfold nodeT; rw [hd, hB]
      have hwant : wantA (s.a p2) = growsA ⟨true, [], slotsL (thL r.L ti).S, cnt (thL r.L ti).S⟩ := by rw [hNt.nd, hnt]; rfl
      have hmore : moreN r.L k ti y = (growsA ⟨true, [], slotsL (thL r.L ti).S, cnt (thL r.L ti).S⟩ : Nat) := hg
      rw [hmore]
      obtain ⟨G, hG⟩ : ∃ G, growsA ⟨true, [], slotsL (thL r.L ti).S, cnt (thL r.L ti).S⟩ = G := ⟨_, rfl⟩
      rw [hG] at hwant ⊢
      rw [hwant]
      by_cases cF : s.blocks < G
      · have cR : (G : Int) > r.n := by rw [h.n]; omega
        rw [if_pos cR, if_pos (show p ≠ p2 ∧ s.blocks < G from ⟨hne, cF⟩)]
        exact Out.err (by simp)
      have cR : ¬ (G : Int) > r.n := by rw [h.n]; omega
      rw [if_neg cR, if_neg (show ¬ (p ≠ p2 ∧ s.blocks < G) from fun h => cF h.2)]
      obtain ⟨p1', p2', p3', p4', p5'⟩ := putL_facts hNt.uniq hy0 hat ((k : Int) + 1)
      have hk1 : ((k : Int) + 1 - 1).toNat = k := by omega
      rw [hk1] at p2'
      obtain ⟨-, u2, u3, u4, u5, u6, u7, u8⟩ := takeL_facts hNa.uniq hat9
      have l1 : (setS r.L ti (putL (thL r.L ti).S y ((k : Int) + 1))).length = r.L.length := len_setS _ _ _
      have t1 : ∀ q, thL (newL r.L k ti a x y) q = if q = a then { thL r.L a with S := takeS (thL r.L a).S x } else if q = ti then { thL r.L ti with S := putL (thL r.L ti).S y ((k : Int) + 1) } else thL r.L q := by
        intro q
        unfold newL
        rw [thL_setS _ (by rw [l1]; exact ha), thL_setS _ hti, thL_setS _ hti, if_neg e]
      have ea : thL (newL r.L k ti a x y) a = { thL r.L a with S := takeS (thL r.L a).S x } := by rw [t1, if_pos rfl]
      have et : thL (newL r.L k ti a x y) ti = { thL r.L ti with S := putL (thL r.L ti).S y ((k : Int) + 1) } := by rw [t1, if_neg (Ne.symm e), if_pos rfl]
      have hlen : (newL r.L k ti a x y).length = r.L.length := by unfold newL; rw [len_setS, l1]
      refine Out.ok (ix' := mvX ix (p ++ [x]) (p2 ++ [y])) ⟨?_, ?_, ?_, ?_, ?_, ?_⟩
      · refine h.rel.mv (kf := a) (kt := ti) (kx := k) (Sf := takeS (thL r.L a).S x) (St := putL (thL r.L ti).S y ((k : Int) + 1)) hp ht hx hnp cs hkj (by rw [hlen]; exact Nat.le_refl _) hd ea et ?_ ?_ (fun h => absurd h e) u2 p1' ?_ ?_ ?_
        · intro q hq n1 n2 n3
          rw [t1, if_neg n1, if_neg n2]
        · intro _
          exact ⟨u3, p2'⟩
        · rw [ea]
          unfold Ua.moveS
          rw [if_neg cs, ham]
          dsimp only
          rw [List.dropLast_concat, List.dropLast_concat]
          unfold onA
          rw [if_neg hne, if_pos rfl, mvA_at hnm hnpp, hNa.nd, Option.map_some]
          unfold takeA nodeT
          dsimp only
          rw [u4, u6]
        · rw [et]
          unfold Ua.moveS
          rw [if_neg cs, ham]
          dsimp only
          rw [List.dropLast_concat, List.dropLast_concat]
          unfold onA
          rw [if_pos rfl, if_neg (Ne.symm hne), mvA_at hnp22 hnp, hNt.nd, Option.map_some]
          unfold putA nodeT
          dsimp only
          rw [p3', p4']
        · intro q n1 n2
          unfold Ua.moveS
          rw [if_neg cs, ham]
          dsimp only
          rw [List.dropLast_concat, List.dropLast_concat]
          unfold onA
          rw [if_neg n2, if_neg n1]
      · have hpl := putL_len (thL r.L ti).S y ((k : Int) + 1)
        have x1 : WfL (setS r.L ti (putL (thL r.L ti).S y ((k : Int) + 1))) (M + 1) := by
          refine h.wf.set (by omega) _ ?_ f2 ?_
          · show (putL (thL r.L ti).S y ((k : Int) + 1)).length ≤ M + 1
            omega
          · intro e he h0
            rcases p5' e he with he | rfl
            · exact f3 e he h0
            · show 1 ≤ (k : Int) + 1 ∧ (k : Int) + 1 ≤ r.L.length
              omega
        refine x1.set (by omega) _ ?_ ?_ ?_
        · show (takeS (thL r.L a).S x).length ≤ M + 1
          omega
        · rw [thL_setS _ hti, if_neg e]; exact g2
        · rw [l1]
          intro e he h0
          rcases u7 e he with he | rfl
          · exact g3 e he h0
          · exact absurd rfl h0
      · show r.n - (G : Int) = _
        unfold Ua.moveS
        rw [if_neg cs, ham]
        dsimp only
        rw [List.dropLast_concat, List.dropLast_concat, if_neg hne, hwant, h.n]
        omega
      · unfold Ua.moveS
        rw [if_neg cs, ham]
        exact h.m
      · unfold Ua.moveS
        rw [if_neg cs, ham]
        dsimp only
        omega
      · unfold Ua.moveS
        rw [if_neg cs, ham]
        dsimp only
        omega
end
end Go.Proofs.YtpdcjdangnfeiaaGreatDoor.Rc
namespace Go.Proofs.YtpdcjdangnfeiaaGreatDoor.Rc
def lastW (l : Wy) : ByteArray := l.getLastD ByteArray.empty
theorem last_eq {l : Wy} (h : l ≠ []) : l.dropLast ++ [lastW l] = l := by
  unfold lastW
  rw [List.getLastD_eq_getLast?, List.getLast?_eq_some_getLast h, Option.getD_some]
  exact List.dropLast_concat_getLast h
def doR2 (r : RS) (o : O) : RS × Int :=
  if o.kind < 1 ∨ 7 < o.kind then (r, 1) else
  if (splitP o.path).2 ≠ 0 then (r, (splitP o.path).2) else
  if o.kind ≤ 2 then (if (splitP o.path).1 = [] then (r, 9) else makeR2 r (splitP o.path).1.dropLast (lastW (splitP o.path).1) (decide (o.kind = 2))) else
  if o.kind ≤ 4 then dataR r o (splitP o.path).1 else
  if o.kind ≤ 6 then (if (splitP o.path).1 = [] then (r, if decide (o.kind = 6) = true then 13 else 10) else removeR2 r (splitP o.path).1.dropLast (lastW (splitP o.path).1) (decide (o.kind = 6))) else
  if (splitP o.to).2 ≠ 0 then (r, (splitP o.to).2) else
  if (splitP o.path).1 = [] ∨ (splitP o.to).1 = [] then (r, if (walkL r.L 0 (splitP o.path).1).2 ≠ 0 then (walkL r.L 0 (splitP o.path).1).2 else 13) else
  renameR2 r (splitP o.path).1.dropLast (lastW (splitP o.path).1) (splitP o.to).1.dropLast (lastW (splitP o.to).1)
section
variable {r : RS} {s : Ua.S} {M : Nat} {ix : Wy → Option Nat}
theorem nm_ne {x : ByteArray} (h : nmL x.data.toList = true) : x ≠ ByteArray.empty := by
  rintro rfl
  simp [nmL] at h
theorem last_mem {l : Wy} (h : l ≠ []) : lastW l ∈ l := by
  have := last_eq h
  rw [← this]
  simp [lastW]
theorem do_out (h : Tied r s M ix) (hM : M ≤ 40000) (o : O) : Out r s M (doR2 r o) (doE s o) (planS s o (splitP o.path).1 (splitP o.to).1) := by
  unfold doR2 doE
  by_cases k1 : o.kind < 1 ∨ 7 < o.kind
  · rw [if_pos k1, if_pos k1]
    exact Out.err (by simp)
  rw [if_neg k1, if_neg k1]
  by_cases e1 : (splitP o.path).2 = 0
  case neg =>
    rw [if_pos e1, if_pos e1]
    exact Out.err e1
  have e1' : ¬ (splitP o.path).2 ≠ 0 := by simp [e1]
  rw [if_neg e1', if_neg e1']
  obtain ⟨hl1, hl2⟩ := Uz.split_names e1
  obtain ⟨l, hl⟩ : ∃ l, (splitP o.path).1 = l := ⟨_, rfl⟩
  obtain ⟨m, hm⟩ : ∃ m, (splitP o.to).1 = m := ⟨_, rfl⟩
  rw [hl] at hl1 hl2
  rw [hl, hm]
  unfold planE planS
  by_cases k2 : o.kind ≤ 2
  · rw [if_pos k2, if_pos k2, if_pos k2, if_neg (show ¬ (o.kind = 7 ∧ (splitP o.to).2 ≠ 0) from fun h => by omega)]
    by_cases l0 : l = []
    · subst l0
      rw [if_pos rfl, show wayA s.a [] [] = 0 from rfl, if_neg (show ¬ (0 : Int) ≠ 0 by simp)]
      unfold makeE
      rw [h.rel.asome h.rel.root]
      simp only [Option.isSome_some, if_true]
      exact Out.err (by simp)
    · rw [if_neg l0]
      have := make_rel h hM l.dropLast (lastW l) (decide (o.kind = 2)) (nm_ne (hl2 _ (last_mem l0)).2)
      rwa [last_eq l0] at this
  rw [if_neg k2, if_neg k2, if_neg k2]
  by_cases k4 : o.kind ≤ 4
  · rw [if_pos k4, if_neg (show ¬ (o.kind = 7 ∧ (splitP o.to).2 ≠ 0) from fun h => by omega)]
    have := data_rel h l o (by omega)
    have e : (if o.kind = 3 then appE s o.data.length (s.a l) else if o.kind = 4 then cutE o.n (s.a l) else if o.kind ≤ 6 then remE l (decide (o.kind = 6)) (s.a l) else moveE s l m) = if o.kind = 3 then appE s o.data.length (s.a l) else cutE o.n (s.a l) := by
      by_cases c : o.kind = 3
      · rw [if_pos c, if_pos c]
      · rw [if_neg c, if_neg c, if_pos (by omega)]
    have e' : (if o.kind = 3 then appS s l o.data (s.a l) else if o.kind = 4 then cutS s l o.n.toNat (s.a l) else if o.kind ≤ 6 then remS s l (s.a l) else Ua.moveS s l m) = if o.kind = 3 then appS s l o.data (s.a l) else cutS s l o.n.toNat (s.a l) := by
      by_cases c : o.kind = 3
      · rw [if_pos c, if_pos c]
      · rw [if_neg c, if_neg c, if_pos (by omega)]
    rw [e, e']
    exact this
  rw [if_neg k4, if_neg (show ¬ o.kind = 3 by omega), if_neg (show ¬ o.kind = 4 by omega), if_neg (show ¬ o.kind = 3 by omega), if_neg (show ¬ o.kind = 4 by omega)]
  by_cases k6 : o.kind ≤ 6
  · rw [if_pos k6, if_pos k6, if_pos k6, if_neg (show ¬ (o.kind = 7 ∧ (splitP o.to).2 ≠ 0) from fun h => by omega)]
    by_cases l0 : l = []
    · subst l0
      rw [if_pos rfl]
      exact root_rel h _ _
    · rw [if_neg l0]
      have := remove_rel h l.dropLast (lastW l) (decide (o.kind = 6))
      rwa [last_eq l0] at this
  rw [if_neg k6, if_neg k6, if_neg k6]
  have k7 : o.kind = 7 := by omega
  by_cases e2 : (splitP o.to).2 = 0
  case neg =>
    rw [if_pos e2, if_pos ⟨k7, e2⟩]
    exact Out.err e2
  rw [if_neg (show ¬ (splitP o.to).2 ≠ 0 by simp [e2]), if_neg (show ¬ (o.kind = 7 ∧ (splitP o.to).2 ≠ 0) from fun h => h.2 e2)]
  obtain ⟨hm1, hm2⟩ := Uz.split_names e2
  rw [hm] at hm1 hm2
  by_cases lm : l = [] ∨ m = []
  · rw [if_pos lm]
    obtain ⟨w1, w2, -⟩ := h.walk l
    by_cases cw : wayA s.a [] l = 0
    · rw [if_neg (by simp [cw])] at w1
      rw [cw, if_neg (show ¬ (0 : Int) ≠ 0 by simp)]
      unfold moveE
      cases ha : s.a l with
      | none =>
        rw [ha] at w1
        have e8 : (walkL r.L 0 l).2 = 8 := by simpa using w1
        rw [e8, if_pos (show (8 : Int) ≠ 0 by simp)]
        exact Out.err (by simp)
      | some d =>
        rw [ha] at w1
        have e0 : (walkL r.L 0 l).2 = 0 := by simpa using w1
        rw [e0, if_neg (show ¬ (0 : Int) ≠ 0 by simp)]
        dsimp only
        rw [if_pos lm]
        exact Out.err (by simp)
    · rw [if_pos cw] at w1
      rw [if_pos cw, w1, if_pos cw]
      exact Out.err cw
  · rw [if_neg lm]
    have l0 : l ≠ [] := fun h => lm (.inl h)
    have m0 : m ≠ [] := fun h => lm (.inr h)
    have := rename_rel h hM l.dropLast (lastW l) m.dropLast (lastW m) (nm_ne (hm2 _ (last_mem m0)).2)
    rwa [last_eq l0, last_eq m0] at this
/-- What is tied stays tied. -/
theorem do_tied (h : Tied r s M ix) (hM : M ≤ 40000) (o : O) : ∃ ix', Tied (doR2 r o).1 (doS s o) (M + 1) ix' := by
  obtain ⟨h1, h2, h3⟩ := do_out h hM o
  unfold doS
  by_cases e : doE s o = 0
  · rw [if_neg (by simp [e])]
    exact h2 e
  · rw [if_pos e, h3 e]
    exact ⟨ix, h.mono (by omega)⟩
end
end Go.Proofs.YtpdcjdangnfeiaaGreatDoor.Rc
end
