/- The laws' texts() walked: of one list of texts, wherever it lies. -/
import Derived.Test.YthgghgecpjnoiaaDoorDv
namespace Go.Proofs.YthgghgecpjnoiaaDoor.Dl
open Go.RowKit Go.Proofs.YthgghgecpjnoiaaDoor.Pc Go.Proofs.YthgghgecpjnoiaaDoor.Pd Go.Proofs.YthgghgecpjnoiaaDoor.Pk
set_option maxHeartbeats 2000000 in
set_option maxRecDepth 100000 in
theorem texts_any (A B : Option Addr) (ca cb : Nat) (l : List ByteArray) (w : World) (ha : RdS w A l) (hb : RdS w B l) (hl : l.length ≤ 100000) :
    Calls Tryd.prog 15 #[.slice A l.length ca, .slice B l.length cb] w fun e w' => e = .returned (.bool true) ∧ Below w.heap.size w w' := by
  have HA := Lib.hid ha
  have HB := Lib.hid hb
  clear ha hb
  go_enter Tryd.func15, Tryd.ntmps15
  go_wp2_with fail
  go_loopw [5] (fun i wr => ∃ k : Nat, i = .int .i64 k ∧ k ≤ l.length ∧ Hid (Below w.heap.size w wr)) (fun i _ => l.length - (intOf i).toNat)
  case atStart => exact ⟨0, rfl, by omega, Lib.hid (Below.refl _ _)⟩
  case round =>
    obtain ⟨k, rfl, hk, HW⟩ := hrel
    by_cases hlt : k < l.length
    · have i1 : (k : Int) < l.length := by omega
      obtain ⟨b, o, rfl, g1⟩ := HA.out.cell k hlt
      obtain ⟨b2, o2, rfl, g2⟩ := HB.out.cell k hlt
      generalize l[k] = x at g1 g2
      have g3 := keepC HW.out g1
      have g4 := keepC HW.out g2
      clear g1 g2
      go_wp2_with fail
      go_quiet (fail)
      go_wp2_with fail
      go_roundw
      · exact ⟨k + 1, by go_num, hlt, Lib.hid (bt HW.out (bdraw _ _))⟩
      · simp [intOf]; omega
    · have i1 : ¬ (k : Int) < l.length := by omega
      go_wp2
      go_ret
      exact ⟨rfl, HW.out⟩
end Go.Proofs.YthgghgecpjnoiaaDoor.Dl
