/-
  heronryref08: Sane. Conditions: none.
-/
import Derived.Test.YtdeckbdaencjnaaDoorRf2
import Derived.Test.YtdeckbdaencjnaaDoorL8h
set_option linter.unusedVariables false
set_option linter.unusedSimpArgs false
namespace Go.Proofs.YtdeckbdaencjnaaDoor
open Go.RowKit
section
variable {w : World}
theorem Sup.sane_no {s : Sup} (h : ¬ s.Sane) : s.sane = false := by simpa [Sup.sane] using h
theorem Sup.sane_yes {s : Sup} (h : s.Sane) : s.sane = true := by simpa [Sup.sane] using h
theorem ret_boolEq {a b : Bool} (h : a = b) : Ending.returned (.bool a) = .returned (.bool b) := by rw [h]
set_option maxRecDepth 100000 in
set_option maxHeartbeats 2000000 in
theorem rsane_c (s : Sup) : Calls Tryd.prog 30 #[(.agg #[.int .i64 s.version, .int .i64 s.epoch, .int .i64 s.blocks, .int .i64 s.counters, .int .i64 s.log, .int .i64 s.head, .int .i64 s.applied])] w fun e w' => e = .returned (.bool s.sane) ∧ Fr F0 w w' := by
  have HS : Hid (s.sane = decide s.Sane) := Lib.hid rfl
  obtain ⟨b, hb⟩ : ∃ b, b = s.sane := ⟨_, rfl⟩
  rw [← hb]
  have HB := Lib.hid hb
  clear hb
  go_enter Tryd.func30, Tryd.ntmps30
  go_wp2_with fail
  all_goals (go_ret; refine ⟨ret_boolEq ?_, (Fr.refl _ _).alloc _⟩; rw [HB.out]; first | (refine (Sup.sane_no ?_).symm; simp only [Sup.Sane]; omega) | (rw [Bool.eq_iff_iff, Sup.sane, decide_eq_true_eq, decide_eq_true_eq]; simp only [Sup.Sane]; omega))
end
end Go.Proofs.YtdeckbdaencjnaaDoor
