/-
  The device's small functions: Size, Gone, may, spend, Budget, Spent. Conditions: none.
-/
import Derived.Test.YtdeckbdaencjnaaDoorProg
import Derived.Test.YtdeckbdaencjnaaDoorDev
set_option linter.unusedVariables false
set_option linter.unusedSimpArgs false
namespace Go.Proofs.YtdeckbdaencjnaaDoor
open Go.RowKit
section
variable {w : World} {db lb mb : Nat} {D : Dev}

set_option maxRecDepth 100000 in
set_option maxHeartbeats 400000 in
theorem size_c (h : DevAt Tryd.prog 3 w db lb mb D) : Calls Tryd.prog 70 #[.pointer (some ⟨db, 0, none⟩)] w fun e w' => e = .returned (.int .i64 D.laid.length) ∧ w = w' := by
  obtain ⟨h0, h1, h2, h3, h4, f2, f3, f4⟩ := h.cells
  go_enter Tryd.func70, Tryd.ntmps70
  go_wp2
  go_ret
  exact ⟨rfl, rfl⟩

set_option maxRecDepth 100000 in
set_option maxHeartbeats 400000 in
theorem size_nil (w : World) : Calls Tryd.prog 70 #[.pointer none] w fun e w' => e = .returned (.int .i64 0) ∧ w = w' := by
  go_enter Tryd.func70, Tryd.ntmps70
  go_wp2
  go_ret
  exact ⟨rfl, rfl⟩

set_option maxRecDepth 100000 in
set_option maxHeartbeats 400000 in
theorem gone_c (h : DevAt Tryd.prog 3 w db lb mb D) : Calls Tryd.prog 42 #[.pointer (some ⟨db, 0, none⟩)] w fun e w' => e = .returned (.bool D.gone) ∧ w = w' := by
  obtain ⟨h0, h1, h2, h3, h4, f2, f3, f4⟩ := h.cells
  have hn : ((D.laid.length : Int) == 0) = false := by have := h.ok.pos; rw [beq_eq_false_iff_ne]; omega
  go_enter Tryd.func42, Tryd.ntmps42
  go_wp2_with (go_at_call 70; refine (size_c h).mono ?_; rintro e w' ⟨rfl, rfl⟩)
  go_ret
  exact ⟨rfl, rfl⟩

set_option maxRecDepth 100000 in
set_option maxHeartbeats 400000 in
theorem gone_nil (w : World) : Calls Tryd.prog 42 #[.pointer none] w fun e w' => e = .returned (.bool true) ∧ w = w' := by
  go_enter Tryd.func42, Tryd.ntmps42
  go_wp2_with (go_at_call 70; refine (size_nil _).mono ?_; rintro e w' ⟨rfl, rfl⟩)
  go_ret
  exact ⟨rfl, rfl⟩

set_option maxRecDepth 100000 in
set_option maxHeartbeats 400000 in
theorem may_c (h : DevAt Tryd.prog 3 w db lb mb D) (i : Int) : Calls Tryd.prog 64 #[.pointer (some ⟨db, 0, none⟩), .int .i64 i] w fun e w' => e = .returned (.int .i64 (D.may i)) ∧ w = w' := by
  obtain ⟨h0, h1, h2, h3, h4, f2, f3, f4⟩ := h.cells
  have hm : D.laid.length ≤ 9223372036854775807 := by have := h.ok.most; omega
  by_cases hg : D.gone = true
  · have hr : D.may i = 11 := by simp [Dev.may, hg]
    have Hg := Lib.hid hg
    rw [hr]
    go_enter Tryd.func64, Tryd.ntmps64
    go_wp2_with (go_at_call 42; refine (gone_c h).mono ?_; rintro e w' ⟨rfl, rfl⟩; rw [Hg.out])
    go_ret
    exact ⟨rfl, rfl⟩
  · have hg' : D.gone = false := by simpa using hg
    by_cases h5 : i < 0
    · have hr : D.may i = 1 := by simp [Dev.may, hg', h5]
      rw [hr]
      go_enter Tryd.func64, Tryd.ntmps64
      go_wp2_with (go_at_call 42; refine (gone_c h).mono ?_; rintro e w' ⟨rfl, rfl⟩; rw [hg'])
      go_ret
      exact ⟨rfl, rfl⟩
    · by_cases h6 : (D.laid.length : Int) ≤ i
      · have hr : D.may i = 1 := by simp [Dev.may, hg', h6]
        rw [hr]
        go_enter Tryd.func64, Tryd.ntmps64
        go_wp2_with (go_at_call 42; refine (gone_c h).mono ?_; rintro e w' ⟨rfl, rfl⟩; rw [hg'])
        go_ret
        exact ⟨rfl, rfl⟩
      · have hr : D.may i = 0 := by simp [Dev.may, hg', h5, h6]
        rw [hr]
        go_enter Tryd.func64, Tryd.ntmps64
        go_wp2_with (go_at_call 42; refine (gone_c h).mono ?_; rintro e w' ⟨rfl, rfl⟩; rw [hg'])
        go_ret
        exact ⟨rfl, rfl⟩

set_option maxRecDepth 100000 in
set_option maxHeartbeats 400000 in
theorem may_nil (i : Int) (w : World) : Calls Tryd.prog 64 #[.pointer none, .int .i64 i] w fun e w' => e = .returned (.int .i64 11) ∧ w = w' := by
  go_enter Tryd.func64, Tryd.ntmps64
  go_wp2_with (go_at_call 42; refine (gone_nil _).mono ?_; rintro e w' ⟨rfl, rfl⟩)
  go_ret
  exact ⟨rfl, rfl⟩

set_option maxRecDepth 100000 in
set_option maxHeartbeats 400000 in
theorem spend_c (h : DevAt Tryd.prog 3 w db lb mb D) : Calls Tryd.prog 65 #[.pointer (some ⟨db, 0, none⟩)] w fun e w' => e = .returned (.int .i64 D.spendE) ∧ DevAt Tryd.prog 3 w' db lb mb D.spend ∧ Fr (fun k => k = db) w w' := by
  obtain ⟨h0, h1, h2, h3, h4, f2, f3, f4⟩ := h.cells
  obtain ⟨t, hd⟩ := h.dev
  have hb := h.ok.least
  have hb' := h.ok.fits
  by_cases hz : D.budget = 0
  · have hr : D.spendE = 11 := by simp [Dev.spendE, hz]
    have hs : D.spend = { D with gone := true } := by simp [Dev.spend, hz]
    rw [hr, hs]
    have hz' : (D.budget == 0) = true := by simp [hz]
    have Hz := Lib.hid hz
    clear hz hs
    go_enter Tryd.func65, Tryd.ntmps65
    go_wp2
    go_ret
    have hf : Fr (fun k => k = db) w (w.setCell ⟨db, 3, none⟩ (.bool true)) := (Fr.refl _ _).setCell (by exact Or.inl rfl) _
    refine ⟨rfl, h.own (D' := { D with gone := true }) hf rfl rfl hb hb' ⟨t, ?_⟩, hf⟩
    exact set_cell hd 3 (.bool true)
  · have hr : D.spendE = 0 := by simp [Dev.spendE, hz]
    have hz' : (D.budget == 0) = false := by simp [hz]
    rw [hr]
    by_cases hp : 0 < D.budget
    · have hs : D.spend = { D with budget := D.budget - 1, spent := wrap64 (D.spent + 1) } := by simp [Dev.spend, hz, hp]
      rw [hs]
      clear hs
      go_enter Tryd.func65, Tryd.ntmps65
      go_wp2
      go_ret
      have hf : Fr (fun k => k = db) w ((w.setCell ⟨db, 2, none⟩ (.int .i64 (D.budget - 1))).setCell ⟨db, 4, none⟩ (.int .i64 (wrap64 (D.spent + 1)))) := ((Fr.refl _ _).setCell (by exact Or.inl rfl) _).setCell (by exact Or.inl rfl) _
      refine ⟨rfl, h.own (D' := { D with budget := D.budget - 1, spent := wrap64 (D.spent + 1) }) hf rfl rfl (by simp; omega) (by simp; omega) ⟨t, ?_⟩, hf⟩
      exact set_cell (set_cell hd 2 _) 4 _
    · have hs : D.spend = { D with budget := D.budget, spent := wrap64 (D.spent + 1) } := by simp [Dev.spend, hz, hp]
      rw [hs]
      clear hs
      go_enter Tryd.func65, Tryd.ntmps65
      go_wp2
      go_ret
      have hf : Fr (fun k => k = db) w (w.setCell ⟨db, 4, none⟩ (.int .i64 (wrap64 (D.spent + 1)))) := (Fr.refl _ _).setCell (by exact Or.inl rfl) _
      refine ⟨rfl, h.own (D' := { D with budget := D.budget, spent := wrap64 (D.spent + 1) }) hf rfl rfl hb hb' ⟨t, ?_⟩, hf⟩
      exact set_cell hd 4 _

set_option maxRecDepth 100000 in
set_option maxHeartbeats 400000 in
theorem budget_c (h : DevAt Tryd.prog 3 w db lb mb D) (k : Int) (hk : k ≤ 9223372036854775807) : Calls Tryd.prog 34 #[.pointer (some ⟨db, 0, none⟩), .int .i64 k] w fun e w' => e = .returned (.tuple #[]) ∧ DevAt Tryd.prog 3 w' db lb mb (D.budgeted k) ∧ Fr (fun k => k = db) w w' := by
  obtain ⟨h0, h1, h2, h3, h4, f2, f3, f4⟩ := h.cells
  obtain ⟨t, hd⟩ := h.dev
  by_cases hk1 : -1 ≤ k
  · have hbd : D.budgeted k = { D with budget := k } := by simp only [Dev.budgeted]; rw [Int.max_eq_left hk1]
    rw [hbd]
    have hk2 : ¬ k < -1 := by omega
    have hk3 : ¬ k ≤ -2 := by omega
    clear hbd
    go_enter Tryd.func34, Tryd.ntmps34
    go_wp2
    all_goals first | (exfalso; omega) | skip
    go_end0
    have hf : Fr (fun k => k = db) w (w.setCell ⟨db, 2, none⟩ (.int .i64 k)) := (Fr.refl _ _).setCell (by exact Or.inl rfl) _
    refine ⟨rfl, h.own (D' := { D with budget := k }) hf rfl rfl hk1 hk ⟨t, ?_⟩, hf⟩
    exact set_cell hd 2 _
  · have hbd : D.budgeted k = { D with budget := -1 } := by simp only [Dev.budgeted]; rw [Int.max_eq_right (by omega)]
    rw [hbd]
    have hk2 : k < -1 := by omega
    clear hbd
    go_enter Tryd.func34, Tryd.ntmps34
    go_wp2
    all_goals first | (exfalso; omega) | skip
    go_end0
    have hf : Fr (fun k => k = db) w (w.setCell ⟨db, 2, none⟩ (.int .i64 (-1))) := (Fr.refl _ _).setCell (by exact Or.inl rfl) _
    refine ⟨rfl, h.own (D' := { D with budget := -1 }) hf rfl rfl (by simp) (by simp) ⟨t, ?_⟩, hf⟩
    exact set_cell hd 2 _

set_option maxRecDepth 100000 in
set_option maxHeartbeats 400000 in
theorem budget_nil (k : Int) (w : World) : Calls Tryd.prog 34 #[.pointer none, .int .i64 k] w fun e w' => e = .returned (.tuple #[]) ∧ w = w' := by
  go_enter Tryd.func34, Tryd.ntmps34
  go_wp2
  go_end0
  exact ⟨rfl, rfl⟩

set_option maxRecDepth 100000 in
set_option maxHeartbeats 400000 in
theorem spent_c (h : DevAt Tryd.prog 3 w db lb mb D) : Calls Tryd.prog 24 #[.pointer (some ⟨db, 0, none⟩)] w fun e w' => e = .returned (.int .i64 D.spent) ∧ w = w' := by
  obtain ⟨h0, h1, h2, h3, h4, f2, f3, f4⟩ := h.cells
  go_enter Tryd.func24, Tryd.ntmps24
  go_wp2
  go_ret
  exact ⟨rfl, rfl⟩

set_option maxRecDepth 100000 in
set_option maxHeartbeats 400000 in
theorem spent_nil (w : World) : Calls Tryd.prog 24 #[.pointer none] w fun e w' => e = .returned (.int .i64 0) ∧ w = w' := by
  go_enter Tryd.func24, Tryd.ntmps24
  go_wp2
  go_ret
  exact ⟨rfl, rfl⟩
end
end Go.Proofs.YtdeckbdaencjnaaDoor
