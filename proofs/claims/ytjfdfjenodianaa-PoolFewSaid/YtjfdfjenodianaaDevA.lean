/-
  The device's small functions: Size, Gone, may, spend, Budget, Spent. Conditions: none.
-/
import Derived.Test.YtjfdfjenodianaaProg
import Derived.Test.YtjfdfjenodianaaDev
set_option linter.unusedVariables false
set_option linter.unusedSimpArgs false
namespace Go.Proofs.Ytjfdfjenodianaa
open Go.RowKit
section
variable {w : World} {db lb mb : Nat} {D : Dev}

set_option maxRecDepth 100000 in
set_option maxHeartbeats 400000 in
theorem size_c (h : DevAt Try.prog 3 w db lb mb D) : Calls Try.prog 35 #[.pointer (some ⟨db, 0, none⟩)] w fun e w' => e = .returned (.int .i64 D.laid.length) ∧ w = w' := by
  obtain ⟨h0, h1, h2, h3, h4, f2, f3, f4⟩ := h.cells
  go_enter Try.func35, Try.ntmps35
  go_wp2
  go_ret
  exact ⟨rfl, rfl⟩

set_option maxRecDepth 100000 in
set_option maxHeartbeats 400000 in
theorem size_nil (w : World) : Calls Try.prog 35 #[.pointer none] w fun e w' => e = .returned (.int .i64 0) ∧ w = w' := by
  go_enter Try.func35, Try.ntmps35
  go_wp2
  go_ret
  exact ⟨rfl, rfl⟩

set_option maxRecDepth 100000 in
set_option maxHeartbeats 400000 in
theorem gone_c (h : DevAt Try.prog 3 w db lb mb D) : Calls Try.prog 24 #[.pointer (some ⟨db, 0, none⟩)] w fun e w' => e = .returned (.bool D.gone) ∧ w = w' := by
  obtain ⟨h0, h1, h2, h3, h4, f2, f3, f4⟩ := h.cells
  have hn : ((D.laid.length : Int) == 0) = false := by have := h.ok.pos; rw [beq_eq_false_iff_ne]; omega
  go_enter Try.func24, Try.ntmps24
  go_wp2_with (go_at_call 35; refine (size_c h).mono ?_; rintro e w' ⟨rfl, rfl⟩)
  go_ret
  exact ⟨rfl, rfl⟩

set_option maxRecDepth 100000 in
set_option maxHeartbeats 400000 in
theorem gone_nil (w : World) : Calls Try.prog 24 #[.pointer none] w fun e w' => e = .returned (.bool true) ∧ w = w' := by
  go_enter Try.func24, Try.ntmps24
  go_wp2_with (go_at_call 35; refine (size_nil _).mono ?_; rintro e w' ⟨rfl, rfl⟩)
  go_ret
  exact ⟨rfl, rfl⟩

set_option maxRecDepth 100000 in
set_option maxHeartbeats 400000 in
theorem may_c (h : DevAt Try.prog 3 w db lb mb D) (i : Int) : Calls Try.prog 32 #[.pointer (some ⟨db, 0, none⟩), .int .i64 i] w fun e w' => e = .returned (.int .i64 (D.may i)) ∧ w = w' := by
  obtain ⟨h0, h1, h2, h3, h4, f2, f3, f4⟩ := h.cells
  have hm : D.laid.length ≤ 9223372036854775807 := by have := h.ok.most; omega
  by_cases hg : D.gone = true
  · have hr : D.may i = 11 := by simp [Dev.may, hg]
    have Hg := Lib.hid hg
    rw [hr]
    go_enter Try.func32, Try.ntmps32
    go_wp2_with (go_at_call 24; refine (gone_c h).mono ?_; rintro e w' ⟨rfl, rfl⟩; rw [Hg.out])
    go_ret
    exact ⟨rfl, rfl⟩
  · have hg' : D.gone = false := by simpa using hg
    by_cases h5 : i < 0
    · have hr : D.may i = 1 := by simp [Dev.may, hg', h5]
      rw [hr]
      go_enter Try.func32, Try.ntmps32
      go_wp2_with (go_at_call 24; refine (gone_c h).mono ?_; rintro e w' ⟨rfl, rfl⟩; rw [hg'])
      go_ret
      exact ⟨rfl, rfl⟩
    · by_cases h6 : (D.laid.length : Int) ≤ i
      · have hr : D.may i = 1 := by simp [Dev.may, hg', h6]
        rw [hr]
        go_enter Try.func32, Try.ntmps32
        go_wp2_with (go_at_call 24; refine (gone_c h).mono ?_; rintro e w' ⟨rfl, rfl⟩; rw [hg'])
        go_ret
        exact ⟨rfl, rfl⟩
      · have hr : D.may i = 0 := by simp [Dev.may, hg', h5, h6]
        rw [hr]
        go_enter Try.func32, Try.ntmps32
        go_wp2_with (go_at_call 24; refine (gone_c h).mono ?_; rintro e w' ⟨rfl, rfl⟩; rw [hg'])
        go_ret
        exact ⟨rfl, rfl⟩

set_option maxRecDepth 100000 in
set_option maxHeartbeats 400000 in
theorem may_nil (i : Int) (w : World) : Calls Try.prog 32 #[.pointer none, .int .i64 i] w fun e w' => e = .returned (.int .i64 11) ∧ w = w' := by
  go_enter Try.func32, Try.ntmps32
  go_wp2_with (go_at_call 24; refine (gone_nil _).mono ?_; rintro e w' ⟨rfl, rfl⟩)
  go_ret
  exact ⟨rfl, rfl⟩

set_option maxRecDepth 100000 in
set_option maxHeartbeats 400000 in
theorem spend_c (h : DevAt Try.prog 3 w db lb mb D) : Calls Try.prog 33 #[.pointer (some ⟨db, 0, none⟩)] w fun e w' => e = .returned (.int .i64 D.spendE) ∧ DevAt Try.prog 3 w' db lb mb D.spend ∧ Fr (fun k => k = db) w w' := by
  obtain ⟨h0, h1, h2, h3, h4, f2, f3, f4⟩ := h.cells
  obtain ⟨t, hd⟩ := h.dev
  have hb := h.ok.least
  have hb' := h.ok.fits
  by_cases hz : D.budget = 0
  · have hr : D.spendE = 11 := by simp [Dev.spendE, hz]
    have hs : D.spend = { D with gone := true } := by simp [Dev.spend, hz]
    rw [hr, hs]
    have hz' : (D.budget == 0) = true := by simp [hz]
    have Hz := Lib.hid hz
    clear hz hs
    go_enter Try.func33, Try.ntmps33
    go_wp2
    go_ret
    have hf : Fr (fun k => k = db) w (w.setCell ⟨db, 3, none⟩ (.bool true)) := (Fr.refl _ _).setCell (by exact Or.inl rfl) _
    refine ⟨rfl, h.own (D' := { D with gone := true }) hf rfl rfl hb hb' ⟨t, ?_⟩, hf⟩
    exact set_cell hd 3 (.bool true)
  · have hr : D.spendE = 0 := by simp [Dev.spendE, hz]
    have hz' : (D.budget == 0) = false := by simp [hz]
    rw [hr]
    by_cases hp : 0 < D.budget
    · have hs : D.spend = { D with budget := D.budget - 1, spent := wrap64 (D.spent + 1) } := by simp [Dev.spend, hz, hp]
      rw [hs]
      clear hs
      go_enter Try.func33, Try.ntmps33
      go_wp2
      go_ret
      have hf : Fr (fun k => k = db) w ((w.setCell ⟨db, 2, none⟩ (.int .i64 (D.budget - 1))).setCell ⟨db, 4, none⟩ (.int .i64 (wrap64 (D.spent + 1)))) := ((Fr.refl _ _).setCell (by exact Or.inl rfl) _).setCell (by exact Or.inl rfl) _
      refine ⟨rfl, h.own (D' := { D with budget := D.budget - 1, spent := wrap64 (D.spent + 1) }) hf rfl rfl (by simp; omega) (by simp; omega) ⟨t, ?_⟩, hf⟩
      exact set_cell (set_cell hd 2 _) 4 _
    · have hs : D.spend = { D with budget := D.budget, spent := wrap64 (D.spent + 1) } := by simp [Dev.spend, hz, hp]
      rw [hs]
      clear hs
      go_enter Try.func33, Try.ntmps33
      go_wp2
      go_ret
      have hf : Fr (fun k => k = db) w (w.setCell ⟨db, 4, none⟩ (.int .i64 (wrap64 (D.spent + 1)))) := (Fr.refl _ _).setCell (by exact Or.inl rfl) _
      refine ⟨rfl, h.own (D' := { D with budget := D.budget, spent := wrap64 (D.spent + 1) }) hf rfl rfl hb hb' ⟨t, ?_⟩, hf⟩
      exact set_cell hd 4 _

set_option maxRecDepth 100000 in
set_option maxHeartbeats 400000 in
theorem spent_c (h : DevAt Try.prog 3 w db lb mb D) : Calls Try.prog 21 #[.pointer (some ⟨db, 0, none⟩)] w fun e w' => e = .returned (.int .i64 D.spent) ∧ w = w' := by
  obtain ⟨h0, h1, h2, h3, h4, f2, f3, f4⟩ := h.cells
  go_enter Try.func21, Try.ntmps21
  go_wp2
  go_ret
  exact ⟨rfl, rfl⟩

set_option maxRecDepth 100000 in
set_option maxHeartbeats 400000 in
theorem spent_nil (w : World) : Calls Try.prog 21 #[.pointer none] w fun e w' => e = .returned (.int .i64 0) ∧ w = w' := by
  go_enter Try.func21, Try.ntmps21
  go_wp2
  go_ret
  exact ⟨rfl, rfl⟩
end
end Go.Proofs.Ytjfdfjenodianaa
