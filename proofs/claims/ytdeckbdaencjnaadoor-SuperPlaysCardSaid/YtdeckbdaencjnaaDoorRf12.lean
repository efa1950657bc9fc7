/-
  heronryref08: Layout. Conditions: none.
-/
import Derived.Test.YtdeckbdaencjnaaDoorRf11
set_option linter.unusedVariables false
set_option linter.unusedSimpArgs false
namespace Go.Proofs.YtdeckbdaencjnaaDoor
open Go.RowKit
section
variable {w : World}
set_option maxRecDepth 100000 in
set_option maxHeartbeats 1000000 in
theorem rlayout_c (s : Sup) : Calls Tryd.prog 28 #[(.agg #[.int .i64 s.version, .int .i64 s.epoch, .int .i64 s.blocks, .int .i64 s.counters, .int .i64 s.log, .int .i64 s.head, .int .i64 s.applied])] w
    fun e w' => e = .returned (.tuple #[.int .i64 s.lay1, .int .i64 s.lay2, .int .i64 s.lay3, .int .i64 s.lay4]) ∧ Fr F0 w w' := by
  have HFX : Hid (Fr F0 w (w.alloc (.cells #[.int .i64 s.version, .int .i64 s.epoch, .int .i64 s.blocks, .int .i64 s.counters, .int .i64 s.log, .int .i64 s.head, .int .i64 s.applied] 23))) := Lib.hid ((Fr.refl _ _).alloc _)
  have HR0 : Hid ((w.alloc (.cells #[.int .i64 s.version, .int .i64 s.epoch, .int .i64 s.blocks, .int .i64 s.counters, .int .i64 s.log, .int .i64 s.head, .int .i64 s.applied] 23)).heap[w.heap.size]? = some (.cells s.cells.toArray 23 (0, 0))) := Lib.hid (alloc_at rfl _)
  by_cases hs : s.sane = true
  · have HS := Lib.hid hs
    have hS : s.Sane := by simpa [Sup.sane] using hs
    have b0 := hS.2.2.1.1
    have b1 := hS.2.2.1.2
    have c0 := hS.2.2.2.1.1
    have c1 := hS.2.2.2.1.2
    have l0 := hS.2.2.2.2.1.1
    have l1 := hS.2.2.2.2.1.2
    clear hs hS
    go_enter Tryd.func28, Tryd.ntmps28
    go_wp2_with fail
    refine (rsane_c s).mono ?_
    rintro e w2 ⟨rfl, hf2⟩
    rw [HS.out]
    have hr := hf2.keep0 HR0.out
    have k2 : w2.cell? ⟨w.heap.size, 2, none⟩ = some (.int .i64 s.blocks) := by rw [cell_of hr]; rfl
    have k3 : w2.cell? ⟨w.heap.size, 3, none⟩ = some (.int .i64 s.counters) := by rw [cell_of hr]; rfl
    have k4 : w2.cell? ⟨w.heap.size, 4, none⟩ = some (.int .i64 s.log) := by rw [cell_of hr]; rfl
    have HF2 := Lib.hid (HFX.out.then0 hf2)
    obtain ⟨ct, hct⟩ : ∃ ct, ct = s.counters := ⟨_, rfl⟩
    obtain ⟨bl, hbl⟩ : ∃ bl, bl = s.blocks := ⟨_, rfl⟩
    rw [← hct] at k3 c0 c1
    rw [← hbl] at k2 b0 b1
    have HCT := Lib.hid hct
    have HBL := Lib.hid hbl
    clear hr hf2 hct hbl
    go_wp2_with fail
    go_loopg [7, 8] ct.toNat (fun kq x7 x8 wr => ∃ j : Int, 0 ≤ j ∧ j ≤ 22 ∧ kq = (ct - 3 * j).toNat ∧ x8 = .int .i64 (ct - 3 * j) ∧ x7 = .int .i64 (2 + bl + j) ∧ 3 * j < ct + 3 ∧ wr = w2)
    case atStart => exact ⟨0, by omega, by omega, by simp, by simp, by simp, by omega, rfl⟩
    case round =>
      obtain ⟨j, j0, j1, rfl, rfl, rfl, j2, rfl⟩ := hrel
      obtain ⟨r, hr⟩ : ∃ r, r = ct - 3 * j := ⟨_, rfl⟩
      rw [← hr]
      by_cases hlt : 0 < r
      · have HRR := Lib.hid hr
        have hr1 : r ≤ 64 := by omega
        clear hr
        go_wp2_with fail
        have hr := HRR.out
        go_roundg (ct - 3 * (j + 1)).toNat
        case measure => omega
        case rel => exact ⟨j + 1, by omega, by omega, rfl, by congr 1; omega, by congr 1; omega, by omega, rfl⟩
      · have hj : j = (ct + 2) / 3 := by omega
        have HJ := Lib.hid hj
        have r1 : -3 < r := by omega
        clear hr hj
        go_wp2_with fail
        go_quiet (fail)
        go_wp2_with fail
        refine bodyPost_ret (results_four (v1 := .int .i64 s.lay1) (v2 := .int .i64 s.lay2) (v3 := .int .i64 s.lay3) (v4 := .int .i64 s.lay4) Tryd.results28 ?_ ?_ ?_ ?_) rfl ⟨rfl, HF2.out.drewN _⟩
        · unfold Sup.lay1; rw [if_pos HS.out]; rfl
        · unfold Sup.lay2; rw [if_pos HS.out, ← HBL.out]; rfl
        · unfold Sup.lay3; rw [if_pos HS.out, ← HBL.out, ← HCT.out, show (ct + 3 - 1) / 3 = j from by have := HJ.out; omega]; rfl
        · unfold Sup.lay4; rw [if_pos HS.out, ← HBL.out, ← HCT.out, show (ct + 3 - 1) / 3 = j from by have := HJ.out; omega]; rfl
  · have hs' : s.sane = false := by simpa using hs
    have HS := Lib.hid hs'
    clear hs hs'
    go_enter Tryd.func28, Tryd.ntmps28
    go_wp2_with fail
    refine (rsane_c s).mono ?_
    rintro e w2 ⟨rfl, hf2⟩
    rw [HS.out]
    go_wp2_with fail
    have hn : ¬ s.sane = true := by rw [HS.out]; decide
    refine bodyPost_ret (results_four (v1 := .int .i64 s.lay1) (v2 := .int .i64 s.lay2) (v3 := .int .i64 s.lay3) (v4 := .int .i64 s.lay4) Tryd.results28 ?_ ?_ ?_ ?_) rfl ⟨rfl, HFX.out.then0 hf2⟩
    · unfold Sup.lay1; rw [if_neg hn]; rfl
    · unfold Sup.lay2; rw [if_neg hn]; rfl
    · unfold Sup.lay3; rw [if_neg hn]; rfl
    · unfold Sup.lay4; rw [if_neg hn]; rfl
end
end Go.Proofs.YtdeckbdaencjnaaDoor
