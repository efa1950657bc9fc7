/-
  SuperLays: the walk. Conditions: none.
-/
import Derived.Test.YtdeckbdaencjnaaDoorL8a
set_option linter.unusedVariables false
set_option linter.unusedSimpArgs false
namespace Go.Proofs.YtdeckbdaencjnaaDoor
open Go.RowKit

section
variable {w : World}
theorem lays_sane {b c l : Int} (hb0 : 0 ≤ b) (hb1 : b < 256) (hc0 : 0 ≤ c) (hc1 : c < 64) (hl0 : 0 ≤ l) (hl1 : l < 1024) : (⟨0, 0, b, c, 1 + l, 0, 0⟩ : Sup).sane = true := by
  unfold Sup.sane
  rw [decide_eq_true_eq]
  show ((0 : Int) ≤ 0 ∧ (0 : Int) ≤ 281474976710656) ∧ ((0 : Int) ≤ 0 ∧ (0 : Int) ≤ 4294967295) ∧ (0 ≤ b ∧ b ≤ 256) ∧ (0 ≤ c ∧ c ≤ 64) ∧ (1 ≤ 1 + l ∧ 1 + l ≤ 4096) ∧ ((0 : Int) ≤ 0 ∧ (0 : Int) ≤ 1099511627776) ∧ ((0 : Int) ≤ 0 ∧ (0 : Int) ≤ 1099511627776)
  omega
set_option maxRecDepth 100000 in
set_option maxHeartbeats 2000000 in
theorem lays_walk (x y z : Int) : Calls Tryd.prog 7 #[.int .i64 x, .int .i64 y, .int .i64 z] w fun e w' => e = .returned (.bool true) ∧ Fr F0 w w' := by
  obtain ⟨b, hb⟩ : ∃ b, b = x % 256 := ⟨_, rfl⟩
  obtain ⟨c, hc⟩ : ∃ c, c = y % 64 := ⟨_, rfl⟩
  obtain ⟨l, hl⟩ : ∃ l, l = z % 1024 := ⟨_, rfl⟩
  have hb0 : 0 ≤ b := by omega
  have hb1 : b < 256 := by omega
  have hc0 : 0 ≤ c := by omega
  have hc1 : c < 64 := by omega
  have hl0 : 0 ≤ l := by omega
  have hl1 : l < 1024 := by omega
  have hx : bits .and .i64 x 255 = b := by rw [hb]; exact i64_and x 8 (by decide)
  have hy : bits .and .i64 y 63 = c := by rw [hc]; exact i64_and y 6 (by decide)
  have hz : bits .and .i64 z 1023 = l := by rw [hl]; exact i64_and z 10 (by decide)
  clear hb hc hl
  have HSN := Lib.hid (lays_sane hb0 hb1 hc0 hc1 hl0 hl1)
  have H1 : Hid ((⟨0, 0, b, c, 1 + l, 0, 0⟩ : Sup).lay1 = 2) := Lib.hid (by unfold Sup.lay1; rw [if_pos HSN.out])
  have H2 : Hid ((⟨0, 0, b, c, 1 + l, 0, 0⟩ : Sup).lay2 = 2 + b) := Lib.hid (by unfold Sup.lay2; rw [if_pos HSN.out])
  obtain ⟨q, hq⟩ : ∃ q, q = (c + 3 - 1) / 3 := ⟨_, rfl⟩
  have H3 : Hid ((⟨0, 0, b, c, 1 + l, 0, 0⟩ : Sup).lay3 = 2 + b + q) := Lib.hid (by unfold Sup.lay3; rw [if_pos HSN.out, hq])
  have H4 : Hid ((⟨0, 0, b, c, 1 + l, 0, 0⟩ : Sup).lay4 = 2 + b + q + (1 + l)) := Lib.hid (by unfold Sup.lay4; rw [if_pos HSN.out, hq])
  have hq0 : 0 ≤ q := by omega
  have hq1 : q < 23 := by omega
  have hq2 : c ≤ 3 * q := by omega
  have hq3 : 3 * q < c + 3 := by omega
  have HQ := Lib.hid hq
  clear hq
  go_enter Tryd.func7, Tryd.ntmps7
  go_wp2_with fail
  refine (awake_c _).mono ?_
  rintro e w1 ⟨rfl, hf1⟩
  go_wp2_with fail
  have hc2 : (w1.alloc (.cells #[.int .i64 0, .int .i64 0, .int .i64 b, .int .i64 c, .int .i64 (1 + l), .int .i64 0, .int .i64 0] 29)).heap[w1.heap.size]? = some (.cells #[.int .i64 0, .int .i64 0, .int .i64 b, .int .i64 c, .int .i64 (1 + l), .int .i64 0, .int .i64 0] 29 (0, 0)) := alloc_at rfl _
  refine (layout_c ⟨0, 0, b, c, 1 + l, 0, 0⟩).mono ?_
  rintro e w2 ⟨rfl, hf2⟩
  rw [H1.out, H2.out, H3.out, H4.out]
  have hc3 := hf2.keep0 hc2
  have HF2 := Lib.hid ((hf1.alloc (.cells #[.int .i64 0, .int .i64 0, .int .i64 b, .int .i64 c, .int .i64 (1 + l), .int .i64 0, .int .i64 0] 29)).then0 hf2)
  have HC3 := Lib.hid hc3
  clear hc2 hc3 hf2
  go_wp2_with fail
  refine (layout_c ⟨0, 0, 0, 0, 0, 0, 0⟩).mono ?_
  rintro e w3 ⟨rfl, hf3⟩
  have hc4 := hf3.keep0 HC3.out
  have k2 : w3.cell? ⟨w1.heap.size, 2, none⟩ = some (.int .i64 b) := by rw [cell_of hc4]; rfl
  have k3 : w3.cell? ⟨w1.heap.size, 3, none⟩ = some (.int .i64 c) := by rw [cell_of hc4]; rfl
  have k4 : w3.cell? ⟨w1.heap.size, 4, none⟩ = some (.int .i64 (1 + l)) := by rw [cell_of hc4]; rfl
  have HF3 := Lib.hid (HF2.out.then0 hf3)
  have z1 : (⟨0, 0, 0, 0, 0, 0, 0⟩ : Sup).lay1 = 0 := by decide
  have z2 : (⟨0, 0, 0, 0, 0, 0, 0⟩ : Sup).lay2 = 0 := by decide
  have z3 : (⟨0, 0, 0, 0, 0, 0, 0⟩ : Sup).lay3 = 0 := by decide
  have z4 : (⟨0, 0, 0, 0, 0, 0, 0⟩ : Sup).lay4 = 0 := by decide
  rw [z1, z2, z3, z4]
  have t1 : (2 + b - 2 == b) = true := by rw [beq_iff_eq]; omega
  have t2 : (2 + b + q + (1 + l) - (2 + b + q) == 1 + l) = true := by rw [beq_iff_eq]; omega
  clear hc4 hf3 z1 z2 z3 z4
  go_wp2_with fail
  go_ret
  exact ⟨rfl, HF3.out⟩
end
end Go.Proofs.YtdeckbdaencjnaaDoor
