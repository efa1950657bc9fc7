/-
  Layer 11: grown, a world by things that are done. Conditions: none.
-/
import Derived.Test.YtgbaijfgmeealaaGreatL11e
import Derived.Test.YtgbaijfgmeealaaGreatActs11
set_option linter.unusedVariables false
set_option linter.unusedSimpArgs false
namespace Go.Proofs.YtgbaijfgmeealaaGreat
open Go.RowKit
theorem und_act11 : ∃ d, Tryz.prog.underlying 57 = some d ∧ aggDesc d = true := ⟨_, Tryz.underlying57, rfl⟩
theorem size_act11 : (Tryz.prog.info? 57).map (·.size) = some 4 := by kernel_rfl
structure GrownRet (w w' : World) (e : Ending) : Prop where
  ex : ∃ wb X L Q vx vt vq clk, e = .returned (.pointer (some ⟨wb, 0, none⟩)) ∧ WrAt w' wb X L Q vx vt vq clk ∧ GrnQ X L Q ∧ 0 ≤ clk ∧ clk ≤ 200 ∧ w.heap.size ≤ wb ∧ Fr F0 w w'
section
variable {w : World}
set_option maxRecDepth 100000 in
set_option maxHeartbeats 4000000 in
theorem grown_c {A : Option Addr} {N cA : Nat} {l : List Act1} (hA : ActsAt w A N l) (hN : N ≤ 200) : Calls Tryz.prog 7 #[.slice A N cA] w fun e w' => GrownRet w w' e := by
  have HACT := Lib.hid hA
  have N0 : (0 : Int) ≤ (N : Int) := Int.natCast_nonneg _
  obtain ⟨wb, hwb⟩ : ∃ wb, wb = w.heap.size := ⟨_, rfl⟩
  obtain ⟨W, hW⟩ : ∃ W, W = w.alloc (.cells #[.slice none 0 0, .int .i64 0, .slice none 0 0, .slice none 0 0] 36) := ⟨_, rfl⟩
  have HW0 : Hid (WrAt W wb [] [] [] (.slice none 0 0) (.slice none 0 0) (.slice none 0 0) 0) := Lib.hid ⟨by rw [hW]; exact alloc_at hwb _, SlV.nil _ _ _, SlV.nil _ _ _, SlV.nil _ _ _⟩
  have HF0 : Hid (Fr F0 w W) := Lib.hid (by rw [hW]; exact (Fr.refl _ _).alloc _)
  have HWE := Lib.hid hW
  have HWB := Lib.hid hwb
  obtain ⟨d, hu, hd⟩ := und_act11
  have HU := Lib.hid hu
  have HDD := Lib.hid hd
  clear hA hW hwb hu hd
  go_enter Tryz.func7, Tryz.ntmps7
  go_wp2_with fail
  rw [← HWE.out, ← HWB.out]
  go_loopg [4] N (fun kq x4 wr => ∃ (j : Nat) (X : List Tx9) (L : List Lk) (Q : List Wn) (vx vt vq : Value) (clk : Int), j ≤ N ∧ kq = N - j ∧ x4 = .int .i64 (j : Int) ∧ WrAt wr wb X L Q vx vt vq clk ∧ GrnQ X L Q ∧ 0 ≤ clk ∧ clk ≤ (j : Int) ∧ Fr F0 w wr)
  case atStart => exact ⟨0, [], [], [], _, _, _, 0, Nat.zero_le _, rfl, rfl, HW0.out, GrnQ.nil, Int.le_refl _, Int.le_refl _, HF0.out⟩
  case round =>
    obtain ⟨j, X, L, Q, vx, vt, vq, clk, hj, rfl, rfl, hw, hg, hc0, hc1, hf⟩ := hrel
    have HW := Lib.hid hw
    have HGN := Lib.hid hg
    have HF := Lib.hid hf
    have HC0 := Lib.hid hc0
    have HC1 := Lib.hid hc1
    have j0 : (0 : Int) ≤ (j : Int) := Int.natCast_nonneg _
    clear hw hg hf hc0 hc1
    by_cases hlt : j < N
    · have j1 : (j : Int) < (N : Int) := by omega
      obtain ⟨ab, ao, x, rfl, hx, hok, c0, c1, c2, c3⟩ := (HACT.out.keep0 HF.out).get hlt
      obtain ⟨x1, x2, x3, x4⟩ := x
      have HCS : Hid (∀ i v, (Act1.cells ⟨x1, x2, x3, x4⟩)[i]? = some v → wr.cell? ⟨ab, ao + j * 4 + i, none⟩ = some v) := Lib.hid (fun i v hv => by
        rcases i with _ | _ | _ | _ | i
        · simp [Act1.cells] at hv; subst hv; exact c0
        · simp [Act1.cells] at hv; subst hv; exact c1
        · simp [Act1.cells] at hv; subst hv; exact c2
        · simp [Act1.cells] at hv; subst hv; exact c3
        · simp [Act1.cells] at hv)
      clear hx hok c0 c1 c2 c3
      go_wp2_with (refine wpList_load_at rfl 57 (.tmp 16) rfl ab (ao + j * 4) (by rfl) (Act1.cells ⟨x1, x2, x3, x4⟩) d HCS.out HU.out HDD.out size_act11 ?_; simp only [Act1.cells, List.toArray])
      refine (do_c x1 x2 x3 x4 HW.out HGN.out HC0.out (by have := HC1.out; omega)).mono ?_
      intro e w1 hdr
      obtain ⟨X', L', Q', vx', vt', vq', clk', rfl, hw1, hg1, hcl, hcu, hf1⟩ := hdr.ex
      have HW1 := Lib.hid hw1
      have HG1 := Lib.hid hg1
      have HF1 : Hid (Fr F0 w w1) := Lib.hid (HF.out.trans hf1 (fun k hk => .inr (by have := HWB.out; omega)))
      have HL := Lib.hid hcl
      have HUP := Lib.hid hcu
      clear hdr hw1 hg1 hf1 hcl hcu
      go_wp2_with fail
      go_roundg (N - (j + 1))
      case measure => omega
      case rel => exact ⟨j + 1, _, _, _, _, _, _, clk', by omega, rfl, by first | rfl | (go_num), HW1.out, HG1.out, by have := HC0.out; have := HL.out; omega, by have := HC1.out; have := HUP.out; omega, HF1.out⟩
    · have j1 : ¬ (j : Int) < (N : Int) := by omega
      go_wp2_with fail
      go_ret
      exact ⟨wb, X, L, Q, _, _, _, clk, rfl, HW.out, HGN.out, HC0.out, by have := HC1.out; omega, by rw [HWB.out]; exact Nat.le_refl _, HF.out⟩
end
end Go.Proofs.YtgbaijfgmeealaaGreat
