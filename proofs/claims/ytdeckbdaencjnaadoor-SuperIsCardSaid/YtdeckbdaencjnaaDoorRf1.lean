/-
  heronryref01: Put. Conditions: none.
-/
import Derived.Test.YtdeckbdaencjnaaDoorRf3
set_option linter.unusedVariables false
set_option linter.unusedSimpArgs false
namespace Go.Proofs.YtdeckbdaencjnaaDoor
open Go.RowKit
section
variable {w : World}
set_option maxRecDepth 100000 in
set_option maxHeartbeats 1000000 in
theorem rput_c (A : Option Addr) (n c : Nat) (xs : List Int) (hA : BytesAt w A n xs) (hn : n ≤ 1099511627776) (v : Int) (hv0 : 0 ≤ v) (hv1 : v ≤ 18446744073709551615) (k : Nat) (hk : k ≤ 8) :
    Calls Tryd.prog 66 #[.slice A n c, .int .u64 v, .int .i64 (k : Int)] w fun e w' => OwnB w w' e (xs ++ le k v) := by
  have hl := hA.len
  have hk8 : ¬ (8 : Int) < (k : Int) := by omega
  have hk8' : (k : Int) ≤ 8 := by omega
  have HL := Lib.hid hl
  clear hl
  have f1 : Fr F0 w (w.alloc (.cells #[] 5)) := (Fr.refl _ _).alloc _
  have HA1 := Lib.hid (hA.keep0 f1)
  have HO1 : Hid ((w.alloc (.cells #[] 5)).ownsRow w.heap.size 5 1 (.slice (some ⟨w.heap.size, 0, none⟩) 0 0) 0 []) := Lib.hid ⟨rfl, .inr ⟨w.heap.size, 0, #[], rfl, Nat.le_refl _, alloc_at rfl _, Nat.le_refl _, by decide, rfl, rfl⟩⟩
  have hb1 : w.heap.size ≤ (w.alloc (.cells #[] 5)).heap.size := f1.size
  have HB1 := Lib.hid hb1
  have HF1 := Lib.hid f1
  clear f1 hb1
  go_enter Tryd.func66, Tryd.ntmps66
  go_wp2_with (at_builtin; refine wpList_append_vals rfl (.tmp 9) (.tmp 10) 24 5 1 (.int .u8 0) rfl und_bytes info_u8 rfl (by decide) w.heap.size (.slice (some ⟨w.heap.size, 0, none⟩) 0 0) [] (xs.map (Value.int .u8)) A n c (by rfl) (by rfl) (by rw [List.length_map, HL.out]) (bytes_one xs) HO1.out HA1.out.vals HB1.out (by simp; omega) ?_; intro v5 w1 hO5 hf5)
  have HO : Hid (OwnV w w1 v5 xs) := Lib.hid ⟨by simpa [HL.out] using hO5, HF1.out.trans hf5 (fun i hi => .inr (own_base HO1.out i hi))⟩
  clear hO5 hf5
  all_goals first | (exfalso; omega) | skip
  go_loopg [1, 7, 8] k (fun kq x1 x7 x12 wr => ∃ j : Nat, j ≤ k ∧ kq = k - j ∧ x1 = .int .u64 (v / 256 ^ j) ∧ x12 = .int .i64 (j : Int) ∧ OwnV w wr x7 (xs ++ le j v))
  case atStart => exact ⟨0, by omega, rfl, by simp, rfl, by simpa [le] using HO.out⟩
  case round =>
    obtain ⟨j, hj, rfl, rfl, rfl, hown⟩ := hrel
    have HO := Lib.hid hown
    have hb := hown.fr.size
    clear hown
    have hj0 : (0 : Int) ≤ (j : Int) := Int.natCast_nonneg _
    obtain ⟨u, hu⟩ : ∃ u : Int, u = v / 256 ^ j := ⟨_, rfl⟩
    rw [← hu]
    have HU := Lib.hid hu
    have hu0 : 0 ≤ u := by rw [hu]; exact Int.ediv_nonneg hv0 (Int.pow_nonneg (by decide))
    have hu1 : u ≤ 18446744073709551615 := by
      rw [hu]
      exact Int.le_trans (Int.ediv_le_self _ hv0) hv1
    clear hu
    by_cases hlt : j < k
    · have hj1 : (j : Int) < min (k : Int) 8 := by omega
      go_wp2_with (at_builtin; refine wpList_append_one rfl (.tmp 18) (.tmp 22) 24 5 1 (.int .u8 0) rfl und_bytes info_u8 rfl (by decide) w.heap.size u7 ((xs ++ le j v).map (Value.int .u8)) (.int .u8 (u % 256)) (by rfl) (by rfl) rfl (by rw [List.length_map]; exact HO.out.own) hb (by rw [List.length_map, List.length_append, le_len, HL.out]; omega) ?_; intro v3 w3 hown3 hf3)
      go_roundg (k - (j + 1))
      case measure => omega
      case rel =>
        refine ⟨j + 1, by omega, rfl, ?_, by first | rfl | (go_num), ?_⟩
        · rw [HU.out, Int.pow_succ, ← Int.ediv_ediv_of_nonneg (Int.pow_nonneg (by decide))]
        · have e : xs ++ le (j + 1) v = (xs ++ le j v) ++ [u % 256] := by
            rw [le_add j 1 v, ← HU.out]; simp [le]
          rw [e]
          refine ⟨by simpa [Nat.add_assoc] using hown3, HO.out.fr.trans hf3 (fun i hi => .inr (own_base HO.out.own i hi))⟩
    · have hjk : j = k := by omega
      subst hjk
      have hj2 : ¬ (j : Int) < min (j : Int) 8 := by omega
      go_wp2_with fail
      go_ret
      exact ⟨_, rfl, HO.out⟩
end
end Go.Proofs.YtdeckbdaencjnaaDoor
