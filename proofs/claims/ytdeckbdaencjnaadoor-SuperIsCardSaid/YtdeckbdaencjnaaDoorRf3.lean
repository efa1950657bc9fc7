/-
  heronryref03: half, More, Of: bit by bit, the same sum. Conditions: none.
-/
import Derived.Test.YtdeckbdaencjnaaDoorSu
set_option linter.unusedVariables false
set_option linter.unusedSimpArgs false
namespace Go.Proofs.YtdeckbdaencjnaaDoor
open Go.RowKit
theorem half_odd {v : BitVec 32} (h : v.toNat % 2 = 1) : half v = (v >>> 1) ^^^ 0xEDB88320#32 := by
  have : v.getLsbD 0 = true := by
    rw [BitVec.getLsbD, Nat.testBit_zero]
    simp [h]
  unfold half
  rw [this]; simp
section
variable {w : World}
set_option maxRecDepth 100000 in
set_option maxHeartbeats 1000000 in
theorem rhalf_c (v : BitVec 32) : Calls Tryd.prog 126 #[.int .u32 (v.toNat : Int)] w fun e w' => e = .returned (.int .u32 ((half v).toNat : Int)) ∧ w = w' := by
  have hv0 : (0 : Int) ≤ (v.toNat : Int) := Int.natCast_nonneg _
  have hv1 : (v.toNat : Int) ≤ 4294967295 := by have := v.isLt; omega
  have hd : ((v >>> 1).toNat : Int) = (v.toNat : Int) / 2 := by
    rw [BitVec.toNat_ushiftRight, Nat.shiftRight_eq_div_pow]; omega
  have hdd := hd.symm
  by_cases hr : v.toNat % 2 = 1
  · have hr1 : (v.toNat : Int) % 2 = 1 := by omega
    have hx := xor32 (v >>> 1) 0xEDB88320#32
    rw [← half_odd hr] at hx
    have hx' : bits .xor .u32 ((v >>> 1).toNat : Int) 3988292384 = ((half v).toNat : Int) := hx
    rw [hd] at hx'
    clear hx hr hd hdd
    go_enter Tryd.func126, Tryd.ntmps126
    go_wp2_with fail
    go_ret
    exact ⟨rfl, rfl⟩
  · have hr1 : (v.toNat : Int) % 2 = 0 := by omega
    have he : ((half v).toNat : Int) = (v.toNat : Int) / 2 := by rw [half_even (by omega), hd]
    rw [he]
    clear hr hd hdd he
    go_enter Tryd.func126, Tryd.ntmps126
    go_wp2_with fail
    go_ret
    exact ⟨rfl, rfl⟩
set_option maxRecDepth 100000 in
set_option maxHeartbeats 1000000 in
theorem rmore_c (A : Option Addr) (n c : Nat) (xs : List Int) (hA : BytesAt w A n xs) (hn : n ≤ 1099511627776) (hb : Bys xs) :
    Calls Tryd.prog 117 #[.int .u32 0, .slice A n c] w fun e w' => e = .returned (.int .u32 (sumOf xs)) ∧ w = w' := by
  have HL := Lib.hid hA.len
  have hx0 : bits .xor .u32 0 4294967295 = 4294967295 := by decide +kernel
  have hn0 : (n : Int) ≤ 1099511627776 := by omega
  go_enter Tryd.func117, Tryd.ntmps117
  go_wp2_with fail
  go_loopg [5, 6] n (fun kq x5 x6 wr => ∃ j : Nat, j ≤ n ∧ kq = n - j ∧ x6 = .int .i64 (j : Int) ∧ x5 = .int .u32 ((sumMore 0xFFFFFFFF#32 (xs.take j)).toNat : Int) ∧ w = wr)
  case atStart => exact ⟨0, by omega, rfl, rfl, rfl, rfl⟩
  case round =>
    obtain ⟨j, hj, rfl, rfl, rfl, rfl⟩ := hrel
    obtain ⟨v, hv⟩ : ∃ v, v = sumMore 0xFFFFFFFF#32 (xs.take j) := ⟨_, rfl⟩
    rw [← hv]
    have HV := Lib.hid hv
    clear hv
    have hv0 : (0 : Int) ≤ (v.toNat : Int) := Int.natCast_nonneg _
    have hv1 : (v.toNat : Int) ≤ 4294967295 := by have := v.isLt; omega
    by_cases hlt : j < n
    · have hj0 : (0 : Int) ≤ (j : Int) := Int.natCast_nonneg _
      have hj1 : (j : Int) < (n : Int) := by omega
      obtain ⟨ad, rfl, -⟩ := hA.cells (by omega)
      have hcell := hA.getD j hlt
      have hjl : j < xs.length := by rw [HL.out]; exact hlt
      obtain ⟨b, hbv⟩ : ∃ b : Nat, (b : Int) = xs.getD j 0 := ⟨(xs.getD j 0).toNat, by
        have := hb (xs.getD j 0) (by simp [List.getD, hjl])
        omega⟩
      have hb256 : b < 256 := by
        have := hb (xs.getD j 0) (by simp [List.getD, hjl])
        omega
      rw [← hbv] at hcell
      have HBV := Lib.hid hbv
      clear hbv
      have hbi0 : (0 : Int) ≤ (b : Int) := Int.natCast_nonneg _
      have hbi1 : (b : Int) ≤ 255 := by omega
      have hx : bits .xor .u32 (v.toNat : Int) (b : Int) = ((v ^^^ BitVec.ofNat 32 b).toNat : Int) := by
        have := xor32 v (BitVec.ofNat 32 b)
        rwa [BitVec.toNat_ofNat, Nat.mod_eq_of_lt (show b < 2 ^ 32 by omega)] at this
      obtain ⟨z, hz⟩ : ∃ z, z = v ^^^ BitVec.ofNat 32 b := ⟨_, rfl⟩
      rw [← hz] at hx
      have HZ := Lib.hid hz
      clear hz
      go_wp2_with fail
      go_loopg [5, 7] 8 (fun kq x5 x7 wq => ∃ q : Nat, q ≤ 8 ∧ kq = 8 - q ∧ x7 = .int .i64 (q : Int) ∧ x5 = .int .u32 ((halves q z).toNat : Int) ∧ w = wq)
      case atStart => exact ⟨0, by omega, rfl, rfl, rfl, rfl⟩
      case round =>
        obtain ⟨q, hq, rfl, rfl, rfl, rfl⟩ := hrel
        by_cases hq8 : q < 8
        · have hq0 : (0 : Int) ≤ (q : Int) := Int.natCast_nonneg _
          have hq1 : (q : Int) < 8 := by omega
          go_wp2_with fail
          refine (rhalf_c (halves q z)).mono ?_
          rintro e w' ⟨rfl, rfl⟩
          rw [← halves_succ]
          go_wp2_with fail
          go_roundg (8 - (q + 1))
          case measure => omega
          case rel => exact ⟨q + 1, by omega, rfl, by first | rfl | (go_num), rfl, rfl⟩
        · have hqe : q = 8 := by omega
          subst hqe
          go_wp2_with fail
          go_roundg (n - (j + 1))
          case measure => omega
          case rel =>
            refine ⟨j + 1, by omega, rfl, by first | rfl | (go_num), ?_, rfl⟩
            have htk : xs.take (j + 1) = xs.take j ++ [xs.getD j 0] := by
              rw [List.take_succ_eq_append_getElem hjl]; simp [List.getD, hjl]
            rw [htk, sumMore_snoc, ← HV.out, ← HBV.out, HZ.out, sumStep_bits v b hb256]
            rfl
    · have hjn : j = n := by omega
      subst hjn
      have hl := xor32 v 0xFFFFFFFF#32
      have hl' : bits .xor .u32 (v.toNat : Int) 4294967295 = ((v ^^^ 0xFFFFFFFF#32).toNat : Int) := hl
      clear hl
      go_wp2_with fail
      go_ret
      refine ⟨?_, rfl⟩
      rw [HV.out, List.take_of_length_le (by rw [HL.out]; exact Nat.le_refl _)]
      rfl
set_option maxRecDepth 100000 in
set_option maxHeartbeats 1000000 in
theorem rof_c (A : Option Addr) (n c : Nat) (xs : List Int) (hA : BytesAt w A n xs) (hn : n ≤ 1099511627776) (hb : Bys xs) :
    Calls Tryd.prog 98 #[.slice A n c] w fun e w' => e = .returned (.int .u32 (sumOf xs)) ∧ w = w' := by
  go_enter Tryd.func98, Tryd.ntmps98
  go_wp2_with fail
  refine (rmore_c A n c xs hA hn hb).mono ?_
  rintro e w1 ⟨rfl, rfl⟩
  go_wp2_with fail
  go_ret
  exact ⟨rfl, rfl⟩
end
end Go.Proofs.YtdeckbdaencjnaaDoor
