/-
  heronryref03: half, More, Of: bit by bit, the same sum. heronryref01: Put. heronryref03's Seal; heronryref01's Reader. Conditions: none.
-/
import Derived.Test.YtdeckbdaencjnaaDoorSu
set_option linter.unusedVariables false
set_option linter.unusedSimpArgs false
namespace Go.Proofs.YtdeckbdaencjnaaDoor
open Go.RowKit
theorem half_odd {v : BitVec 32} (h : v.toNat % 2 = 1) : half v = (v >>> 1) ^^^ 0xEDB88320#32 := by
  have : v.getLsbD 0 = true := by
    rw [BitVec.getLsbD, Nat.testBit_zero]
    simp [h]
  unfold half
  rw [this]; simp
section
variable {w : World}
set_option maxRecDepth 100000 in
set_option maxHeartbeats 1000000 in
theorem rhalf_c (v : BitVec 32) : Calls Tryd.prog 126 #[.int .u32 (v.toNat : Int)] w fun e w' => e = .returned (.int .u32 ((half v).toNat : Int)) ∧ w = w' := by
  have hv0 : (0 : Int) ≤ (v.toNat : Int) := Int.natCast_nonneg _
  have hv1 : (v.toNat : Int) ≤ 4294967295 := by have := v.isLt; omega
  have hd : ((v >>> 1).toNat : Int) = (v.toNat : Int) / 2 := by
    rw [BitVec.toNat_ushiftRight, Nat.shiftRight_eq_div_pow]; omega
  have hdd := hd.symm
  by_cases hr : v.toNat % 2 = 1
  · have hr1 : (v.toNat : Int) % 2 = 1 := by omega
    have hx := xor32 (v >>> 1) 0xEDB88320#32
    rw [← half_odd hr] at hx
    have hx' : bits .xor .u32 ((v >>> 1).toNat : Int) 3988292384 = ((half v).toNat : Int) := hx
    rw [hd] at hx'
    clear hx hr hd hdd
    go_enter Tryd.func126, Tryd.ntmps126
    go_wp2_with fail
    go_ret
    exact ⟨rfl, rfl⟩
  · have hr1 : (v.toNat : Int) % 2 = 0 := by omega
    have he : ((half v).toNat : Int) = (v.toNat : Int) / 2 := by rw [half_even (by omega), hd]
    rw [he]
    clear hr hd hdd he
    go_enter Tryd.func126, Tryd.ntmps126
    go_wp2_with fail
    go_ret
    exact ⟨rfl, rfl⟩
set_option maxRecDepth 100000 in
set_option maxHeartbeats 1000000 in
theorem rmore_c (A : Option Addr) (n c : Nat) (xs : List Int) (hA : BytesAt w A n xs) (hn : n ≤ 1099511627776) (hb : Bys xs) :
    Calls Tryd.prog 117 #[.int .u32 0, .slice A n c] w fun e w' => e = .returned (.int .u32 (sumOf xs)) ∧ w = w' := by
  have HL := Lib.hid hA.len
  have hx0 : bits .xor .u32 0 4294967295 = 4294967295 := by decide +kernel
  have hn0 : (n : Int) ≤ 1099511627776 := by omega
  go_enter Tryd.func117, Tryd.ntmps117
  go_wp2_with fail
  go_loopg [5, 6] n (fun kq x5 x6 wr => ∃ j : Nat, j ≤ n ∧ kq = n - j ∧ x6 = .int .i64 (j : Int) ∧ x5 = .int .u32 ((sumMore 0xFFFFFFFF#32 (xs.take j)).toNat : Int) ∧ w = wr)
  case atStart => exact ⟨0, by omega, rfl, rfl, rfl, rfl⟩
  case round =>
    obtain ⟨j, hj, rfl, rfl, rfl, rfl⟩ := hrel
    obtain ⟨v, hv⟩ : ∃ v, v = sumMore 0xFFFFFFFF#32 (xs.take j) := ⟨_, rfl⟩
    rw [← hv]
    have HV := Lib.hid hv
    clear hv
    have hv0 : (0 : Int) ≤ (v.toNat : Int) := Int.natCast_nonneg _
    have hv1 : (v.toNat : Int) ≤ 4294967295 := by have := v.isLt; omega
    by_cases hlt : j < n
    · have hj0 : (0 : Int) ≤ (j : Int) := Int.natCast_nonneg _
      have hj1 : (j : Int) < (n : Int) := by omega
      obtain ⟨ad, rfl, -⟩ := hA.cells (by omega)
      have hcell := hA.getD j hlt
      have hjl : j < xs.length := by rw [HL.out]; exact hlt
      obtain ⟨b, hbv⟩ : ∃ b : Nat, (b : Int) = xs.getD j 0 := ⟨(xs.getD j 0).toNat, by
        have := hb (xs.getD j 0) (by simp [List.getD, hjl])
        omega⟩
      have hb256 : b < 256 := by
        have := hb (xs.getD j 0) (by simp [List.getD, hjl])
        omega
      rw [← hbv] at hcell
      have HBV := Lib.hid hbv
      clear hbv
      have hbi0 : (0 : Int) ≤ (b : Int) := Int.natCast_nonneg _
      have hbi1 : (b : Int) ≤ 255 := by omega
      have hx : bits .xor .u32 (v.toNat : Int) (b : Int) = ((v ^^^ BitVec.ofNat 32 b).toNat : Int) := by
        have := xor32 v (BitVec.ofNat 32 b)
        rwa [BitVec.toNat_ofNat, Nat.mod_eq_of_lt (show b < 2 ^ 32 by omega)] at this
      obtain ⟨z, hz⟩ : ∃ z, z = v ^^^ BitVec.ofNat 32 b := ⟨_, rfl⟩
      rw [← hz] at hx
      have HZ := Lib.hid hz
      clear hz
      go_wp2_with fail
      go_loopg [5, 7] 8 (fun kq x5 x7 wq => ∃ q : Nat, q ≤ 8 ∧ kq = 8 - q ∧ x7 = .int .i64 (q : Int) ∧ x5 = .int .u32 ((halves q z).toNat : Int) ∧ w = wq)
      case atStart => exact ⟨0, by omega, rfl, rfl, rfl, rfl⟩
      case round =>
        obtain ⟨q, hq, rfl, rfl, rfl, rfl⟩ := hrel
        by_cases hq8 : q < 8
        · have hq0 : (0 : Int) ≤ (q : Int) := Int.natCast_nonneg _
          have hq1 : (q : Int) < 8 := by omega
          go_wp2_with fail
          refine (rhalf_c (halves q z)).mono ?_
          rintro e w' ⟨rfl, rfl⟩
          rw [← halves_succ]
          go_wp2_with fail
          go_roundg (8 - (q + 1))
          case measure => omega
          case rel => exact ⟨q + 1, by omega, rfl, by first | rfl | (go_num), rfl, rfl⟩
        · have hqe : q = 8 := by omega
          subst hqe
          go_wp2_with fail
          go_roundg (n - (j + 1))
          case measure => omega
          case rel =>
            refine ⟨j + 1, by omega, rfl, by first | rfl | (go_num), ?_, rfl⟩
            have htk : xs.take (j + 1) = xs.take j ++ [xs.getD j 0] := by
              rw [List.take_succ_eq_append_getElem hjl]; simp [List.getD, hjl]
            rw [htk, sumMore_snoc, ← HV.out, ← HBV.out, HZ.out, sumStep_bits v b hb256]
            rfl
    · have hjn : j = n := by omega
      subst hjn
      have hl := xor32 v 0xFFFFFFFF#32
      have hl' : bits .xor .u32 (v.toNat : Int) 4294967295 = ((v ^^^ 0xFFFFFFFF#32).toNat : Int) := hl
      clear hl
      go_wp2_with fail
      go_ret
      refine ⟨?_, rfl⟩
      rw [HV.out, List.take_of_length_le (by rw [HL.out]; exact Nat.le_refl _)]
      rfl
set_option maxRecDepth 100000 in
set_option maxHeartbeats 1000000 in
theorem rof_c (A : Option Addr) (n c : Nat) (xs : List Int) (hA : BytesAt w A n xs) (hn : n ≤ 1099511627776) (hb : Bys xs) :
    Calls Tryd.prog 98 #[.slice A n c] w fun e w' => e = .returned (.int .u32 (sumOf xs)) ∧ w = w' := by
  go_enter Tryd.func98, Tryd.ntmps98
  go_wp2_with fail
  refine (rmore_c A n c xs hA hn hb).mono ?_
  rintro e w1 ⟨rfl, rfl⟩
  go_wp2_with fail
  go_ret
  exact ⟨rfl, rfl⟩
end
end Go.Proofs.YtdeckbdaencjnaaDoor
set_option linter.unusedVariables false
set_option linter.unusedSimpArgs false
namespace Go.Proofs.YtdeckbdaencjnaaDoor
open Go.RowKit
section
variable {w : World}
set_option maxRecDepth 100000 in
set_option maxHeartbeats 1000000 in
theorem rput_c (A : Option Addr) (n c : Nat) (xs : List Int) (hA : BytesAt w A n xs) (hn : n ≤ 1099511627776) (v : Int) (hv0 : 0 ≤ v) (hv1 : v ≤ 18446744073709551615) (k : Nat) (hk : k ≤ 8) :
    Calls Tryd.prog 66 #[.slice A n c, .int .u64 v, .int .i64 (k : Int)] w fun e w' => OwnB w w' e (xs ++ le k v) := by
  have hl := hA.len
  have hk8 : ¬ (8 : Int) < (k : Int) := by omega
  have hk8' : (k : Int) ≤ 8 := by omega
  have HL := Lib.hid hl
  clear hl
  have f1 : Fr F0 w (w.alloc (.cells #[] 5)) := (Fr.refl _ _).alloc _
  have HA1 := Lib.hid (hA.keep0 f1)
  have HO1 : Hid ((w.alloc (.cells #[] 5)).ownsRow w.heap.size 5 1 (.slice (some ⟨w.heap.size, 0, none⟩) 0 0) 0 []) := Lib.hid ⟨rfl, .inr ⟨w.heap.size, 0, #[], rfl, Nat.le_refl _, alloc_at rfl _, Nat.le_refl _, by decide, rfl, rfl⟩⟩
  have hb1 : w.heap.size ≤ (w.alloc (.cells #[] 5)).heap.size := f1.size
  have HB1 := Lib.hid hb1
  have HF1 := Lib.hid f1
  clear f1 hb1
  go_enter Tryd.func66, Tryd.ntmps66
  go_wp2_with (at_builtin; refine wpList_append_vals rfl (.tmp 9) (.tmp 10) 24 5 1 (.int .u8 0) rfl und_bytes info_u8 rfl (by decide) w.heap.size (.slice (some ⟨w.heap.size, 0, none⟩) 0 0) [] (xs.map (Value.int .u8)) A n c (by rfl) (by rfl) (by rw [List.length_map, HL.out]) (bytes_one xs) HO1.out HA1.out.vals HB1.out (by simp; omega) ?_; intro v5 w1 hO5 hf5)
  have HO : Hid (OwnV w w1 v5 xs) := Lib.hid ⟨by simpa [HL.out] using hO5, HF1.out.trans hf5 (fun i hi => .inr (own_base HO1.out i hi))⟩
  clear hO5 hf5
  all_goals first | (exfalso; omega) | skip
  go_loopg [1, 7, 8] k (fun kq x1 x7 x12 wr => ∃ j : Nat, j ≤ k ∧ kq = k - j ∧ x1 = .int .u64 (v / 256 ^ j) ∧ x12 = .int .i64 (j : Int) ∧ OwnV w wr x7 (xs ++ le j v))
  case atStart => exact ⟨0, by omega, rfl, by simp, rfl, by simpa [le] using HO.out⟩
  case round =>
    obtain ⟨j, hj, rfl, rfl, rfl, hown⟩ := hrel
    have HO := Lib.hid hown
    have hb := hown.fr.size
    clear hown
    have hj0 : (0 : Int) ≤ (j : Int) := Int.natCast_nonneg _
    obtain ⟨u, hu⟩ : ∃ u : Int, u = v / 256 ^ j := ⟨_, rfl⟩
    rw [← hu]
    have HU := Lib.hid hu
    have hu0 : 0 ≤ u := by rw [hu]; exact Int.ediv_nonneg hv0 (Int.pow_nonneg (by decide))
    have hu1 : u ≤ 18446744073709551615 := by
      rw [hu]
      exact Int.le_trans (Int.ediv_le_self _ hv0) hv1
    clear hu
    by_cases hlt : j < k
    · have hj1 : (j : Int) < min (k : Int) 8 := by omega
      go_wp2_with (at_builtin; refine wpList_append_one rfl (.tmp 18) (.tmp 22) 24 5 1 (.int .u8 0) rfl und_bytes info_u8 rfl (by decide) w.heap.size u7 ((xs ++ le j v).map (Value.int .u8)) (.int .u8 (u % 256)) (by rfl) (by rfl) rfl (by rw [List.length_map]; exact HO.out.own) hb (by rw [List.length_map, List.length_append, le_len, HL.out]; omega) ?_; intro v3 w3 hown3 hf3)
      go_roundg (k - (j + 1))
      case measure => omega
      case rel =>
        refine ⟨j + 1, by omega, rfl, ?_, by first | rfl | (go_num), ?_⟩
        · rw [HU.out, Int.pow_succ, ← Int.ediv_ediv_of_nonneg (Int.pow_nonneg (by decide))]
        · have e : xs ++ le (j + 1) v = (xs ++ le j v) ++ [u % 256] := by
            rw [le_add j 1 v, ← HU.out]; simp [le]
          rw [e]
          refine ⟨by simpa [Nat.add_assoc] using hown3, HO.out.fr.trans hf3 (fun i hi => .inr (own_base HO.out.own i hi))⟩
    · have hjk : j = k := by omega
      subst hjk
      have hj2 : ¬ (j : Int) < min (j : Int) 8 := by omega
      go_wp2_with fail
      go_ret
      exact ⟨_, rfl, HO.out⟩
end
end Go.Proofs.YtdeckbdaencjnaaDoor
set_option linter.unusedVariables false
set_option linter.unusedSimpArgs false
namespace Go.Proofs.YtdeckbdaencjnaaDoor
open Go.RowKit
section
variable {w : World}
set_option maxRecDepth 100000 in
set_option maxHeartbeats 1000000 in
theorem rseal_c (A : Option Addr) (n c : Nat) (xs : List Int) (hA : BytesAt w A n xs) (hn : n ≤ 1099511627776) (hb : Bys xs) :
    Calls Tryd.prog 67 #[.slice A n c] w fun e w' => OwnB w w' e (sealL xs) := by
  have h0 := (sumOf_bd xs).1
  have h1 : sumOf xs ≤ 4294967295 := by have := (sumOf_bd xs).2; omega
  obtain ⟨s, hs⟩ : ∃ s, s = sumOf xs := ⟨_, rfl⟩
  have HS := Lib.hid hs
  rw [← hs] at h0 h1
  clear hs
  go_enter Tryd.func67, Tryd.ntmps67
  go_wp2_with fail
  refine (rof_c A n c xs hA hn hb).mono ?_
  rintro e w1 ⟨rfl, rfl⟩
  rw [← HS.out]
  go_wp2_with fail
  refine (rput_c A n c xs hA hn s h0 (by omega) 4 (by decide)).mono ?_
  rintro e w2 ⟨v, rfl, hown⟩
  go_wp2_with fail
  go_ret
  have : sealL xs = xs ++ le 4 s := by rw [HS.out]; rfl
  rw [this]
  exact ⟨_, rfl, hown⟩
/-- A reader of the document's: the bytes and the place. -/
structure RRd (w : World) (rb : Nat) (A : Option Addr) (n c : Nat) (xs : List Int) (at_ : Nat) : Prop where
  row : ∃ t, w.heap[rb]? = some (.cells #[.slice A n c, .int .i64 (at_ : Int)] t (0, 0))
  ba : BytesAt w A n xs
  bys : Bys xs
  le : at_ ≤ n
  ne : ∀ ad, A = some ad → 0 < n → ad.block ≠ rb
  big : n ≤ 1099511627776
theorem RRd.keep0 {w w' : World} {rb n c at_ : Nat} {A : Option Addr} {xs : List Int} (h : RRd w rb A n c xs at_) (hf : Fr F0 w w') : RRd w' rb A n c xs at_ := by
  obtain ⟨⟨t, hr⟩, a, b, d, e, f⟩ := h
  exact ⟨⟨t, hf.keep0 hr⟩, a.keep0 hf, b, d, e, f⟩
set_option maxRecDepth 100000 in
set_option maxHeartbeats 1000000 in
theorem rleft_c {rb n c at_ : Nat} {A : Option Addr} {xs : List Int} (h : RRd w rb A n c xs at_) : Calls Tryd.prog 99 #[.pointer (some ⟨rb, 0, none⟩)] w fun e w' => e = .returned (.int .i64 ((n : Int) - at_)) ∧ Fr F0 w w' := by
  obtain ⟨t, hr⟩ := h.row
  have c0 : w.cell? ⟨rb, 0, none⟩ = some (.slice A n c) := by rw [cell_of hr]; rfl
  have c1 : w.cell? ⟨rb, 1, none⟩ = some (.int .i64 (at_ : Int)) := by rw [cell_of hr]; rfl
  have hb := h.big
  have hl := h.le
  have n0 : (0 : Int) ≤ (n : Int) := Int.natCast_nonneg _
  have a0 : (0 : Int) ≤ (at_ : Int) := Int.natCast_nonneg _
  have n1 : (n : Int) ≤ 1099511627776 := by omega
  have a1 : (at_ : Int) ≤ (n : Int) := by omega
  have hwr : IntKind.i64.wrap ((n : Int) - at_) = (n : Int) - at_ := by rw [IntKind.wrap_i64]; omega
  clear hr h hb hl
  go_enter Tryd.func99, Tryd.ntmps99
  go_wp2_with fail
  go_still (by kernel_rfl)
  go_wp2_with fail
  go_ret
  exact ⟨by rw [← hwr]; rfl, (Fr.refl _ _).drew⟩
theorem rread_step {xs : List Int} {at_ k j : Nat} (hj : j < k) (hl : at_ + k ≤ xs.length) : unle ((xs.drop (at_ + (k - (j + 1)))).take (j + 1)) = unle ((xs.drop (at_ + (k - j))).take j) * 256 + xs.getD (at_ + (k - (j + 1))) 0 := by
  have e : xs.drop (at_ + (k - (j + 1))) = xs.getD (at_ + (k - (j + 1))) 0 :: xs.drop (at_ + (k - j)) := by
    have h : at_ + (k - (j + 1)) < xs.length := by omega
    rw [← List.getElem_cons_drop h]
    have : at_ + (k - (j + 1)) + 1 = at_ + (k - j) := by omega
    rw [this]
    simp [List.getD, h]
  rw [e, List.take_succ_cons]
  show _ + 256 * _ = _
  omega
set_option maxRecDepth 100000 in
set_option maxHeartbeats 1000000 in
theorem rget_c {rb n c at_ : Nat} {A : Option Addr} {xs : List Int} (h : RRd w rb A n c xs at_) (k : Nat) (k1 : 1 ≤ k) (k8 : k ≤ 8) (hk : at_ + k ≤ n) :
    Calls Tryd.prog 69 #[.pointer (some ⟨rb, 0, none⟩), .int .i64 (k : Int)] w fun e w' => e = .returned (.tuple #[.int .u64 (unle ((xs.drop at_).take k)), .int .i64 0]) ∧ RRd w' rb A n c xs (at_ + k) ∧ Fr (fun i => i = rb) w w' := by
  have HH := Lib.hid h
  have hbg := h.big
  have n0 : (0 : Int) ≤ (n : Int) := Int.natCast_nonneg _
  have a0 : (0 : Int) ≤ (at_ : Int) := Int.natCast_nonneg _
  have n1 : (n : Int) ≤ 1099511627776 := by omega
  have g1 : ¬ (k : Int) < 1 := by omega
  have g2 : ¬ (8 : Int) < (k : Int) := by omega
  have g3 : ¬ ((n : Int) - (at_ : Int) < (k : Int)) := by omega
  have g4 : (at_ : Int) + (k : Int) ≤ (n : Int) := by omega
  clear h hbg
  go_enter Tryd.func69, Tryd.ntmps69
  go_wp2_with fail
  refine (rleft_c HH.out).mono ?_
  rintro e w1 ⟨rfl, hf1⟩
  have hrd : RRd w1 rb A n c xs at_ := by
    obtain ⟨⟨t, hr⟩, a, b, d, e, f⟩ := HH.out
    exact ⟨⟨t, hf1.keep0 hr⟩, a.keep0 hf1, b, d, e, f⟩
  have HR := Lib.hid hrd
  have HF := Lib.hid hf1
  clear hrd hf1
  go_wp2_with fail
  go_loopg [6, 7] k (fun kq x6 x7 wr => ∃ j : Nat, j ≤ k ∧ kq = k - j ∧ x6 = .int .u64 (unle ((xs.drop (at_ + (k - j))).take j)) ∧ x7 = .int .i64 ((k : Int) - 1 - (j : Int)) ∧ RRd wr rb A n c xs at_ ∧ Fr F0 w wr)
  case atStart => exact ⟨0, by omega, rfl, by simp [unle], by simp, HR.out, HF.out⟩
  case round =>
    obtain ⟨j, hj, rfl, rfl, rfl, hrd, hfr⟩ := hrel
    have HRR := Lib.hid hrd
    have HFR := Lib.hid hfr
    obtain ⟨i, hi⟩ : ∃ i : Int, i = (k : Int) - 1 - (j : Int) := ⟨_, rfl⟩
    rw [← hi]
    obtain ⟨u, hu⟩ : ∃ u : Int, u = unle ((xs.drop (at_ + (k - j))).take j) := ⟨_, rfl⟩
    rw [← hu]
    have HU := Lib.hid hu
    have hlen := HH.out.ba.len
    have hB : Bys ((xs.drop (at_ + (k - j))).take j) := (HH.out.bys.drop _).take _
    obtain ⟨t, hr⟩ := hrd.row
    have c0 : wr.cell? ⟨rb, 0, none⟩ = some (.slice A n c) := by rw [cell_of hr]; rfl
    have c1 : wr.cell? ⟨rb, 1, none⟩ = some (.int .i64 (at_ : Int)) := by rw [cell_of hr]; rfl
    have hba := hrd.ba
    have HROW := Lib.hid hr
    have HLEN := Lib.hid hlen
    have u0 : 0 ≤ u := by rw [hu]; exact unle_nonneg hB
    by_cases hlt : j < k
    · have i0 : 0 ≤ i := by omega
      have i1 : i < 8 := by omega
      have u1 : u ≤ 72057594037927935 := by
        have h1 := unle_lt hB
        have h2 : ((xs.drop (at_ + (k - j))).take j).length = j := by simp; omega
        rw [h2] at h1
        have h3 := pow_small7 (show j ≤ 7 by omega)
        rw [← hu] at h1
        omega
      obtain ⟨p, hp⟩ : ∃ p : Nat, p = at_ + (k - (j + 1)) := ⟨_, rfl⟩
      have hps : (at_ : Int) + i = (p : Int) := by omega
      have hpn : p < n := by omega
      have hpi : (p : Int) < (n : Int) := by omega
      have hp0 : (0 : Int) ≤ (p : Int) := Int.natCast_nonneg _
      obtain ⟨ad, rfl, -⟩ := hba.cells (by omega)
      have hcell := hba.getD p hpn
      obtain ⟨b, hb⟩ : ∃ b, b = xs.getD p 0 := ⟨_, rfl⟩
      rw [← hb] at hcell
      have hbb : 0 ≤ b ∧ b ≤ 255 := by rw [hb]; exact HH.out.bys _ (by simp [List.getD, show p < xs.length by omega])
      have b0 := hbb.1
      have b1 := hbb.2
      have HB := Lib.hid hb
      have hw : IntKind.i64.wrap (p : Int) = (p : Int) := by rw [IntKind.wrap_i64]; omega
      have hw2 : IntKind.u64.wrap (u * 256) = u * 256 := by rw [IntKind.wrap_u64]; omega
      have hw4 : IntKind.u64.wrap b = b := by rw [IntKind.wrap_u64]; omega
      have hw3 : IntKind.u64.wrap (u * 256 + b) = u * 256 + b := by rw [IntKind.wrap_u64]; omega
      have hst := rread_step (xs := xs) (at_ := at_) hlt (by omega)
      rw [← hu, ← hp, ← hb] at hst
      have HST := Lib.hid hst
      have HI := Lib.hid hi
      have HPP := Lib.hid hp
      clear hr hrd hfr hi hu hB hba hbb hb hp hst hlen
      go_wp2_with fail
      go_still (by kernel_rfl)
      go_wp2_with fail
      go_roundg (k - (j + 1))
      case measure => omega
      case rel =>
        refine ⟨j + 1, by omega, rfl, ?_, ?_, HRR.out.keep0 ((Fr.refl _ _).drew), HFR.out.drew⟩
        · rw [← HPP.out, HST.out]
        · have := HI.out
          first | (go_num) | (congr 1; omega)
    · have hjk : j = k := by omega
      have i0 : i < 0 := by omega
      have hu2 : u = unle ((xs.drop at_).take k) := by rw [hu, hjk, Nat.sub_self, Nat.add_zero]
      have HU2 := Lib.hid hu2
      have hw : IntKind.i64.wrap ((at_ : Int) + (k : Int)) = (at_ : Int) + (k : Int) := by rw [IntKind.wrap_i64]; omega
      have hfz : wr.frozen? ⟨rb, 1, none⟩ = false := free_of hr 1
      clear hu hi hu2 hjk hr hrd hfr hB hba hlen hlt
      go_wp2_with fail
      go_ret2
      have hFr : Fr (fun i => i = rb) wr (wr.setCell ⟨rb, 1, none⟩ (.int .i64 ((at_ : Int) + (k : Int)))) := (Fr.refl _ _).setCell (by exact .inl rfl) _
      refine ⟨by rw [← HU2.out]; rfl, ⟨⟨t, ?_⟩, HRR.out.ba.keep hFr (fun hp ad e => HH.out.ne ad e hp), HH.out.bys, hk, HH.out.ne, HH.out.big⟩, HFR.out.of0.trans hFr (fun i hi => .inl hi)⟩
      have := set_cell HROW.out 1 (.int .i64 ((at_ : Int) + (k : Int)))
      simpa using this
end
end Go.Proofs.YtdeckbdaencjnaaDoor
