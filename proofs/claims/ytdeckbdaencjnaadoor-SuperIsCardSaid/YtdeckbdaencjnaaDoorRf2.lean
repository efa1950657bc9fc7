/-
  heronryref03's Seal; heronryref01's Reader. Conditions: none.
-/
import Derived.Test.YtdeckbdaencjnaaDoorRf1
set_option linter.unusedVariables false
set_option linter.unusedSimpArgs false
namespace Go.Proofs.YtdeckbdaencjnaaDoor
open Go.RowKit
section
variable {w : World}
set_option maxRecDepth 100000 in
set_option maxHeartbeats 1000000 in
theorem rseal_c (A : Option Addr) (n c : Nat) (xs : List Int) (hA : BytesAt w A n xs) (hn : n ≤ 1099511627776) (hb : Bys xs) :
    Calls Tryd.prog 67 #[.slice A n c] w fun e w' => OwnB w w' e (sealL xs) := by
  have h0 := (sumOf_bd xs).1
  have h1 : sumOf xs ≤ 4294967295 := by have := (sumOf_bd xs).2; omega
  obtain ⟨s, hs⟩ : ∃ s, s = sumOf xs := ⟨_, rfl⟩
  have HS := Lib.hid hs
  rw [← hs] at h0 h1
  clear hs
  go_enter Tryd.func67, Tryd.ntmps67
  go_wp2_with fail
  refine (rof_c A n c xs hA hn hb).mono ?_
  rintro e w1 ⟨rfl, rfl⟩
  rw [← HS.out]
  go_wp2_with fail
  refine (rput_c A n c xs hA hn s h0 (by omega) 4 (by decide)).mono ?_
  rintro e w2 ⟨v, rfl, hown⟩
  go_wp2_with fail
  go_ret
  have : sealL xs = xs ++ le 4 s := by rw [HS.out]; rfl
  rw [this]
  exact ⟨_, rfl, hown⟩
/-- A reader of the document's: the bytes and the place. -/
structure RRd (w : World) (rb : Nat) (A : Option Addr) (n c : Nat) (xs : List Int) (at_ : Nat) : Prop where
  row : ∃ t, w.heap[rb]? = some (.cells #[.slice A n c, .int .i64 (at_ : Int)] t (0, 0))
  ba : BytesAt w A n xs
  bys : Bys xs
  le : at_ ≤ n
  ne : ∀ ad, A = some ad → 0 < n → ad.block ≠ rb
  big : n ≤ 1099511627776
theorem RRd.keep0 {w w' : World} {rb n c at_ : Nat} {A : Option Addr} {xs : List Int} (h : RRd w rb A n c xs at_) (hf : Fr F0 w w') : RRd w' rb A n c xs at_ := by
  obtain ⟨⟨t, hr⟩, a, b, d, e, f⟩ := h
  exact ⟨⟨t, hf.keep0 hr⟩, a.keep0 hf, b, d, e, f⟩
set_option maxRecDepth 100000 in
set_option maxHeartbeats 1000000 in
theorem rleft_c {rb n c at_ : Nat} {A : Option Addr} {xs : List Int} (h : RRd w rb A n c xs at_) : Calls Tryd.prog 99 #[.pointer (some ⟨rb, 0, none⟩)] w fun e w' => e = .returned (.int .i64 ((n : Int) - at_)) ∧ Fr F0 w w' := by
  obtain ⟨t, hr⟩ := h.row
  have c0 : w.cell? ⟨rb, 0, none⟩ = some (.slice A n c) := by rw [cell_of hr]; rfl
  have c1 : w.cell? ⟨rb, 1, none⟩ = some (.int .i64 (at_ : Int)) := by rw [cell_of hr]; rfl
  have hb := h.big
  have hl := h.le
  have n0 : (0 : Int) ≤ (n : Int) := Int.natCast_nonneg _
  have a0 : (0 : Int) ≤ (at_ : Int) := Int.natCast_nonneg _
  have n1 : (n : Int) ≤ 1099511627776 := by omega
  have a1 : (at_ : Int) ≤ (n : Int) := by omega
  have hwr : IntKind.i64.wrap ((n : Int) - at_) = (n : Int) - at_ := by rw [IntKind.wrap_i64]; omega
  clear hr h hb hl
  go_enter Tryd.func99, Tryd.ntmps99
  go_wp2_with fail
  go_still (by kernel_rfl)
  go_wp2_with fail
  go_ret
  exact ⟨by rw [← hwr]; rfl, (Fr.refl _ _).drew⟩
theorem rread_step {xs : List Int} {at_ k j : Nat} (hj : j < k) (hl : at_ + k ≤ xs.length) : unle ((xs.drop (at_ + (k - (j + 1)))).take (j + 1)) = unle ((xs.drop (at_ + (k - j))).take j) * 256 + xs.getD (at_ + (k - (j + 1))) 0 := by
  have e : xs.drop (at_ + (k - (j + 1))) = xs.getD (at_ + (k - (j + 1))) 0 :: xs.drop (at_ + (k - j)) := by
    have h : at_ + (k - (j + 1)) < xs.length := by omega
    rw [← List.getElem_cons_drop h]
    have : at_ + (k - (j + 1)) + 1 = at_ + (k - j) := by omega
    rw [this]
    simp [List.getD, h]
  rw [e, List.take_succ_cons]
  show _ + 256 * _ = _
  omega
set_option maxRecDepth 100000 in
set_option maxHeartbeats 1000000 in
theorem rget_c {rb n c at_ : Nat} {A : Option Addr} {xs : List Int} (h : RRd w rb A n c xs at_) (k : Nat) (k1 : 1 ≤ k) (k8 : k ≤ 8) (hk : at_ + k ≤ n) :
    Calls Tryd.prog 69 #[.pointer (some ⟨rb, 0, none⟩), .int .i64 (k : Int)] w fun e w' => e = .returned (.tuple #[.int .u64 (unle ((xs.drop at_).take k)), .int .i64 0]) ∧ RRd w' rb A n c xs (at_ + k) ∧ Fr (fun i => i = rb) w w' := by
  have HH := Lib.hid h
  have hbg := h.big
  have n0 : (0 : Int) ≤ (n : Int) := Int.natCast_nonneg _
  have a0 : (0 : Int) ≤ (at_ : Int) := Int.natCast_nonneg _
  have n1 : (n : Int) ≤ 1099511627776 := by omega
  have g1 : ¬ (k : Int) < 1 := by omega
  have g2 : ¬ (8 : Int) < (k : Int) := by omega
  have g3 : ¬ ((n : Int) - (at_ : Int) < (k : Int)) := by omega
  have g4 : (at_ : Int) + (k : Int) ≤ (n : Int) := by omega
  clear h hbg
  go_enter Tryd.func69, Tryd.ntmps69
  go_wp2_with fail
  refine (rleft_c HH.out).mono ?_
  rintro e w1 ⟨rfl, hf1⟩
  have hrd : RRd w1 rb A n c xs at_ := by
    obtain ⟨⟨t, hr⟩, a, b, d, e, f⟩ := HH.out
    exact ⟨⟨t, hf1.keep0 hr⟩, a.keep0 hf1, b, d, e, f⟩
  have HR := Lib.hid hrd
  have HF := Lib.hid hf1
  clear hrd hf1
  go_wp2_with fail
  go_loopg [6, 7] k (fun kq x6 x7 wr => ∃ j : Nat, j ≤ k ∧ kq = k - j ∧ x6 = .int .u64 (unle ((xs.drop (at_ + (k - j))).take j)) ∧ x7 = .int .i64 ((k : Int) - 1 - (j : Int)) ∧ RRd wr rb A n c xs at_ ∧ Fr F0 w wr)
  case atStart => exact ⟨0, by omega, rfl, by simp [unle], by simp, HR.out, HF.out⟩
  case round =>
    obtain ⟨j, hj, rfl, rfl, rfl, hrd, hfr⟩ := hrel
    have HRR := Lib.hid hrd
    have HFR := Lib.hid hfr
    obtain ⟨i, hi⟩ : ∃ i : Int, i = (k : Int) - 1 - (j : Int) := ⟨_, rfl⟩
    rw [← hi]
    obtain ⟨u, hu⟩ : ∃ u : Int, u = unle ((xs.drop (at_ + (k - j))).take j) := ⟨_, rfl⟩
    rw [← hu]
    have HU := Lib.hid hu
    have hlen := HH.out.ba.len
    have hB : Bys ((xs.drop (at_ + (k - j))).take j) := (HH.out.bys.drop _).take _
    obtain ⟨t, hr⟩ := hrd.row
    have c0 : wr.cell? ⟨rb, 0, none⟩ = some (.slice A n c) := by rw [cell_of hr]; rfl
    have c1 : wr.cell? ⟨rb, 1, none⟩ = some (.int .i64 (at_ : Int)) := by rw [cell_of hr]; rfl
    have hba := hrd.ba
    have HROW := Lib.hid hr
    have HLEN := Lib.hid hlen
    have u0 : 0 ≤ u := by rw [hu]; exact unle_nonneg hB
    by_cases hlt : j < k
    · have i0 : 0 ≤ i := by omega
      have i1 : i < 8 := by omega
      have u1 : u ≤ 72057594037927935 := by
        have h1 := unle_lt hB
        have h2 : ((xs.drop (at_ + (k - j))).take j).length = j := by simp; omega
        rw [h2] at h1
        have h3 := pow_small7 (show j ≤ 7 by omega)
        rw [← hu] at h1
        omega
      obtain ⟨p, hp⟩ : ∃ p : Nat, p = at_ + (k - (j + 1)) := ⟨_, rfl⟩
      have hps : (at_ : Int) + i = (p : Int) := by omega
      have hpn : p < n := by omega
      have hpi : (p : Int) < (n : Int) := by omega
      have hp0 : (0 : Int) ≤ (p : Int) := Int.natCast_nonneg _
      obtain ⟨ad, rfl, -⟩ := hba.cells (by omega)
      have hcell := hba.getD p hpn
      obtain ⟨b, hb⟩ : ∃ b, b = xs.getD p 0 := ⟨_, rfl⟩
      rw [← hb] at hcell
      have hbb : 0 ≤ b ∧ b ≤ 255 := by rw [hb]; exact HH.out.bys _ (by simp [List.getD, show p < xs.length by omega])
      have b0 := hbb.1
      have b1 := hbb.2
      have HB := Lib.hid hb
      have hw : IntKind.i64.wrap (p : Int) = (p : Int) := by rw [IntKind.wrap_i64]; omega
      have hw2 : IntKind.u64.wrap (u * 256) = u * 256 := by rw [IntKind.wrap_u64]; omega
      have hw4 : IntKind.u64.wrap b = b := by rw [IntKind.wrap_u64]; omega
      have hw3 : IntKind.u64.wrap (u * 256 + b) = u * 256 + b := by rw [IntKind.wrap_u64]; omega
      have hst := rread_step (xs := xs) (at_ := at_) hlt (by omega)
      rw [← hu, ← hp, ← hb] at hst
      have HST := Lib.hid hst
      have HI := Lib.hid hi
      have HPP := Lib.hid hp
      clear hr hrd hfr hi hu hB hba hbb hb hp hst hlen
      go_wp2_with fail
      go_still (by kernel_rfl)
      go_wp2_with fail
      go_roundg (k - (j + 1))
      case measure => omega
      case rel =>
        refine ⟨j + 1, by omega, rfl, ?_, ?_, HRR.out.keep0 ((Fr.refl _ _).drew), HFR.out.drew⟩
        · rw [← HPP.out, HST.out]
        · have := HI.out
          first | (go_num) | (congr 1; omega)
    · have hjk : j = k := by omega
      have i0 : i < 0 := by omega
      have hu2 : u = unle ((xs.drop at_).take k) := by rw [hu, hjk, Nat.sub_self, Nat.add_zero]
      have HU2 := Lib.hid hu2
      have hw : IntKind.i64.wrap ((at_ : Int) + (k : Int)) = (at_ : Int) + (k : Int) := by rw [IntKind.wrap_i64]; omega
      have hfz : wr.frozen? ⟨rb, 1, none⟩ = false := free_of hr 1
      clear hu hi hu2 hjk hr hrd hfr hB hba hlen hlt
      go_wp2_with fail
      go_ret2
      have hFr : Fr (fun i => i = rb) wr (wr.setCell ⟨rb, 1, none⟩ (.int .i64 ((at_ : Int) + (k : Int)))) := (Fr.refl _ _).setCell (by exact .inl rfl) _
      refine ⟨by rw [← HU2.out]; rfl, ⟨⟨t, ?_⟩, HRR.out.ba.keep hFr (fun hp ad e => HH.out.ne ad e hp), HH.out.bys, hk, HH.out.ne, HH.out.big⟩, HFR.out.of0.trans hFr (fun i hi => .inl hi)⟩
      have := set_cell HROW.out 1 (.int .i64 ((at_ : Int) + (k : Int)))
      simpa using this
end
end Go.Proofs.YtdeckbdaencjnaaDoor
