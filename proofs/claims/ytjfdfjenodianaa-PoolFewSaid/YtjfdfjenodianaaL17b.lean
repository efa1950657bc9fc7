/-
  heronrylaw17: awake. Conditions: none.
-/
import Derived.Test.YtjfdfjenodianaaL17a
import Derived.Lib.SlBytesConst
set_option linter.unusedVariables false
set_option linter.unusedSimpArgs false
namespace Go.Proofs.Ytjfdfjenodianaa
open Go.RowKit
theorem conv_const (W : World) (C : Array Value) (n c : Nat) : (convert 33 33 (.slice (some ⟨W.heap.size, 0, none⟩) n c)).run Try.prog (W.alloc (.cells C 5)) = .ok (.slice (some ⟨W.heap.size, 0, none⟩) n c) (W.alloc (.cells C 5 (C.size, C.size + 1))) := Lib.run_convert_bytes_const W 33 5 C n c und_bytes und_u8
theorem Dev.new_ok17 (n : Nat) : GoodD (Dev.new n) n := ⟨rfl, rfl, by simp [Dev.new], by simp [Dev.new]⟩
/-- The example's pool. -/
def awP (b : List Int) (s : Int) : Pl := ⟨[⟨3, b, true, 9, 0, true⟩], 1, 0, s, 1⟩
theorem aw_hold1 (D : Dev) : (⟨[], 1, 0, 0, 0⟩ : Pl).hold D 3 = (some 0, ⟨[newFm 3 (D.at 3)], 1, 0, 0, 1⟩, D) := rfl
theorem aw_idx (b : List Int) (s : Int) : (awP b s).idx ((4 : Nat) : Int) = none := by
  unfold Pl.idx awP
  simp
theorem aw_turn0 (b : List Int) : (awP b 0).turn = awP b 0 ∧ (awP b 0).stop = false := by
  constructor
  · rw [Pl.turn_eq (P := awP b 0) (f := ⟨3, b, true, 9, 0, true⟩) rfl]
    simp [awP, Pl.goes, Pl.may]
  · rw [Pl.stop_eq (P := awP b 0) (f := ⟨3, b, true, 9, 0, true⟩) rfl]
    simp [awP, Pl.goes, Pl.may]
def awQ (b : List Int) : Pl := ⟨[⟨3, b, true, 9, 0, false⟩], 1, 0, 9, 1⟩
theorem aw_turn9 (b : List Int) : (awP b 9).turn = awQ b ∧ (awP b 9).stop = false ∧ (awQ b).turn = awQ b ∧ (awQ b).stop = true := by
  refine ⟨?_, ?_, ?_, ?_⟩
  · rw [Pl.turn_eq (P := awP b 9) (f := ⟨3, b, true, 9, 0, true⟩) rfl]
    simp [awP, awQ, Pl.goes, Pl.may]
  · rw [Pl.stop_eq (P := awP b 9) (f := ⟨3, b, true, 9, 0, true⟩) rfl]
    simp [awP, Pl.goes, Pl.may]
  · rw [Pl.turn_eq (P := awQ b) (f := ⟨3, b, true, 9, 0, false⟩) rfl]
    simp [awQ, Pl.goes, Pl.may]
  · rw [Pl.stop_eq (P := awQ b) (f := ⟨3, b, true, 9, 0, false⟩) rfl]
    simp [awQ, Pl.goes, Pl.may]
theorem aw_hold2 (D : Dev) (b : List Int) : (awP b 0).hold D 4 = (none, awP b 0, D) := by
  obtain ⟨h1, h2⟩ := aw_turn0 b
  have hr : (awP b 0).round 2 = (none, awP b 0) := by
    unfold Pl.round
    rw [if_neg (by rw [h2]; decide), h1]
    unfold Pl.round
    rw [if_neg (by rw [h2]; decide), h1]
    rfl
  unfold Pl.hold
  rw [aw_idx]
  simp only
  have hno : ¬ (((awP b 0).fs.length : Nat) : Int) < (awP b 0).room := by show ¬ (1 : Int) < 1; decide
  rw [if_neg hno]
  have hl : 2 * (awP b 0).fs.length = 2 := rfl
  rw [hl, hr]
theorem aw_hold3 (D : Dev) (b : List Int) : (awP b 9).hold D 4 = (some 0, ⟨[newFm 4 ((D.write 3 b).at 4)], 1, 0, 9, 2⟩, D.write 3 b) := by
  obtain ⟨h1, h2, h3, h4⟩ := aw_turn9 b
  have hr : (awP b 9).round 2 = (some 0, awQ b) := by
    unfold Pl.round
    rw [if_neg (by rw [h2]; decide), h1]
    unfold Pl.round
    rw [if_pos h4, h3]
    rfl
  unfold Pl.hold
  rw [aw_idx]
  simp only
  have hno : ¬ (((awP b 9).fs.length : Nat) : Int) < (awP b 9).room := by show ¬ (1 : Int) < 1; decide
  rw [if_neg hno]
  have hl : 2 * (awP b 9).fs.length = 2 := rfl
  rw [hl, hr]
  rfl
section
variable {w : World}
set_option maxRecDepth 100000 in
set_option maxHeartbeats 2000000 in
theorem awake17_c : Calls Try.prog 8 #[] w fun e w' => e = .returned (.bool true) ∧ Fr F0 w w' := by
  go_enter Try.func8, Try.ntmps8
  go_wp2_with fail
  refine (new_c 8 (by decide) (by decide) _).mono ?_
  rintro e w1 ⟨db, lb, mb, rfl, h1, n1, n2, n3, hf1⟩
  have HD1 := Lib.hid h1
  have HF1 := Lib.hid hf1
  have HN : Hid (∀ k, Dv db lb mb k → w.heap.size ≤ k) := Lib.hid (fun k hk => by rcases hk with h | h | h <;> omega)
  clear h1 n1 n2 n3 hf1
  go_wp2_with fail
  refine (PoolIn.new HD1.out (Dev.new_ok17 8) 1 (by decide) (by decide)).mono ?_
  rintro e w2 ⟨pb, rfl, hpb, hin, hf2⟩
  have HI2 := Lib.hid hin
  have HF2 := Lib.hid (HF1.out.then0 hf2)
  have HPB : Hid (w.heap.size ≤ pb) := Lib.hid (by have := HF1.out.size; omega)
  clear hpb hin hf2
  have hcv := conv_const w2 #[.int .u8 120] 1 1
  go_wp2_with fail
  clear hcv
  have HAL := Lib.hid ((Fr.refl F0 w2).alloc (.cells #[.int .u8 120] 5 (1, 2)))
  refine ((HI2.out.keep0 HAL.out).put (by decide) 3 (by decide) (some ⟨w2.heap.size, 0, none⟩) 1 1 [120] (BytesAt.of_block (xs := [120]) (alloc_at rfl _)) (by decide) (fun ad e _ => by
    cases e
    refine ⟨fun hk => ?_, fun hk => ?_⟩
    · have := HI2.out.lt _ (.inl hk); exact absurd this (Nat.lt_irrefl _)
    · have := HI2.out.lt _ (.inr hk); exact absurd this (Nat.lt_irrefl _)) 9 (by decide)).mono ?_
  intro e w3 hput
  rw [aw_hold1] at hput
  cases hput with
  | no M' hs hin ho he hf => cases ho
  | yes M3 hs3 i f ho hi hin he hf =>
  cases ho
  cases hi
  subst he
  have HS3 : Hid (∀ k, M3 k → w.heap.size ≤ k) := Lib.hid (fun k hk => by
    rcases hs3 k hk with h5 | h5
    · have h6 : k = pb := h5
      have := HPB.out
      omega
    · have h6 := HAL.out.size
      have h7 := HF2.out.size
      omega)
  have hin3 : PoolIn M3 w3 pb db lb mb 8 (0 + 1) (awP (pad64 [120]) 0) (Dev.new 8) := hin
  have HI3 := Lib.hid hin3
  have HF3 := Lib.hid ((HF2.out.then0 HAL.out).trans hf (fun k hk => .inr (by
    rcases hk with hk | hk
    · have h6 : k = pb := hk
      have := HPB.out
      omega
    · exact HN.out k hk)))
  clear hs3 hin hf hin3 HAL
  go_wp2_with fail
  refine (HI3.out.get (by decide) 4 (by decide)).mono ?_
  intro e w4 hget
  rw [aw_hold2] at hget
  cases hget with
  | yes M' hs hin i f A c ho hi he hb hl hA hf => cases ho
  | no M4 hs4 hin ho he hf =>
  subst he
  have HS4 : Hid (∀ k, M4 k → w.heap.size ≤ k) := Lib.hid (fun k hk => by
    rcases hs4 k hk with h5 | h5
    · exact HS3.out k h5
    · have := HF3.out.size; omega)
  have hin4 : PoolIn M4 w4 pb db lb mb 8 (0 + 1 + 1) (awP (pad64 [120]) 0) (Dev.new 8) := hin
  have HI4 := Lib.hid hin4
  have HF4 := Lib.hid (HF3.out.trans hf (fun k hk => .inr (by
    rcases hk with hk | hk
    · exact HS3.out k hk
    · exact HN.out k hk)))
  clear hs4 hin hf hin4 ho
  go_wp2_with fail
  refine (HI4.out.safe 9).mono ?_
  rintro e w5 ⟨rfl, hin5, hf5⟩
  have hin5' : PoolIn M4 w5 pb db lb mb 8 (0 + 1 + 1) (awP (pad64 [120]) 9) (Dev.new 8) := hin5
  have HI5 := Lib.hid hin5'
  have HF5 := Lib.hid (HF4.out.trans hf5 (fun k hk => .inr (by
    rcases hk with hk | hk
    · exact HS4.out k hk
    · exact HN.out k hk)))
  clear hin5 hin5' hf5
  go_wp2_with fail
  refine (HI5.out.get (by decide) 4 (by decide)).mono ?_
  intro e w6 hget
  rw [aw_hold3] at hget
  cases hget with
  | no M' hs hin ho he hf => cases ho
  | yes M6 hs6 hin i f A c ho hi he hb hl hA hf =>
  subst he
  have HI6 : Hid (PoolIn M6 w6 pb db lb mb 8 (0 + 1 + 1 + 1) ⟨[newFm 4 (((Dev.new 8).write 3 (pad64 [120])).at 4)], 1, 0, 9, 2⟩ ((Dev.new 8).write 3 (pad64 [120]))) := Lib.hid hin
  have HF6 := Lib.hid (HF5.out.trans hf (fun k hk => .inr (by
    rcases hk with hk | hk
    · exact HS4.out k hk
    · exact HN.out k hk)))
  clear hs6 hin hf hi hb hl hA ho
  go_wp2_with fail
  refine (read_c HI6.out.dev HI6.out.wf.good.gone 3 (by rw [HI6.out.wf.good.laid]; decide)).mono ?_
  rintro e w7 ⟨b7, t7, rfl, hb70, hb71, hf7⟩
  have hat : ((Dev.new 8).write 3 (pad64 [120])).at 3 = pad64 [120] := by
    have := ((Dev.new_ok17 8).write (i := 3) (by decide) (by decide) (s := pad64 [120]) (by rw [pad64_len [120] (by decide)]; decide)).2.2.2.1
    rw [pad64_full (pad64_len [120] (by decide))] at this
    exact this
  rw [hat] at hb71
  have gx : w7.cell? ⟨b7, 0, none⟩ = some (.int .u8 120) := by rw [cell_of hb71]; rfl
  have HF7 := Lib.hid (HF6.out.then0 hf7)
  clear hb70 hb71 hf7 hat
  go_wp2_with fail
  go_ret
  exact ⟨rfl, HF7.out⟩
end
end Go.Proofs.Ytjfdfjenodianaa
