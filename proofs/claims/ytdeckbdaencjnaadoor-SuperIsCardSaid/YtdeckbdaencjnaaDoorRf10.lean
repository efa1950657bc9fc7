/-
  heronryref03: Open. Conditions: none.
-/
import Derived.Test.YtdeckbdaencjnaaDoorRf9
import Derived.Test.YtdeckbdaencjnaaDoorFree
import Derived.Laws.IdiomStrings
set_option linter.unusedVariables false
set_option linter.unusedSimpArgs false
namespace Go.Proofs.YtdeckbdaencjnaaDoor
open Go.RowKit
theorem run_neq_nums {P : Program} (t : TypeId) {xs ys : List Int} (hx : Bys xs) (hy : Bys ys) (w : World) : (binOp .neq t (.string (strOfNums xs)) (.string (strOfNums ys))).run P w = .ok (.bool (!decide (xs = ys))) w := by
  rw [← bytesOf_eq hx hy, ← Lib.strOfNums_toList, ← Lib.strOfNums_toList]
  simp [binOp, Op.stringOp]
theorem run_eql_nums {P : Program} (t : TypeId) {xs ys : List Int} (hx : Bys xs) (hy : Bys ys) (w : World) : (binOp .eql t (.string (strOfNums xs)) (.string (strOfNums ys))).run P w = .ok (.bool (decide (xs = ys))) w := by
  rw [← bytesOf_eq hx hy, ← Lib.strOfNums_toList, ← Lib.strOfNums_toList]
  simp [binOp, Op.stringOp]
theorem sealL_take {xs : List Int} {m : Nat} {ys : List Int} (h : ys.length = m + 4) (he : ys = sealL (xs.take m)) : (sealL (xs.take m)).length = m + 4 := by rw [← he, h]
theorem str_eq_nums {xs ys : List Int} (hx : Bys xs) (hy : Bys ys) : ((strOfNums xs).toList == (strOfNums ys).toList) = decide (xs = ys) := by
  rw [Lib.strOfNums_toList, Lib.strOfNums_toList, bytesOf_eq hx hy]
theorem r_und_str : Tryd.prog.underlying 9 = some .string := by kernel_rfl
section
variable {w : World}
set_option maxRecDepth 100000 in
set_option maxHeartbeats 1000000 in
theorem ropen_c (A : Option Addr) (n c : Nat) (xs : List Int) (hA : BytesAt w A n xs) (hc : n ≤ c) (hn : n ≤ 1099511627776) (hb : Bys xs) :
    Calls Tryd.prog 68 #[.slice A n c] w fun e w' => OpenRet w w' e xs := by
  have hl := hA.len
  by_cases h4 : n < 4
  · have hr : openE xs = 2 := by simp [openE, hl, h4]
    have HR : OpenRet w w (.returned (.tuple #[.slice none 0 0, .int .i64 2])) xs := ⟨_, by rw [hr], fun h => by omega, Fr.refl _ _⟩
    have g1 : (n : Int) - 4 < 0 := by omega
    clear hr hl
    go_enter Tryd.func68, Tryd.ntmps68
    go_wp2_with fail
    go_ret2
    exact HR
  · obtain ⟨m, hm⟩ : ∃ m, m = n - 4 := ⟨_, rfl⟩
    obtain rfl : n = m + 4 := by omega
    obtain ⟨ys, hys⟩ : ∃ ys, ys = sealL (xs.take m) := ⟨_, rfl⟩
    have hyb : Bys ys := by rw [hys]; exact sealL_bys (hb.take m)
    have hyl : ys.length = m + 4 := by rw [hys]; simp [sealL, le_len, hl]
    have hse : sealed xs = decide (ys = xs) := by
      unfold sealed
      have : xs.length - 4 = m := by omega
      rw [this, ← hys]
      have : (4 ≤ xs.length) := by omega
      simp [this]
    have hq := str_eq_nums hyb hb
    rw [← hse] at hq
    have HSE := Lib.hid hse
    have HAT := Lib.hid hA
    have HBY := Lib.hid hb
    have HYS := Lib.hid hys
    have HYL := Lib.hid hyl
    have HL := Lib.hid hl
    have m0 : (0 : Int) ≤ (m : Int) := Int.natCast_nonneg _
    have m1 : (m : Int) ≤ 1099511627776 := by omega
    have m2 : (m : Int) ≤ (c : Int) := by omega
    clear hm hse hys hA hyl hl
    have hwr : IntKind.i64.wrap ((m : Int) + 4 - 4) = (m : Int) := by rw [IntKind.wrap_i64]; omega
    cases hs : sealed xs with
    | true =>
      rw [hs] at hq
      obtain ⟨bq, hbq⟩ : ∃ b : Bool, b = (!true) := ⟨_, rfl⟩
      have hqb : ((strOfNums ys).toList == (strOfNums xs).toList) = !bq := by rw [hq, hbq]; rfl
      have HNEQ := Lib.hid hqb
      clear hqb
      have HS := Lib.hid hs
      clear hq hs
      have HBQ := Lib.hid hbq
      clear hbq
      go_enter Tryd.func68, Tryd.ntmps68
      go_wp2_with fail
      refine wp_region_free (S := F0) [false, false, false, false, false, false, false, false, false, false, true, true, true, true, true, true, true, true, false, false, false, false, false] [.eq (.slice A (m + 4) c), .eq (.int .i64 (m : Int)), .eq (.slice A m c), ⟨fun v w' => ∃ A c, v = .slice A (m + 4) c ∧ BytesAt w' A (m + 4) ys, fun v w' w'' ⟨A, c, h1, h2⟩ hf => ⟨A, c, h1, h2.keep0 hf⟩⟩, .eq (.string (strOfNums ys)), .eq (.slice A (m + 4) c), .eq (.string (strOfNums xs)), .eq (.bool bq)] (by kernel_rfl) (by kernel_rfl) (by rfl) (fun us => ?steps) (fun us wz hG hall => ?fin)
      case steps =>
        simp only [fillL, Nat.reduceAdd]
        refine stepsHold.cons (fun wx hG hd K hK => ?_) ?_
        · rw [if_pos (wanted_none rfl)]
          refine wp_value (w2 := wx) (v := .slice A (m + 4) c) ?_ (hK _ _ rfl (Fr.refl _ _))
          clear hd hG hK
          go_simp
        refine stepsHold.cons (fun wx hG hd K hK => ?_) ?_
        · rw [if_pos (wanted_none rfl)]
          refine wp_value (w2 := wx) (v := .int .i64 (m : Int)) ?_ (hK _ _ rfl (Fr.refl _ _))
          clear hd hG hK
          go_simp
        refine stepsHold.cons (fun wx hG hd K hK => ?_) ?_
        · have h10 : us 10 = (.slice A (m + 4) c) := deps_get hd 0 rfl rfl rfl rfl rfl
          have h11 : us 11 = (.int .i64 (m : Int)) := deps_get hd 1 rfl rfl rfl rfl rfl
          rw [if_pos (wanted_none rfl)]
          refine wp_value (w2 := wx) (v := .slice A m c) ?_ (hK _ _ rfl (Fr.refl _ _))
          clear hd hG hK
          go_simp
        refine stepsHold.cons (fun wx hG hd K hK => ?_) ?_
        · have h12 : us 12 = (.slice A m c) := deps_get hd 0 rfl rfl rfl rfl rfl
          rw [if_pos (wanted_none rfl)]
          refine wp_call (w2 := wx) (f := 67) (args := #[.slice A m c]) ?_ ?_
          · clear hd hK
            go_simp
          · refine (rseal_c A m c (xs.take m) ((HAT.out.keep0 hG).take m (by omega)) (by omega) (HBY.out.take m)).mono ?_
            rintro e w9 ⟨v, rfl, hown⟩
            obtain ⟨A9, c9, rfl, hb9, hn9⟩ := hown.byt
            have h9 := hb9.at_
            rw [← HYS.out, HYL.out] at h9 ⊢
            exact ⟨_, rfl, hK _ _ ⟨A9, c9, rfl, h9⟩ hown.fr⟩
        refine stepsHold.cons (fun wx hG hd K hK => ?_) ?_
        · have h13 := deps_get hd 0 rfl rfl rfl rfl rfl
          rw [if_pos (wanted_none rfl)]
          obtain ⟨A9, c9, e9, h9⟩ := h13
          have hr := conv_at h9 und_bytes und_u8 r_und_str c9
          refine wp_value (w2 := wx) (v := .string (strOfNums ys)) ?_ (hK _ _ rfl (Fr.refl _ _))
          clear hd hK
          go_simp
        refine stepsHold.cons (fun wx hG hd K hK => ?_) ?_
        · rw [if_pos (wanted_none rfl)]
          refine wp_value (w2 := wx) (v := .slice A (m + 4) c) ?_ (hK _ _ rfl (Fr.refl _ _))
          clear hd hG hK
          go_simp
        refine stepsHold.cons (fun wx hG hd K hK => ?_) ?_
        · have h15 : us 15 = (.slice A (m + 4) c) := deps_get hd 0 rfl rfl rfl rfl rfl
          rw [if_pos (wanted_none rfl)]
          have hr := conv_at (HAT.out.keep0 hG) und_bytes und_u8 r_und_str c
          refine wp_value (w2 := wx) (v := .string (strOfNums xs)) ?_ (hK _ _ rfl (Fr.refl _ _))
          clear hd hK
          go_simp
        refine stepsHold.cons (fun wx hG hd K hK => ?_) ?_
        · have h14 : us 14 = (.string (strOfNums ys)) := deps_get hd 0 rfl rfl rfl rfl rfl
          have h16 : us 16 = (.string (strOfNums xs)) := deps_get hd 1 rfl rfl rfl rfl rfl
          rw [if_pos (wanted_none rfl)]
          have hq := HNEQ.out
          refine wp_value (w2 := wx) (v := .bool bq) ?_ (hK _ _ rfl (Fr.refl _ _))
          clear hd hG hK
          go_simp
        exact stepsHold.nil
      case fin =>
        have h10 : us 10 = (.slice A (m + 4) c) := all_get hall 0 rfl rfl rfl
        have h11 : us 11 = (.int .i64 (m : Int)) := all_get hall 1 rfl rfl rfl
        have h12 : us 12 = (.slice A m c) := all_get hall 2 rfl rfl rfl
        have h13 := all_get hall 3 rfl rfl rfl
        have h14 : us 14 = (.string (strOfNums ys)) := all_get hall 4 rfl rfl rfl
        have h15 : us 15 = (.slice A (m + 4) c) := all_get hall 5 rfl rfl rfl
        have h16 : us 16 = (.string (strOfNums xs)) := all_get hall 6 rfl rfl rfl
        have h17 : us 17 = (.bool bq) := all_get hall 7 rfl rfl rfl
        simp only [fillL, Nat.reduceAdd]
        clear hall
        simp only [h10, h11, h12, h14, h15, h16, h17]
        clear h10 h11 h12 h14 h15 h16 h17
        have hbf : bq = false := by rw [HBQ.out]; rfl
        rw [hbf]
        have HAT2 := Lib.hid ((HAT.out.keep0 hG).take m (by omega))
        have f1 : Fr F0 wz (wz.alloc (.cells #[] 5)) := (Fr.refl _ _).alloc _
        have HO1 : Hid ((wz.alloc (.cells #[] 5)).ownsRow wz.heap.size 5 1 (.slice (some ⟨wz.heap.size, 0, none⟩) 0 0) 0 []) := Lib.hid ⟨rfl, .inr ⟨wz.heap.size, 0, #[], rfl, Nat.le_refl _, alloc_at rfl _, Nat.le_refl _, by decide, rfl, rfl⟩⟩
        have HF1 := Lib.hid f1
        have hb1 : wz.heap.size ≤ (wz.alloc (.cells #[] 5)).heap.size := f1.size
        have HB1 := Lib.hid hb1
        have HG := Lib.hid hG
        clear hbf f1 hG hb1
        have hln : (xs.take m).length = m := by have := HL.out; simp; omega
        have HLN := Lib.hid hln
        clear hln
        go_wp2_with (at_builtin; refine wpList_append_vals rfl (.tmp 18) (.tmp 21) 24 5 1 (.int .u8 0) rfl und_bytes info_u8 rfl (by decide) wz.heap.size (.slice (some ⟨wz.heap.size, 0, none⟩) 0 0) [] ((xs.take m).map (Value.int .u8)) A m c (by rfl) (by rfl) (by rw [List.length_map, HLN.out]) (bytes_one _) HO1.out (HAT2.out.keep0 HF1.out).vals HB1.out (by simp; omega) ?_; intro v5 w5 hO5 hf5)
        have HO : Hid (OwnV wz w5 v5 (xs.take m)) := Lib.hid ⟨by have := hO5; rw [HLN.out]; simpa using this, HF1.out.trans hf5 (fun i hi => .inr (own_base HO1.out i hi))⟩
        have hr : openE xs = 0 := by simp [openE, HL.out, HS.out]
        have HR := Lib.hid hr
        clear hO5 hf5 hr
        go_ret2
        refine ⟨_, by rw [HR.out]; rfl, fun _ => ?_, HG.out.then0 HO.out.fr⟩
        have : xs.length - 4 = m := by have := HL.out; omega
        rw [this]
        exact ⟨own_base_le HO.out.own HG.out.size, HG.out.then0 HO.out.fr⟩
    | false =>
      rw [hs] at hq
      obtain ⟨bq, hbq⟩ : ∃ b : Bool, b = (!false) := ⟨_, rfl⟩
      have hqb : ((strOfNums ys).toList == (strOfNums xs).toList) = !bq := by rw [hq, hbq]; rfl
      have HNEQ := Lib.hid hqb
      clear hqb
      have HS := Lib.hid hs
      clear hq hs
      have HBQ := Lib.hid hbq
      clear hbq
      go_enter Tryd.func68, Tryd.ntmps68
      go_wp2_with fail
      refine wp_region_free (S := F0) [false, false, false, false, false, false, false, false, false, false, true, true, true, true, true, true, true, true, false, false, false, false, false] [.eq (.slice A (m + 4) c), .eq (.int .i64 (m : Int)), .eq (.slice A m c), ⟨fun v w' => ∃ A c, v = .slice A (m + 4) c ∧ BytesAt w' A (m + 4) ys, fun v w' w'' ⟨A, c, h1, h2⟩ hf => ⟨A, c, h1, h2.keep0 hf⟩⟩, .eq (.string (strOfNums ys)), .eq (.slice A (m + 4) c), .eq (.string (strOfNums xs)), .eq (.bool bq)] (by kernel_rfl) (by kernel_rfl) (by rfl) (fun us => ?steps) (fun us wz hG hall => ?fin)
      case steps =>
        simp only [fillL, Nat.reduceAdd]
        refine stepsHold.cons (fun wx hG hd K hK => ?_) ?_
        · rw [if_pos (wanted_none rfl)]
          refine wp_value (w2 := wx) (v := .slice A (m + 4) c) ?_ (hK _ _ rfl (Fr.refl _ _))
          clear hd hG hK
          go_simp
        refine stepsHold.cons (fun wx hG hd K hK => ?_) ?_
        · rw [if_pos (wanted_none rfl)]
          refine wp_value (w2 := wx) (v := .int .i64 (m : Int)) ?_ (hK _ _ rfl (Fr.refl _ _))
          clear hd hG hK
          go_simp
        refine stepsHold.cons (fun wx hG hd K hK => ?_) ?_
        · have h10 : us 10 = (.slice A (m + 4) c) := deps_get hd 0 rfl rfl rfl rfl rfl
          have h11 : us 11 = (.int .i64 (m : Int)) := deps_get hd 1 rfl rfl rfl rfl rfl
          rw [if_pos (wanted_none rfl)]
          refine wp_value (w2 := wx) (v := .slice A m c) ?_ (hK _ _ rfl (Fr.refl _ _))
          clear hd hG hK
          go_simp
        refine stepsHold.cons (fun wx hG hd K hK => ?_) ?_
        · have h12 : us 12 = (.slice A m c) := deps_get hd 0 rfl rfl rfl rfl rfl
          rw [if_pos (wanted_none rfl)]
          refine wp_call (w2 := wx) (f := 67) (args := #[.slice A m c]) ?_ ?_
          · clear hd hK
            go_simp
          · refine (rseal_c A m c (xs.take m) ((HAT.out.keep0 hG).take m (by omega)) (by omega) (HBY.out.take m)).mono ?_
            rintro e w9 ⟨v, rfl, hown⟩
            obtain ⟨A9, c9, rfl, hb9, hn9⟩ := hown.byt
            have h9 := hb9.at_
            rw [← HYS.out, HYL.out] at h9 ⊢
            exact ⟨_, rfl, hK _ _ ⟨A9, c9, rfl, h9⟩ hown.fr⟩
        refine stepsHold.cons (fun wx hG hd K hK => ?_) ?_
        · have h13 := deps_get hd 0 rfl rfl rfl rfl rfl
          rw [if_pos (wanted_none rfl)]
          obtain ⟨A9, c9, e9, h9⟩ := h13
          have hr := conv_at h9 und_bytes und_u8 r_und_str c9
          refine wp_value (w2 := wx) (v := .string (strOfNums ys)) ?_ (hK _ _ rfl (Fr.refl _ _))
          clear hd hK
          go_simp
        refine stepsHold.cons (fun wx hG hd K hK => ?_) ?_
        · rw [if_pos (wanted_none rfl)]
          refine wp_value (w2 := wx) (v := .slice A (m + 4) c) ?_ (hK _ _ rfl (Fr.refl _ _))
          clear hd hG hK
          go_simp
        refine stepsHold.cons (fun wx hG hd K hK => ?_) ?_
        · have h15 : us 15 = (.slice A (m + 4) c) := deps_get hd 0 rfl rfl rfl rfl rfl
          rw [if_pos (wanted_none rfl)]
          have hr := conv_at (HAT.out.keep0 hG) und_bytes und_u8 r_und_str c
          refine wp_value (w2 := wx) (v := .string (strOfNums xs)) ?_ (hK _ _ rfl (Fr.refl _ _))
          clear hd hK
          go_simp
        refine stepsHold.cons (fun wx hG hd K hK => ?_) ?_
        · have h14 : us 14 = (.string (strOfNums ys)) := deps_get hd 0 rfl rfl rfl rfl rfl
          have h16 : us 16 = (.string (strOfNums xs)) := deps_get hd 1 rfl rfl rfl rfl rfl
          rw [if_pos (wanted_none rfl)]
          have hq := HNEQ.out
          refine wp_value (w2 := wx) (v := .bool bq) ?_ (hK _ _ rfl (Fr.refl _ _))
          clear hd hG hK
          go_simp
        exact stepsHold.nil
      case fin =>
        have h10 : us 10 = (.slice A (m + 4) c) := all_get hall 0 rfl rfl rfl
        have h11 : us 11 = (.int .i64 (m : Int)) := all_get hall 1 rfl rfl rfl
        have h12 : us 12 = (.slice A m c) := all_get hall 2 rfl rfl rfl
        have h13 := all_get hall 3 rfl rfl rfl
        have h14 : us 14 = (.string (strOfNums ys)) := all_get hall 4 rfl rfl rfl
        have h15 : us 15 = (.slice A (m + 4) c) := all_get hall 5 rfl rfl rfl
        have h16 : us 16 = (.string (strOfNums xs)) := all_get hall 6 rfl rfl rfl
        have h17 : us 17 = (.bool bq) := all_get hall 7 rfl rfl rfl
        simp only [fillL, Nat.reduceAdd]
        clear hall
        simp only [h10, h11, h12, h14, h15, h16, h17]
        clear h10 h11 h12 h14 h15 h16 h17
        have hbf : bq = true := by rw [HBQ.out]; rfl
        rw [hbf]
        have hr : openE xs = 4 := by
          have := HL.out
          simp [openE, HS.out]; omega
        have HR := Lib.hid hr
        have HG := Lib.hid hG
        clear hbf hr hG
        go_wp2_with fail
        go_ret2
        exact ⟨_, by rw [HR.out]; rfl, fun h => by rw [HR.out] at h; omega, HG.out⟩
end
end Go.Proofs.YtdeckbdaencjnaaDoor
