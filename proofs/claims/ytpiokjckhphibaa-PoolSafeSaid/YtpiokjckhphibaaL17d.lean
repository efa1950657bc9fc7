/-
  heronrylaw17.PoolSafe: the walk. Conditions: none.
-/
import Derived.Test.YtpiokjckhphibaaP17c
import Derived.Test.YtpiokjckhphibaaTurn
set_option linter.unusedVariables false
set_option linter.unusedSimpArgs false
namespace Go.Proofs.Ytpiokjckhphibaa
open Go.RowKit
section
variable {w : World}
set_option maxRecDepth 100000 in
set_option maxHeartbeats 2000000 in
theorem safe_walk (A0 : Option Addr) (n0 c0 : Nat) (xs : List Int) (sn : Int) (hl0 : xs.length = n0) (hV0 : ValsAt w A0 (xs.map (Value.int .i64))) (hn0 : n0 ≤ 9223372036854775807) :
    Calls Try.prog 6 #[.slice A0 n0 c0, .int .i64 sn] w fun e w' => e = .returned (.bool true) ∧ Fr F0 w w' := by
  have HL0 := Lib.hid hl0
  have HV0 := Lib.hid hV0
  clear hl0 hV0
  have a0 : (0 : Int) ≤ (n0 : Int) := Int.natCast_nonneg _
  by_cases hbig : 8 < n0
  · have hb0 : (8 : Int) < (n0 : Int) := by omega
    go_enter Try.func6, Try.ntmps6
    go_wp2_with fail
    refine (awake17_c).mono ?_
    rintro e w1 ⟨rfl, hf1⟩
    go_wp2_with fail
    go_ret
    exact ⟨rfl, hf1⟩
  have hb0 : ¬ (8 : Int) < (n0 : Int) := by omega
  obtain ⟨s, hs⟩ : ∃ s : Nat, sn % 16 = (s : Int) := ⟨(sn % 16).toNat, by omega⟩
  have hbands : bits .and .i64 sn 15 = (s : Int) := by rw [← hs]; exact i64_and sn 4 (by decide)
  have s0 : (0 : Int) ≤ (s : Int) := Int.natCast_nonneg _
  obtain ⟨g, hg⟩ : ∃ g : Nat → Int, g = fun i => xs.getD i 0 % 16 := ⟨_, rfl⟩
  have HG := Lib.hid hg
  have HS := Lib.hid hs
  clear hg hs
  go_enter Try.func6, Try.ntmps6
  go_wp2_with fail
  refine (awake17_c).mono ?_
  rintro e w1 ⟨rfl, hf1⟩
  have HF1 := Lib.hid hf1
  clear hf1
  go_wp2_with fail
  refine (new_c 8 (by decide) (by decide) _).mono ?_
  rintro e w2 ⟨db, lb, mb, rfl, h1, n1, n2, n3, hf2⟩
  have HD2 := Lib.hid h1
  have HF2 := Lib.hid (HF1.out.then0 hf2)
  have HN : Hid (∀ k, Dv db lb mb k → w.heap.size ≤ k) := Lib.hid (fun k hk => by
    have := HF1.out.size
    rcases hk with h | h | h <;> omega)
  clear h1 n1 n2 n3 hf2
  go_wp2_with fail
  refine (PoolIn.new HD2.out (Dev.new_ok17 8) 8 (by decide) (by decide)).mono ?_
  rintro e w3 ⟨pb, rfl, hpb, hin, hf3⟩
  have HI3 : Hid (PoolIn (fun x => x = pb) w3 pb db lb mb 8 0 (psP g 0) (Dev.new 8)) := Lib.hid hin
  have HM3 : Hid (∀ k, k = pb → w.heap.size ≤ k) := Lib.hid (fun k hk => by have := HF2.out.size; omega)
  have HF3 := Lib.hid (HF2.out.then0 hf3)
  clear hpb hin hf3
  go_wp2_with fail
  go_loopg [11] n0 (fun kq x11 wr => ∃ j : Nat, j ≤ n0 ∧ kq = n0 - j ∧ x11 = .int .i64 (j : Int) ∧ ∃ M, PoolIn M wr pb db lb mb 8 j (psP g j) (Dev.new 8) ∧ (∀ k, M k → w.heap.size ≤ k) ∧ Fr F0 w wr)
  case atStart => exact ⟨0, by omega, rfl, rfl, _, HI3.out, HM3.out, HF3.out⟩
  case round =>
    obtain ⟨j, hj, rfl, rfl, M, hin, hm, hfr⟩ := hrel
    have HI := Lib.hid hin
    have HM := Lib.hid hm
    have HF := Lib.hid hfr
    clear hin hm hfr
    have j0 : (0 : Int) ≤ (j : Int) := Int.natCast_nonneg _
    by_cases hlt : j < n0
    · have j1 : (j : Int) < (n0 : Int) := by omega
      obtain ⟨x, hx⟩ : ∃ x, xs[j]? = some x := ⟨xs[j]'(by rw [HL0.out]; exact hlt), List.getElem?_eq_getElem _⟩
      have HAL := Lib.hid ((Fr.refl F0 wr).alloc (.cells #[.int .u8 9] 5))
      obtain ⟨ad, rfl, hc⟩ := (HV0.out.keep0 (HF.out.then0 HAL.out)).cells (by rw [List.length_map, HL0.out]; omega)
      have gx : (wr.alloc (.cells #[.int .u8 9] 5)).cell? (ad.add j) = some (.int .i64 x) := hc j _ (by simp [hx])
      obtain ⟨m, hm⟩ : ∃ m : Nat, x % 16 = (m : Int) := ⟨(x % 16).toNat, by omega⟩
      have hband : bits .and .i64 x 15 = (m : Int) := by rw [← hm]; exact i64_and x 4 (by decide)
      have HGJ : Hid (g j = (m : Int)) := Lib.hid (by rw [HG.out]; show xs.getD j 0 % 16 = _; rw [getD_of hx]; exact hm)
      clear hc hx hm
      go_wp2_with fail
      refine ((HI.out.keep0 HAL.out).put (by omega) j (by omega) (some ⟨wr.heap.size, 0, none⟩) 1 1 [9] (BytesAt.of_block (xs := [9]) (alloc_at rfl _)) (by decide) (fun ad e _ => by
        cases e
        refine ⟨fun hk => ?_, fun hk => ?_⟩
        · have := HI.out.lt _ (.inl hk); exact absurd this (Nat.lt_irrefl _)
        · have := HI.out.lt _ (.inr hk); exact absurd this (Nat.lt_irrefl _)) (m : Int) (by omega)).mono ?_
      intro e w4 hput
      rw [ps_hold g j (Dev.new 8) (by omega)] at hput
      cases hput with
      | no M' hs hin ho he hf => cases ho
      | yes M4 hs4 i f ho hi hin he hf =>
      cases ho
      have hi' : (psF g j ++ [newFm j ((Dev.new 8).at j)])[j]? = some f := hi
      rw [ps_at] at hi'
      cases hi'
      subst he
      have HM4 : Hid (∀ k, M4 k → w.heap.size ≤ k) := Lib.hid (fun k hk => by
        rcases hs4 k hk with h5 | h5
        · exact HM.out k h5
        · have h6 := HAL.out.size
          have h7 := HF.out.size
          omega)
      have HI4 : Hid (PoolIn M4 w4 pb db lb mb 8 (j + 1) (psP g (j + 1)) (Dev.new 8)) := Lib.hid (by
        have e1 := ps_put g j ((Dev.new 8).at j)
        rw [HGJ.out] at e1
        have hin' : PoolIn M4 w4 pb db lb mb 8 (j + 1) ⟨(psF g j ++ [newFm j ((Dev.new 8).at j)]).set j (putFm (newFm j ((Dev.new 8).at j)) [9] (m : Int)), 8, 0, 0, (j : Int) + 1⟩ (Dev.new 8) := hin
        rw [e1] at hin'
        exact hin')
      have HF4 := Lib.hid ((HF.out.then0 HAL.out).trans hf (fun k hk => .inr (by
        rcases hk with hk | hk
        · exact HM.out k hk
        · exact HN.out k hk)))
      clear hs4 hin hf hi HAL
      go_wp2_with fail
      go_roundg (n0 - (j + 1))
      case measure => omega
      case rel => exact ⟨j + 1, by omega, rfl, by first | rfl | (go_num), M4, HI4.out, HM4.out, HF4.out⟩
    · have hjn : j = n0 := by omega
      subst hjn
      go_wp2_with fail
      refine (HI.out.safe (s : Int)).mono ?_
      rintro e w5 ⟨rfl, hin5, hf5⟩
      have HI5 : Hid (PoolIn M w5 pb db lb mb 8 j (psS g j (s : Int)) (Dev.new 8)) := Lib.hid (by
        have e1 : (max (psP g j).safe (s : Int)) = (s : Int) := by show max (0 : Int) (s : Int) = _; omega
        rw [e1] at hin5
        exact hin5)
      have HF5 := Lib.hid (HF.out.trans hf5 (fun k hk => .inr (by
        rcases hk with hk | hk
        · exact HM.out k hk
        · exact HN.out k hk)))
      clear hin5 hf5
      go_wp2_with fail
      refine (HI5.out.clean (by show (0 : Int) ≤ 0; decide) (by show (0 : Int) < _; decide)).mono ?_
      rintro e w6 ⟨P6, D6, hcl⟩
      obtain ⟨rfl, hw6, hin6, hf6⟩ := hcl
      have HI6 := Lib.hid hin6
      have HPS := Lib.hid (ps_clean hw6)
      have HF6 := Lib.hid (HF5.out.trans hf6 (fun k hk => .inr (by
        rcases hk with hk | hk
        · exact HM.out k hk
        · exact HN.out k hk)))
      clear hw6 hin6 hf6
      go_wp2_with fail
      refine (HI6.out.dirty).mono ?_
      rintro e w7 ⟨A7, c7, rfl, hv7, -, hf7⟩
      rw [HPS.out.2.1] at hv7 ⊢
      rw [List.length_map]
      obtain ⟨nd, hnd⟩ : ∃ nd, nd = (psA g (s : Int) j).length := ⟨_, rfl⟩
      have HND := Lib.hid hnd
      rw [← hnd]
      have HV7 := Lib.hid hv7
      have HD7 := Lib.hid (HI6.out.dev.keep0 hf7)
      have HW7 := Lib.hid HI6.out.wf
      have HF7 := Lib.hid (HF6.out.then0 hf7)
      clear hv7 hf7 hnd
      go_wp2_with fail
      go_loopg [14, 15, 16, 17, 18] j (fun kq x14 x15 x16 x17 x18 wr => ∃ i : Nat, i ≤ j ∧ kq = j - i ∧ x15 = .int .i64 (i : Int) ∧ x14 = .int .i64 (((psA g (s : Int) i).length : Nat) : Int) ∧ Fr F0 w7 wr)
      case atStart => exact ⟨0, by omega, rfl, rfl, rfl, Fr.refl F0 w7⟩
      case round =>
        obtain ⟨i, hi, rfl, rfl, rfl, hfr⟩ := hrel
        have HFR := Lib.hid hfr
        clear hfr
        obtain ⟨k, hk⟩ : ∃ k, k = (psA g (s : Int) i).length := ⟨_, rfl⟩
        have HK := Lib.hid hk
        rw [← hk]
        clear hk
        have i0 : (0 : Int) ≤ (i : Int) := Int.natCast_nonneg _
        have k0 : (0 : Int) ≤ (k : Int) := Int.natCast_nonneg _
        by_cases hlt2 : i < j
        · have i1 : (i : Int) < (j : Int) := by omega
          have hfw := HFR.out
          obtain ⟨x, hx⟩ : ∃ x, xs[i]? = some x := ⟨xs[i]'(by rw [HL0.out]; exact hlt2), List.getElem?_eq_getElem _⟩
          obtain ⟨ad, rfl, hc⟩ := (HV0.out.keep0 (HF7.out.then0 HFR.out)).cells (by rw [List.length_map, HL0.out]; omega)
          have gx : wr.cell? (ad.add i) = some (.int .i64 x) := hc i _ (by simp [hx])
          obtain ⟨m, hm⟩ : ∃ m : Nat, x % 16 = (m : Int) := ⟨(x % 16).toNat, by omega⟩
          have hband : bits .and .i64 x 15 = (m : Int) := by rw [← hm]; exact i64_and x 4 (by decide)
          have hgj : g i = (m : Int) := by rw [HG.out]; show xs.getD i 0 % 16 = _; rw [getD_of hx]; exact hm
          have HGJ := Lib.hid hgj
          have m0 : (0 : Int) ≤ (m : Int) := Int.natCast_nonneg _
          have hat := HPS.out.1 i hlt2
          rw [hgj, Dev.new_at 8 i (by omega)] at hat
          have HAT := Lib.hid hat
          clear hc hx hm hgj hat hfw
          by_cases hab : (s : Int) < (m : Int)
          · go_wp2_with fail
            refine (read_c (HD7.out.keep0 HFR.out) HW7.out.good.gone i (by rw [HW7.out.good.laid]; omega)).mono ?_
            rintro e w8 ⟨b8, t8, rfl, hb80, hb81, hf8⟩
            have hat := HAT.out
            rw [if_pos hab] at hat
            rw [hat] at hb81
            have gx : w8.cell? ⟨b8, 0, none⟩ = some (.int .u8 0) := by rw [cell_of hb81]; rfl
            have HF8 := Lib.hid (HFR.out.then0 hf8)
            have hk2 : (psA g (s : Int) j)[k]? = some i := by rw [HK.out]; exact psA_at g _ i (by rw [HGJ.out]; exact hab) j hlt2
            have hk3 : k < nd := by rw [HND.out]; exact (List.getElem?_eq_some_iff.1 hk2).1
            have hk4 : (k : Int) < (nd : Int) := by omega
            have hk8 : k ≤ i := by rw [HK.out]; exact psA_len _ _ _
            obtain ⟨ad7, rfl, hc7⟩ := (HV7.out.keep0 HF8.out).cells (by rw [List.length_map, List.length_map, ← HND.out]; omega)
            have gd : w8.cell? (ad7.add k) = some (.int .i64 (i : Int)) := hc7 k _ (by simp [hk2])
            clear hb80 hb81 hf8 hat hk2 hc7
            go_wp2_with fail
            go_roundg (j - (i + 1))
            case measure => omega
            case rel => exact ⟨i + 1, by omega, rfl, by first | rfl | (go_num), by rw [psA_succ, HGJ.out, if_pos hab, List.length_append, ← HK.out, List.length_singleton]; first | rfl | (go_num), HF8.out⟩
          · have HAB := Lib.hid hab
            go_wp2_with fail
            refine (read_c (HD7.out.keep0 HFR.out) HW7.out.good.gone i (by rw [HW7.out.good.laid]; omega)).mono ?_
            rintro e w8 ⟨b8, t8, rfl, hb80, hb81, hf8⟩
            have hat := HAT.out
            rw [if_neg (Int.not_lt.2 HAB.out)] at hat
            rw [hat] at hb81
            have gx : w8.cell? ⟨b8, 0, none⟩ = some (.int .u8 9) := by rw [cell_of hb81]; rfl
            have HF8 := Lib.hid (HFR.out.then0 hf8)
            clear hb80 hb81 hf8 hat
            go_wp2_with fail
            go_roundg (j - (i + 1))
            case measure => omega
            case rel => exact ⟨i + 1, by omega, rfl, by first | rfl | (go_num), by rw [psA_succ, HGJ.out, if_neg (Int.not_lt.2 HAB.out), List.append_nil, HK.out], HF8.out⟩
        · have hij : i = j := by omega
          subst hij
          obtain rfl : k = nd := by rw [HK.out, HND.out]
          go_wp2_with fail
          refine (spent_c (HD7.out.keep0 HFR.out)).mono ?_
          rintro e w8 ⟨rfl, rfl⟩
          have HSP := Lib.hid HPS.out.2.2
          have hnk : k ≤ i := by rw [HK.out]; exact psA_len _ _ _
          have hsp : D6.spent = (i : Int) - (k : Int) := by
            rw [HSP.out, ← HK.out]
            show (0 : Int) + _ = _
            omega
          have hjk : IntKind.i64.wrap ((i : Int) - (k : Int)) = (i : Int) - (k : Int) := by rw [IntKind.wrap_i64]; omega
          rw [hsp]
          go_wp2_with fail
          go_ret
          exact ⟨rfl, HF7.out.then0 HFR.out⟩
end
end Go.Proofs.Ytpiokjckhphibaa
