/-
  heronrylaw17.PoolWaits: the walk. Conditions: none.
-/
import Derived.Test.YtjfdfjenodianaaP17e
import Derived.Test.YtjfdfjenodianaaTurn
set_option linter.unusedVariables false
set_option linter.unusedSimpArgs false
namespace Go.Proofs.Ytjfdfjenodianaa
open Go.RowKit
/-- A pool at the law: so many put. -/
structure WaitAt (w0 w : World) (pb db lb mb N m : Nat) : Prop where
  ex : ∃ M P, PoolIn M w pb db lb mb 12 N P (Dev.new 12) ∧ Waits P m ∧ ∀ x, M x → w0.heap.size ≤ x
  fr : Fr F0 w0 w
section
variable {w : World}
set_option maxRecDepth 100000 in
set_option maxHeartbeats 2000000 in
theorem waits_walk (rn : Int) (A : Option Addr) (n c : Nat) (l : List Act1) (hL : ActsAt w A n l) (hn : n ≤ 9223372036854775807) :
    Calls Try.prog 7 #[.int .i64 rn, .slice A n c] w fun e w' => e = .returned (.bool true) ∧ Fr F0 w w' := by
  by_cases hsm' : smallB l = false
  · go_enter Try.func7, Try.ntmps7
    go_wp2_with fail
    refine (awake17_c).mono ?_
    rintro e w1 ⟨rfl, hf1⟩
    go_wp2_with fail
    refine (small_c A n c l (hL.keep0 hf1) hn).mono ?_
    rintro e w2 ⟨rfl, hf2⟩
    rw [hsm']
    go_wp2_with fail
    go_ret
    exact ⟨rfl, hf1.then0 hf2⟩
  have hsm : smallB l = true := by simpa using hsm'
  clear hsm'
  have HSM := Lib.hid hsm
  have HL := Lib.hid hL
  have n60 : n ≤ 60 := by
    have h1 := hL.len
    by_cases h0 : n = 0
    · omega
    · have := smallB_get hsm (List.getElem?_eq_getElem (show 0 < l.length by omega))
      omega
  clear hsm hL
  obtain ⟨r, hr⟩ : ∃ r : Nat, rn % 8 = (r : Int) := ⟨(rn % 8).toNat, by omega⟩
  have hr8 : r < 8 := by omega
  have hbandr : bits .and .i64 rn 7 = (r : Int) := by rw [← hr]; exact i64_and rn 3 (by decide)
  have hr1 : IntKind.i64.wrap (1 + (r : Int)) = 1 + (r : Int) := by rw [IntKind.wrap_i64]; omega
  clear hr
  go_enter Try.func7, Try.ntmps7
  go_wp2_with fail
  refine (awake17_c).mono ?_
  rintro e w1 ⟨rfl, hf1⟩
  have HF1 := Lib.hid hf1
  clear hf1
  go_wp2_with fail
  refine (small_c A n c l (HL.out.keep0 HF1.out) hn).mono ?_
  rintro e w2 ⟨rfl, hf2⟩
  rw [HSM.out]
  have HF2 := Lib.hid (HF1.out.then0 hf2)
  clear hf2
  go_wp2_with fail
  refine (new_c 12 (by decide) (by decide) _).mono ?_
  rintro e w3 ⟨db, lb, mb, rfl, h1, n1, n2, n3', hf3⟩
  have HD3 := Lib.hid h1
  have HF3 := Lib.hid (HF2.out.then0 hf3)
  have HN : Hid (∀ k, Dv db lb mb k → w.heap.size ≤ k) := Lib.hid (fun k hk => by
    have := HF2.out.size
    rcases hk with h | h | h <;> omega)
  clear h1 n1 n2 n3' hf3
  go_wp2_with fail
  refine (PoolIn.new HD3.out (Dev.new_ok17 12) (1 + (r : Int)) (by omega) (by omega)).mono ?_
  rintro e w4 ⟨pb, rfl, hpb, hin, hf4⟩
  have HI4 : Hid (PoolIn (fun x => x = pb) w4 pb db lb mb 12 0 ⟨[], 1 + (r : Int), 0, 0, 0⟩ (Dev.new 12)) := Lib.hid hin
  have HM4 : Hid (∀ k, k = pb → w.heap.size ≤ k) := Lib.hid (fun k hk => by have := HF3.out.size; omega)
  have HF4 := Lib.hid (HF3.out.then0 hf4)
  clear hpb hin hf4
  go_wp2_with fail
  go_loopg [10, 11, 12] n (fun kq x10 x11 x12 wr => ∃ j m : Nat, j ≤ n ∧ m ≤ j ∧ kq = n - j ∧ x11 = .int .i64 (j : Int) ∧ x10 = .int .i64 (m : Int) ∧ WaitAt w wr pb db lb mb j m)
  case atStart => exact ⟨0, 0, by omega, by omega, rfl, rfl, rfl, ⟨⟨_, _, HI4.out, Waits.new _, HM4.out⟩, HF4.out⟩⟩
  case round =>
    obtain ⟨j, m, hj, hmj, rfl, rfl, rfl, hwa⟩ := hrel
    obtain ⟨⟨M, P, hin, hwt, hm⟩, hfr⟩ := hwa
    have HI := Lib.hid hin
    have HW := Lib.hid hwt
    have HM := Lib.hid hm
    have HF := Lib.hid hfr
    clear hin hwt hm hfr
    have j0 : (0 : Int) ≤ (j : Int) := Int.natCast_nonneg _
    have m0 : (0 : Int) ≤ (m : Int) := Int.natCast_nonneg _
    by_cases hlt : j < n
    · have j1 : (j : Int) < (n : Int) := by omega
      obtain ⟨b, off, x, rfl, hx, hok, c0, c1, c2, c3⟩ := (HL.out.keep0 HF.out).get hlt
      have hok0 := HL.out.ok x (List.mem_of_getElem? hx)
      have HOK := Lib.hid hok
      have HOK0 := Lib.hid hok0
      clear hx hok hok0
      obtain ⟨y, hy⟩ : ∃ y : Nat, x.pos % 256 = (y : Int) := ⟨(x.pos % 256).toNat, by omega⟩
      have hbandy : bits .and .i64 x.pos 255 = (y : Int) := by rw [← hy]; exact i64_and x.pos 8 (by decide)
      obtain ⟨z, hz⟩ : ∃ z : Nat, z = y % 12 := ⟨_, rfl⟩
      have hz12 : z < 12 := by omega
      have hremz : Int.tmod (y : Int) 12 = (z : Int) := by rw [Int.tmod_eq_emod_of_nonneg (by omega)]; omega
      have hzw : IntKind.i64.wrap (z : Int) = (z : Int) := by rw [IntKind.wrap_i64]; omega
      obtain ⟨s, hs⟩ : ∃ s : Nat, x.lsn % 16 = (s : Int) := ⟨(x.lsn % 16).toNat, by omega⟩
      have hbands : bits .and .i64 x.lsn 15 = (s : Int) := by rw [← hs]; exact i64_and x.lsn 4 (by decide)
      have hsw : IntKind.i64.wrap (1 + (s : Int)) = 1 + (s : Int) := by rw [IntKind.wrap_i64]; omega
      clear hy hz hs
      have HUP : Hid (∀ M' : Nat → Prop, (∀ k, M' k → M k ∨ wr.heap.size ≤ k) → ∀ x, M' x → w.heap.size ≤ x) := Lib.hid (fun M' hs k hk => by
        have hsz := HF.out.size
        rcases hs k hk with h5 | h5
        · exact HM.out k h5
        · omega)
      have HST : Hid (∀ w5, Fr (fun k => M k ∨ Dv db lb mb k) wr w5 → Fr F0 w w5) := Lib.hid (fun w5 hf => HF.out.trans hf (fun k hk => .inr (by
        rcases hk with hk | hk
        · exact HM.out k hk
        · exact HN.out k hk)))
      have HGET : Hid (∀ e w5, GetIn wr w5 e M pb db lb mb 12 j (P.hold (Dev.new 12) z) → WaitAt w w5 pb db lb mb (j + 1) m ∧ ∃ A9 n9 c9 e9, e = .returned (.tuple #[.slice A9 n9 c9, .int .i64 e9])) := Lib.hid (by
        intro e w5 hg
        obtain ⟨hw5, hD5⟩ := HW.out.hold (D := Dev.new 12) HI.out.wf z
        cases hg with
        | no M' hs hin ho he hf => rw [hD5] at hin; exact ⟨⟨⟨M', _, hin, hw5, HUP.out M' hs⟩, HST.out _ hf⟩, _, _, _, _, he⟩
        | yes M' hs hin i9 f9 A9 c9 ho hi he hb hl hA hf => rw [hD5] at hin; exact ⟨⟨⟨M', _, hin, hw5, HUP.out M' hs⟩, HST.out _ hf⟩, _, _, _, _, he⟩)
      by_cases hlo : x.what < 3
      · go_wp2_with fail
        refine (HI.out.get (by omega) z (by omega)).mono ?_
        intro e w5 hg
        obtain ⟨hwa, A9, n9, c9, e9, rfl⟩ := HGET.out e w5 hg
        have HWA := Lib.hid hwa
        clear hg hwa
        go_wp2_with fail
        go_roundg (n - (j + 1))
        case measure => omega
        case rel => exact ⟨j + 1, m, by omega, by omega, rfl, by first | rfl | (go_num), by first | rfl | (go_num), HWA.out⟩
      by_cases hhi : x.what ≤ 5
      · have hlo' : 3 ≤ x.what := by omega
        clear hlo
        by_cases hbig : 64 < x.bn
        · go_upto_region 15 with fail
          go_still_tail 14, (by kernel_rfl)
          change wpList _ _ _ _ _ wr.drew
          have HI4 := Lib.hid (HI.out.keep0 ((Fr.refl F0 wr).drew))
          have HF4 := Lib.hid (HF.out.drew)
          have HB4 := Lib.hid (HOK.out.b.keep0 ((Fr.refl F0 wr).drew))
          have HUP4 : Hid (∀ M' : Nat → Prop, (∀ k, M' k → M k ∨ wr.drew.heap.size ≤ k) → ∀ x, M' x → w.heap.size ≤ x) := HUP
          have HST4 : Hid (∀ w5, Fr (fun k => M k ∨ Dv db lb mb k) wr.drew w5 → Fr F0 w w5) := Lib.hid (fun w5 hf => HF4.out.trans hf (fun k hk => .inr (by
            rcases hk with hk | hk
            · exact HM.out k hk
            · exact HN.out k hk)))
          generalize wr.drew = w4 at *
          clear c0 c1 c2 c3
          go_wp2_with fail
          refine (pput_big _ _ _ _ _ hbig _).mono ?_
          rintro e w5 ⟨rfl, rfl⟩
          go_wp2_with fail
          go_roundg (n - (j + 1))
          case measure => omega
          case rel => exact ⟨j + 1, m, by omega, by omega, rfl, by first | rfl | (go_num), by first | rfl | (go_num), ⟨⟨M, P, by obtain ⟨h1, h2, h3, h4, h5, h6⟩ := HI4.out; exact ⟨h1, h2, h3, h4, h5, by omega⟩, HW.out, HM.out⟩, HF4.out⟩⟩
        · go_upto_region 15 with fail
          go_still_tail 14, (by kernel_rfl)
          change wpList _ _ _ _ _ wr.drew
          have HI4 := Lib.hid (HI.out.keep0 ((Fr.refl F0 wr).drew))
          have HF4 := Lib.hid (HF.out.drew)
          have HB4 := Lib.hid (HOK.out.b.keep0 ((Fr.refl F0 wr).drew))
          have HUP4 : Hid (∀ M' : Nat → Prop, (∀ k, M' k → M k ∨ wr.drew.heap.size ≤ k) → ∀ x, M' x → w.heap.size ≤ x) := HUP
          have HST4 : Hid (∀ w5, Fr (fun k => M k ∨ Dv db lb mb k) wr.drew w5 → Fr F0 w w5) := Lib.hid (fun w5 hf => HF4.out.trans hf (fun k hk => .inr (by
            rcases hk with hk | hk
            · exact HM.out k hk
            · exact HN.out k hk)))
          generalize wr.drew = w4 at *
          clear c0 c1 c2 c3
          go_wp2_with fail
          refine (HI4.out.put (by omega) z (by omega) x.bA x.bn x.bc x.b HB4.out (by omega) (fun ad e hp => by
            have hb0 := HOK0.out.b
            rw [e] at hb0
            have hlt0 := hb0.lt hp
            refine ⟨fun hk => ?_, fun hk => ?_⟩
            · have := HM.out _ hk; omega
            · have := HN.out _ hk; omega) (1 + (s : Int)) (by omega)).mono ?_
          intro e w5 hput
          obtain ⟨hw5, hD5⟩ := HW.out.hold (D := Dev.new 12) HI4.out.wf z
          cases hput with
          | no M' hs hin ho he hf =>
            subst he
            rw [hD5] at hin
            have HWA : Hid (WaitAt w w5 pb db lb mb (j + 1) m) := Lib.hid ⟨⟨M', _, hin, hw5, HUP4.out M' hs⟩, HST4.out _ hf⟩
            clear hin hs hf ho hw5 hD5
            go_wp2_with fail
            go_roundg (n - (j + 1))
            case measure => omega
            case rel => exact ⟨j + 1, m, by omega, by omega, rfl, by first | rfl | (go_num), by first | rfl | (go_num), HWA.out⟩
          | yes M' hs i9 f9 ho hi hin he hf =>
            subst he
            rw [hD5] at hin
            have HWA : Hid (WaitAt w w5 pb db lb mb (j + 1) (m + 1)) := Lib.hid ⟨⟨M', _, hin, hw5.put hi _ _ (by omega), HUP4.out M' hs⟩, HST4.out _ hf⟩
            clear hin hs hf ho hw5 hD5 hi
            go_wp2_with fail
            go_roundg (n - (j + 1))
            case measure => omega
            case rel => exact ⟨j + 1, m + 1, by omega, by omega, rfl, by first | rfl | (go_num), by first | rfl | (go_num), HWA.out⟩
      by_cases h9 : x.what = 9
      · go_wp2_with fail
        refine (HI.out.clean0 HW.out.clean).mono ?_
        rintro e w5 ⟨rfl, hin, hf⟩
        have HWA : Hid (WaitAt w w5 pb db lb mb j m) := Lib.hid ⟨⟨M, P, hin, HW.out, HM.out⟩, HST.out _ hf⟩
        clear hin hf
        go_wp2_with fail
        go_roundg (n - (j + 1))
        case measure => omega
        case rel => exact ⟨j + 1, m, by omega, by omega, rfl, by first | rfl | (go_num), by first | rfl | (go_num), by obtain ⟨⟨M9, P9, ⟨h1, h2, h3, h4, h5, h6⟩, h7, h8⟩, h9⟩ := HWA.out; exact ⟨⟨M9, P9, ⟨h1, h2, h3, h4, h5, by omega⟩, h7, h8⟩, h9⟩⟩
      · go_wp2_with fail
        refine (HI.out.get (by omega) z (by omega)).mono ?_
        intro e w5 hg
        obtain ⟨hwa, A9, n9, c9, e9, rfl⟩ := HGET.out e w5 hg
        have HWA := Lib.hid hwa
        clear hg hwa
        go_wp2_with fail
        go_roundg (n - (j + 1))
        case measure => omega
        case rel => exact ⟨j + 1, m, by omega, by omega, rfl, by first | rfl | (go_num), by first | rfl | (go_num), HWA.out⟩
    · have hjn : j = n := by omega
      subst hjn
      go_wp2_with fail
      refine (pget_nil 0).mono ?_
      rintro e w5 ⟨rfl, rfl⟩
      go_wp2_with fail
      refine (psafe_nil 5).mono ?_
      rintro e w5 ⟨rfl, rfl⟩
      go_wp2_with fail
      refine (spent_c HI.out.dev).mono ?_
      rintro e w5 ⟨rfl, rfl⟩
      have hsp : (Dev.new 12).spent = 0 := rfl
      rw [hsp]
      clear hsp
      go_wp2_with fail
      refine (HI.out.dirty).mono ?_
      rintro e w6 ⟨A6, c6, rfl, -, -, hf6⟩
      obtain ⟨k, hk⟩ : ∃ k, k = (P.listed fun f => f.dirty).length := ⟨_, rfl⟩
      rw [← hk]
      have hkm : k ≤ m := by rw [hk]; exact HW.out.dirty
      have k0 : (0 : Int) ≤ (k : Int) := Int.natCast_nonneg _
      have hkm' : (k : Int) ≤ (m : Int) := by omega
      have HF6 := Lib.hid (HF.out.then0 hf6)
      clear hk hf6
      go_wp2_with fail
      refine (pput_nil _ _ _).mono ?_
      rintro e w7 ⟨rfl, rfl⟩
      go_wp2_with fail
      refine (pin_nil _).mono ?_
      rintro e w7 ⟨rfl, rfl⟩
      go_wp2_with fail
      refine (unpin_nil _).mono ?_
      rintro e w7 ⟨rfl, rfl⟩
      go_wp2_with fail
      refine (clean_nil).mono ?_
      rintro e w7 ⟨rfl, hf7⟩
      have HF7 := Lib.hid (HF6.out.then0 hf7)
      clear hf7
      go_wp2_with fail
      refine (held_nil).mono ?_
      rintro e w8 ⟨rfl, rfl⟩
      go_wp2_with fail
      refine (dirty_nil).mono ?_
      rintro e w8 ⟨rfl, rfl⟩
      go_wp2_with fail
      refine (preads_nil).mono ?_
      rintro e w8 ⟨rfl, rfl⟩
      go_wp2_with fail
      go_ret
      exact ⟨rfl, HF7.out⟩
end
end Go.Proofs.Ytjfdfjenodianaa
