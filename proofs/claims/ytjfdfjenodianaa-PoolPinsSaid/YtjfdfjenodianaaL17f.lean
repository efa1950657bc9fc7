/-
  heronrylaw17.PoolPins: the walk. Conditions: none.
-/
import Derived.Test.YtjfdfjenodianaaP17d
import Derived.Test.YtjfdfjenodianaaTurn
set_option linter.unusedVariables false
set_option linter.unusedSimpArgs false
namespace Go.Proofs.Ytjfdfjenodianaa
open Go.RowKit
/-- A pool at the law: so often pinned. -/
structure PinAt (w0 w : World) (pb db lb mb N : Nat) (at_ k room : Int) : Prop where
  ex : ∃ M P D, PoolIn M w pb db lb mb 12 N P D ∧ Pinned P at_ k room ∧ ∀ x, M x → w0.heap.size ≤ x
  fr : Fr F0 w0 w
section
variable {w : World}
set_option maxRecDepth 100000 in
set_option maxHeartbeats 2000000 in
theorem pins_walk (rn an tn : Int) (A3 : Option Addr) (n3 c3 : Nat) (xs : List Int) (hl3 : xs.length = n3) (hV3 : ValsAt w A3 (xs.map (Value.int .i64))) (hn3 : n3 ≤ 9223372036854775807) :
    Calls Try.prog 5 #[.int .i64 rn, .int .i64 an, .int .i64 tn, .slice A3 n3 c3] w fun e w' => e = .returned (.bool true) ∧ Fr F0 w w' := by
  have HL3 := Lib.hid hl3
  have HV3 := Lib.hid hV3
  clear hl3 hV3
  have a0 : (0 : Int) ≤ (n3 : Int) := Int.natCast_nonneg _
  by_cases hbig : 60 < n3
  · have hb0 : (60 : Int) < (n3 : Int) := by omega
    go_enter Try.func5, Try.ntmps5
    go_wp2_with fail
    refine (awake17_c).mono ?_
    rintro e w1 ⟨rfl, hf1⟩
    go_wp2_with fail
    go_ret
    exact ⟨rfl, hf1⟩
  have hb0 : ¬ (60 : Int) < (n3 : Int) := by omega
  obtain ⟨r, hr⟩ : ∃ r : Nat, rn % 4 = (r : Int) := ⟨(rn % 4).toNat, by omega⟩
  have hr4 : r < 4 := by omega
  have hbandr : bits .and .i64 rn 3 = (r : Int) := by rw [← hr]; exact i64_and rn 2 (by decide)
  have hr1 : IntKind.i64.wrap (1 + (r : Int)) = 1 + (r : Int) := by rw [IntKind.wrap_i64]; omega
  obtain ⟨t, ht⟩ : ∃ t : Nat, tn % 4 = (t : Int) := ⟨(tn % 4).toNat, by omega⟩
  have ht4 : t < 4 := by omega
  have hbandt : bits .and .i64 tn 3 = (t : Int) := by rw [← ht]; exact i64_and tn 2 (by decide)
  obtain ⟨b, hb⟩ : ∃ b : Nat, an % 256 = (b : Int) := ⟨(an % 256).toNat, by omega⟩
  have hbandb : bits .and .i64 an 255 = (b : Int) := by rw [← hb]; exact i64_and an 8 (by decide)
  obtain ⟨q, hq⟩ : ∃ q : Nat, q = b % 12 := ⟨_, rfl⟩
  have hq12 : q < 12 := by omega
  have hrem : Int.tmod (b : Int) 12 = (q : Int) := by rw [Int.tmod_eq_emod_of_nonneg (by omega)]; omega
  have hqw : IntKind.i64.wrap (q : Int) = (q : Int) := by rw [IntKind.wrap_i64]; omega
  clear hr ht hb hq
  go_enter Try.func5, Try.ntmps5
  go_wp2_with fail
  refine (awake17_c).mono ?_
  rintro e w1 ⟨rfl, hf1⟩
  have HF1 := Lib.hid hf1
  clear hf1
  go_wp2_with fail
  refine (new_c 12 (by decide) (by decide) _).mono ?_
  rintro e w2 ⟨db, lb, mb, rfl, h1, n1, n2, n3', hf2⟩
  have HD2 := Lib.hid h1
  have HF2 := Lib.hid (HF1.out.then0 hf2)
  have HN : Hid (∀ k, Dv db lb mb k → w.heap.size ≤ k) := Lib.hid (fun k hk => by
    have := HF1.out.size
    rcases hk with h | h | h <;> omega)
  clear h1 n1 n2 n3' hf2
  go_wp2_with fail
  refine (PoolIn.new HD2.out (Dev.new_ok17 12) (1 + (r : Int)) (by omega) (by omega)).mono ?_
  rintro e w3 ⟨pb, rfl, hpb, hin, hf3⟩
  have HI3 : Hid (PoolIn (fun x => x = pb) w3 pb db lb mb 12 0 ⟨[], 1 + (r : Int), 0, 0, 0⟩ (Dev.new 12)) := Lib.hid hin
  have HM3 : Hid (∀ k, k = pb → w.heap.size ≤ k) := Lib.hid (fun k hk => by have := HF2.out.size; omega)
  have HF3 := Lib.hid (HF2.out.then0 hf3)
  clear hpb hin hf3
  go_wp2_with fail
  go_loopg [17] (1 + t) (fun kq x17 wr => ∃ j : Nat, j ≤ 1 + t ∧ kq = 1 + t - j ∧ x17 = .int .i64 (j : Int) ∧ PinAt w wr pb db lb mb j (q : Int) (j : Int) (1 + (r : Int)))
  case atStart => exact ⟨0, by omega, rfl, rfl, ⟨⟨_, _, _, HI3.out, Pinned.new _ _, HM3.out⟩, HF3.out⟩⟩
  case round =>
    obtain ⟨j, hj, rfl, rfl, hpin⟩ := hrel
    obtain ⟨⟨M, P, D, hin, hpd, hm⟩, hfr⟩ := hpin
    have HI := Lib.hid hin
    have HPD := Lib.hid hpd
    have HM := Lib.hid hm
    have HF := Lib.hid hfr
    clear hin hpd hm hfr
    have j0 : (0 : Int) ≤ (j : Int) := Int.natCast_nonneg _
    by_cases hlt : j < 1 + t
    · have j1 : (j : Int) < 1 + (t : Int) := by omega
      go_wp2_with fail
      refine (HI.out.pin (by omega) q (by omega) (fun i f hf => ?_)).mono ?_
      · have h1 := HPD.out.hold (D := D) HI.out.wf q
        have hfm := List.mem_of_getElem? hf
        by_cases ha : f.at_ = (q : Int)
        · rw [h1.this_ f hfm ha]; omega
        · rw [h1.other f hfm ha]; decide
      intro e w4 hp
      cases hp with
      | no M' hs hin ho he hf =>
        obtain ⟨i, hi⟩ := HPD.out.finds (D := D) HI.out.wf q (.inr (.inr rfl))
        rw [ho] at hi
        cases hi
      | yes M' hs i f ho hi hin he hf =>
      subst he
      have hfa := hold_at ho hi
      have hpd := HPD.out.hold (D := D) HI.out.wf q
      have hfp := hpd.this_ f (List.mem_of_getElem? hi) hfa
      have hpd2 := hpd.count hi hfa (HI.out.wf.hold (by omega)).nd ((j : Int) + 1) (by omega)
      rw [← hfp] at hpd2
      have HPD4 := Lib.hid hpd2
      have HFP := Lib.hid hfp
      have HI4 := Lib.hid hin
      have HM4 : Hid (∀ k, M' k → w.heap.size ≤ k) := Lib.hid (fun k hk => by
        rcases hs k hk with h5 | h5
        · exact HM.out k h5
        · have h7 := HF.out.size
          omega)
      have HF4 := Lib.hid (HF.out.trans hf (fun k hk => .inr (by
        rcases hk with hk | hk
        · exact HM.out k hk
        · exact HN.out k hk)))
      clear hs hin hf hi hfa hfp hpd hpd2 ho
      go_wp2_with fail
      go_roundg (1 + t - (j + 1))
      case measure => omega
      case rel => exact ⟨j + 1, by omega, rfl, by first | rfl | (go_num), ⟨⟨M', _, _, HI4.out, by have := HPD4.out; rw [HFP.out] at this ⊢; exact this, HM4.out⟩, HF4.out⟩⟩
    · have hjn : j = 1 + t := by omega
      subst hjn
      go_wp2_with fail
      go_loopg [18, 19, 20, 21, 22, 23, 24] n3 (fun kq x18 x19 x20 x21 x22 x23 x24 wr => ∃ i : Nat, i ≤ n3 ∧ kq = n3 - i ∧ x18 = .int .i64 (i : Int) ∧ PinAt w wr pb db lb mb (1 + t + i) (q : Int) ((1 + t : Nat) : Int) (1 + (r : Int)))
      case atStart => exact ⟨0, by omega, rfl, rfl, ⟨⟨_, _, _, HI.out, HPD.out, HM.out⟩, HF.out⟩⟩
      case round =>
        obtain ⟨i, hi, rfl, rfl, hpin⟩ := hrel
        obtain ⟨⟨M2, P2, D2, hin, hpd, hm⟩, hfr⟩ := hpin
        have HI2 := Lib.hid hin
        have HPD2 := Lib.hid hpd
        have HM2 := Lib.hid hm
        have HFR := Lib.hid hfr
        clear hin hpd hm hfr
        have i0 : (0 : Int) ≤ (i : Int) := Int.natCast_nonneg _
        by_cases hlt2 : i < n3
        · have i1 : (i : Int) < (n3 : Int) := by omega
          obtain ⟨x, hx⟩ : ∃ x, xs[i]? = some x := ⟨xs[i]'(by rw [HL3.out]; exact hlt2), List.getElem?_eq_getElem _⟩
          obtain ⟨ad, rfl, hc⟩ := (HV3.out.keep0 HFR.out).cells (by rw [List.length_map, HL3.out]; omega)
          have gx : wr.cell? (ad.add i) = some (.int .i64 x) := hc i _ (by simp [hx])
          obtain ⟨y, hy⟩ : ∃ y : Nat, x % 256 = (y : Int) := ⟨(x % 256).toNat, by omega⟩
          have hbandy : bits .and .i64 x 255 = (y : Int) := by rw [← hy]; exact i64_and x 8 (by decide)
          obtain ⟨z, hz⟩ : ∃ z : Nat, z = y % 12 := ⟨_, rfl⟩
          have hz12 : z < 12 := by omega
          have hremz : Int.tmod (y : Int) 12 = (z : Int) := by rw [Int.tmod_eq_emod_of_nonneg (by omega)]; omega
          have hzw : IntKind.i64.wrap (z : Int) = (z : Int) := by rw [IntKind.wrap_i64]; omega
          clear hc hx hy hz
          go_wp2_with fail
          refine (HI2.out.get (by omega) z (by omega)).mono ?_
          intro e w5 hg
          have hpd5 := HPD2.out.hold (D := D2) HI2.out.wf z
          have hfin := HPD2.out.finds (D := D2) HI2.out.wf z
          obtain ⟨M5, hin5, hm5, hfr5, hans⟩ : ∃ M5, PoolIn M5 w5 pb db lb mb 12 (1 + t + i + 1) (P2.hold D2 z).2.1 (P2.hold D2 z).2.2 ∧ (∀ x, M5 x → w.heap.size ≤ x) ∧ Fr F0 w w5 ∧
              ((∃ A c, e = .returned (.tuple #[.slice A 64 c, .int .i64 0])) ∨ (e = .returned (.tuple #[.slice none 0 0, .int .i64 5]) ∧ r = 0 ∧ z ≠ q)) := by
            have hsz := HFR.out.size
            have hup : ∀ M' : Nat → Prop, (∀ k, M' k → M2 k ∨ wr.heap.size ≤ k) → ∀ x, M' x → w.heap.size ≤ x := fun M' hs k hk => by
              rcases hs k hk with h5 | h5
              · exact HM2.out k h5
              · omega
            have hst : Fr (fun k => M2 k ∨ Dv db lb mb k) wr w5 → Fr F0 w w5 := fun hf => HFR.out.trans hf (fun k hk => .inr (by
              rcases hk with hk | hk
              · exact HM2.out k hk
              · exact HN.out k hk))
            cases hg with
            | no M' hs hin ho he hf =>
              refine ⟨M', hin, hup M' hs, hst hf, .inr ⟨he, ?_, ?_⟩⟩
              · by_cases hr0 : r = 0
                · exact hr0
                · obtain ⟨i9, h9⟩ := hfin (.inl (by omega))
                  rw [ho] at h9; cases h9
              · intro hz
                obtain ⟨i9, h9⟩ := hfin (.inr (.inr (by omega)))
                rw [ho] at h9; cases h9
            | yes M' hs hin i9 f9 A9 c9 ho hi he hb hl hA hf => exact ⟨M', hin, hup M' hs, hst hf, .inl ⟨A9, c9, he⟩⟩
          have HI5 := Lib.hid hin5
          have HPD5 := Lib.hid hpd5
          have HM5 := Lib.hid hm5
          have HF5 := Lib.hid hfr5
          clear hin5 hpd5 hfin hm5 hfr5 hg
          have hheld : (q : Int) ∈ (P2.hold D2 z).2.1.listed (fun _ => true) := by
            obtain ⟨f9, hf9, ha9⟩ := List.mem_map.1 (HPD5.out.held (by omega))
            exact listed_mem.2 ⟨f9, hf9, rfl, ha9⟩
          obtain ⟨ls, hls⟩ : ∃ ls, ls = (P2.hold D2 z).2.1.listed (fun _ => true) := ⟨_, rfl⟩
          have HHELD : Hid ((q : Int) ∈ ls) := Lib.hid (by rw [hls]; exact hheld)
          have HLS := Lib.hid hls
          clear hheld hls
          have hrest : ∀ (e : Ending) (w6 : World), Listed w5 w6 e ls → ∃ A6 c6, e = .returned (.slice A6 ls.length c6) ∧ Hid (ValsAt w6 A6 (ls.map (Value.int .i64))) ∧ Hid (Fr F0 w w6) ∧ Hid (PoolIn M5 w6 pb db lb mb 12 (1 + t + i + 1) (P2.hold D2 z).2.1 (P2.hold D2 z).2.2) := by
            intro e6 w6 hlx
            obtain ⟨A6, c6, he6, hv6, -, hf6⟩ := hlx.ex
            exact ⟨A6, c6, he6, Lib.hid hv6, Lib.hid (HF5.out.then0 hf6), Lib.hid (HI5.out.keep0 hf6)⟩
          have HREST := Lib.hid hrest
          clear hrest
          obtain ⟨nl, hnl⟩ : ∃ nl, nl = ls.length := ⟨_, rfl⟩
          have HNL := Lib.hid hnl
          have nl0 : (0 : Int) ≤ (nl : Int) := Int.natCast_nonneg _
          clear hnl
          have hnl64 : nl ≤ 64 := by
            have h1 := HI5.out.len64
            have h2 := listed_length (P2.hold D2 z).2.1 (fun _ => true)
            have h3 := HLS.out
            have h4 := HNL.out
            rw [h3] at h4
            omega
          have hnt : ¬ ((z : Int) = (q : Int)) ∨ True := .inr trivial
          clear hnt
          rcases hans with ⟨A9, c9, rfl⟩ | ⟨rfl, hr0, hzq⟩
          · go_wp2_with fail
            refine (HI5.out.held).mono ?_
            intro e6 w6 hlx
            rw [← HLS.out] at hlx
            obtain ⟨A6, c6, rfl, HV6, HF6, HI6⟩ := HREST.out e6 w6 hlx
            rw [← HNL.out]
            clear hlx
            go_wp2_with fail
            go_loopg [22, 24] nl (fun kq x22 x24 wr2 => ∃ j2 : Nat, j2 ≤ nl ∧ kq = nl - j2 ∧ x24 = .int .i64 (j2 : Int) ∧ x22 = .bool ((ls.take j2).any fun v9 => v9 == (q : Int)) ∧ wr2 = w6)
            case atStart => exact ⟨0, by omega, rfl, rfl, rfl, rfl⟩
            case round =>
              obtain ⟨j2, hj2, rfl, rfl, rfl, rfl⟩ := hrel
              have j20 : (0 : Int) ≤ (j2 : Int) := Int.natCast_nonneg _
              by_cases hlt9 : j2 < nl
              · have j21 : (j2 : Int) < (nl : Int) := by omega
                obtain ⟨y9, hy9⟩ : ∃ y9, ls[j2]? = some y9 := ⟨ls[j2]'(by rw [← HNL.out]; exact hlt9), List.getElem?_eq_getElem _⟩
                obtain ⟨ad9, rfl, hc9⟩ := HV6.out.cells (by rw [List.length_map, ← HNL.out]; omega)
                have g9 : wr.cell? (ad9.add j2) = some (.int .i64 y9) := hc9 j2 _ (by simp [hy9])
                have htk : (ls.take (j2 + 1)).any (fun v9 => v9 == (q : Int)) = ((ls.take j2).any (fun v9 => v9 == (q : Int)) || y9 == (q : Int)) := by
                  rw [List.take_add_one, hy9, List.any_append]; simp
                have HTK := Lib.hid htk
                clear hc9 hy9 htk
                obtain ⟨hb9, hhb9⟩ : ∃ hb9, hb9 = (ls.take j2).any (fun v9 => v9 == (q : Int)) := ⟨_, rfl⟩
                rw [← hhb9] at HTK ⊢
                clear hhb9
                cases hb9 with
                | true =>
                  go_wp2_with fail
                  go_roundg (nl - (j2 + 1))
                  case measure => omega
                  case rel => exact ⟨j2 + 1, by omega, rfl, by first | rfl | (go_num), by rw [HTK.out]; rfl, rfl⟩
                | false =>
                  go_wp2_with fail
                  go_roundg (nl - (j2 + 1))
                  case measure => omega
                  case rel => exact ⟨j2 + 1, by omega, rfl, by first | rfl | (go_num), by rw [HTK.out]; simp, rfl⟩
              · have hjn9 : j2 = nl := by omega
                subst hjn9
                have hall : (ls.take j2).any (fun v9 => v9 == (q : Int)) = true := by
                  rw [HNL.out, List.take_length, List.any_eq_true]
                  exact ⟨_, HHELD.out, by simp⟩
                rw [hall]
                clear hall
                go_wp2_with fail
                go_roundg (n3 - (i + 1))
                case measure => omega
                case rel => exact ⟨i + 1, by omega, rfl, by first | rfl | (go_num), ⟨⟨M5, _, _, HI6.out, HPD5.out, HM5.out⟩, HF6.out⟩⟩
          · have hzq' : ¬ (z : Int) = (q : Int) := by omega
            subst hr0
            go_wp2_with fail
            refine (HI5.out.held).mono ?_
            intro e6 w6 hlx
            rw [← HLS.out] at hlx
            obtain ⟨A6, c6, rfl, HV6, HF6, HI6⟩ := HREST.out e6 w6 hlx
            rw [← HNL.out]
            clear hlx
            go_wp2_with fail
            go_loopg [22, 24] nl (fun kq x22 x24 wr2 => ∃ j2 : Nat, j2 ≤ nl ∧ kq = nl - j2 ∧ x24 = .int .i64 (j2 : Int) ∧ x22 = .bool ((ls.take j2).any fun v9 => v9 == (q : Int)) ∧ wr2 = w6)
            case atStart => exact ⟨0, by omega, rfl, rfl, rfl, rfl⟩
            case round =>
              obtain ⟨j2, hj2, rfl, rfl, rfl, rfl⟩ := hrel
              have j20 : (0 : Int) ≤ (j2 : Int) := Int.natCast_nonneg _
              by_cases hlt9 : j2 < nl
              · have j21 : (j2 : Int) < (nl : Int) := by omega
                obtain ⟨y9, hy9⟩ : ∃ y9, ls[j2]? = some y9 := ⟨ls[j2]'(by rw [← HNL.out]; exact hlt9), List.getElem?_eq_getElem _⟩
                obtain ⟨ad9, rfl, hc9⟩ := HV6.out.cells (by rw [List.length_map, ← HNL.out]; omega)
                have g9 : wr.cell? (ad9.add j2) = some (.int .i64 y9) := hc9 j2 _ (by simp [hy9])
                have htk : (ls.take (j2 + 1)).any (fun v9 => v9 == (q : Int)) = ((ls.take j2).any (fun v9 => v9 == (q : Int)) || y9 == (q : Int)) := by
                  rw [List.take_add_one, hy9, List.any_append]; simp
                have HTK := Lib.hid htk
                clear hc9 hy9 htk
                obtain ⟨hb9, hhb9⟩ : ∃ hb9, hb9 = (ls.take j2).any (fun v9 => v9 == (q : Int)) := ⟨_, rfl⟩
                rw [← hhb9] at HTK ⊢
                clear hhb9
                cases hb9 with
                | true =>
                  go_wp2_with fail
                  go_roundg (nl - (j2 + 1))
                  case measure => omega
                  case rel => exact ⟨j2 + 1, by omega, rfl, by first | rfl | (go_num), by rw [HTK.out]; rfl, rfl⟩
                | false =>
                  go_wp2_with fail
                  go_roundg (nl - (j2 + 1))
                  case measure => omega
                  case rel => exact ⟨j2 + 1, by omega, rfl, by first | rfl | (go_num), by rw [HTK.out]; simp, rfl⟩
              · have hjn9 : j2 = nl := by omega
                subst hjn9
                have hall : (ls.take j2).any (fun v9 => v9 == (q : Int)) = true := by
                  rw [HNL.out, List.take_length, List.any_eq_true]
                  exact ⟨_, HHELD.out, by simp⟩
                rw [hall]
                clear hall
                go_wp2_with fail
                go_roundg (n3 - (i + 1))
                case measure => omega
                case rel => exact ⟨i + 1, by omega, rfl, by first | rfl | (go_num), ⟨⟨M5, _, _, HI6.out, HPD5.out, HM5.out⟩, HF6.out⟩⟩
        · have hin3 : i = n3 := by omega
          subst hin3
          go_wp2_with fail
          go_loopg [25] (1 + t) (fun kq x25 wr => ∃ j : Nat, j ≤ 1 + t ∧ kq = 1 + t - j ∧ x25 = .int .i64 (j : Int) ∧ PinAt w wr pb db lb mb (1 + t + i) (q : Int) ((1 + t : Int) - (j : Int)) (1 + (r : Int)))
          case atStart => exact ⟨0, by omega, rfl, rfl, ⟨⟨_, _, _, HI2.out, by have := HPD2.out; have e1 : ((1 + t : Nat) : Int) = (1 + t : Int) - ((0 : Nat) : Int) := by omega
                                                                               rw [e1] at this; exact this, HM2.out⟩, HFR.out⟩⟩
          case round =>
            obtain ⟨j, hj, rfl, rfl, hpin⟩ := hrel
            obtain ⟨⟨M6, P6, D6, hin, hpd, hm⟩, hfr⟩ := hpin
            have HI6 := Lib.hid hin
            have HPD6 := Lib.hid hpd
            have HM6 := Lib.hid hm
            have HF6 := Lib.hid hfr
            clear hin hpd hm hfr
            have j0 : (0 : Int) ≤ (j : Int) := Int.natCast_nonneg _
            by_cases hlt3 : j < 1 + t
            · have j1 : (j : Int) < 1 + (t : Int) := by omega
              go_wp2_with fail
              refine (HI6.out.unpin (q : Int) (fun i9 f9 hf9 => ?_)).mono ?_
              · have hfm := List.mem_of_getElem? hf9
                by_cases ha : f9.at_ = (q : Int)
                · rw [HPD6.out.this_ f9 hfm ha]; omega
                · rw [HPD6.out.other f9 hfm ha]; decide
              intro e w7 hu
              cases hu with
              | no hno he hin hf =>
                exfalso
                obtain ⟨i9, hi9⟩ := idx_of_mem (HPD6.out.held (by omega))
                obtain ⟨f9, hf9, ha9⟩ := idx_some hi9
                have h0 := hno i9 f9 hi9 hf9
                have h1 := HPD6.out.this_ f9 (List.mem_of_getElem? hf9) ha9
                omega
              | yes i9 f9 hi9 hf9 hp9 he hin hf =>
              subst he
              obtain ⟨f8, hf8, ha9⟩ := idx_some hi9
              rw [hf9] at hf8
              cases hf8
              have hfp := HPD6.out.this_ f9 (List.mem_of_getElem? hf9) ha9
              have hpd7 := HPD6.out.count hf9 ha9 HI6.out.wf.nd ((1 + t : Int) - ((j + 1 : Nat) : Int)) (by omega)
              have he7 : f9.pins - 1 = (1 + t : Int) - ((j + 1 : Nat) : Int) := by rw [hfp]; omega
              rw [← he7] at hpd7
              have HPD7 := Lib.hid hpd7
              have HE7 := Lib.hid he7
              have HI7 := Lib.hid hin
              have HF7 := Lib.hid (HF6.out.trans hf (fun k hk => .inr (HM6.out k hk)))
              clear hin hf hf9 hi9 hp9 ha9 hfp hpd7 he7
              go_wp2_with fail
              go_roundg (1 + t - (j + 1))
              case measure => omega
              case rel => exact ⟨j + 1, by omega, rfl, by first | rfl | (go_num), ⟨⟨M6, _, _, HI7.out, by have := HPD7.out; rw [HE7.out] at this ⊢; exact this, HM6.out⟩, HF7.out⟩⟩
            · have hjn : j = 1 + t := by omega
              subst hjn
              have hpd0 := HPD6.out
              rw [show (1 + t : Int) - ((1 + t : Nat) : Int) = 0 by omega] at hpd0
              have HPD0 := Lib.hid hpd0
              clear hpd0 HPD6
              obtain ⟨q2, hq2⟩ : ∃ q2 : Nat, q2 = (q + 1) % 12 := ⟨_, rfl⟩
              have hq212 : q2 < 12 := by omega
              have hq1w : IntKind.i64.wrap ((q : Int) + 1) = (q : Int) + 1 := by rw [IntKind.wrap_i64]; omega
              have hrem2 : Int.tmod ((q : Int) + 1) 12 = (q2 : Int) := by rw [Int.tmod_eq_emod_of_nonneg (by omega)]; omega
              have hq2w : IntKind.i64.wrap (q2 : Int) = (q2 : Int) := by rw [IntKind.wrap_i64]; omega
              clear hq2
              go_wp2_with fail
              refine (HI6.out.get (by omega) q2 (by omega)).mono ?_
              intro e w7 hg
              have hpd7 := HPD0.out.hold (D := D6) HI6.out.wf q2
              cases hg with
              | no M' hs hin ho he hf =>
                exfalso
                obtain ⟨i9, h9⟩ := HPD0.out.finds (D := D6) HI6.out.wf q2 (.inr (.inl rfl))
                rw [ho] at h9; cases h9
              | yes M' hs hin i9 f9 A9 c9 ho hi he hb hl hA hf =>
              subst he
              have HI7 := Lib.hid hin
              have HPD7 := Lib.hid hpd7
              have HF7 := Lib.hid (HF6.out.trans hf (fun k hk => .inr (by
                rcases hk with hk | hk
                · exact HM6.out k hk
                · exact HN.out k hk)))
              clear hs hin ho hi hb hl hA hf hpd7
              go_wp2_with fail
              refine (HI7.out.unpin (q : Int) (fun i9 f9 hf9 => ?_)).mono ?_
              · have hfm := List.mem_of_getElem? hf9
                by_cases ha : f9.at_ = (q : Int)
                · rw [HPD7.out.this_ f9 hfm ha]; decide
                · rw [HPD7.out.other f9 hfm ha]; decide
              intro e w8 hu
              cases hu with
              | yes i9 f9 hi9 hf9 hp9 he hin hf =>
                exfalso
                obtain ⟨f8, hf8, ha9⟩ := idx_some hi9
                rw [hf9] at hf8
                cases hf8
                exact hp9 (HPD7.out.this_ f9 (List.mem_of_getElem? hf9) ha9)
              | no hno he hin hf =>
              subst he
              have HF8 := Lib.hid (HF7.out.then0 hf)
              clear hno hin hf
              go_wp2_with fail
              go_ret
              exact ⟨rfl, HF8.out⟩
end
end Go.Proofs.Ytjfdfjenodianaa
