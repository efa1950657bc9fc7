/-
  heronrylaw07: WalRefuses. Conditions: none.
-/
import Derived.Test.YtdeckbdaencjnaaDoorL7b
set_option linter.unusedVariables false
set_option linter.unusedSimpArgs false
namespace Go.Proofs.YtdeckbdaencjnaaDoor
open Go.RowKit
/-- A log in memory, none of it older than b. -/
structure LogIn (b : Nat) (w : World) (lg db lb mb : Nat) (L : Lg) (D : Dev) : Prop where
  log : LogAt w lg db L
  dev : DevAt Tryd.prog 3 w db lb mb D
  ap : ¬ Dv db lb mb lg
  new : ∀ k, Lv lg db lb mb k → b ≤ k
theorem LogIn.keep0 {b : Nat} {w w' : World} {lg db lb mb : Nat} {L : Lg} {D : Dev} (h : LogIn b w lg db lb mb L D) (hf : Fr F0 w w') : LogIn b w' lg db lb mb L D := ⟨h.log.keep0 hf, h.dev.keep0 hf, h.ap, h.new⟩
theorem LogIn.step {b : Nat} {w w' : World} {lg db lb mb : Nat} {L L' : Lg} {D D' : Dev} (h : LogIn b w lg db lb mb L D) (hl : LogAt w' lg db L') (hd : DevAt Tryd.prog 3 w' db lb mb D') : LogIn b w' lg db lb mb L' D' := ⟨hl, hd, h.ap, h.new⟩
/-- Of a log's blocks only may have been turned since. -/
theorem LogIn.fr {w0 w w' : World} {lg db lb mb : Nat} {L : Lg} {D : Dev} (h : LogIn w0.heap.size w lg db lb mb L D) (h0 : Fr F0 w0 w) (hf : Fr (Lv lg db lb mb) w w') : Fr F0 w0 w' := h0.trans hf (fun k hk => .inr (h.new k hk))
/-- Appended, whether there is room or not. -/
theorem Laid.app_any {L : Lg} {D : Dev} {n : Nat} {R : List (List Int)} {c : Int → List Int} (h : Laid L D n R c) {b : List Int} (hb : Bys b) (hn : b.length ≤ 44000) :
    ∃ R', Laid (L.app D b) (L.appD D b) n R' c ∧ (L.app D b).epoch = L.epoch ∧ (L.app D b).r.from_ = L.r.from_ ∧ (L.app D b).r.size = L.r.size ∧ (L.app D b).r.head = L.r.head := by
  rcases h.app hb hn with ⟨_, _, _, _, e1, e2, _⟩ | ⟨_, _, _, e1, _, hl⟩
  · rw [e1, e2]; exact ⟨R, h, rfl, rfl, rfl, rfl⟩
  · rw [e1]; exact ⟨_, hl, rfl, rfl, rfl, rfl⟩
/-- Append, of a log that holds its records. -/
theorem LogIn.append {b : Nat} {w : World} {lg db lb mb : Nat} {L : Lg} {D : Dev} {n : Nat} {R : List (List Int)} {c : Int → List Int} (h : LogIn b w lg db lb mb L D) (hl : Laid L D n R c) (A : Option Addr) (cp : Nat) (ys : List Int) (hA : Byt w A cp ys) (hy : Bys ys) (hn : ys.length ≤ 44000) :
    Calls Tryd.prog 45 #[.pointer (some ⟨lg, 0, none⟩), .slice A ys.length cp] w fun e w' => e = .returned (.tuple #[.int .i64 (L.appP D ys), .int .i64 (L.appE D ys)]) ∧ LogIn b w' lg db lb mb (L.app D ys) (L.appD D ys) ∧ Fr (Lv lg db lb mb) w w' := by
  refine (append7_c h.log h.dev h.ap hl.sane hl.e0 hl.e1 A ys.length cp ys hA rfl hy hn).mono ?_
  rintro e w' ⟨rfl, h1, h2, hf⟩
  exact ⟨rfl, h.step h1 h2, hf⟩
/-- What lies outside is not dropped. -/
theorem Lg.drop_out {L : Lg} (hb : L.broken = false) {to : Int} (h : to < L.r.head ∨ L.r.tail < to) : L.dropE to = 1 ∧ L.drop to = L := by
  have hnb : ¬ L.broken = true := by rw [hb]; decide
  have hE : L.r.dropE to = 1 := by
    unfold Rg.dropE
    rw [if_neg]
    simp [risingB]
    omega
  exact ⟨by unfold Lg.dropE; rw [if_neg hnb, hE], by unfold Lg.drop; rw [if_neg hnb, if_neg (by rw [hE]; decide)]⟩
section
variable {w : World}
set_option maxRecDepth 100000 in
set_option maxHeartbeats 4000000 in
/-- A new device, and a log on it. -/
theorem refuses_walk (A0 : Option Addr) (n0 c0 : Nat) (xs : List Int) (kn to : Int) (hl0 : xs.length = n0) (hV0 : ValsAt w A0 (xs.map (Value.int .i64))) (hn0 : n0 ≤ 9223372036854775807) :
    Calls Tryd.prog 13 #[.slice A0 n0 c0, .int .i64 kn, .int .i64 to] w fun e w' => e = .returned (.bool true) ∧ Fr F0 w w' := by
  have HL0 := Lib.hid hl0
  have HV0 := Lib.hid hV0
  clear hl0 hV0
  have a0 : (0 : Int) ≤ (n0 : Int) := Int.natCast_nonneg _
  by_cases hbig : 20 < n0
  · have hb0 : (20 : Int) < (n0 : Int) := by omega
    go_enter Tryd.func13, Tryd.ntmps13
    go_wp2_with fail
    refine (awake7_c).mono ?_
    rintro e w1 ⟨rfl, hf1⟩
    go_wp2_with fail
    go_ret
    exact ⟨rfl, hf1⟩
  have hb0 : ¬ (20 : Int) < (n0 : Int) := by omega
  obtain ⟨p1, p2, p3⟩ := Laid.new (n := 20) (from_ := 0) (size := 8) (head := 0) (epoch := 1) ⟨by decide, by decide, by decide, by decide, by decide, by decide, by decide, by decide⟩ (by decide) (by decide) (by decide)
  have P1 := Lib.hid p1
  have P3 := Lib.hid p3
  have PN : Hid (logMay (Dev.new 20) 0 8 0 1 = 0) := Lib.hid (logMay_new (n := 20) (by decide) (by decide) (by decide) (by decide) (by decide) (by decide) (by decide) rfl (by simp [Dev.new]))
  clear p1 p2 p3
  go_enter Tryd.func13, Tryd.ntmps13
  go_wp2_with fail
  refine (awake7_c).mono ?_
  rintro e w1 ⟨rfl, hf1⟩
  go_wp2_with fail
  refine (new_c 20 (by decide) (by decide) _).mono ?_
  rintro e w2 ⟨db, lb, mb, rfl, h1, n1, n2, n3, hf2⟩
  go_wp2_with fail
  refine (wopen_c h1 (SecBys.new 20) 0 8 0 1).mono ?_
  rintro e w3 ⟨-, hgood, hf3⟩
  obtain ⟨lg, v3, rfl, hlg, hlog, -⟩ := hgood PN.out
  rw [P1.out] at hlog
  have HIN : Hid (LogIn w.heap.size w3 lg db lb mb ⟨⟨0, 8, 0, 0⟩, 1, 0, false⟩ (Dev.new 20)) := Lib.hid (by
    have z1 := hf1.size
    have z2 := hf2.size
    refine ⟨hlog, h1.keep0 hf3, ?_, ?_⟩
    · have := h1.lt
      rintro (h | h | h) <;> omega
    · rintro k (h | h | h | h) <;> omega)
  have HF3 := Lib.hid ((hf1.then0 hf2).then0 hf3)
  clear hgood hlog h1 n1 n2 n3 hlg hf1 hf2 hf3
  go_wp2_with fail
  go_loopg [13] n0 (fun kq x13 wr => ∃ j : Nat, j ≤ n0 ∧ kq = n0 - j ∧ x13 = .int .i64 (j : Int) ∧ ∃ L D R, LogIn w.heap.size wr lg db lb mb L D ∧ Laid L D 20 R (fun _ => zsec) ∧ (L.epoch = 1 ∧ L.r.from_ = 0 ∧ L.r.size = 8 ∧ L.r.head = 0) ∧ Fr F0 w wr)
  case atStart => exact ⟨0, by omega, rfl, rfl, _, _, [], HIN.out, P3.out, ⟨rfl, rfl, rfl, rfl⟩, HF3.out⟩
  case round =>
    obtain ⟨j, hj, rfl, rfl, L, D, R, hin, hlaid, hnum, hfr⟩ := hrel
    have HI := Lib.hid hin
    have HLA := Lib.hid hlaid
    have HNU := Lib.hid hnum
    have HF := Lib.hid hfr
    clear hin hlaid hnum hfr
    by_cases hlt : j < n0
    · have j0 : (0 : Int) ≤ (j : Int) := Int.natCast_nonneg _
      have j1 : (j : Int) < (n0 : Int) := by omega
      obtain ⟨x, hx⟩ : ∃ x, xs[j]? = some x := ⟨xs[j]'(by rw [HL0.out]; exact hlt), List.getElem?_eq_getElem _⟩
      obtain ⟨ad, rfl, hc⟩ := (HV0.out.keep0 HF.out).cells (by rw [List.length_map, HL0.out]; omega)
      have gx : wr.cell? (ad.add j) = some (.int .i64 x) := hc j _ (by simp [hx])
      obtain ⟨m, hm⟩ : ∃ m : Nat, x % 128 = (m : Int) := ⟨(x % 128).toNat, by omega⟩
      have hm1 : m < 128 := by omega
      have hband : bits .and .i64 x 127 = (m : Int) := by rw [← hm]; exact i64_and x 7 (by decide)
      have hjb : IntKind.u8.wrap (j : Int) = (j : Int) := by rw [IntKind.wrap_u8]; omega
      clear hc hx hm
      go_wp2_with fail
      refine (some_c m (by omega) (j : Int) (by omega) (by omega)).mono ?_
      rintro e w4 ⟨v4, rfl, hov⟩
      obtain ⟨A4, c4, rfl, hby, -⟩ := hov.byt
      have HI4 := Lib.hid (HI.out.keep0 hov.fr)
      have HF4 := Lib.hid (HF.out.then0 hov.fr)
      have HBY := Lib.hid hby
      obtain ⟨ys, hys⟩ : ∃ ys, ys = someL m (j : Int) := ⟨_, rfl⟩
      rw [← hys] at HBY ⊢
      have HYB : Hid (Bys ys) := Lib.hid (by rw [hys]; exact someL_bys _ _)
      have HYL : Hid (ys.length ≤ 44000) := Lib.hid (by rw [hys, someL_len]; omega)
      clear hov hby hys
      go_wp2_with fail
      refine (HI4.out.append HLA.out A4 c4 ys HBY.out HYB.out HYL.out).mono ?_
      rintro e w5 ⟨rfl, hin5, hf5⟩
      have HI5 := Lib.hid hin5
      have HF5 := Lib.hid (HI4.out.fr HF4.out hf5)
      clear hin5 hf5
      go_wp2_with fail
      go_roundg (n0 - (j + 1))
      case measure => omega
      case rel =>
        obtain ⟨R', g1, g2, g3, g4, g5⟩ := HLA.out.app_any HYB.out HYL.out
        obtain ⟨e1, e2, e3, e4⟩ := HNU.out
        exact ⟨j + 1, by omega, rfl, by first | rfl | (go_num), _, _, R', HI5.out, g1, ⟨g2.trans e1, g3.trans e2, g4.trans e3, g5.trans e4⟩, HF5.out⟩
    · have hjn : j = n0 := by omega
      subst hjn
      obtain ⟨e1, e2, e3, e4⟩ := HNU.out
      have hs := HLA.out.sane
      obtain ⟨s1, s2, s3, s4, s5, s6, s7, s8⟩ := hs
      rw [e4] at s6 s8
      rw [e3] at s8
      obtain ⟨tl, htl⟩ : ∃ tl, tl = L.r.tail := ⟨_, rfl⟩
      rw [← htl] at s6 s7 s8
      have HTL := Lib.hid htl
      obtain ⟨k, hk⟩ : ∃ k : Nat, kn % 512 = (k : Int) := ⟨(kn % 512).toNat, by omega⟩
      have hk1 : k < 512 := by omega
      have k0 : (0 : Int) ≤ (k : Int) := Int.natCast_nonneg _
      have hband : bits .and .i64 kn 511 = (k : Int) := by rw [← hk]; exact i64_and kn 9 (by decide)
      obtain ⟨t2, ht2⟩ : ∃ t2 : Int, to % 256 = t2 := ⟨_, rfl⟩
      have ht20 : 0 ≤ t2 := by omega
      have ht21 : t2 < 256 := by omega
      have hband2 : bits .and .i64 to 255 = t2 := by rw [← ht2]; exact i64_and to 8 (by decide)
      clear htl hk ht2 e1 e2 e3 e4 s1 s2 s3 s4 s5
      go_wp2_with fail
      refine (tail7_c HI.out.log).mono ?_
      rintro e w4 ⟨rfl, rfl⟩
      rw [← HTL.out]
      go_wp2_with fail
      refine (free7_c HI.out.log HLA.out.sane).mono ?_
      rintro e w4 ⟨rfl, hf4⟩
      rw [← HTL.out, HNU.out.2.2.1, HNU.out.2.2.2]
      have HI4 := Lib.hid (HI.out.keep0 hf4)
      have HF4 := Lib.hid (HF.out.then0 hf4)
      clear hf4
      go_wp2_with fail
      refine (some_c k (by omega) 1 (by decide) (by decide)).mono ?_
      rintro e w5 ⟨v5, rfl, hov⟩
      obtain ⟨A5, c5, rfl, hby, -⟩ := hov.byt
      have HI5 := Lib.hid (HI4.out.keep0 hov.fr)
      have HF5 := Lib.hid (HF4.out.then0 hov.fr)
      have HBY := Lib.hid hby
      have hyl := someL_len k 1
      have hyb := someL_bys k 1
      obtain ⟨ys, hys⟩ : ∃ ys, ys = someL k 1 := ⟨_, rfl⟩
      rw [← hys] at HBY hyl hyb ⊢
      have HYL := Lib.hid hyl
      have HYB := Lib.hid hyb
      clear hov hby hys hyl hyb
      go_wp2_with fail
      refine (HI5.out.append HLA.out A5 c5 ys HBY.out HYB.out (by rw [HYL.out]; omega)).mono ?_
      rintro e w6 ⟨rfl, hin6, hf6⟩
      have HF6 := Lib.hid (HI5.out.fr HF5.out hf6)
      have HI6 := Lib.hid hin6
      clear hin6 hf6
      obtain ⟨nd, hnd⟩ : ∃ nd, nd = need k := ⟨_, rfl⟩
      have HND := Lib.hid hnd
      have hnp : 1 ≤ nd := by rw [hnd]; exact need_pos k
      have hnt : 44 * (nd - 1) ≤ k := by rw [hnd]; exact need_tight k
      have hnt2 : 1 < nd → 44 * (nd - 1) < k := fun h => by
        rw [hnd] at h ⊢
        refine need_tight' ?_
        have h44 : ¬ k ≤ 44 := fun h2 => by rw [show need k = 1 by unfold need; rw [if_pos h2]] at h; omega
        omega
      have hnc : k ≤ 44 * nd := by rw [hnd]; exact need_cover k
      clear hnd
      rcases HLA.out.app HYB.out (by rw [HYL.out]; omega) with hfull | hroom
      · obtain ⟨u0, u1, u2, u3, u4, u5, u6⟩ := hfull
        rw [u2, u3]
        rw [u4, u5] at HI6
        have hneed : 8 - tl < (nd : Int) := by
          have h1 := HNU.out
          rw [HND.out, ← HYL.out]
          rw [HTL.out]
          rcases u6 with u6 | u6
          · rw [h1.2.2.1, h1.2.2.2] at u6; omega
          · have := need_tight ys.length; have := HYL.out; omega
        clear u0 u1 u2 u3 u4 u5 u6
        obtain ⟨L9, hL9⟩ : ∃ L9 : Lg, L9 = L := ⟨_, rfl⟩
        rw [← hL9] at HI6 HLA
        have ht9 : L9.r.tail = tl := by rw [hL9, HTL.out]
        have hh9 : L9.r.head = 0 := by rw [hL9]; exact HNU.out.2.2.2
        have hz9 : L9.r.size = 8 := by rw [hL9]; exact HNU.out.2.2.1
        have HT9 := Lib.hid ht9
        have HH9 := Lib.hid hh9
        have HZ9 := Lib.hid hz9
        clear hL9 ht9 hh9 hz9
        go_wp2_with fail
        go_loopg [19] (nd - 1) (fun kq x19 wr => ∃ q : Nat, 1 ≤ q ∧ q ≤ nd ∧ kq = nd - q ∧ x19 = .int .i64 (q : Int) ∧ wr = w6)
        case atStart => exact ⟨1, by omega, hnp, by omega, rfl, rfl⟩
        case round =>
          obtain ⟨q, hq1, hq2, rfl, rfl, rfl⟩ := hrel
          by_cases hqn : q < nd
          · have hlt : 44 * (q : Int) < (k : Int) := by
              have := hnt2 (by omega)
              have h2 : 44 * q ≤ 44 * (nd - 1) := Nat.mul_le_mul_left _ (by omega)
              omega
            have q0 : (1 : Int) ≤ (q : Int) := by omega
            go_wp2_with fail
            go_roundg (nd - (q + 1))
            case measure => omega
            case rel => exact ⟨q + 1, by omega, by omega, rfl, by first | rfl | (go_num), rfl⟩
          · have hqe : q = nd := by omega
            subst hqe
            have hlt : ¬ 44 * (q : Int) < (k : Int) := by omega
            have q0 : (1 : Int) ≤ (q : Int) := by omega
            have q1 : (q : Int) ≤ 512 := by omega
            go_wp2_with fail
            refine (tail7_c HI6.out.log).mono ?_
            rintro e w7 ⟨rfl, rfl⟩
            rw [HT9.out]
            go_wp2_with fail
            obtain ⟨x1, x2⟩ := Lg.drop_out (L := L9) HLA.out.brk (to := tl + 1 + t2) (.inr (by rw [HT9.out]; omega))
            refine (wdrop_c HI6.out.log HLA.out.sane (tl + 1 + t2)).mono ?_
            rintro e w8 ⟨rfl, hl8, hf8⟩
            rw [x2] at hl8
            rw [x1]
            have HI8 := Lib.hid (HI6.out.step hl8 (HI6.out.dev.keep hf8 (fun h => HI6.out.ap (.inl h.symm)) (fun h => HI6.out.ap (.inr (.inl h.symm))) (fun h => HI6.out.ap (.inr (.inr h.symm)))))
            have HF8 := Lib.hid (HI6.out.fr HF6.out (hf8.mono (fun _ h => .inl h)))
            clear x1 x2 hl8 hf8
            go_wp2_with fail
            refine (head7_c HI8.out.log).mono ?_
            rintro e w9 ⟨rfl, rfl⟩
            rw [HH9.out]
            go_wp2_with fail
            obtain ⟨x1, x2⟩ := Lg.drop_out (L := L9) HLA.out.brk (to := -1 - t2) (.inl (by rw [HH9.out]; omega))
            refine (wdrop_c HI8.out.log HLA.out.sane (-1 - t2)).mono ?_
            rintro e w10 ⟨rfl, hl10, hf10⟩
            rw [x2] at hl10
            rw [x1]
            have HI10 := Lib.hid (HI8.out.step hl10 (HI8.out.dev.keep hf10 (fun h => HI8.out.ap (.inl h.symm)) (fun h => HI8.out.ap (.inr (.inl h.symm))) (fun h => HI8.out.ap (.inr (.inr h.symm)))))
            have HF10 := Lib.hid (HI8.out.fr HF8.out (hf10.mono (fun _ h => .inl h)))
            clear x1 x2 hl10 hf10
            go_wp2_with fail
            refine (tail7_c HI10.out.log).mono ?_
            rintro e w11 ⟨rfl, rfl⟩
            rw [HT9.out]
            go_wp2_with fail
            refine (free7_c HI10.out.log HLA.out.sane).mono ?_
            rintro e w12 ⟨rfl, hf12⟩
            rw [HT9.out, HZ9.out, HH9.out]
            have HF12 := Lib.hid (HF10.out.then0 hf12)
            clear hf12
            go_wp2_with fail
            go_ret
            exact ⟨rfl, HF12.out⟩
      · obtain ⟨u2, u3, u4, u5, u6, hla7⟩ := hroom
        rw [u2, u3]
        rw [u5] at HI6
        have HLA := Lib.hid hla7
        have hneed : (nd : Int) ≤ 8 - tl := by
          have h1 := HNU.out
          rw [HND.out, ← HYL.out, HTL.out]
          rw [h1.2.2.1, h1.2.2.2] at u4; omega
        rw [← HTL.out]
        clear u2 u3 u4 u5 u6 hla7
        obtain ⟨L9, hL9⟩ : ∃ L9 : Lg, L9 = { L with r := L.r.taken (need ys.length) } := ⟨_, rfl⟩
        rw [← hL9] at HI6 HLA
        have ht9 : L9.r.tail = (tl + (nd : Int)) := by rw [hL9, HTL.out]; show L.r.tail + ((need ys.length : Nat) : Int) = _; rw [HYL.out, ← HND.out]
        have hh9 : L9.r.head = 0 := by rw [hL9]; exact HNU.out.2.2.2
        have hz9 : L9.r.size = 8 := by rw [hL9]; exact HNU.out.2.2.1
        have HT9 := Lib.hid ht9
        have HH9 := Lib.hid hh9
        have HZ9 := Lib.hid hz9
        clear hL9 ht9 hh9 hz9
        go_wp2_with fail
        go_loopg [19] (nd - 1) (fun kq x19 wr => ∃ q : Nat, 1 ≤ q ∧ q ≤ nd ∧ kq = nd - q ∧ x19 = .int .i64 (q : Int) ∧ wr = w6)
        case atStart => exact ⟨1, by omega, hnp, by omega, rfl, rfl⟩
        case round =>
          obtain ⟨q, hq1, hq2, rfl, rfl, rfl⟩ := hrel
          by_cases hqn : q < nd
          · have hlt : 44 * (q : Int) < (k : Int) := by
              have := hnt2 (by omega)
              have h2 : 44 * q ≤ 44 * (nd - 1) := Nat.mul_le_mul_left _ (by omega)
              omega
            have q0 : (1 : Int) ≤ (q : Int) := by omega
            go_wp2_with fail
            go_roundg (nd - (q + 1))
            case measure => omega
            case rel => exact ⟨q + 1, by omega, by omega, rfl, by first | rfl | (go_num), rfl⟩
          · have hqe : q = nd := by omega
            subst hqe
            have hlt : ¬ 44 * (q : Int) < (k : Int) := by omega
            have q0 : (1 : Int) ≤ (q : Int) := by omega
            have q1 : (q : Int) ≤ 512 := by omega
            go_wp2_with fail
            refine (tail7_c HI6.out.log).mono ?_
            rintro e w7 ⟨rfl, rfl⟩
            rw [HT9.out]
            go_wp2_with fail
            obtain ⟨x1, x2⟩ := Lg.drop_out (L := L9) HLA.out.brk (to := (tl + (q : Int)) + 1 + t2) (.inr (by rw [HT9.out]; omega))
            refine (wdrop_c HI6.out.log HLA.out.sane ((tl + (q : Int)) + 1 + t2)).mono ?_
            rintro e w8 ⟨rfl, hl8, hf8⟩
            rw [x2] at hl8
            rw [x1]
            have HI8 := Lib.hid (HI6.out.step hl8 (HI6.out.dev.keep hf8 (fun h => HI6.out.ap (.inl h.symm)) (fun h => HI6.out.ap (.inr (.inl h.symm))) (fun h => HI6.out.ap (.inr (.inr h.symm)))))
            have HF8 := Lib.hid (HI6.out.fr HF6.out (hf8.mono (fun _ h => .inl h)))
            clear x1 x2 hl8 hf8
            go_wp2_with fail
            refine (head7_c HI8.out.log).mono ?_
            rintro e w9 ⟨rfl, rfl⟩
            rw [HH9.out]
            go_wp2_with fail
            obtain ⟨x1, x2⟩ := Lg.drop_out (L := L9) HLA.out.brk (to := -1 - t2) (.inl (by rw [HH9.out]; omega))
            refine (wdrop_c HI8.out.log HLA.out.sane (-1 - t2)).mono ?_
            rintro e w10 ⟨rfl, hl10, hf10⟩
            rw [x2] at hl10
            rw [x1]
            have HI10 := Lib.hid (HI8.out.step hl10 (HI8.out.dev.keep hf10 (fun h => HI8.out.ap (.inl h.symm)) (fun h => HI8.out.ap (.inr (.inl h.symm))) (fun h => HI8.out.ap (.inr (.inr h.symm)))))
            have HF10 := Lib.hid (HI8.out.fr HF8.out (hf10.mono (fun _ h => .inl h)))
            clear x1 x2 hl10 hf10
            go_wp2_with fail
            refine (tail7_c HI10.out.log).mono ?_
            rintro e w11 ⟨rfl, rfl⟩
            rw [HT9.out]
            go_wp2_with fail
            go_ret
            exact ⟨rfl, HF10.out⟩
end
end Go.Proofs.YtdeckbdaencjnaaDoor
