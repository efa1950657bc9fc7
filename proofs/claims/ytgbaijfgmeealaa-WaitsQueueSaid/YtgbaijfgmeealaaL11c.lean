/-
  Layer 11: WaitsQueue, the walk. Conditions: none.
-/
import Derived.Test.YtgbaijfgmeealaaL11a
set_option linter.unusedVariables false
set_option linter.unusedSimpArgs false
namespace Go.Proofs.Ytgbaijfgmeealaa
open Go.RowKit
theorem lineQ_len (j : Nat) : (lineQ j).length = j + 1 := by simp [lineQ]
theorem lineR_len (j : Nat) : (lineR j).length = j := by simp [lineR]
theorem lineQ_succ (j : Nat) : lineQ j ++ [⟨(j : Int) + 2, 5, 1⟩] = lineQ (j + 1) := by simp [lineQ, List.range_succ]
section
variable {w : World}
set_option maxRecDepth 100000 in
set_option maxHeartbeats 8000000 in
theorem queue_walk (nn : Int) : Calls Try.prog 9 #[.int .i64 nn] w fun e w' => e = .returned (.bool true) ∧ Fr F0 w w' := by
  obtain ⟨r, hr⟩ : ∃ r : Nat, nn % 8 = (r : Int) := ⟨(nn % 8).toNat, by omega⟩
  have hr8 : r < 8 := by omega
  have hbandr : bits .and .i64 nn 7 = (r : Int) := by rw [← hr]; exact i64_and nn 3 (by decide)
  obtain ⟨k, hk⟩ : ∃ k : Nat, k = 3 + r := ⟨_, rfl⟩
  have hk3 : 3 ≤ k := by omega
  have hk11 : k < 11 := by omega
  have hr1 : IntKind.i64.wrap (3 + (r : Int)) = (k : Int) := by rw [IntKind.wrap_i64]; omega
  have kn : (0 : Int) ≤ (k : Int) := Int.natCast_nonneg _
  clear hr hk
  go_enter Try.func9, Try.ntmps9
  go_wp2_with fail
  refine (awake11_c).mono ?_
  rintro e w1 ⟨rfl, hf1⟩
  have HF1 := Lib.hid hf1
  clear hf1
  go_wp2_with fail
  obtain ⟨tb, htb⟩ : ∃ tb, tb = w1.heap.size := ⟨_, rfl⟩
  have htw : w.heap.size ≤ tb := by rw [htb]; exact HF1.out.size
  obtain ⟨W, hW⟩ : ∃ W, W = w1.alloc (.cells #[.slice none 0 0, .int .i64 0] 25) := ⟨_, rfl⟩
  have HBX : Hid (W.heap[tb]? = some (.cells #[.slice none 0 0, .int .i64 0] 25 (0, 0))) := Lib.hid (by rw [hW]; exact alloc_at htb _)
  have HFW : Hid (Fr F0 w W) := Lib.hid (by rw [hW]; exact HF1.out.alloc _)
  rw [← hW, ← htb]
  clear htb hW
  go_loopg [6, 7, 8, 9] k (fun kq x6 x7 x8 x9 wr => ∃ (j : Nat) (vj : Value), j ≤ k ∧ kq = k - j ∧ x6 = .int .i64 (j : Int) ∧ wr.heap[tb]? = some (.cells #[vj, .int .i64 (j : Int)] 25 (0, 0)) ∧ SlV 4 Tx9.cells wr vj (roots j) ∧ Fr F0 w wr)
  case atStart => exact ⟨0, .slice none 0 0, by omega, rfl, rfl, HBX.out, SlV.nil _ _ _, HFW.out⟩
  case round =>
    clear HBX HFW HF1
    obtain ⟨j, vj, hj, rfl, rfl, hbx, hsx, hf⟩ := hrel
    obtain ⟨Aj, cj, rfl⟩ := hsx.exn (n := j) (roots_len j)
    have HBX := Lib.hid hbx
    have HSX := Lib.hid hsx
    have HF := Lib.hid hf
    have j0 : (0 : Int) ≤ (j : Int) := Int.natCast_nonneg _
    by_cases hlt : j < k
    · have j1 : (j : Int) < (k : Int) := by omega
      have kt : wr.cell? ⟨tb, 0, none⟩ = some (.slice Aj j cj) := by rw [cell_of hbx]; rfl
      have kt1 : wr.cell? ⟨tb, 1, none⟩ = some (.int .i64 (j : Int)) := by rw [cell_of hbx]; rfl
      clear hbx hsx hf
      go_wp2_with fail
      clear kt kt1
      refine (begin_c (L := roots j) j (-1) HSX.out (by rw [roots_len]; omega) (falls_rootsQ j) (.inl rfl) (by omega) (by omega)).mono ?_
      intro e w2 hbr
      cases hbr with
      | no h he hf => exact absurd (line_begin j (by omega)) h
      | yes h v2 he hs2 hf2 =>
      rw [roots_len] at he
      subst he
      rw [roots_succ] at hs2
      obtain ⟨A2, c2, rfl⟩ := hs2.exn (n := j + 1) (roots_len _)
      obtain ⟨W2, hW2⟩ : ∃ W2, W2 = w2.alloc (.cells #[.slice A2 (j + 1) c2, .int .i64 ((j : Int) + 1)] 25) := ⟨_, rfl⟩
      have hfW : Fr F0 w2 W2 := by rw [hW2]; exact (Fr.refl _ _).alloc _
      have HBX2 := Lib.hid (hfW.keep0 (hf2.keep0 HBX.out))
      obtain ⟨hb3, hf3⟩ := tree_box (v' := .slice A2 (j + 1) c2) (clk' := (j : Int) + 1) rfl HBX2.out
      obtain ⟨W3, hW3⟩ : ∃ W3, W3 = W2.setRow tb (splat [.slice Aj j cj, .int .i64 (j : Int)] 0 [.slice A2 (j + 1) c2, .int .i64 ((j : Int) + 1)]).toArray := ⟨_, rfl⟩
      rw [← hW3] at hb3 hf3
      have HBX3 := Lib.hid hb3
      have HSX3 := Lib.hid ((hs2.keep0 hfW).box Tx9.len HBX2.out (by show 2 < 4; decide) hf3)
      have HF3 := Lib.hid (((HF.out.then0 hf2).then0 hfW).trans hf3 (fun x hx => .inr (by omega)))
      have HW2 := Lib.hid hW2
      have HW3 := Lib.hid hW3
      clear hs2 hf2 hfW h hW2 hW3 hb3 hf3
      go_wp2_with (refine wpList_store_at rfl 25 (.tmp 5) (.tmp 37) rfl tb 0 [.slice A2 (j + 1) c2, .int .i64 ((j : Int) + 1)] (by rfl) (by rfl) 25 [.slice Aj j cj, .int .i64 (j : Int)] (by rw [← HW2.out]; exact HBX2.out) size_tree (Nat.le_refl 2) (tree_one _ _ _ _) ?_; rw [← HW2.out, ← HW3.out])
      go_roundg (k - (j + 1))
      case measure => omega
      case rel => exact ⟨j + 1, .slice A2 (j + 1) c2, by omega, rfl, by first | rfl | (go_num), HBX3.out, HSX3.out, HF3.out⟩
    · have hjk : j = k := by omega
      subst hjk
      have kt : wr.cell? ⟨tb, 0, none⟩ = some (.slice Aj j cj) := by rw [cell_of hbx]; rfl
      have kt1 : wr.cell? ⟨tb, 1, none⟩ = some (.int .i64 (j : Int)) := by rw [cell_of hbx]; rfl
      clear hbx hsx hf
      have j1 : ¬ (j : Int) < (j : Int) := by omega
      go_wp2_with fail
      clear kt kt1
      obtain ⟨w5, hw5⟩ : ∃ w5, w5 = wr := ⟨wr, rfl⟩
      subst hw5
      obtain ⟨k, hkj⟩ : ∃ k, k = j := ⟨j, rfl⟩
      subst hkj
      have hla := line_ask k hk11 hk3
      refine (ask_c (X := roots k) (L := []) k 0 5 1 (SlV.nil 4 Lk.cells w5) (by decide) ⟨by simp, by simp⟩ HSX.out (by rw [roots_len]; omega) (by decide) (by decide) (.inl rfl)).mono ?_
      intro e w6 har
      cases har with
      | no h he hf => exact absurd hla.1 h
      | yes h vt he hs6 hf6 =>
      subst he
      rw [hla.2.1] at hs6
      obtain ⟨At, ct, rfl⟩ := hs6.exn (n := 1) rfl
      obtain ⟨W6, hW6⟩ : ∃ W6, W6 = w6.alloc (.cells #[.slice At 1 ct] 31) := ⟨_, rfl⟩
      have hfW : Fr F0 w6 W6 := by rw [hW6]; exact (Fr.refl _ _).alloc _
      obtain ⟨ta, hta⟩ : ∃ ta, ta = w6.heap.size := ⟨_, rfl⟩
      have HTA := Lib.hid hta
      have HBX6 := Lib.hid (hfW.keep0 (hf6.keep0 HBX.out))
      have HBT6 : Hid (W6.heap[ta]? = some (.cells #[.slice At 1 ct] 31 (0, 0))) := Lib.hid (by rw [hW6]; exact alloc_at hta _)
      have HSX6 := Lib.hid ((HSX.out.keep0 hf6).keep0 hfW)
      have HST6 := Lib.hid (hs6.keep0 hfW)
      have HF6 := Lib.hid ((HF.out.then0 hf6).then0 hfW)
      have HTT : Hid (tb < ta) := Lib.hid (by rw [hta]; exact lt_of_block (hf6.keep0 HBX.out))
      have HLS := Lib.hid hla.2.2
      have HW6 := Lib.hid hW6
      clear hla h hs6 hf6 hW6 hfW hta
      go_wp2_with fail
      rw [← HW6.out, ← HTA.out]
      clear HW6 HTA
      refine (add_c (Q := []) (SlV.nil 3 Wn.cells W6) ex11_sane.1 ⟨1, 5, 2⟩ ⟨by decide, by decide, by decide, by decide, .inr rfl⟩ rfl (by decide)).mono ?_
      rintro e w7 ⟨vq, rfl, hq7, hf7⟩
      have hq7' : SlV 3 Wn.cells w7 vq (lineQ 0) := hq7
      obtain ⟨Aq, cq, rfl⟩ := hq7'.exn (n := 1) rfl
      obtain ⟨W7, hW7⟩ : ∃ W7, W7 = w7.alloc (.cells #[.slice Aq 1 cq] 60) := ⟨_, rfl⟩
      have hfW : Fr F0 w7 W7 := by rw [hW7]; exact (Fr.refl _ _).alloc _
      obtain ⟨qb, hqb⟩ : ∃ qb, qb = w7.heap.size := ⟨_, rfl⟩
      have hab : ta < qb := by rw [hqb]; exact lt_of_block (hf7.keep0 HBT6.out)
      have htt := HTT.out
      have HT0 : Hid (Tri W7 tb ta qb (roots k) lineT (lineQ 0) (.slice Aj k cj) (.slice At 1 ct) (.slice Aq 1 cq) (k : Int)) := Lib.hid ⟨hfW.keep0 (hf7.keep0 HBX6.out), hfW.keep0 (hf7.keep0 HBT6.out), by rw [hW7]; exact alloc_at hqb _, (HSX6.out.keep0 hf7).keep0 hfW, (HST6.out.keep0 hf7).keep0 hfW, hq7'.keep0 hfW⟩
      have HFW := Lib.hid ((HF6.out.then0 hf7).then0 hfW)
      have HW7 := Lib.hid hW7
      have HQB := Lib.hid hqb
      clear hq7 hq7' hf7 hW7 hfW hqb
      go_wp2_with fail
      rw [← HW7.out, ← HQB.out]
      clear HW7 HQB HBX HSX HF HBX6 HBT6 HSX6 HST6 HF6
      go_loopg [14, 15, 16] (k - 2) (fun kq x14 x15 x16 wr => ∃ (j : Nat) (vq : Value), j + 2 ≤ k ∧ kq = k - (j + 2) ∧ x14 = .int .i64 ((j : Int) + 2) ∧ Tri wr tb ta qb (roots k) lineT (lineQ j) (.slice Aj k cj) (.slice At 1 ct) vq (k : Int) ∧ Fr F0 w wr)
      case atStart => exact ⟨0, _, by omega, by omega, rfl, HT0.out, HFW.out⟩
      case round =>
        clear HT0 HFW
        obtain ⟨j, vq, hj, rfl, rfl, htri, hf⟩ := hrel
        obtain ⟨Aq, cq, rfl⟩ := htri.sq.exn (n := j + 1) (lineQ_len j)
        have HTRI := Lib.hid htri
        have HF := Lib.hid hf
        clear htri hf
        have j0 : (0 : Int) ≤ (j : Int) := Int.natCast_nonneg _
        have kq : wr.cell? ⟨qb, 0, none⟩ = some (.slice Aq (j + 1) cq) := by rw [cell_of HTRI.out.bq]; rfl
        by_cases hlt : j + 2 < k
        · have j1 : (j : Int) + 2 < (k : Int) := by omega
          go_wp2_with fail
          clear kq
          refine (add_c (w := wr) HTRI.out.sq (saneQ_of (line_sane j (by omega)).1) ⟨(j : Int) + 2, 5, 1⟩ ⟨by show (0 : Int) ≤ (j : Int) + 2; omega, by show (j : Int) + 2 < 64; omega, by show (0 : Int) ≤ 5; decide, by show (5 : Int) < 256; decide, .inl rfl⟩ (line_has j (by omega)) (by rw [lineQ_len]; omega)).mono ?_
          rintro e w7 ⟨v7, rfl, hq7, hf7⟩
          rw [lineQ_succ] at hq7
          obtain ⟨A7, c7, rfl⟩ := hq7.exn (n := j + 1 + 1) (lineQ_len (j + 1))
          obtain ⟨W7, hW7⟩ : ∃ W7, W7 = w7.alloc (.cells #[.slice A7 (j + 1 + 1) c7] 60) := ⟨_, rfl⟩
          have hfW : Fr F0 w7 W7 := by rw [hW7]; exact (Fr.refl _ _).alloc _
          have htz := (HTRI.out.keep0 hf7).keep0 hfW
          have q2 : (w7.alloc (.cells #[.slice A7 (j + 1 + 1) c7] 60)).cell? ⟨qb, 0, none⟩ = some (.slice Aq (j + 1) cq) := by rw [← hW7, cell_of htz.bq]; rfl
          have q3 : (w7.alloc (.cells #[.slice A7 (j + 1 + 1) c7] 60)).frozen? ⟨qb, 0, none⟩ = false := by rw [← hW7]; exact free_of htz.bq 0
          obtain ⟨hq5, hf5⟩ := cell_box (.slice A7 (j + 1 + 1) c7) htz.bq
          obtain ⟨W5, hW5⟩ : ∃ W5, W5 = W7.setCell ⟨qb, 0, none⟩ (.slice A7 (j + 1 + 1) c7) := ⟨_, rfl⟩
          rw [← hW5] at hq5 hf5
          have HT5 : Hid (Tri W5 tb ta qb (roots k) lineT (lineQ (j + 1)) (.slice Aj k cj) (.slice At 1 ct) (.slice A7 (j + 1 + 1) c7) (k : Int)) := Lib.hid ⟨hf5.keep htz.bx (by omega), hf5.keep htz.bt (by omega), hq5, htz.sx.box Tx9.len htz.bq (by show 1 < 4; decide) hf5, htz.st.box Lk.len htz.bq (by show 1 < 4; decide) hf5, (hq7.keep0 hfW).box Wn.len htz.bq (by show 1 < 3; decide) hf5⟩
          have HF5 := Lib.hid (((HF.out.then0 hf7).then0 hfW).trans hf5 (fun x hx => .inr (by omega)))
          have HW7 := Lib.hid hW7
          have HW5 := Lib.hid hW5
          clear hq7 hf7 hfW htz hq5 hf5 hW5 hW7
          go_wp2_with fail
          rw [← HW7.out, ← HW5.out]
          go_roundg (k - (j + 1 + 2))
          case measure => omega
          case rel => exact ⟨j + 1, _, by omega, rfl, by first | rfl | (go_num), HT5.out, HF5.out⟩
        · have hjk : k = j + 2 := by omega
          subst hjk
          have j1 : ¬ (j : Int) + 2 < ((j + 2 : Nat) : Int) := by omega
          have j2 : ¬ (j : Int) + 2 < (j : Int) + 2 := by omega
          go_wp2_with fail
          clear kq
          obtain ⟨W6, hW6⟩ : ∃ W6, W6 = wr.alloc (.cells #[.int .i64 1] 3) := ⟨_, rfl⟩
          have hf6 : Fr F0 wr W6 := by rw [hW6]; exact (Fr.refl _ _).alloc _
          have hb6 : W6.heap[wr.heap.size]? = some (.cells #[.int .i64 1] 3 (0, 0)) := by rw [hW6]; exact alloc_at rfl _
          rw [← hW6]
          refine (drop_c (ls := [1]) (n := 1) rfl (ValsAt.one hb6) (by decide) (HTRI.out.sq.keep0 hf6) (by rw [lineQ_len]; omega)).mono ?_
          rintro e w7 ⟨v7, rfl, hs7, hf7⟩
          rw [line_drop j (by omega)] at hs7
          obtain ⟨A7, c7, rfl⟩ := hs7.exn (n := j) (lineR_len j)
          obtain ⟨W8, hW8⟩ : ∃ W8, W8 = w7.alloc (.cells #[.slice A7 j c7] 60) := ⟨_, rfl⟩
          have hfW : Fr F0 w7 W8 := by rw [hW8]; exact (Fr.refl _ _).alloc _
          obtain ⟨rb, hrb⟩ : ∃ rb, rb = w7.heap.size := ⟨_, rfl⟩
          have HT8 := Lib.hid (((HTRI.out.keep0 hf6).keep0 hf7).keep0 hfW)
          have HF8 := Lib.hid (((HF.out.then0 hf6).then0 hf7).then0 hfW)
          have HS8 := Lib.hid (hs7.keep0 hfW)
          have ka : (w7.alloc (.cells #[.slice A7 j c7] 60)).cell? ⟨ta, 0, none⟩ = some (.slice At 1 ct) := by rw [← hW8, cell_of HT8.out.bt]; rfl
          have kt : (w7.alloc (.cells #[.slice A7 j c7] 60)).cell? ⟨tb, 0, none⟩ = some (.slice Aj (j + 2) cj) := by rw [← hW8, cell_of HT8.out.bx]; rfl
          have kt1 : (w7.alloc (.cells #[.slice A7 j c7] 60)).cell? ⟨tb, 1, none⟩ = some (.int .i64 ((j + 2 : Nat) : Int)) := by rw [← hW8, cell_of HT8.out.bx]; rfl
          have HW8 := Lib.hid hW8
          have HLRS := Lib.hid (saneQ_of (line_sane j (by omega)).2)
          have HLQS := Lib.hid (saneQ_of (line_sane j (by omega)).1)
          have HRD := Lib.hid (line_ready j (by omega))
          clear hW6 hf6 hb6 hs7 hf7 hW8 hfW hrb
          go_wp2_with fail
          rw [← HW8.out]
          clear ka kt kt1
          refine (ready_c _ HS8.out HLRS.out.ok (by rw [lineR_len]; omega) HT8.out.st HLS.out HT8.out.sx (by rw [roots_len]; omega)).mono ?_
          rintro e w9 ⟨v9, rfl, hs9, hf9⟩
          obtain ⟨A9, c9, rfl⟩ := hs9.exn (n := j) HRD.out.2
          have HT9 := Lib.hid (HT8.out.keep0 hf9)
          have HF9 := Lib.hid (HF8.out.then0 hf9)
          have kq : w9.cell? ⟨qb, 0, none⟩ = some (.slice Aq (j + 1) cq) := by rw [cell_of HT9.out.bq]; rfl
          have ka : w9.cell? ⟨ta, 0, none⟩ = some (.slice At 1 ct) := by rw [cell_of HT9.out.bt]; rfl
          have kt : w9.cell? ⟨tb, 0, none⟩ = some (.slice Aj (j + 2) cj) := by rw [cell_of HT9.out.bx]; rfl
          have kt1 : w9.cell? ⟨tb, 1, none⟩ = some (.int .i64 ((j + 2 : Nat) : Int)) := by rw [cell_of HT9.out.bx]; rfl
          clear hs9 hf9
          go_wp2_with fail
          clear kq ka kt kt1
          refine (ready_c _ HT9.out.sq HLQS.out.ok (by rw [lineQ_len]; omega) HT9.out.st HLS.out HT9.out.sx (by rw [roots_len]; omega)).mono ?_
          rintro e w10 ⟨v10, rfl, hs10, hf10⟩
          rw [HRD.out.1] at hs10
          obtain ⟨A10, c10, rfl⟩ := hs10.exn (n := 0) rfl
          have HT10 := Lib.hid (HT9.out.keep0 hf10)
          have HF10 := Lib.hid (HF9.out.then0 hf10)
          have kq : w10.cell? ⟨qb, 0, none⟩ = some (.slice Aq (j + 1) cq) := by rw [cell_of HT10.out.bq]; rfl
          have ka : w10.cell? ⟨ta, 0, none⟩ = some (.slice At 1 ct) := by rw [cell_of HT10.out.bt]; rfl
          have kt : w10.cell? ⟨tb, 0, none⟩ = some (.slice Aj (j + 2) cj) := by rw [cell_of HT10.out.bx]; rfl
          have kt1 : w10.cell? ⟨tb, 1, none⟩ = some (.int .i64 ((j + 2 : Nat) : Int)) := by rw [cell_of HT10.out.bx]; rfl
          have hw1 : IntKind.i64.wrap (((j + 2 : Nat) : Int) - 2) = (j : Int) := by rw [IntKind.wrap_i64]; omega
          have hw2 : IntKind.i64.wrap ((j : Int) + 2 - 2) = (j : Int) := by rw [IntKind.wrap_i64]; omega
          have geq : ((j : Int) == (j : Int)) = true := by simp
          clear hs10 hf10
          go_wp2_with fail
          clear kq ka kt kt1 hw1 hw2 geq
          have hfree := line_stuck j (by omega) (by omega)
          refine (stuck_c _ HT10.out.sq HLQS.out.ok (by rw [lineQ_len]; omega) HT10.out.st HLS.out HT10.out.sx (by rw [roots_len]; omega)).mono ?_
          rintro e w11 ⟨v11, rfl, hown11, hf11⟩
          rw [roots_len, hfree] at hown11
          obtain ⟨A11, c11, rfl, -⟩ := ValsAt.of_own hown11
          have HF11 := Lib.hid (HF10.out.then0 hf11)
          clear hown11 hf11
          go_wp2_with fail
          go_ret
          exact ⟨rfl, HF11.out⟩
end
end Go.Proofs.Ytgbaijfgmeealaa
