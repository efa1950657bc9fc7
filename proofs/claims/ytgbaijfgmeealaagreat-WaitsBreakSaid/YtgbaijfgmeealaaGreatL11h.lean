/-
  Layer 11: WaitsBreak, the walk. Conditions: none.
-/
import Derived.Test.YtgbaijfgmeealaaGreatL11g
set_option linter.unusedVariables false
set_option linter.unusedSimpArgs false
namespace Go.Proofs.YtgbaijfgmeealaaGreat
open Go.RowKit
section
variable {w : World}
set_option maxRecDepth 100000 in
set_option maxHeartbeats 8000000 in
theorem break_walk (A : Option Addr) (N cA : Nat) (l : List Act1) (hA : ActsAt w A N l) (hN : N ≤ 9223372036854775807) : Calls Tryz.prog 4 #[.slice A N cA] w fun e w' => e = .returned (.bool true) ∧ Fr F0 w w' := by
  have HACT := Lib.hid hA
  have N0 : (0 : Int) ≤ (N : Int) := Int.natCast_nonneg _
  clear hA
  go_enter Tryz.func4, Tryz.ntmps4
  go_wp2_with fail
  refine (awake11_c).mono ?_
  rintro e w1 ⟨rfl, hf1⟩
  have HF1 := Lib.hid hf1
  clear hf1
  by_cases hbig : 100 < N
  · have hb1 : (100 : Int) < (N : Int) := by omega
    go_wp2_with fail
    go_ret
    exact ⟨rfl, HF1.out⟩
  · have hb1 : ¬ (100 : Int) < (N : Int) := by omega
    go_wp2_with fail
    refine (grown_c (HACT.out.keep0 HF1.out) (by omega)).mono ?_
    intro e w2 hgr
    obtain ⟨wb, X0, L0, Q0, vx0, vt0, vq0, clk0, rfl, hw0, hg0, hc00, hc10, hwb0, hf2⟩ := hgr.ex
    obtain ⟨n, hn⟩ : ∃ n, n = X0.length := ⟨_, rfl⟩
    have hn64 : n ≤ 64 := by rw [hn]; exact hg0.grn.len
    have n0 : (0 : Int) ≤ (n : Int) := Int.natCast_nonneg _
    have HW0 := Lib.hid hw0
    have HG0 := Lib.hid hg0
    have HC00 := Lib.hid hc00
    have HC10 := Lib.hid hc10
    have HWB : Hid (w.heap.size ≤ wb) := Lib.hid (Nat.le_trans HF1.out.size hwb0)
    have HF2 := Lib.hid (HF1.out.then0 hf2)
    have HN := Lib.hid hn
    clear hgr hw0 hg0 hc00 hc10 hwb0 hf2 hn
    go_wp2_with fail
    go_loopg [5, 6] (liveN X0) (fun kq x5 x6 wr => ∃ (k : Nat) (X : List Tx9) (L : List Lk) (Q : List Wn) (vx vt vq : Value) (clk : Int), x5 = .int .i64 (k : Int) ∧ kq = liveN X ∧ WrAt wr wb X L Q vx vt vq clk ∧ GrnQ X L Q ∧ 0 ≤ clk ∧ clk ≤ 200 + (k : Int) ∧ X.length = n ∧ k + liveN X ≤ n ∧ Fr F0 w wr)
    case atStart => exact ⟨0, X0, L0, Q0, vx0, vt0, vq0, clk0, rfl, rfl, HW0.out, HG0.out, HC00.out, by have := HC10.out; omega, HN.out.symm, by have := liveN_le X0; have := HN.out; omega, HF2.out⟩
    case round =>
      clear HW0 HG0 HC00 HC10 HF2 HN
      obtain ⟨k, X, L, Q, vx, vt, vq, clk, rfl, hkq, hw, hg, hc0, hc1, hxn, hkn, hf⟩ := hrel
      obtain ⟨Ax, cx, rfl, -⟩ := hw.sx.ex
      obtain ⟨At, ct, rfl, -⟩ := hw.st.ex
      obtain ⟨Aq, cq, rfl, -⟩ := hw.sq.ex
      obtain ⟨nt, hnt⟩ : ∃ nt, nt = L.length := ⟨_, rfl⟩
      obtain ⟨nq, hnq⟩ : ∃ nq, nq = Q.length := ⟨_, rfl⟩
      obtain ⟨vi, hvi⟩ : ∃ vi, vi = victimI X L Q := ⟨_, rfl⟩
      rw [hxn, ← hnt, ← hnq] at hw
      have HW := Lib.hid hw
      have HGN := Lib.hid hg
      have HF := Lib.hid hf
      have HC0 := Lib.hid hc0
      have HC1 := Lib.hid hc1
      have HXN := Lib.hid hxn
      have HKQ := Lib.hid hkq
      have HKL := Lib.hid hkn
      have HNQ := Lib.hid hnq
      have HVI : Hid (victimI X L Q = vi) := Lib.hid hvi.symm
      have k0n : (0 : Int) ≤ (k : Int) := Int.natCast_nonneg _
      have hkle : k ≤ n := by omega
      have kle : (k : Int) ≤ (n : Int) := by omega
      have k0 := HW.out.c0
      clear hw hg hc0 hc1 hxn hkq hkn hf hnt hnq hvi
      go_wp2_with fail
      refine wp_region_free (S := F0) [false, false, false, false, false, false, true, false, false, false, false, false, false, false, false, false, false, false, false, false, false, false, true, true, true, true, true, true, true, true, true, true, true, true, true, false, false, false, false, false, false, false, false, false, false, false, false, false, false, false, false, false, false, false, false, false, false, false, false, false, false, false, false, false, false, false, false, false, false, false, false, false, false, false, false, false, false, false, false, false, false, false, false, false, false, false, false, false, false, false, false, false, false, false, false, false, false, false, false, false] [.eq (.pointer (some ⟨wb, 0, none⟩)), .eq (.pointer (some ⟨wb, 0, none⟩)), .eq (.pointer (some ⟨wb, 3, none⟩)), .eq (.agg #[.slice Aq nq cq]), .eq (.pointer (some ⟨wb, 0, none⟩)), .eq (.pointer (some ⟨wb, 0, none⟩)), .eq (.pointer (some ⟨wb, 2, none⟩)), .eq (.agg #[.slice At nt ct]), .eq (.pointer (some ⟨wb, 0, none⟩)), .eq (.pointer (some ⟨wb, 0, none⟩)), .eq (.pointer (some ⟨wb, 0, none⟩)), .eq (.agg #[.slice Ax n cx, .int .i64 clk]), .eq (.int .i64 vi), .eq (.int .i64 vi)] (by kernel_rfl) (by kernel_rfl) (by rfl) (fun us => ?steps) (fun us wz hG hall => ?fin)
      case steps =>
        simp only [fillL, Nat.reduceAdd]
        refine stepsHold.cons (fun wx hG hd K hK => ?_) ?_
        · rw [if_pos (wanted_none rfl)]
          refine wp_value (w2 := wx) (v := .pointer (some ⟨wb, 0, none⟩)) ?_ (hK _ _ rfl (Fr.refl _ _))
          clear hd hG hK
          go_simp
        refine stepsHold.cons (fun wx hG hd K hK => ?_) ?_
        · have h22 : us 22 = (.pointer (some ⟨wb, 0, none⟩)) := deps_get hd 0 rfl rfl rfl rfl rfl
          rw [if_pos (wanted_none rfl)]
          refine wp_value (w2 := wx) (v := .pointer (some ⟨wb, 0, none⟩)) ?_ (hK _ _ rfl (Fr.refl _ _))
          clear hd hG hK
          go_simp
        refine stepsHold.cons (fun wx hG hd K hK => ?_) ?_
        · have h23 : us 23 = (.pointer (some ⟨wb, 0, none⟩)) := deps_get hd 0 rfl rfl rfl rfl rfl
          rw [if_pos (wanted_none rfl)]
          refine wp_value (w2 := wx) (v := .pointer (some ⟨wb, 3, none⟩)) ?_ (hK _ _ rfl (Fr.refl _ _))
          clear hd hG hK
          go_simp
        refine stepsHold.cons (fun wx hG hd K hK => ?_) ?_
        · have h24 : us 24 = (.pointer (some ⟨wb, 3, none⟩)) := deps_get hd 0 rfl rfl rfl rfl rfl
          rw [if_pos (wanted_none rfl)]
          have hc := (HW.out.keep0 hG).c3
          refine wp_value (w2 := wx) (v := .agg #[.slice Aq nq cq]) ?_ (hK _ _ rfl (Fr.refl _ _))
          clear hd hK
          go_simp
        refine stepsHold.cons (fun wx hG hd K hK => ?_) ?_
        · rw [if_pos (wanted_none rfl)]
          refine wp_value (w2 := wx) (v := .pointer (some ⟨wb, 0, none⟩)) ?_ (hK _ _ rfl (Fr.refl _ _))
          clear hd hG hK
          go_simp
        refine stepsHold.cons (fun wx hG hd K hK => ?_) ?_
        · have h26 : us 26 = (.pointer (some ⟨wb, 0, none⟩)) := deps_get hd 0 rfl rfl rfl rfl rfl
          rw [if_pos (wanted_none rfl)]
          refine wp_value (w2 := wx) (v := .pointer (some ⟨wb, 0, none⟩)) ?_ (hK _ _ rfl (Fr.refl _ _))
          clear hd hG hK
          go_simp
        refine stepsHold.cons (fun wx hG hd K hK => ?_) ?_
        · have h27 : us 27 = (.pointer (some ⟨wb, 0, none⟩)) := deps_get hd 0 rfl rfl rfl rfl rfl
          rw [if_pos (wanted_none rfl)]
          refine wp_value (w2 := wx) (v := .pointer (some ⟨wb, 2, none⟩)) ?_ (hK _ _ rfl (Fr.refl _ _))
          clear hd hG hK
          go_simp
        refine stepsHold.cons (fun wx hG hd K hK => ?_) ?_
        · have h28 : us 28 = (.pointer (some ⟨wb, 2, none⟩)) := deps_get hd 0 rfl rfl rfl rfl rfl
          rw [if_pos (wanted_none rfl)]
          have hc := (HW.out.keep0 hG).c2
          refine wp_value (w2 := wx) (v := .agg #[.slice At nt ct]) ?_ (hK _ _ rfl (Fr.refl _ _))
          clear hd hK
          go_simp
        refine stepsHold.cons (fun wx hG hd K hK => ?_) ?_
        · rw [if_pos (wanted_none rfl)]
          refine wp_value (w2 := wx) (v := .pointer (some ⟨wb, 0, none⟩)) ?_ (hK _ _ rfl (Fr.refl _ _))
          clear hd hG hK
          go_simp
        refine stepsHold.cons (fun wx hG hd K hK => ?_) ?_
        · have h30 : us 30 = (.pointer (some ⟨wb, 0, none⟩)) := deps_get hd 0 rfl rfl rfl rfl rfl
          rw [if_pos (wanted_none rfl)]
          refine wp_value (w2 := wx) (v := .pointer (some ⟨wb, 0, none⟩)) ?_ (hK _ _ rfl (Fr.refl _ _))
          clear hd hG hK
          go_simp
        refine stepsHold.cons (fun wx hG hd K hK => ?_) ?_
        · have h31 : us 31 = (.pointer (some ⟨wb, 0, none⟩)) := deps_get hd 0 rfl rfl rfl rfl rfl
          rw [if_pos (wanted_none rfl)]
          refine wp_value (w2 := wx) (v := .pointer (some ⟨wb, 0, none⟩)) ?_ (hK _ _ rfl (Fr.refl _ _))
          clear hd hG hK
          go_simp
        refine stepsHold.cons (fun wx hG hd K hK => ?_) ?_
        · have h32 : us 32 = (.pointer (some ⟨wb, 0, none⟩)) := deps_get hd 0 rfl rfl rfl rfl rfl
          rw [if_pos (wanted_none rfl)]
          have hc := (HW.out.keep0 hG).c0
          have hc1 := (HW.out.keep0 hG).c1
          refine wp_value (w2 := wx) (v := .agg #[.slice Ax n cx, .int .i64 clk]) ?_ (hK _ _ rfl (Fr.refl _ _))
          clear hd hK
          go_simp
        refine stepsHold.cons (fun wx hG hd K hK => ?_) ?_
        · have h25 : us 25 = (.agg #[.slice Aq nq cq]) := deps_get hd 0 rfl rfl rfl rfl rfl
          have h29 : us 29 = (.agg #[.slice At nt ct]) := deps_get hd 1 rfl rfl rfl rfl rfl
          have h33 : us 33 = (.agg #[.slice Ax n cx, .int .i64 clk]) := deps_get hd 2 rfl rfl rfl rfl rfl
          rw [if_pos (wanted_none rfl)]
          refine wp_call (w2 := wx) (f := 11) (args := #[.agg #[.slice Aq nq cq], .agg #[.slice At nt ct], .agg #[.slice Ax n cx, .int .i64 clk]]) ?_ ?_
          · clear hd hK
            go_simp
          · refine (victim_c clk (HW.out.keep0 hG).sq HGN.out.sane.ok HGN.out.sane.len (HW.out.keep0 hG).st HGN.out.grn.sane (HW.out.keep0 hG).sx HGN.out.grn.len).mono ?_
            rintro e w9 ⟨rfl, hf9⟩
            rw [HVI.out]
            exact ⟨_, rfl, hK _ _ rfl hf9⟩
        refine stepsHold.cons (fun wx hG hd K hK => ?_) ?_
        · have h34 : us 34 = (.int .i64 vi) := deps_get hd 0 rfl rfl rfl rfl rfl
          rw [if_pos (wanted_none rfl)]
          refine wp_value (w2 := wx) (v := .int .i64 vi) ?_ (hK _ _ rfl (Fr.refl _ _))
          clear hd hG hK
          go_simp
        exact stepsHold.nil
      case fin =>
        have h22 : us 22 = (.pointer (some ⟨wb, 0, none⟩)) := all_get hall 0 rfl rfl rfl
        have h23 : us 23 = (.pointer (some ⟨wb, 0, none⟩)) := all_get hall 1 rfl rfl rfl
        have h24 : us 24 = (.pointer (some ⟨wb, 3, none⟩)) := all_get hall 2 rfl rfl rfl
        have h25 : us 25 = (.agg #[.slice Aq nq cq]) := all_get hall 3 rfl rfl rfl
        have h26 : us 26 = (.pointer (some ⟨wb, 0, none⟩)) := all_get hall 4 rfl rfl rfl
        have h27 : us 27 = (.pointer (some ⟨wb, 0, none⟩)) := all_get hall 5 rfl rfl rfl
        have h28 : us 28 = (.pointer (some ⟨wb, 2, none⟩)) := all_get hall 6 rfl rfl rfl
        have h29 : us 29 = (.agg #[.slice At nt ct]) := all_get hall 7 rfl rfl rfl
        have h30 : us 30 = (.pointer (some ⟨wb, 0, none⟩)) := all_get hall 8 rfl rfl rfl
        have h31 : us 31 = (.pointer (some ⟨wb, 0, none⟩)) := all_get hall 9 rfl rfl rfl
        have h32 : us 32 = (.pointer (some ⟨wb, 0, none⟩)) := all_get hall 10 rfl rfl rfl
        have h33 : us 33 = (.agg #[.slice Ax n cx, .int .i64 clk]) := all_get hall 11 rfl rfl rfl
        have h34 : us 34 = (.int .i64 vi) := all_get hall 12 rfl rfl rfl
        have h6 : us 6 = (.int .i64 vi) := all_get hall 13 rfl rfl rfl
        simp only [fillL, Nat.reduceAdd]
        clear hall
        simp only [h22, h23, h24, h25, h26, h27, h28, h29, h30, h31, h32, h33, h34, h6]
        clear h22 h23 h24 h25 h26 h27 h28 h29 h30 h31 h32 h33 h34 h6
        have HG1 := Lib.hid hG
        clear hG k0
        by_cases hv : vi < 0
        · have HNS : Hid (([] : List Int).length = 0) := Lib.hid rfl
          have hst : stuckTo X (edL X L Q) X.length = [] := victim_none (by rw [HVI.out]; exact hv)
          obtain ⟨st, hste⟩ : ∃ st, st = stuckTo X (edL X L Q) X.length := ⟨_, rfl⟩
          obtain ⟨ns, hns⟩ : ∃ ns, ns = st.length := ⟨_, rfl⟩
          have HST : Hid (stuckTo X (edL X L Q) X.length = st) := Lib.hid hste.symm
          have HNS : Hid (st.length = ns) := Lib.hid hns.symm
          have hns0 : ns = 0 := by rw [hns, hste, hst]; rfl
          have HN0 : Hid (((ns : Int) == 0) = true) := Lib.hid (by simp [hns0])
          have HKN : Hid ((k : Int) ≤ (n : Int)) := Lib.hid kle
          have HKN2 : Hid (k ≤ n) := Lib.hid hkle
          have hgo : Q ≠ [] → goesB X L Q = true := fun h1 => goesB_true HGN.out h1 hst
          have HWz := Lib.hid (HW.out.keep0 HG1.out)
          have HFz := Lib.hid (HF.out.then0 HG1.out)
          clear hst hste hns hns0 HW HF
          by_cases hq0 : nq = 0
          · have HQ0 : Hid (((nq : Int) == 0) = true) := Lib.hid (by simp [hq0])
            clear hq0 hgo
            go_wp2_with fail
            have HW := HWz
            refine wp_region_free (S := F0) [false, false, true, false, false, false, false, false, false, false, false, false, false, false, false, false, false, false, false, false, false, false, false, false, false, false, false, false, false, false, false, false, false, false, false, false, false, false, false, false, false, false, false, false, false, false, false, false, false, false, false, false, false, false, false, false, false, false, false, true, true, true, true, true, true, true, true, true, true, true, true, true, true, true, true, true, true, true, true, true, true, true, true, true, true, true, true, true, true, true, true, true, true, true, true, true, true, true, true, true] [.eq (.bool true), .eq (.bool true), .eq (.pointer (some ⟨wb, 0, none⟩)), .eq (.pointer (some ⟨wb, 0, none⟩)), .eq (.pointer (some ⟨wb, 3, none⟩)), .eq (.agg #[.slice Aq nq cq]), .eq (.pointer (some ⟨wb, 0, none⟩)), .eq (.pointer (some ⟨wb, 0, none⟩)), .eq (.pointer (some ⟨wb, 2, none⟩)), .eq (.agg #[.slice At nt ct]), .eq (.pointer (some ⟨wb, 0, none⟩)), .eq (.pointer (some ⟨wb, 0, none⟩)), .eq (.pointer (some ⟨wb, 0, none⟩)), .eq (.agg #[.slice Ax n cx, .int .i64 clk]), ⟨fun v w1 => ∃ A c, v = .slice A ns c, fun v w1 w2 h hf => h⟩, .eq (.int .i64 (ns : Int)), .eq (.bool true), .eq (.bool true), .eq (.bool true), .eq (.int .i64 (k : Int)), .eq (.pointer (some ⟨wb, 0, none⟩)), .eq (.pointer (some ⟨wb, 0, none⟩)), .eq (.pointer (some ⟨wb, 0, none⟩)), .eq (.pointer (some ⟨wb, 0, none⟩)), .eq (.slice Ax n cx), .eq (.int .i64 (n : Int)), .eq (.bool true), .eq (.bool true), .eq (.bool true), .eq (.pointer (some ⟨wb, 0, none⟩)), .eq (.pointer (some ⟨wb, 0, none⟩)), .eq (.pointer (some ⟨wb, 3, none⟩)), .eq (.pointer (some ⟨wb, 3, none⟩)), .eq (.slice Aq nq cq), .eq (.int .i64 (nq : Int)), .eq (.bool true), .eq (.bool true), .eq undef, .eq undef, .eq (.bool true), .eq (.bool true), .eq (.bool true)] (by kernel_rfl) (by kernel_rfl) (by rfl) (fun us => ?steps) (fun us w9 hG hall => ?fin)
            case steps =>
              simp only [fillL, Nat.reduceAdd]
              refine stepsHold.cons (fun wx hG hd K hK => ?_) ?_
              · rw [if_pos (wanted_none rfl)]
                refine wp_value (w2 := wx) (v := .bool true) ?_ (hK _ _ rfl (Fr.refl _ _))
                clear hd hG hK
                go_simp
              refine stepsHold.cons (fun wx hG hd K hK => ?_) ?_
              · have h59 : us 59 = (.bool true) := deps_get hd 0 rfl rfl rfl rfl rfl
                rw [if_pos (wanted_none rfl)]
                refine wp_value (w2 := wx) (v := .bool true) ?_ (hK _ _ rfl (Fr.refl _ _))
                clear hd hG hK
                go_simp
              refine stepsHold.cons (fun wx hG hd K hK => ?_) ?_
              · have h60 : us 60 = (.bool true) := deps_get hd 0 rfl rfl rfl rfl rfl
                rw [if_pos (wanted_yes rfl rfl rfl rfl h60)]
                refine wp_value (w2 := wx) (v := .pointer (some ⟨wb, 0, none⟩)) ?_ (hK _ _ rfl (Fr.refl _ _))
                clear hd hG hK
                go_simp
              refine stepsHold.cons (fun wx hG hd K hK => ?_) ?_
              · have h61 : us 61 = (.pointer (some ⟨wb, 0, none⟩)) := deps_get hd 0 rfl rfl rfl rfl rfl
                have h60 : us 60 = (.bool true) := deps_get hd 1 rfl rfl rfl rfl rfl
                rw [if_pos (wanted_yes rfl rfl rfl rfl h60)]
                refine wp_value (w2 := wx) (v := .pointer (some ⟨wb, 0, none⟩)) ?_ (hK _ _ rfl (Fr.refl _ _))
                clear hd hG hK
                go_simp
              refine stepsHold.cons (fun wx hG hd K hK => ?_) ?_
              · have h62 : us 62 = (.pointer (some ⟨wb, 0, none⟩)) := deps_get hd 0 rfl rfl rfl rfl rfl
                have h60 : us 60 = (.bool true) := deps_get hd 1 rfl rfl rfl rfl rfl
                rw [if_pos (wanted_yes rfl rfl rfl rfl h60)]
                refine wp_value (w2 := wx) (v := .pointer (some ⟨wb, 3, none⟩)) ?_ (hK _ _ rfl (Fr.refl _ _))
                clear hd hG hK
                go_simp
              refine stepsHold.cons (fun wx hG hd K hK => ?_) ?_
              · have h63 : us 63 = (.pointer (some ⟨wb, 3, none⟩)) := deps_get hd 0 rfl rfl rfl rfl rfl
                have h60 : us 60 = (.bool true) := deps_get hd 1 rfl rfl rfl rfl rfl
                rw [if_pos (wanted_yes rfl rfl rfl rfl h60)]
                have hc := (HW.out.keep0 hG).c3
                refine wp_value (w2 := wx) (v := .agg #[.slice Aq nq cq]) ?_ (hK _ _ rfl (Fr.refl _ _))
                clear hd hK
                go_simp
              refine stepsHold.cons (fun wx hG hd K hK => ?_) ?_
              · have h60 : us 60 = (.bool true) := deps_get hd 0 rfl rfl rfl rfl rfl
                rw [if_pos (wanted_yes rfl rfl rfl rfl h60)]
                refine wp_value (w2 := wx) (v := .pointer (some ⟨wb, 0, none⟩)) ?_ (hK _ _ rfl (Fr.refl _ _))
                clear hd hG hK
                go_simp
              refine stepsHold.cons (fun wx hG hd K hK => ?_) ?_
              · have h65 : us 65 = (.pointer (some ⟨wb, 0, none⟩)) := deps_get hd 0 rfl rfl rfl rfl rfl
                have h60 : us 60 = (.bool true) := deps_get hd 1 rfl rfl rfl rfl rfl
                rw [if_pos (wanted_yes rfl rfl rfl rfl h60)]
                refine wp_value (w2 := wx) (v := .pointer (some ⟨wb, 0, none⟩)) ?_ (hK _ _ rfl (Fr.refl _ _))
                clear hd hG hK
                go_simp
              refine stepsHold.cons (fun wx hG hd K hK => ?_) ?_
              · have h66 : us 66 = (.pointer (some ⟨wb, 0, none⟩)) := deps_get hd 0 rfl rfl rfl rfl rfl
                have h60 : us 60 = (.bool true) := deps_get hd 1 rfl rfl rfl rfl rfl
                rw [if_pos (wanted_yes rfl rfl rfl rfl h60)]
                refine wp_value (w2 := wx) (v := .pointer (some ⟨wb, 2, none⟩)) ?_ (hK _ _ rfl (Fr.refl _ _))
                clear hd hG hK
                go_simp
              refine stepsHold.cons (fun wx hG hd K hK => ?_) ?_
              · have h67 : us 67 = (.pointer (some ⟨wb, 2, none⟩)) := deps_get hd 0 rfl rfl rfl rfl rfl
                have h60 : us 60 = (.bool true) := deps_get hd 1 rfl rfl rfl rfl rfl
                rw [if_pos (wanted_yes rfl rfl rfl rfl h60)]
                have hc := (HW.out.keep0 hG).c2
                refine wp_value (w2 := wx) (v := .agg #[.slice At nt ct]) ?_ (hK _ _ rfl (Fr.refl _ _))
                clear hd hK
                go_simp
              refine stepsHold.cons (fun wx hG hd K hK => ?_) ?_
              · have h60 : us 60 = (.bool true) := deps_get hd 0 rfl rfl rfl rfl rfl
                rw [if_pos (wanted_yes rfl rfl rfl rfl h60)]
                refine wp_value (w2 := wx) (v := .pointer (some ⟨wb, 0, none⟩)) ?_ (hK _ _ rfl (Fr.refl _ _))
                clear hd hG hK
                go_simp
              refine stepsHold.cons (fun wx hG hd K hK => ?_) ?_
              · have h69 : us 69 = (.pointer (some ⟨wb, 0, none⟩)) := deps_get hd 0 rfl rfl rfl rfl rfl
                have h60 : us 60 = (.bool true) := deps_get hd 1 rfl rfl rfl rfl rfl
                rw [if_pos (wanted_yes rfl rfl rfl rfl h60)]
                refine wp_value (w2 := wx) (v := .pointer (some ⟨wb, 0, none⟩)) ?_ (hK _ _ rfl (Fr.refl _ _))
                clear hd hG hK
                go_simp
              refine stepsHold.cons (fun wx hG hd K hK => ?_) ?_
              · have h70 : us 70 = (.pointer (some ⟨wb, 0, none⟩)) := deps_get hd 0 rfl rfl rfl rfl rfl
                have h60 : us 60 = (.bool true) := deps_get hd 1 rfl rfl rfl rfl rfl
                rw [if_pos (wanted_yes rfl rfl rfl rfl h60)]
                refine wp_value (w2 := wx) (v := .pointer (some ⟨wb, 0, none⟩)) ?_ (hK _ _ rfl (Fr.refl _ _))
                clear hd hG hK
                go_simp
              refine stepsHold.cons (fun wx hG hd K hK => ?_) ?_
              · have h71 : us 71 = (.pointer (some ⟨wb, 0, none⟩)) := deps_get hd 0 rfl rfl rfl rfl rfl
                have h60 : us 60 = (.bool true) := deps_get hd 1 rfl rfl rfl rfl rfl
                rw [if_pos (wanted_yes rfl rfl rfl rfl h60)]
                have hc := (HW.out.keep0 hG).c0
                have hc1 := (HW.out.keep0 hG).c1
                refine wp_value (w2 := wx) (v := .agg #[.slice Ax n cx, .int .i64 clk]) ?_ (hK _ _ rfl (Fr.refl _ _))
                clear hd hK
                go_simp
              refine stepsHold.cons (fun wx hG hd K hK => ?_) ?_
              · have h64 : us 64 = (.agg #[.slice Aq nq cq]) := deps_get hd 0 rfl rfl rfl rfl rfl
                have h68 : us 68 = (.agg #[.slice At nt ct]) := deps_get hd 1 rfl rfl rfl rfl rfl
                have h72 : us 72 = (.agg #[.slice Ax n cx, .int .i64 clk]) := deps_get hd 2 rfl rfl rfl rfl rfl
                have h60 : us 60 = (.bool true) := deps_get hd 3 rfl rfl rfl rfl rfl
                rw [if_pos (wanted_yes rfl rfl rfl rfl h60)]
                refine wp_call (w2 := wx) (f := 8) (args := #[.agg #[.slice Aq nq cq], .agg #[.slice At nt ct], .agg #[.slice Ax n cx, .int .i64 clk]]) ?_ ?_
                · clear hd hK
                  go_simp
                · refine (stuck_c clk (HW.out.keep0 hG).sq HGN.out.sane.ok HGN.out.sane.len (HW.out.keep0 hG).st HGN.out.grn.sane (HW.out.keep0 hG).sx HGN.out.grn.len).mono ?_
                  rintro e w9 ⟨v9, rfl, hown9, hf9⟩
                  rw [HST.out] at hown9
                  obtain ⟨A9, c9, rfl, -⟩ := ValsAt.of_own hown9
                  rw [HNS.out]
                  exact ⟨_, rfl, hK _ _ ⟨A9, c9, rfl⟩ hf9⟩
              refine stepsHold.cons (fun wx hG hd K hK => ?_) ?_
              · have h73 := deps_get hd 0 rfl rfl rfl rfl rfl
                have h60 : us 60 = (.bool true) := deps_get hd 1 rfl rfl rfl rfl rfl
                rw [if_pos (wanted_yes rfl rfl rfl rfl h60)]
                obtain ⟨A9, c9, h73'⟩ := h73
                refine wp_value (w2 := wx) (v := .int .i64 (ns : Int)) ?_ (hK _ _ rfl (Fr.refl _ _))
                clear hd hG hK
                go_simp
              refine stepsHold.cons (fun wx hG hd K hK => ?_) ?_
              · have h74 : us 74 = (.int .i64 (ns : Int)) := deps_get hd 0 rfl rfl rfl rfl rfl
                have h60 : us 60 = (.bool true) := deps_get hd 1 rfl rfl rfl rfl rfl
                rw [if_pos (wanted_yes rfl rfl rfl rfl h60)]
                have hw := HN0.out
                refine wp_value (w2 := wx) (v := .bool true) ?_ (hK _ _ rfl (Fr.refl _ _))
                clear hd hG hK
                go_simp
              refine stepsHold.cons (fun wx hG hd K hK => ?_) ?_
              · have h60 : us 60 = (.bool true) := deps_get hd 0 rfl rfl rfl rfl rfl
                have h75 : us 75 = (.bool true) := deps_get hd 1 rfl rfl rfl rfl rfl
                rw [if_pos (wanted_none rfl)]
                refine wp_value (w2 := wx) (v := .bool true) ?_ (hK _ _ rfl (Fr.refl _ _))
                clear hd hG hK
                go_simp
              refine stepsHold.cons (fun wx hG hd K hK => ?_) ?_
              · have h76 : us 76 = (.bool true) := deps_get hd 0 rfl rfl rfl rfl rfl
                rw [if_pos (wanted_none rfl)]
                refine wp_value (w2 := wx) (v := .bool true) ?_ (hK _ _ rfl (Fr.refl _ _))
                clear hd hG hK
                go_simp
              refine stepsHold.cons (fun wx hG hd K hK => ?_) ?_
              · have h77 : us 77 = (.bool true) := deps_get hd 0 rfl rfl rfl rfl rfl
                rw [if_pos (wanted_yes rfl rfl rfl rfl h77)]
                refine wp_value (w2 := wx) (v := .int .i64 (k : Int)) ?_ (hK _ _ rfl (Fr.refl _ _))
                clear hd hG hK
                go_simp
              refine stepsHold.cons (fun wx hG hd K hK => ?_) ?_
              · have h77 : us 77 = (.bool true) := deps_get hd 0 rfl rfl rfl rfl rfl
                rw [if_pos (wanted_yes rfl rfl rfl rfl h77)]
                refine wp_value (w2 := wx) (v := .pointer (some ⟨wb, 0, none⟩)) ?_ (hK _ _ rfl (Fr.refl _ _))
                clear hd hG hK
                go_simp
              refine stepsHold.cons (fun wx hG hd K hK => ?_) ?_
              · have h79 : us 79 = (.pointer (some ⟨wb, 0, none⟩)) := deps_get hd 0 rfl rfl rfl rfl rfl
                have h77 : us 77 = (.bool true) := deps_get hd 1 rfl rfl rfl rfl rfl
                rw [if_pos (wanted_yes rfl rfl rfl rfl h77)]
                refine wp_value (w2 := wx) (v := .pointer (some ⟨wb, 0, none⟩)) ?_ (hK _ _ rfl (Fr.refl _ _))
                clear hd hG hK
                go_simp
              refine stepsHold.cons (fun wx hG hd K hK => ?_) ?_
              · have h80 : us 80 = (.pointer (some ⟨wb, 0, none⟩)) := deps_get hd 0 rfl rfl rfl rfl rfl
                have h77 : us 77 = (.bool true) := deps_get hd 1 rfl rfl rfl rfl rfl
                rw [if_pos (wanted_yes rfl rfl rfl rfl h77)]
                refine wp_value (w2 := wx) (v := .pointer (some ⟨wb, 0, none⟩)) ?_ (hK _ _ rfl (Fr.refl _ _))
                clear hd hG hK
                go_simp
              refine stepsHold.cons (fun wx hG hd K hK => ?_) ?_
              · have h81 : us 81 = (.pointer (some ⟨wb, 0, none⟩)) := deps_get hd 0 rfl rfl rfl rfl rfl
                have h77 : us 77 = (.bool true) := deps_get hd 1 rfl rfl rfl rfl rfl
                rw [if_pos (wanted_yes rfl rfl rfl rfl h77)]
                refine wp_value (w2 := wx) (v := .pointer (some ⟨wb, 0, none⟩)) ?_ (hK _ _ rfl (Fr.refl _ _))
                clear hd hG hK
                go_simp
              refine stepsHold.cons (fun wx hG hd K hK => ?_) ?_
              · have h82 : us 82 = (.pointer (some ⟨wb, 0, none⟩)) := deps_get hd 0 rfl rfl rfl rfl rfl
                have h77 : us 77 = (.bool true) := deps_get hd 1 rfl rfl rfl rfl rfl
                rw [if_pos (wanted_yes rfl rfl rfl rfl h77)]
                have hc := (HW.out.keep0 hG).c0
                refine wp_value (w2 := wx) (v := .slice Ax n cx) ?_ (hK _ _ rfl (Fr.refl _ _))
                clear hd hK
                go_simp
              refine stepsHold.cons (fun wx hG hd K hK => ?_) ?_
              · have h83 : us 83 = (.slice Ax n cx) := deps_get hd 0 rfl rfl rfl rfl rfl
                have h77 : us 77 = (.bool true) := deps_get hd 1 rfl rfl rfl rfl rfl
                rw [if_pos (wanted_yes rfl rfl rfl rfl h77)]
                refine wp_value (w2 := wx) (v := .int .i64 (n : Int)) ?_ (hK _ _ rfl (Fr.refl _ _))
                clear hd hG hK
                go_simp
              refine stepsHold.cons (fun wx hG hd K hK => ?_) ?_
              · have h78 : us 78 = (.int .i64 (k : Int)) := deps_get hd 0 rfl rfl rfl rfl rfl
                have h84 : us 84 = (.int .i64 (n : Int)) := deps_get hd 1 rfl rfl rfl rfl rfl
                have h77 : us 77 = (.bool true) := deps_get hd 2 rfl rfl rfl rfl rfl
                rw [if_pos (wanted_yes rfl rfl rfl rfl h77)]
                have hw := HKN.out
                refine wp_value (w2 := wx) (v := .bool true) ?_ (hK _ _ rfl (Fr.refl _ _))
                clear hd hG hK
                go_simp
                try exact HKN2.out
              refine stepsHold.cons (fun wx hG hd K hK => ?_) ?_
              · have h77 : us 77 = (.bool true) := deps_get hd 0 rfl rfl rfl rfl rfl
                have h85 : us 85 = (.bool true) := deps_get hd 1 rfl rfl rfl rfl rfl
                rw [if_pos (wanted_none rfl)]
                refine wp_value (w2 := wx) (v := .bool true) ?_ (hK _ _ rfl (Fr.refl _ _))
                clear hd hG hK
                go_simp
              refine stepsHold.cons (fun wx hG hd K hK => ?_) ?_
              · have h86 : us 86 = (.bool true) := deps_get hd 0 rfl rfl rfl rfl rfl
                rw [if_pos (wanted_none rfl)]
                refine wp_value (w2 := wx) (v := .bool true) ?_ (hK _ _ rfl (Fr.refl _ _))
                clear hd hG hK
                go_simp
              refine stepsHold.cons (fun wx hG hd K hK => ?_) ?_
              · have h87 : us 87 = (.bool true) := deps_get hd 0 rfl rfl rfl rfl rfl
                rw [if_pos (wanted_yes rfl rfl rfl rfl h87)]
                refine wp_value (w2 := wx) (v := .pointer (some ⟨wb, 0, none⟩)) ?_ (hK _ _ rfl (Fr.refl _ _))
                clear hd hG hK
                go_simp
              refine stepsHold.cons (fun wx hG hd K hK => ?_) ?_
              · have h88 : us 88 = (.pointer (some ⟨wb, 0, none⟩)) := deps_get hd 0 rfl rfl rfl rfl rfl
                have h87 : us 87 = (.bool true) := deps_get hd 1 rfl rfl rfl rfl rfl
                rw [if_pos (wanted_yes rfl rfl rfl rfl h87)]
                refine wp_value (w2 := wx) (v := .pointer (some ⟨wb, 0, none⟩)) ?_ (hK _ _ rfl (Fr.refl _ _))
                clear hd hG hK
                go_simp
              refine stepsHold.cons (fun wx hG hd K hK => ?_) ?_
              · have h89 : us 89 = (.pointer (some ⟨wb, 0, none⟩)) := deps_get hd 0 rfl rfl rfl rfl rfl
                have h87 : us 87 = (.bool true) := deps_get hd 1 rfl rfl rfl rfl rfl
                rw [if_pos (wanted_yes rfl rfl rfl rfl h87)]
                refine wp_value (w2 := wx) (v := .pointer (some ⟨wb, 3, none⟩)) ?_ (hK _ _ rfl (Fr.refl _ _))
                clear hd hG hK
                go_simp
              refine stepsHold.cons (fun wx hG hd K hK => ?_) ?_
              · have h90 : us 90 = (.pointer (some ⟨wb, 3, none⟩)) := deps_get hd 0 rfl rfl rfl rfl rfl
                have h87 : us 87 = (.bool true) := deps_get hd 1 rfl rfl rfl rfl rfl
                rw [if_pos (wanted_yes rfl rfl rfl rfl h87)]
                refine wp_value (w2 := wx) (v := .pointer (some ⟨wb, 3, none⟩)) ?_ (hK _ _ rfl (Fr.refl _ _))
                clear hd hG hK
                go_simp
              refine stepsHold.cons (fun wx hG hd K hK => ?_) ?_
              · have h91 : us 91 = (.pointer (some ⟨wb, 3, none⟩)) := deps_get hd 0 rfl rfl rfl rfl rfl
                have h87 : us 87 = (.bool true) := deps_get hd 1 rfl rfl rfl rfl rfl
                rw [if_pos (wanted_yes rfl rfl rfl rfl h87)]
                have hc := (HW.out.keep0 hG).c3
                refine wp_value (w2 := wx) (v := .slice Aq nq cq) ?_ (hK _ _ rfl (Fr.refl _ _))
                clear hd hK
                go_simp
              refine stepsHold.cons (fun wx hG hd K hK => ?_) ?_
              · have h92 : us 92 = (.slice Aq nq cq) := deps_get hd 0 rfl rfl rfl rfl rfl
                have h87 : us 87 = (.bool true) := deps_get hd 1 rfl rfl rfl rfl rfl
                rw [if_pos (wanted_yes rfl rfl rfl rfl h87)]
                refine wp_value (w2 := wx) (v := .int .i64 (nq : Int)) ?_ (hK _ _ rfl (Fr.refl _ _))
                clear hd hG hK
                go_simp
              refine stepsHold.cons (fun wx hG hd K hK => ?_) ?_
              · have h93 : us 93 = (.int .i64 (nq : Int)) := deps_get hd 0 rfl rfl rfl rfl rfl
                have h87 : us 87 = (.bool true) := deps_get hd 1 rfl rfl rfl rfl rfl
                rw [if_pos (wanted_yes rfl rfl rfl rfl h87)]
                have hw := HQ0.out
                refine wp_value (w2 := wx) (v := .bool true) ?_ (hK _ _ rfl (Fr.refl _ _))
                clear hd hG hK
                go_simp
              refine stepsHold.cons (fun wx hG hd K hK => ?_) ?_
              · have h94 : us 94 = (.bool true) := deps_get hd 0 rfl rfl rfl rfl rfl
                have h87 : us 87 = (.bool true) := deps_get hd 1 rfl rfl rfl rfl rfl
                rw [if_pos (wanted_yes rfl rfl rfl rfl h87)]
                refine wp_value (w2 := wx) (v := .bool true) ?_ (hK _ _ rfl (Fr.refl _ _))
                clear hd hG hK
                go_simp
              refine stepsHold.cons (fun wx hG hd K hK => ?_) ?_
              · have h95 : us 95 = (.bool true) := deps_get hd 0 rfl rfl rfl rfl rfl
                rw [if_neg (wanted_no rfl rfl rfl rfl h95)]
                exact hK _ _ rfl (Fr.refl _ _)
              refine stepsHold.cons (fun wx hG hd K hK => ?_) ?_
              · have h96 : us 96 = (undef) := deps_get hd 0 rfl rfl rfl rfl rfl
                have h95 : us 95 = (.bool true) := deps_get hd 1 rfl rfl rfl rfl rfl
                rw [if_neg (wanted_no rfl rfl rfl rfl h95)]
                exact hK _ _ rfl (Fr.refl _ _)
              refine stepsHold.cons (fun wx hG hd K hK => ?_) ?_
              · have h95 : us 95 = (.bool true) := deps_get hd 0 rfl rfl rfl rfl rfl
                have h97 : us 97 = (undef) := deps_get hd 1 rfl rfl rfl rfl rfl
                have h87 : us 87 = (.bool true) := deps_get hd 2 rfl rfl rfl rfl rfl
                rw [if_pos (wanted_yes rfl rfl rfl rfl h87)]
                refine wp_value (w2 := wx) (v := .bool true) ?_ (hK _ _ rfl (Fr.refl _ _))
                clear hd hG hK
                go_simp
              refine stepsHold.cons (fun wx hG hd K hK => ?_) ?_
              · have h87 : us 87 = (.bool true) := deps_get hd 0 rfl rfl rfl rfl rfl
                have h98 : us 98 = (.bool true) := deps_get hd 1 rfl rfl rfl rfl rfl
                rw [if_pos (wanted_none rfl)]
                refine wp_value (w2 := wx) (v := .bool true) ?_ (hK _ _ rfl (Fr.refl _ _))
                clear hd hG hK
                go_simp
              refine stepsHold.cons (fun wx hG hd K hK => ?_) ?_
              · have h99 : us 99 = (.bool true) := deps_get hd 0 rfl rfl rfl rfl rfl
                rw [if_pos (wanted_none rfl)]
                refine wp_value (w2 := wx) (v := .bool true) ?_ (hK _ _ rfl (Fr.refl _ _))
                clear hd hG hK
                go_simp
              exact stepsHold.nil
            case fin =>
              have h59 : us 59 = (.bool true) := all_get hall 0 rfl rfl rfl
              have h60 : us 60 = (.bool true) := all_get hall 1 rfl rfl rfl
              have h61 : us 61 = (.pointer (some ⟨wb, 0, none⟩)) := all_get hall 2 rfl rfl rfl
              have h62 : us 62 = (.pointer (some ⟨wb, 0, none⟩)) := all_get hall 3 rfl rfl rfl
              have h63 : us 63 = (.pointer (some ⟨wb, 3, none⟩)) := all_get hall 4 rfl rfl rfl
              have h64 : us 64 = (.agg #[.slice Aq nq cq]) := all_get hall 5 rfl rfl rfl
              have h65 : us 65 = (.pointer (some ⟨wb, 0, none⟩)) := all_get hall 6 rfl rfl rfl
              have h66 : us 66 = (.pointer (some ⟨wb, 0, none⟩)) := all_get hall 7 rfl rfl rfl
              have h67 : us 67 = (.pointer (some ⟨wb, 2, none⟩)) := all_get hall 8 rfl rfl rfl
              have h68 : us 68 = (.agg #[.slice At nt ct]) := all_get hall 9 rfl rfl rfl
              have h69 : us 69 = (.pointer (some ⟨wb, 0, none⟩)) := all_get hall 10 rfl rfl rfl
              have h70 : us 70 = (.pointer (some ⟨wb, 0, none⟩)) := all_get hall 11 rfl rfl rfl
              have h71 : us 71 = (.pointer (some ⟨wb, 0, none⟩)) := all_get hall 12 rfl rfl rfl
              have h72 : us 72 = (.agg #[.slice Ax n cx, .int .i64 clk]) := all_get hall 13 rfl rfl rfl
              have h73 := all_get hall 14 rfl rfl rfl
              have h74 : us 74 = (.int .i64 (ns : Int)) := all_get hall 15 rfl rfl rfl
              have h75 : us 75 = (.bool true) := all_get hall 16 rfl rfl rfl
              have h76 : us 76 = (.bool true) := all_get hall 17 rfl rfl rfl
              have h77 : us 77 = (.bool true) := all_get hall 18 rfl rfl rfl
              have h78 : us 78 = (.int .i64 (k : Int)) := all_get hall 19 rfl rfl rfl
              have h79 : us 79 = (.pointer (some ⟨wb, 0, none⟩)) := all_get hall 20 rfl rfl rfl
              have h80 : us 80 = (.pointer (some ⟨wb, 0, none⟩)) := all_get hall 21 rfl rfl rfl
              have h81 : us 81 = (.pointer (some ⟨wb, 0, none⟩)) := all_get hall 22 rfl rfl rfl
              have h82 : us 82 = (.pointer (some ⟨wb, 0, none⟩)) := all_get hall 23 rfl rfl rfl
              have h83 : us 83 = (.slice Ax n cx) := all_get hall 24 rfl rfl rfl
              have h84 : us 84 = (.int .i64 (n : Int)) := all_get hall 25 rfl rfl rfl
              have h85 : us 85 = (.bool true) := all_get hall 26 rfl rfl rfl
              have h86 : us 86 = (.bool true) := all_get hall 27 rfl rfl rfl
              have h87 : us 87 = (.bool true) := all_get hall 28 rfl rfl rfl
              have h88 : us 88 = (.pointer (some ⟨wb, 0, none⟩)) := all_get hall 29 rfl rfl rfl
              have h89 : us 89 = (.pointer (some ⟨wb, 0, none⟩)) := all_get hall 30 rfl rfl rfl
              have h90 : us 90 = (.pointer (some ⟨wb, 3, none⟩)) := all_get hall 31 rfl rfl rfl
              have h91 : us 91 = (.pointer (some ⟨wb, 3, none⟩)) := all_get hall 32 rfl rfl rfl
              have h92 : us 92 = (.slice Aq nq cq) := all_get hall 33 rfl rfl rfl
              have h93 : us 93 = (.int .i64 (nq : Int)) := all_get hall 34 rfl rfl rfl
              have h94 : us 94 = (.bool true) := all_get hall 35 rfl rfl rfl
              have h95 : us 95 = (.bool true) := all_get hall 36 rfl rfl rfl
              have h96 : us 96 = (undef) := all_get hall 37 rfl rfl rfl
              have h97 : us 97 = (undef) := all_get hall 38 rfl rfl rfl
              have h98 : us 98 = (.bool true) := all_get hall 39 rfl rfl rfl
              have h99 : us 99 = (.bool true) := all_get hall 40 rfl rfl rfl
              have h2 : us 2 = (.bool true) := all_get hall 41 rfl rfl rfl
              simp only [fillL, Nat.reduceAdd]
              clear hall
              simp only [h59, h60, h61, h62, h63, h64, h65, h66, h67, h68, h69, h70, h71, h72, h74, h75, h76, h77, h78, h79, h80, h81, h82, h83, h84, h85, h86, h87, h88, h89, h90, h91, h92, h93, h94, h95, h96, h97, h98, h99, h2]
              clear h59 h60 h61 h62 h63 h64 h65 h66 h67 h68 h69 h70 h71 h72 h74 h75 h76 h77 h78 h79 h80 h81 h82 h83 h84 h85 h86 h87 h88 h89 h90 h91 h92 h93 h94 h95 h96 h97 h98 h99 h2
              go_wp2_with fail
              go_ret
              exact ⟨rfl, HFz.out.then0 hG⟩
          · have HGO := Lib.hid (hgo (fun e => hq0 (by rw [HNQ.out, e]; rfl)))
            have HQ0 : Hid (((nq : Int) == 0) = false) := Lib.hid (by simp [hq0])
            clear hq0 hgo
            go_wp2_with fail
            have HW := HWz
            refine wp_region_free (S := F0) [false, false, true, false, false, false, false, false, false, false, false, false, false, false, false, false, false, false, false, false, false, false, false, false, false, false, false, false, false, false, false, false, false, false, false, false, false, false, false, false, false, false, false, false, false, false, false, false, false, false, false, false, false, false, false, false, false, false, false, true, true, true, true, true, true, true, true, true, true, true, true, true, true, true, true, true, true, true, true, true, true, true, true, true, true, true, true, true, true, true, true, true, true, true, true, true, true, true, true, true] [.eq (.bool true), .eq (.bool true), .eq (.pointer (some ⟨wb, 0, none⟩)), .eq (.pointer (some ⟨wb, 0, none⟩)), .eq (.pointer (some ⟨wb, 3, none⟩)), .eq (.agg #[.slice Aq nq cq]), .eq (.pointer (some ⟨wb, 0, none⟩)), .eq (.pointer (some ⟨wb, 0, none⟩)), .eq (.pointer (some ⟨wb, 2, none⟩)), .eq (.agg #[.slice At nt ct]), .eq (.pointer (some ⟨wb, 0, none⟩)), .eq (.pointer (some ⟨wb, 0, none⟩)), .eq (.pointer (some ⟨wb, 0, none⟩)), .eq (.agg #[.slice Ax n cx, .int .i64 clk]), ⟨fun v w1 => ∃ A c, v = .slice A ns c, fun v w1 w2 h hf => h⟩, .eq (.int .i64 (ns : Int)), .eq (.bool true), .eq (.bool true), .eq (.bool true), .eq (.int .i64 (k : Int)), .eq (.pointer (some ⟨wb, 0, none⟩)), .eq (.pointer (some ⟨wb, 0, none⟩)), .eq (.pointer (some ⟨wb, 0, none⟩)), .eq (.pointer (some ⟨wb, 0, none⟩)), .eq (.slice Ax n cx), .eq (.int .i64 (n : Int)), .eq (.bool true), .eq (.bool true), .eq (.bool true), .eq (.pointer (some ⟨wb, 0, none⟩)), .eq (.pointer (some ⟨wb, 0, none⟩)), .eq (.pointer (some ⟨wb, 3, none⟩)), .eq (.pointer (some ⟨wb, 3, none⟩)), .eq (.slice Aq nq cq), .eq (.int .i64 (nq : Int)), .eq (.bool false), .eq (.bool false), .eq (.pointer (some ⟨wb, 0, none⟩)), .eq (.bool true), .eq (.bool true), .eq (.bool true), .eq (.bool true)] (by kernel_rfl) (by kernel_rfl) (by rfl) (fun us => ?steps) (fun us w9 hG hall => ?fin)
            case steps =>
              simp only [fillL, Nat.reduceAdd]
              refine stepsHold.cons (fun wx hG hd K hK => ?_) ?_
              · rw [if_pos (wanted_none rfl)]
                refine wp_value (w2 := wx) (v := .bool true) ?_ (hK _ _ rfl (Fr.refl _ _))
                clear hd hG hK
                go_simp
              refine stepsHold.cons (fun wx hG hd K hK => ?_) ?_
              · have h59 : us 59 = (.bool true) := deps_get hd 0 rfl rfl rfl rfl rfl
                rw [if_pos (wanted_none rfl)]
                refine wp_value (w2 := wx) (v := .bool true) ?_ (hK _ _ rfl (Fr.refl _ _))
                clear hd hG hK
                go_simp
              refine stepsHold.cons (fun wx hG hd K hK => ?_) ?_
              · have h60 : us 60 = (.bool true) := deps_get hd 0 rfl rfl rfl rfl rfl
                rw [if_pos (wanted_yes rfl rfl rfl rfl h60)]
                refine wp_value (w2 := wx) (v := .pointer (some ⟨wb, 0, none⟩)) ?_ (hK _ _ rfl (Fr.refl _ _))
                clear hd hG hK
                go_simp
              refine stepsHold.cons (fun wx hG hd K hK => ?_) ?_
              · have h61 : us 61 = (.pointer (some ⟨wb, 0, none⟩)) := deps_get hd 0 rfl rfl rfl rfl rfl
                have h60 : us 60 = (.bool true) := deps_get hd 1 rfl rfl rfl rfl rfl
                rw [if_pos (wanted_yes rfl rfl rfl rfl h60)]
                refine wp_value (w2 := wx) (v := .pointer (some ⟨wb, 0, none⟩)) ?_ (hK _ _ rfl (Fr.refl _ _))
                clear hd hG hK
                go_simp
              refine stepsHold.cons (fun wx hG hd K hK => ?_) ?_
              · have h62 : us 62 = (.pointer (some ⟨wb, 0, none⟩)) := deps_get hd 0 rfl rfl rfl rfl rfl
                have h60 : us 60 = (.bool true) := deps_get hd 1 rfl rfl rfl rfl rfl
                rw [if_pos (wanted_yes rfl rfl rfl rfl h60)]
                refine wp_value (w2 := wx) (v := .pointer (some ⟨wb, 3, none⟩)) ?_ (hK _ _ rfl (Fr.refl _ _))
                clear hd hG hK
                go_simp
              refine stepsHold.cons (fun wx hG hd K hK => ?_) ?_
              · have h63 : us 63 = (.pointer (some ⟨wb, 3, none⟩)) := deps_get hd 0 rfl rfl rfl rfl rfl
                have h60 : us 60 = (.bool true) := deps_get hd 1 rfl rfl rfl rfl rfl
                rw [if_pos (wanted_yes rfl rfl rfl rfl h60)]
                have hc := (HW.out.keep0 hG).c3
                refine wp_value (w2 := wx) (v := .agg #[.slice Aq nq cq]) ?_ (hK _ _ rfl (Fr.refl _ _))
                clear hd hK
                go_simp
              refine stepsHold.cons (fun wx hG hd K hK => ?_) ?_
              · have h60 : us 60 = (.bool true) := deps_get hd 0 rfl rfl rfl rfl rfl
                rw [if_pos (wanted_yes rfl rfl rfl rfl h60)]
                refine wp_value (w2 := wx) (v := .pointer (some ⟨wb, 0, none⟩)) ?_ (hK _ _ rfl (Fr.refl _ _))
                clear hd hG hK
                go_simp
              refine stepsHold.cons (fun wx hG hd K hK => ?_) ?_
              · have h65 : us 65 = (.pointer (some ⟨wb, 0, none⟩)) := deps_get hd 0 rfl rfl rfl rfl rfl
                have h60 : us 60 = (.bool true) := deps_get hd 1 rfl rfl rfl rfl rfl
                rw [if_pos (wanted_yes rfl rfl rfl rfl h60)]
                refine wp_value (w2 := wx) (v := .pointer (some ⟨wb, 0, none⟩)) ?_ (hK _ _ rfl (Fr.refl _ _))
                clear hd hG hK
                go_simp
              refine stepsHold.cons (fun wx hG hd K hK => ?_) ?_
              · have h66 : us 66 = (.pointer (some ⟨wb, 0, none⟩)) := deps_get hd 0 rfl rfl rfl rfl rfl
                have h60 : us 60 = (.bool true) := deps_get hd 1 rfl rfl rfl rfl rfl
                rw [if_pos (wanted_yes rfl rfl rfl rfl h60)]
                refine wp_value (w2 := wx) (v := .pointer (some ⟨wb, 2, none⟩)) ?_ (hK _ _ rfl (Fr.refl _ _))
                clear hd hG hK
                go_simp
              refine stepsHold.cons (fun wx hG hd K hK => ?_) ?_
              · have h67 : us 67 = (.pointer (some ⟨wb, 2, none⟩)) := deps_get hd 0 rfl rfl rfl rfl rfl
                have h60 : us 60 = (.bool true) := deps_get hd 1 rfl rfl rfl rfl rfl
                rw [if_pos (wanted_yes rfl rfl rfl rfl h60)]
                have hc := (HW.out.keep0 hG).c2
                refine wp_value (w2 := wx) (v := .agg #[.slice At nt ct]) ?_ (hK _ _ rfl (Fr.refl _ _))
                clear hd hK
                go_simp
              refine stepsHold.cons (fun wx hG hd K hK => ?_) ?_
              · have h60 : us 60 = (.bool true) := deps_get hd 0 rfl rfl rfl rfl rfl
                rw [if_pos (wanted_yes rfl rfl rfl rfl h60)]
                refine wp_value (w2 := wx) (v := .pointer (some ⟨wb, 0, none⟩)) ?_ (hK _ _ rfl (Fr.refl _ _))
                clear hd hG hK
                go_simp
              refine stepsHold.cons (fun wx hG hd K hK => ?_) ?_
              · have h69 : us 69 = (.pointer (some ⟨wb, 0, none⟩)) := deps_get hd 0 rfl rfl rfl rfl rfl
                have h60 : us 60 = (.bool true) := deps_get hd 1 rfl rfl rfl rfl rfl
                rw [if_pos (wanted_yes rfl rfl rfl rfl h60)]
                refine wp_value (w2 := wx) (v := .pointer (some ⟨wb, 0, none⟩)) ?_ (hK _ _ rfl (Fr.refl _ _))
                clear hd hG hK
                go_simp
              refine stepsHold.cons (fun wx hG hd K hK => ?_) ?_
              · have h70 : us 70 = (.pointer (some ⟨wb, 0, none⟩)) := deps_get hd 0 rfl rfl rfl rfl rfl
                have h60 : us 60 = (.bool true) := deps_get hd 1 rfl rfl rfl rfl rfl
                rw [if_pos (wanted_yes rfl rfl rfl rfl h60)]
                refine wp_value (w2 := wx) (v := .pointer (some ⟨wb, 0, none⟩)) ?_ (hK _ _ rfl (Fr.refl _ _))
                clear hd hG hK
                go_simp
              refine stepsHold.cons (fun wx hG hd K hK => ?_) ?_
              · have h71 : us 71 = (.pointer (some ⟨wb, 0, none⟩)) := deps_get hd 0 rfl rfl rfl rfl rfl
                have h60 : us 60 = (.bool true) := deps_get hd 1 rfl rfl rfl rfl rfl
                rw [if_pos (wanted_yes rfl rfl rfl rfl h60)]
                have hc := (HW.out.keep0 hG).c0
                have hc1 := (HW.out.keep0 hG).c1
                refine wp_value (w2 := wx) (v := .agg #[.slice Ax n cx, .int .i64 clk]) ?_ (hK _ _ rfl (Fr.refl _ _))
                clear hd hK
                go_simp
              refine stepsHold.cons (fun wx hG hd K hK => ?_) ?_
              · have h64 : us 64 = (.agg #[.slice Aq nq cq]) := deps_get hd 0 rfl rfl rfl rfl rfl
                have h68 : us 68 = (.agg #[.slice At nt ct]) := deps_get hd 1 rfl rfl rfl rfl rfl
                have h72 : us 72 = (.agg #[.slice Ax n cx, .int .i64 clk]) := deps_get hd 2 rfl rfl rfl rfl rfl
                have h60 : us 60 = (.bool true) := deps_get hd 3 rfl rfl rfl rfl rfl
                rw [if_pos (wanted_yes rfl rfl rfl rfl h60)]
                refine wp_call (w2 := wx) (f := 8) (args := #[.agg #[.slice Aq nq cq], .agg #[.slice At nt ct], .agg #[.slice Ax n cx, .int .i64 clk]]) ?_ ?_
                · clear hd hK
                  go_simp
                · refine (stuck_c clk (HW.out.keep0 hG).sq HGN.out.sane.ok HGN.out.sane.len (HW.out.keep0 hG).st HGN.out.grn.sane (HW.out.keep0 hG).sx HGN.out.grn.len).mono ?_
                  rintro e w9 ⟨v9, rfl, hown9, hf9⟩
                  rw [HST.out] at hown9
                  obtain ⟨A9, c9, rfl, -⟩ := ValsAt.of_own hown9
                  rw [HNS.out]
                  exact ⟨_, rfl, hK _ _ ⟨A9, c9, rfl⟩ hf9⟩
              refine stepsHold.cons (fun wx hG hd K hK => ?_) ?_
              · have h73 := deps_get hd 0 rfl rfl rfl rfl rfl
                have h60 : us 60 = (.bool true) := deps_get hd 1 rfl rfl rfl rfl rfl
                rw [if_pos (wanted_yes rfl rfl rfl rfl h60)]
                obtain ⟨A9, c9, h73'⟩ := h73
                refine wp_value (w2 := wx) (v := .int .i64 (ns : Int)) ?_ (hK _ _ rfl (Fr.refl _ _))
                clear hd hG hK
                go_simp
              refine stepsHold.cons (fun wx hG hd K hK => ?_) ?_
              · have h74 : us 74 = (.int .i64 (ns : Int)) := deps_get hd 0 rfl rfl rfl rfl rfl
                have h60 : us 60 = (.bool true) := deps_get hd 1 rfl rfl rfl rfl rfl
                rw [if_pos (wanted_yes rfl rfl rfl rfl h60)]
                have hw := HN0.out
                refine wp_value (w2 := wx) (v := .bool true) ?_ (hK _ _ rfl (Fr.refl _ _))
                clear hd hG hK
                go_simp
              refine stepsHold.cons (fun wx hG hd K hK => ?_) ?_
              · have h60 : us 60 = (.bool true) := deps_get hd 0 rfl rfl rfl rfl rfl
                have h75 : us 75 = (.bool true) := deps_get hd 1 rfl rfl rfl rfl rfl
                rw [if_pos (wanted_none rfl)]
                refine wp_value (w2 := wx) (v := .bool true) ?_ (hK _ _ rfl (Fr.refl _ _))
                clear hd hG hK
                go_simp
              refine stepsHold.cons (fun wx hG hd K hK => ?_) ?_
              · have h76 : us 76 = (.bool true) := deps_get hd 0 rfl rfl rfl rfl rfl
                rw [if_pos (wanted_none rfl)]
                refine wp_value (w2 := wx) (v := .bool true) ?_ (hK _ _ rfl (Fr.refl _ _))
                clear hd hG hK
                go_simp
              refine stepsHold.cons (fun wx hG hd K hK => ?_) ?_
              · have h77 : us 77 = (.bool true) := deps_get hd 0 rfl rfl rfl rfl rfl
                rw [if_pos (wanted_yes rfl rfl rfl rfl h77)]
                refine wp_value (w2 := wx) (v := .int .i64 (k : Int)) ?_ (hK _ _ rfl (Fr.refl _ _))
                clear hd hG hK
                go_simp
              refine stepsHold.cons (fun wx hG hd K hK => ?_) ?_
              · have h77 : us 77 = (.bool true) := deps_get hd 0 rfl rfl rfl rfl rfl
                rw [if_pos (wanted_yes rfl rfl rfl rfl h77)]
                refine wp_value (w2 := wx) (v := .pointer (some ⟨wb, 0, none⟩)) ?_ (hK _ _ rfl (Fr.refl _ _))
                clear hd hG hK
                go_simp
              refine stepsHold.cons (fun wx hG hd K hK => ?_) ?_
              · have h79 : us 79 = (.pointer (some ⟨wb, 0, none⟩)) := deps_get hd 0 rfl rfl rfl rfl rfl
                have h77 : us 77 = (.bool true) := deps_get hd 1 rfl rfl rfl rfl rfl
                rw [if_pos (wanted_yes rfl rfl rfl rfl h77)]
                refine wp_value (w2 := wx) (v := .pointer (some ⟨wb, 0, none⟩)) ?_ (hK _ _ rfl (Fr.refl _ _))
                clear hd hG hK
                go_simp
              refine stepsHold.cons (fun wx hG hd K hK => ?_) ?_
              · have h80 : us 80 = (.pointer (some ⟨wb, 0, none⟩)) := deps_get hd 0 rfl rfl rfl rfl rfl
                have h77 : us 77 = (.bool true) := deps_get hd 1 rfl rfl rfl rfl rfl
                rw [if_pos (wanted_yes rfl rfl rfl rfl h77)]
                refine wp_value (w2 := wx) (v := .pointer (some ⟨wb, 0, none⟩)) ?_ (hK _ _ rfl (Fr.refl _ _))
                clear hd hG hK
                go_simp
              refine stepsHold.cons (fun wx hG hd K hK => ?_) ?_
              · have h81 : us 81 = (.pointer (some ⟨wb, 0, none⟩)) := deps_get hd 0 rfl rfl rfl rfl rfl
                have h77 : us 77 = (.bool true) := deps_get hd 1 rfl rfl rfl rfl rfl
                rw [if_pos (wanted_yes rfl rfl rfl rfl h77)]
                refine wp_value (w2 := wx) (v := .pointer (some ⟨wb, 0, none⟩)) ?_ (hK _ _ rfl (Fr.refl _ _))
                clear hd hG hK
                go_simp
              refine stepsHold.cons (fun wx hG hd K hK => ?_) ?_
              · have h82 : us 82 = (.pointer (some ⟨wb, 0, none⟩)) := deps_get hd 0 rfl rfl rfl rfl rfl
                have h77 : us 77 = (.bool true) := deps_get hd 1 rfl rfl rfl rfl rfl
                rw [if_pos (wanted_yes rfl rfl rfl rfl h77)]
                have hc := (HW.out.keep0 hG).c0
                refine wp_value (w2 := wx) (v := .slice Ax n cx) ?_ (hK _ _ rfl (Fr.refl _ _))
                clear hd hK
                go_simp
              refine stepsHold.cons (fun wx hG hd K hK => ?_) ?_
              · have h83 : us 83 = (.slice Ax n cx) := deps_get hd 0 rfl rfl rfl rfl rfl
                have h77 : us 77 = (.bool true) := deps_get hd 1 rfl rfl rfl rfl rfl
                rw [if_pos (wanted_yes rfl rfl rfl rfl h77)]
                refine wp_value (w2 := wx) (v := .int .i64 (n : Int)) ?_ (hK _ _ rfl (Fr.refl _ _))
                clear hd hG hK
                go_simp
              refine stepsHold.cons (fun wx hG hd K hK => ?_) ?_
              · have h78 : us 78 = (.int .i64 (k : Int)) := deps_get hd 0 rfl rfl rfl rfl rfl
                have h84 : us 84 = (.int .i64 (n : Int)) := deps_get hd 1 rfl rfl rfl rfl rfl
                have h77 : us 77 = (.bool true) := deps_get hd 2 rfl rfl rfl rfl rfl
                rw [if_pos (wanted_yes rfl rfl rfl rfl h77)]
                have hw := HKN.out
                refine wp_value (w2 := wx) (v := .bool true) ?_ (hK _ _ rfl (Fr.refl _ _))
                clear hd hG hK
                go_simp
                try exact HKN2.out
              refine stepsHold.cons (fun wx hG hd K hK => ?_) ?_
              · have h77 : us 77 = (.bool true) := deps_get hd 0 rfl rfl rfl rfl rfl
                have h85 : us 85 = (.bool true) := deps_get hd 1 rfl rfl rfl rfl rfl
                rw [if_pos (wanted_none rfl)]
                refine wp_value (w2 := wx) (v := .bool true) ?_ (hK _ _ rfl (Fr.refl _ _))
                clear hd hG hK
                go_simp
              refine stepsHold.cons (fun wx hG hd K hK => ?_) ?_
              · have h86 : us 86 = (.bool true) := deps_get hd 0 rfl rfl rfl rfl rfl
                rw [if_pos (wanted_none rfl)]
                refine wp_value (w2 := wx) (v := .bool true) ?_ (hK _ _ rfl (Fr.refl _ _))
                clear hd hG hK
                go_simp
              refine stepsHold.cons (fun wx hG hd K hK => ?_) ?_
              · have h87 : us 87 = (.bool true) := deps_get hd 0 rfl rfl rfl rfl rfl
                rw [if_pos (wanted_yes rfl rfl rfl rfl h87)]
                refine wp_value (w2 := wx) (v := .pointer (some ⟨wb, 0, none⟩)) ?_ (hK _ _ rfl (Fr.refl _ _))
                clear hd hG hK
                go_simp
              refine stepsHold.cons (fun wx hG hd K hK => ?_) ?_
              · have h88 : us 88 = (.pointer (some ⟨wb, 0, none⟩)) := deps_get hd 0 rfl rfl rfl rfl rfl
                have h87 : us 87 = (.bool true) := deps_get hd 1 rfl rfl rfl rfl rfl
                rw [if_pos (wanted_yes rfl rfl rfl rfl h87)]
                refine wp_value (w2 := wx) (v := .pointer (some ⟨wb, 0, none⟩)) ?_ (hK _ _ rfl (Fr.refl _ _))
                clear hd hG hK
                go_simp
              refine stepsHold.cons (fun wx hG hd K hK => ?_) ?_
              · have h89 : us 89 = (.pointer (some ⟨wb, 0, none⟩)) := deps_get hd 0 rfl rfl rfl rfl rfl
                have h87 : us 87 = (.bool true) := deps_get hd 1 rfl rfl rfl rfl rfl
                rw [if_pos (wanted_yes rfl rfl rfl rfl h87)]
                refine wp_value (w2 := wx) (v := .pointer (some ⟨wb, 3, none⟩)) ?_ (hK _ _ rfl (Fr.refl _ _))
                clear hd hG hK
                go_simp
              refine stepsHold.cons (fun wx hG hd K hK => ?_) ?_
              · have h90 : us 90 = (.pointer (some ⟨wb, 3, none⟩)) := deps_get hd 0 rfl rfl rfl rfl rfl
                have h87 : us 87 = (.bool true) := deps_get hd 1 rfl rfl rfl rfl rfl
                rw [if_pos (wanted_yes rfl rfl rfl rfl h87)]
                refine wp_value (w2 := wx) (v := .pointer (some ⟨wb, 3, none⟩)) ?_ (hK _ _ rfl (Fr.refl _ _))
                clear hd hG hK
                go_simp
              refine stepsHold.cons (fun wx hG hd K hK => ?_) ?_
              · have h91 : us 91 = (.pointer (some ⟨wb, 3, none⟩)) := deps_get hd 0 rfl rfl rfl rfl rfl
                have h87 : us 87 = (.bool true) := deps_get hd 1 rfl rfl rfl rfl rfl
                rw [if_pos (wanted_yes rfl rfl rfl rfl h87)]
                have hc := (HW.out.keep0 hG).c3
                refine wp_value (w2 := wx) (v := .slice Aq nq cq) ?_ (hK _ _ rfl (Fr.refl _ _))
                clear hd hK
                go_simp
              refine stepsHold.cons (fun wx hG hd K hK => ?_) ?_
              · have h92 : us 92 = (.slice Aq nq cq) := deps_get hd 0 rfl rfl rfl rfl rfl
                have h87 : us 87 = (.bool true) := deps_get hd 1 rfl rfl rfl rfl rfl
                rw [if_pos (wanted_yes rfl rfl rfl rfl h87)]
                refine wp_value (w2 := wx) (v := .int .i64 (nq : Int)) ?_ (hK _ _ rfl (Fr.refl _ _))
                clear hd hG hK
                go_simp
              refine stepsHold.cons (fun wx hG hd K hK => ?_) ?_
              · have h93 : us 93 = (.int .i64 (nq : Int)) := deps_get hd 0 rfl rfl rfl rfl rfl
                have h87 : us 87 = (.bool true) := deps_get hd 1 rfl rfl rfl rfl rfl
                rw [if_pos (wanted_yes rfl rfl rfl rfl h87)]
                have hw := HQ0.out
                refine wp_value (w2 := wx) (v := .bool false) ?_ (hK _ _ rfl (Fr.refl _ _))
                clear hd hG hK
                go_simp
              refine stepsHold.cons (fun wx hG hd K hK => ?_) ?_
              · have h94 : us 94 = (.bool false) := deps_get hd 0 rfl rfl rfl rfl rfl
                have h87 : us 87 = (.bool true) := deps_get hd 1 rfl rfl rfl rfl rfl
                rw [if_pos (wanted_yes rfl rfl rfl rfl h87)]
                refine wp_value (w2 := wx) (v := .bool false) ?_ (hK _ _ rfl (Fr.refl _ _))
                clear hd hG hK
                go_simp
              refine stepsHold.cons (fun wx hG hd K hK => ?_) ?_
              · have h95 : us 95 = (.bool false) := deps_get hd 0 rfl rfl rfl rfl rfl
                rw [if_pos (wanted_yes rfl rfl rfl rfl h95)]
                refine wp_value (w2 := wx) (v := .pointer (some ⟨wb, 0, none⟩)) ?_ (hK _ _ rfl (Fr.refl _ _))
                clear hd hG hK
                go_simp
              refine stepsHold.cons (fun wx hG hd K hK => ?_) ?_
              · have h96 : us 96 = (.pointer (some ⟨wb, 0, none⟩)) := deps_get hd 0 rfl rfl rfl rfl rfl
                have h95 : us 95 = (.bool false) := deps_get hd 1 rfl rfl rfl rfl rfl
                rw [if_pos (wanted_yes rfl rfl rfl rfl h95)]
                refine wp_call (w2 := wx) (f := 10) (args := #[.pointer (some ⟨wb, 0, none⟩)]) ?_ ?_
                · clear hd hK
                  go_simp
                · refine (goes_c (HW.out.keep0 hG) HGN.out).mono ?_
                  rintro e w9 ⟨rfl, hf9⟩
                  rw [HGO.out]
                  exact ⟨_, rfl, hK _ _ rfl hf9⟩
              refine stepsHold.cons (fun wx hG hd K hK => ?_) ?_
              · have h95 : us 95 = (.bool false) := deps_get hd 0 rfl rfl rfl rfl rfl
                have h97 : us 97 = (.bool true) := deps_get hd 1 rfl rfl rfl rfl rfl
                have h87 : us 87 = (.bool true) := deps_get hd 2 rfl rfl rfl rfl rfl
                rw [if_pos (wanted_yes rfl rfl rfl rfl h87)]
                refine wp_value (w2 := wx) (v := .bool true) ?_ (hK _ _ rfl (Fr.refl _ _))
                clear hd hG hK
                go_simp
              refine stepsHold.cons (fun wx hG hd K hK => ?_) ?_
              · have h87 : us 87 = (.bool true) := deps_get hd 0 rfl rfl rfl rfl rfl
                have h98 : us 98 = (.bool true) := deps_get hd 1 rfl rfl rfl rfl rfl
                rw [if_pos (wanted_none rfl)]
                refine wp_value (w2 := wx) (v := .bool true) ?_ (hK _ _ rfl (Fr.refl _ _))
                clear hd hG hK
                go_simp
              refine stepsHold.cons (fun wx hG hd K hK => ?_) ?_
              · have h99 : us 99 = (.bool true) := deps_get hd 0 rfl rfl rfl rfl rfl
                rw [if_pos (wanted_none rfl)]
                refine wp_value (w2 := wx) (v := .bool true) ?_ (hK _ _ rfl (Fr.refl _ _))
                clear hd hG hK
                go_simp
              exact stepsHold.nil
            case fin =>
              have h59 : us 59 = (.bool true) := all_get hall 0 rfl rfl rfl
              have h60 : us 60 = (.bool true) := all_get hall 1 rfl rfl rfl
              have h61 : us 61 = (.pointer (some ⟨wb, 0, none⟩)) := all_get hall 2 rfl rfl rfl
              have h62 : us 62 = (.pointer (some ⟨wb, 0, none⟩)) := all_get hall 3 rfl rfl rfl
              have h63 : us 63 = (.pointer (some ⟨wb, 3, none⟩)) := all_get hall 4 rfl rfl rfl
              have h64 : us 64 = (.agg #[.slice Aq nq cq]) := all_get hall 5 rfl rfl rfl
              have h65 : us 65 = (.pointer (some ⟨wb, 0, none⟩)) := all_get hall 6 rfl rfl rfl
              have h66 : us 66 = (.pointer (some ⟨wb, 0, none⟩)) := all_get hall 7 rfl rfl rfl
              have h67 : us 67 = (.pointer (some ⟨wb, 2, none⟩)) := all_get hall 8 rfl rfl rfl
              have h68 : us 68 = (.agg #[.slice At nt ct]) := all_get hall 9 rfl rfl rfl
              have h69 : us 69 = (.pointer (some ⟨wb, 0, none⟩)) := all_get hall 10 rfl rfl rfl
              have h70 : us 70 = (.pointer (some ⟨wb, 0, none⟩)) := all_get hall 11 rfl rfl rfl
              have h71 : us 71 = (.pointer (some ⟨wb, 0, none⟩)) := all_get hall 12 rfl rfl rfl
              have h72 : us 72 = (.agg #[.slice Ax n cx, .int .i64 clk]) := all_get hall 13 rfl rfl rfl
              have h73 := all_get hall 14 rfl rfl rfl
              have h74 : us 74 = (.int .i64 (ns : Int)) := all_get hall 15 rfl rfl rfl
              have h75 : us 75 = (.bool true) := all_get hall 16 rfl rfl rfl
              have h76 : us 76 = (.bool true) := all_get hall 17 rfl rfl rfl
              have h77 : us 77 = (.bool true) := all_get hall 18 rfl rfl rfl
              have h78 : us 78 = (.int .i64 (k : Int)) := all_get hall 19 rfl rfl rfl
              have h79 : us 79 = (.pointer (some ⟨wb, 0, none⟩)) := all_get hall 20 rfl rfl rfl
              have h80 : us 80 = (.pointer (some ⟨wb, 0, none⟩)) := all_get hall 21 rfl rfl rfl
              have h81 : us 81 = (.pointer (some ⟨wb, 0, none⟩)) := all_get hall 22 rfl rfl rfl
              have h82 : us 82 = (.pointer (some ⟨wb, 0, none⟩)) := all_get hall 23 rfl rfl rfl
              have h83 : us 83 = (.slice Ax n cx) := all_get hall 24 rfl rfl rfl
              have h84 : us 84 = (.int .i64 (n : Int)) := all_get hall 25 rfl rfl rfl
              have h85 : us 85 = (.bool true) := all_get hall 26 rfl rfl rfl
              have h86 : us 86 = (.bool true) := all_get hall 27 rfl rfl rfl
              have h87 : us 87 = (.bool true) := all_get hall 28 rfl rfl rfl
              have h88 : us 88 = (.pointer (some ⟨wb, 0, none⟩)) := all_get hall 29 rfl rfl rfl
              have h89 : us 89 = (.pointer (some ⟨wb, 0, none⟩)) := all_get hall 30 rfl rfl rfl
              have h90 : us 90 = (.pointer (some ⟨wb, 3, none⟩)) := all_get hall 31 rfl rfl rfl
              have h91 : us 91 = (.pointer (some ⟨wb, 3, none⟩)) := all_get hall 32 rfl rfl rfl
              have h92 : us 92 = (.slice Aq nq cq) := all_get hall 33 rfl rfl rfl
              have h93 : us 93 = (.int .i64 (nq : Int)) := all_get hall 34 rfl rfl rfl
              have h94 : us 94 = (.bool false) := all_get hall 35 rfl rfl rfl
              have h95 : us 95 = (.bool false) := all_get hall 36 rfl rfl rfl
              have h96 : us 96 = (.pointer (some ⟨wb, 0, none⟩)) := all_get hall 37 rfl rfl rfl
              have h97 : us 97 = (.bool true) := all_get hall 38 rfl rfl rfl
              have h98 : us 98 = (.bool true) := all_get hall 39 rfl rfl rfl
              have h99 : us 99 = (.bool true) := all_get hall 40 rfl rfl rfl
              have h2 : us 2 = (.bool true) := all_get hall 41 rfl rfl rfl
              simp only [fillL, Nat.reduceAdd]
              clear hall
              simp only [h59, h60, h61, h62, h63, h64, h65, h66, h67, h68, h69, h70, h71, h72, h74, h75, h76, h77, h78, h79, h80, h81, h82, h83, h84, h85, h86, h87, h88, h89, h90, h91, h92, h93, h94, h95, h96, h97, h98, h99, h2]
              clear h59 h60 h61 h62 h63 h64 h65 h66 h67 h68 h69 h70 h71 h72 h74 h75 h76 h77 h78 h79 h80 h81 h82 h83 h84 h85 h86 h87 h88 h89 h90 h91 h92 h93 h94 h95 h96 h97 h98 h99 h2
              go_wp2_with fail
              go_ret
              exact ⟨rfl, HFz.out.then0 hG⟩
        · obtain ⟨hi, hs, hh⟩ := victim_is (L := L) HGN.out (by rw [HVI.out]; exact hv)
          rw [HVI.out] at hi hs hh
          have hid := isId_iff.1 hi
          have hvn : ¬ (n : Int) ≤ vi := by have := HXN.out; omega
          have HI := Lib.hid hi
          have HS := Lib.hid hs
          have HH := Lib.hid hh
          have HW1 := Lib.hid (HW.out.keep0 HG1.out)
          have HF1 := Lib.hid (HF.out.then0 HG1.out)
          have k0 := HW1.out.c0
          clear hi hs hh hid
          go_wp2_with fail
          clear k0
          refine (waiting_c vi HW1.out HGN.out.sane.len).mono ?_
          rintro e w3 ⟨rfl, hf3⟩
          rw [HH.out]
          have HW3 := Lib.hid (HW1.out.keep0 hf3)
          have HF3 := Lib.hid (HF1.out.then0 hf3)
          clear hf3
          go_wp2_with fail
          refine (end11_c vi HW3.out HGN.out.sane.len HGN.out.grn.len HGN.out.grn.sane HC0.out (by have := HC1.out; omega)).mono ?_
          intro e w4 her
          cases her with
          | no h he hw hf => exact absurd (by unfold abortE; rw [HI.out, HS.out]; rfl) h
          | yes h he vx' vt' vq' hw hf =>
          subst he
          have HW4 := Lib.hid hw
          have HF4 := Lib.hid (HF3.out.trans hf (fun k hk => .inr (by have := HWB.out; omega)))
          have HGN4 := Lib.hid (HGN.out.abort (c := clk) h)
          have HLV := Lib.hid (abort_fewer (c := clk) HGN.out.grn HI.out HS.out)
          have HNH : Hid (hasQ (dropQ Q (insL X vi undoB)) vi = false) := Lib.hid (drop_has (abort_self HGN.out.grn HI.out HS.out))
          clear h hw hf
          go_wp2_with fail
          refine (waiting_c vi HW4.out HGN4.out.sane.len).mono ?_
          rintro e w5 ⟨rfl, hf5⟩
          rw [HNH.out]
          have HW5 := Lib.hid (HW4.out.keep0 hf5)
          have HF5 := Lib.hid (HF4.out.then0 hf5)
          clear hf5
          go_wp2_with fail
          go_roundg (liveN (abortX X vi clk))
          case measure => have := HLV.out; have := HKQ.out; omega
          case rel => exact ⟨k + 1, _, _, _, _, _, _, clk + 1, by first | rfl | (go_num), rfl, HW5.out, HGN4.out, by have := HC0.out; omega, by have := HC1.out; omega, by unfold abortX; rw [endL_len]; exact HXN.out, by have := HLV.out; have := HKL.out; omega, HF5.out⟩
end
end Go.Proofs.YtgbaijfgmeealaaGreat
