/-
  Layer 11: WaitsGoOn, the walk. Conditions: none.
-/
import Derived.Test.YtgbaijfgmeealaaGreatL11f
set_option linter.unusedVariables false
set_option linter.unusedSimpArgs false
namespace Go.Proofs.YtgbaijfgmeealaaGreat
open Go.RowKit
theorem reach_nil {step : Int → List Int} {y : Int} (h : Reach step [] y) : False := by
  induction h with
  | here h => simp at h
  | go _ _ ih => exact ih
theorem stuck_empty {X : List Tx9} {L : List Lk} {Q : List Wn} (h : Q = []) (j : Nat) : stuckTo X (edL X L Q) j = [] := by
  subst h
  refine List.eq_nil_iff_forall_not_mem.2 fun a ha => ?_
  obtain ⟨k, -, -, hr⟩ := stuck_mem.1 ha
  have : toOf X (edL X L []) a = [] := rfl
  rw [this] at hr
  exact reach_nil hr
theorem goesB_true {X : List Tx9} {L : List Lk} {Q : List Wn} (h : GrnQ X L Q) (hne : Q ≠ []) (hst : stuckTo X (edL X L Q) X.length = []) : goesB X L Q = true := by
  unfold goesB
  rw [Bool.or_eq_true]
  by_cases hr : readyL X L Q = []
  · left
    obtain ⟨id, hi, hs, hq, hk⟩ := goes_on h hne hst hr
    have hid := isId_iff.1 hi
    refine List.any_eq_true.2 ⟨id.toNat, List.mem_range.2 (by omega), ?_⟩
    rw [show ((id.toNat : Nat) : Int) = id by omega]
    have ha : (List.range X.length).any (kidB X id) = false := by
      rw [List.any_eq_false]
      intro k hkr hkb
      unfold kidsL at hk
      rw [if_pos hs] at hk
      unfold kidsTo at hk
      rw [List.map_eq_nil_iff, List.filter_eq_nil_iff] at hk
      exact hk k hkr hkb
    unfold leafB
    rw [ha, hq, hs]
    rfl
  · right
    have : 0 < (readyL X L Q).length := List.length_pos_iff.2 hr
    simp [this]
section
variable {w : World}
set_option maxRecDepth 100000 in
set_option maxHeartbeats 8000000 in
theorem goon_walk (A : Option Addr) (N cA : Nat) (l : List Act1) (hA : ActsAt w A N l) (hN : N ≤ 9223372036854775807) : Calls Tryz.prog 3 #[.slice A N cA] w fun e w' => e = .returned (.bool true) ∧ Fr F0 w w' := by
  have HACT := Lib.hid hA
  have N0 : (0 : Int) ≤ (N : Int) := Int.natCast_nonneg _
  clear hA
  go_enter Tryz.func3, Tryz.ntmps3
  go_wp2_with fail
  refine (awake11_c).mono ?_
  rintro e w1 ⟨rfl, hf1⟩
  have HF1 := Lib.hid hf1
  clear hf1
  by_cases hbig : 100 < N
  · have hb1 : (100 : Int) < (N : Int) := by omega
    go_wp2_with fail
    go_ret
    exact ⟨rfl, HF1.out⟩
  · have hb1 : ¬ (100 : Int) < (N : Int) := by omega
    go_wp2_with fail
    refine (grown_c (HACT.out.keep0 HF1.out) (by omega)).mono ?_
    intro e w2 hgr
    obtain ⟨wb, X, L, Q, vx, vt, vq, clk, rfl, hw, hg, -, -, -, hf2⟩ := hgr.ex
    obtain ⟨Ax, cx, rfl, -⟩ := hw.sx.ex
    obtain ⟨At, ct, rfl, -⟩ := hw.st.ex
    obtain ⟨Aq, cq, rfl, -⟩ := hw.sq.ex
    obtain ⟨n, hn⟩ : ∃ n, n = X.length := ⟨_, rfl⟩
    obtain ⟨nt, hnt⟩ : ∃ nt, nt = L.length := ⟨_, rfl⟩
    obtain ⟨nq, hnq⟩ : ∃ nq, nq = Q.length := ⟨_, rfl⟩
    obtain ⟨st, hst⟩ : ∃ st, st = stuckTo X (edL X L Q) X.length := ⟨_, rfl⟩
    obtain ⟨ns, hns⟩ : ∃ ns, ns = st.length := ⟨_, rfl⟩
    have HST : Hid (stuckTo X (edL X L Q) X.length = st) := Lib.hid hst.symm
    have HNS : Hid (st.length = ns) := Lib.hid hns.symm
    have HGN := Lib.hid hg
    have HF2 := Lib.hid (HF1.out.then0 hf2)
    have hnil : Q = [] → st = [] := fun e => by rw [hst]; exact stuck_empty e _
    have hgo : Q ≠ [] → st = [] → goesB X L Q = true := fun h1 h2 => goesB_true hg h1 (by rw [← hst]; exact h2)
    rw [← hn, ← hnt, ← hnq] at hw
    have HW := Lib.hid hw
    have k3 := HW.out.c3
    clear hgr hw hg hf2 hn hnt hst
    by_cases hq0 : nq = 0
    · have hQ : Q = [] := List.eq_nil_of_length_eq_zero (by omega)
      have hs0 := hnil hQ
      have hns0 : ns = 0 := by rw [hns, hs0]; rfl
      have g0 : ((nq : Int) == 0) = true := by simp [hq0]
      have HN0 : Hid (((ns : Int) == 0) = true) := Lib.hid (by simp [hns0])
      clear hnq hQ hs0 hns hnil hgo hq0 hns0
      go_wp2_with fail
      refine wp_region_free (S := F0) [false, false, true, false, false, false, false, false, false, false, false, false, false, false, false, false, false, false, false, true, true, true, true, true, true, true, true, true, true, true, true, true, true, true, true, true, true, false, false, false, false, false, false, false, false, false, false, false, false, false, false, false, false, false, false, false, false, false, false, false, false, false, false, false, false, false] [.eq (.bool true), .eq (.bool true), .eq (.pointer (some ⟨wb, 0, none⟩)), .eq (.pointer (some ⟨wb, 0, none⟩)), .eq (.pointer (some ⟨wb, 3, none⟩)), .eq (.agg #[.slice Aq nq cq]), .eq (.pointer (some ⟨wb, 0, none⟩)), .eq (.pointer (some ⟨wb, 0, none⟩)), .eq (.pointer (some ⟨wb, 2, none⟩)), .eq (.agg #[.slice At nt ct]), .eq (.pointer (some ⟨wb, 0, none⟩)), .eq (.pointer (some ⟨wb, 0, none⟩)), .eq (.pointer (some ⟨wb, 0, none⟩)), .eq (.agg #[.slice Ax n cx, .int .i64 clk]), ⟨fun v w1 => ∃ A c, v = .slice A ns c, fun v w1 w2 h hf => h⟩, .eq (.int .i64 (ns : Int)), .eq (.bool true), .eq (.bool true), .eq (.bool true)] (by kernel_rfl) (by kernel_rfl) (by rfl) (fun us => ?steps) (fun us wz hG hall => ?fin)
      case steps =>
        simp only [fillL, Nat.reduceAdd]
        refine stepsHold.cons (fun wx hG hd K hK => ?_) ?_
        · rw [if_pos (wanted_none rfl)]
          refine wp_value (w2 := wx) (v := .bool true) ?_ (hK _ _ rfl (Fr.refl _ _))
          clear hd hG hK
          go_simp
        refine stepsHold.cons (fun wx hG hd K hK => ?_) ?_
        · have h19 : us 19 = (.bool true) := deps_get hd 0 rfl rfl rfl rfl rfl
          rw [if_pos (wanted_none rfl)]
          refine wp_value (w2 := wx) (v := .bool true) ?_ (hK _ _ rfl (Fr.refl _ _))
          clear hd hG hK
          go_simp
        refine stepsHold.cons (fun wx hG hd K hK => ?_) ?_
        · have h20 : us 20 = (.bool true) := deps_get hd 0 rfl rfl rfl rfl rfl
          rw [if_pos (wanted_yes rfl rfl rfl rfl h20)]
          refine wp_value (w2 := wx) (v := .pointer (some ⟨wb, 0, none⟩)) ?_ (hK _ _ rfl (Fr.refl _ _))
          clear hd hG hK
          go_simp
        refine stepsHold.cons (fun wx hG hd K hK => ?_) ?_
        · have h21 : us 21 = (.pointer (some ⟨wb, 0, none⟩)) := deps_get hd 0 rfl rfl rfl rfl rfl
          have h20 : us 20 = (.bool true) := deps_get hd 1 rfl rfl rfl rfl rfl
          rw [if_pos (wanted_yes rfl rfl rfl rfl h20)]
          refine wp_value (w2 := wx) (v := .pointer (some ⟨wb, 0, none⟩)) ?_ (hK _ _ rfl (Fr.refl _ _))
          clear hd hG hK
          go_simp
        refine stepsHold.cons (fun wx hG hd K hK => ?_) ?_
        · have h22 : us 22 = (.pointer (some ⟨wb, 0, none⟩)) := deps_get hd 0 rfl rfl rfl rfl rfl
          have h20 : us 20 = (.bool true) := deps_get hd 1 rfl rfl rfl rfl rfl
          rw [if_pos (wanted_yes rfl rfl rfl rfl h20)]
          refine wp_value (w2 := wx) (v := .pointer (some ⟨wb, 3, none⟩)) ?_ (hK _ _ rfl (Fr.refl _ _))
          clear hd hG hK
          go_simp
        refine stepsHold.cons (fun wx hG hd K hK => ?_) ?_
        · have h23 : us 23 = (.pointer (some ⟨wb, 3, none⟩)) := deps_get hd 0 rfl rfl rfl rfl rfl
          have h20 : us 20 = (.bool true) := deps_get hd 1 rfl rfl rfl rfl rfl
          rw [if_pos (wanted_yes rfl rfl rfl rfl h20)]
          have hc := (HW.out.keep0 hG).c3
          refine wp_value (w2 := wx) (v := .agg #[.slice Aq nq cq]) ?_ (hK _ _ rfl (Fr.refl _ _))
          clear hd hK
          go_simp
        refine stepsHold.cons (fun wx hG hd K hK => ?_) ?_
        · have h20 : us 20 = (.bool true) := deps_get hd 0 rfl rfl rfl rfl rfl
          rw [if_pos (wanted_yes rfl rfl rfl rfl h20)]
          refine wp_value (w2 := wx) (v := .pointer (some ⟨wb, 0, none⟩)) ?_ (hK _ _ rfl (Fr.refl _ _))
          clear hd hG hK
          go_simp
        refine stepsHold.cons (fun wx hG hd K hK => ?_) ?_
        · have h25 : us 25 = (.pointer (some ⟨wb, 0, none⟩)) := deps_get hd 0 rfl rfl rfl rfl rfl
          have h20 : us 20 = (.bool true) := deps_get hd 1 rfl rfl rfl rfl rfl
          rw [if_pos (wanted_yes rfl rfl rfl rfl h20)]
          refine wp_value (w2 := wx) (v := .pointer (some ⟨wb, 0, none⟩)) ?_ (hK _ _ rfl (Fr.refl _ _))
          clear hd hG hK
          go_simp
        refine stepsHold.cons (fun wx hG hd K hK => ?_) ?_
        · have h26 : us 26 = (.pointer (some ⟨wb, 0, none⟩)) := deps_get hd 0 rfl rfl rfl rfl rfl
          have h20 : us 20 = (.bool true) := deps_get hd 1 rfl rfl rfl rfl rfl
          rw [if_pos (wanted_yes rfl rfl rfl rfl h20)]
          refine wp_value (w2 := wx) (v := .pointer (some ⟨wb, 2, none⟩)) ?_ (hK _ _ rfl (Fr.refl _ _))
          clear hd hG hK
          go_simp
        refine stepsHold.cons (fun wx hG hd K hK => ?_) ?_
        · have h27 : us 27 = (.pointer (some ⟨wb, 2, none⟩)) := deps_get hd 0 rfl rfl rfl rfl rfl
          have h20 : us 20 = (.bool true) := deps_get hd 1 rfl rfl rfl rfl rfl
          rw [if_pos (wanted_yes rfl rfl rfl rfl h20)]
          have hc := (HW.out.keep0 hG).c2
          refine wp_value (w2 := wx) (v := .agg #[.slice At nt ct]) ?_ (hK _ _ rfl (Fr.refl _ _))
          clear hd hK
          go_simp
        refine stepsHold.cons (fun wx hG hd K hK => ?_) ?_
        · have h20 : us 20 = (.bool true) := deps_get hd 0 rfl rfl rfl rfl rfl
          rw [if_pos (wanted_yes rfl rfl rfl rfl h20)]
          refine wp_value (w2 := wx) (v := .pointer (some ⟨wb, 0, none⟩)) ?_ (hK _ _ rfl (Fr.refl _ _))
          clear hd hG hK
          go_simp
        refine stepsHold.cons (fun wx hG hd K hK => ?_) ?_
        · have h29 : us 29 = (.pointer (some ⟨wb, 0, none⟩)) := deps_get hd 0 rfl rfl rfl rfl rfl
          have h20 : us 20 = (.bool true) := deps_get hd 1 rfl rfl rfl rfl rfl
          rw [if_pos (wanted_yes rfl rfl rfl rfl h20)]
          refine wp_value (w2 := wx) (v := .pointer (some ⟨wb, 0, none⟩)) ?_ (hK _ _ rfl (Fr.refl _ _))
          clear hd hG hK
          go_simp
        refine stepsHold.cons (fun wx hG hd K hK => ?_) ?_
        · have h30 : us 30 = (.pointer (some ⟨wb, 0, none⟩)) := deps_get hd 0 rfl rfl rfl rfl rfl
          have h20 : us 20 = (.bool true) := deps_get hd 1 rfl rfl rfl rfl rfl
          rw [if_pos (wanted_yes rfl rfl rfl rfl h20)]
          refine wp_value (w2 := wx) (v := .pointer (some ⟨wb, 0, none⟩)) ?_ (hK _ _ rfl (Fr.refl _ _))
          clear hd hG hK
          go_simp
        refine stepsHold.cons (fun wx hG hd K hK => ?_) ?_
        · have h31 : us 31 = (.pointer (some ⟨wb, 0, none⟩)) := deps_get hd 0 rfl rfl rfl rfl rfl
          have h20 : us 20 = (.bool true) := deps_get hd 1 rfl rfl rfl rfl rfl
          rw [if_pos (wanted_yes rfl rfl rfl rfl h20)]
          have hc := (HW.out.keep0 hG).c0
          have hc1 := (HW.out.keep0 hG).c1
          refine wp_value (w2 := wx) (v := .agg #[.slice Ax n cx, .int .i64 clk]) ?_ (hK _ _ rfl (Fr.refl _ _))
          clear hd hK
          go_simp
        refine stepsHold.cons (fun wx hG hd K hK => ?_) ?_
        · have h24 : us 24 = (.agg #[.slice Aq nq cq]) := deps_get hd 0 rfl rfl rfl rfl rfl
          have h28 : us 28 = (.agg #[.slice At nt ct]) := deps_get hd 1 rfl rfl rfl rfl rfl
          have h32 : us 32 = (.agg #[.slice Ax n cx, .int .i64 clk]) := deps_get hd 2 rfl rfl rfl rfl rfl
          have h20 : us 20 = (.bool true) := deps_get hd 3 rfl rfl rfl rfl rfl
          rw [if_pos (wanted_yes rfl rfl rfl rfl h20)]
          refine wp_call (w2 := wx) (f := 8) (args := #[.agg #[.slice Aq nq cq], .agg #[.slice At nt ct], .agg #[.slice Ax n cx, .int .i64 clk]]) ?_ ?_
          · clear hd hK
            go_simp
          · refine (stuck_c clk (HW.out.keep0 hG).sq HGN.out.sane.ok HGN.out.sane.len (HW.out.keep0 hG).st HGN.out.grn.sane (HW.out.keep0 hG).sx HGN.out.grn.len).mono ?_
            rintro e w9 ⟨v9, rfl, hown9, hf9⟩
            rw [HST.out] at hown9
            obtain ⟨A9, c9, rfl, -⟩ := ValsAt.of_own hown9
            rw [HNS.out]
            exact ⟨_, rfl, hK _ _ ⟨A9, c9, rfl⟩ hf9⟩
        refine stepsHold.cons (fun wx hG hd K hK => ?_) ?_
        · have h33 := deps_get hd 0 rfl rfl rfl rfl rfl
          have h20 : us 20 = (.bool true) := deps_get hd 1 rfl rfl rfl rfl rfl
          rw [if_pos (wanted_yes rfl rfl rfl rfl h20)]
          obtain ⟨A9, c9, h33'⟩ := h33
          refine wp_value (w2 := wx) (v := .int .i64 (ns : Int)) ?_ (hK _ _ rfl (Fr.refl _ _))
          clear hd hG hK
          go_simp
        refine stepsHold.cons (fun wx hG hd K hK => ?_) ?_
        · have h34 : us 34 = (.int .i64 (ns : Int)) := deps_get hd 0 rfl rfl rfl rfl rfl
          have h20 : us 20 = (.bool true) := deps_get hd 1 rfl rfl rfl rfl rfl
          rw [if_pos (wanted_yes rfl rfl rfl rfl h20)]
          have hw := HN0.out
          refine wp_value (w2 := wx) (v := .bool true) ?_ (hK _ _ rfl (Fr.refl _ _))
          clear hd hG hK
          go_simp
        refine stepsHold.cons (fun wx hG hd K hK => ?_) ?_
        · have h20 : us 20 = (.bool true) := deps_get hd 0 rfl rfl rfl rfl rfl
          have h35 : us 35 = (.bool true) := deps_get hd 1 rfl rfl rfl rfl rfl
          rw [if_pos (wanted_none rfl)]
          refine wp_value (w2 := wx) (v := .bool true) ?_ (hK _ _ rfl (Fr.refl _ _))
          clear hd hG hK
          go_simp
        refine stepsHold.cons (fun wx hG hd K hK => ?_) ?_
        · have h36 : us 36 = (.bool true) := deps_get hd 0 rfl rfl rfl rfl rfl
          rw [if_pos (wanted_none rfl)]
          refine wp_value (w2 := wx) (v := .bool true) ?_ (hK _ _ rfl (Fr.refl _ _))
          clear hd hG hK
          go_simp
        exact stepsHold.nil
      case fin =>
        have h19 : us 19 = (.bool true) := all_get hall 0 rfl rfl rfl
        have h20 : us 20 = (.bool true) := all_get hall 1 rfl rfl rfl
        have h21 : us 21 = (.pointer (some ⟨wb, 0, none⟩)) := all_get hall 2 rfl rfl rfl
        have h22 : us 22 = (.pointer (some ⟨wb, 0, none⟩)) := all_get hall 3 rfl rfl rfl
        have h23 : us 23 = (.pointer (some ⟨wb, 3, none⟩)) := all_get hall 4 rfl rfl rfl
        have h24 : us 24 = (.agg #[.slice Aq nq cq]) := all_get hall 5 rfl rfl rfl
        have h25 : us 25 = (.pointer (some ⟨wb, 0, none⟩)) := all_get hall 6 rfl rfl rfl
        have h26 : us 26 = (.pointer (some ⟨wb, 0, none⟩)) := all_get hall 7 rfl rfl rfl
        have h27 : us 27 = (.pointer (some ⟨wb, 2, none⟩)) := all_get hall 8 rfl rfl rfl
        have h28 : us 28 = (.agg #[.slice At nt ct]) := all_get hall 9 rfl rfl rfl
        have h29 : us 29 = (.pointer (some ⟨wb, 0, none⟩)) := all_get hall 10 rfl rfl rfl
        have h30 : us 30 = (.pointer (some ⟨wb, 0, none⟩)) := all_get hall 11 rfl rfl rfl
        have h31 : us 31 = (.pointer (some ⟨wb, 0, none⟩)) := all_get hall 12 rfl rfl rfl
        have h32 : us 32 = (.agg #[.slice Ax n cx, .int .i64 clk]) := all_get hall 13 rfl rfl rfl
        have h33 := all_get hall 14 rfl rfl rfl
        have h34 : us 34 = (.int .i64 (ns : Int)) := all_get hall 15 rfl rfl rfl
        have h35 : us 35 = (.bool true) := all_get hall 16 rfl rfl rfl
        have h36 : us 36 = (.bool true) := all_get hall 17 rfl rfl rfl
        have h2 : us 2 = (.bool true) := all_get hall 18 rfl rfl rfl
        simp only [fillL, Nat.reduceAdd]
        clear hall
        simp only [h19, h20, h21, h22, h23, h24, h25, h26, h27, h28, h29, h30, h31, h32, h34, h35, h36, h2]
        clear h19 h20 h21 h22 h23 h24 h25 h26 h27 h28 h29 h30 h31 h32 h34 h35 h36 h2
        go_wp2_with fail
        go_ret
        exact ⟨rfl, HF2.out.then0 hG⟩
    · have hQ : Q ≠ [] := fun e => hq0 (by rw [hnq, e]; rfl)
      have g0 : ((nq : Int) == 0) = false := by simp [hq0]
      by_cases hs0 : ns = 0
      · have hGO := hgo hQ (List.eq_nil_of_length_eq_zero (by omega))
        have HGO := Lib.hid hGO
        have HN0 : Hid (decide ((0 : Int) < (ns : Int)) = false) := Lib.hid (by simp [hs0])
        have HN1 : Hid (ns = 0) := Lib.hid hs0
        clear hnq hQ hns hnil hgo hGO hq0 hs0
        go_wp2_with fail
        refine wp_region_free (S := F0) [false, false, true, false, false, false, false, false, false, false, false, false, false, false, false, false, false, false, false, false, false, false, false, false, false, false, false, false, false, false, false, false, false, false, false, false, false, true, true, true, true, true, true, true, true, true, true, true, true, true, true, true, true, true, true, true, true, true, true, true, true, true, true, true, true, true] [.eq (.bool true), .eq (.bool true), .eq (.pointer (some ⟨wb, 0, none⟩)), .eq (.pointer (some ⟨wb, 0, none⟩)), .eq (.pointer (some ⟨wb, 3, none⟩)), .eq (.agg #[.slice Aq nq cq]), .eq (.bool true), .eq (.bool true), .eq (.bool true), .eq (.pointer (some ⟨wb, 0, none⟩)), .eq (.pointer (some ⟨wb, 0, none⟩)), .eq (.pointer (some ⟨wb, 3, none⟩)), .eq (.agg #[.slice Aq nq cq]), .eq (.pointer (some ⟨wb, 0, none⟩)), .eq (.pointer (some ⟨wb, 0, none⟩)), .eq (.pointer (some ⟨wb, 2, none⟩)), .eq (.agg #[.slice At nt ct]), .eq (.pointer (some ⟨wb, 0, none⟩)), .eq (.pointer (some ⟨wb, 0, none⟩)), .eq (.pointer (some ⟨wb, 0, none⟩)), .eq (.agg #[.slice Ax n cx, .int .i64 clk]), ⟨fun v w1 => ∃ A c, v = .slice A ns c, fun v w1 w2 h hf => h⟩, .eq (.int .i64 (ns : Int)), .eq (.bool false), .eq (.bool false), .eq (.pointer (some ⟨wb, 0, none⟩)), .eq (.bool true), .eq (.bool true), .eq (.bool true), .eq (.bool true)] (by kernel_rfl) (by kernel_rfl) (by rfl) (fun us => ?steps) (fun us wz hG hall => ?fin)
        case steps =>
          simp only [fillL, Nat.reduceAdd]
          refine stepsHold.cons (fun wx hG hd K hK => ?_) ?_
          · rw [if_pos (wanted_none rfl)]
            refine wp_value (w2 := wx) (v := .bool true) ?_ (hK _ _ rfl (Fr.refl _ _))
            clear hd hG hK
            go_simp
          refine stepsHold.cons (fun wx hG hd K hK => ?_) ?_
          · have h37 : us 37 = (.bool true) := deps_get hd 0 rfl rfl rfl rfl rfl
            rw [if_pos (wanted_none rfl)]
            refine wp_value (w2 := wx) (v := .bool true) ?_ (hK _ _ rfl (Fr.refl _ _))
            clear hd hG hK
            go_simp
          refine stepsHold.cons (fun wx hG hd K hK => ?_) ?_
          · have h38 : us 38 = (.bool true) := deps_get hd 0 rfl rfl rfl rfl rfl
            rw [if_pos (wanted_yes rfl rfl rfl rfl h38)]
            refine wp_value (w2 := wx) (v := .pointer (some ⟨wb, 0, none⟩)) ?_ (hK _ _ rfl (Fr.refl _ _))
            clear hd hG hK
            go_simp
          refine stepsHold.cons (fun wx hG hd K hK => ?_) ?_
          · have h39 : us 39 = (.pointer (some ⟨wb, 0, none⟩)) := deps_get hd 0 rfl rfl rfl rfl rfl
            have h38 : us 38 = (.bool true) := deps_get hd 1 rfl rfl rfl rfl rfl
            rw [if_pos (wanted_yes rfl rfl rfl rfl h38)]
            refine wp_value (w2 := wx) (v := .pointer (some ⟨wb, 0, none⟩)) ?_ (hK _ _ rfl (Fr.refl _ _))
            clear hd hG hK
            go_simp
          refine stepsHold.cons (fun wx hG hd K hK => ?_) ?_
          · have h40 : us 40 = (.pointer (some ⟨wb, 0, none⟩)) := deps_get hd 0 rfl rfl rfl rfl rfl
            have h38 : us 38 = (.bool true) := deps_get hd 1 rfl rfl rfl rfl rfl
            rw [if_pos (wanted_yes rfl rfl rfl rfl h38)]
            refine wp_value (w2 := wx) (v := .pointer (some ⟨wb, 3, none⟩)) ?_ (hK _ _ rfl (Fr.refl _ _))
            clear hd hG hK
            go_simp
          refine stepsHold.cons (fun wx hG hd K hK => ?_) ?_
          · have h41 : us 41 = (.pointer (some ⟨wb, 3, none⟩)) := deps_get hd 0 rfl rfl rfl rfl rfl
            have h38 : us 38 = (.bool true) := deps_get hd 1 rfl rfl rfl rfl rfl
            rw [if_pos (wanted_yes rfl rfl rfl rfl h38)]
            have hc := (HW.out.keep0 hG).c3
            refine wp_value (w2 := wx) (v := .agg #[.slice Aq nq cq]) ?_ (hK _ _ rfl (Fr.refl _ _))
            clear hd hK
            go_simp
          refine stepsHold.cons (fun wx hG hd K hK => ?_) ?_
          · have h42 : us 42 = (.agg #[.slice Aq nq cq]) := deps_get hd 0 rfl rfl rfl rfl rfl
            have h38 : us 38 = (.bool true) := deps_get hd 1 rfl rfl rfl rfl rfl
            rw [if_pos (wanted_yes rfl rfl rfl rfl h38)]
            refine wp_call (w2 := wx) (f := 9) (args := #[.agg #[.slice Aq nq cq]]) ?_ ?_
            · clear hd hK
              go_simp
            · refine (qsane_c (HW.out.keep0 hG).sq HGN.out.sane).mono ?_
              rintro e w9 ⟨rfl, hf9⟩
              exact ⟨_, rfl, hK _ _ rfl hf9⟩
          refine stepsHold.cons (fun wx hG hd K hK => ?_) ?_
          · have h38 : us 38 = (.bool true) := deps_get hd 0 rfl rfl rfl rfl rfl
            have h43 : us 43 = (.bool true) := deps_get hd 1 rfl rfl rfl rfl rfl
            rw [if_pos (wanted_none rfl)]
            refine wp_value (w2 := wx) (v := .bool true) ?_ (hK _ _ rfl (Fr.refl _ _))
            clear hd hG hK
            go_simp
          refine stepsHold.cons (fun wx hG hd K hK => ?_) ?_
          · have h44 : us 44 = (.bool true) := deps_get hd 0 rfl rfl rfl rfl rfl
            rw [if_pos (wanted_none rfl)]
            refine wp_value (w2 := wx) (v := .bool true) ?_ (hK _ _ rfl (Fr.refl _ _))
            clear hd hG hK
            go_simp
          refine stepsHold.cons (fun wx hG hd K hK => ?_) ?_
          · have h45 : us 45 = (.bool true) := deps_get hd 0 rfl rfl rfl rfl rfl
            rw [if_pos (wanted_yes rfl rfl rfl rfl h45)]
            refine wp_value (w2 := wx) (v := .pointer (some ⟨wb, 0, none⟩)) ?_ (hK _ _ rfl (Fr.refl _ _))
            clear hd hG hK
            go_simp
          refine stepsHold.cons (fun wx hG hd K hK => ?_) ?_
          · have h46 : us 46 = (.pointer (some ⟨wb, 0, none⟩)) := deps_get hd 0 rfl rfl rfl rfl rfl
            have h45 : us 45 = (.bool true) := deps_get hd 1 rfl rfl rfl rfl rfl
            rw [if_pos (wanted_yes rfl rfl rfl rfl h45)]
            refine wp_value (w2 := wx) (v := .pointer (some ⟨wb, 0, none⟩)) ?_ (hK _ _ rfl (Fr.refl _ _))
            clear hd hG hK
            go_simp
          refine stepsHold.cons (fun wx hG hd K hK => ?_) ?_
          · have h47 : us 47 = (.pointer (some ⟨wb, 0, none⟩)) := deps_get hd 0 rfl rfl rfl rfl rfl
            have h45 : us 45 = (.bool true) := deps_get hd 1 rfl rfl rfl rfl rfl
            rw [if_pos (wanted_yes rfl rfl rfl rfl h45)]
            refine wp_value (w2 := wx) (v := .pointer (some ⟨wb, 3, none⟩)) ?_ (hK _ _ rfl (Fr.refl _ _))
            clear hd hG hK
            go_simp
          refine stepsHold.cons (fun wx hG hd K hK => ?_) ?_
          · have h48 : us 48 = (.pointer (some ⟨wb, 3, none⟩)) := deps_get hd 0 rfl rfl rfl rfl rfl
            have h45 : us 45 = (.bool true) := deps_get hd 1 rfl rfl rfl rfl rfl
            rw [if_pos (wanted_yes rfl rfl rfl rfl h45)]
            have hc := (HW.out.keep0 hG).c3
            refine wp_value (w2 := wx) (v := .agg #[.slice Aq nq cq]) ?_ (hK _ _ rfl (Fr.refl _ _))
            clear hd hK
            go_simp
          refine stepsHold.cons (fun wx hG hd K hK => ?_) ?_
          · have h45 : us 45 = (.bool true) := deps_get hd 0 rfl rfl rfl rfl rfl
            rw [if_pos (wanted_yes rfl rfl rfl rfl h45)]
            refine wp_value (w2 := wx) (v := .pointer (some ⟨wb, 0, none⟩)) ?_ (hK _ _ rfl (Fr.refl _ _))
            clear hd hG hK
            go_simp
          refine stepsHold.cons (fun wx hG hd K hK => ?_) ?_
          · have h50 : us 50 = (.pointer (some ⟨wb, 0, none⟩)) := deps_get hd 0 rfl rfl rfl rfl rfl
            have h45 : us 45 = (.bool true) := deps_get hd 1 rfl rfl rfl rfl rfl
            rw [if_pos (wanted_yes rfl rfl rfl rfl h45)]
            refine wp_value (w2 := wx) (v := .pointer (some ⟨wb, 0, none⟩)) ?_ (hK _ _ rfl (Fr.refl _ _))
            clear hd hG hK
            go_simp
          refine stepsHold.cons (fun wx hG hd K hK => ?_) ?_
          · have h51 : us 51 = (.pointer (some ⟨wb, 0, none⟩)) := deps_get hd 0 rfl rfl rfl rfl rfl
            have h45 : us 45 = (.bool true) := deps_get hd 1 rfl rfl rfl rfl rfl
            rw [if_pos (wanted_yes rfl rfl rfl rfl h45)]
            refine wp_value (w2 := wx) (v := .pointer (some ⟨wb, 2, none⟩)) ?_ (hK _ _ rfl (Fr.refl _ _))
            clear hd hG hK
            go_simp
          refine stepsHold.cons (fun wx hG hd K hK => ?_) ?_
          · have h52 : us 52 = (.pointer (some ⟨wb, 2, none⟩)) := deps_get hd 0 rfl rfl rfl rfl rfl
            have h45 : us 45 = (.bool true) := deps_get hd 1 rfl rfl rfl rfl rfl
            rw [if_pos (wanted_yes rfl rfl rfl rfl h45)]
            have hc := (HW.out.keep0 hG).c2
            refine wp_value (w2 := wx) (v := .agg #[.slice At nt ct]) ?_ (hK _ _ rfl (Fr.refl _ _))
            clear hd hK
            go_simp
          refine stepsHold.cons (fun wx hG hd K hK => ?_) ?_
          · have h45 : us 45 = (.bool true) := deps_get hd 0 rfl rfl rfl rfl rfl
            rw [if_pos (wanted_yes rfl rfl rfl rfl h45)]
            refine wp_value (w2 := wx) (v := .pointer (some ⟨wb, 0, none⟩)) ?_ (hK _ _ rfl (Fr.refl _ _))
            clear hd hG hK
            go_simp
          refine stepsHold.cons (fun wx hG hd K hK => ?_) ?_
          · have h54 : us 54 = (.pointer (some ⟨wb, 0, none⟩)) := deps_get hd 0 rfl rfl rfl rfl rfl
            have h45 : us 45 = (.bool true) := deps_get hd 1 rfl rfl rfl rfl rfl
            rw [if_pos (wanted_yes rfl rfl rfl rfl h45)]
            refine wp_value (w2 := wx) (v := .pointer (some ⟨wb, 0, none⟩)) ?_ (hK _ _ rfl (Fr.refl _ _))
            clear hd hG hK
            go_simp
          refine stepsHold.cons (fun wx hG hd K hK => ?_) ?_
          · have h55 : us 55 = (.pointer (some ⟨wb, 0, none⟩)) := deps_get hd 0 rfl rfl rfl rfl rfl
            have h45 : us 45 = (.bool true) := deps_get hd 1 rfl rfl rfl rfl rfl
            rw [if_pos (wanted_yes rfl rfl rfl rfl h45)]
            refine wp_value (w2 := wx) (v := .pointer (some ⟨wb, 0, none⟩)) ?_ (hK _ _ rfl (Fr.refl _ _))
            clear hd hG hK
            go_simp
          refine stepsHold.cons (fun wx hG hd K hK => ?_) ?_
          · have h56 : us 56 = (.pointer (some ⟨wb, 0, none⟩)) := deps_get hd 0 rfl rfl rfl rfl rfl
            have h45 : us 45 = (.bool true) := deps_get hd 1 rfl rfl rfl rfl rfl
            rw [if_pos (wanted_yes rfl rfl rfl rfl h45)]
            have hc := (HW.out.keep0 hG).c0
            have hc1 := (HW.out.keep0 hG).c1
            refine wp_value (w2 := wx) (v := .agg #[.slice Ax n cx, .int .i64 clk]) ?_ (hK _ _ rfl (Fr.refl _ _))
            clear hd hK
            go_simp
          refine stepsHold.cons (fun wx hG hd K hK => ?_) ?_
          · have h49 : us 49 = (.agg #[.slice Aq nq cq]) := deps_get hd 0 rfl rfl rfl rfl rfl
            have h53 : us 53 = (.agg #[.slice At nt ct]) := deps_get hd 1 rfl rfl rfl rfl rfl
            have h57 : us 57 = (.agg #[.slice Ax n cx, .int .i64 clk]) := deps_get hd 2 rfl rfl rfl rfl rfl
            have h45 : us 45 = (.bool true) := deps_get hd 3 rfl rfl rfl rfl rfl
            rw [if_pos (wanted_yes rfl rfl rfl rfl h45)]
            refine wp_call (w2 := wx) (f := 8) (args := #[.agg #[.slice Aq nq cq], .agg #[.slice At nt ct], .agg #[.slice Ax n cx, .int .i64 clk]]) ?_ ?_
            · clear hd hK
              go_simp
            · refine (stuck_c clk (HW.out.keep0 hG).sq HGN.out.sane.ok HGN.out.sane.len (HW.out.keep0 hG).st HGN.out.grn.sane (HW.out.keep0 hG).sx HGN.out.grn.len).mono ?_
              rintro e w9 ⟨v9, rfl, hown9, hf9⟩
              rw [HST.out] at hown9
              obtain ⟨A9, c9, rfl, -⟩ := ValsAt.of_own hown9
              rw [HNS.out]
              exact ⟨_, rfl, hK _ _ ⟨A9, c9, rfl⟩ hf9⟩
          refine stepsHold.cons (fun wx hG hd K hK => ?_) ?_
          · have h58 := deps_get hd 0 rfl rfl rfl rfl rfl
            have h45 : us 45 = (.bool true) := deps_get hd 1 rfl rfl rfl rfl rfl
            rw [if_pos (wanted_yes rfl rfl rfl rfl h45)]
            obtain ⟨A9, c9, h58'⟩ := h58
            refine wp_value (w2 := wx) (v := .int .i64 (ns : Int)) ?_ (hK _ _ rfl (Fr.refl _ _))
            clear hd hG hK
            go_simp
          refine stepsHold.cons (fun wx hG hd K hK => ?_) ?_
          · have h59 : us 59 = (.int .i64 (ns : Int)) := deps_get hd 0 rfl rfl rfl rfl rfl
            have h45 : us 45 = (.bool true) := deps_get hd 1 rfl rfl rfl rfl rfl
            rw [if_pos (wanted_yes rfl rfl rfl rfl h45)]
            have hw := HN0.out
            refine wp_value (w2 := wx) (v := .bool false) ?_ (hK _ _ rfl (Fr.refl _ _))
            clear hd hG hK
            go_simp
            try exact HN1.out
          refine stepsHold.cons (fun wx hG hd K hK => ?_) ?_
          · have h60 : us 60 = (.bool false) := deps_get hd 0 rfl rfl rfl rfl rfl
            have h45 : us 45 = (.bool true) := deps_get hd 2 rfl rfl rfl rfl rfl
            rw [if_pos (wanted_yes rfl rfl rfl rfl h45)]
            refine wp_value (w2 := wx) (v := .bool false) ?_ (hK _ _ rfl (Fr.refl _ _))
            clear hd hG hK
            go_simp
          refine stepsHold.cons (fun wx hG hd K hK => ?_) ?_
          · have h61 : us 61 = (.bool false) := deps_get hd 0 rfl rfl rfl rfl rfl
            rw [if_pos (wanted_yes rfl rfl rfl rfl h61)]
            refine wp_value (w2 := wx) (v := .pointer (some ⟨wb, 0, none⟩)) ?_ (hK _ _ rfl (Fr.refl _ _))
            clear hd hG hK
            go_simp
          refine stepsHold.cons (fun wx hG hd K hK => ?_) ?_
          · have h62 : us 62 = (.pointer (some ⟨wb, 0, none⟩)) := deps_get hd 0 rfl rfl rfl rfl rfl
            have h61 : us 61 = (.bool false) := deps_get hd 1 rfl rfl rfl rfl rfl
            rw [if_pos (wanted_yes rfl rfl rfl rfl h61)]
            refine wp_call (w2 := wx) (f := 10) (args := #[.pointer (some ⟨wb, 0, none⟩)]) ?_ ?_
            · clear hd hK
              go_simp
            · refine (goes_c (HW.out.keep0 hG) HGN.out).mono ?_
              rintro e w9 ⟨rfl, hf9⟩
              rw [HGO.out]
              exact ⟨_, rfl, hK _ _ rfl hf9⟩
          refine stepsHold.cons (fun wx hG hd K hK => ?_) ?_
          · have h61 : us 61 = (.bool false) := deps_get hd 0 rfl rfl rfl rfl rfl
            have h63 : us 63 = (.bool true) := deps_get hd 1 rfl rfl rfl rfl rfl
            have h45 : us 45 = (.bool true) := deps_get hd 2 rfl rfl rfl rfl rfl
            rw [if_pos (wanted_yes rfl rfl rfl rfl h45)]
            refine wp_value (w2 := wx) (v := .bool true) ?_ (hK _ _ rfl (Fr.refl _ _))
            clear hd hG hK
            go_simp
          refine stepsHold.cons (fun wx hG hd K hK => ?_) ?_
          · have h45 : us 45 = (.bool true) := deps_get hd 0 rfl rfl rfl rfl rfl
            have h64 : us 64 = (.bool true) := deps_get hd 1 rfl rfl rfl rfl rfl
            rw [if_pos (wanted_none rfl)]
            refine wp_value (w2 := wx) (v := .bool true) ?_ (hK _ _ rfl (Fr.refl _ _))
            clear hd hG hK
            go_simp
          refine stepsHold.cons (fun wx hG hd K hK => ?_) ?_
          · have h65 : us 65 = (.bool true) := deps_get hd 0 rfl rfl rfl rfl rfl
            rw [if_pos (wanted_none rfl)]
            refine wp_value (w2 := wx) (v := .bool true) ?_ (hK _ _ rfl (Fr.refl _ _))
            clear hd hG hK
            go_simp
          exact stepsHold.nil
        case fin =>
          have h37 : us 37 = (.bool true) := all_get hall 0 rfl rfl rfl
          have h38 : us 38 = (.bool true) := all_get hall 1 rfl rfl rfl
          have h39 : us 39 = (.pointer (some ⟨wb, 0, none⟩)) := all_get hall 2 rfl rfl rfl
          have h40 : us 40 = (.pointer (some ⟨wb, 0, none⟩)) := all_get hall 3 rfl rfl rfl
          have h41 : us 41 = (.pointer (some ⟨wb, 3, none⟩)) := all_get hall 4 rfl rfl rfl
          have h42 : us 42 = (.agg #[.slice Aq nq cq]) := all_get hall 5 rfl rfl rfl
          have h43 : us 43 = (.bool true) := all_get hall 6 rfl rfl rfl
          have h44 : us 44 = (.bool true) := all_get hall 7 rfl rfl rfl
          have h45 : us 45 = (.bool true) := all_get hall 8 rfl rfl rfl
          have h46 : us 46 = (.pointer (some ⟨wb, 0, none⟩)) := all_get hall 9 rfl rfl rfl
          have h47 : us 47 = (.pointer (some ⟨wb, 0, none⟩)) := all_get hall 10 rfl rfl rfl
          have h48 : us 48 = (.pointer (some ⟨wb, 3, none⟩)) := all_get hall 11 rfl rfl rfl
          have h49 : us 49 = (.agg #[.slice Aq nq cq]) := all_get hall 12 rfl rfl rfl
          have h50 : us 50 = (.pointer (some ⟨wb, 0, none⟩)) := all_get hall 13 rfl rfl rfl
          have h51 : us 51 = (.pointer (some ⟨wb, 0, none⟩)) := all_get hall 14 rfl rfl rfl
          have h52 : us 52 = (.pointer (some ⟨wb, 2, none⟩)) := all_get hall 15 rfl rfl rfl
          have h53 : us 53 = (.agg #[.slice At nt ct]) := all_get hall 16 rfl rfl rfl
          have h54 : us 54 = (.pointer (some ⟨wb, 0, none⟩)) := all_get hall 17 rfl rfl rfl
          have h55 : us 55 = (.pointer (some ⟨wb, 0, none⟩)) := all_get hall 18 rfl rfl rfl
          have h56 : us 56 = (.pointer (some ⟨wb, 0, none⟩)) := all_get hall 19 rfl rfl rfl
          have h57 : us 57 = (.agg #[.slice Ax n cx, .int .i64 clk]) := all_get hall 20 rfl rfl rfl
          have h58 := all_get hall 21 rfl rfl rfl
          have h59 : us 59 = (.int .i64 (ns : Int)) := all_get hall 22 rfl rfl rfl
          have h60 : us 60 = (.bool false) := all_get hall 23 rfl rfl rfl
          have h61 : us 61 = (.bool false) := all_get hall 24 rfl rfl rfl
          have h62 : us 62 = (.pointer (some ⟨wb, 0, none⟩)) := all_get hall 25 rfl rfl rfl
          have h63 : us 63 = (.bool true) := all_get hall 26 rfl rfl rfl
          have h64 : us 64 = (.bool true) := all_get hall 27 rfl rfl rfl
          have h65 : us 65 = (.bool true) := all_get hall 28 rfl rfl rfl
          have h2 : us 2 = (.bool true) := all_get hall 29 rfl rfl rfl
          simp only [fillL, Nat.reduceAdd]
          clear hall
          simp only [h37, h38, h39, h40, h41, h42, h43, h44, h45, h46, h47, h48, h49, h50, h51, h52, h53, h54, h55, h56, h57, h59, h60, h61, h62, h63, h64, h65, h2]
          clear h37 h38 h39 h40 h41 h42 h43 h44 h45 h46 h47 h48 h49 h50 h51 h52 h53 h54 h55 h56 h57 h59 h60 h61 h62 h63 h64 h65 h2
          go_wp2_with fail
          go_ret
          exact ⟨rfl, HF2.out.then0 hG⟩
      · have HN0 : Hid ((0 : Int) < (ns : Int)) := Lib.hid (by omega)
        have HN1 : Hid (0 < ns) := Lib.hid (by omega)
        clear hnq hQ hns hnil hgo hq0 hs0
        go_wp2_with fail
        refine wp_region_free (S := F0) [false, false, true, false, false, false, false, false, false, false, false, false, false, false, false, false, false, false, false, false, false, false, false, false, false, false, false, false, false, false, false, false, false, false, false, false, false, true, true, true, true, true, true, true, true, true, true, true, true, true, true, true, true, true, true, true, true, true, true, true, true, true, true, true, true, true] [.eq (.bool true), .eq (.bool true), .eq (.pointer (some ⟨wb, 0, none⟩)), .eq (.pointer (some ⟨wb, 0, none⟩)), .eq (.pointer (some ⟨wb, 3, none⟩)), .eq (.agg #[.slice Aq nq cq]), .eq (.bool true), .eq (.bool true), .eq (.bool true), .eq (.pointer (some ⟨wb, 0, none⟩)), .eq (.pointer (some ⟨wb, 0, none⟩)), .eq (.pointer (some ⟨wb, 3, none⟩)), .eq (.agg #[.slice Aq nq cq]), .eq (.pointer (some ⟨wb, 0, none⟩)), .eq (.pointer (some ⟨wb, 0, none⟩)), .eq (.pointer (some ⟨wb, 2, none⟩)), .eq (.agg #[.slice At nt ct]), .eq (.pointer (some ⟨wb, 0, none⟩)), .eq (.pointer (some ⟨wb, 0, none⟩)), .eq (.pointer (some ⟨wb, 0, none⟩)), .eq (.agg #[.slice Ax n cx, .int .i64 clk]), ⟨fun v w1 => ∃ A c, v = .slice A ns c, fun v w1 w2 h hf => h⟩, .eq (.int .i64 (ns : Int)), .eq (.bool true), .eq (.bool true), .eq undef, .eq undef, .eq (.bool true), .eq (.bool true), .eq (.bool true)] (by kernel_rfl) (by kernel_rfl) (by rfl) (fun us => ?steps) (fun us wz hG hall => ?fin)
        case steps =>
          simp only [fillL, Nat.reduceAdd]
          refine stepsHold.cons (fun wx hG hd K hK => ?_) ?_
          · rw [if_pos (wanted_none rfl)]
            refine wp_value (w2 := wx) (v := .bool true) ?_ (hK _ _ rfl (Fr.refl _ _))
            clear hd hG hK
            go_simp
          refine stepsHold.cons (fun wx hG hd K hK => ?_) ?_
          · have h37 : us 37 = (.bool true) := deps_get hd 0 rfl rfl rfl rfl rfl
            rw [if_pos (wanted_none rfl)]
            refine wp_value (w2 := wx) (v := .bool true) ?_ (hK _ _ rfl (Fr.refl _ _))
            clear hd hG hK
            go_simp
          refine stepsHold.cons (fun wx hG hd K hK => ?_) ?_
          · have h38 : us 38 = (.bool true) := deps_get hd 0 rfl rfl rfl rfl rfl
            rw [if_pos (wanted_yes rfl rfl rfl rfl h38)]
            refine wp_value (w2 := wx) (v := .pointer (some ⟨wb, 0, none⟩)) ?_ (hK _ _ rfl (Fr.refl _ _))
            clear hd hG hK
            go_simp
          refine stepsHold.cons (fun wx hG hd K hK => ?_) ?_
          · have h39 : us 39 = (.pointer (some ⟨wb, 0, none⟩)) := deps_get hd 0 rfl rfl rfl rfl rfl
            have h38 : us 38 = (.bool true) := deps_get hd 1 rfl rfl rfl rfl rfl
            rw [if_pos (wanted_yes rfl rfl rfl rfl h38)]
            refine wp_value (w2 := wx) (v := .pointer (some ⟨wb, 0, none⟩)) ?_ (hK _ _ rfl (Fr.refl _ _))
            clear hd hG hK
            go_simp
          refine stepsHold.cons (fun wx hG hd K hK => ?_) ?_
          · have h40 : us 40 = (.pointer (some ⟨wb, 0, none⟩)) := deps_get hd 0 rfl rfl rfl rfl rfl
            have h38 : us 38 = (.bool true) := deps_get hd 1 rfl rfl rfl rfl rfl
            rw [if_pos (wanted_yes rfl rfl rfl rfl h38)]
            refine wp_value (w2 := wx) (v := .pointer (some ⟨wb, 3, none⟩)) ?_ (hK _ _ rfl (Fr.refl _ _))
            clear hd hG hK
            go_simp
          refine stepsHold.cons (fun wx hG hd K hK => ?_) ?_
          · have h41 : us 41 = (.pointer (some ⟨wb, 3, none⟩)) := deps_get hd 0 rfl rfl rfl rfl rfl
            have h38 : us 38 = (.bool true) := deps_get hd 1 rfl rfl rfl rfl rfl
            rw [if_pos (wanted_yes rfl rfl rfl rfl h38)]
            have hc := (HW.out.keep0 hG).c3
            refine wp_value (w2 := wx) (v := .agg #[.slice Aq nq cq]) ?_ (hK _ _ rfl (Fr.refl _ _))
            clear hd hK
            go_simp
          refine stepsHold.cons (fun wx hG hd K hK => ?_) ?_
          · have h42 : us 42 = (.agg #[.slice Aq nq cq]) := deps_get hd 0 rfl rfl rfl rfl rfl
            have h38 : us 38 = (.bool true) := deps_get hd 1 rfl rfl rfl rfl rfl
            rw [if_pos (wanted_yes rfl rfl rfl rfl h38)]
            refine wp_call (w2 := wx) (f := 9) (args := #[.agg #[.slice Aq nq cq]]) ?_ ?_
            · clear hd hK
              go_simp
            · refine (qsane_c (HW.out.keep0 hG).sq HGN.out.sane).mono ?_
              rintro e w9 ⟨rfl, hf9⟩
              exact ⟨_, rfl, hK _ _ rfl hf9⟩
          refine stepsHold.cons (fun wx hG hd K hK => ?_) ?_
          · have h38 : us 38 = (.bool true) := deps_get hd 0 rfl rfl rfl rfl rfl
            have h43 : us 43 = (.bool true) := deps_get hd 1 rfl rfl rfl rfl rfl
            rw [if_pos (wanted_none rfl)]
            refine wp_value (w2 := wx) (v := .bool true) ?_ (hK _ _ rfl (Fr.refl _ _))
            clear hd hG hK
            go_simp
          refine stepsHold.cons (fun wx hG hd K hK => ?_) ?_
          · have h44 : us 44 = (.bool true) := deps_get hd 0 rfl rfl rfl rfl rfl
            rw [if_pos (wanted_none rfl)]
            refine wp_value (w2 := wx) (v := .bool true) ?_ (hK _ _ rfl (Fr.refl _ _))
            clear hd hG hK
            go_simp
          refine stepsHold.cons (fun wx hG hd K hK => ?_) ?_
          · have h45 : us 45 = (.bool true) := deps_get hd 0 rfl rfl rfl rfl rfl
            rw [if_pos (wanted_yes rfl rfl rfl rfl h45)]
            refine wp_value (w2 := wx) (v := .pointer (some ⟨wb, 0, none⟩)) ?_ (hK _ _ rfl (Fr.refl _ _))
            clear hd hG hK
            go_simp
          refine stepsHold.cons (fun wx hG hd K hK => ?_) ?_
          · have h46 : us 46 = (.pointer (some ⟨wb, 0, none⟩)) := deps_get hd 0 rfl rfl rfl rfl rfl
            have h45 : us 45 = (.bool true) := deps_get hd 1 rfl rfl rfl rfl rfl
            rw [if_pos (wanted_yes rfl rfl rfl rfl h45)]
            refine wp_value (w2 := wx) (v := .pointer (some ⟨wb, 0, none⟩)) ?_ (hK _ _ rfl (Fr.refl _ _))
            clear hd hG hK
            go_simp
          refine stepsHold.cons (fun wx hG hd K hK => ?_) ?_
          · have h47 : us 47 = (.pointer (some ⟨wb, 0, none⟩)) := deps_get hd 0 rfl rfl rfl rfl rfl
            have h45 : us 45 = (.bool true) := deps_get hd 1 rfl rfl rfl rfl rfl
            rw [if_pos (wanted_yes rfl rfl rfl rfl h45)]
            refine wp_value (w2 := wx) (v := .pointer (some ⟨wb, 3, none⟩)) ?_ (hK _ _ rfl (Fr.refl _ _))
            clear hd hG hK
            go_simp
          refine stepsHold.cons (fun wx hG hd K hK => ?_) ?_
          · have h48 : us 48 = (.pointer (some ⟨wb, 3, none⟩)) := deps_get hd 0 rfl rfl rfl rfl rfl
            have h45 : us 45 = (.bool true) := deps_get hd 1 rfl rfl rfl rfl rfl
            rw [if_pos (wanted_yes rfl rfl rfl rfl h45)]
            have hc := (HW.out.keep0 hG).c3
            refine wp_value (w2 := wx) (v := .agg #[.slice Aq nq cq]) ?_ (hK _ _ rfl (Fr.refl _ _))
            clear hd hK
            go_simp
          refine stepsHold.cons (fun wx hG hd K hK => ?_) ?_
          · have h45 : us 45 = (.bool true) := deps_get hd 0 rfl rfl rfl rfl rfl
            rw [if_pos (wanted_yes rfl rfl rfl rfl h45)]
            refine wp_value (w2 := wx) (v := .pointer (some ⟨wb, 0, none⟩)) ?_ (hK _ _ rfl (Fr.refl _ _))
            clear hd hG hK
            go_simp
          refine stepsHold.cons (fun wx hG hd K hK => ?_) ?_
          · have h50 : us 50 = (.pointer (some ⟨wb, 0, none⟩)) := deps_get hd 0 rfl rfl rfl rfl rfl
            have h45 : us 45 = (.bool true) := deps_get hd 1 rfl rfl rfl rfl rfl
            rw [if_pos (wanted_yes rfl rfl rfl rfl h45)]
            refine wp_value (w2 := wx) (v := .pointer (some ⟨wb, 0, none⟩)) ?_ (hK _ _ rfl (Fr.refl _ _))
            clear hd hG hK
            go_simp
          refine stepsHold.cons (fun wx hG hd K hK => ?_) ?_
          · have h51 : us 51 = (.pointer (some ⟨wb, 0, none⟩)) := deps_get hd 0 rfl rfl rfl rfl rfl
            have h45 : us 45 = (.bool true) := deps_get hd 1 rfl rfl rfl rfl rfl
            rw [if_pos (wanted_yes rfl rfl rfl rfl h45)]
            refine wp_value (w2 := wx) (v := .pointer (some ⟨wb, 2, none⟩)) ?_ (hK _ _ rfl (Fr.refl _ _))
            clear hd hG hK
            go_simp
          refine stepsHold.cons (fun wx hG hd K hK => ?_) ?_
          · have h52 : us 52 = (.pointer (some ⟨wb, 2, none⟩)) := deps_get hd 0 rfl rfl rfl rfl rfl
            have h45 : us 45 = (.bool true) := deps_get hd 1 rfl rfl rfl rfl rfl
            rw [if_pos (wanted_yes rfl rfl rfl rfl h45)]
            have hc := (HW.out.keep0 hG).c2
            refine wp_value (w2 := wx) (v := .agg #[.slice At nt ct]) ?_ (hK _ _ rfl (Fr.refl _ _))
            clear hd hK
            go_simp
          refine stepsHold.cons (fun wx hG hd K hK => ?_) ?_
          · have h45 : us 45 = (.bool true) := deps_get hd 0 rfl rfl rfl rfl rfl
            rw [if_pos (wanted_yes rfl rfl rfl rfl h45)]
            refine wp_value (w2 := wx) (v := .pointer (some ⟨wb, 0, none⟩)) ?_ (hK _ _ rfl (Fr.refl _ _))
            clear hd hG hK
            go_simp
          refine stepsHold.cons (fun wx hG hd K hK => ?_) ?_
          · have h54 : us 54 = (.pointer (some ⟨wb, 0, none⟩)) := deps_get hd 0 rfl rfl rfl rfl rfl
            have h45 : us 45 = (.bool true) := deps_get hd 1 rfl rfl rfl rfl rfl
            rw [if_pos (wanted_yes rfl rfl rfl rfl h45)]
            refine wp_value (w2 := wx) (v := .pointer (some ⟨wb, 0, none⟩)) ?_ (hK _ _ rfl (Fr.refl _ _))
            clear hd hG hK
            go_simp
          refine stepsHold.cons (fun wx hG hd K hK => ?_) ?_
          · have h55 : us 55 = (.pointer (some ⟨wb, 0, none⟩)) := deps_get hd 0 rfl rfl rfl rfl rfl
            have h45 : us 45 = (.bool true) := deps_get hd 1 rfl rfl rfl rfl rfl
            rw [if_pos (wanted_yes rfl rfl rfl rfl h45)]
            refine wp_value (w2 := wx) (v := .pointer (some ⟨wb, 0, none⟩)) ?_ (hK _ _ rfl (Fr.refl _ _))
            clear hd hG hK
            go_simp
          refine stepsHold.cons (fun wx hG hd K hK => ?_) ?_
          · have h56 : us 56 = (.pointer (some ⟨wb, 0, none⟩)) := deps_get hd 0 rfl rfl rfl rfl rfl
            have h45 : us 45 = (.bool true) := deps_get hd 1 rfl rfl rfl rfl rfl
            rw [if_pos (wanted_yes rfl rfl rfl rfl h45)]
            have hc := (HW.out.keep0 hG).c0
            have hc1 := (HW.out.keep0 hG).c1
            refine wp_value (w2 := wx) (v := .agg #[.slice Ax n cx, .int .i64 clk]) ?_ (hK _ _ rfl (Fr.refl _ _))
            clear hd hK
            go_simp
          refine stepsHold.cons (fun wx hG hd K hK => ?_) ?_
          · have h49 : us 49 = (.agg #[.slice Aq nq cq]) := deps_get hd 0 rfl rfl rfl rfl rfl
            have h53 : us 53 = (.agg #[.slice At nt ct]) := deps_get hd 1 rfl rfl rfl rfl rfl
            have h57 : us 57 = (.agg #[.slice Ax n cx, .int .i64 clk]) := deps_get hd 2 rfl rfl rfl rfl rfl
            have h45 : us 45 = (.bool true) := deps_get hd 3 rfl rfl rfl rfl rfl
            rw [if_pos (wanted_yes rfl rfl rfl rfl h45)]
            refine wp_call (w2 := wx) (f := 8) (args := #[.agg #[.slice Aq nq cq], .agg #[.slice At nt ct], .agg #[.slice Ax n cx, .int .i64 clk]]) ?_ ?_
            · clear hd hK
              go_simp
            · refine (stuck_c clk (HW.out.keep0 hG).sq HGN.out.sane.ok HGN.out.sane.len (HW.out.keep0 hG).st HGN.out.grn.sane (HW.out.keep0 hG).sx HGN.out.grn.len).mono ?_
              rintro e w9 ⟨v9, rfl, hown9, hf9⟩
              rw [HST.out] at hown9
              obtain ⟨A9, c9, rfl, -⟩ := ValsAt.of_own hown9
              rw [HNS.out]
              exact ⟨_, rfl, hK _ _ ⟨A9, c9, rfl⟩ hf9⟩
          refine stepsHold.cons (fun wx hG hd K hK => ?_) ?_
          · have h58 := deps_get hd 0 rfl rfl rfl rfl rfl
            have h45 : us 45 = (.bool true) := deps_get hd 1 rfl rfl rfl rfl rfl
            rw [if_pos (wanted_yes rfl rfl rfl rfl h45)]
            obtain ⟨A9, c9, h58'⟩ := h58
            refine wp_value (w2 := wx) (v := .int .i64 (ns : Int)) ?_ (hK _ _ rfl (Fr.refl _ _))
            clear hd hG hK
            go_simp
          refine stepsHold.cons (fun wx hG hd K hK => ?_) ?_
          · have h59 : us 59 = (.int .i64 (ns : Int)) := deps_get hd 0 rfl rfl rfl rfl rfl
            have h45 : us 45 = (.bool true) := deps_get hd 1 rfl rfl rfl rfl rfl
            rw [if_pos (wanted_yes rfl rfl rfl rfl h45)]
            have hw := HN0.out
            refine wp_value (w2 := wx) (v := .bool true) ?_ (hK _ _ rfl (Fr.refl _ _))
            clear hd hG hK
            go_simp
            try exact HN1.out
          refine stepsHold.cons (fun wx hG hd K hK => ?_) ?_
          · have h60 : us 60 = (.bool true) := deps_get hd 0 rfl rfl rfl rfl rfl
            have h45 : us 45 = (.bool true) := deps_get hd 2 rfl rfl rfl rfl rfl
            rw [if_pos (wanted_yes rfl rfl rfl rfl h45)]
            refine wp_value (w2 := wx) (v := .bool true) ?_ (hK _ _ rfl (Fr.refl _ _))
            clear hd hG hK
            go_simp
          refine stepsHold.cons (fun wx hG hd K hK => ?_) ?_
          · have h61 : us 61 = (.bool true) := deps_get hd 0 rfl rfl rfl rfl rfl
            rw [if_neg (wanted_no rfl rfl rfl rfl h61)]
            exact hK _ _ rfl (Fr.refl _ _)
          refine stepsHold.cons (fun wx hG hd K hK => ?_) ?_
          · have h62 : us 62 = (undef) := deps_get hd 0 rfl rfl rfl rfl rfl
            have h61 : us 61 = (.bool true) := deps_get hd 1 rfl rfl rfl rfl rfl
            rw [if_neg (wanted_no rfl rfl rfl rfl h61)]
            exact hK _ _ rfl (Fr.refl _ _)
          refine stepsHold.cons (fun wx hG hd K hK => ?_) ?_
          · have h61 : us 61 = (.bool true) := deps_get hd 0 rfl rfl rfl rfl rfl
            have h63 : us 63 = (undef) := deps_get hd 1 rfl rfl rfl rfl rfl
            have h45 : us 45 = (.bool true) := deps_get hd 2 rfl rfl rfl rfl rfl
            rw [if_pos (wanted_yes rfl rfl rfl rfl h45)]
            refine wp_value (w2 := wx) (v := .bool true) ?_ (hK _ _ rfl (Fr.refl _ _))
            clear hd hG hK
            go_simp
          refine stepsHold.cons (fun wx hG hd K hK => ?_) ?_
          · have h45 : us 45 = (.bool true) := deps_get hd 0 rfl rfl rfl rfl rfl
            have h64 : us 64 = (.bool true) := deps_get hd 1 rfl rfl rfl rfl rfl
            rw [if_pos (wanted_none rfl)]
            refine wp_value (w2 := wx) (v := .bool true) ?_ (hK _ _ rfl (Fr.refl _ _))
            clear hd hG hK
            go_simp
          refine stepsHold.cons (fun wx hG hd K hK => ?_) ?_
          · have h65 : us 65 = (.bool true) := deps_get hd 0 rfl rfl rfl rfl rfl
            rw [if_pos (wanted_none rfl)]
            refine wp_value (w2 := wx) (v := .bool true) ?_ (hK _ _ rfl (Fr.refl _ _))
            clear hd hG hK
            go_simp
          exact stepsHold.nil
        case fin =>
          have h37 : us 37 = (.bool true) := all_get hall 0 rfl rfl rfl
          have h38 : us 38 = (.bool true) := all_get hall 1 rfl rfl rfl
          have h39 : us 39 = (.pointer (some ⟨wb, 0, none⟩)) := all_get hall 2 rfl rfl rfl
          have h40 : us 40 = (.pointer (some ⟨wb, 0, none⟩)) := all_get hall 3 rfl rfl rfl
          have h41 : us 41 = (.pointer (some ⟨wb, 3, none⟩)) := all_get hall 4 rfl rfl rfl
          have h42 : us 42 = (.agg #[.slice Aq nq cq]) := all_get hall 5 rfl rfl rfl
          have h43 : us 43 = (.bool true) := all_get hall 6 rfl rfl rfl
          have h44 : us 44 = (.bool true) := all_get hall 7 rfl rfl rfl
          have h45 : us 45 = (.bool true) := all_get hall 8 rfl rfl rfl
          have h46 : us 46 = (.pointer (some ⟨wb, 0, none⟩)) := all_get hall 9 rfl rfl rfl
          have h47 : us 47 = (.pointer (some ⟨wb, 0, none⟩)) := all_get hall 10 rfl rfl rfl
          have h48 : us 48 = (.pointer (some ⟨wb, 3, none⟩)) := all_get hall 11 rfl rfl rfl
          have h49 : us 49 = (.agg #[.slice Aq nq cq]) := all_get hall 12 rfl rfl rfl
          have h50 : us 50 = (.pointer (some ⟨wb, 0, none⟩)) := all_get hall 13 rfl rfl rfl
          have h51 : us 51 = (.pointer (some ⟨wb, 0, none⟩)) := all_get hall 14 rfl rfl rfl
          have h52 : us 52 = (.pointer (some ⟨wb, 2, none⟩)) := all_get hall 15 rfl rfl rfl
          have h53 : us 53 = (.agg #[.slice At nt ct]) := all_get hall 16 rfl rfl rfl
          have h54 : us 54 = (.pointer (some ⟨wb, 0, none⟩)) := all_get hall 17 rfl rfl rfl
          have h55 : us 55 = (.pointer (some ⟨wb, 0, none⟩)) := all_get hall 18 rfl rfl rfl
          have h56 : us 56 = (.pointer (some ⟨wb, 0, none⟩)) := all_get hall 19 rfl rfl rfl
          have h57 : us 57 = (.agg #[.slice Ax n cx, .int .i64 clk]) := all_get hall 20 rfl rfl rfl
          have h58 := all_get hall 21 rfl rfl rfl
          have h59 : us 59 = (.int .i64 (ns : Int)) := all_get hall 22 rfl rfl rfl
          have h60 : us 60 = (.bool true) := all_get hall 23 rfl rfl rfl
          have h61 : us 61 = (.bool true) := all_get hall 24 rfl rfl rfl
          have h62 : us 62 = (undef) := all_get hall 25 rfl rfl rfl
          have h63 : us 63 = (undef) := all_get hall 26 rfl rfl rfl
          have h64 : us 64 = (.bool true) := all_get hall 27 rfl rfl rfl
          have h65 : us 65 = (.bool true) := all_get hall 28 rfl rfl rfl
          have h2 : us 2 = (.bool true) := all_get hall 29 rfl rfl rfl
          simp only [fillL, Nat.reduceAdd]
          clear hall
          simp only [h37, h38, h39, h40, h41, h42, h43, h44, h45, h46, h47, h48, h49, h50, h51, h52, h53, h54, h55, h56, h57, h59, h60, h61, h62, h63, h64, h65, h2]
          clear h37 h38 h39 h40 h41 h42 h43 h44 h45 h46 h47 h48 h49 h50 h51 h52 h53 h54 h55 h56 h57 h59 h60 h61 h62 h63 h64 h65 h2
          go_wp2_with fail
          go_ret
          exact ⟨rfl, HF2.out.then0 hG⟩
end
end Go.Proofs.YtgbaijfgmeealaaGreat
