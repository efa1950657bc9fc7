/-
  Layer 11: the world of the laws: goes, do. Conditions: none.
-/
import Derived.Test.YtgbaijfgmeealaaGreatL11d
set_option linter.unusedVariables false
set_option linter.unusedSimpArgs false
namespace Go.Proofs.YtgbaijfgmeealaaGreat
open Go.RowKit
theorem AskRet.any2 {w w' : World} {e : Ending} {X : List Tx9} {L : List Lk} {tx block m : Int} (h : AskRet w w' e X L tx block m) : ∃ A n c, e = .returned (.tuple #[.agg #[.slice A n c], .int .i64 (askE X L tx block m)]) ∧ (askE X L tx block m = 0 → SlV 4 Lk.cells w' (.slice A n c) (askL L tx block m)) ∧ Fr F0 w w' := by
  cases h with
  | no h he hf => exact ⟨_, _, _, he, fun e => absurd e h, hf⟩
  | yes h v he hs hf =>
    obtain ⟨A, c, rfl, -⟩ := hs.ex
    exact ⟨_, _, _, by rw [h]; exact he, fun _ => hs, hf⟩
def BoxT (slot lim : Nat) (E : Int) (G : List Lk) (k : Nat) (us : Nat → Value) (w : World) : Prop := 1 ≤ k → ∃ b u, us slot = .pointer (some ⟨b, 0, none⟩) ∧ lim ≤ b ∧ w.heap[b]? = some (.cells #[u] 34 (0, 0)) ∧ (k = 2 → ∃ A n c, u = .slice A n c ∧ (E = 0 → SlV 4 Lk.cells w u G))
theorem BoxT.keep (slot lim : Nat) (E : Int) (G : List Lk) (k : Nat) (us us' : Nat → Value) (w' w'' : World) (h : BoxT slot lim E G k us w') (hd : ∀ d ∈ [slot], us' d = us d) (hf : Fr F0 w' w'') : BoxT slot lim E G k us' w'' := fun hk => by
  obtain ⟨b, u, h1, h2, h3, h4⟩ := h hk
  refine ⟨b, u, by rw [hd slot (by simp)]; exact h1, h2, hf.keep0 h3, fun e => ?_⟩
  obtain ⟨A, n, c, e1, e2⟩ := h4 e
  exact ⟨A, n, c, e1, fun e0 => (e2 e0).keep0 hf⟩
theorem WrAt.putT' {w : World} {wb : Nat} {X : List Tx9} {L L' : List Lk} {Q : List Wn} {vx vt vq vt' : Value} {clk : Int} (h : WrAt w wb X L Q vx vt vq clk) (st : SlV 4 Lk.cells w vt' L') : WrAt (w.setRow wb (splat [vx, .int .i64 clk, vt, vq] 2 [vt']).toArray) wb X L' Q vx vt' vq clk ∧ Fr (fun k => k = wb) w (w.setRow wb (splat [vx, .int .i64 clk, vt, vq] 2 [vt']).toArray) := by
  have hf : Fr (fun k => k = wb) w (w.setRow wb (splat [vx, .int .i64 clk, vt, vq] 2 [vt']).toArray) := (Fr.refl _ _).setRow (by exact .inl rfl) _
  exact ⟨h.put hf (by rw [setRow_heap _ _ _ _ _ _ h.b]; rfl) h.sx st h.sq, hf⟩
/-- Is a want ready, or a transaction Live that can go on? -/
def goesB (X : List Tx9) (L : List Lk) (Q : List Wn) : Bool := (List.range X.length).any (fun (k : Nat) => leafB X Q (k : Int)) || decide (0 < (readyL X L Q).length)
/-- What is left, whatever is done. -/
structure DoRet (w w' : World) (e : Ending) (wb : Nat) (clk : Int) : Prop where
  ex : ∃ X L Q vx vt vq clk', e = .returned (.tuple #[]) ∧ WrAt w' wb X L Q vx vt vq clk' ∧ GrnQ X L Q ∧ clk ≤ clk' ∧ clk' ≤ clk + 1 ∧ Fr (fun k => k = wb) w w'
section
variable {w : World} {wb : Nat} {X : List Tx9} {L : List Lk} {Q : List Wn} {vx vt vq : Value} {clk : Int}
set_option maxRecDepth 100000 in
set_option maxHeartbeats 4000000 in
theorem goes_c (h : WrAt w wb X L Q vx vt vq clk) (hg : GrnQ X L Q) : Calls Tryz.prog 10 #[.pointer (some ⟨wb, 0, none⟩)] w fun e w' => e = .returned (.bool (goesB X L Q)) ∧ Fr F0 w w' := by
  have HGN := Lib.hid hg
  have HW := Lib.hid h
  obtain ⟨Ax, cx, rfl, -⟩ := h.sx.ex
  obtain ⟨At, ct, rfl, -⟩ := h.st.ex
  obtain ⟨Aq, cq, rfl, -⟩ := h.sq.ex
  obtain ⟨n, hnn⟩ : ∃ n, n = X.length := ⟨_, rfl⟩
  obtain ⟨nt, hnt⟩ : ∃ nt, nt = L.length := ⟨_, rfl⟩
  obtain ⟨nq, hnq⟩ : ∃ nq, nq = Q.length := ⟨_, rfl⟩
  obtain ⟨nr, hnr⟩ : ∃ nr, nr = (readyL X L Q).length := ⟨_, rfl⟩
  obtain ⟨b9, hb9⟩ : ∃ b9, b9 = decide ((0 : Int) < (nr : Int)) := ⟨_, rfl⟩
  have HN := Lib.hid hnn
  have HNR := Lib.hid hnr
  have HB9 : Hid (decide ((0 : Int) < (nr : Int)) = b9) := Lib.hid hb9.symm
  have HB9N : Hid (decide (0 < nr) = b9) := Lib.hid (by rw [hb9]; exact decide_eq_decide.2 (by omega))
  rw [← hnn, ← hnt, ← hnq] at HW
  have n0 : (0 : Int) ≤ (n : Int) := Int.natCast_nonneg _
  have hn64 : n ≤ 64 := by rw [hnn]; exact hg.grn.len
  clear h hg hnn hnt hnq hnr hb9
  go_enter Tryz.func10, Tryz.ntmps10
  go_wp2_with fail
  go_loopg [3] n (fun kq x3 wr => ∃ j : Nat, j ≤ n ∧ kq = n - j ∧ x3 = .int .i64 (j : Int) ∧ (∀ i : Nat, i < j → leafB X Q (i : Int) = false) ∧ Fr F0 w wr)
  case atStart => exact ⟨0, by omega, rfl, rfl, fun i hi => absurd hi (Nat.not_lt_zero _), Fr.refl _ _⟩
  case round =>
    obtain ⟨j, hj, rfl, rfl, hh, hf⟩ := hrel
    have HH := Lib.hid hh
    have HF := Lib.hid hf
    have j0 : (0 : Int) ≤ (j : Int) := Int.natCast_nonneg _
    have k0 := (HW.out.keep0 hf).c0
    clear hh hf
    by_cases hlt : j < n
    · have j1 : (j : Int) < (n : Int) := by omega
      have HJX : Hid (j < X.length) := Lib.hid (by have := HN.out; omega)
      go_wp2_with fail
      clear k0
      refine (leaf_c (j : Int) (isId_iff.2 ⟨j0, by have := HJX.out; omega⟩) (HW.out.keep0 HF.out) HGN.out.sane.len HGN.out.grn.len).mono ?_
      rintro e w1 ⟨rfl, hf1⟩
      have HF1 := Lib.hid (HF.out.then0 hf1)
      cases hl : leafB X Q (j : Int) with
      | true =>
        have HL : Hid (goesB X L Q = true) := Lib.hid (by
          unfold goesB
          rw [List.any_eq_true.2 ⟨j, List.mem_range.2 HJX.out, hl⟩]
          rfl)
        clear hl hf1
        go_wp2_with fail
        go_ret
        exact ⟨by rw [HL.out]; rfl, HF1.out⟩
      | false =>
        have HR : Hid (∀ i : Nat, i < j + 1 → leafB X Q (i : Int) = false) := Lib.hid (fun i hi => by
          rcases Nat.lt_succ_iff_lt_or_eq.1 hi with h | h
          · exact HH.out i h
          · rw [h]; exact hl)
        clear hl hf1
        go_wp2_with fail
        go_roundg (n - (j + 1))
        case measure => omega
        case rel => exact ⟨j + 1, by omega, rfl, by first | rfl | (go_num), HR.out, HF1.out⟩
    · have j1 : ¬ (j : Int) < (n : Int) := by omega
      have HL : Hid (goesB X L Q = b9) := Lib.hid (by
        have h2 : (List.range X.length).any (fun (k : Nat) => leafB X Q (k : Int)) = false := by
          rw [List.any_eq_false]
          intro i hi
          have := List.mem_range.1 hi
          rw [HH.out i (by have := HN.out; omega)]
          decide
        have h3 : decide (0 < nr) = b9 := by rw [← HB9.out]; exact decide_eq_decide.2 (by omega)
        unfold goesB
        rw [h2, ← HNR.out, Bool.false_or]
        exact h3)
      go_wp2_with fail
      refine wp_region_free (S := F0) [false, false, true, false, false, false, false, false, false, false, false, false, false, false, false, false, false, true, true, true, true, true, true, true, true, true, true, true, true, true, true, true] [.eq (.pointer (some ⟨wb, 0, none⟩)), .eq (.pointer (some ⟨wb, 0, none⟩)), .eq (.pointer (some ⟨wb, 3, none⟩)), .eq (.agg #[.slice Aq nq cq]), .eq (.pointer (some ⟨wb, 0, none⟩)), .eq (.pointer (some ⟨wb, 0, none⟩)), .eq (.pointer (some ⟨wb, 2, none⟩)), .eq (.agg #[.slice At nt ct]), .eq (.pointer (some ⟨wb, 0, none⟩)), .eq (.pointer (some ⟨wb, 0, none⟩)), .eq (.pointer (some ⟨wb, 0, none⟩)), .eq (.agg #[.slice Ax n cx, .int .i64 clk]), ⟨fun v w1 => ∃ A c, v = .slice A nr c, fun v w1 w2 h hf => h⟩, .eq (.int .i64 (nr : Int)), .eq (.bool b9), .eq (.bool b9)] (by kernel_rfl) (by kernel_rfl) (by rfl) (fun us => ?steps) (fun us wz hG hall => ?fin)
      case steps =>
        simp only [fillL, Nat.reduceAdd]
        refine stepsHold.cons (fun wx hG hd K hK => ?_) ?_
        · rw [if_pos (wanted_none rfl)]
          refine wp_value (w2 := wx) (v := .pointer (some ⟨wb, 0, none⟩)) ?_ (hK _ _ rfl (Fr.refl _ _))
          clear hd hG hK
          go_simp
        refine stepsHold.cons (fun wx hG hd K hK => ?_) ?_
        · have h17 : us 17 = (.pointer (some ⟨wb, 0, none⟩)) := deps_get hd 0 rfl rfl rfl rfl rfl
          rw [if_pos (wanted_none rfl)]
          refine wp_value (w2 := wx) (v := .pointer (some ⟨wb, 0, none⟩)) ?_ (hK _ _ rfl (Fr.refl _ _))
          clear hd hG hK
          go_simp
        refine stepsHold.cons (fun wx hG hd K hK => ?_) ?_
        · have h18 : us 18 = (.pointer (some ⟨wb, 0, none⟩)) := deps_get hd 0 rfl rfl rfl rfl rfl
          rw [if_pos (wanted_none rfl)]
          refine wp_value (w2 := wx) (v := .pointer (some ⟨wb, 3, none⟩)) ?_ (hK _ _ rfl (Fr.refl _ _))
          clear hd hG hK
          go_simp
        refine stepsHold.cons (fun wx hG hd K hK => ?_) ?_
        · have h19 : us 19 = (.pointer (some ⟨wb, 3, none⟩)) := deps_get hd 0 rfl rfl rfl rfl rfl
          rw [if_pos (wanted_none rfl)]
          have hc := (HW.out.keep0 (HF.out.then0 hG)).c3
          refine wp_value (w2 := wx) (v := .agg #[.slice Aq nq cq]) ?_ (hK _ _ rfl (Fr.refl _ _))
          clear hd hK
          go_simp
        refine stepsHold.cons (fun wx hG hd K hK => ?_) ?_
        · rw [if_pos (wanted_none rfl)]
          refine wp_value (w2 := wx) (v := .pointer (some ⟨wb, 0, none⟩)) ?_ (hK _ _ rfl (Fr.refl _ _))
          clear hd hG hK
          go_simp
        refine stepsHold.cons (fun wx hG hd K hK => ?_) ?_
        · have h21 : us 21 = (.pointer (some ⟨wb, 0, none⟩)) := deps_get hd 0 rfl rfl rfl rfl rfl
          rw [if_pos (wanted_none rfl)]
          refine wp_value (w2 := wx) (v := .pointer (some ⟨wb, 0, none⟩)) ?_ (hK _ _ rfl (Fr.refl _ _))
          clear hd hG hK
          go_simp
        refine stepsHold.cons (fun wx hG hd K hK => ?_) ?_
        · have h22 : us 22 = (.pointer (some ⟨wb, 0, none⟩)) := deps_get hd 0 rfl rfl rfl rfl rfl
          rw [if_pos (wanted_none rfl)]
          refine wp_value (w2 := wx) (v := .pointer (some ⟨wb, 2, none⟩)) ?_ (hK _ _ rfl (Fr.refl _ _))
          clear hd hG hK
          go_simp
        refine stepsHold.cons (fun wx hG hd K hK => ?_) ?_
        · have h23 : us 23 = (.pointer (some ⟨wb, 2, none⟩)) := deps_get hd 0 rfl rfl rfl rfl rfl
          rw [if_pos (wanted_none rfl)]
          have hc := (HW.out.keep0 (HF.out.then0 hG)).c2
          refine wp_value (w2 := wx) (v := .agg #[.slice At nt ct]) ?_ (hK _ _ rfl (Fr.refl _ _))
          clear hd hK
          go_simp
        refine stepsHold.cons (fun wx hG hd K hK => ?_) ?_
        · rw [if_pos (wanted_none rfl)]
          refine wp_value (w2 := wx) (v := .pointer (some ⟨wb, 0, none⟩)) ?_ (hK _ _ rfl (Fr.refl _ _))
          clear hd hG hK
          go_simp
        refine stepsHold.cons (fun wx hG hd K hK => ?_) ?_
        · have h25 : us 25 = (.pointer (some ⟨wb, 0, none⟩)) := deps_get hd 0 rfl rfl rfl rfl rfl
          rw [if_pos (wanted_none rfl)]
          refine wp_value (w2 := wx) (v := .pointer (some ⟨wb, 0, none⟩)) ?_ (hK _ _ rfl (Fr.refl _ _))
          clear hd hG hK
          go_simp
        refine stepsHold.cons (fun wx hG hd K hK => ?_) ?_
        · have h26 : us 26 = (.pointer (some ⟨wb, 0, none⟩)) := deps_get hd 0 rfl rfl rfl rfl rfl
          rw [if_pos (wanted_none rfl)]
          refine wp_value (w2 := wx) (v := .pointer (some ⟨wb, 0, none⟩)) ?_ (hK _ _ rfl (Fr.refl _ _))
          clear hd hG hK
          go_simp
        refine stepsHold.cons (fun wx hG hd K hK => ?_) ?_
        · have h27 : us 27 = (.pointer (some ⟨wb, 0, none⟩)) := deps_get hd 0 rfl rfl rfl rfl rfl
          rw [if_pos (wanted_none rfl)]
          have hc := (HW.out.keep0 (HF.out.then0 hG)).c0
          have hc1 := (HW.out.keep0 (HF.out.then0 hG)).c1
          refine wp_value (w2 := wx) (v := .agg #[.slice Ax n cx, .int .i64 clk]) ?_ (hK _ _ rfl (Fr.refl _ _))
          clear hd hK
          go_simp
        refine stepsHold.cons (fun wx hG hd K hK => ?_) ?_
        · have h20 : us 20 = (.agg #[.slice Aq nq cq]) := deps_get hd 0 rfl rfl rfl rfl rfl
          have h24 : us 24 = (.agg #[.slice At nt ct]) := deps_get hd 1 rfl rfl rfl rfl rfl
          have h28 : us 28 = (.agg #[.slice Ax n cx, .int .i64 clk]) := deps_get hd 2 rfl rfl rfl rfl rfl
          rw [if_pos (wanted_none rfl)]
          refine wp_call (w2 := wx) (f := 14) (args := #[.agg #[.slice Aq nq cq], .agg #[.slice At nt ct], .agg #[.slice Ax n cx, .int .i64 clk]]) ?_ ?_
          · clear hd hK
            go_simp
          · refine (ready_c clk (HW.out.keep0 (HF.out.then0 hG)).sq HGN.out.sane.ok HGN.out.sane.len (HW.out.keep0 (HF.out.then0 hG)).st HGN.out.grn.sane (HW.out.keep0 (HF.out.then0 hG)).sx HGN.out.grn.len).mono ?_
            rintro e w9 ⟨v9, rfl, hs9, hf9⟩
            obtain ⟨A9, c9, rfl⟩ := hs9.exn (n := nr) HNR.out.symm
            exact ⟨_, rfl, hK _ _ ⟨A9, c9, rfl⟩ hf9⟩
        refine stepsHold.cons (fun wx hG hd K hK => ?_) ?_
        · have h29 := deps_get hd 0 rfl rfl rfl rfl rfl
          rw [if_pos (wanted_none rfl)]
          obtain ⟨A9, c9, h29'⟩ := h29
          refine wp_value (w2 := wx) (v := .int .i64 (nr : Int)) ?_ (hK _ _ rfl (Fr.refl _ _))
          clear hd hG hK
          go_simp
        refine stepsHold.cons (fun wx hG hd K hK => ?_) ?_
        · have h30 : us 30 = (.int .i64 (nr : Int)) := deps_get hd 0 rfl rfl rfl rfl rfl
          rw [if_pos (wanted_none rfl)]
          have hw := HB9.out
          refine wp_value (w2 := wx) (v := .bool b9) ?_ (hK _ _ rfl (Fr.refl _ _))
          clear hd hG hK
          go_simp
          exact HB9N.out
        refine stepsHold.cons (fun wx hG hd K hK => ?_) ?_
        · have h31 : us 31 = (.bool b9) := deps_get hd 0 rfl rfl rfl rfl rfl
          rw [if_pos (wanted_none rfl)]
          refine wp_value (w2 := wx) (v := .bool b9) ?_ (hK _ _ rfl (Fr.refl _ _))
          clear hd hG hK
          go_simp
        exact stepsHold.nil
      case fin =>
        have h17 : us 17 = (.pointer (some ⟨wb, 0, none⟩)) := all_get hall 0 rfl rfl rfl
        have h18 : us 18 = (.pointer (some ⟨wb, 0, none⟩)) := all_get hall 1 rfl rfl rfl
        have h19 : us 19 = (.pointer (some ⟨wb, 3, none⟩)) := all_get hall 2 rfl rfl rfl
        have h20 : us 20 = (.agg #[.slice Aq nq cq]) := all_get hall 3 rfl rfl rfl
        have h21 : us 21 = (.pointer (some ⟨wb, 0, none⟩)) := all_get hall 4 rfl rfl rfl
        have h22 : us 22 = (.pointer (some ⟨wb, 0, none⟩)) := all_get hall 5 rfl rfl rfl
        have h23 : us 23 = (.pointer (some ⟨wb, 2, none⟩)) := all_get hall 6 rfl rfl rfl
        have h24 : us 24 = (.agg #[.slice At nt ct]) := all_get hall 7 rfl rfl rfl
        have h25 : us 25 = (.pointer (some ⟨wb, 0, none⟩)) := all_get hall 8 rfl rfl rfl
        have h26 : us 26 = (.pointer (some ⟨wb, 0, none⟩)) := all_get hall 9 rfl rfl rfl
        have h27 : us 27 = (.pointer (some ⟨wb, 0, none⟩)) := all_get hall 10 rfl rfl rfl
        have h28 : us 28 = (.agg #[.slice Ax n cx, .int .i64 clk]) := all_get hall 11 rfl rfl rfl
        have h29 := all_get hall 12 rfl rfl rfl
        have h30 : us 30 = (.int .i64 (nr : Int)) := all_get hall 13 rfl rfl rfl
        have h31 : us 31 = (.bool b9) := all_get hall 14 rfl rfl rfl
        have h2 : us 2 = (.bool b9) := all_get hall 15 rfl rfl rfl
        simp only [fillL, Nat.reduceAdd]
        clear hall
        simp only [h17, h18, h19, h20, h21, h22, h23, h24, h25, h26, h27, h28, h30, h31, h2]
        clear h17 h18 h19 h20 h21 h22 h23 h24 h25 h26 h27 h28 h30 h31 h2
        go_wp2_with fail
        go_ret
        exact ⟨by rw [HL.out]; rfl, HF.out.then0 hG⟩
set_option maxRecDepth 100000 in
set_option maxHeartbeats 8000000 in
theorem do_c (wh tx blk mode : Int) (h : WrAt w wb X L Q vx vt vq clk) (hg : GrnQ X L Q) (c0 : 0 ≤ clk) (c1 : clk ≤ 1000) : Calls Tryz.prog 19 #[.pointer (some ⟨wb, 0, none⟩), .agg #[.int .i64 wh, .int .i64 tx, .int .i64 blk, .int .i64 mode]] w fun e w' => DoRet w w' e wb clk := by
  have HGN := Lib.hid hg
  have HC0 := Lib.hid c0
  have HC1 := Lib.hid c1
  have HCLK : Hid (clk < 2 ^ 62) := Lib.hid (by omega)
  have HX64 := Lib.hid hg.grn.len
  have HQ64 := Lib.hid hg.sane.len
  have HSA := Lib.hid hg.grn.sane
  obtain ⟨Ax, cx, rfl, hxr, -⟩ := h.sx.ex
  obtain ⟨At, ct, rfl, -⟩ := h.st.ex
  obtain ⟨Aq, cq, rfl, -⟩ := h.sq.ex
  obtain ⟨n, hnn⟩ : ∃ n, n = X.length := ⟨_, rfl⟩
  obtain ⟨nt, hnt⟩ : ∃ nt, nt = L.length := ⟨_, rfl⟩
  obtain ⟨nq, hnq⟩ : ∃ nq, nq = Q.length := ⟨_, rfl⟩
  have HN := Lib.hid hnn
  rw [← hnn, ← hnt, ← hnq] at h
  have n0 : (0 : Int) ≤ (n : Int) := Int.natCast_nonneg _
  have hn64 : n ≤ 64 := by rw [hnn]; exact hg.grn.len
  obtain ⟨W0, hW0⟩ : ∃ W0, W0 = w.alloc (.cells #[.int .i64 wh, .int .i64 tx, .int .i64 blk, .int .i64 mode] 57) := ⟨_, rfl⟩
  obtain ⟨ab, hab⟩ : ∃ ab, ab = w.heap.size := ⟨_, rfl⟩
  have hf0 : Fr F0 w W0 := by rw [hW0]; exact (Fr.refl _ _).alloc _
  have HF0 := Lib.hid hf0
  have HW0 := Lib.hid (h.keep0 hf0)
  have HXR := Lib.hid (hxr.keep0 hf0)
  have HAB : Hid (W0.heap[ab]? = some (.cells #[.int .i64 wh, .int .i64 tx, .int .i64 blk, .int .i64 mode] 57 (0, 0))) := Lib.hid (by rw [hW0]; exact alloc_at hab _)
  have HWE := Lib.hid hW0
  have HABE := Lib.hid hab
  have k0 : (w.alloc (.cells #[.int .i64 wh, .int .i64 tx, .int .i64 blk, .int .i64 mode] 57)).cell? ⟨wb, 0, none⟩ = some (.slice Ax n cx) := by rw [← hW0]; exact HW0.out.c0
  clear h hg hxr c0 c1 hnn hnt hnq hf0 hW0 hab
  go_enter Tryz.func19, Tryz.ntmps19
  go_upto_if 24 with fail
  rw [← HWE.out, ← HABE.out]
  clear k0
  go_cut [5] from 17 (fun v wc => ∃ id : Int, v = .int .i64 id ∧ (id = -1 ∨ isId X id = true) ∧ wc = W0)
  case first =>
    have a1 : W0.cell? ⟨ab, 1, none⟩ = some (.int .i64 tx) := by rw [cell_of HAB.out]; rfl
    by_cases hn0 : 0 < n
    · have hn1 : (0 : Int) < (n : Int) := by omega
      obtain ⟨r, hr⟩ : ∃ r : Nat, tx % 65536 = (r : Int) := ⟨(tx % 65536).toNat, by omega⟩
      have hband : bits .and .i64 tx 65535 = (r : Int) := by rw [← hr]; exact i64_and tx 16 (by decide)
      have hw1 : IntKind.i64.wrap ((n : Int) + 1) = (n : Int) + 1 := by rw [IntKind.wrap_i64]; omega
      have hz : ¬ (n : Int) + 1 = 0 := by omega
      have hz2 : ((n : Int) + 1 == 0) = false := by simp; omega
      obtain ⟨s, hs⟩ : ∃ s : Nat, s = r % (n + 1) := ⟨_, rfl⟩
      have hsn : s < n + 1 := by rw [hs]; exact Nat.mod_lt _ (by omega)
      have hrem : Int.tmod (r : Int) ((n : Int) + 1) = (s : Int) := by rw [Int.tmod_eq_emod_of_nonneg (by omega), hs]; simp
      have hw2 : IntKind.i64.wrap ((s : Int) - 1) = (s : Int) - 1 := by rw [IntKind.wrap_i64]; omega
      go_wp2_with fail
      go_meet
      have hmod : (r : Int) % ((n : Int) + 1) = (s : Int) := by rw [hs]; simp
      refine ⟨_, rfl, ?_, rfl⟩
      rw [hmod]
      have e : ∀ x : Int, IntKind.i64.wrap ((s : Int) - 1) = x → x = -1 ∨ isId X x = true := fun x hx => by
        rw [hw2] at hx
        subst hx
        rcases Nat.eq_zero_or_pos s with h | h
        · left; omega
        · right; rw [isId_iff]; have := HN.out; omega
      exact e _ (by rw [IntKind.wrap_i64]; unfold wrap64; omega)
    · have hn1 : ¬ (0 : Int) < (n : Int) := by omega
      go_wp2_with fail
      go_meet
      exact ⟨-1, rfl, .inl rfl, rfl⟩
  case rest =>
    obtain ⟨id, rfl, hid, hwc⟩ := hcut
    subst wc
    have HID := Lib.hid hid
    clear hid
    have a0 : W0.cell? ⟨ab, 0, none⟩ = some (.int .i64 wh) := by rw [cell_of HAB.out]; rfl
    by_cases hw3 : wh = 3
    · subst hw3
      go_wp2_with fail
      clear a0
      refine (end11_c id HW0.out HQ64.out HX64.out HSA.out HC0.out HCLK.out).mono ?_
      intro e w1 her
      cases her with
      | no h he hw hf =>
        subst he
        have HW1 := Lib.hid hw
        have HF1 := Lib.hid hf
        clear h hw hf
        go_wp2_with fail
        go_end0
        exact ⟨X, L, Q, _, _, _, clk, rfl, HW1.out, HGN.out, Int.le_refl _, by omega, (HF0.out.then0 HF1.out).of0⟩
      | yes h he vx' vt' vq' hw hf =>
        subst he
        have HW1 := Lib.hid hw
        have HF1 := Lib.hid hf
        have HH := Lib.hid h
        clear h hw hf
        go_wp2_with fail
        go_end0
        exact ⟨_, _, _, _, _, _, clk + 1, rfl, HW1.out, HGN.out.abort HH.out, by omega, Int.le_refl _, HF0.out.of0.trans HF1.out (fun _ h => .inl h)⟩
    · have g3 : (wh != 3) = true := by simp [hw3]
      have g3' : (wh == 3) = false := by simp [hw3]
      go_wp2_with fail
      refine (waiting_c id HW0.out HQ64.out).mono ?_
      rintro e w1 ⟨rfl, hf1⟩
      have HW1 := Lib.hid (HW0.out.keep0 hf1)
      have HF1 := Lib.hid (HF0.out.then0 hf1)
      have HXR1 := Lib.hid (HXR.out.keep0 hf1)
      have HAB1 := Lib.hid (hf1.keep0 HAB.out)
      have a1 : w1.cell? ⟨ab, 0, none⟩ = some (.int .i64 wh) := by rw [cell_of HAB1.out]; rfl
      clear a0 hf1
      cases hq : hasQ Q id with
      | true =>
        clear hq
        go_wp2_with fail
        exact bodyPost_ret (results_none rfl _ _ _) rfl ⟨X, L, Q, _, _, _, clk, rfl, HW1.out, HGN.out, Int.le_refl _, by omega, HF1.out.of0⟩
      | false =>
        have HNQ := Lib.hid hq
        have k0 := HW1.out.c0
        have k1 := HW1.out.c1
        clear hq
        by_cases hw01 : wh = 0 ∨ wh = 1
        · rcases hw01 with rfl | rfl
          all_goals
            clear g3 g3' hw3
            go_wp2_with fail
            clear k0 k1 a1
            refine (begin_c clk id HW1.out.sx HX64.out HGN.out.grn.falls HID.out HC0.out HCLK.out).mono ?_
            intro e w2 hbr
            cases hbr with
            | no h he hf =>
              subst he
              have g1 : (beginE X id == 0) = false := by simpa using h
              have HWZ := Lib.hid ((HW1.out.keep0 hf).keep0 ((Fr.refl _ _).alloc (.cells #[.slice none 0 0, .int .i64 0] 31)))
              have HFZ := Lib.hid ((HF1.out.then0 hf).then0 ((Fr.refl _ _).alloc (.cells #[.slice none 0 0, .int .i64 0] 31)))
              clear hf h
              go_wp2_with fail
              go_end0
              exact ⟨X, L, Q, _, _, _, clk, rfl, HWZ.out, HGN.out, Int.le_refl _, by omega, HFZ.out.of0⟩
            | yes h v2 he hs2 hf2 =>
              subst he
              obtain ⟨A2, c2, rfl⟩ := hs2.exn (n := n + 1) (by rw [List.length_append, ← HN.out]; rfl)
              obtain ⟨W2, hW2⟩ : ∃ W2, W2 = w2.alloc (.cells #[.slice A2 (n + 1) c2, .int .i64 (clk + 1)] 31) := ⟨_, rfl⟩
              have hfW : Fr F0 w2 W2 := by rw [hW2]; exact (Fr.refl _ _).alloc _
              have HS2 := Lib.hid (hs2.keep0 hfW)
              have HW2 := Lib.hid ((HW1.out.keep0 hf2).keep0 hfW)
              have HF2 := Lib.hid ((HF1.out.then0 hf2).then0 hfW)
              have HG2 := Lib.hid (HGN.out.begin (c := clk + 1) HID.out h)
              have HWE2 := Lib.hid hW2
              clear hs2 hf2 hfW hW2 h
              by_cases h24 : n < 24
              · have g24 : (n : Int) < 24 := by omega
                obtain ⟨hw3, hf3⟩ := HW2.out.putX (clk' := clk + 1) HS2.out
                have HW3 := Lib.hid hw3
                have HF3 := Lib.hid hf3
                clear hw3 hf3
                go_wp2_with (refine wpList_store_at rfl 31 (.tmp 112) (.tmp 110) rfl wb 0 [.slice A2 (n + 1) c2, .int .i64 (clk + 1)] (by rfl) (by rfl) 36 [.slice Ax n cx, .int .i64 clk, .slice At nt ct, .slice Aq nq cq] (by rw [← HWE2.out]; exact HW2.out.b) size_tree (by show 2 ≤ 4; decide) (tree_one _ _ _ _) ?_; rw [← HWE2.out])
                go_end0
                exact ⟨_, _, _, _, _, _, clk + 1, rfl, HW3.out, HG2.out, by omega, Int.le_refl _, HF2.out.of0.trans HF3.out (fun _ h => .inl h)⟩
              · have g24 : ¬ (n : Int) < 24 := by omega
                go_wp2_with fail
                rw [← HWE2.out]
                go_end0
                exact ⟨X, L, Q, _, _, _, clk, rfl, HW2.out, HGN.out, Int.le_refl _, by omega, HF2.out.of0⟩
        · by_cases hw2 : wh = 2
          · subst hw2
            clear g3 g3' hw3 hw01
            go_wp2_with fail
            clear k0 k1 a1
            refine (commit_c clk id HW1.out.sx HX64.out HC0.out HCLK.out).mono ?_
            intro e w2 hbr
            cases hbr with
            | no h he hf =>
              subst he
              have g1 : (commitE X id == 0) = false := by simpa using h
              have HWZ := Lib.hid ((HW1.out.keep0 hf).keep0 ((Fr.refl _ _).alloc (.cells #[.slice none 0 0, .int .i64 0] 31)))
              have HFZ := Lib.hid ((HF1.out.then0 hf).then0 ((Fr.refl _ _).alloc (.cells #[.slice none 0 0, .int .i64 0] 31)))
              clear hf h
              go_wp2_with fail
              go_end0
              exact ⟨X, L, Q, _, _, _, clk, rfl, HWZ.out, HGN.out, Int.le_refl _, by omega, HFZ.out.of0⟩
            | yes h v2 he hs2 hf2 =>
              subst he
              have hii := isId_iff.1 (commitE_zero HGN.out.grn.falls h).1
              obtain ⟨q, rfl⟩ : ∃ q : Nat, id = (q : Int) := ⟨id.toNat, by omega⟩
              have hqn : q < X.length := by omega
              have q0 : (0 : Int) ≤ (q : Int) := Int.natCast_nonneg _
              have q1 : (q : Int) < (n : Int) := by have := HN.out; omega
              obtain ⟨xb, xo, rfl, hcs⟩ := HXR1.out.get (List.getElem?_eq_getElem hqn) (Tx9.pos _)
              obtain ⟨par, hpar⟩ : ∃ par, par = X[q].parent := ⟨_, rfl⟩
              have hup : upOf X (q : Int) = par := by rw [hpar]; exact upOf_at (List.getElem?_eq_getElem hqn)
              have hpc : w1.cell? ⟨xb, xo + q * 4, none⟩ = some (.int .i64 par) := by rw [hpar]; exact hcs 0 _ rfl
              have HP64 : Hid (par < 64) := Lib.hid (by rw [← hup]; have := upOf_lt HGN.out.grn.falls (commitE_zero HGN.out.grn.falls h).1; have := HX64.out; omega)
              obtain ⟨A2, c2, rfl⟩ := hs2.exn (n := n) (by unfold commitX; rw [endL_len, HN.out])
              obtain ⟨b12, hb12⟩ : ∃ b12, b12 = w2.heap.size := ⟨_, rfl⟩
              obtain ⟨W2, hW2⟩ : ∃ W2, W2 = w2.alloc (.cells #[.slice A2 n c2, .int .i64 (clk + 1)] 31) := ⟨_, rfl⟩
              have hfW : Fr F0 w2 W2 := by rw [hW2]; exact (Fr.refl _ _).alloc _
              have HS2 := Lib.hid (hs2.keep0 hfW)
              have HW2 := Lib.hid ((HW1.out.keep0 hf2).keep0 hfW)
              have HF2 := Lib.hid ((HF1.out.then0 hf2).then0 hfW)
              have H12 : Hid (W2.heap[b12]? = some (.cells #[.slice A2 n c2, .int .i64 (clk + 1)] 31 (0, 0))) := Lib.hid (by rw [hW2]; exact alloc_at hb12 _)
              have HL5 : Hid (wb < b12) := Lib.hid (by rw [hb12]; exact (HW1.out.keep0 hf2).lt)
              have HPAR : Hid (∀ wz, Fr F0 W2 wz → wz.cell? ⟨xb, xo + q * 4, none⟩ = some (.int .i64 par)) := Lib.hid (fun wz hf => (World.cell?_of_block (w := w1) (((hf2.then0 hfW).then0 hf).block _ (World.block_lt_of_cell? _ _ hpc) (fun h => h))).trans hpc)
              have HGN2 : Hid (GrnQ (commitX X (q : Int) clk) (passL L (q : Int) par) Q) := Lib.hid (by rw [← hup]; exact HGN.out.commit h HNQ.out)
              have HWE2 := Lib.hid hW2
              have HB12 := Lib.hid hb12
              clear hs2 hf2 hfW hW2 hb12 h hpc hpar hup hcs hii
              go_wp2_with fail
              rw [← HWE2.out, ← HB12.out]
              refine wp_region_tail (S := F0) [false, false, false, false, false, false, false, false, false, false, false, false, false, false, false, false, false, false, false, false, false, false, false, false, false, false, false, false, false, false, false, false, false, false, false, false, false, false, false, false, false, false, false, false, false, false, false, false, false, false, false, false, false, false, false, false, false, false, false, false, false, false, false, false, false, false, false, false, false, false, false, false, false, false, false, false, false, false, false, false, false, false, false, false, false, false, false, false, false, false, false, false, false, false, false, false, false, false, false, false, false, false, false, false, false, false, false, false, false, false, false, false, false, false, false, false, false, false, false, false, false, false, false, false, false, false, false, false, false, false, false, false, false, false, false, true, true, true, true, true, true, true, true, true, true, true, true, true, true, true, true, true, true, false, false, false, false, false, false, false, false, false] [.eq (.pointer (some ⟨wb, 0, none⟩)), .eq (.pointer (some ⟨wb, 0, none⟩)), .eq (.pointer (some ⟨wb, 0, none⟩)), .eq (.pointer (some ⟨wb, 2, none⟩)), .eq (.agg #[.slice At nt ct]), .eq (.int .i64 (q : Int)), .eq (.pointer (some ⟨wb, 0, none⟩)), .eq (.pointer (some ⟨wb, 0, none⟩)), .eq (.pointer (some ⟨wb, 0, none⟩)), .eq (.pointer (some ⟨wb, 0, none⟩)), .eq (.slice (some ⟨xb, xo, none⟩) n cx), .eq (.int .i64 (q : Int)), .eq (.pointer (some ⟨xb, xo + q * 4, none⟩)), .eq (.pointer (some ⟨xb, xo + q * 4, none⟩)), .eq (.int .i64 par), ⟨fun v w1 => ∃ u, v = .agg #[u] ∧ SlV 4 Lk.cells w1 u (passL L (q : Int) par), fun v w1 w2 ⟨u, h1, h2⟩ hf => ⟨u, h1, h2.keep0 hf⟩⟩, .any, .any, .any] 16 (by kernel_rfl) (by kernel_rfl) (by rfl) (by kernel_rfl) (fun us => ?steps) (fun us wz hG hall => ?fin)
              case steps =>
                simp only [fillL, Nat.reduceAdd]
                refine stepsHold.cons (fun wx hG hd K hK => ?_) ?_
                · rw [if_pos (wanted_none rfl)]
                  refine wp_value (w2 := wx) (v := .pointer (some ⟨wb, 0, none⟩)) ?_ (hK _ _ rfl (Fr.refl _ _))
                  clear hd hG hK
                  go_simp
                refine stepsHold.cons (fun wx hG hd K hK => ?_) ?_
                · rw [if_pos (wanted_none rfl)]
                  refine wp_value (w2 := wx) (v := .pointer (some ⟨wb, 0, none⟩)) ?_ (hK _ _ rfl (Fr.refl _ _))
                  clear hd hG hK
                  go_simp
                refine stepsHold.cons (fun wx hG hd K hK => ?_) ?_
                · have h136 : us 136 = (.pointer (some ⟨wb, 0, none⟩)) := deps_get hd 0 rfl rfl rfl rfl rfl
                  rw [if_pos (wanted_none rfl)]
                  refine wp_value (w2 := wx) (v := .pointer (some ⟨wb, 0, none⟩)) ?_ (hK _ _ rfl (Fr.refl _ _))
                  clear hd hG hK
                  go_simp
                refine stepsHold.cons (fun wx hG hd K hK => ?_) ?_
                · have h137 : us 137 = (.pointer (some ⟨wb, 0, none⟩)) := deps_get hd 0 rfl rfl rfl rfl rfl
                  rw [if_pos (wanted_none rfl)]
                  refine wp_value (w2 := wx) (v := .pointer (some ⟨wb, 2, none⟩)) ?_ (hK _ _ rfl (Fr.refl _ _))
                  clear hd hG hK
                  go_simp
                refine stepsHold.cons (fun wx hG hd K hK => ?_) ?_
                · have h138 : us 138 = (.pointer (some ⟨wb, 2, none⟩)) := deps_get hd 0 rfl rfl rfl rfl rfl
                  rw [if_pos (wanted_none rfl)]
                  have hc := (HW2.out.keep0 hG).c2
                  refine wp_value (w2 := wx) (v := .agg #[.slice At nt ct]) ?_ (hK _ _ rfl (Fr.refl _ _))
                  clear hd hK
                  go_simp
                refine stepsHold.cons (fun wx hG hd K hK => ?_) ?_
                · rw [if_pos (wanted_none rfl)]
                  refine wp_value (w2 := wx) (v := .int .i64 (q : Int)) ?_ (hK _ _ rfl (Fr.refl _ _))
                  clear hd hG hK
                  go_simp
                refine stepsHold.cons (fun wx hG hd K hK => ?_) ?_
                · rw [if_pos (wanted_none rfl)]
                  refine wp_value (w2 := wx) (v := .pointer (some ⟨wb, 0, none⟩)) ?_ (hK _ _ rfl (Fr.refl _ _))
                  clear hd hG hK
                  go_simp
                refine stepsHold.cons (fun wx hG hd K hK => ?_) ?_
                · have h141 : us 141 = (.pointer (some ⟨wb, 0, none⟩)) := deps_get hd 0 rfl rfl rfl rfl rfl
                  rw [if_pos (wanted_none rfl)]
                  refine wp_value (w2 := wx) (v := .pointer (some ⟨wb, 0, none⟩)) ?_ (hK _ _ rfl (Fr.refl _ _))
                  clear hd hG hK
                  go_simp
                refine stepsHold.cons (fun wx hG hd K hK => ?_) ?_
                · have h142 : us 142 = (.pointer (some ⟨wb, 0, none⟩)) := deps_get hd 0 rfl rfl rfl rfl rfl
                  rw [if_pos (wanted_none rfl)]
                  refine wp_value (w2 := wx) (v := .pointer (some ⟨wb, 0, none⟩)) ?_ (hK _ _ rfl (Fr.refl _ _))
                  clear hd hG hK
                  go_simp
                refine stepsHold.cons (fun wx hG hd K hK => ?_) ?_
                · have h143 : us 143 = (.pointer (some ⟨wb, 0, none⟩)) := deps_get hd 0 rfl rfl rfl rfl rfl
                  rw [if_pos (wanted_none rfl)]
                  refine wp_value (w2 := wx) (v := .pointer (some ⟨wb, 0, none⟩)) ?_ (hK _ _ rfl (Fr.refl _ _))
                  clear hd hG hK
                  go_simp
                refine stepsHold.cons (fun wx hG hd K hK => ?_) ?_
                · have h144 : us 144 = (.pointer (some ⟨wb, 0, none⟩)) := deps_get hd 0 rfl rfl rfl rfl rfl
                  rw [if_pos (wanted_none rfl)]
                  have hc := (HW2.out.keep0 hG).c0
                  refine wp_value (w2 := wx) (v := .slice (some ⟨xb, xo, none⟩) n cx) ?_ (hK _ _ rfl (Fr.refl _ _))
                  clear hd hK
                  go_simp
                refine stepsHold.cons (fun wx hG hd K hK => ?_) ?_
                · rw [if_pos (wanted_none rfl)]
                  refine wp_value (w2 := wx) (v := .int .i64 (q : Int)) ?_ (hK _ _ rfl (Fr.refl _ _))
                  clear hd hG hK
                  go_simp
                refine stepsHold.cons (fun wx hG hd K hK => ?_) ?_
                · have h145 : us 145 = (.slice (some ⟨xb, xo, none⟩) n cx) := deps_get hd 0 rfl rfl rfl rfl rfl
                  have h146 : us 146 = (.int .i64 (q : Int)) := deps_get hd 1 rfl rfl rfl rfl rfl
                  rw [if_pos (wanted_none rfl)]
                  refine wp_value (w2 := wx) (v := .pointer (some ⟨xb, xo + q * 4, none⟩)) ?_ (hK _ _ rfl (Fr.refl _ _))
                  clear hd hG hK
                  go_simp
                refine stepsHold.cons (fun wx hG hd K hK => ?_) ?_
                · have h147 : us 147 = (.pointer (some ⟨xb, xo + q * 4, none⟩)) := deps_get hd 0 rfl rfl rfl rfl rfl
                  rw [if_pos (wanted_none rfl)]
                  refine wp_value (w2 := wx) (v := .pointer (some ⟨xb, xo + q * 4, none⟩)) ?_ (hK _ _ rfl (Fr.refl _ _))
                  clear hd hG hK
                  go_simp
                refine stepsHold.cons (fun wx hG hd K hK => ?_) ?_
                · have h148 : us 148 = (.pointer (some ⟨xb, xo + q * 4, none⟩)) := deps_get hd 0 rfl rfl rfl rfl rfl
                  rw [if_pos (wanted_none rfl)]
                  have hc := HPAR.out wx hG
                  refine wp_value (w2 := wx) (v := .int .i64 par) ?_ (hK _ _ rfl (Fr.refl _ _))
                  clear hd hK
                  go_simp
                refine stepsHold.cons (fun wx hG hd K hK => ?_) ?_
                · have h139 : us 139 = (.agg #[.slice At nt ct]) := deps_get hd 0 rfl rfl rfl rfl rfl
                  have h140 : us 140 = (.int .i64 (q : Int)) := deps_get hd 1 rfl rfl rfl rfl rfl
                  have h149 : us 149 = (.int .i64 par) := deps_get hd 2 rfl rfl rfl rfl rfl
                  rw [if_pos (wanted_none rfl)]
                  refine wp_call (w2 := wx) (f := 44) (args := #[.agg #[.slice At nt ct], .int .i64 (q : Int), .int .i64 par]) ?_ ?_
                  · clear hd hK
                    go_simp
                  · refine ((pass_c (w := wx) (q : Int) par (HW2.out.keep0 hG).st HSA.out HP64.out)).mono ?_
                    rintro e w9 ⟨v9, rfl, hs9, hf⟩
                    exact ⟨_, rfl, hK _ _ ⟨v9, rfl, hs9⟩ hf⟩
                exact stepsHold.nil
              case fin =>
                have h135 : us 135 = (.pointer (some ⟨wb, 0, none⟩)) := all_get hall 0 rfl rfl rfl
                have h136 : us 136 = (.pointer (some ⟨wb, 0, none⟩)) := all_get hall 1 rfl rfl rfl
                have h137 : us 137 = (.pointer (some ⟨wb, 0, none⟩)) := all_get hall 2 rfl rfl rfl
                have h138 : us 138 = (.pointer (some ⟨wb, 2, none⟩)) := all_get hall 3 rfl rfl rfl
                have h139 : us 139 = (.agg #[.slice At nt ct]) := all_get hall 4 rfl rfl rfl
                have h140 : us 140 = (.int .i64 (q : Int)) := all_get hall 5 rfl rfl rfl
                have h141 : us 141 = (.pointer (some ⟨wb, 0, none⟩)) := all_get hall 6 rfl rfl rfl
                have h142 : us 142 = (.pointer (some ⟨wb, 0, none⟩)) := all_get hall 7 rfl rfl rfl
                have h143 : us 143 = (.pointer (some ⟨wb, 0, none⟩)) := all_get hall 8 rfl rfl rfl
                have h144 : us 144 = (.pointer (some ⟨wb, 0, none⟩)) := all_get hall 9 rfl rfl rfl
                have h145 : us 145 = (.slice (some ⟨xb, xo, none⟩) n cx) := all_get hall 10 rfl rfl rfl
                have h146 : us 146 = (.int .i64 (q : Int)) := all_get hall 11 rfl rfl rfl
                have h147 : us 147 = (.pointer (some ⟨xb, xo + q * 4, none⟩)) := all_get hall 12 rfl rfl rfl
                have h148 : us 148 = (.pointer (some ⟨xb, xo + q * 4, none⟩)) := all_get hall 13 rfl rfl rfl
                have h149 : us 149 = (.int .i64 par) := all_get hall 14 rfl rfl rfl
                have h150 := all_get hall 15 rfl rfl rfl
                simp only [fillL, Nat.reduceAdd]
                clear hall
                simp only [h135, h136, h137, h138, h139, h140, h141, h142, h143, h144, h145, h146, h147, h148, h149]
                clear h135 h136 h137 h138 h139 h140 h141 h142 h143 h144 h145 h146 h147 h148 h149
                simp only [List.drop_succ_cons, List.drop_zero]
                generalize us 151 = y151
                generalize us 152 = y152
                obtain ⟨u5, e5, hs5⟩ := h150
                obtain ⟨A5, c5, rfl, -⟩ := hs5.ex
                obtain ⟨n5, hn5⟩ : ∃ n5, n5 = (passL L (q : Int) par).length := ⟨_, rfl⟩
                rw [← hn5] at e5 hs5
                have hz2 := HW2.out.keep0 hG
                obtain ⟨hw3, hf3⟩ := hz2.putT hs5
                rw [e5]
                obtain ⟨W3, hW3⟩ : ∃ W3, W3 = wz.setCell ⟨wb, 2, none⟩ (.slice A5 n5 c5) := ⟨_, rfl⟩
                rw [← hW3] at hw3 hf3
                have HW3 := Lib.hid hw3
                have HF3 := Lib.hid ((HF2.out.then0 hG).of0.trans hf3 (fun _ h => .inl h))
                have H123 := Lib.hid (hf3.keep (hG.keep0 H12.out) (by have := HL5.out; omega))
                have HS3 := Lib.hid ((HS2.out.keep0 hG).keepW tx_two hz2.b hf3)
                have g0 : W3.cell? ⟨b12, 0, none⟩ = some (.slice A2 n c2) := by rw [cell_of H123.out]; rfl
                have g1 : W3.cell? ⟨b12, 1, none⟩ = some (.int .i64 (clk + 1)) := by rw [cell_of H123.out]; rfl
                obtain ⟨hw4, hf4⟩ := HW3.out.putX (clk' := clk + 1) HS3.out
                have HW4 := Lib.hid hw4
                have HF4 := Lib.hid (HF3.out.trans hf4 (fun _ h => .inl h))
                have q2 := hz2.c2
                have q3 := hz2.fz 2
                have g0' : (wz.setCell ⟨wb, 2, none⟩ (.slice A5 n5 c5)).cell? ⟨b12, 0, none⟩ = some (.slice A2 n c2) := by rw [← hW3]; exact g0
                have g1' : (wz.setCell ⟨wb, 2, none⟩ (.slice A5 n5 c5)).cell? ⟨b12, 1, none⟩ = some (.int .i64 (clk + 1)) := by rw [← hW3]; exact g1
                have HWE3 := Lib.hid hW3
                clear hW3 hf3 hw3 hz2 hs5 hn5 hG hw4 hf4 e5 g0 g1
                go_wp2_with (rw [← HWE3.out]; refine wpList_store_at rfl 31 (.tmp 156) (.tmp 154) rfl wb 0 [.slice A2 n c2, .int .i64 (clk + 1)] (by rfl) (by rfl) 36 [.slice (some ⟨xb, xo, none⟩) n cx, .int .i64 clk, .slice A5 n5 c5, .slice Aq nq cq] HW3.out.b size_tree (by show 2 ≤ 4; decide) (tree_one _ _ _ _) ?_)
                go_end0
                exact ⟨_, _, _, _, _, _, clk + 1, rfl, HW4.out, HGN2.out, by omega, Int.le_refl _, HF4.out⟩
          · have g0 : (wh == 0) = false := by simp; omega
            have g1 : (wh == 1) = false := by simp; omega
            have g2 : (wh == 2) = false := by simp; omega
            obtain ⟨bq, hbq⟩ : ∃ bq : Nat, blk % 4 = (bq : Int) := ⟨(blk % 4).toNat, by omega⟩
            obtain ⟨mq, hmq⟩ : ∃ mq : Nat, mode % 2 = (mq : Int) := ⟨(mode % 2).toNat, by omega⟩
            have hbq3 : bits .and .i64 blk 3 = (bq : Int) := by rw [← hbq]; exact i64_and blk 2 (by decide)
            have hmq1 : bits .and .i64 mode 1 = (mq : Int) := by rw [← hmq]; exact i64_and mode 1 (by decide)
            have hwm1 : IntKind.i64.wrap (1 + (mq : Int)) = 1 + (mq : Int) := by rw [IntKind.wrap_i64]; omega
            have HB0 : Hid ((0 : Int) ≤ (bq : Int)) := Lib.hid (by omega)
            have HB1 : Hid ((bq : Int) < 256) := Lib.hid (by omega)
            have HMM : Hid (1 + (mq : Int) = 1 ∨ 1 + (mq : Int) = 2) := Lib.hid (by omega)
            obtain ⟨lim, hlim⟩ : ∃ lim, lim = w1.heap.size := ⟨_, rfl⟩
            have HLW := Lib.hid hlim
            have HLIM : Hid (∀ wx, Fr (fun k => lim ≤ k) w1 wx → Fr F0 w1 wx) := Lib.hid (fun wx h => (Fr.refl F0 w1).trans h (fun x hx => .inr (by rw [← hlim]; exact hx)))
            have HL100 : Hid (L.length ≤ 100000) := Lib.hid (by have := sane_len HSA.out; omega)
            obtain ⟨E, hE⟩ : ∃ E, E = askE X L id (bq : Int) (1 + (mq : Int)) := ⟨_, rfl⟩
            obtain ⟨G, hGG⟩ : ∃ G, G = askL L id (bq : Int) (1 + (mq : Int)) := ⟨_, rfl⟩
            have HE : Hid (askE X L id (bq : Int) (1 + (mq : Int)) = E) := Lib.hid hE.symm
            have HGG : Hid (askL L id (bq : Int) (1 + (mq : Int)) = G) := Lib.hid hGG.symm
            have HGN2 : Hid (E = 0 → GrnQ X G Q) := Lib.hid (fun h0 => by rw [hGG]; exact HGN.out.ask ⟨HB0.out, HB1.out⟩ HMM.out (by rw [← hE]; exact h0))
            have a2 : w1.cell? ⟨ab, 2, none⟩ = some (.int .i64 blk) := by rw [cell_of HAB1.out]; rfl
            have a3 : w1.cell? ⟨ab, 3, none⟩ = some (.int .i64 mode) := by rw [cell_of HAB1.out]; rfl
            clear hw01 hw2 hw3 hbq hmq hlim hE hGG
            go_wp2_with fail
            clear a1 a2 a3 hbq3 hmq1 hwm1 g0 g1 g2 g3 g3' k0 k1
            refine wp_region_turnB (lim := lim) (sz := 4) [false, false, false, false, false, false, false, false, false, false, false, false, false, true, true, false, false, false, false, false, false, false, false, false, false, false, false, false, false, false, false, false, false, false, false, false, false, false, false, false, false, false, false, false, false, false, false, false, false, true, true, true, true, true, true, true, true, true, true, true, true, true, true, true, false, false, false, false, false, false, false, false, false, false, false, false, false, false, false, false, false, false, false, false, false, false, false, false, false, false, false, false, false, false, false, false, false, false, false, false, false, false, false, false, false, false, false, false, false, false, false, false, false, false, false, false, false, false, false, false, false, false, false, false, false, false, false, false, false, false, false, false, false, false, false, false, false, false, false, false, false, false, false, false, false, false, false, false, false, false, false, false, false, false, false, false, false, false, false, false, false, false] [.eq (.pointer (some ⟨wb, 0, none⟩)), .eq (.pointer (some ⟨wb, 0, none⟩)), .eq (.pointer (some ⟨wb, 2, none⟩)), .eq (.agg #[.slice At nt ct]), .eq (.pointer (some ⟨wb, 0, none⟩)), .eq (.pointer (some ⟨wb, 0, none⟩)), .eq (.pointer (some ⟨wb, 0, none⟩)), .eq (.agg #[.slice Ax n cx, .int .i64 clk]), .eq (.int .i64 id), .eq (.int .i64 (bq : Int)), .eq (.int .i64 (1 + (mq : Int))), ⟨fun v w1 => ∃ A n c, v = .tuple #[.agg #[.slice A n c], .int .i64 E] ∧ (E = 0 → SlV 4 Lk.cells w1 (.slice A n c) G), fun v w1 w2 ⟨A, n, c, h1, h2⟩ hf => ⟨A, n, c, h1, fun e => (h2 e).keepB Lk.len (by decide) hf⟩⟩, ⟨fun v w1 => ∃ A n c, v = .tuple #[.agg #[.slice A n c], .int .i64 E] ∧ (E = 0 → SlV 4 Lk.cells w1 (.slice A n c) G), fun v w1 w2 ⟨A, n, c, h1, h2⟩ hf => ⟨A, n, c, h1, fun e => (h2 e).keepB Lk.len (by decide) hf⟩⟩, ⟨fun v w1 => ∃ A n c, v = .agg #[.slice A n c] ∧ (E = 0 → SlV 4 Lk.cells w1 (.slice A n c) G), fun v w1 w2 ⟨A, n, c, h1, h2⟩ hf => ⟨A, n, c, h1, fun e => (h2 e).keepB Lk.len (by decide) hf⟩⟩, .eq (.int .i64 E), .any, .any, .eq (.int .i64 E)] (BoxT 13 lim E G) [none, none, none, none, none, none, none, none, none, none, none, none, none, none, none, some 0, some 1, none] [13] 2 (by kernel_rfl) (by kernel_rfl) (by rfl) (by kernel_rfl) ?hJ ?hJ0 (fun us => ?steps) (fun us wz hG hJ hall => ?fin)
            case hJ =>
              exact BoxT.keep 13 lim E G
            case hJ0 =>
              exact fun h => by cases h
            case steps =>
              simp only [fillL, Nat.reduceAdd]
              refine stepsTurnB.cons (fun wx hG hd K hK => ?_) ?_
              · rw [if_pos (wanted_none rfl)]
                refine wp_value (w2 := wx) (v := .pointer (some ⟨wb, 0, none⟩)) ?_ (hK _ _ rfl (Fr.refl _ _))
                clear hd hG hK
                go_simp
              refine stepsTurnB.cons (fun wx hG hd K hK => ?_) ?_
              · have h50 : us 50 = (.pointer (some ⟨wb, 0, none⟩)) := deps_getB hd 0 rfl rfl rfl rfl rfl
                rw [if_pos (wanted_none rfl)]
                refine wp_value (w2 := wx) (v := .pointer (some ⟨wb, 0, none⟩)) ?_ (hK _ _ rfl (Fr.refl _ _))
                clear hd hG hK
                go_simp
              refine stepsTurnB.cons (fun wx hG hd K hK => ?_) ?_
              · have h51 : us 51 = (.pointer (some ⟨wb, 0, none⟩)) := deps_getB hd 0 rfl rfl rfl rfl rfl
                rw [if_pos (wanted_none rfl)]
                refine wp_value (w2 := wx) (v := .pointer (some ⟨wb, 2, none⟩)) ?_ (hK _ _ rfl (Fr.refl _ _))
                clear hd hG hK
                go_simp
              refine stepsTurnB.cons (fun wx hG hd K hK => ?_) ?_
              · have h52 : us 52 = (.pointer (some ⟨wb, 2, none⟩)) := deps_getB hd 0 rfl rfl rfl rfl rfl
                rw [if_pos (wanted_none rfl)]
                have hc := (HW1.out.keep0 (HLIM.out wx hG.fr)).c2
                refine wp_value (w2 := wx) (v := .agg #[.slice At nt ct]) ?_ (hK _ _ rfl (Fr.refl _ _))
                clear hd hK
                go_simp
              refine stepsTurnB.cons (fun wx hG hd K hK => ?_) ?_
              · rw [if_pos (wanted_none rfl)]
                refine wp_value (w2 := wx) (v := .pointer (some ⟨wb, 0, none⟩)) ?_ (hK _ _ rfl (Fr.refl _ _))
                clear hd hG hK
                go_simp
              refine stepsTurnB.cons (fun wx hG hd K hK => ?_) ?_
              · have h54 : us 54 = (.pointer (some ⟨wb, 0, none⟩)) := deps_getB hd 0 rfl rfl rfl rfl rfl
                rw [if_pos (wanted_none rfl)]
                refine wp_value (w2 := wx) (v := .pointer (some ⟨wb, 0, none⟩)) ?_ (hK _ _ rfl (Fr.refl _ _))
                clear hd hG hK
                go_simp
              refine stepsTurnB.cons (fun wx hG hd K hK => ?_) ?_
              · have h55 : us 55 = (.pointer (some ⟨wb, 0, none⟩)) := deps_getB hd 0 rfl rfl rfl rfl rfl
                rw [if_pos (wanted_none rfl)]
                refine wp_value (w2 := wx) (v := .pointer (some ⟨wb, 0, none⟩)) ?_ (hK _ _ rfl (Fr.refl _ _))
                clear hd hG hK
                go_simp
              refine stepsTurnB.cons (fun wx hG hd K hK => ?_) ?_
              · have h56 : us 56 = (.pointer (some ⟨wb, 0, none⟩)) := deps_getB hd 0 rfl rfl rfl rfl rfl
                rw [if_pos (wanted_none rfl)]
                have hc := (HW1.out.keep0 (HLIM.out wx hG.fr)).c0
                have hc1 := (HW1.out.keep0 (HLIM.out wx hG.fr)).c1
                refine wp_value (w2 := wx) (v := .agg #[.slice Ax n cx, .int .i64 clk]) ?_ (hK _ _ rfl (Fr.refl _ _))
                clear hd hK
                go_simp
              refine stepsTurnB.cons (fun wx hG hd K hK => ?_) ?_
              · rw [if_pos (wanted_none rfl)]
                refine wp_value (w2 := wx) (v := .int .i64 id) ?_ (hK _ _ rfl (Fr.refl _ _))
                clear hd hG hK
                go_simp
              refine stepsTurnB.cons (fun wx hG hd K hK => ?_) ?_
              · rw [if_pos (wanted_none rfl)]
                refine wp_value (w2 := wx) (v := .int .i64 (bq : Int)) ?_ (hK _ _ rfl (Fr.refl _ _))
                clear hd hG hK
                go_simp
              refine stepsTurnB.cons (fun wx hG hd K hK => ?_) ?_
              · rw [if_pos (wanted_none rfl)]
                refine wp_value (w2 := wx) (v := .int .i64 (1 + (mq : Int))) ?_ (hK _ _ rfl (Fr.refl _ _))
                clear hd hG hK
                go_simp
              refine stepsTurnB.cons (fun wx hG hd K hK => ?_) ?_
              · have h53 : us 53 = (.agg #[.slice At nt ct]) := deps_getB hd 0 rfl rfl rfl rfl rfl
                have h57 : us 57 = (.agg #[.slice Ax n cx, .int .i64 clk]) := deps_getB hd 1 rfl rfl rfl rfl rfl
                have h58 : us 58 = (.int .i64 id) := deps_getB hd 2 rfl rfl rfl rfl rfl
                have h59 : us 59 = (.int .i64 (bq : Int)) := deps_getB hd 3 rfl rfl rfl rfl rfl
                have h60 : us 60 = (.int .i64 (1 + (mq : Int))) := deps_getB hd 4 rfl rfl rfl rfl rfl
                rw [if_pos (wanted_none rfl)]
                refine wp_call (w2 := wx) (f := 15) (args := #[.agg #[.slice At nt ct], .agg #[.slice Ax n cx, .int .i64 clk], .int .i64 id, .int .i64 (bq : Int), .int .i64 (1 + (mq : Int))]) ?_ ?_
                · clear hd hK
                  go_simp
                · refine (ask_c (w := wx) (X := X) (L := L) clk id (bq : Int) (1 + (mq : Int)) (HW1.out.keep0 (HLIM.out wx hG.fr)).st HL100.out HSA.out (HW1.out.keep0 (HLIM.out wx hG.fr)).sx HX64.out HB0.out HB1.out HMM.out).mono ?_
                  intro e w9 har
                  obtain ⟨A, n, c, rfl, hs, hf⟩ := har.any2
                  rw [HE.out] at hs ⊢
                  rw [HGG.out] at hs
                  exact ⟨_, rfl, hK _ _ ⟨A, n, c, rfl, hs⟩ hf⟩
              refine stepsTurnB.cons (fun wx hG hd K hK => ?_) ?_
              · have h61 := deps_getB hd 0 rfl rfl rfl rfl rfl
                rw [if_pos (wanted_none rfl)]
                obtain ⟨A, n, c, h61', hs⟩ := h61
                refine wp_value (w2 := wx) (v := .tuple #[.agg #[.slice A n c], .int .i64 E]) ?_ (hK _ _ ⟨_, _, _, rfl, hs⟩ (Fr.refl _ _))
                clear hd hG hK hs
                go_simp
              refine stepsTurnB.cons (fun wx hG hd K hK => ?_) ?_
              · have h49 := deps_getB hd 0 rfl rfl rfl rfl rfl
                rw [if_pos (wanted_none rfl)]
                obtain ⟨A, n, c, h49', hs⟩ := h49
                refine wp_value (w2 := wx) (v := .agg #[.slice A n c]) ?_ (hK _ _ ⟨_, _, _, rfl, hs⟩ (Fr.refl _ _))
                clear hd hG hK hs
                go_simp
              refine stepsTurnB.cons (fun wx hG hd K hK => ?_) ?_
              · have h49 := deps_getB hd 0 rfl rfl rfl rfl rfl
                rw [if_pos (wanted_none rfl)]
                obtain ⟨A, n, c, h49', hs⟩ := h49
                refine wp_value (w2 := wx) (v := .int .i64 E) ?_ (hK _ _ rfl (Fr.refl _ _))
                clear hd hG hK hs
                go_simp
              refine stepsTurnB.cons (fun wx hG hJ hd K hK => ?_) ?_
              · rw [if_pos (wanted_none rfl)]
                refine wp_value (w2 := wx.alloc (.cells #[.slice none 0 0] 34)) (v := .pointer (some ⟨wx.heap.size, 0, none⟩)) ?_ (hK _ _ trivial (FrB.of0 ((Fr.refl _ _).alloc _)) (fun _ => ⟨wx.heap.size, _, by simp [updD], hG.fr.size |> fun h => by rw [HLW.out]; exact h, alloc_at rfl _, fun h => by cases h⟩))
                clear hd hG hK hJ
                go_simp
              refine stepsTurnB.cons (fun wx hG hJ hd K hK => ?_) ?_
              · have h13 := deps_getB hd 0 rfl rfl rfl rfl rfl
                have h62 := deps_getB hd 1 rfl rfl rfl rfl rfl
                rw [if_pos (wanted_none rfl)]
                obtain ⟨bb, uu, hb1, hb2, hb3, -⟩ := hJ (Nat.le_refl 1)
                obtain ⟨A, n, c, h62', hs⟩ := h62
                have hf9 := FrB.small (sz := 4) (lim := lim) hb3 (by show 1 < 4; decide) hb2 ((Fr.refl (fun k => k = bb) wx).setRow (by exact .inl rfl) (splat [uu] 0 [.slice A n c]).toArray)
                refine wp_store_at 34 (.tmp 13) (.tmp 62) rfl bb 0 [.slice A n c] (by exact hb1) (by exact h62') 34 [uu] hb3 size_table (Nat.le_refl 1) (by simp [Value.oneCell']) (hK undef _ trivial hf9 (fun _ => ⟨bb, .slice A n c, by first | exact hb1 | simpa [updD] using hb1, hb2, by rw [setRow_heap _ _ _ _ _ _ hb3]; rfl, fun _ => ⟨A, n, c, rfl, fun e => (hs e).keepB Lk.len (by decide) hf9⟩⟩))
              refine stepsTurnB.cons (fun wx hG hd K hK => ?_) ?_
              · have h63 : us 63 = (.int .i64 E) := deps_getB hd 0 rfl rfl rfl rfl rfl
                rw [if_pos (wanted_none rfl)]
                refine wp_value (w2 := wx) (v := .int .i64 E) ?_ (hK _ _ rfl (Fr.refl _ _))
                clear hd hG hK
                go_simp
              exact stepsTurnB.nil
            case fin =>
              have h50 : us 50 = (.pointer (some ⟨wb, 0, none⟩)) := all_getB hall 0 rfl rfl rfl
              have h51 : us 51 = (.pointer (some ⟨wb, 0, none⟩)) := all_getB hall 1 rfl rfl rfl
              have h52 : us 52 = (.pointer (some ⟨wb, 2, none⟩)) := all_getB hall 2 rfl rfl rfl
              have h53 : us 53 = (.agg #[.slice At nt ct]) := all_getB hall 3 rfl rfl rfl
              have h54 : us 54 = (.pointer (some ⟨wb, 0, none⟩)) := all_getB hall 4 rfl rfl rfl
              have h55 : us 55 = (.pointer (some ⟨wb, 0, none⟩)) := all_getB hall 5 rfl rfl rfl
              have h56 : us 56 = (.pointer (some ⟨wb, 0, none⟩)) := all_getB hall 6 rfl rfl rfl
              have h57 : us 57 = (.agg #[.slice Ax n cx, .int .i64 clk]) := all_getB hall 7 rfl rfl rfl
              have h58 : us 58 = (.int .i64 id) := all_getB hall 8 rfl rfl rfl
              have h59 : us 59 = (.int .i64 (bq : Int)) := all_getB hall 9 rfl rfl rfl
              have h60 : us 60 = (.int .i64 (1 + (mq : Int))) := all_getB hall 10 rfl rfl rfl
              have h61 := all_getB hall 11 rfl rfl rfl
              have h49 := all_getB hall 12 rfl rfl rfl
              have h62 := all_getB hall 13 rfl rfl rfl
              have h63 : us 63 = (.int .i64 E) := all_getB hall 14 rfl rfl rfl
              have h13 := all_getB hall 15 rfl rfl rfl
              have h14 : us 14 = (.int .i64 E) := all_getB hall 17 rfl rfl rfl
              simp only [fillL, Nat.reduceAdd]
              clear hall
              simp only [h50, h51, h52, h53, h54, h55, h56, h57, h58, h59, h60, h63, h14]
              clear h50 h51 h52 h53 h54 h55 h56 h57 h58 h59 h60 h63 h14
              obtain ⟨b13, u13, e13, hlb, hb13, hb4⟩ := hJ (by decide)
              obtain ⟨A13, n13, c13, rfl, hs13⟩ := hb4 rfl
              have hG0 := HLIM.out wz hG.fr
              have HWZ := Lib.hid (HW1.out.keep0 hG0)
              have HFZ := Lib.hid (HF1.out.then0 hG0)
              have H13 := Lib.hid hb13
              have HS13 := Lib.hid hs13
              rw [e13]
              clear hJ hG hG0 hb4 hb13 hs13
              by_cases hE0 : E = 0
              · have g4 : (E == 0) = true := by simp [hE0]
                have HE0 := Lib.hid hE0
                have q1 : wz.cell? ⟨b13, 0, none⟩ = some (.slice A13 n13 c13) := by rw [cell_of H13.out]; rfl
                have q2 := HWZ.out.c2
                have q3 := HWZ.out.fz 2
                obtain ⟨hw5, hf5⟩ := HWZ.out.putT (HS13.out HE0.out)
                have HW5 := Lib.hid hw5
                have HF5 := Lib.hid (HFZ.out.of0.trans hf5 (fun _ h => .inl h))
                clear hE0 hw5 hf5
                go_wp2_with fail
                go_end0
                exact ⟨_, _, _, _, _, _, clk, rfl, HW5.out, HGN2.out HE0.out, Int.le_refl _, by omega, HF5.out⟩
              · have g4 : (E == 0) = false := by simp [hE0]
                by_cases hE9 : E = 9
                · have g5 : (E == 9) = true := by simp [hE9]
                  have hlv : isId X id = true ∧ stateOf X id = 1 := by
                    have h1 := HE.out
                    rw [hE9] at h1
                    unfold askE at h1
                    split at h1
                    · cases h1
                    · rename_i h2
                      split at h1
                      · cases h1
                      · rename_i h3
                        exact ⟨isId_iff.2 (by omega), by simpa using h3⟩
                  obtain ⟨hok, hgq⟩ := HGN.out.add (b := (bq : Int)) (m := 1 + (mq : Int)) ⟨HB0.out, HB1.out⟩ HMM.out hlv.1 hlv.2 HNQ.out
                  have hrm := HGN.out.room hlv.1 HNQ.out
                  have HOK := Lib.hid hok
                  have HGQ := Lib.hid hgq
                  have HRM := Lib.hid hrm
                  have q3 := HWZ.out.c3
                  clear hE0 hE9 hlv hok hgq hrm
                  go_wp2_with fail
                  clear q3
                  refine (add_c HWZ.out.sq HGN.out.sane ⟨id, (bq : Int), 1 + (mq : Int)⟩ HOK.out HNQ.out HRM.out).mono ?_
                  rintro e w5 ⟨v5, rfl, hs5, hf5⟩
                  obtain ⟨A5, c5, rfl, -⟩ := hs5.ex
                  obtain ⟨n5, hn5⟩ : ∃ n5, n5 = (Q ++ [(⟨id, (bq : Int), 1 + (mq : Int)⟩ : Wn)]).length := ⟨_, rfl⟩
                  rw [← hn5] at hs5 ⊢
                  obtain ⟨W6, hW6⟩ : ∃ W6, W6 = w5.alloc (.cells #[.slice A5 n5 c5] 28) := ⟨_, rfl⟩
                  have hfW : Fr F0 w5 W6 := by rw [hW6]; exact (Fr.refl _ _).alloc _
                  have HW6 := Lib.hid ((HWZ.out.keep0 hf5).keep0 hfW)
                  have HF6 := Lib.hid ((HFZ.out.then0 hf5).then0 hfW)
                  obtain ⟨hw7, hf7⟩ := HW6.out.putQ (hs5.keep0 hfW)
                  have HW7 := Lib.hid hw7
                  have HF7 := Lib.hid (HF6.out.of0.trans hf7 (fun _ h => .inl h))
                  have HWE6 := Lib.hid hW6
                  have q1 : (w5.alloc (.cells #[.slice A5 n5 c5] 28)).cell? ⟨wb, 3, none⟩ = some (.slice Aq nq cq) := by rw [← hW6]; exact HW6.out.c3
                  have q2 : (w5.alloc (.cells #[.slice A5 n5 c5] 28)).frozen? ⟨wb, 3, none⟩ = false := by rw [← hW6]; exact HW6.out.fz 3
                  clear hs5 hf5 hn5 hW6 hfW hw7 hf7
                  go_wp2_with fail
                  rw [← HWE6.out]
                  go_end0
                  exact ⟨_, _, _, _, _, _, clk, rfl, HW7.out, HGQ.out, Int.le_refl _, by omega, HF7.out⟩
                · have g5 : (E == 9) = false := by simp [hE9]
                  clear hE0 hE9
                  go_wp2_with fail
                  go_end0
                  exact ⟨X, L, Q, _, _, _, clk, rfl, HWZ.out, HGN.out, Int.le_refl _, by omega, HFZ.out.of0⟩
end
end Go.Proofs.YtgbaijfgmeealaaGreat
