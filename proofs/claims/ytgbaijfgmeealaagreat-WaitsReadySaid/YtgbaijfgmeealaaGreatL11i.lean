/-
  Layer 11: WaitsReady, the walk. Conditions: none.
-/
import Derived.Test.YtgbaijfgmeealaaGreatL11g
import Derived.BigQuiet
set_option linter.unusedVariables false
set_option linter.unusedSimpArgs false
namespace Go.Proofs.YtgbaijfgmeealaaGreat
open Go.RowKit
def ShT (slot lim : Nat) (k : Nat) (us : Nat → Value) (w : World) : Prop := k = 1 → ∃ b u, us slot = .pointer (some ⟨b, 0, none⟩) ∧ lim ≤ b ∧ w.heap[b]? = some (.cells #[u] 34 (0, 0))
theorem ShT.keep (slot lim : Nat) (k : Nat) (us us' : Nat → Value) (w' w'' : World) (h : ShT slot lim k us w') (hd : ∀ d ∈ [slot], us' d = us d) (hf : Fr F0 w' w'') : ShT slot lim k us' w'' := fun hk => by
  obtain ⟨b, u, h1, h2, h3⟩ := h hk
  exact ⟨b, u, by rw [hd slot (by simp)]; exact h1, h2, hf.keep0 h3⟩
theorem readyTo_le (X : List Tx9) (L : List Lk) (Q : List Wn) {i : Nat} (hi : i ≤ Q.length) : (readyTo X L Q i).length ≤ (readyL X L Q).length := by
  have hsplit : readyL X L Q = readyTo X L Q i ++ (List.range' i (Q.length - i)).flatMap fun k => if (edgesOf X (wtL X L Q) k).length = 0 then (Q[k]?).toList else [] := by
    unfold readyL readyTo
    rw [← List.flatMap_append]
    congr 1
    rw [List.range_eq_range', List.range_eq_range']
    have := List.range'_append (s := 0) (m := i) (n := Q.length - i) (step := 1)
    simp at this
    rw [show i + (Q.length - i) = Q.length by omega] at this
    exact this.symm
  rw [hsplit, List.length_append]
  omega
theorem ready_mem {X : List Tx9} {L : List Lk} {Q : List Wn} {z : Wn} (h : z ∈ readyL X L Q) : z ∈ Q := by
  unfold readyL readyTo at h
  obtain ⟨k, -, hz⟩ := List.mem_flatMap.1 h
  split at hz
  · rw [Option.mem_toList] at hz
    exact List.mem_of_getElem? hz
  · simp at hz
theorem wn_tx {Q : List Wn} (hs : SaneQ Q) {x z : Wn} (hx : x ∈ Q) (hz : z ∈ Q) (h : z.tx = x.tx) : z = x := by
  obtain ⟨i, hi, rfl⟩ := List.getElem_of_mem hx
  obtain ⟨j, hj, rfl⟩ := List.getElem_of_mem hz
  have hp := List.pairwise_iff_getElem.1 hs.one
  rcases Nat.lt_trichotomy i j with h1 | h1 | h1
  · exact absurd h.symm (hp i j hi hj h1)
  · subst h1; rfl
  · exact absurd h (hp j i hj hi h1)
section
variable {w : World}
set_option maxRecDepth 100000 in
set_option maxHeartbeats 8000000 in
theorem ready_walk (A : Option Addr) (N cA : Nat) (l : List Act1) (hA : ActsAt w A N l) (hN : N ≤ 9223372036854775807) : Calls Tryz.prog 5 #[.slice A N cA] w fun e w' => e = .returned (.bool true) ∧ Fr F0 w w' := by
  have HACT := Lib.hid hA
  have N0 : (0 : Int) ≤ (N : Int) := Int.natCast_nonneg _
  clear hA
  go_enter Tryz.func5, Tryz.ntmps5
  go_wp2_with fail
  refine (awake11_c).mono ?_
  rintro e w1 ⟨rfl, hf1⟩
  have HF1 := Lib.hid hf1
  clear hf1
  by_cases hbig : 100 < N
  · have hb1 : (100 : Int) < (N : Int) := by omega
    go_wp2_with fail
    go_ret
    exact ⟨rfl, HF1.out⟩
  · have hb1 : ¬ (100 : Int) < (N : Int) := by omega
    go_wp2_with fail
    refine (grown_c (HACT.out.keep0 HF1.out) (by omega)).mono ?_
    intro e w2 hgr
    obtain ⟨wb, X, L, Q, vx, vt, vq, clk, rfl, hw, hg, -, -, -, hf2⟩ := hgr.ex
    obtain ⟨Ax, cx, rfl, -⟩ := hw.sx.ex
    obtain ⟨At, ct, rfl, -⟩ := hw.st.ex
    obtain ⟨Aq, cq, rfl, hqr, -⟩ := hw.sq.ex
    obtain ⟨n, hn⟩ : ∃ n, n = X.length := ⟨_, rfl⟩
    obtain ⟨nt, hnt⟩ : ∃ nt, nt = L.length := ⟨_, rfl⟩
    obtain ⟨nq, hnq⟩ : ∃ nq, nq = Q.length := ⟨_, rfl⟩
    obtain ⟨R, hR⟩ : ∃ R, R = readyL X L Q := ⟨_, rfl⟩
    obtain ⟨nr, hnr⟩ : ∃ nr, nr = R.length := ⟨_, rfl⟩
    have hnq64 : nq ≤ 64 := by rw [hnq]; exact hg.sane.len
    have hnr64 : nr ≤ 64 := by rw [hnr, hR]; exact Nat.le_trans (readyTo_len X L Q Q.length) (by rw [← hnq]; exact hnq64)
    have HRE : Hid (readyL X L Q = R) := Lib.hid hR.symm
    have HNR : Hid (R.length = nr) := Lib.hid hnr.symm
    have HNQ : Hid (Q.length = nq) := Lib.hid hnq.symm
    have HL1M : Hid (L.length ≤ 1000000) := Lib.hid (by have := sane_len hg.grn.sane; omega)
    have HL100 : Hid (L.length ≤ 100000) := Lib.hid (by have := sane_len hg.grn.sane; omega)
    have HGN := Lib.hid hg
    have HF2 := Lib.hid (HF1.out.then0 hf2)
    rw [← hn, ← hnt, ← hnq] at hw
    have HW := Lib.hid hw
    have HQR := Lib.hid hqr
    obtain ⟨d, hu, hd⟩ := und_want
    have HU := Lib.hid hu
    have HDD := Lib.hid hd
    have nq0 : (0 : Int) ≤ (nq : Int) := Int.natCast_nonneg _
    have nr0 : (0 : Int) ≤ (nr : Int) := Int.natCast_nonneg _
    clear hgr hw hg hf2 hn hnt hnq hR hnr hu hd hqr
    go_wp2_with fail
    refine wp_region_free (S := F0) [false, false, false, false, false, true, false, false, false, false, false, false, false, false, false, false, false, false, false, false, false, true, true, true, true, true, true, true, true, true, true, true, true, true, false, false, false, false, false, false, false, false, false, false, false, false, false, false, false, false, false, false, false, false, false, false, false, false, false, false, false, false, false, false, false, false, false, false, false, false, false, false, false, false, false, false, false, false, false, false, false, false, false, false, false, false, false, false, false, false, false, false, false, false, false, false, false, false, false, false, false, false, false, false, false, false, false, false, false, false, false, false, false, false, false, false, false, false, false, false, false, false, false, false, false, false, false, false, false, false, false, false, false, false] [.eq (.pointer (some ⟨wb, 0, none⟩)), .eq (.pointer (some ⟨wb, 0, none⟩)), .eq (.pointer (some ⟨wb, 3, none⟩)), .eq (.agg #[.slice Aq nq cq]), .eq (.pointer (some ⟨wb, 0, none⟩)), .eq (.pointer (some ⟨wb, 0, none⟩)), .eq (.pointer (some ⟨wb, 2, none⟩)), .eq (.agg #[.slice At nt ct]), .eq (.pointer (some ⟨wb, 0, none⟩)), .eq (.pointer (some ⟨wb, 0, none⟩)), .eq (.pointer (some ⟨wb, 0, none⟩)), .eq (.agg #[.slice Ax n cx, .int .i64 clk]), ⟨fun v w1 => ∃ A c, v = .slice A nr c ∧ SlV 3 Wn.cells w1 (.slice A nr c) R, fun v w1 w2 ⟨A, c, h1, h2⟩ hf => ⟨A, c, h1, h2.keep0 hf⟩⟩, ⟨fun v w1 => ∃ A c, v = .slice A nr c ∧ SlV 3 Wn.cells w1 (.slice A nr c) R, fun v w1 w2 ⟨A, c, h1, h2⟩ hf => ⟨A, c, h1, h2.keep0 hf⟩⟩] (by kernel_rfl) (by kernel_rfl) (by rfl) (fun us => ?steps) (fun us wz hG hall => ?fin)
    case steps =>
      simp only [fillL, Nat.reduceAdd]
      refine stepsHold.cons (fun wx hG hd K hK => ?_) ?_
      · rw [if_pos (wanted_none rfl)]
        refine wp_value (w2 := wx) (v := .pointer (some ⟨wb, 0, none⟩)) ?_ (hK _ _ rfl (Fr.refl _ _))
        clear hd hG hK
        go_simp
      refine stepsHold.cons (fun wx hG hd K hK => ?_) ?_
      · have h21 : us 21 = (.pointer (some ⟨wb, 0, none⟩)) := deps_get hd 0 rfl rfl rfl rfl rfl
        rw [if_pos (wanted_none rfl)]
        refine wp_value (w2 := wx) (v := .pointer (some ⟨wb, 0, none⟩)) ?_ (hK _ _ rfl (Fr.refl _ _))
        clear hd hG hK
        go_simp
      refine stepsHold.cons (fun wx hG hd K hK => ?_) ?_
      · have h22 : us 22 = (.pointer (some ⟨wb, 0, none⟩)) := deps_get hd 0 rfl rfl rfl rfl rfl
        rw [if_pos (wanted_none rfl)]
        refine wp_value (w2 := wx) (v := .pointer (some ⟨wb, 3, none⟩)) ?_ (hK _ _ rfl (Fr.refl _ _))
        clear hd hG hK
        go_simp
      refine stepsHold.cons (fun wx hG hd K hK => ?_) ?_
      · have h23 : us 23 = (.pointer (some ⟨wb, 3, none⟩)) := deps_get hd 0 rfl rfl rfl rfl rfl
        rw [if_pos (wanted_none rfl)]
        have hc := (HW.out.keep0 hG).c3
        refine wp_value (w2 := wx) (v := .agg #[.slice Aq nq cq]) ?_ (hK _ _ rfl (Fr.refl _ _))
        clear hd hK
        go_simp
      refine stepsHold.cons (fun wx hG hd K hK => ?_) ?_
      · rw [if_pos (wanted_none rfl)]
        refine wp_value (w2 := wx) (v := .pointer (some ⟨wb, 0, none⟩)) ?_ (hK _ _ rfl (Fr.refl _ _))
        clear hd hG hK
        go_simp
      refine stepsHold.cons (fun wx hG hd K hK => ?_) ?_
      · have h25 : us 25 = (.pointer (some ⟨wb, 0, none⟩)) := deps_get hd 0 rfl rfl rfl rfl rfl
        rw [if_pos (wanted_none rfl)]
        refine wp_value (w2 := wx) (v := .pointer (some ⟨wb, 0, none⟩)) ?_ (hK _ _ rfl (Fr.refl _ _))
        clear hd hG hK
        go_simp
      refine stepsHold.cons (fun wx hG hd K hK => ?_) ?_
      · have h26 : us 26 = (.pointer (some ⟨wb, 0, none⟩)) := deps_get hd 0 rfl rfl rfl rfl rfl
        rw [if_pos (wanted_none rfl)]
        refine wp_value (w2 := wx) (v := .pointer (some ⟨wb, 2, none⟩)) ?_ (hK _ _ rfl (Fr.refl _ _))
        clear hd hG hK
        go_simp
      refine stepsHold.cons (fun wx hG hd K hK => ?_) ?_
      · have h27 : us 27 = (.pointer (some ⟨wb, 2, none⟩)) := deps_get hd 0 rfl rfl rfl rfl rfl
        rw [if_pos (wanted_none rfl)]
        have hc := (HW.out.keep0 hG).c2
        refine wp_value (w2 := wx) (v := .agg #[.slice At nt ct]) ?_ (hK _ _ rfl (Fr.refl _ _))
        clear hd hK
        go_simp
      refine stepsHold.cons (fun wx hG hd K hK => ?_) ?_
      · rw [if_pos (wanted_none rfl)]
        refine wp_value (w2 := wx) (v := .pointer (some ⟨wb, 0, none⟩)) ?_ (hK _ _ rfl (Fr.refl _ _))
        clear hd hG hK
        go_simp
      refine stepsHold.cons (fun wx hG hd K hK => ?_) ?_
      · have h29 : us 29 = (.pointer (some ⟨wb, 0, none⟩)) := deps_get hd 0 rfl rfl rfl rfl rfl
        rw [if_pos (wanted_none rfl)]
        refine wp_value (w2 := wx) (v := .pointer (some ⟨wb, 0, none⟩)) ?_ (hK _ _ rfl (Fr.refl _ _))
        clear hd hG hK
        go_simp
      refine stepsHold.cons (fun wx hG hd K hK => ?_) ?_
      · have h30 : us 30 = (.pointer (some ⟨wb, 0, none⟩)) := deps_get hd 0 rfl rfl rfl rfl rfl
        rw [if_pos (wanted_none rfl)]
        refine wp_value (w2 := wx) (v := .pointer (some ⟨wb, 0, none⟩)) ?_ (hK _ _ rfl (Fr.refl _ _))
        clear hd hG hK
        go_simp
      refine stepsHold.cons (fun wx hG hd K hK => ?_) ?_
      · have h31 : us 31 = (.pointer (some ⟨wb, 0, none⟩)) := deps_get hd 0 rfl rfl rfl rfl rfl
        rw [if_pos (wanted_none rfl)]
        have hc := (HW.out.keep0 hG).c0
        have hc1 := (HW.out.keep0 hG).c1
        refine wp_value (w2 := wx) (v := .agg #[.slice Ax n cx, .int .i64 clk]) ?_ (hK _ _ rfl (Fr.refl _ _))
        clear hd hK
        go_simp
      refine stepsHold.cons (fun wx hG hd K hK => ?_) ?_
      · have h24 : us 24 = (.agg #[.slice Aq nq cq]) := deps_get hd 0 rfl rfl rfl rfl rfl
        have h28 : us 28 = (.agg #[.slice At nt ct]) := deps_get hd 1 rfl rfl rfl rfl rfl
        have h32 : us 32 = (.agg #[.slice Ax n cx, .int .i64 clk]) := deps_get hd 2 rfl rfl rfl rfl rfl
        rw [if_pos (wanted_none rfl)]
        refine wp_call (w2 := wx) (f := 14) (args := #[.agg #[.slice Aq nq cq], .agg #[.slice At nt ct], .agg #[.slice Ax n cx, .int .i64 clk]]) ?_ ?_
        · clear hd hK
          go_simp
        · refine (ready_c clk (HW.out.keep0 hG).sq HGN.out.sane.ok HGN.out.sane.len (HW.out.keep0 hG).st HGN.out.grn.sane (HW.out.keep0 hG).sx HGN.out.grn.len).mono ?_
          rintro e w9 ⟨v9, rfl, hs9, hf9⟩
          rw [HRE.out] at hs9
          obtain ⟨A9, c9, rfl⟩ := hs9.exn (n := nr) HNR.out
          exact ⟨_, rfl, hK _ _ ⟨A9, c9, rfl, hs9⟩ hf9⟩
      refine stepsHold.cons (fun wx hG hd K hK => ?_) ?_
      · have h33 := deps_get hd 0 rfl rfl rfl rfl rfl
        rw [if_pos (wanted_none rfl)]
        obtain ⟨A9, c9, h33', hs9⟩ := h33
        refine wp_value (w2 := wx) (v := .slice A9 nr c9) ?_ (hK _ _ ⟨_, _, rfl, hs9⟩ (Fr.refl _ _))
        clear hd hG hK hs9
        go_simp
      exact stepsHold.nil
    case fin =>
      have h21 : us 21 = (.pointer (some ⟨wb, 0, none⟩)) := all_get hall 0 rfl rfl rfl
      have h22 : us 22 = (.pointer (some ⟨wb, 0, none⟩)) := all_get hall 1 rfl rfl rfl
      have h23 : us 23 = (.pointer (some ⟨wb, 3, none⟩)) := all_get hall 2 rfl rfl rfl
      have h24 : us 24 = (.agg #[.slice Aq nq cq]) := all_get hall 3 rfl rfl rfl
      have h25 : us 25 = (.pointer (some ⟨wb, 0, none⟩)) := all_get hall 4 rfl rfl rfl
      have h26 : us 26 = (.pointer (some ⟨wb, 0, none⟩)) := all_get hall 5 rfl rfl rfl
      have h27 : us 27 = (.pointer (some ⟨wb, 2, none⟩)) := all_get hall 6 rfl rfl rfl
      have h28 : us 28 = (.agg #[.slice At nt ct]) := all_get hall 7 rfl rfl rfl
      have h29 : us 29 = (.pointer (some ⟨wb, 0, none⟩)) := all_get hall 8 rfl rfl rfl
      have h30 : us 30 = (.pointer (some ⟨wb, 0, none⟩)) := all_get hall 9 rfl rfl rfl
      have h31 : us 31 = (.pointer (some ⟨wb, 0, none⟩)) := all_get hall 10 rfl rfl rfl
      have h32 : us 32 = (.agg #[.slice Ax n cx, .int .i64 clk]) := all_get hall 11 rfl rfl rfl
      have h33 := all_get hall 12 rfl rfl rfl
      have h5 := all_get hall 13 rfl rfl rfl
      simp only [fillL, Nat.reduceAdd]
      clear hall
      simp only [h21, h22, h23, h24, h25, h26, h27, h28, h29, h30, h31, h32]
      clear h21 h22 h23 h24 h25 h26 h27 h28 h29 h30 h31 h32
      obtain ⟨Ar, cr, e5, hsr⟩ := h5
      obtain ⟨w5, hw5⟩ : ∃ w5, w5 = wz := ⟨wz, rfl⟩
      subst hw5
      rw [e5]
      have HSR := Lib.hid hsr
      have HF5 := Lib.hid (HF2.out.then0 hG)
      have HW5 := Lib.hid (HW.out.keep0 hG)
      have HQ5 := Lib.hid (HQR.out.keep0 hG)
      clear hsr hG e5
      go_wp2_with fail
      go_loopg [6, 7, 8, 9, 10, 11, 12, 13] nq (fun kq x6 x7 x8 x9 x10 x11 x12 x13 wr => ∃ i : Nat, i ≤ nq ∧ kq = nq - i ∧ x7 = .int .i64 (i : Int) ∧ x6 = .int .i64 ((readyTo X L Q i).length : Int) ∧ Fr F0 w5 wr)
      case atStart => exact ⟨0, by omega, rfl, rfl, rfl, Fr.refl _ _⟩
      case round =>
        obtain ⟨i, hi, rfl, rfl, hk6, hf⟩ := hrel
        obtain ⟨k, hk⟩ : ∃ k, k = (readyTo X L Q i).length := ⟨_, rfl⟩
        rw [← hk] at hk6
        subst hk6
        have HK := Lib.hid hk
        have HF := Lib.hid hf
        have HWr := Lib.hid (HW5.out.keep0 hf)
        have i0 : (0 : Int) ≤ (i : Int) := Int.natCast_nonneg _
        have k0n : (0 : Int) ≤ (k : Int) := Int.natCast_nonneg _
        have hknr : k ≤ nr := by rw [hk, ← HNR.out, ← HRE.out]; exact readyTo_le X L Q (by rw [HNQ.out]; exact hi)
        have k3 := HWr.out.c3
        clear hf hk
        by_cases hlt : i < nq
        · have i1 : (i : Int) < (nq : Int) := by omega
          have hiQ : i < Q.length := by rw [HNQ.out]; exact hlt
          obtain ⟨qb, qo, rfl, hc⟩ := (HQ5.out.keep0 HF.out).get (List.getElem?_eq_getElem hiQ) (Wn.pos _)
          have hxi := List.getElem?_eq_getElem hiQ
          have hok := HGN.out.sane.ok Q[i] (List.getElem_mem hiQ)
          obtain ⟨x, hx⟩ : ∃ x, x = Q[i] := ⟨_, rfl⟩
          rw [← hx] at hc hxi hok
          clear hx
          obtain ⟨x1, x2, x3⟩ := x
          have HCS : Hid (∀ i' v, (Wn.cells ⟨x1, x2, x3⟩)[i']? = some v → wr.cell? ⟨qb, qo + i * 3 + i', none⟩ = some v) := Lib.hid hc
          have HXI := Lib.hid hxi
          have HOK := Lib.hid hok
          obtain ⟨W1, hW1⟩ : ∃ W1, W1 = wr.alloc (.cells #[.int .i64 x1, .int .i64 x2, .int .i64 x3] 46) := ⟨_, rfl⟩
          obtain ⟨yb, hyb⟩ : ∃ yb, yb = wr.heap.size := ⟨_, rfl⟩
          have hfa : Fr F0 wr W1 := by rw [hW1]; exact (Fr.refl _ _).alloc _
          have HYB : Hid (W1.heap[yb]? = some (.cells #[.int .i64 x1, .int .i64 x2, .int .i64 x3] 46 (0, 0))) := Lib.hid (by rw [hW1]; exact alloc_at hyb _)
          have HFA := Lib.hid hfa
          have HWE := Lib.hid hW1
          have HYE := Lib.hid hyb
          obtain ⟨bb, hbb⟩ : ∃ bb, bb = decide (edgesOf X (wtL X L Q) i = []) := ⟨_, rfl⟩
          have HBB := Lib.hid hbb
          have hnext : ∀ z, R[k]? = some z → (z = ⟨x1, x2, x3⟩ ↔ edgesOf X (wtL X L Q) i = []) := fun z hz => ready_next HGN.out.sane hxi (by rw [HRE.out, ← HK.out]; exact hz)
          have hsucc := readyTo_succ X L Q hxi
          have hle1 : (readyTo X L Q (i + 1)).length ≤ nr := by rw [← HNR.out, ← HRE.out]; exact readyTo_le X L Q (by omega)
          have HNEXT := Lib.hid hnext
          have HSUCC := Lib.hid hsucc
          have HLE1 := Lib.hid hle1
          clear hc hxi hok hW1 hyb hfa hbb hnext hsucc hle1 hiQ
          go_upto_region 11 with (first | (refine wpList_load_at rfl 46 (.tmp 50) rfl qb (qo + i * 3) (by rfl) (Wn.cells ⟨x1, x2, x3⟩) d HCS.out HU.out HDD.out size_want ?_) | (refine wpList_store_fresh rfl 46 (.tmp 8) (.tmp 51) rfl (Wn.cells ⟨x1, x2, x3⟩).toArray (by rfl) (by rfl) 46 #[.int .i64 0, .int .i64 0, .int .i64 0] size_want rfl (by simp [Wn.cells, Value.oneCell']) ?_; simp only [Wn.cells]))
          rw [← HWE.out, ← HYE.out]
          rw [show ∀ a : Act, a.put none undef = a from fun _ => rfl]
          clear k3
          go_cut [9] from 34 to 126 (fun v wc => v = .bool bb ∧ Fr F0 W1 wc)
          case first =>
            by_cases hkr : k < nr
            · have HKR : Hid ((k : Int) < (nr : Int)) := Lib.hid (by omega)
              have HKR2 : Hid (k < nr) := Lib.hid hkr
              have hkR : k < R.length := by rw [HNR.out]; exact hkr
              obtain ⟨z, hz⟩ : ∃ z, R[k]? = some z := ⟨_, List.getElem?_eq_getElem hkR⟩
              obtain ⟨Ar', cr', e9, hsrc, -⟩ := HSR.out.ex
              injection e9 with eA en ec
              subst eA
              obtain ⟨rb, ro, rfl, hcz⟩ := (hsrc.keep0 (HF.out.then0 HFA.out)).get hz (Wn.pos _)
              by_cases he : edgesOf X (wtL X L Q) i = []
              · have hzx := (HNEXT.out _ hz).2 he
                rw [hzx] at hcz
                have HZC : Hid (∀ wx, Fr F0 W1 wx → wx.cell? ⟨rb, ro + k * 3, none⟩ = some (.int .i64 x1) ∧ wx.cell? ⟨rb, ro + k * 3 + 1, none⟩ = some (.int .i64 x2) ∧ wx.cell? ⟨rb, ro + k * 3 + 2, none⟩ = some (.int .i64 x3)) := Lib.hid (fun wx hf => by
                  have kk : ∀ a v, W1.cell? a = some v → wx.cell? a = some v := fun a v h => (World.cell?_of_block (w := W1) (hf.block _ (World.block_lt_of_cell? _ _ h) (fun h => h))).trans h
                  exact ⟨kk _ _ (hcz 0 _ rfl), kk _ _ (hcz 1 _ rfl), kk _ _ (hcz 2 _ rfl)⟩)
                have hb9 : bb = true := by rw [HBB.out]; exact decide_eq_true he
                subst hb9
                clear hcz hz hkR hzx he hsrc hkr en ec
                refine wp_region_free (S := F0) [false, false, false, false, false, false, false, false, false, true, false, false, false, false, false, false, false, false, false, false, false, false, false, false, false, false, false, false, false, false, false, false, false, false, false, false, false, false, false, false, false, false, false, false, false, false, false, false, false, false, false, false, true, true, true, true, true, true, true, true, true, true, true, true, false, false, false, false, false, false, false, false, false, false, false, false, false, false, false, false, false, false, false, false, false, false, false, false, false, false, false, false, false, false, false, false, false, false, false, false, false, false, false, false, false, false, false, false, false, false, false, false, false, false, false, false, false, false, false, false, false, false, false, false, false, false, false, false, false, false, false, false, false, false] [.eq (.int .i64 (k : Int)), .eq (.slice (some ⟨rb, ro, none⟩) nr cr), .eq (.int .i64 (nr : Int)), .eq (.bool true), .eq (.bool true), .eq (.slice (some ⟨rb, ro, none⟩) nr cr), .eq (.int .i64 (k : Int)), .eq (.pointer (some ⟨rb, ro + k * 3, none⟩)), .eq (.agg #[.int .i64 x1, .int .i64 x2, .int .i64 x3]), .eq (.agg #[.int .i64 x1, .int .i64 x2, .int .i64 x3]), .eq (.bool true), .eq (.bool true), .eq (.bool true)] (by kernel_rfl) (by kernel_rfl) (by rfl) (fun us => ?steps) (fun us wz hG hall => ?fin)
                case steps =>
                  simp only [fillL, Nat.reduceAdd]
                  refine stepsHold.cons (fun wx hG hd K hK => ?_) ?_
                  · rw [if_pos (wanted_none rfl)]
                    refine wp_value (w2 := wx) (v := .int .i64 (k : Int)) ?_ (hK _ _ rfl (Fr.refl _ _))
                    clear hd hG hK
                    go_simp
                  refine stepsHold.cons (fun wx hG hd K hK => ?_) ?_
                  · rw [if_pos (wanted_none rfl)]
                    refine wp_value (w2 := wx) (v := .slice (some ⟨rb, ro, none⟩) nr cr) ?_ (hK _ _ rfl (Fr.refl _ _))
                    clear hd hG hK
                    go_simp
                  refine stepsHold.cons (fun wx hG hd K hK => ?_) ?_
                  · have h53 : us 53 = (.slice (some ⟨rb, ro, none⟩) nr cr) := deps_get hd 0 rfl rfl rfl rfl rfl
                    rw [if_pos (wanted_none rfl)]
                    refine wp_value (w2 := wx) (v := .int .i64 (nr : Int)) ?_ (hK _ _ rfl (Fr.refl _ _))
                    clear hd hG hK
                    go_simp
                  refine stepsHold.cons (fun wx hG hd K hK => ?_) ?_
                  · have h52 : us 52 = (.int .i64 (k : Int)) := deps_get hd 0 rfl rfl rfl rfl rfl
                    have h54 : us 54 = (.int .i64 (nr : Int)) := deps_get hd 1 rfl rfl rfl rfl rfl
                    rw [if_pos (wanted_none rfl)]
                    have hw := HKR.out
                    refine wp_value (w2 := wx) (v := .bool true) ?_ (hK _ _ rfl (Fr.refl _ _))
                    clear hd hG hK
                    go_simp
                    try exact HKR2.out
                  refine stepsHold.cons (fun wx hG hd K hK => ?_) ?_
                  · have h55 : us 55 = (.bool true) := deps_get hd 0 rfl rfl rfl rfl rfl
                    rw [if_pos (wanted_none rfl)]
                    refine wp_value (w2 := wx) (v := .bool true) ?_ (hK _ _ rfl (Fr.refl _ _))
                    clear hd hG hK
                    go_simp
                  refine stepsHold.cons (fun wx hG hd K hK => ?_) ?_
                  · have h56 : us 56 = (.bool true) := deps_get hd 0 rfl rfl rfl rfl rfl
                    rw [if_pos (wanted_yes rfl rfl rfl rfl h56)]
                    refine wp_value (w2 := wx) (v := .slice (some ⟨rb, ro, none⟩) nr cr) ?_ (hK _ _ rfl (Fr.refl _ _))
                    clear hd hG hK
                    go_simp
                  refine stepsHold.cons (fun wx hG hd K hK => ?_) ?_
                  · have h56 : us 56 = (.bool true) := deps_get hd 0 rfl rfl rfl rfl rfl
                    rw [if_pos (wanted_yes rfl rfl rfl rfl h56)]
                    refine wp_value (w2 := wx) (v := .int .i64 (k : Int)) ?_ (hK _ _ rfl (Fr.refl _ _))
                    clear hd hG hK
                    go_simp
                  refine stepsHold.cons (fun wx hG hd K hK => ?_) ?_
                  · have h57 : us 57 = (.slice (some ⟨rb, ro, none⟩) nr cr) := deps_get hd 0 rfl rfl rfl rfl rfl
                    have h58 : us 58 = (.int .i64 (k : Int)) := deps_get hd 1 rfl rfl rfl rfl rfl
                    have h56 : us 56 = (.bool true) := deps_get hd 2 rfl rfl rfl rfl rfl
                    rw [if_pos (wanted_yes rfl rfl rfl rfl h56)]
                    have hw := HKR.out
                    refine wp_value (w2 := wx) (v := .pointer (some ⟨rb, ro + k * 3, none⟩)) ?_ (hK _ _ rfl (Fr.refl _ _))
                    clear hd hG hK
                    go_simp
                  refine stepsHold.cons (fun wx hG hd K hK => ?_) ?_
                  · have h59 : us 59 = (.pointer (some ⟨rb, ro + k * 3, none⟩)) := deps_get hd 0 rfl rfl rfl rfl rfl
                    have h56 : us 56 = (.bool true) := deps_get hd 1 rfl rfl rfl rfl rfl
                    rw [if_pos (wanted_yes rfl rfl rfl rfl h56)]
                    obtain ⟨q0, q1, q2⟩ := HZC.out wx hG
                    refine wp_value (w2 := wx) (v := .agg #[.int .i64 x1, .int .i64 x2, .int .i64 x3]) ?_ (hK _ _ rfl (Fr.refl _ _))
                    clear hd hK
                    go_simp
                  refine stepsHold.cons (fun wx hG hd K hK => ?_) ?_
                  · have h56 : us 56 = (.bool true) := deps_get hd 0 rfl rfl rfl rfl rfl
                    rw [if_pos (wanted_yes rfl rfl rfl rfl h56)]
                    have q0 : wx.cell? ⟨yb, 0, none⟩ = some (.int .i64 x1) := by rw [cell_of (hG.keep0 HYB.out)]; rfl
                    have q1 : wx.cell? ⟨yb, 1, none⟩ = some (.int .i64 x2) := by rw [cell_of (hG.keep0 HYB.out)]; rfl
                    have q2 : wx.cell? ⟨yb, 2, none⟩ = some (.int .i64 x3) := by rw [cell_of (hG.keep0 HYB.out)]; rfl
                    refine wp_value (w2 := wx) (v := .agg #[.int .i64 x1, .int .i64 x2, .int .i64 x3]) ?_ (hK _ _ rfl (Fr.refl _ _))
                    clear hd hK
                    go_simp
                  refine stepsHold.cons (fun wx hG hd K hK => ?_) ?_
                  · have h60 : us 60 = (.agg #[.int .i64 x1, .int .i64 x2, .int .i64 x3]) := deps_get hd 0 rfl rfl rfl rfl rfl
                    have h61 : us 61 = (.agg #[.int .i64 x1, .int .i64 x2, .int .i64 x3]) := deps_get hd 1 rfl rfl rfl rfl rfl
                    have h56 : us 56 = (.bool true) := deps_get hd 2 rfl rfl rfl rfl rfl
                    rw [if_pos (wanted_yes rfl rfl rfl rfl h56)]
                    refine wp_value (w2 := wx) (v := .bool true) ?_ (hK _ _ rfl (Fr.refl _ _))
                    clear hd hG hK
                    go_simp
                  refine stepsHold.cons (fun wx hG hd K hK => ?_) ?_
                  · have h56 : us 56 = (.bool true) := deps_get hd 0 rfl rfl rfl rfl rfl
                    have h62 : us 62 = (.bool true) := deps_get hd 1 rfl rfl rfl rfl rfl
                    rw [if_pos (wanted_none rfl)]
                    refine wp_value (w2 := wx) (v := .bool true) ?_ (hK _ _ rfl (Fr.refl _ _))
                    clear hd hG hK
                    go_simp
                  refine stepsHold.cons (fun wx hG hd K hK => ?_) ?_
                  · have h63 : us 63 = (.bool true) := deps_get hd 0 rfl rfl rfl rfl rfl
                    rw [if_pos (wanted_none rfl)]
                    refine wp_value (w2 := wx) (v := .bool true) ?_ (hK _ _ rfl (Fr.refl _ _))
                    clear hd hG hK
                    go_simp
                  exact stepsHold.nil
                case fin =>
                  have h52 : us 52 = (.int .i64 (k : Int)) := all_get hall 0 rfl rfl rfl
                  have h53 : us 53 = (.slice (some ⟨rb, ro, none⟩) nr cr) := all_get hall 1 rfl rfl rfl
                  have h54 : us 54 = (.int .i64 (nr : Int)) := all_get hall 2 rfl rfl rfl
                  have h55 : us 55 = (.bool true) := all_get hall 3 rfl rfl rfl
                  have h56 : us 56 = (.bool true) := all_get hall 4 rfl rfl rfl
                  have h57 : us 57 = (.slice (some ⟨rb, ro, none⟩) nr cr) := all_get hall 5 rfl rfl rfl
                  have h58 : us 58 = (.int .i64 (k : Int)) := all_get hall 6 rfl rfl rfl
                  have h59 : us 59 = (.pointer (some ⟨rb, ro + k * 3, none⟩)) := all_get hall 7 rfl rfl rfl
                  have h60 : us 60 = (.agg #[.int .i64 x1, .int .i64 x2, .int .i64 x3]) := all_get hall 8 rfl rfl rfl
                  have h61 : us 61 = (.agg #[.int .i64 x1, .int .i64 x2, .int .i64 x3]) := all_get hall 9 rfl rfl rfl
                  have h62 : us 62 = (.bool true) := all_get hall 10 rfl rfl rfl
                  have h63 : us 63 = (.bool true) := all_get hall 11 rfl rfl rfl
                  have h9 : us 9 = (.bool true) := all_get hall 12 rfl rfl rfl
                  simp only [fillL, Nat.reduceAdd]
                  clear hall
                  simp only [h52, h53, h54, h55, h56, h57, h58, h59, h60, h61, h62, h63, h9]
                  clear h52 h53 h54 h55 h56 h57 h58 h59 h60 h61 h62 h63 h9
                  go_wp2_with fail
                  go_meet
                  exact ⟨rfl, hG⟩
              · have hzx : z ≠ ⟨x1, x2, x3⟩ := fun e => he ((HNEXT.out _ hz).1 e)
                have hzt : z.tx ≠ x1 := fun e => hzx (wn_tx HGN.out.sane (List.mem_of_getElem? HXI.out) (ready_mem (by rw [HRE.out]; exact List.mem_of_getElem? hz)) e)
                obtain ⟨z1, z2, z3⟩ := z
                have HZC : Hid (∀ wx, Fr F0 W1 wx → wx.cell? ⟨rb, ro + k * 3, none⟩ = some (.int .i64 z1) ∧ wx.cell? ⟨rb, ro + k * 3 + 1, none⟩ = some (.int .i64 z2) ∧ wx.cell? ⟨rb, ro + k * 3 + 2, none⟩ = some (.int .i64 z3)) := Lib.hid (fun wx hf => by
                  have kk : ∀ a v, W1.cell? a = some v → wx.cell? a = some v := fun a v h => (World.cell?_of_block (w := W1) (hf.block _ (World.block_lt_of_cell? _ _ h) (fun h => h))).trans h
                  exact ⟨kk _ _ (hcz 0 _ rfl), kk _ _ (hcz 1 _ rfl), kk _ _ (hcz 2 _ rfl)⟩)
                have hb9 : bb = false := by rw [HBB.out]; exact decide_eq_false he
                have HNE : Hid ((z1 == x1) = false) := Lib.hid (by simpa using hzt)
                subst hb9
                clear hcz hz hkR hzx he hsrc hkr hzt en ec
                refine wp_region_free (S := F0) [false, false, false, false, false, false, false, false, false, true, false, false, false, false, false, false, false, false, false, false, false, false, false, false, false, false, false, false, false, false, false, false, false, false, false, false, false, false, false, false, false, false, false, false, false, false, false, false, false, false, false, false, true, true, true, true, true, true, true, true, true, true, true, true, false, false, false, false, false, false, false, false, false, false, false, false, false, false, false, false, false, false, false, false, false, false, false, false, false, false, false, false, false, false, false, false, false, false, false, false, false, false, false, false, false, false, false, false, false, false, false, false, false, false, false, false, false, false, false, false, false, false, false, false, false, false, false, false, false, false, false, false, false, false] [.eq (.int .i64 (k : Int)), .eq (.slice (some ⟨rb, ro, none⟩) nr cr), .eq (.int .i64 (nr : Int)), .eq (.bool true), .eq (.bool true), .eq (.slice (some ⟨rb, ro, none⟩) nr cr), .eq (.int .i64 (k : Int)), .eq (.pointer (some ⟨rb, ro + k * 3, none⟩)), .eq (.agg #[.int .i64 z1, .int .i64 z2, .int .i64 z3]), .eq (.agg #[.int .i64 x1, .int .i64 x2, .int .i64 x3]), .eq (.bool false), .eq (.bool false), .eq (.bool false)] (by kernel_rfl) (by kernel_rfl) (by rfl) (fun us => ?steps) (fun us wz hG hall => ?fin)
                case steps =>
                  simp only [fillL, Nat.reduceAdd]
                  refine stepsHold.cons (fun wx hG hd K hK => ?_) ?_
                  · rw [if_pos (wanted_none rfl)]
                    refine wp_value (w2 := wx) (v := .int .i64 (k : Int)) ?_ (hK _ _ rfl (Fr.refl _ _))
                    clear hd hG hK
                    go_simp
                  refine stepsHold.cons (fun wx hG hd K hK => ?_) ?_
                  · rw [if_pos (wanted_none rfl)]
                    refine wp_value (w2 := wx) (v := .slice (some ⟨rb, ro, none⟩) nr cr) ?_ (hK _ _ rfl (Fr.refl _ _))
                    clear hd hG hK
                    go_simp
                  refine stepsHold.cons (fun wx hG hd K hK => ?_) ?_
                  · have h53 : us 53 = (.slice (some ⟨rb, ro, none⟩) nr cr) := deps_get hd 0 rfl rfl rfl rfl rfl
                    rw [if_pos (wanted_none rfl)]
                    refine wp_value (w2 := wx) (v := .int .i64 (nr : Int)) ?_ (hK _ _ rfl (Fr.refl _ _))
                    clear hd hG hK
                    go_simp
                  refine stepsHold.cons (fun wx hG hd K hK => ?_) ?_
                  · have h52 : us 52 = (.int .i64 (k : Int)) := deps_get hd 0 rfl rfl rfl rfl rfl
                    have h54 : us 54 = (.int .i64 (nr : Int)) := deps_get hd 1 rfl rfl rfl rfl rfl
                    rw [if_pos (wanted_none rfl)]
                    have hw := HKR.out
                    refine wp_value (w2 := wx) (v := .bool true) ?_ (hK _ _ rfl (Fr.refl _ _))
                    clear hd hG hK
                    go_simp
                    try exact HKR2.out
                  refine stepsHold.cons (fun wx hG hd K hK => ?_) ?_
                  · have h55 : us 55 = (.bool true) := deps_get hd 0 rfl rfl rfl rfl rfl
                    rw [if_pos (wanted_none rfl)]
                    refine wp_value (w2 := wx) (v := .bool true) ?_ (hK _ _ rfl (Fr.refl _ _))
                    clear hd hG hK
                    go_simp
                  refine stepsHold.cons (fun wx hG hd K hK => ?_) ?_
                  · have h56 : us 56 = (.bool true) := deps_get hd 0 rfl rfl rfl rfl rfl
                    rw [if_pos (wanted_yes rfl rfl rfl rfl h56)]
                    refine wp_value (w2 := wx) (v := .slice (some ⟨rb, ro, none⟩) nr cr) ?_ (hK _ _ rfl (Fr.refl _ _))
                    clear hd hG hK
                    go_simp
                  refine stepsHold.cons (fun wx hG hd K hK => ?_) ?_
                  · have h56 : us 56 = (.bool true) := deps_get hd 0 rfl rfl rfl rfl rfl
                    rw [if_pos (wanted_yes rfl rfl rfl rfl h56)]
                    refine wp_value (w2 := wx) (v := .int .i64 (k : Int)) ?_ (hK _ _ rfl (Fr.refl _ _))
                    clear hd hG hK
                    go_simp
                  refine stepsHold.cons (fun wx hG hd K hK => ?_) ?_
                  · have h57 : us 57 = (.slice (some ⟨rb, ro, none⟩) nr cr) := deps_get hd 0 rfl rfl rfl rfl rfl
                    have h58 : us 58 = (.int .i64 (k : Int)) := deps_get hd 1 rfl rfl rfl rfl rfl
                    have h56 : us 56 = (.bool true) := deps_get hd 2 rfl rfl rfl rfl rfl
                    rw [if_pos (wanted_yes rfl rfl rfl rfl h56)]
                    have hw := HKR.out
                    refine wp_value (w2 := wx) (v := .pointer (some ⟨rb, ro + k * 3, none⟩)) ?_ (hK _ _ rfl (Fr.refl _ _))
                    clear hd hG hK
                    go_simp
                  refine stepsHold.cons (fun wx hG hd K hK => ?_) ?_
                  · have h59 : us 59 = (.pointer (some ⟨rb, ro + k * 3, none⟩)) := deps_get hd 0 rfl rfl rfl rfl rfl
                    have h56 : us 56 = (.bool true) := deps_get hd 1 rfl rfl rfl rfl rfl
                    rw [if_pos (wanted_yes rfl rfl rfl rfl h56)]
                    obtain ⟨q0, q1, q2⟩ := HZC.out wx hG
                    refine wp_value (w2 := wx) (v := .agg #[.int .i64 z1, .int .i64 z2, .int .i64 z3]) ?_ (hK _ _ rfl (Fr.refl _ _))
                    clear hd hK
                    go_simp
                  refine stepsHold.cons (fun wx hG hd K hK => ?_) ?_
                  · have h56 : us 56 = (.bool true) := deps_get hd 0 rfl rfl rfl rfl rfl
                    rw [if_pos (wanted_yes rfl rfl rfl rfl h56)]
                    have q0 : wx.cell? ⟨yb, 0, none⟩ = some (.int .i64 x1) := by rw [cell_of (hG.keep0 HYB.out)]; rfl
                    have q1 : wx.cell? ⟨yb, 1, none⟩ = some (.int .i64 x2) := by rw [cell_of (hG.keep0 HYB.out)]; rfl
                    have q2 : wx.cell? ⟨yb, 2, none⟩ = some (.int .i64 x3) := by rw [cell_of (hG.keep0 HYB.out)]; rfl
                    refine wp_value (w2 := wx) (v := .agg #[.int .i64 x1, .int .i64 x2, .int .i64 x3]) ?_ (hK _ _ rfl (Fr.refl _ _))
                    clear hd hK
                    go_simp
                  refine stepsHold.cons (fun wx hG hd K hK => ?_) ?_
                  · have h60 : us 60 = (.agg #[.int .i64 z1, .int .i64 z2, .int .i64 z3]) := deps_get hd 0 rfl rfl rfl rfl rfl
                    have h61 : us 61 = (.agg #[.int .i64 x1, .int .i64 x2, .int .i64 x3]) := deps_get hd 1 rfl rfl rfl rfl rfl
                    have h56 : us 56 = (.bool true) := deps_get hd 2 rfl rfl rfl rfl rfl
                    rw [if_pos (wanted_yes rfl rfl rfl rfl h56)]
                    have hw := HNE.out
                    refine wp_value (w2 := wx) (v := .bool false) ?_ (hK _ _ rfl (Fr.refl _ _))
                    clear hd hG hK
                    go_simp
                  refine stepsHold.cons (fun wx hG hd K hK => ?_) ?_
                  · have h56 : us 56 = (.bool true) := deps_get hd 0 rfl rfl rfl rfl rfl
                    have h62 : us 62 = (.bool false) := deps_get hd 1 rfl rfl rfl rfl rfl
                    rw [if_pos (wanted_none rfl)]
                    refine wp_value (w2 := wx) (v := .bool false) ?_ (hK _ _ rfl (Fr.refl _ _))
                    clear hd hG hK
                    go_simp
                  refine stepsHold.cons (fun wx hG hd K hK => ?_) ?_
                  · have h63 : us 63 = (.bool false) := deps_get hd 0 rfl rfl rfl rfl rfl
                    rw [if_pos (wanted_none rfl)]
                    refine wp_value (w2 := wx) (v := .bool false) ?_ (hK _ _ rfl (Fr.refl _ _))
                    clear hd hG hK
                    go_simp
                  exact stepsHold.nil
                case fin =>
                  have h52 : us 52 = (.int .i64 (k : Int)) := all_get hall 0 rfl rfl rfl
                  have h53 : us 53 = (.slice (some ⟨rb, ro, none⟩) nr cr) := all_get hall 1 rfl rfl rfl
                  have h54 : us 54 = (.int .i64 (nr : Int)) := all_get hall 2 rfl rfl rfl
                  have h55 : us 55 = (.bool true) := all_get hall 3 rfl rfl rfl
                  have h56 : us 56 = (.bool true) := all_get hall 4 rfl rfl rfl
                  have h57 : us 57 = (.slice (some ⟨rb, ro, none⟩) nr cr) := all_get hall 5 rfl rfl rfl
                  have h58 : us 58 = (.int .i64 (k : Int)) := all_get hall 6 rfl rfl rfl
                  have h59 : us 59 = (.pointer (some ⟨rb, ro + k * 3, none⟩)) := all_get hall 7 rfl rfl rfl
                  have h60 : us 60 = (.agg #[.int .i64 z1, .int .i64 z2, .int .i64 z3]) := all_get hall 8 rfl rfl rfl
                  have h61 : us 61 = (.agg #[.int .i64 x1, .int .i64 x2, .int .i64 x3]) := all_get hall 9 rfl rfl rfl
                  have h62 : us 62 = (.bool false) := all_get hall 10 rfl rfl rfl
                  have h63 : us 63 = (.bool false) := all_get hall 11 rfl rfl rfl
                  have h9 : us 9 = (.bool false) := all_get hall 12 rfl rfl rfl
                  simp only [fillL, Nat.reduceAdd]
                  clear hall
                  simp only [h52, h53, h54, h55, h56, h57, h58, h59, h60, h61, h62, h63, h9]
                  clear h52 h53 h54 h55 h56 h57 h58 h59 h60 h61 h62 h63 h9
                  go_wp2_with fail
                  go_meet
                  exact ⟨rfl, hG⟩
            · have HKR : Hid (¬ (k : Int) < (nr : Int)) := Lib.hid (by omega)
              have HKR2 : Hid (¬ k < nr) := Lib.hid hkr
              have he : ¬ edgesOf X (wtL X L Q) i = [] := fun e => by
                have h1 := HLE1.out
                have h2 := HK.out
                rw [HSUCC.out, e, if_pos (show ([] : List Ed).length = 0 from rfl)] at h1
                simp at h1
                omega
              have hb9 : bb = false := by rw [HBB.out]; exact decide_eq_false he
              subst hb9
              clear he hkr
              refine wp_region_free (S := F0) [false, false, false, false, false, false, false, false, false, true, false, false, false, false, false, false, false, false, false, false, false, false, false, false, false, false, false, false, false, false, false, false, false, false, false, false, false, false, false, false, false, false, false, false, false, false, false, false, false, false, false, false, true, true, true, true, true, true, true, true, true, true, true, true, false, false, false, false, false, false, false, false, false, false, false, false, false, false, false, false, false, false, false, false, false, false, false, false, false, false, false, false, false, false, false, false, false, false, false, false, false, false, false, false, false, false, false, false, false, false, false, false, false, false, false, false, false, false, false, false, false, false, false, false, false, false, false, false, false, false, false, false, false, false] [.eq (.int .i64 (k : Int)), .eq (.slice Ar nr cr), .eq (.int .i64 (nr : Int)), .eq (.bool false), .eq (.bool false), .eq undef, .eq undef, .eq undef, .eq undef, .eq undef, .eq undef, .eq (.bool false), .eq (.bool false)] (by kernel_rfl) (by kernel_rfl) (by rfl) (fun us => ?steps) (fun us wz hG hall => ?fin)
              case steps =>
                simp only [fillL, Nat.reduceAdd]
                refine stepsHold.cons (fun wx hG hd K hK => ?_) ?_
                · rw [if_pos (wanted_none rfl)]
                  refine wp_value (w2 := wx) (v := .int .i64 (k : Int)) ?_ (hK _ _ rfl (Fr.refl _ _))
                  clear hd hG hK
                  go_simp
                refine stepsHold.cons (fun wx hG hd K hK => ?_) ?_
                · rw [if_pos (wanted_none rfl)]
                  refine wp_value (w2 := wx) (v := .slice Ar nr cr) ?_ (hK _ _ rfl (Fr.refl _ _))
                  clear hd hG hK
                  go_simp
                refine stepsHold.cons (fun wx hG hd K hK => ?_) ?_
                · have h53 : us 53 = (.slice Ar nr cr) := deps_get hd 0 rfl rfl rfl rfl rfl
                  rw [if_pos (wanted_none rfl)]
                  refine wp_value (w2 := wx) (v := .int .i64 (nr : Int)) ?_ (hK _ _ rfl (Fr.refl _ _))
                  clear hd hG hK
                  go_simp
                refine stepsHold.cons (fun wx hG hd K hK => ?_) ?_
                · have h52 : us 52 = (.int .i64 (k : Int)) := deps_get hd 0 rfl rfl rfl rfl rfl
                  have h54 : us 54 = (.int .i64 (nr : Int)) := deps_get hd 1 rfl rfl rfl rfl rfl
                  rw [if_pos (wanted_none rfl)]
                  have hw := HKR.out
                  refine wp_value (w2 := wx) (v := .bool false) ?_ (hK _ _ rfl (Fr.refl _ _))
                  clear hd hG hK
                  go_simp
                  try exact HKR2.out
                refine stepsHold.cons (fun wx hG hd K hK => ?_) ?_
                · have h55 : us 55 = (.bool false) := deps_get hd 0 rfl rfl rfl rfl rfl
                  rw [if_pos (wanted_none rfl)]
                  refine wp_value (w2 := wx) (v := .bool false) ?_ (hK _ _ rfl (Fr.refl _ _))
                  clear hd hG hK
                  go_simp
                refine stepsHold.cons (fun wx hG hd K hK => ?_) ?_
                · have h56 : us 56 = (.bool false) := deps_get hd 0 rfl rfl rfl rfl rfl
                  rw [if_neg (wanted_no rfl rfl rfl rfl h56)]
                  exact hK _ _ rfl (Fr.refl _ _)
                refine stepsHold.cons (fun wx hG hd K hK => ?_) ?_
                · have h56 : us 56 = (.bool false) := deps_get hd 0 rfl rfl rfl rfl rfl
                  rw [if_neg (wanted_no rfl rfl rfl rfl h56)]
                  exact hK _ _ rfl (Fr.refl _ _)
                refine stepsHold.cons (fun wx hG hd K hK => ?_) ?_
                · have h57 : us 57 = (undef) := deps_get hd 0 rfl rfl rfl rfl rfl
                  have h58 : us 58 = (undef) := deps_get hd 1 rfl rfl rfl rfl rfl
                  have h56 : us 56 = (.bool false) := deps_get hd 2 rfl rfl rfl rfl rfl
                  rw [if_neg (wanted_no rfl rfl rfl rfl h56)]
                  exact hK _ _ rfl (Fr.refl _ _)
                refine stepsHold.cons (fun wx hG hd K hK => ?_) ?_
                · have h59 : us 59 = (undef) := deps_get hd 0 rfl rfl rfl rfl rfl
                  have h56 : us 56 = (.bool false) := deps_get hd 1 rfl rfl rfl rfl rfl
                  rw [if_neg (wanted_no rfl rfl rfl rfl h56)]
                  exact hK _ _ rfl (Fr.refl _ _)
                refine stepsHold.cons (fun wx hG hd K hK => ?_) ?_
                · have h56 : us 56 = (.bool false) := deps_get hd 0 rfl rfl rfl rfl rfl
                  rw [if_neg (wanted_no rfl rfl rfl rfl h56)]
                  exact hK _ _ rfl (Fr.refl _ _)
                refine stepsHold.cons (fun wx hG hd K hK => ?_) ?_
                · have h60 : us 60 = (undef) := deps_get hd 0 rfl rfl rfl rfl rfl
                  have h61 : us 61 = (undef) := deps_get hd 1 rfl rfl rfl rfl rfl
                  have h56 : us 56 = (.bool false) := deps_get hd 2 rfl rfl rfl rfl rfl
                  rw [if_neg (wanted_no rfl rfl rfl rfl h56)]
                  exact hK _ _ rfl (Fr.refl _ _)
                refine stepsHold.cons (fun wx hG hd K hK => ?_) ?_
                · have h56 : us 56 = (.bool false) := deps_get hd 0 rfl rfl rfl rfl rfl
                  have h62 : us 62 = (undef) := deps_get hd 1 rfl rfl rfl rfl rfl
                  rw [if_pos (wanted_none rfl)]
                  refine wp_value (w2 := wx) (v := .bool false) ?_ (hK _ _ rfl (Fr.refl _ _))
                  clear hd hG hK
                  go_simp
                refine stepsHold.cons (fun wx hG hd K hK => ?_) ?_
                · have h63 : us 63 = (.bool false) := deps_get hd 0 rfl rfl rfl rfl rfl
                  rw [if_pos (wanted_none rfl)]
                  refine wp_value (w2 := wx) (v := .bool false) ?_ (hK _ _ rfl (Fr.refl _ _))
                  clear hd hG hK
                  go_simp
                exact stepsHold.nil
              case fin =>
                have h52 : us 52 = (.int .i64 (k : Int)) := all_get hall 0 rfl rfl rfl
                have h53 : us 53 = (.slice Ar nr cr) := all_get hall 1 rfl rfl rfl
                have h54 : us 54 = (.int .i64 (nr : Int)) := all_get hall 2 rfl rfl rfl
                have h55 : us 55 = (.bool false) := all_get hall 3 rfl rfl rfl
                have h56 : us 56 = (.bool false) := all_get hall 4 rfl rfl rfl
                have h57 : us 57 = (undef) := all_get hall 5 rfl rfl rfl
                have h58 : us 58 = (undef) := all_get hall 6 rfl rfl rfl
                have h59 : us 59 = (undef) := all_get hall 7 rfl rfl rfl
                have h60 : us 60 = (undef) := all_get hall 8 rfl rfl rfl
                have h61 : us 61 = (undef) := all_get hall 9 rfl rfl rfl
                have h62 : us 62 = (undef) := all_get hall 10 rfl rfl rfl
                have h63 : us 63 = (.bool false) := all_get hall 11 rfl rfl rfl
                have h9 : us 9 = (.bool false) := all_get hall 12 rfl rfl rfl
                simp only [fillL, Nat.reduceAdd]
                clear hall
                simp only [h52, h53, h54, h55, h56, h57, h58, h59, h60, h61, h62, h63, h9]
                clear h52 h53 h54 h55 h56 h57 h58 h59 h60 h61 h62 h63 h9
                go_wp2_with fail
                go_meet
                exact ⟨rfl, hG⟩
          case rest =>
            obtain ⟨rfl, hfc⟩ := hcut
            have HFC := Lib.hid ((HF.out.then0 HFA.out).then0 hfc)
            have HWc := Lib.hid ((HWr.out.keep0 HFA.out).keep0 hfc)
            have HYc := Lib.hid (hfc.keep0 HYB.out)
            have HQc := Lib.hid (((HQ5.out.keep0 HF.out).keep0 HFA.out).keep0 hfc)
            clear hfc
            cases hbv : bb with
            | true =>
              have he : edgesOf X (wtL X L Q) i = [] := by have := HBB.out; rw [hbv] at this; exact of_decide_eq_true this.symm
              have HA0 := Lib.hid (ready_ask HGN.out HXI.out he)
              have hk1 : (readyTo X L Q (i + 1)).length = k + 1 := by rw [HSUCC.out, he, if_pos (show ([] : List Ed).length = 0 from rfl), List.length_append, HK.out]; rfl
              have HK1 := Lib.hid hk1
              obtain ⟨lim, hlim⟩ : ∃ lim, lim = wc.heap.size := ⟨_, rfl⟩
              have HLW := Lib.hid hlim
              have HLIM : Hid (∀ wx, Fr (fun b => lim ≤ b) wc wx → Fr F0 wc wx) := Lib.hid (fun wx h => (Fr.refl F0 wc).trans h (fun x hx => .inr (by rw [← hlim]; exact hx)))
              clear he hk1 hbv hlim
              go_wp2_with fail
              refine wp_region_turn (S := (fun b => lim ≤ b)) [false, false, false, false, false, false, false, false, false, false, true, true, false, false, false, false, false, false, false, false, false, false, false, false, false, false, false, false, false, false, false, false, false, false, false, false, false, false, false, false, false, false, false, false, false, false, false, false, false, false, false, false, false, false, false, false, false, false, false, false, false, false, false, false, false, false, false, true, true, true, true, true, true, true, true, true, true, true, true, true, true, true, true, true, true, false, false, false, false, false, false, false, false, false, false, false, false, false, false, false, false, false, false, false, false, false, false, false, false, false, false, false, false, false, false, false, false, false, false, false, false, false, false, false, false, false, false, false, false, false, false, false, false, false] [.eq (.pointer (some ⟨wb, 0, none⟩)), .eq (.pointer (some ⟨wb, 0, none⟩)), .eq (.pointer (some ⟨wb, 2, none⟩)), .eq (.agg #[.slice At nt ct]), .eq (.pointer (some ⟨wb, 0, none⟩)), .eq (.pointer (some ⟨wb, 0, none⟩)), .eq (.pointer (some ⟨wb, 0, none⟩)), .eq (.agg #[.slice Ax n cx, .int .i64 clk]), .eq (.pointer (some ⟨yb, 0, none⟩)), .eq (.int .i64 x1), .eq (.pointer (some ⟨yb, 1, none⟩)), .eq (.int .i64 x2), .eq (.pointer (some ⟨yb, 2, none⟩)), .eq (.int .i64 x3), ⟨fun v w1 => ∃ A m c, v = .tuple #[.agg #[.slice A m c], .int .i64 0], fun v w1 w2 h hf => h⟩, ⟨fun v w1 => ∃ A m c, v = .tuple #[.agg #[.slice A m c], .int .i64 0], fun v w1 w2 h hf => h⟩, ⟨fun v w1 => ∃ A m c, v = .agg #[.slice A m c], fun v w1 w2 h hf => h⟩, .eq (.int .i64 0), .any, .any, .eq (.int .i64 0)] (ShT 10 lim) [none, none, none, none, none, none, none, none, none, none, none, none, none, none, none, none, none, none, some 0, some 1, none] [10] 2 (by kernel_rfl) (by kernel_rfl) (by rfl) (by kernel_rfl) ?hJ ?hJ0 (fun us => ?steps) (fun us wz hG hJ hall => ?fin)
              case hJ =>
                exact ShT.keep 10 lim
              case hJ0 =>
                exact fun h => by cases h
              case steps =>
                simp only [fillL, Nat.reduceAdd]
                refine stepsTurn.cons (fun wx hG hd K hK => ?_) ?_
                · rw [if_pos (wanted_none rfl)]
                  refine wp_value (w2 := wx) (v := .pointer (some ⟨wb, 0, none⟩)) ?_ (hK _ _ rfl (Fr.refl _ _))
                  clear hd hG hK
                  go_simp
                refine stepsTurn.cons (fun wx hG hd K hK => ?_) ?_
                · have h68 : us 68 = (.pointer (some ⟨wb, 0, none⟩)) := deps_get hd 0 rfl rfl rfl rfl rfl
                  rw [if_pos (wanted_none rfl)]
                  refine wp_value (w2 := wx) (v := .pointer (some ⟨wb, 0, none⟩)) ?_ (hK _ _ rfl (Fr.refl _ _))
                  clear hd hG hK
                  go_simp
                refine stepsTurn.cons (fun wx hG hd K hK => ?_) ?_
                · have h69 : us 69 = (.pointer (some ⟨wb, 0, none⟩)) := deps_get hd 0 rfl rfl rfl rfl rfl
                  rw [if_pos (wanted_none rfl)]
                  refine wp_value (w2 := wx) (v := .pointer (some ⟨wb, 2, none⟩)) ?_ (hK _ _ rfl (Fr.refl _ _))
                  clear hd hG hK
                  go_simp
                refine stepsTurn.cons (fun wx hG hd K hK => ?_) ?_
                · have h70 : us 70 = (.pointer (some ⟨wb, 2, none⟩)) := deps_get hd 0 rfl rfl rfl rfl rfl
                  rw [if_pos (wanted_none rfl)]
                  have hc := (HWc.out.keep0 (HLIM.out wx hG)).c2
                  refine wp_value (w2 := wx) (v := .agg #[.slice At nt ct]) ?_ (hK _ _ rfl (Fr.refl _ _))
                  clear hd hK
                  go_simp
                refine stepsTurn.cons (fun wx hG hd K hK => ?_) ?_
                · rw [if_pos (wanted_none rfl)]
                  refine wp_value (w2 := wx) (v := .pointer (some ⟨wb, 0, none⟩)) ?_ (hK _ _ rfl (Fr.refl _ _))
                  clear hd hG hK
                  go_simp
                refine stepsTurn.cons (fun wx hG hd K hK => ?_) ?_
                · have h72 : us 72 = (.pointer (some ⟨wb, 0, none⟩)) := deps_get hd 0 rfl rfl rfl rfl rfl
                  rw [if_pos (wanted_none rfl)]
                  refine wp_value (w2 := wx) (v := .pointer (some ⟨wb, 0, none⟩)) ?_ (hK _ _ rfl (Fr.refl _ _))
                  clear hd hG hK
                  go_simp
                refine stepsTurn.cons (fun wx hG hd K hK => ?_) ?_
                · have h73 : us 73 = (.pointer (some ⟨wb, 0, none⟩)) := deps_get hd 0 rfl rfl rfl rfl rfl
                  rw [if_pos (wanted_none rfl)]
                  refine wp_value (w2 := wx) (v := .pointer (some ⟨wb, 0, none⟩)) ?_ (hK _ _ rfl (Fr.refl _ _))
                  clear hd hG hK
                  go_simp
                refine stepsTurn.cons (fun wx hG hd K hK => ?_) ?_
                · have h74 : us 74 = (.pointer (some ⟨wb, 0, none⟩)) := deps_get hd 0 rfl rfl rfl rfl rfl
                  rw [if_pos (wanted_none rfl)]
                  have hc := (HWc.out.keep0 (HLIM.out wx hG)).c0
                  have hc1 := (HWc.out.keep0 (HLIM.out wx hG)).c1
                  refine wp_value (w2 := wx) (v := .agg #[.slice Ax n cx, .int .i64 clk]) ?_ (hK _ _ rfl (Fr.refl _ _))
                  clear hd hK
                  go_simp
                refine stepsTurn.cons (fun wx hG hd K hK => ?_) ?_
                · rw [if_pos (wanted_none rfl)]
                  refine wp_value (w2 := wx) (v := .pointer (some ⟨yb, 0, none⟩)) ?_ (hK _ _ rfl (Fr.refl _ _))
                  clear hd hG hK
                  go_simp
                refine stepsTurn.cons (fun wx hG hd K hK => ?_) ?_
                · have h76 : us 76 = (.pointer (some ⟨yb, 0, none⟩)) := deps_get hd 0 rfl rfl rfl rfl rfl
                  rw [if_pos (wanted_none rfl)]
                  have hc : wx.cell? ⟨yb, 0, none⟩ = some (.int .i64 x1) := by rw [cell_of ((HLIM.out wx hG).keep0 HYc.out)]; rfl
                  refine wp_value (w2 := wx) (v := .int .i64 x1) ?_ (hK _ _ rfl (Fr.refl _ _))
                  clear hd hK
                  go_simp
                refine stepsTurn.cons (fun wx hG hd K hK => ?_) ?_
                · rw [if_pos (wanted_none rfl)]
                  refine wp_value (w2 := wx) (v := .pointer (some ⟨yb, 1, none⟩)) ?_ (hK _ _ rfl (Fr.refl _ _))
                  clear hd hG hK
                  go_simp
                refine stepsTurn.cons (fun wx hG hd K hK => ?_) ?_
                · have h78 : us 78 = (.pointer (some ⟨yb, 1, none⟩)) := deps_get hd 0 rfl rfl rfl rfl rfl
                  rw [if_pos (wanted_none rfl)]
                  have hc : wx.cell? ⟨yb, 1, none⟩ = some (.int .i64 x2) := by rw [cell_of ((HLIM.out wx hG).keep0 HYc.out)]; rfl
                  refine wp_value (w2 := wx) (v := .int .i64 x2) ?_ (hK _ _ rfl (Fr.refl _ _))
                  clear hd hK
                  go_simp
                refine stepsTurn.cons (fun wx hG hd K hK => ?_) ?_
                · rw [if_pos (wanted_none rfl)]
                  refine wp_value (w2 := wx) (v := .pointer (some ⟨yb, 2, none⟩)) ?_ (hK _ _ rfl (Fr.refl _ _))
                  clear hd hG hK
                  go_simp
                refine stepsTurn.cons (fun wx hG hd K hK => ?_) ?_
                · have h80 : us 80 = (.pointer (some ⟨yb, 2, none⟩)) := deps_get hd 0 rfl rfl rfl rfl rfl
                  rw [if_pos (wanted_none rfl)]
                  have hc : wx.cell? ⟨yb, 2, none⟩ = some (.int .i64 x3) := by rw [cell_of ((HLIM.out wx hG).keep0 HYc.out)]; rfl
                  refine wp_value (w2 := wx) (v := .int .i64 x3) ?_ (hK _ _ rfl (Fr.refl _ _))
                  clear hd hK
                  go_simp
                refine stepsTurn.cons (fun wx hG hd K hK => ?_) ?_
                · have h71 : us 71 = (.agg #[.slice At nt ct]) := deps_get hd 0 rfl rfl rfl rfl rfl
                  have h75 : us 75 = (.agg #[.slice Ax n cx, .int .i64 clk]) := deps_get hd 1 rfl rfl rfl rfl rfl
                  have h77 : us 77 = (.int .i64 x1) := deps_get hd 2 rfl rfl rfl rfl rfl
                  have h79 : us 79 = (.int .i64 x2) := deps_get hd 3 rfl rfl rfl rfl rfl
                  have h81 : us 81 = (.int .i64 x3) := deps_get hd 4 rfl rfl rfl rfl rfl
                  rw [if_pos (wanted_none rfl)]
                  refine wp_call (w2 := wx) (f := 15) (args := #[.agg #[.slice At nt ct], .agg #[.slice Ax n cx, .int .i64 clk], .int .i64 x1, .int .i64 x2, .int .i64 x3]) ?_ ?_
                  · clear hd hK
                    go_simp
                  · refine (ask_c (w := wx) (X := X) (L := L) clk x1 x2 x3 (HWc.out.keep0 (HLIM.out wx hG)).st HL100.out HGN.out.grn.sane (HWc.out.keep0 (HLIM.out wx hG)).sx HGN.out.grn.len HOK.out.b0 HOK.out.b1 HOK.out.m).mono ?_
                    intro e w9 har
                    obtain ⟨A, m, c, rfl, -, hf⟩ := har.any2
                    rw [HA0.out]
                    exact ⟨_, rfl, hK _ _ ⟨A, m, c, rfl⟩ hf⟩
                refine stepsTurn.cons (fun wx hG hd K hK => ?_) ?_
                · have h82 := deps_get hd 0 rfl rfl rfl rfl rfl
                  rw [if_pos (wanted_none rfl)]
                  obtain ⟨A, m, c, h82'⟩ := h82
                  refine wp_value (w2 := wx) (v := .tuple #[.agg #[.slice A m c], .int .i64 0]) ?_ (hK _ _ ⟨_, _, _, rfl⟩ (Fr.refl _ _))
                  clear hd hG hK
                  go_simp
                refine stepsTurn.cons (fun wx hG hd K hK => ?_) ?_
                · have h67 := deps_get hd 0 rfl rfl rfl rfl rfl
                  rw [if_pos (wanted_none rfl)]
                  obtain ⟨A, m, c, h67'⟩ := h67
                  refine wp_value (w2 := wx) (v := .agg #[.slice A m c]) ?_ (hK _ _ ⟨_, _, _, rfl⟩ (Fr.refl _ _))
                  clear hd hG hK
                  go_simp
                refine stepsTurn.cons (fun wx hG hd K hK => ?_) ?_
                · have h67 := deps_get hd 0 rfl rfl rfl rfl rfl
                  rw [if_pos (wanted_none rfl)]
                  obtain ⟨A, m, c, h67'⟩ := h67
                  refine wp_value (w2 := wx) (v := .int .i64 0) ?_ (hK _ _ rfl (Fr.refl _ _))
                  clear hd hG hK
                  go_simp
                refine stepsTurn.cons (fun wx hG hJ hd K hK => ?_) ?_
                · rw [if_pos (wanted_none rfl)]
                  refine wp_value (w2 := wx.alloc (.cells #[.slice none 0 0] 34)) (v := .pointer (some ⟨wx.heap.size, 0, none⟩)) ?_ (hK _ _ trivial ((Fr.refl _ _).alloc _) (fun _ => ⟨wx.heap.size, _, by simp [updD], (HLIM.out wx hG).size |> fun h => by rw [HLW.out]; exact h, alloc_at rfl _⟩))
                  clear hd hG hK hJ
                  go_simp
                refine stepsTurn.cons (fun wx hG hJ hd K hK => ?_) ?_
                · have h10 := deps_get hd 0 rfl rfl rfl rfl rfl
                  have h83 := deps_get hd 1 rfl rfl rfl rfl rfl
                  rw [if_pos (wanted_none rfl)]
                  obtain ⟨bb, uu, hb1, hb2, hb3⟩ := hJ rfl
                  obtain ⟨A, m, c, h83'⟩ := h83
                  refine wp_store_at 34 (.tmp 10) (.tmp 83) rfl bb 0 [.slice A m c] (by exact hb1) (by exact h83') 34 [uu] hb3 size_table (Nat.le_refl 1) (by simp [Value.oneCell']) (hK undef _ trivial ((Fr.refl _ _).setRow (by exact .inl hb2) _) (fun h => by cases h))
                refine stepsTurn.cons (fun wx hG hd K hK => ?_) ?_
                · have h84 : us 84 = (.int .i64 0) := deps_get hd 0 rfl rfl rfl rfl rfl
                  rw [if_pos (wanted_none rfl)]
                  refine wp_value (w2 := wx) (v := .int .i64 0) ?_ (hK _ _ rfl (Fr.refl _ _))
                  clear hd hG hK
                  go_simp
                exact stepsTurn.nil
              case fin =>
                have h68 : us 68 = (.pointer (some ⟨wb, 0, none⟩)) := all_get hall 0 rfl rfl rfl
                have h69 : us 69 = (.pointer (some ⟨wb, 0, none⟩)) := all_get hall 1 rfl rfl rfl
                have h70 : us 70 = (.pointer (some ⟨wb, 2, none⟩)) := all_get hall 2 rfl rfl rfl
                have h71 : us 71 = (.agg #[.slice At nt ct]) := all_get hall 3 rfl rfl rfl
                have h72 : us 72 = (.pointer (some ⟨wb, 0, none⟩)) := all_get hall 4 rfl rfl rfl
                have h73 : us 73 = (.pointer (some ⟨wb, 0, none⟩)) := all_get hall 5 rfl rfl rfl
                have h74 : us 74 = (.pointer (some ⟨wb, 0, none⟩)) := all_get hall 6 rfl rfl rfl
                have h75 : us 75 = (.agg #[.slice Ax n cx, .int .i64 clk]) := all_get hall 7 rfl rfl rfl
                have h76 : us 76 = (.pointer (some ⟨yb, 0, none⟩)) := all_get hall 8 rfl rfl rfl
                have h77 : us 77 = (.int .i64 x1) := all_get hall 9 rfl rfl rfl
                have h78 : us 78 = (.pointer (some ⟨yb, 1, none⟩)) := all_get hall 10 rfl rfl rfl
                have h79 : us 79 = (.int .i64 x2) := all_get hall 11 rfl rfl rfl
                have h80 : us 80 = (.pointer (some ⟨yb, 2, none⟩)) := all_get hall 12 rfl rfl rfl
                have h81 : us 81 = (.int .i64 x3) := all_get hall 13 rfl rfl rfl
                have h82 := all_get hall 14 rfl rfl rfl
                have h67 := all_get hall 15 rfl rfl rfl
                have h83 := all_get hall 16 rfl rfl rfl
                have h84 : us 84 = (.int .i64 0) := all_get hall 17 rfl rfl rfl
                have h10 := all_get hall 18 rfl rfl rfl
                have h11 : us 11 = (.int .i64 0) := all_get hall 20 rfl rfl rfl
                simp only [fillL, Nat.reduceAdd]
                clear hall
                simp only [h68, h69, h70, h71, h72, h73, h74, h75, h76, h77, h78, h79, h80, h81, h84, h11]
                clear h68 h69 h70 h71 h72 h73 h74 h75 h76 h77 h78 h79 h80 h81 h84 h11
                have HFz := Lib.hid (HFC.out.then0 (HLIM.out wz hG))
                clear hJ hG
                go_wp2_with fail
                go_roundg (nq - (i + 1))
                case measure => omega
                case rel => exact ⟨i + 1, by omega, rfl, by first | rfl | (go_num), by rw [HK1.out]; first | rfl | (go_num), HFz.out⟩
            | false =>
              have hne : ¬ edgesOf X (wtL X L Q) i = [] := by have := HBB.out; rw [hbv] at this; exact of_decide_eq_false this.symm
              have hk1 : (readyTo X L Q (i + 1)).length = k := by rw [HSUCC.out, if_neg (fun h => hne (List.eq_nil_of_length_eq_zero h)), List.append_nil, HK.out]
              have HNE := Lib.hid hne
              have HK1 := Lib.hid hk1
              clear hne hk1 hbv
              go_wp2_with fail
              go_loopg [12, 13] i (fun kq x12 x13 wz => ∃ j : Nat, j ≤ i ∧ kq = i - j ∧ x13 = .int .i64 (j : Int) ∧ x12 = .bool ((Q.take j).all fun z => decide (z.block ≠ x2)) ∧ Fr F0 wc wz)
              case atStart => exact ⟨0, by omega, rfl, rfl, rfl, Fr.refl _ _⟩
              case round =>
                obtain ⟨j, hj, rfl, rfl, h12, hf⟩ := hrel
                obtain ⟨fb, hfb⟩ : ∃ fb, fb = (Q.take j).all fun z => decide (z.block ≠ x2) := ⟨_, rfl⟩
                rw [← hfb] at h12
                subst h12
                have HFB := Lib.hid hfb
                have HFi := Lib.hid hf
                have HWr := Lib.hid (HWc.out.keep0 hf)
                have HYr := Lib.hid (hf.keep0 HYc.out)
                have j0 : (0 : Int) ≤ (j : Int) := Int.natCast_nonneg _
                clear hf hfb
                by_cases hjlt : j < i
                · have j1 : (j : Int) < (i : Int) := by omega
                  have j2 : (j : Int) < (nq : Int) := by omega
                  have hjQ : j < Q.length := by rw [HNQ.out]; omega
                  obtain ⟨qb', qo', eq', hcj⟩ := (HQc.out.keep0 HFi.out).get (List.getElem?_eq_getElem hjQ) (Wn.pos _)
                  cases eq'
                  have hstep : ((Q.take (j + 1)).all fun z => decide (z.block ≠ x2)) = (fb && decide (Q[j].block ≠ x2)) := by
                    rw [List.take_add_one, List.getElem?_eq_getElem hjQ, List.all_append, HFB.out]
                    simp
                  obtain ⟨y, hy⟩ : ∃ y, y = Q[j] := ⟨_, rfl⟩
                  rw [← hy] at hcj hstep
                  clear hy
                  have k3 := HWr.out.c3
                  have kz : wr.cell? ⟨qb, qo + j * 3 + 1, none⟩ = some (.int .i64 y.block) := hcj 1 _ rfl
                  have kx : wr.cell? ⟨yb, 1, none⟩ = some (.int .i64 x2) := by rw [cell_of HYr.out]; rfl
                  have HSTEP := Lib.hid hstep
                  obtain ⟨y2, hy2⟩ : ∃ y2, y2 = y.block := ⟨_, rfl⟩
                  rw [← hy2] at kz HSTEP
                  clear hcj hstep hy2
                  by_cases hyx : y2 = x2
                  · have gne : (y2 != x2) = false := by simp [hyx]
                    have HS2 : Hid (((Q.take (j + 1)).all fun z => decide (z.block ≠ x2)) = false) := Lib.hid (by rw [HSTEP.out]; simp [hyx])
                    clear hyx
                    cases fb
                    all_goals
                      go_upto_region 21 with fail
                      go_quiet (fail)
                      go_wp2_with fail
                      go_roundg (i - (j + 1))
                      case measure => omega
                      case rel => exact ⟨j + 1, by omega, rfl, by first | rfl | (go_num), by rw [HS2.out], HFi.out.drewN _⟩
                  · have gne : (y2 != x2) = true := by simp [hyx]
                    have HS2 : Hid (((Q.take (j + 1)).all fun z => decide (z.block ≠ x2)) = fb) := Lib.hid (by rw [HSTEP.out]; simp [hyx])
                    clear hyx
                    cases fb
                    all_goals
                      go_upto_region 21 with fail
                      go_quiet (fail)
                      go_wp2_with fail
                      go_roundg (i - (j + 1))
                      case measure => omega
                      case rel => exact ⟨j + 1, by omega, rfl, by first | rfl | (go_num), by rw [HS2.out], HFi.out.drewN _⟩
                · have j1 : ¬ (j : Int) < (i : Int) := by omega
                  have hji : j = i := by omega
                  cases fb with
                  | false =>
                    go_wp2_with fail
                    refine wp_region_free (S := F0) [false, false, false, false, false, false, false, false, false, false, false, false, false, false, false, false, false, false, false, false, false, false, false, false, false, false, false, false, false, false, false, false, false, false, false, false, false, false, false, false, false, false, false, false, false, false, false, false, false, false, false, false, false, false, false, false, false, false, false, false, false, false, false, false, false, false, false, false, false, false, false, false, false, false, false, false, false, false, false, false, false, false, false, false, false, false, false, false, false, false, false, false, false, false, false, false, false, false, false, false, false, false, false, false, false, false, false, true, true, true, true, true, true, true, true, true, true, true, true, true, true, true, true, true, true, true, true, false, false, false, false, false, false, false] [.eq (.bool false), .eq (.bool false), .eq undef, .eq undef, .eq undef, .eq undef, .eq undef, .eq undef, .eq undef, .eq undef, .eq undef, .eq undef, .eq undef, .eq undef, .eq undef, .eq undef, .eq undef, .eq undef, .eq undef, .eq (.bool false)] (by kernel_rfl) (by kernel_rfl) (by rfl) (fun us => ?steps) (fun us wz hG hall => ?fin)
                    case steps =>
                      simp only [fillL, Nat.reduceAdd]
                      refine stepsHold.cons (fun wx hG hd K hK => ?_) ?_
                      · rw [if_pos (wanted_none rfl)]
                        refine wp_value (w2 := wx) (v := .bool false) ?_ (hK _ _ rfl (Fr.refl _ _))
                        clear hd hG hK
                        go_simp
                      refine stepsHold.cons (fun wx hG hd K hK => ?_) ?_
                      · have h107 : us 107 = (.bool false) := deps_get hd 0 rfl rfl rfl rfl rfl
                        rw [if_pos (wanted_none rfl)]
                        refine wp_value (w2 := wx) (v := .bool false) ?_ (hK _ _ rfl (Fr.refl _ _))
                        clear hd hG hK
                        go_simp
                      refine stepsHold.cons (fun wx hG hd K hK => ?_) ?_
                      · have h108 : us 108 = (.bool false) := deps_get hd 0 rfl rfl rfl rfl rfl
                        rw [if_neg (wanted_no rfl rfl rfl rfl h108)]
                        exact hK _ _ rfl (Fr.refl _ _)
                      refine stepsHold.cons (fun wx hG hd K hK => ?_) ?_
                      · have h109 : us 109 = (undef) := deps_get hd 0 rfl rfl rfl rfl rfl
                        have h108 : us 108 = (.bool false) := deps_get hd 1 rfl rfl rfl rfl rfl
                        rw [if_neg (wanted_no rfl rfl rfl rfl h108)]
                        exact hK _ _ rfl (Fr.refl _ _)
                      refine stepsHold.cons (fun wx hG hd K hK => ?_) ?_
                      · have h110 : us 110 = (undef) := deps_get hd 0 rfl rfl rfl rfl rfl
                        have h108 : us 108 = (.bool false) := deps_get hd 1 rfl rfl rfl rfl rfl
                        rw [if_neg (wanted_no rfl rfl rfl rfl h108)]
                        exact hK _ _ rfl (Fr.refl _ _)
                      refine stepsHold.cons (fun wx hG hd K hK => ?_) ?_
                      · have h111 : us 111 = (undef) := deps_get hd 0 rfl rfl rfl rfl rfl
                        have h108 : us 108 = (.bool false) := deps_get hd 1 rfl rfl rfl rfl rfl
                        rw [if_neg (wanted_no rfl rfl rfl rfl h108)]
                        exact hK _ _ rfl (Fr.refl _ _)
                      refine stepsHold.cons (fun wx hG hd K hK => ?_) ?_
                      · have h108 : us 108 = (.bool false) := deps_get hd 0 rfl rfl rfl rfl rfl
                        rw [if_neg (wanted_no rfl rfl rfl rfl h108)]
                        exact hK _ _ rfl (Fr.refl _ _)
                      refine stepsHold.cons (fun wx hG hd K hK => ?_) ?_
                      · have h113 : us 113 = (undef) := deps_get hd 0 rfl rfl rfl rfl rfl
                        have h108 : us 108 = (.bool false) := deps_get hd 1 rfl rfl rfl rfl rfl
                        rw [if_neg (wanted_no rfl rfl rfl rfl h108)]
                        exact hK _ _ rfl (Fr.refl _ _)
                      refine stepsHold.cons (fun wx hG hd K hK => ?_) ?_
                      · have h114 : us 114 = (undef) := deps_get hd 0 rfl rfl rfl rfl rfl
                        have h108 : us 108 = (.bool false) := deps_get hd 1 rfl rfl rfl rfl rfl
                        rw [if_neg (wanted_no rfl rfl rfl rfl h108)]
                        exact hK _ _ rfl (Fr.refl _ _)
                      refine stepsHold.cons (fun wx hG hd K hK => ?_) ?_
                      · have h115 : us 115 = (undef) := deps_get hd 0 rfl rfl rfl rfl rfl
                        have h108 : us 108 = (.bool false) := deps_get hd 1 rfl rfl rfl rfl rfl
                        rw [if_neg (wanted_no rfl rfl rfl rfl h108)]
                        exact hK _ _ rfl (Fr.refl _ _)
                      refine stepsHold.cons (fun wx hG hd K hK => ?_) ?_
                      · have h108 : us 108 = (.bool false) := deps_get hd 0 rfl rfl rfl rfl rfl
                        rw [if_neg (wanted_no rfl rfl rfl rfl h108)]
                        exact hK _ _ rfl (Fr.refl _ _)
                      refine stepsHold.cons (fun wx hG hd K hK => ?_) ?_
                      · have h117 : us 117 = (undef) := deps_get hd 0 rfl rfl rfl rfl rfl
                        have h108 : us 108 = (.bool false) := deps_get hd 1 rfl rfl rfl rfl rfl
                        rw [if_neg (wanted_no rfl rfl rfl rfl h108)]
                        exact hK _ _ rfl (Fr.refl _ _)
                      refine stepsHold.cons (fun wx hG hd K hK => ?_) ?_
                      · have h108 : us 108 = (.bool false) := deps_get hd 0 rfl rfl rfl rfl rfl
                        rw [if_neg (wanted_no rfl rfl rfl rfl h108)]
                        exact hK _ _ rfl (Fr.refl _ _)
                      refine stepsHold.cons (fun wx hG hd K hK => ?_) ?_
                      · have h119 : us 119 = (undef) := deps_get hd 0 rfl rfl rfl rfl rfl
                        have h108 : us 108 = (.bool false) := deps_get hd 1 rfl rfl rfl rfl rfl
                        rw [if_neg (wanted_no rfl rfl rfl rfl h108)]
                        exact hK _ _ rfl (Fr.refl _ _)
                      refine stepsHold.cons (fun wx hG hd K hK => ?_) ?_
                      · have h108 : us 108 = (.bool false) := deps_get hd 0 rfl rfl rfl rfl rfl
                        rw [if_neg (wanted_no rfl rfl rfl rfl h108)]
                        exact hK _ _ rfl (Fr.refl _ _)
                      refine stepsHold.cons (fun wx hG hd K hK => ?_) ?_
                      · have h121 : us 121 = (undef) := deps_get hd 0 rfl rfl rfl rfl rfl
                        have h108 : us 108 = (.bool false) := deps_get hd 1 rfl rfl rfl rfl rfl
                        rw [if_neg (wanted_no rfl rfl rfl rfl h108)]
                        exact hK _ _ rfl (Fr.refl _ _)
                      refine stepsHold.cons (fun wx hG hd K hK => ?_) ?_
                      · have h112 : us 112 = (undef) := deps_get hd 0 rfl rfl rfl rfl rfl
                        have h116 : us 116 = (undef) := deps_get hd 1 rfl rfl rfl rfl rfl
                        have h118 : us 118 = (undef) := deps_get hd 2 rfl rfl rfl rfl rfl
                        have h120 : us 120 = (undef) := deps_get hd 3 rfl rfl rfl rfl rfl
                        have h122 : us 122 = (undef) := deps_get hd 4 rfl rfl rfl rfl rfl
                        have h108 : us 108 = (.bool false) := deps_get hd 5 rfl rfl rfl rfl rfl
                        rw [if_neg (wanted_no rfl rfl rfl rfl h108)]
                        exact hK _ _ rfl (Fr.refl _ _)
                      refine stepsHold.cons (fun wx hG hd K hK => ?_) ?_
                      · have h123 : us 123 = (undef) := deps_get hd 0 rfl rfl rfl rfl rfl
                        have h108 : us 108 = (.bool false) := deps_get hd 1 rfl rfl rfl rfl rfl
                        rw [if_neg (wanted_no rfl rfl rfl rfl h108)]
                        exact hK _ _ rfl (Fr.refl _ _)
                      refine stepsHold.cons (fun wx hG hd K hK => ?_) ?_
                      · have h124 : us 124 = (undef) := deps_get hd 0 rfl rfl rfl rfl rfl
                        have h108 : us 108 = (.bool false) := deps_get hd 1 rfl rfl rfl rfl rfl
                        rw [if_neg (wanted_no rfl rfl rfl rfl h108)]
                        exact hK _ _ rfl (Fr.refl _ _)
                      refine stepsHold.cons (fun wx hG hd K hK => ?_) ?_
                      · have h108 : us 108 = (.bool false) := deps_get hd 0 rfl rfl rfl rfl rfl
                        have h125 : us 125 = (undef) := deps_get hd 1 rfl rfl rfl rfl rfl
                        rw [if_pos (wanted_none rfl)]
                        refine wp_value (w2 := wx) (v := .bool false) ?_ (hK _ _ rfl (Fr.refl _ _))
                        clear hd hG hK
                        go_simp
                      exact stepsHold.nil
                    case fin =>
                      have h107 : us 107 = (.bool false) := all_get hall 0 rfl rfl rfl
                      have h108 : us 108 = (.bool false) := all_get hall 1 rfl rfl rfl
                      have h109 : us 109 = (undef) := all_get hall 2 rfl rfl rfl
                      have h110 : us 110 = (undef) := all_get hall 3 rfl rfl rfl
                      have h111 : us 111 = (undef) := all_get hall 4 rfl rfl rfl
                      have h112 : us 112 = (undef) := all_get hall 5 rfl rfl rfl
                      have h113 : us 113 = (undef) := all_get hall 6 rfl rfl rfl
                      have h114 : us 114 = (undef) := all_get hall 7 rfl rfl rfl
                      have h115 : us 115 = (undef) := all_get hall 8 rfl rfl rfl
                      have h116 : us 116 = (undef) := all_get hall 9 rfl rfl rfl
                      have h117 : us 117 = (undef) := all_get hall 10 rfl rfl rfl
                      have h118 : us 118 = (undef) := all_get hall 11 rfl rfl rfl
                      have h119 : us 119 = (undef) := all_get hall 12 rfl rfl rfl
                      have h120 : us 120 = (undef) := all_get hall 13 rfl rfl rfl
                      have h121 : us 121 = (undef) := all_get hall 14 rfl rfl rfl
                      have h122 : us 122 = (undef) := all_get hall 15 rfl rfl rfl
                      have h123 : us 123 = (undef) := all_get hall 16 rfl rfl rfl
                      have h124 : us 124 = (undef) := all_get hall 17 rfl rfl rfl
                      have h125 : us 125 = (undef) := all_get hall 18 rfl rfl rfl
                      have h126 : us 126 = (.bool false) := all_get hall 19 rfl rfl rfl
                      simp only [fillL, Nat.reduceAdd]
                      clear hall
                      simp only [h107, h108, h109, h110, h111, h112, h113, h114, h115, h116, h117, h118, h119, h120, h121, h122, h123, h124, h125, h126]
                      clear h107 h108 h109 h110 h111 h112 h113 h114 h115 h116 h117 h118 h119 h120 h121 h122 h123 h124 h125 h126
                      go_wp2_with fail
                      go_roundg (nq - (i + 1))
                      case measure => omega
                      case rel => exact ⟨i + 1, by omega, rfl, by first | rfl | (go_num), by rw [HK1.out], (HFC.out.then0 HFi.out).then0 hG⟩
                  | true =>
                    have hna : (againstL X L x1 x2 x3).length ≠ 0 := fun h0 => HNE.out (first_edges HXI.out (fun j' y' hj' hy' => by
                      have h1 := HFB.out
                      rw [hji] at h1
                      have h2 := List.all_eq_true.1 h1.symm y' (List.mem_of_getElem? (by rw [List.getElem?_take, if_pos hj']; exact hy'))
                      exact of_decide_eq_true h2) (List.eq_nil_of_length_eq_zero h0))
                    obtain ⟨na, hnae⟩ : ∃ na, na = (againstL X L x1 x2 x3).length := ⟨_, rfl⟩
                    rw [← hnae] at hna
                    have HNA : Hid ((againstL X L x1 x2 x3).length = na) := Lib.hid hnae.symm
                    have HNA0 : Hid (((na : Int) == 0) = false) := Lib.hid (by simp [hna])
                    clear hna hnae
                    go_wp2_with fail
                    refine wp_region_free (S := F0) [false, false, false, false, false, false, false, false, false, false, false, false, false, false, false, false, false, false, false, false, false, false, false, false, false, false, false, false, false, false, false, false, false, false, false, false, false, false, false, false, false, false, false, false, false, false, false, false, false, false, false, false, false, false, false, false, false, false, false, false, false, false, false, false, false, false, false, false, false, false, false, false, false, false, false, false, false, false, false, false, false, false, false, false, false, false, false, false, false, false, false, false, false, false, false, false, false, false, false, false, false, false, false, false, false, false, false, true, true, true, true, true, true, true, true, true, true, true, true, true, true, true, true, true, true, true, true, false, false, false, false, false, false, false] [.eq (.bool true), .eq (.bool true), .eq (.pointer (some ⟨wb, 0, none⟩)), .eq (.pointer (some ⟨wb, 0, none⟩)), .eq (.pointer (some ⟨wb, 2, none⟩)), .eq (.agg #[.slice At nt ct]), .eq (.pointer (some ⟨wb, 0, none⟩)), .eq (.pointer (some ⟨wb, 0, none⟩)), .eq (.pointer (some ⟨wb, 0, none⟩)), .eq (.agg #[.slice Ax n cx, .int .i64 clk]), .eq (.pointer (some ⟨yb, 0, none⟩)), .eq (.int .i64 x1), .eq (.pointer (some ⟨yb, 1, none⟩)), .eq (.int .i64 x2), .eq (.pointer (some ⟨yb, 2, none⟩)), .eq (.int .i64 x3), ⟨fun v w1 => ∃ A c, v = .slice A na c, fun v w1 w2 h hf => h⟩, .eq (.int .i64 (na : Int)), .eq (.bool false), .eq (.bool false)] (by kernel_rfl) (by kernel_rfl) (by rfl) (fun us => ?steps) (fun us wz hG hall => ?fin)
                    case steps =>
                      simp only [fillL, Nat.reduceAdd]
                      refine stepsHold.cons (fun wx hG hd K hK => ?_) ?_
                      · rw [if_pos (wanted_none rfl)]
                        refine wp_value (w2 := wx) (v := .bool true) ?_ (hK _ _ rfl (Fr.refl _ _))
                        clear hd hG hK
                        go_simp
                      refine stepsHold.cons (fun wx hG hd K hK => ?_) ?_
                      · have h107 : us 107 = (.bool true) := deps_get hd 0 rfl rfl rfl rfl rfl
                        rw [if_pos (wanted_none rfl)]
                        refine wp_value (w2 := wx) (v := .bool true) ?_ (hK _ _ rfl (Fr.refl _ _))
                        clear hd hG hK
                        go_simp
                      refine stepsHold.cons (fun wx hG hd K hK => ?_) ?_
                      · have h108 : us 108 = (.bool true) := deps_get hd 0 rfl rfl rfl rfl rfl
                        rw [if_pos (wanted_yes rfl rfl rfl rfl h108)]
                        refine wp_value (w2 := wx) (v := .pointer (some ⟨wb, 0, none⟩)) ?_ (hK _ _ rfl (Fr.refl _ _))
                        clear hd hG hK
                        go_simp
                      refine stepsHold.cons (fun wx hG hd K hK => ?_) ?_
                      · have h109 : us 109 = (.pointer (some ⟨wb, 0, none⟩)) := deps_get hd 0 rfl rfl rfl rfl rfl
                        have h108 : us 108 = (.bool true) := deps_get hd 1 rfl rfl rfl rfl rfl
                        rw [if_pos (wanted_yes rfl rfl rfl rfl h108)]
                        refine wp_value (w2 := wx) (v := .pointer (some ⟨wb, 0, none⟩)) ?_ (hK _ _ rfl (Fr.refl _ _))
                        clear hd hG hK
                        go_simp
                      refine stepsHold.cons (fun wx hG hd K hK => ?_) ?_
                      · have h110 : us 110 = (.pointer (some ⟨wb, 0, none⟩)) := deps_get hd 0 rfl rfl rfl rfl rfl
                        have h108 : us 108 = (.bool true) := deps_get hd 1 rfl rfl rfl rfl rfl
                        rw [if_pos (wanted_yes rfl rfl rfl rfl h108)]
                        refine wp_value (w2 := wx) (v := .pointer (some ⟨wb, 2, none⟩)) ?_ (hK _ _ rfl (Fr.refl _ _))
                        clear hd hG hK
                        go_simp
                      refine stepsHold.cons (fun wx hG hd K hK => ?_) ?_
                      · have h111 : us 111 = (.pointer (some ⟨wb, 2, none⟩)) := deps_get hd 0 rfl rfl rfl rfl rfl
                        have h108 : us 108 = (.bool true) := deps_get hd 1 rfl rfl rfl rfl rfl
                        rw [if_pos (wanted_yes rfl rfl rfl rfl h108)]
                        have hc := (HWr.out.keep0 hG).c2
                        refine wp_value (w2 := wx) (v := .agg #[.slice At nt ct]) ?_ (hK _ _ rfl (Fr.refl _ _))
                        clear hd hK
                        go_simp
                      refine stepsHold.cons (fun wx hG hd K hK => ?_) ?_
                      · have h108 : us 108 = (.bool true) := deps_get hd 0 rfl rfl rfl rfl rfl
                        rw [if_pos (wanted_yes rfl rfl rfl rfl h108)]
                        refine wp_value (w2 := wx) (v := .pointer (some ⟨wb, 0, none⟩)) ?_ (hK _ _ rfl (Fr.refl _ _))
                        clear hd hG hK
                        go_simp
                      refine stepsHold.cons (fun wx hG hd K hK => ?_) ?_
                      · have h113 : us 113 = (.pointer (some ⟨wb, 0, none⟩)) := deps_get hd 0 rfl rfl rfl rfl rfl
                        have h108 : us 108 = (.bool true) := deps_get hd 1 rfl rfl rfl rfl rfl
                        rw [if_pos (wanted_yes rfl rfl rfl rfl h108)]
                        refine wp_value (w2 := wx) (v := .pointer (some ⟨wb, 0, none⟩)) ?_ (hK _ _ rfl (Fr.refl _ _))
                        clear hd hG hK
                        go_simp
                      refine stepsHold.cons (fun wx hG hd K hK => ?_) ?_
                      · have h114 : us 114 = (.pointer (some ⟨wb, 0, none⟩)) := deps_get hd 0 rfl rfl rfl rfl rfl
                        have h108 : us 108 = (.bool true) := deps_get hd 1 rfl rfl rfl rfl rfl
                        rw [if_pos (wanted_yes rfl rfl rfl rfl h108)]
                        refine wp_value (w2 := wx) (v := .pointer (some ⟨wb, 0, none⟩)) ?_ (hK _ _ rfl (Fr.refl _ _))
                        clear hd hG hK
                        go_simp
                      refine stepsHold.cons (fun wx hG hd K hK => ?_) ?_
                      · have h115 : us 115 = (.pointer (some ⟨wb, 0, none⟩)) := deps_get hd 0 rfl rfl rfl rfl rfl
                        have h108 : us 108 = (.bool true) := deps_get hd 1 rfl rfl rfl rfl rfl
                        rw [if_pos (wanted_yes rfl rfl rfl rfl h108)]
                        have hc := (HWr.out.keep0 hG).c0
                        have hc1 := (HWr.out.keep0 hG).c1
                        refine wp_value (w2 := wx) (v := .agg #[.slice Ax n cx, .int .i64 clk]) ?_ (hK _ _ rfl (Fr.refl _ _))
                        clear hd hK
                        go_simp
                      refine stepsHold.cons (fun wx hG hd K hK => ?_) ?_
                      · have h108 : us 108 = (.bool true) := deps_get hd 0 rfl rfl rfl rfl rfl
                        rw [if_pos (wanted_yes rfl rfl rfl rfl h108)]
                        refine wp_value (w2 := wx) (v := .pointer (some ⟨yb, 0, none⟩)) ?_ (hK _ _ rfl (Fr.refl _ _))
                        clear hd hG hK
                        go_simp
                      refine stepsHold.cons (fun wx hG hd K hK => ?_) ?_
                      · have h117 : us 117 = (.pointer (some ⟨yb, 0, none⟩)) := deps_get hd 0 rfl rfl rfl rfl rfl
                        have h108 : us 108 = (.bool true) := deps_get hd 1 rfl rfl rfl rfl rfl
                        rw [if_pos (wanted_yes rfl rfl rfl rfl h108)]
                        have hc : wx.cell? ⟨yb, 0, none⟩ = some (.int .i64 x1) := by rw [cell_of (hG.keep0 HYr.out)]; rfl
                        refine wp_value (w2 := wx) (v := .int .i64 x1) ?_ (hK _ _ rfl (Fr.refl _ _))
                        clear hd hK
                        go_simp
                      refine stepsHold.cons (fun wx hG hd K hK => ?_) ?_
                      · have h108 : us 108 = (.bool true) := deps_get hd 0 rfl rfl rfl rfl rfl
                        rw [if_pos (wanted_yes rfl rfl rfl rfl h108)]
                        refine wp_value (w2 := wx) (v := .pointer (some ⟨yb, 1, none⟩)) ?_ (hK _ _ rfl (Fr.refl _ _))
                        clear hd hG hK
                        go_simp
                      refine stepsHold.cons (fun wx hG hd K hK => ?_) ?_
                      · have h119 : us 119 = (.pointer (some ⟨yb, 1, none⟩)) := deps_get hd 0 rfl rfl rfl rfl rfl
                        have h108 : us 108 = (.bool true) := deps_get hd 1 rfl rfl rfl rfl rfl
                        rw [if_pos (wanted_yes rfl rfl rfl rfl h108)]
                        have hc : wx.cell? ⟨yb, 1, none⟩ = some (.int .i64 x2) := by rw [cell_of (hG.keep0 HYr.out)]; rfl
                        refine wp_value (w2 := wx) (v := .int .i64 x2) ?_ (hK _ _ rfl (Fr.refl _ _))
                        clear hd hK
                        go_simp
                      refine stepsHold.cons (fun wx hG hd K hK => ?_) ?_
                      · have h108 : us 108 = (.bool true) := deps_get hd 0 rfl rfl rfl rfl rfl
                        rw [if_pos (wanted_yes rfl rfl rfl rfl h108)]
                        refine wp_value (w2 := wx) (v := .pointer (some ⟨yb, 2, none⟩)) ?_ (hK _ _ rfl (Fr.refl _ _))
                        clear hd hG hK
                        go_simp
                      refine stepsHold.cons (fun wx hG hd K hK => ?_) ?_
                      · have h121 : us 121 = (.pointer (some ⟨yb, 2, none⟩)) := deps_get hd 0 rfl rfl rfl rfl rfl
                        have h108 : us 108 = (.bool true) := deps_get hd 1 rfl rfl rfl rfl rfl
                        rw [if_pos (wanted_yes rfl rfl rfl rfl h108)]
                        have hc : wx.cell? ⟨yb, 2, none⟩ = some (.int .i64 x3) := by rw [cell_of (hG.keep0 HYr.out)]; rfl
                        refine wp_value (w2 := wx) (v := .int .i64 x3) ?_ (hK _ _ rfl (Fr.refl _ _))
                        clear hd hK
                        go_simp
                      refine stepsHold.cons (fun wx hG hd K hK => ?_) ?_
                      · have h112 : us 112 = (.agg #[.slice At nt ct]) := deps_get hd 0 rfl rfl rfl rfl rfl
                        have h116 : us 116 = (.agg #[.slice Ax n cx, .int .i64 clk]) := deps_get hd 1 rfl rfl rfl rfl rfl
                        have h118 : us 118 = (.int .i64 x1) := deps_get hd 2 rfl rfl rfl rfl rfl
                        have h120 : us 120 = (.int .i64 x2) := deps_get hd 3 rfl rfl rfl rfl rfl
                        have h122 : us 122 = (.int .i64 x3) := deps_get hd 4 rfl rfl rfl rfl rfl
                        have h108 : us 108 = (.bool true) := deps_get hd 5 rfl rfl rfl rfl rfl
                        rw [if_pos (wanted_yes rfl rfl rfl rfl h108)]
                        refine wp_call (w2 := wx) (f := 16) (args := #[.agg #[.slice At nt ct], .agg #[.slice Ax n cx, .int .i64 clk], .int .i64 x1, .int .i64 x2, .int .i64 x3]) ?_ ?_
                        · clear hd hK
                          go_simp
                        · refine (against2_c clk x1 x2 x3 (HWr.out.keep0 hG).st HL1M.out HGN.out.grn.sane (HWr.out.keep0 hG).sx HGN.out.grn.len HOK.out.m).mono ?_
                          intro e w9 hNI
                          obtain ⟨A9, c9, rfl, hv9, hf, hb9⟩ := hNI.ex
                          rw [HNA.out]
                          exact ⟨_, rfl, hK _ _ ⟨A9, c9, rfl⟩ hf⟩
                      refine stepsHold.cons (fun wx hG hd K hK => ?_) ?_
                      · have h123 := deps_get hd 0 rfl rfl rfl rfl rfl
                        have h108 : us 108 = (.bool true) := deps_get hd 1 rfl rfl rfl rfl rfl
                        rw [if_pos (wanted_yes rfl rfl rfl rfl h108)]
                        obtain ⟨A9, c9, h123'⟩ := h123
                        refine wp_value (w2 := wx) (v := .int .i64 (na : Int)) ?_ (hK _ _ rfl (Fr.refl _ _))
                        clear hd hG hK
                        go_simp
                      refine stepsHold.cons (fun wx hG hd K hK => ?_) ?_
                      · have h124 : us 124 = (.int .i64 (na : Int)) := deps_get hd 0 rfl rfl rfl rfl rfl
                        have h108 : us 108 = (.bool true) := deps_get hd 1 rfl rfl rfl rfl rfl
                        rw [if_pos (wanted_yes rfl rfl rfl rfl h108)]
                        have hw := HNA0.out
                        refine wp_value (w2 := wx) (v := .bool false) ?_ (hK _ _ rfl (Fr.refl _ _))
                        clear hd hG hK
                        go_simp
                      refine stepsHold.cons (fun wx hG hd K hK => ?_) ?_
                      · have h108 : us 108 = (.bool true) := deps_get hd 0 rfl rfl rfl rfl rfl
                        have h125 : us 125 = (.bool false) := deps_get hd 1 rfl rfl rfl rfl rfl
                        rw [if_pos (wanted_none rfl)]
                        refine wp_value (w2 := wx) (v := .bool false) ?_ (hK _ _ rfl (Fr.refl _ _))
                        clear hd hG hK
                        go_simp
                      exact stepsHold.nil
                    case fin =>
                      have h107 : us 107 = (.bool true) := all_get hall 0 rfl rfl rfl
                      have h108 : us 108 = (.bool true) := all_get hall 1 rfl rfl rfl
                      have h109 : us 109 = (.pointer (some ⟨wb, 0, none⟩)) := all_get hall 2 rfl rfl rfl
                      have h110 : us 110 = (.pointer (some ⟨wb, 0, none⟩)) := all_get hall 3 rfl rfl rfl
                      have h111 : us 111 = (.pointer (some ⟨wb, 2, none⟩)) := all_get hall 4 rfl rfl rfl
                      have h112 : us 112 = (.agg #[.slice At nt ct]) := all_get hall 5 rfl rfl rfl
                      have h113 : us 113 = (.pointer (some ⟨wb, 0, none⟩)) := all_get hall 6 rfl rfl rfl
                      have h114 : us 114 = (.pointer (some ⟨wb, 0, none⟩)) := all_get hall 7 rfl rfl rfl
                      have h115 : us 115 = (.pointer (some ⟨wb, 0, none⟩)) := all_get hall 8 rfl rfl rfl
                      have h116 : us 116 = (.agg #[.slice Ax n cx, .int .i64 clk]) := all_get hall 9 rfl rfl rfl
                      have h117 : us 117 = (.pointer (some ⟨yb, 0, none⟩)) := all_get hall 10 rfl rfl rfl
                      have h118 : us 118 = (.int .i64 x1) := all_get hall 11 rfl rfl rfl
                      have h119 : us 119 = (.pointer (some ⟨yb, 1, none⟩)) := all_get hall 12 rfl rfl rfl
                      have h120 : us 120 = (.int .i64 x2) := all_get hall 13 rfl rfl rfl
                      have h121 : us 121 = (.pointer (some ⟨yb, 2, none⟩)) := all_get hall 14 rfl rfl rfl
                      have h122 : us 122 = (.int .i64 x3) := all_get hall 15 rfl rfl rfl
                      have h123 := all_get hall 16 rfl rfl rfl
                      have h124 : us 124 = (.int .i64 (na : Int)) := all_get hall 17 rfl rfl rfl
                      have h125 : us 125 = (.bool false) := all_get hall 18 rfl rfl rfl
                      have h126 : us 126 = (.bool false) := all_get hall 19 rfl rfl rfl
                      simp only [fillL, Nat.reduceAdd]
                      clear hall
                      simp only [h107, h108, h109, h110, h111, h112, h113, h114, h115, h116, h117, h118, h119, h120, h121, h122, h124, h125, h126]
                      clear h107 h108 h109 h110 h111 h112 h113 h114 h115 h116 h117 h118 h119 h120 h121 h122 h124 h125 h126
                      go_wp2_with fail
                      go_roundg (nq - (i + 1))
                      case measure => omega
                      case rel => exact ⟨i + 1, by omega, rfl, by first | rfl | (go_num), by rw [HK1.out], (HFC.out.then0 HFi.out).then0 hG⟩
        · have i1 : ¬ (i : Int) < (nq : Int) := by omega
          have hkn : k = nr := by
            rw [HK.out, ← HNR.out, ← HRE.out]
            unfold readyL
            rw [HNQ.out, show i = nq by omega]
          have geq : ((k : Int) == (nr : Int)) = true := by simp [hkn]
          clear hkn
          go_wp2_with fail
          go_ret
          exact ⟨rfl, HF5.out.then0 HF.out⟩
end
end Go.Proofs.YtgbaijfgmeealaaGreat
