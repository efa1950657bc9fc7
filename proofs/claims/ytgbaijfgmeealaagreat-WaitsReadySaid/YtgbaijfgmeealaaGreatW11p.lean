/-
  heronry/waits: Add of a want that may be; Victim. Conditions: none.
-/
import Derived.Test.YtgbaijfgmeealaaGreatW11o
set_option linter.unusedVariables false
set_option linter.unusedSimpArgs false
namespace Go.Proofs.YtgbaijfgmeealaaGreat
open Go.RowKit
theorem und_queue : ∃ d, Tryz.prog.underlying 28 = some d ∧ aggDesc d = true := ⟨_, Tryz.underlying28, rfl⟩
theorem load_queue {w : World} {b : Nat} {v : Value} (h : w.heap[b]? = some (.cells #[v] 28 (0, 0))) : (loadVar 28 ⟨b, 0, none⟩).run Tryz.prog w = .ok (.agg #[v]) w := by
  obtain ⟨d, hu, hd⟩ := und_queue
  refine run_loadVar_at w b 0 28 [v] d (fun j u hv => ?_) hu hd size_queue
  rw [cell_of h]
  simpa using hv
theorem queue_ret2 {fn : Func} {p c : Nat} {a : Act} {w : World} {b : Nat} {v u : Value} {R : Ending → World → Prop} (hfn : fn.results = #[.cell p 28, .tmp c]) (ha : a.tmps.getD p undef = .pointer (some ⟨b, 0, none⟩)) (hc : a.tmps.getD c undef = u) (hd : a.defers = [])
    (hh : w.heap[b]? = some (.cells #[v] 28 (0, 0))) (hR : R (.returned (.tuple #[.agg #[v], u])) w) : bodyPost Tryz.prog fn R .ret a w :=
  bodyPost_ret (results_cell2 hfn ha hc (load_queue hh)) hd hR
/-- The greatest of those that are stuck. -/
noncomputable def victimI (X : List Tx9) (L : List Lk) (Q : List Wn) : Int := if (stuckTo X (edL X L Q) X.length).length = 0 then -1 else maxI (stuckTo X (edL X L Q) X.length)
section
variable {w : World} {v vt u : Value} {Q : List Wn} {L : List Lk} {X : List Tx9}
set_option maxRecDepth 100000 in
set_option maxHeartbeats 4000000 in
theorem add_c (h : SlV 3 Wn.cells w v Q) (hs : SaneQ Q) (x : Wn) (hx : x.Ok) (hno : hasQ Q x.tx = false) (hn : Q.length < 64) :
    Calls Tryz.prog 18 #[.agg #[v], wnV x] w fun e w' => ∃ v', e = .returned (.tuple #[.agg #[v'], .int .i64 0]) ∧ SlV 3 Wn.cells w' v' (Q ++ [x]) ∧ Fr F0 w w' := by
  obtain ⟨A, c, rfl, -⟩ := h.ex
  obtain ⟨n, hnn⟩ : ∃ n, n = Q.length := ⟨_, rfl⟩
  rw [← hnn] at h ⊢
  have n0 : (0 : Int) ≤ (n : Int) := Int.natCast_nonneg _
  have n1 : ¬ (64 : Int) ≤ (n : Int) := by omega
  obtain ⟨x1, x2, x3⟩ := x
  have HQ0 := Lib.hid h
  have HS := Lib.hid hs
  have HX := Lib.hid hx
  have HNO := Lib.hid hno
  have HNN := Lib.hid hnn
  have HQN : Hid (Q.length ≤ 1000000) := Lib.hid (by omega)
  obtain ⟨W0, hW0⟩ : ∃ W0, W0 = ((w.alloc (.cells #[.slice A n c] 28)).alloc (.cells #[.int .i64 x1, .int .i64 x2, .int .i64 x3] 46)).alloc (.cells #[.slice none 0 0] 28) := ⟨_, rfl⟩
  have HF0 : Hid (Fr F0 w W0) := Lib.hid (by rw [hW0]; exact (((Fr.refl F0 w).alloc _).alloc _).alloc _)
  have HB00 : Hid (W0.heap[w.heap.size]? = some (.cells #[.slice A n c] 28 (0, 0))) := Lib.hid (by rw [hW0]; exact keep_alloc (keep_alloc (alloc_at rfl _) _) _)
  have HB10 : Hid (W0.heap[w.heap.size + 1]? = some (.cells #[.int .i64 x1, .int .i64 x2, .int .i64 x3] 46 (0, 0))) := Lib.hid (by rw [hW0]; exact keep_alloc (alloc_at (by simp) _) _)
  have HB20 : Hid (W0.heap[w.heap.size + 1 + 1]? = some (.cells #[.slice none 0 0] 28 (0, 0))) := Lib.hid (by rw [hW0]; exact alloc_at (by simp) _)
  have HW0 := Lib.hid hW0
  clear h hs hx hno hnn hW0 hn
  go_enter Tryz.func18, Tryz.ntmps18
  go_wp2_with fail
  rw [← HW0.out]
  refine (qsane_c (HQ0.out.keep0 HF0.out) HS.out).mono ?_
  rintro e w1 ⟨rfl, hf1⟩
  have HF1 := Lib.hid (HF0.out.then0 hf1)
  have HB01 := Lib.hid (hf1.keep0 HB00.out)
  have HB11 := Lib.hid (hf1.keep0 HB10.out)
  have HB21 := Lib.hid (hf1.keep0 HB20.out)
  have a1 : w1.cell? ⟨w.heap.size + 1, 0, none⟩ = some (.int .i64 x1) := by rw [cell_of HB11.out]; rfl
  have a2 : w1.cell? ⟨w.heap.size + 1, 1, none⟩ = some (.int .i64 x2) := by rw [cell_of HB11.out]; rfl
  have a3 : w1.cell? ⟨w.heap.size + 1, 2, none⟩ = some (.int .i64 x3) := by rw [cell_of HB11.out]; rfl
  clear hf1
  go_wp2_with fail
  clear a1 a2 a3
  refine (wsound_c ⟨x1, x2, x3⟩ HX.out).mono ?_
  rintro e w2 ⟨rfl, hf2⟩
  have HF2 := Lib.hid (HF1.out.then0 hf2)
  have HB02 := Lib.hid (hf2.keep0 HB01.out)
  have HB12 := Lib.hid (hf2.keep0 HB11.out)
  have HB22 := Lib.hid (hf2.keep0 HB21.out)
  have a0 : w2.cell? ⟨w.heap.size, 0, none⟩ = some (.slice A n c) := by rw [cell_of HB02.out]; rfl
  have a1 : w2.cell? ⟨w.heap.size + 1, 0, none⟩ = some (.int .i64 x1) := by rw [cell_of HB12.out]; rfl
  clear hf2
  go_wp2_with fail
  clear a0 a1
  refine (has_c (Q := Q) x1 (HQ0.out.keep0 HF2.out) HQN.out).mono ?_
  rintro e w3 ⟨rfl, hf3⟩
  rw [show hasQ Q x1 = false from HNO.out]
  have HF3 := Lib.hid (HF2.out.then0 hf3)
  have HB03 := Lib.hid (hf3.keep0 HB02.out)
  have HB13 := Lib.hid (hf3.keep0 HB12.out)
  have HB23 := Lib.hid (hf3.keep0 HB22.out)
  have a0 : w3.cell? ⟨w.heap.size, 0, none⟩ = some (.slice A n c) := by rw [cell_of HB03.out]; rfl
  clear hf3 HB00 HB10 HB20 HB01 HB11 HB21 HB02 HB12 HB22 HW0 HF0 HF1 HF2
  go_wp2_with fail
  clear a0
  have HQ := Lib.hid (HQ0.out.keep0 HF3.out)
  have HB0 := HB03
  have HB1 := HB13
  generalize w3 = W at *
  refine wp_region_tail (S := F0) [false, false, false, false, false, true, false, false, false, false, false, false, false, false, false, false, false, false, false, false, false, false, false, false, false, false, false, false, true, true, true, true, true, true, true] [.eq (.pointer (some ⟨w.heap.size, 0, none⟩)), .eq (.slice A n c), ⟨fun v w1 => w1.ownsRow W.heap.size 46 3 v Q.length (Q.flatMap Wn.cells), fun v w1 w2 h hf => own_keep0 h hf⟩, .eq (.agg #[.int .i64 x1, .int .i64 x2, .int .i64 x3]), ⟨fun v w1 => ∃ q, v = .slice (some ⟨q, 0, none⟩) 1 1 ∧ W.heap.size ≤ q ∧ w1.heap[q]? = some (.cells #[.int .i64 x1, .int .i64 x2, .int .i64 x3] 46 (0, 0)), fun v w1 w2 ⟨q, h1, h2, h3⟩ hf => ⟨q, h1, h2, hf.keep0 h3⟩⟩, .any, .any, .any, .any] 5 (by kernel_rfl) (by kernel_rfl) (by rfl) (by kernel_rfl) (fun us => ?steps) (fun us wz hG hall => ?fin)
  case steps =>
    simp only [fillL, Nat.reduceAdd]
    refine stepsHold.cons (fun wx hG hd K hK => ?_) ?_
    · rw [if_pos (wanted_none rfl)]
      refine wp_value (w2 := wx) (v := .pointer (some ⟨w.heap.size, 0, none⟩)) ?_ (hK _ _ rfl (Fr.refl _ _))
      clear hd hG hK
      go_simp
    refine stepsHold.cons (fun wx hG hd K hK => ?_) ?_
    · have h28 : us 28 = (.pointer (some ⟨w.heap.size, 0, none⟩)) := deps_get hd 0 rfl rfl rfl rfl rfl
      rw [if_pos (wanted_none rfl)]
      have hc : wx.cell? ⟨w.heap.size, 0, none⟩ = some (.slice A n c) := by rw [cell_of (hG.keep0 HB0.out)]; rfl
      refine wp_value (w2 := wx) (v := .slice A n c) ?_ (hK _ _ rfl (Fr.refl _ _))
      clear hd hK
      go_simp
    refine stepsHold.cons (fun wx hG hd K hK => ?_) ?_
    · have h29 : us 29 = (.slice A n c) := deps_get hd 0 rfl rfl rfl rfl rfl
      rw [if_pos (wanted_none rfl)]
      refine wp_call (w2 := wx) (f := 42) (args := #[.slice A n c]) ?_ ?_
      · clear hd hK
        go_simp
      · refine (clone_wn (HQ.out.keep0 hG) HQN.out).mono ?_
        rintro e w9 ⟨v9, rfl, hown9, hf9⟩
        exact ⟨_, rfl, hK _ _ (own_lower hown9 hG.size) hf9⟩
    refine stepsHold.cons (fun wx hG hd K hK => ?_) ?_
    · rw [if_pos (wanted_none rfl)]
      have hc0 : wx.cell? ⟨w.heap.size + 1, 0, none⟩ = some (.int .i64 x1) := by rw [cell_of (hG.keep0 HB1.out)]; rfl
      have hc1 : wx.cell? ⟨w.heap.size + 1, 1, none⟩ = some (.int .i64 x2) := by rw [cell_of (hG.keep0 HB1.out)]; rfl
      have hc2 : wx.cell? ⟨w.heap.size + 1, 2, none⟩ = some (.int .i64 x3) := by rw [cell_of (hG.keep0 HB1.out)]; rfl
      refine wp_value (w2 := wx) (v := .agg #[.int .i64 x1, .int .i64 x2, .int .i64 x3]) ?_ (hK _ _ rfl (Fr.refl _ _))
      clear hd hK
      go_simp
    refine stepsHold.cons (fun wx hG hd K hK => ?_) ?_
    · have h31 : us 31 = (.agg #[.int .i64 x1, .int .i64 x2, .int .i64 x3]) := deps_get hd 0 rfl rfl rfl rfl rfl
      rw [if_pos (wanted_none rfl)]
      refine wp_value (w2 := wx.alloc (.cells #[.int .i64 x1, .int .i64 x2, .int .i64 x3] 46)) (v := .slice (some ⟨wx.heap.size, 0, none⟩) 1 1) ?_ (hK _ _ ⟨_, rfl, hG.size, alloc_at rfl _⟩ ((Fr.refl _ _).alloc _))
      clear hd hK hG
      go_simp
    exact stepsHold.nil
  case fin =>
    have h28 : us 28 = (.pointer (some ⟨w.heap.size, 0, none⟩)) := all_get hall 0 rfl rfl rfl
    have h29 : us 29 = (.slice A n c) := all_get hall 1 rfl rfl rfl
    have h30 := all_get hall 2 rfl rfl rfl
    have h31 : us 31 = (.agg #[.int .i64 x1, .int .i64 x2, .int .i64 x3]) := all_get hall 3 rfl rfl rfl
    have h32 := all_get hall 4 rfl rfl rfl
    simp only [fillL, Nat.reduceAdd]
    clear hall
    simp only [h28, h29, h31]
    clear h28 h29 h31
    simp only [List.drop_succ_cons, List.drop_zero]
    generalize us 33 = y33
    generalize us 34 = y34
    generalize us 5 = y5
    generalize us 30 = v30 at h30 ⊢
    generalize us 32 = v32 at h32 ⊢
    obtain ⟨q, rfl, hq, hqb⟩ := h32
    have HO := Lib.hid h30
    have HG := Lib.hid hG
    have HSR : Hid (SrAt 3 Wn.cells wz (some ⟨q, 0, none⟩) [⟨x1, x2, x3⟩]) := Lib.hid ⟨fun i k y u hy hu => by
      have hi : i = 0 := by
        have := (List.getElem?_eq_some_iff.1 hy).1
        simp at this
        omega
      subst hi
      have hy' : y = ⟨x1, x2, x3⟩ := by simpa using hy.symm
      subst hy'
      refine ⟨q, 0, rfl, ?_⟩
      rw [cell_of hqb]
      simpa [Wn.cells] using hu⟩
    have HLN : Hid ((Q.length + 1) * 24 ≤ 140737488355328) := Lib.hid (by have := HQN.out; omega)
    have HWZ : Hid (wz.heap[w.heap.size + 1 + 1]? = some (.cells #[.slice none 0 0] 28 (0, 0))) := Lib.hid (hG.keep0 HB23.out)
    have HLT : Hid (w.heap.size + 1 + 1 < W.heap.size) := Lib.hid (lt_of_block HB23.out)
    clear h30 hqb hG hq
    go_wp2_with (at_builtin; refine wpList_append_rowS (f := Wn.cells) rfl (.tmp 30) (.tmp 32) 26 24 (.agg #[.int .i64 0, .int .i64 0, .int .i64 0]) rfl Tryz.underlying26 info_want (by rfl) (by decide) (by decide) Wn.len Wn.one W.heap.size v30 Q [⟨x1, x2, x3⟩] q 0 1 (by rfl) (by rfl) HO.out HSR.out HG.out.size HLN.out ?_; intro v5 w5 hown5 hf5 _; have HW5 := Lib.hid (hf5.keep HWZ.out (fun hk => by have h1 := own_base HO.out _ hk; have h2 := HLT.out; omega)); have q1 : w5.cell? ⟨w.heap.size + 1 + 1, 0, none⟩ = some (.slice none 0 0) := (cell_of HW5.out 0).trans rfl; have q2 : w5.frozen? ⟨w.heap.size + 1 + 1, 0, none⟩ = false := free_of HW5.out 0; obtain ⟨A5, c5, hv5, -⟩ := SrAt.of_own Wn.len hown5; subst hv5; have HOWN5 := Lib.hid hown5; have HF5 := Lib.hid hf5; clear hown5 hf5)
    have hown5 := HOWN5.out
    have hf5 := HF5.out
    have hs5' := SlV.of_own Wn.len hown5
    have HFr : Hid (Fr F0 w w5) := Lib.hid ((HF3.out.then0 HG.out).trans hf5 (fun k hk => .inr (by have h1 := own_base HO.out _ hk; have h2 := HLT.out; omega)))
    have hf6 : Fr (fun k => k = w.heap.size + 1 + 1) w5 (w5.setCell ⟨w.heap.size + 1 + 1, 0, none⟩ (.slice A5 (Q ++ ([⟨x1, x2, x3⟩] : List Wn)).length c5)) := (Fr.refl _ _).setCell (by exact .inl rfl) _
    have HR : Hid ((w5.setCell ⟨w.heap.size + 1 + 1, 0, none⟩ (.slice A5 (Q ++ ([⟨x1, x2, x3⟩] : List Wn)).length c5)).heap[w.heap.size + 1 + 1]? = some (.cells #[.slice A5 (Q ++ ([⟨x1, x2, x3⟩] : List Wn)).length c5] 28 (0, 0))) := Lib.hid (by rw [set_cell HW5.out]; rfl)
    have HS6 := Lib.hid (hs5'.box Wn.len HW5.out (by show 1 < 3; decide) hf6)
    have HF6 := Lib.hid (HFr.out.trans hf6 (fun k hk => .inr (by omega)))
    have hl9 : (Q ++ ([⟨x1, x2, x3⟩] : List Wn)).length = Q.length + 1 := by simp
    rw [hl9] at HR HS6 HF6
    exact queue_ret2 (b := w.heap.size + 1 + 1) (by rfl) (by rfl) (by rfl) rfl HR.out ⟨_, rfl, HS6.out, HF6.out⟩
set_option maxRecDepth 100000 in
set_option maxHeartbeats 4000000 in
theorem victim_c (clk : Int) (h : SlV 3 Wn.cells w v Q) (hq : ∀ x ∈ Q, x.Ok) (hn : Q.length ≤ 64) (hL : SlV 4 Lk.cells w vt L) (hLs : SaneL L) (hX : SlV 4 Tx9.cells w u X) (hXn : X.length ≤ 64) :
    Calls Tryz.prog 11 #[.agg #[v], .agg #[vt], .agg #[u, .int .i64 clk]] w fun e w' => e = .returned (.int .i64 (victimI X L Q)) ∧ Fr F0 w w' := by
  have HLV := Lib.hid hL
  have HXV := Lib.hid hX
  have HQ := Lib.hid h
  have HOK := Lib.hid hq
  have HLS := Lib.hid hLs
  have HXN := Lib.hid hXn
  have HQN := Lib.hid hn
  obtain ⟨A, c, rfl, -⟩ := h.ex
  obtain ⟨At, ct, rfl, -⟩ := hL.ex
  obtain ⟨Ax, cx, rfl, -⟩ := hX.ex
  obtain ⟨n, hnn⟩ : ∃ n, n = Q.length := ⟨_, rfl⟩
  obtain ⟨nt, hnt⟩ : ∃ nt, nt = L.length := ⟨_, rfl⟩
  obtain ⟨nx, hnx⟩ : ∃ nx, nx = X.length := ⟨_, rfl⟩
  rw [← hnn] at HQ
  rw [← hnt] at HLV
  rw [← hnx] at HXV
  rw [← hnn, ← hnt, ← hnx]
  obtain ⟨W, hW⟩ : ∃ W, W = ((w.alloc (.cells #[.slice A n c] 28)).alloc (.cells #[.slice At nt ct] 34)).alloc (.cells #[.slice Ax nx cx, .int .i64 clk] 31) := ⟨_, rfl⟩
  have HF0 : Hid (Fr F0 w W) := Lib.hid (by rw [hW]; exact (((Fr.refl F0 w).alloc _).alloc _).alloc _)
  have HW := Lib.hid hW
  clear h hq hL hLs hX hXn hnn hnt hnx hW hn
  go_enter Tryz.func11, Tryz.ntmps11
  go_wp2_with fail
  rw [← HW.out]
  refine (stuck_c clk (HQ.out.keep0 HF0.out) HOK.out HQN.out (HLV.out.keep0 HF0.out) HLS.out (HXV.out.keep0 HF0.out) HXN.out).mono ?_
  rintro e w1 ⟨v1, rfl, hown, hf1⟩
  have HF1 := Lib.hid (HF0.out.then0 hf1)
  have hlen := stuckTo_len X (edL X L Q) X.length
  have hl64 := HXN.out
  obtain ⟨ls, hls⟩ : ∃ ls, ls = stuckTo X (edL X L Q) X.length := ⟨_, rfl⟩
  have HVI : Hid (victimI X L Q = if ls.length = 0 then -1 else maxI ls) := Lib.hid (by rw [hls]; rfl)
  rw [← hls] at hown hlen
  obtain ⟨A1, c1, rfl, hv1, -⟩ := ValsAt.of_own hown
  have HV1 := Lib.hid hv1
  obtain ⟨m, hm⟩ : ∃ m, m = ls.length := ⟨_, rfl⟩
  have HM := Lib.hid hm
  have hm64 : m ≤ 64 := by omega
  rw [← hm]
  clear hown hv1 hf1 hls hlen hm
  by_cases h0 : m = 0
  · subst h0
    have hvi : victimI X L Q = -1 := by rw [HVI.out, if_pos HM.out.symm]
    go_wp2_with fail
    go_ret
    exact ⟨by rw [hvi]; rfl, HF1.out⟩
  · have hvi : victimI X L Q = maxI ls := by rw [HVI.out, if_neg (by have := HM.out; omega)]
    have h1 : ¬ (m : Int) = 0 := by omega
    have h2 : ((m : Int) == 0) = false := by simp [h0]
    have HVI2 := Lib.hid hvi
    clear h0 hvi
    go_wp2_with fail
    refine (max_c HM.out.symm HV1.out (by omega) (by omega)).mono ?_
    rintro e w2 ⟨rfl, hf2⟩
    have HF2 := Lib.hid (HF1.out.then0 hf2)
    go_wp2_with fail
    go_ret
    exact ⟨by rw [HVI2.out]; rfl, HF2.out⟩
end
end Go.Proofs.YtgbaijfgmeealaaGreat
