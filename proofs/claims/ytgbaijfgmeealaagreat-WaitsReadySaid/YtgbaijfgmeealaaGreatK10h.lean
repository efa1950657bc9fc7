/-
  heronry/locks: place. Conditions: none.
-/
import Derived.Test.YtgbaijfgmeealaaGreatK10g
set_option linter.unusedVariables false
set_option linter.unusedSimpArgs false
namespace Go.Proofs.YtgbaijfgmeealaaGreat
open Go.RowKit
/-- Where a lock is, or would be. -/
def placeL (L : List Lk) (y : Lk) : Nat := L.countP fun x => decide (ordI x y < 0)
def isL (L : List Lk) (y : Lk) : Bool := L.any fun x => decide (ordI x y = 0)
theorem ordI_lt {x y : Lk} : ordI x y < 0 ↔ x.block < y.block ∨ (x.block = y.block ∧ x.tx < y.tx) := by
  unfold ordI cmpI
  by_cases h1 : x.block < y.block
  · simp [h1]
  · by_cases h2 : y.block < x.block
    · simp [h1, h2]; omega
    · have h3 : x.block = y.block := by omega
      by_cases h4 : x.tx < y.tx
      · simp [h3, h4]
      · by_cases h5 : y.tx < x.tx
        · simp [h3, h4, h5]
        · simp [h3, h4, h5]
theorem ordI_eq {x y : Lk} : ordI x y = 0 ↔ x.block = y.block ∧ x.tx = y.tx := by
  unfold ordI cmpI
  by_cases h1 : x.block < y.block
  · simp [h1]; omega
  · by_cases h2 : y.block < x.block
    · simp [h1, h2]; omega
    · have h3 : x.block = y.block := by omega
      by_cases h4 : x.tx < y.tx
      · simp [h3, h4]; omega
      · by_cases h5 : y.tx < x.tx
        · simp [h3, h4, h5]; omega
        · simp [h3, h4, h5]; omega
theorem ordI_trans {x y z : Lk} (h1 : ordI x y < 0) (h2 : ordI y z < 0) : ordI x z < 0 := by
  rw [ordI_lt] at *
  omega
theorem rise_at {L : List Lk} (h : L.Pairwise fun x y => ordI x y < 0) {i j : Nat} {x y : Lk} (hij : i < j) (hx : L[i]? = some x) (hy : L[j]? = some y) : ordI x y < 0 := by
  obtain ⟨hi, rfl⟩ := List.getElem?_eq_some_iff.1 hx
  obtain ⟨hj, rfl⟩ := List.getElem?_eq_some_iff.1 hy
  exact List.pairwise_iff_getElem.1 h i j hi hj hij
theorem countP_at {α : Type} {p : α → Bool} {L : List α} {k : Nat} (hk : k ≤ L.length) (h1 : ∀ i x, i < k → L[i]? = some x → p x = true) (h2 : ∀ i x, k ≤ i → L[i]? = some x → p x = false) : L.countP p = k := by
  rw [← List.take_append_drop k L, List.countP_append]
  have e1 : (L.take k).countP p = k := by
    rw [List.countP_eq_length.2 ?_, List.length_take]
    · omega
    · intro x hx
      obtain ⟨i, hi, rfl⟩ := List.mem_take_iff_getElem.1 hx
      exact h1 i _ (by omega) (List.getElem?_eq_getElem _)
  have e2 : (L.drop k).countP p = 0 := by
    rw [List.countP_eq_zero]
    intro x hx
    obtain ⟨i, hi⟩ := List.mem_iff_getElem?.1 hx
    rw [List.getElem?_drop] at hi
    simp [h2 _ x (by omega) hi]
  omega
section
variable {w : World} {v : Value} {L : List Lk}
set_option maxRecDepth 100000 in
set_option maxHeartbeats 2000000 in
theorem bin_c (y : Lk) (h : SlV 4 Lk.cells w v L) (hn : L.length ≤ 1000000) (hs : L.Pairwise fun x y => ordI x y < 0) :
    Calls Tryz.prog 81 #[v, lkV y, .func (.func 59) #[] #[]] w fun e w' => e = .returned (.tuple #[.int .i64 (placeL L y : Nat), .bool (isL L y)]) ∧ Fr F0 w w' := by
  obtain ⟨A, c, rfl, hsr, -⟩ := h.ex
  have HS := Lib.hid hsr
  have HRS := Lib.hid hs
  obtain ⟨n, hnn⟩ : ∃ n, n = L.length := ⟨_, rfl⟩
  have HN := Lib.hid hnn
  rw [← hnn]
  have hn' : n ≤ 1000000 := by omega
  have n0 : (0 : Int) ≤ (n : Int) := Int.natCast_nonneg _
  obtain ⟨y1, y2, y3, y4⟩ := y
  have HB : Hid ((w.alloc (.cells #[.int .i64 y1, .int .i64 y2, .int .i64 y3, .int .i64 y4] 78)).heap[w.heap.size]? = some (.cells #[.int .i64 y1, .int .i64 y2, .int .i64 y3, .int .i64 y4] 78 (0, 0))) := Lib.hid (alloc_at rfl _)
  have HF0 : Hid (Fr F0 w (w.alloc (.cells #[.int .i64 y1, .int .i64 y2, .int .i64 y3, .int .i64 y4] 78))) := Lib.hid ((Fr.refl F0 w).alloc _)
  clear h hsr hs hnn
  go_enter Tryz.func81, Tryz.ntmps81
  go_wp2_with fail
  go_loopg [9, 10, 11] n (fun kq x9 x10 x11 wr => ∃ lo hi : Nat, lo ≤ hi ∧ hi ≤ n ∧ hi - lo ≤ kq ∧ x9 = .int .i64 (lo : Int) ∧ x10 = .int .i64 (hi : Int) ∧ (∀ k x, k < lo → L[k]? = some x → ordI x ⟨y1, y2, y3, y4⟩ < 0) ∧ (∀ k x, hi ≤ k → L[k]? = some x → 0 ≤ ordI x ⟨y1, y2, y3, y4⟩) ∧ Fr F0 w wr ∧ wr.heap[w.heap.size]? = some (.cells #[.int .i64 y1, .int .i64 y2, .int .i64 y3, .int .i64 y4] 78 (0, 0)))
  case atStart => exact ⟨0, n, by omega, by omega, by omega, rfl, rfl, fun k x h => by omega, fun k x h hx => by have := (List.getElem?_eq_some_iff.1 hx).1; have := HN.out; omega, HF0.out, HB.out⟩
  case round =>
    obtain ⟨lo, hi, hlh, hhn, hkq, rfl, rfl, hlow, hhigh, hf, hb⟩ := hrel
    have HLO := Lib.hid hlow
    have HHI := Lib.hid hhigh
    have HF := Lib.hid hf
    have HBR := Lib.hid hb
    clear hlow hhigh hf hb
    have lo0 : (0 : Int) ≤ (lo : Int) := Int.natCast_nonneg _
    have hi0 : (0 : Int) ≤ (hi : Int) := Int.natCast_nonneg _
    by_cases hlt : lo < hi
    · have hlt1 : (lo : Int) < (hi : Int) := by omega
      have hs2 : (lo : Int) + (hi : Int) ≤ 2000000 := by omega
      go_wp2_with fail
      obtain ⟨q, hq⟩ : ∃ q : Nat, ((lo : Int) + (hi : Int)) / 2 = (q : Int) := ⟨(lo + hi) / 2, by omega⟩
      rw [hq]
      have hq1 : lo ≤ q := by omega
      have hq2 : q < hi := by omega
      have HQN : Hid ((q : Int) < (n : Int)) := Lib.hid (by omega)
      clear hq
      have hql : q < L.length := by have := HN.out; omega
      obtain ⟨b, off, hA, hc⟩ := (HS.out.keep0 HF.out).get (List.getElem?_eq_getElem hql) (Lk.pos _)
      subst hA
      have hlq := List.getElem?_eq_getElem hql
      obtain ⟨x, hx⟩ : ∃ x, x = L[q] := ⟨_, rfl⟩
      rw [← hx] at hc hlq
      clear hx
      have HLQ := Lib.hid hlq
      obtain ⟨x1, x2, x3, x4⟩ := x
      have HPC : Hid (∀ wx, Fr F0 wr wx → wx.cell? ⟨b, off + q * 4, none⟩ = some (.int .i64 x1) ∧ wx.cell? ⟨b, off + q * 4 + 1, none⟩ = some (.int .i64 x2) ∧ wx.cell? ⟨b, off + q * 4 + 2, none⟩ = some (.int .i64 x3) ∧ wx.cell? ⟨b, off + q * 4 + 3, none⟩ = some (.int .i64 x4)) := Lib.hid (fun wx hx => by
        have hk : ∀ k v, (Lk.cells ⟨x1, x2, x3, x4⟩)[k]? = some v → wx.cell? ⟨b, off + q * 4 + k, none⟩ = some v := fun k v hv => by
          have h5 := hc k v hv
          exact (World.cell?_of_block (w := wr) (hx.block _ (World.block_lt_of_cell? wr _ h5) (fun h => h))).trans h5
        exact ⟨hk 0 _ rfl, hk 1 _ rfl, hk 2 _ rfl, hk 3 _ rfl⟩)
      obtain ⟨od, hod⟩ : ∃ od, od = ordI ⟨x1, x2, x3, x4⟩ ⟨y1, y2, y3, y4⟩ := ⟨_, rfl⟩
      have HOR : Hid (ordI ⟨x1, x2, x3, x4⟩ ⟨y1, y2, y3, y4⟩ = od) := Lib.hid hod.symm
      clear hc hlq hod
      by_cases h0 : od < 0
      · have HOD : Hid (od < 0) := Lib.hid h0
        clear h0
        refine wp_region_free (S := F0) [false, false, false, false, false, false, false, false, false, false, false, false, false, false, false, false, false, false, false, false, false, false, false, false, true, true, true, true, true, true, true, true, false, false, false, false, false, false, false, false, false, false, false, false, false, false, false, false, false] [.eq (.func (.func 59) #[] #[]), .eq (.slice (some ⟨b, off, none⟩) n c), .eq (.int .i64 ((q : Nat) : Int)), .eq (.pointer (some ⟨b, off + q * 4, none⟩)), .eq (.agg #[.int .i64 x1, .int .i64 x2, .int .i64 x3, .int .i64 x4]), .eq (.agg #[.int .i64 y1, .int .i64 y2, .int .i64 y3, .int .i64 y4]), .eq (.int .i64 od), .eq (.bool true)] (by kernel_rfl) (by kernel_rfl) (by rfl) (fun us => ?steps) (fun us wr hG hall => ?fin)
        case steps =>
          simp only [fillL, Nat.reduceAdd]
          refine stepsHold.cons (fun wx hG hd K hK => ?_) ?_
          · rw [if_pos (wanted_none rfl)]
            refine wp_value (w2 := wx) (v := .func (.func 59) #[] #[]) ?_ (hK _ _ rfl (Fr.refl _ _))
            clear hd hG hK
            go_simp
          refine stepsHold.cons (fun wx hG hd K hK => ?_) ?_
          · rw [if_pos (wanted_none rfl)]
            refine wp_value (w2 := wx) (v := .slice (some ⟨b, off, none⟩) n c) ?_ (hK _ _ rfl (Fr.refl _ _))
            clear hd hG hK
            go_simp
          refine stepsHold.cons (fun wx hG hd K hK => ?_) ?_
          · rw [if_pos (wanted_none rfl)]
            refine wp_value (w2 := wx) (v := .int .i64 ((q : Nat) : Int)) ?_ (hK _ _ rfl (Fr.refl _ _))
            clear hd hG hK
            go_simp
          refine stepsHold.cons (fun wx hG hd K hK => ?_) ?_
          · have h25 : us 25 = (.slice (some ⟨b, off, none⟩) n c) := deps_get hd 0 rfl rfl rfl rfl rfl
            have h26 : us 26 = (.int .i64 ((q : Nat) : Int)) := deps_get hd 1 rfl rfl rfl rfl rfl
            rw [if_pos (wanted_none rfl)]
            have hp0 : (0 : Int) ≤ (q : Int) := Int.natCast_nonneg _
            have hp1 : (q : Int) < (n : Int) := HQN.out
            refine wp_value (w2 := wx) (v := .pointer (some ⟨b, off + q * 4, none⟩)) ?_ (hK _ _ rfl (Fr.refl _ _))
            clear hd hG hK
            go_simp
          refine stepsHold.cons (fun wx hG hd K hK => ?_) ?_
          · have h27 : us 27 = (.pointer (some ⟨b, off + q * 4, none⟩)) := deps_get hd 0 rfl rfl rfl rfl rfl
            rw [if_pos (wanted_none rfl)]
            obtain ⟨y0, yy1, yy2, yy3⟩ := HPC.out wx hG
            refine wp_value (w2 := wx) (v := .agg #[.int .i64 x1, .int .i64 x2, .int .i64 x3, .int .i64 x4]) ?_ (hK _ _ rfl (Fr.refl _ _))
            clear hd hK
            go_simp
          refine stepsHold.cons (fun wx hG hd K hK => ?_) ?_
          · rw [if_pos (wanted_none rfl)]
            have k0 : wx.cell? ⟨w.heap.size, 0, none⟩ = some (.int .i64 y1) := by rw [cell_of (hG.keep0 HBR.out)]; rfl
            have k1 : wx.cell? ⟨w.heap.size, 1, none⟩ = some (.int .i64 y2) := by rw [cell_of (hG.keep0 HBR.out)]; rfl
            have k2 : wx.cell? ⟨w.heap.size, 2, none⟩ = some (.int .i64 y3) := by rw [cell_of (hG.keep0 HBR.out)]; rfl
            have k3 : wx.cell? ⟨w.heap.size, 3, none⟩ = some (.int .i64 y4) := by rw [cell_of (hG.keep0 HBR.out)]; rfl
            refine wp_value (w2 := wx) (v := .agg #[.int .i64 y1, .int .i64 y2, .int .i64 y3, .int .i64 y4]) ?_ (hK _ _ rfl (Fr.refl _ _))
            clear hd hK
            go_simp
          refine stepsHold.cons (fun wx hG hd K hK => ?_) ?_
          · have h24 : us 24 = (.func (.func 59) #[] #[]) := deps_get hd 0 rfl rfl rfl rfl rfl
            have h28 : us 28 = (.agg #[.int .i64 x1, .int .i64 x2, .int .i64 x3, .int .i64 x4]) := deps_get hd 1 rfl rfl rfl rfl rfl
            have h29 : us 29 = (.agg #[.int .i64 y1, .int .i64 y2, .int .i64 y3, .int .i64 y4]) := deps_get hd 2 rfl rfl rfl rfl rfl
            rw [if_pos (wanted_none rfl)]
            refine wp_call (w2 := wx) (f := 59) (args := #[.agg #[.int .i64 x1, .int .i64 x2, .int .i64 x3, .int .i64 x4], .agg #[.int .i64 y1, .int .i64 y2, .int .i64 y3, .int .i64 y4]]) ?_ ?_
            · clear hd hK
              go_simp
            · refine ((order_c (w := wx) ⟨x1, x2, x3, x4⟩ ⟨y1, y2, y3, y4⟩)).mono ?_
              rintro e w9 ⟨rfl, hf⟩
              rw [HOR.out]
              exact ⟨_, rfl, hK _ _ rfl hf⟩
          refine stepsHold.cons (fun wx hG hd K hK => ?_) ?_
          · have h30 : us 30 = (.int .i64 od) := deps_get hd 0 rfl rfl rfl rfl rfl
            rw [if_pos (wanted_none rfl)]
            have ho := HOD.out
            refine wp_value (w2 := wx) (v := .bool true) ?_ (hK _ _ rfl (Fr.refl _ _))
            clear hd hG hK
            go_simp
          exact stepsHold.nil
        case fin =>
          have h24 : us 24 = (.func (.func 59) #[] #[]) := all_get hall 0 rfl rfl rfl
          have h25 : us 25 = (.slice (some ⟨b, off, none⟩) n c) := all_get hall 1 rfl rfl rfl
          have h26 : us 26 = (.int .i64 ((q : Nat) : Int)) := all_get hall 2 rfl rfl rfl
          have h27 : us 27 = (.pointer (some ⟨b, off + q * 4, none⟩)) := all_get hall 3 rfl rfl rfl
          have h28 : us 28 = (.agg #[.int .i64 x1, .int .i64 x2, .int .i64 x3, .int .i64 x4]) := all_get hall 4 rfl rfl rfl
          have h29 : us 29 = (.agg #[.int .i64 y1, .int .i64 y2, .int .i64 y3, .int .i64 y4]) := all_get hall 5 rfl rfl rfl
          have h30 : us 30 = (.int .i64 od) := all_get hall 6 rfl rfl rfl
          have h31 : us 31 = (.bool true) := all_get hall 7 rfl rfl rfl
          simp only [fillL, Nat.reduceAdd]
          clear hall
          simp only [h24, h25, h26, h27, h28, h29, h30, h31]
          clear h24 h25 h26 h27 h28 h29 h30 h31
          go_wp2_with fail
          go_roundg (hi - (q + 1))
          case measure => omega
          case rel =>
            refine ⟨q + 1, hi, by omega, hhn, Nat.le_refl _, by first | rfl | (go_num), rfl, fun k z hk hz => ?_, HHI.out, HF.out.then0 hG, hG.keep0 HBR.out⟩
            by_cases hkl : k < lo
            · exact HLO.out k z hkl hz
            · by_cases hkq : k = q
              · subst hkq
                rw [HLQ.out] at hz
                cases hz
                rw [HOR.out]
                exact HOD.out
              · exact ordI_trans (rise_at HRS.out (by omega : k < q) hz HLQ.out) (by rw [HOR.out]; exact HOD.out)
      · have HOD : Hid (¬ od < 0) := Lib.hid h0
        clear h0
        refine wp_region_free (S := F0) [false, false, false, false, false, false, false, false, false, false, false, false, false, false, false, false, false, false, false, false, false, false, false, false, true, true, true, true, true, true, true, true, false, false, false, false, false, false, false, false, false, false, false, false, false, false, false, false, false] [.eq (.func (.func 59) #[] #[]), .eq (.slice (some ⟨b, off, none⟩) n c), .eq (.int .i64 ((q : Nat) : Int)), .eq (.pointer (some ⟨b, off + q * 4, none⟩)), .eq (.agg #[.int .i64 x1, .int .i64 x2, .int .i64 x3, .int .i64 x4]), .eq (.agg #[.int .i64 y1, .int .i64 y2, .int .i64 y3, .int .i64 y4]), .eq (.int .i64 od), .eq (.bool false)] (by kernel_rfl) (by kernel_rfl) (by rfl) (fun us => ?steps) (fun us wr hG hall => ?fin)
        case steps =>
          simp only [fillL, Nat.reduceAdd]
          refine stepsHold.cons (fun wx hG hd K hK => ?_) ?_
          · rw [if_pos (wanted_none rfl)]
            refine wp_value (w2 := wx) (v := .func (.func 59) #[] #[]) ?_ (hK _ _ rfl (Fr.refl _ _))
            clear hd hG hK
            go_simp
          refine stepsHold.cons (fun wx hG hd K hK => ?_) ?_
          · rw [if_pos (wanted_none rfl)]
            refine wp_value (w2 := wx) (v := .slice (some ⟨b, off, none⟩) n c) ?_ (hK _ _ rfl (Fr.refl _ _))
            clear hd hG hK
            go_simp
          refine stepsHold.cons (fun wx hG hd K hK => ?_) ?_
          · rw [if_pos (wanted_none rfl)]
            refine wp_value (w2 := wx) (v := .int .i64 ((q : Nat) : Int)) ?_ (hK _ _ rfl (Fr.refl _ _))
            clear hd hG hK
            go_simp
          refine stepsHold.cons (fun wx hG hd K hK => ?_) ?_
          · have h25 : us 25 = (.slice (some ⟨b, off, none⟩) n c) := deps_get hd 0 rfl rfl rfl rfl rfl
            have h26 : us 26 = (.int .i64 ((q : Nat) : Int)) := deps_get hd 1 rfl rfl rfl rfl rfl
            rw [if_pos (wanted_none rfl)]
            have hp0 : (0 : Int) ≤ (q : Int) := Int.natCast_nonneg _
            have hp1 : (q : Int) < (n : Int) := HQN.out
            refine wp_value (w2 := wx) (v := .pointer (some ⟨b, off + q * 4, none⟩)) ?_ (hK _ _ rfl (Fr.refl _ _))
            clear hd hG hK
            go_simp
          refine stepsHold.cons (fun wx hG hd K hK => ?_) ?_
          · have h27 : us 27 = (.pointer (some ⟨b, off + q * 4, none⟩)) := deps_get hd 0 rfl rfl rfl rfl rfl
            rw [if_pos (wanted_none rfl)]
            obtain ⟨y0, yy1, yy2, yy3⟩ := HPC.out wx hG
            refine wp_value (w2 := wx) (v := .agg #[.int .i64 x1, .int .i64 x2, .int .i64 x3, .int .i64 x4]) ?_ (hK _ _ rfl (Fr.refl _ _))
            clear hd hK
            go_simp
          refine stepsHold.cons (fun wx hG hd K hK => ?_) ?_
          · rw [if_pos (wanted_none rfl)]
            have k0 : wx.cell? ⟨w.heap.size, 0, none⟩ = some (.int .i64 y1) := by rw [cell_of (hG.keep0 HBR.out)]; rfl
            have k1 : wx.cell? ⟨w.heap.size, 1, none⟩ = some (.int .i64 y2) := by rw [cell_of (hG.keep0 HBR.out)]; rfl
            have k2 : wx.cell? ⟨w.heap.size, 2, none⟩ = some (.int .i64 y3) := by rw [cell_of (hG.keep0 HBR.out)]; rfl
            have k3 : wx.cell? ⟨w.heap.size, 3, none⟩ = some (.int .i64 y4) := by rw [cell_of (hG.keep0 HBR.out)]; rfl
            refine wp_value (w2 := wx) (v := .agg #[.int .i64 y1, .int .i64 y2, .int .i64 y3, .int .i64 y4]) ?_ (hK _ _ rfl (Fr.refl _ _))
            clear hd hK
            go_simp
          refine stepsHold.cons (fun wx hG hd K hK => ?_) ?_
          · have h24 : us 24 = (.func (.func 59) #[] #[]) := deps_get hd 0 rfl rfl rfl rfl rfl
            have h28 : us 28 = (.agg #[.int .i64 x1, .int .i64 x2, .int .i64 x3, .int .i64 x4]) := deps_get hd 1 rfl rfl rfl rfl rfl
            have h29 : us 29 = (.agg #[.int .i64 y1, .int .i64 y2, .int .i64 y3, .int .i64 y4]) := deps_get hd 2 rfl rfl rfl rfl rfl
            rw [if_pos (wanted_none rfl)]
            refine wp_call (w2 := wx) (f := 59) (args := #[.agg #[.int .i64 x1, .int .i64 x2, .int .i64 x3, .int .i64 x4], .agg #[.int .i64 y1, .int .i64 y2, .int .i64 y3, .int .i64 y4]]) ?_ ?_
            · clear hd hK
              go_simp
            · refine ((order_c (w := wx) ⟨x1, x2, x3, x4⟩ ⟨y1, y2, y3, y4⟩)).mono ?_
              rintro e w9 ⟨rfl, hf⟩
              rw [HOR.out]
              exact ⟨_, rfl, hK _ _ rfl hf⟩
          refine stepsHold.cons (fun wx hG hd K hK => ?_) ?_
          · have h30 : us 30 = (.int .i64 od) := deps_get hd 0 rfl rfl rfl rfl rfl
            rw [if_pos (wanted_none rfl)]
            have ho := HOD.out
            refine wp_value (w2 := wx) (v := .bool false) ?_ (hK _ _ rfl (Fr.refl _ _))
            clear hd hG hK
            go_simp
          exact stepsHold.nil
        case fin =>
          have h24 : us 24 = (.func (.func 59) #[] #[]) := all_get hall 0 rfl rfl rfl
          have h25 : us 25 = (.slice (some ⟨b, off, none⟩) n c) := all_get hall 1 rfl rfl rfl
          have h26 : us 26 = (.int .i64 ((q : Nat) : Int)) := all_get hall 2 rfl rfl rfl
          have h27 : us 27 = (.pointer (some ⟨b, off + q * 4, none⟩)) := all_get hall 3 rfl rfl rfl
          have h28 : us 28 = (.agg #[.int .i64 x1, .int .i64 x2, .int .i64 x3, .int .i64 x4]) := all_get hall 4 rfl rfl rfl
          have h29 : us 29 = (.agg #[.int .i64 y1, .int .i64 y2, .int .i64 y3, .int .i64 y4]) := all_get hall 5 rfl rfl rfl
          have h30 : us 30 = (.int .i64 od) := all_get hall 6 rfl rfl rfl
          have h31 : us 31 = (.bool false) := all_get hall 7 rfl rfl rfl
          simp only [fillL, Nat.reduceAdd]
          clear hall
          simp only [h24, h25, h26, h27, h28, h29, h30, h31]
          clear h24 h25 h26 h27 h28 h29 h30 h31
          go_wp2_with fail
          go_roundg (q - lo)
          case measure => omega
          case rel =>
            refine ⟨lo, q, hq1, by omega, Nat.le_refl _, rfl, by first | rfl | (go_num), HLO.out, fun k z hk hz => ?_, HF.out.then0 hG, hG.keep0 HBR.out⟩
            by_cases hkq : k = q
            · subst hkq
              rw [HLQ.out] at hz
              cases hz
              rw [HOR.out]
              have := HOD.out; omega
            · refine Int.not_lt.1 fun hc => ?_
              have h7 := ordI_trans (rise_at HRS.out (by omega : q < k) HLQ.out hz) hc
              have := HOD.out
              rw [HOR.out] at h7
              omega
    · have : lo = hi := by omega
      subst this
      by_cases hln : lo < n
      · have HLN : Hid ((lo : Int) < (n : Int)) := Lib.hid (by omega)
        have hql : lo < L.length := by have := HN.out; omega
        obtain ⟨b, off, hA, hc⟩ := (HS.out.keep0 HF.out).get (List.getElem?_eq_getElem hql) (Lk.pos _)
        subst hA
        have hlq := List.getElem?_eq_getElem hql
        obtain ⟨x, hx⟩ : ∃ x, x = L[lo] := ⟨_, rfl⟩
        rw [← hx] at hc hlq
        clear hx
        have HLQ := Lib.hid hlq
        obtain ⟨x1, x2, x3, x4⟩ := x
        have HPC : Hid (∀ wx, Fr F0 wr wx → wx.cell? ⟨b, off + lo * 4, none⟩ = some (.int .i64 x1) ∧ wx.cell? ⟨b, off + lo * 4 + 1, none⟩ = some (.int .i64 x2) ∧ wx.cell? ⟨b, off + lo * 4 + 2, none⟩ = some (.int .i64 x3) ∧ wx.cell? ⟨b, off + lo * 4 + 3, none⟩ = some (.int .i64 x4)) := Lib.hid (fun wx hx => by
          have hk : ∀ k v, (Lk.cells ⟨x1, x2, x3, x4⟩)[k]? = some v → wx.cell? ⟨b, off + lo * 4 + k, none⟩ = some v := fun k v hv => by
            have h5 := hc k v hv
            exact (World.cell?_of_block (w := wr) (hx.block _ (World.block_lt_of_cell? wr _ h5) (fun h => h))).trans h5
          exact ⟨hk 0 _ rfl, hk 1 _ rfl, hk 2 _ rfl, hk 3 _ rfl⟩)
        obtain ⟨od, hod⟩ : ∃ od, od = ordI ⟨x1, x2, x3, x4⟩ ⟨y1, y2, y3, y4⟩ := ⟨_, rfl⟩
        have HOR : Hid (ordI ⟨x1, x2, x3, x4⟩ ⟨y1, y2, y3, y4⟩ = od) := Lib.hid hod.symm
        obtain ⟨bq, hbq⟩ : ∃ bq, (od == 0) = bq := ⟨_, rfl⟩
        have HBQ := Lib.hid hbq
        clear hc hlq hod hbq
        go_wp2_with fail
        refine wp_region_free (S := F0) [false, false, false, false, false, false, true, true, false, false, false, false, false, false, false, false, false, false, false, false, false, false, false, false, false, false, false, false, false, false, false, false, false, false, false, true, true, true, true, true, true, true, true, true, true, true, true, true, true] [.eq (.int .i64 ((lo : Nat) : Int)), .eq (.int .i64 ((lo : Nat) : Int)), .eq (.int .i64 ((n : Nat) : Int)), .eq (.bool true), .eq (.bool true), .eq (.func (.func 59) #[] #[]), .eq (.slice (some ⟨b, off, none⟩) n c), .eq (.int .i64 ((lo : Nat) : Int)), .eq (.pointer (some ⟨b, off + lo * 4, none⟩)), .eq (.agg #[.int .i64 x1, .int .i64 x2, .int .i64 x3, .int .i64 x4]), .eq (.agg #[.int .i64 y1, .int .i64 y2, .int .i64 y3, .int .i64 y4]), .eq (.int .i64 od), .eq (.bool bq), .eq (.bool bq), .eq (.int .i64 ((lo : Nat) : Int)), .eq (.bool bq)] (by kernel_rfl) (by kernel_rfl) (by rfl) (fun us => ?steps) (fun us wr hG hall => ?fin)
        case steps =>
          simp only [fillL, Nat.reduceAdd]
          refine stepsHold.cons (fun wx hG hd K hK => ?_) ?_
          · rw [if_pos (wanted_none rfl)]
            refine wp_value (w2 := wx) (v := .int .i64 ((lo : Nat) : Int)) ?_ (hK _ _ rfl (Fr.refl _ _))
            clear hd hG hK
            go_simp
          refine stepsHold.cons (fun wx hG hd K hK => ?_) ?_
          · rw [if_pos (wanted_none rfl)]
            refine wp_value (w2 := wx) (v := .int .i64 ((lo : Nat) : Int)) ?_ (hK _ _ rfl (Fr.refl _ _))
            clear hd hG hK
            go_simp
          refine stepsHold.cons (fun wx hG hd K hK => ?_) ?_
          · rw [if_pos (wanted_none rfl)]
            refine wp_value (w2 := wx) (v := .int .i64 ((n : Nat) : Int)) ?_ (hK _ _ rfl (Fr.refl _ _))
            clear hd hG hK
            go_simp
          refine stepsHold.cons (fun wx hG hd K hK => ?_) ?_
          · have h36 : us 36 = (.int .i64 ((lo : Nat) : Int)) := deps_get hd 0 rfl rfl rfl rfl rfl
            have h37 : us 37 = (.int .i64 ((n : Nat) : Int)) := deps_get hd 1 rfl rfl rfl rfl rfl
            rw [if_pos (wanted_none rfl)]
            have ho := HLN.out
            refine wp_value (w2 := wx) (v := .bool true) ?_ (hK _ _ rfl (Fr.refl _ _))
            clear hd hG hK
            go_simp
          refine stepsHold.cons (fun wx hG hd K hK => ?_) ?_
          · have h38 : us 38 = (.bool true) := deps_get hd 0 rfl rfl rfl rfl rfl
            rw [if_pos (wanted_none rfl)]
            refine wp_value (w2 := wx) (v := .bool true) ?_ (hK _ _ rfl (Fr.refl _ _))
            clear hd hG hK
            go_simp
          refine stepsHold.cons (fun wx hG hd K hK => ?_) ?_
          · have h39 : us 39 = (.bool true) := deps_get hd 0 rfl rfl rfl rfl rfl
            rw [if_pos (wanted_yes rfl rfl rfl rfl h39)]
            refine wp_value (w2 := wx) (v := .func (.func 59) #[] #[]) ?_ (hK _ _ rfl (Fr.refl _ _))
            clear hd hG hK
            go_simp
          refine stepsHold.cons (fun wx hG hd K hK => ?_) ?_
          · have h39 : us 39 = (.bool true) := deps_get hd 0 rfl rfl rfl rfl rfl
            rw [if_pos (wanted_yes rfl rfl rfl rfl h39)]
            refine wp_value (w2 := wx) (v := .slice (some ⟨b, off, none⟩) n c) ?_ (hK _ _ rfl (Fr.refl _ _))
            clear hd hG hK
            go_simp
          refine stepsHold.cons (fun wx hG hd K hK => ?_) ?_
          · have h39 : us 39 = (.bool true) := deps_get hd 0 rfl rfl rfl rfl rfl
            rw [if_pos (wanted_yes rfl rfl rfl rfl h39)]
            refine wp_value (w2 := wx) (v := .int .i64 ((lo : Nat) : Int)) ?_ (hK _ _ rfl (Fr.refl _ _))
            clear hd hG hK
            go_simp
          refine stepsHold.cons (fun wx hG hd K hK => ?_) ?_
          · have h41 : us 41 = (.slice (some ⟨b, off, none⟩) n c) := deps_get hd 0 rfl rfl rfl rfl rfl
            have h42 : us 42 = (.int .i64 ((lo : Nat) : Int)) := deps_get hd 1 rfl rfl rfl rfl rfl
            have h39 : us 39 = (.bool true) := deps_get hd 2 rfl rfl rfl rfl rfl
            rw [if_pos (wanted_yes rfl rfl rfl rfl h39)]
            have hp0 : (0 : Int) ≤ (lo : Int) := Int.natCast_nonneg _
            have hp1 : (lo : Int) < (n : Int) := HLN.out
            refine wp_value (w2 := wx) (v := .pointer (some ⟨b, off + lo * 4, none⟩)) ?_ (hK _ _ rfl (Fr.refl _ _))
            clear hd hG hK
            go_simp
          refine stepsHold.cons (fun wx hG hd K hK => ?_) ?_
          · have h43 : us 43 = (.pointer (some ⟨b, off + lo * 4, none⟩)) := deps_get hd 0 rfl rfl rfl rfl rfl
            have h39 : us 39 = (.bool true) := deps_get hd 1 rfl rfl rfl rfl rfl
            rw [if_pos (wanted_yes rfl rfl rfl rfl h39)]
            obtain ⟨y0, yy1, yy2, yy3⟩ := HPC.out wx hG
            refine wp_value (w2 := wx) (v := .agg #[.int .i64 x1, .int .i64 x2, .int .i64 x3, .int .i64 x4]) ?_ (hK _ _ rfl (Fr.refl _ _))
            clear hd hK
            go_simp
          refine stepsHold.cons (fun wx hG hd K hK => ?_) ?_
          · have h39 : us 39 = (.bool true) := deps_get hd 0 rfl rfl rfl rfl rfl
            rw [if_pos (wanted_yes rfl rfl rfl rfl h39)]
            have k0 : wx.cell? ⟨w.heap.size, 0, none⟩ = some (.int .i64 y1) := by rw [cell_of (hG.keep0 HBR.out)]; rfl
            have k1 : wx.cell? ⟨w.heap.size, 1, none⟩ = some (.int .i64 y2) := by rw [cell_of (hG.keep0 HBR.out)]; rfl
            have k2 : wx.cell? ⟨w.heap.size, 2, none⟩ = some (.int .i64 y3) := by rw [cell_of (hG.keep0 HBR.out)]; rfl
            have k3 : wx.cell? ⟨w.heap.size, 3, none⟩ = some (.int .i64 y4) := by rw [cell_of (hG.keep0 HBR.out)]; rfl
            refine wp_value (w2 := wx) (v := .agg #[.int .i64 y1, .int .i64 y2, .int .i64 y3, .int .i64 y4]) ?_ (hK _ _ rfl (Fr.refl _ _))
            clear hd hK
            go_simp
          refine stepsHold.cons (fun wx hG hd K hK => ?_) ?_
          · have h40 : us 40 = (.func (.func 59) #[] #[]) := deps_get hd 0 rfl rfl rfl rfl rfl
            have h44 : us 44 = (.agg #[.int .i64 x1, .int .i64 x2, .int .i64 x3, .int .i64 x4]) := deps_get hd 1 rfl rfl rfl rfl rfl
            have h45 : us 45 = (.agg #[.int .i64 y1, .int .i64 y2, .int .i64 y3, .int .i64 y4]) := deps_get hd 2 rfl rfl rfl rfl rfl
            have h39 : us 39 = (.bool true) := deps_get hd 3 rfl rfl rfl rfl rfl
            rw [if_pos (wanted_yes rfl rfl rfl rfl h39)]
            refine wp_call (w2 := wx) (f := 59) (args := #[.agg #[.int .i64 x1, .int .i64 x2, .int .i64 x3, .int .i64 x4], .agg #[.int .i64 y1, .int .i64 y2, .int .i64 y3, .int .i64 y4]]) ?_ ?_
            · clear hd hK
              go_simp
            · refine ((order_c (w := wx) ⟨x1, x2, x3, x4⟩ ⟨y1, y2, y3, y4⟩)).mono ?_
              rintro e w9 ⟨rfl, hf⟩
              rw [HOR.out]
              exact ⟨_, rfl, hK _ _ rfl hf⟩
          refine stepsHold.cons (fun wx hG hd K hK => ?_) ?_
          · have h46 : us 46 = (.int .i64 od) := deps_get hd 0 rfl rfl rfl rfl rfl
            have h39 : us 39 = (.bool true) := deps_get hd 1 rfl rfl rfl rfl rfl
            rw [if_pos (wanted_yes rfl rfl rfl rfl h39)]
            have ho := HBQ.out
            refine wp_value (w2 := wx) (v := .bool bq) ?_ (hK _ _ rfl (Fr.refl _ _))
            clear hd hG hK
            go_simp
          refine stepsHold.cons (fun wx hG hd K hK => ?_) ?_
          · have h39 : us 39 = (.bool true) := deps_get hd 0 rfl rfl rfl rfl rfl
            have h47 : us 47 = (.bool bq) := deps_get hd 1 rfl rfl rfl rfl rfl
            rw [if_pos (wanted_none rfl)]
            refine wp_value (w2 := wx) (v := .bool bq) ?_ (hK _ _ rfl (Fr.refl _ _))
            clear hd hG hK
            go_simp
          refine stepsHold.cons (fun wx hG hd K hK => ?_) ?_
          · have h35 : us 35 = (.int .i64 ((lo : Nat) : Int)) := deps_get hd 0 rfl rfl rfl rfl rfl
            rw [if_pos (wanted_none rfl)]
            refine wp_value (w2 := wx) (v := .int .i64 ((lo : Nat) : Int)) ?_ (hK _ _ rfl (Fr.refl _ _))
            clear hd hG hK
            go_simp
          refine stepsHold.cons (fun wx hG hd K hK => ?_) ?_
          · have h48 : us 48 = (.bool bq) := deps_get hd 0 rfl rfl rfl rfl rfl
            rw [if_pos (wanted_none rfl)]
            refine wp_value (w2 := wx) (v := .bool bq) ?_ (hK _ _ rfl (Fr.refl _ _))
            clear hd hG hK
            go_simp
          exact stepsHold.nil
        case fin =>
          have h35 : us 35 = (.int .i64 ((lo : Nat) : Int)) := all_get hall 0 rfl rfl rfl
          have h36 : us 36 = (.int .i64 ((lo : Nat) : Int)) := all_get hall 1 rfl rfl rfl
          have h37 : us 37 = (.int .i64 ((n : Nat) : Int)) := all_get hall 2 rfl rfl rfl
          have h38 : us 38 = (.bool true) := all_get hall 3 rfl rfl rfl
          have h39 : us 39 = (.bool true) := all_get hall 4 rfl rfl rfl
          have h40 : us 40 = (.func (.func 59) #[] #[]) := all_get hall 5 rfl rfl rfl
          have h41 : us 41 = (.slice (some ⟨b, off, none⟩) n c) := all_get hall 6 rfl rfl rfl
          have h42 : us 42 = (.int .i64 ((lo : Nat) : Int)) := all_get hall 7 rfl rfl rfl
          have h43 : us 43 = (.pointer (some ⟨b, off + lo * 4, none⟩)) := all_get hall 8 rfl rfl rfl
          have h44 : us 44 = (.agg #[.int .i64 x1, .int .i64 x2, .int .i64 x3, .int .i64 x4]) := all_get hall 9 rfl rfl rfl
          have h45 : us 45 = (.agg #[.int .i64 y1, .int .i64 y2, .int .i64 y3, .int .i64 y4]) := all_get hall 10 rfl rfl rfl
          have h46 : us 46 = (.int .i64 od) := all_get hall 11 rfl rfl rfl
          have h47 : us 47 = (.bool bq) := all_get hall 12 rfl rfl rfl
          have h48 : us 48 = (.bool bq) := all_get hall 13 rfl rfl rfl
          have h6 : us 6 = (.int .i64 ((lo : Nat) : Int)) := all_get hall 14 rfl rfl rfl
          have h7 : us 7 = (.bool bq) := all_get hall 15 rfl rfl rfl
          simp only [fillL, Nat.reduceAdd]
          clear hall
          simp only [h35, h36, h37, h38, h39, h40, h41, h42, h43, h44, h45, h46, h47, h48, h6, h7]
          clear h35 h36 h37 h38 h39 h40 h41 h42 h43 h44 h45 h46 h47 h48 h6 h7
          go_wp2_with fail
          go_ret2
          refine ⟨?_, HF.out.then0 hG⟩
          have e1 : placeL L ⟨y1, y2, y3, y4⟩ = lo := countP_at (by have := HN.out; omega) (fun i x hi hx => by simpa using HLO.out i x hi hx) (fun i x hi hx => by simpa using HHI.out i x hi hx)
          have e2 : isL L ⟨y1, y2, y3, y4⟩ = bq := by
            unfold isL
            rw [← HBQ.out, Bool.eq_iff_iff, List.any_eq_true]
            constructor
            · rintro ⟨z, hz, hzq⟩
              obtain ⟨k, hk⟩ := List.mem_iff_getElem?.1 hz
              have hz0 : ordI z ⟨y1, y2, y3, y4⟩ = 0 := by simpa using hzq
              by_cases h1 : k < lo
              · have := HLO.out k z h1 hk; omega
              · by_cases h2 : k = lo
                · subst h2
                  rw [HLQ.out] at hk
                  cases hk
                  rw [HOR.out] at hz0
                  simp [hz0]
                · exfalso
                  have h3 := rise_at HRS.out (by omega : lo < k) HLQ.out hk
                  refine Int.not_lt.2 (HHI.out lo _ (Nat.le_refl _) HLQ.out) ?_
                  rw [ordI_eq] at hz0
                  rw [ordI_lt] at h3 ⊢
                  simp only at hz0 h3 ⊢
                  omega
            · intro hq
              exact ⟨_, List.mem_of_getElem? HLQ.out, by rw [HOR.out]; simpa using hq⟩
          rw [e1, e2]
          rfl
      · have HLN : Hid (¬ (lo : Int) < (n : Int)) := Lib.hid (by omega)
        go_wp2_with fail
        refine wp_region_free (S := F0) [false, false, false, false, false, false, true, true, false, false, false, false, false, false, false, false, false, false, false, false, false, false, false, false, false, false, false, false, false, false, false, false, false, false, false, true, true, true, true, true, true, true, true, true, true, true, true, true, true] [.eq (.int .i64 ((lo : Nat) : Int)), .eq (.int .i64 ((lo : Nat) : Int)), .eq (.int .i64 ((n : Nat) : Int)), .eq (.bool false), .eq (.bool false), .eq undef, .eq undef, .eq undef, .eq undef, .eq undef, .eq undef, .eq undef, .eq undef, .eq (.bool false), .eq (.int .i64 ((lo : Nat) : Int)), .eq (.bool false)] (by kernel_rfl) (by kernel_rfl) (by rfl) (fun us => ?steps) (fun us wr hG hall => ?fin)
        case steps =>
          simp only [fillL, Nat.reduceAdd]
          refine stepsHold.cons (fun wx hG hd K hK => ?_) ?_
          · rw [if_pos (wanted_none rfl)]
            refine wp_value (w2 := wx) (v := .int .i64 ((lo : Nat) : Int)) ?_ (hK _ _ rfl (Fr.refl _ _))
            clear hd hG hK
            go_simp
          refine stepsHold.cons (fun wx hG hd K hK => ?_) ?_
          · rw [if_pos (wanted_none rfl)]
            refine wp_value (w2 := wx) (v := .int .i64 ((lo : Nat) : Int)) ?_ (hK _ _ rfl (Fr.refl _ _))
            clear hd hG hK
            go_simp
          refine stepsHold.cons (fun wx hG hd K hK => ?_) ?_
          · rw [if_pos (wanted_none rfl)]
            refine wp_value (w2 := wx) (v := .int .i64 ((n : Nat) : Int)) ?_ (hK _ _ rfl (Fr.refl _ _))
            clear hd hG hK
            go_simp
          refine stepsHold.cons (fun wx hG hd K hK => ?_) ?_
          · have h36 : us 36 = (.int .i64 ((lo : Nat) : Int)) := deps_get hd 0 rfl rfl rfl rfl rfl
            have h37 : us 37 = (.int .i64 ((n : Nat) : Int)) := deps_get hd 1 rfl rfl rfl rfl rfl
            rw [if_pos (wanted_none rfl)]
            have ho := HLN.out
            refine wp_value (w2 := wx) (v := .bool false) ?_ (hK _ _ rfl (Fr.refl _ _))
            clear hd hG hK
            go_simp
          refine stepsHold.cons (fun wx hG hd K hK => ?_) ?_
          · have h38 : us 38 = (.bool false) := deps_get hd 0 rfl rfl rfl rfl rfl
            rw [if_pos (wanted_none rfl)]
            refine wp_value (w2 := wx) (v := .bool false) ?_ (hK _ _ rfl (Fr.refl _ _))
            clear hd hG hK
            go_simp
          refine stepsHold.cons (fun wx hG hd K hK => ?_) ?_
          · have h39 : us 39 = (.bool false) := deps_get hd 0 rfl rfl rfl rfl rfl
            rw [if_neg (wanted_no rfl rfl rfl rfl h39)]
            exact hK _ _ rfl (Fr.refl _ _)
          refine stepsHold.cons (fun wx hG hd K hK => ?_) ?_
          · have h39 : us 39 = (.bool false) := deps_get hd 0 rfl rfl rfl rfl rfl
            rw [if_neg (wanted_no rfl rfl rfl rfl h39)]
            exact hK _ _ rfl (Fr.refl _ _)
          refine stepsHold.cons (fun wx hG hd K hK => ?_) ?_
          · have h39 : us 39 = (.bool false) := deps_get hd 0 rfl rfl rfl rfl rfl
            rw [if_neg (wanted_no rfl rfl rfl rfl h39)]
            exact hK _ _ rfl (Fr.refl _ _)
          refine stepsHold.cons (fun wx hG hd K hK => ?_) ?_
          · have h41 : us 41 = (undef) := deps_get hd 0 rfl rfl rfl rfl rfl
            have h42 : us 42 = (undef) := deps_get hd 1 rfl rfl rfl rfl rfl
            have h39 : us 39 = (.bool false) := deps_get hd 2 rfl rfl rfl rfl rfl
            rw [if_neg (wanted_no rfl rfl rfl rfl h39)]
            exact hK _ _ rfl (Fr.refl _ _)
          refine stepsHold.cons (fun wx hG hd K hK => ?_) ?_
          · have h43 : us 43 = (undef) := deps_get hd 0 rfl rfl rfl rfl rfl
            have h39 : us 39 = (.bool false) := deps_get hd 1 rfl rfl rfl rfl rfl
            rw [if_neg (wanted_no rfl rfl rfl rfl h39)]
            exact hK _ _ rfl (Fr.refl _ _)
          refine stepsHold.cons (fun wx hG hd K hK => ?_) ?_
          · have h39 : us 39 = (.bool false) := deps_get hd 0 rfl rfl rfl rfl rfl
            rw [if_neg (wanted_no rfl rfl rfl rfl h39)]
            exact hK _ _ rfl (Fr.refl _ _)
          refine stepsHold.cons (fun wx hG hd K hK => ?_) ?_
          · have h40 : us 40 = (undef) := deps_get hd 0 rfl rfl rfl rfl rfl
            have h44 : us 44 = (undef) := deps_get hd 1 rfl rfl rfl rfl rfl
            have h45 : us 45 = (undef) := deps_get hd 2 rfl rfl rfl rfl rfl
            have h39 : us 39 = (.bool false) := deps_get hd 3 rfl rfl rfl rfl rfl
            rw [if_neg (wanted_no rfl rfl rfl rfl h39)]
            exact hK _ _ rfl (Fr.refl _ _)
          refine stepsHold.cons (fun wx hG hd K hK => ?_) ?_
          · have h46 : us 46 = (undef) := deps_get hd 0 rfl rfl rfl rfl rfl
            have h39 : us 39 = (.bool false) := deps_get hd 1 rfl rfl rfl rfl rfl
            rw [if_neg (wanted_no rfl rfl rfl rfl h39)]
            exact hK _ _ rfl (Fr.refl _ _)
          refine stepsHold.cons (fun wx hG hd K hK => ?_) ?_
          · have h39 : us 39 = (.bool false) := deps_get hd 0 rfl rfl rfl rfl rfl
            have h47 : us 47 = (undef) := deps_get hd 1 rfl rfl rfl rfl rfl
            rw [if_pos (wanted_none rfl)]
            refine wp_value (w2 := wx) (v := .bool false) ?_ (hK _ _ rfl (Fr.refl _ _))
            clear hd hG hK
            go_simp
          refine stepsHold.cons (fun wx hG hd K hK => ?_) ?_
          · have h35 : us 35 = (.int .i64 ((lo : Nat) : Int)) := deps_get hd 0 rfl rfl rfl rfl rfl
            rw [if_pos (wanted_none rfl)]
            refine wp_value (w2 := wx) (v := .int .i64 ((lo : Nat) : Int)) ?_ (hK _ _ rfl (Fr.refl _ _))
            clear hd hG hK
            go_simp
          refine stepsHold.cons (fun wx hG hd K hK => ?_) ?_
          · have h48 : us 48 = (.bool false) := deps_get hd 0 rfl rfl rfl rfl rfl
            rw [if_pos (wanted_none rfl)]
            refine wp_value (w2 := wx) (v := .bool false) ?_ (hK _ _ rfl (Fr.refl _ _))
            clear hd hG hK
            go_simp
          exact stepsHold.nil
        case fin =>
          have h35 : us 35 = (.int .i64 ((lo : Nat) : Int)) := all_get hall 0 rfl rfl rfl
          have h36 : us 36 = (.int .i64 ((lo : Nat) : Int)) := all_get hall 1 rfl rfl rfl
          have h37 : us 37 = (.int .i64 ((n : Nat) : Int)) := all_get hall 2 rfl rfl rfl
          have h38 : us 38 = (.bool false) := all_get hall 3 rfl rfl rfl
          have h39 : us 39 = (.bool false) := all_get hall 4 rfl rfl rfl
          have h40 : us 40 = (undef) := all_get hall 5 rfl rfl rfl
          have h41 : us 41 = (undef) := all_get hall 6 rfl rfl rfl
          have h42 : us 42 = (undef) := all_get hall 7 rfl rfl rfl
          have h43 : us 43 = (undef) := all_get hall 8 rfl rfl rfl
          have h44 : us 44 = (undef) := all_get hall 9 rfl rfl rfl
          have h45 : us 45 = (undef) := all_get hall 10 rfl rfl rfl
          have h46 : us 46 = (undef) := all_get hall 11 rfl rfl rfl
          have h47 : us 47 = (undef) := all_get hall 12 rfl rfl rfl
          have h48 : us 48 = (.bool false) := all_get hall 13 rfl rfl rfl
          have h6 : us 6 = (.int .i64 ((lo : Nat) : Int)) := all_get hall 14 rfl rfl rfl
          have h7 : us 7 = (.bool false) := all_get hall 15 rfl rfl rfl
          simp only [fillL, Nat.reduceAdd]
          clear hall
          simp only [h35, h36, h37, h38, h39, h40, h41, h42, h43, h44, h45, h46, h47, h48, h6, h7]
          clear h35 h36 h37 h38 h39 h40 h41 h42 h43 h44 h45 h46 h47 h48 h6 h7
          go_wp2_with fail
          go_ret2
          refine ⟨?_, HF.out.then0 hG⟩
          have e1 : placeL L ⟨y1, y2, y3, y4⟩ = lo := countP_at (by have := HN.out; omega) (fun i x hi hx => by simpa using HLO.out i x hi hx) (fun i x hi hx => by simpa using HHI.out i x hi hx)
          have e2 : isL L ⟨y1, y2, y3, y4⟩ = false := by
            unfold isL
            rw [List.any_eq_false]
            intro z hz
            obtain ⟨k, hk⟩ := List.mem_iff_getElem?.1 hz
            have := HLO.out k z (by have h1 := (List.getElem?_eq_some_iff.1 hk).1; have h2 := HN.out; have h3 := HLN.out; omega) hk
            simp
            omega
          rw [e1, e2]
          rfl
set_option maxRecDepth 100000 in
theorem place_c (y : Lk) (h : SlV 4 Lk.cells w v L) (hn : L.length ≤ 1000000) (hs : L.Pairwise fun x y => ordI x y < 0) :
    Calls Tryz.prog 62 #[.agg #[v], lkV y] w fun e w' => e = .returned (.tuple #[.int .i64 (placeL L y : Nat), .bool (isL L y)]) ∧ Fr F0 w w' := by
  have HL := Lib.hid h
  have HRS := Lib.hid hs
  obtain ⟨A, c, rfl, -⟩ := h.ex
  obtain ⟨y1, y2, y3, y4⟩ := y
  obtain ⟨W, hW⟩ : ∃ W, W = (w.alloc (.cells #[.slice A L.length c] 34)).alloc (.cells #[.int .i64 y1, .int .i64 y2, .int .i64 y3, .int .i64 y4] 78) := ⟨_, rfl⟩
  have HF0 : Hid (Fr F0 w W) := Lib.hid (by rw [hW]; exact (((Fr.refl F0 w).alloc _).alloc _))
  have HW := Lib.hid hW
  clear h hs hW
  go_enter Tryz.func62, Tryz.ntmps62
  go_wp2_with fail
  rw [← HW.out]
  refine (bin_c ⟨y1, y2, y3, y4⟩ (HL.out.keep0 HF0.out) hn HRS.out).mono ?_
  rintro e w1 ⟨rfl, hf1⟩
  go_wp2_with fail
  go_ret2
  exact ⟨rfl, HF0.out.then0 hf1⟩
end
end Go.Proofs.YtgbaijfgmeealaaGreat
