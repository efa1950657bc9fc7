/-
  heronry/locks: with. Conditions: none.
-/
import Derived.Test.YtgbaijfgmeealaaGreatK10i
set_option linter.unusedVariables false
set_option linter.unusedSimpArgs false
namespace Go.Proofs.YtgbaijfgmeealaaGreat
open Go.RowKit
def withL (L : List Lk) (l : Lk) : List Lk := if isL L l then L.set (placeL L l) l else insAt L (placeL L l) l
theorem placeL_le (L : List Lk) (y : Lk) : placeL L y ≤ L.length := List.countP_le_length
theorem placeL_lt {L : List Lk} {y : Lk} (h : isL L y = true) : placeL L y < L.length := by
  rcases Nat.lt_or_eq_of_le (placeL_le L y) with h1 | h1
  · exact h1
  · exfalso
    unfold placeL at h1
    rw [List.countP_eq_length] at h1
    unfold isL at h
    rw [List.any_eq_true] at h
    obtain ⟨x, hx, h0⟩ := h
    have := h1 x hx
    simp at this h0
    omega
section
variable {w : World} {v : Value} {L : List Lk}
set_option maxRecDepth 100000 in
set_option maxHeartbeats 2000000 in
theorem with_c (y : Lk) (h : SlV 4 Lk.cells w v L) (hn : L.length ≤ 100000) (hs : L.Pairwise fun x y => ordI x y < 0) :
    Calls Tryz.prog 33 #[.agg #[v], lkV y] w fun e w' => ∃ v', e = .returned (.agg #[v']) ∧ w'.ownsRow w.heap.size 78 4 v' (withL L y).length ((withL L y).flatMap Lk.cells) ∧ Fr F0 w w' := by
  have HL := Lib.hid h
  have HRS := Lib.hid hs
  obtain ⟨A, c, rfl, -⟩ := h.ex
  obtain ⟨y1, y2, y3, y4⟩ := y
  obtain ⟨W, hW⟩ : ∃ W, W = ((w.alloc (.cells #[.slice A L.length c] 34)).alloc (.cells #[.int .i64 y1, .int .i64 y2, .int .i64 y3, .int .i64 y4] 78)).alloc (.cells #[.slice none 0 0] 34) := ⟨_, rfl⟩
  have HF0 : Hid (Fr F0 w W) := Lib.hid (by rw [hW]; exact ((((Fr.refl F0 w).alloc _).alloc _).alloc _))
  have HT : Hid (W.heap[w.heap.size]? = some (.cells #[.slice A L.length c] 34 (0, 0))) := Lib.hid (by rw [hW]; exact keep_alloc (keep_alloc (alloc_at rfl _) _) _)
  have HY : Hid (W.heap[w.heap.size + 1]? = some (.cells #[.int .i64 y1, .int .i64 y2, .int .i64 y3, .int .i64 y4] 78 (0, 0))) := Lib.hid (by rw [hW]; exact keep_alloc (alloc_at (by simp) _) _)
  have HR : Hid (W.heap[w.heap.size + 2]? = some (.cells #[.slice none 0 0] 34 (0, 0))) := Lib.hid (by rw [hW]; exact alloc_at (by simp) _)
  have HSZ : Hid (W.heap.size = w.heap.size + 3) := Lib.hid (by rw [hW]; simp)
  have HW := Lib.hid hW
  clear h hs hW
  go_enter Tryz.func33, Tryz.ntmps33
  go_wp2_with fail
  rw [← HW.out]
  refine (clone_lk (HL.out.keep0 HF0.out) (by omega)).mono ?_
  rintro e w1 ⟨v1, rfl, hown1, hf1⟩
  have HO1 := Lib.hid hown1
  have HF1 := Lib.hid (HF0.out.then0 hf1)
  have HT1 := Lib.hid (hf1.keep0 HT.out)
  have HY1 := Lib.hid (hf1.keep0 HY.out)
  have HR1 := Lib.hid (hf1.keep0 HR.out)
  have kt : w1.cell? ⟨w.heap.size, 0, none⟩ = some (.slice A L.length c) := by rw [cell_of HT1.out]; rfl
  have k1 : w1.cell? ⟨w.heap.size + 1, 0, none⟩ = some (.int .i64 y1) := by rw [cell_of HY1.out]; rfl
  have k2 : w1.cell? ⟨w.heap.size + 1, 1, none⟩ = some (.int .i64 y2) := by rw [cell_of HY1.out]; rfl
  have k3 : w1.cell? ⟨w.heap.size + 1, 2, none⟩ = some (.int .i64 y3) := by rw [cell_of HY1.out]; rfl
  have k4 : w1.cell? ⟨w.heap.size + 1, 3, none⟩ = some (.int .i64 y4) := by rw [cell_of HY1.out]; rfl
  clear hown1 hf1
  go_wp2_with fail
  refine (place_c ⟨y1, y2, y3, y4⟩ (HL.out.keep0 HF1.out) (by omega) HRS.out).mono ?_
  rintro e w2 ⟨rfl, hf2⟩
  have HO2 := Lib.hid (own_keep0 HO1.out hf2)
  have HF2 := Lib.hid (HF1.out.then0 hf2)
  have HY2 := Lib.hid (hf2.keep0 HY1.out)
  have HR2 := Lib.hid (hf2.keep0 HR1.out)
  clear kt k1 k2 k3 k4 hf2
  have k1 : w2.cell? ⟨w.heap.size + 1, 0, none⟩ = some (.int .i64 y1) := by rw [cell_of HY2.out]; rfl
  have k2 : w2.cell? ⟨w.heap.size + 1, 1, none⟩ = some (.int .i64 y2) := by rw [cell_of HY2.out]; rfl
  have k3 : w2.cell? ⟨w.heap.size + 1, 2, none⟩ = some (.int .i64 y3) := by rw [cell_of HY2.out]; rfl
  have k4 : w2.cell? ⟨w.heap.size + 1, 3, none⟩ = some (.int .i64 y4) := by rw [cell_of HY2.out]; rfl
  obtain ⟨p, hp⟩ : ∃ p, p = placeL L ⟨y1, y2, y3, y4⟩ := ⟨_, rfl⟩
  obtain ⟨bq, hbq⟩ : ∃ bq, bq = isL L ⟨y1, y2, y3, y4⟩ := ⟨_, rfl⟩
  rw [← hp, ← hbq]
  have HP := Lib.hid hp
  have HBQ := Lib.hid hbq
  have p0 : (0 : Int) ≤ (p : Int) := Int.natCast_nonneg _
  clear hp hbq
  cases bq with
  | true =>
    have hwl : withL L ⟨y1, y2, y3, y4⟩ = L.set p ⟨y1, y2, y3, y4⟩ := by unfold withL; rw [← HBQ.out, ← HP.out]; simp
    have hpl : p < L.length := by rw [HP.out]; exact placeL_lt HBQ.out.symm
    have HWL := Lib.hid hwl
    have h7 := HO2.out
    rcases h7.2 with ⟨rfl, h0⟩ | ⟨g, cap, cur0, rfl, hb, -⟩
    · exfalso; omega
    obtain ⟨cur, hcur, hfit, hown4⟩ := own_set Lk.len h7 rfl hpl ⟨y1, y2, y3, y4⟩
    have p1 : (p : Int) < (L.length : Int) := by omega
    have HCUR := Lib.hid hcur
    have HFIT := Lib.hid hfit
    have HO4 := Lib.hid hown4
    have hgb : w.heap.size + 3 ≤ g := by rw [← HSZ.out]; exact hb
    have HF4 : Hid (Fr F0 w (w2.setRow g (splat cur (p * 4) (Lk.cells ⟨y1, y2, y3, y4⟩)).toArray)) := Lib.hid (HF2.out.setRow (.inr (by omega)) _)
    have hR4 : (w2.setRow g (splat cur (p * 4) (Lk.cells ⟨y1, y2, y3, y4⟩)).toArray).heap[w.heap.size + 2]? = some (.cells #[.slice none 0 0] 34 (0, 0)) := ((Fr.refl (fun k => k = g) w2).setRow (by exact .inl rfl) _).keep HR2.out (by omega)
    have HR4 := Lib.hid hR4
    clear h7 hb hcur hfit hown4 hR4 hwl
    have q1 : (w2.setRow g (splat cur (p * 4) (Lk.cells ⟨y1, y2, y3, y4⟩)).toArray).cell? ⟨w.heap.size + 1 + 1, 0, none⟩ = some (.slice none 0 0) := by rw [cell_of HR4.out]; rfl
    have q2 : (w2.setRow g (splat cur (p * 4) (Lk.cells ⟨y1, y2, y3, y4⟩)).toArray).frozen? ⟨w.heap.size + 1 + 1, 0, none⟩ = false := free_of HR4.out 0
    go_wp2_with (refine wpList_store_at rfl 78 (.tmp 21) (.tmp 20) rfl g (p * 4) (Lk.cells ⟨y1, y2, y3, y4⟩) (by rfl) (by rfl) 78 cur HCUR.out size_lock HFIT.out (Lk.one _) ?_)
    have hl : (L.set p ⟨y1, y2, y3, y4⟩).length = L.length := List.length_set
    refine tab_ret (b := w.heap.size + 2) (v := .slice (some ⟨g, 0, none⟩) L.length cap) rfl (by rfl) rfl (by rw [set_cell HR4.out]; rfl) ⟨_, rfl, ?_, HF4.out.setCell (.inr (by show w.heap.size ≤ w.heap.size + 1 + 1; omega)) _⟩
    rw [HWL.out, hl]
    exact own_lower (own_keep HO4.out ((Fr.refl (fun k => k = w.heap.size + 1 + 1) _).setCell (by exact .inl rfl) _) (fun k hk e => by cases hk; have e' : g = w.heap.size + 1 + 1 := e; omega)) (by rw [HSZ.out]; omega)
  | false =>
    have hwl : withL L ⟨y1, y2, y3, y4⟩ = insAt L p ⟨y1, y2, y3, y4⟩ := by unfold withL; rw [← HBQ.out, ← HP.out]; simp
    have HWL := Lib.hid hwl
    have hpl : p ≤ L.length := by rw [HP.out]; exact placeL_le _ _
    obtain ⟨W3, hW3⟩ : ∃ W3, W3 = w2.alloc (.cells #[.int .i64 y1, .int .i64 y2, .int .i64 y3, .int .i64 y4] 78) := ⟨_, rfl⟩
    have HW3 := Lib.hid hW3
    have hf3 : Fr F0 w2 W3 := by rw [hW3]; exact (Fr.refl _ _).alloc _
    have HO3 := Lib.hid (own_keep0 HO2.out hf3)
    have HF3 := Lib.hid (HF2.out.then0 hf3)
    have HR3 := Lib.hid (hf3.keep0 HR2.out)
    have HB3 : Hid (W3.heap[w2.heap.size]? = some (.cells (Lk.cells ⟨y1, y2, y3, y4⟩).toArray 78 (0, 0))) := Lib.hid (by rw [hW3]; exact alloc_at rfl _)
    have hne : v1.ownBlock ≠ some w2.heap.size := fun e => by
      obtain ⟨cc, hcc⟩ := own_cells HO2.out _ e
      have := lt_of_block hcc
      omega
    have hsz3 : W.heap.size ≤ W3.heap.size := by
      have h1 := HSZ.out
      have h2 := lt_of_block HR3.out
      omega
    have HNE := Lib.hid hne
    clear hW3 hf3 hwl hne
    go_wp2_with fail
    rw [← HW3.out]
    refine (insert_c ⟨y1, y2, y3, y4⟩ p HO3.out hsz3 hn hpl HNE.out HB3.out).mono ?_
    rintro e w4 ⟨v4, rfl, hown4, hf4⟩
    have hown4' : w4.ownsRow W.heap.size 78 4 v4 (withL L ⟨y1, y2, y3, y4⟩).length ((withL L ⟨y1, y2, y3, y4⟩).flatMap Lk.cells) := by rw [HWL.out]; exact hown4
    obtain ⟨n4, hn4⟩ : ∃ n4, n4 = (withL L ⟨y1, y2, y3, y4⟩).length := ⟨_, rfl⟩
    have HN4 := Lib.hid hn4
    have HO4 := Lib.hid hown4'
    have HR4 : Hid (w4.heap[w.heap.size + 2]? = some (.cells #[.slice none 0 0] 34 (0, 0))) := Lib.hid (hf4.keep HR3.out (fun hk => by have := own_ge HO3.out hk; rw [HSZ.out] at this; omega))
    have HF4 : Hid (Fr F0 w w4) := Lib.hid (HF3.out.trans hf4 (fun k hk => .inr (by have := own_ge HO3.out hk; rw [HSZ.out] at this; omega)))
    obtain ⟨A4, c4, rfl, -⟩ := SrAt.of_own Lk.len hown4'
    rw [← hn4]
    clear hown4 hown4' hf4 hn4
    have q1 : w4.cell? ⟨w.heap.size + 1 + 1, 0, none⟩ = some (.slice none 0 0) := by rw [cell_of HR4.out]; rfl
    have q2 : w4.frozen? ⟨w.heap.size + 1 + 1, 0, none⟩ = false := free_of HR4.out 0
    go_wp2_with fail
    refine tab_ret (b := w.heap.size + 2) (v := .slice A4 n4 c4) rfl (by rfl) rfl (by rw [set_cell HR4.out]; rfl) ⟨_, rfl, ?_, HF4.out.setCell (.inr (by show w.heap.size ≤ w.heap.size + 1 + 1; omega)) _⟩
    have h8 := own_keep HO4.out ((Fr.refl (fun k => k = w.heap.size + 1 + 1) _).setCell (p := ⟨w.heap.size + 1 + 1, 0, none⟩) (by exact .inl rfl) (.slice A4 n4 c4)) (fun k hk e => by have := own_ge HO4.out hk; rw [HSZ.out] at this; omega)
    rw [HN4.out] at h8 ⊢
    exact own_lower h8 (by rw [HSZ.out]; omega)
end
end Go.Proofs.YtgbaijfgmeealaaGreat
