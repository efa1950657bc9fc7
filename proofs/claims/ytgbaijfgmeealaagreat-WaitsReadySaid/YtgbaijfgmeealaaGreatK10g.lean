/-
  heronry/locks: Find, Of, Free. Conditions: none.
-/
import Derived.Test.YtgbaijfgmeealaaGreatK10f
import Derived.Test.YtgbaijfgmeealaaGreatK10d
import Derived.Test.YtgbaijfgmeealaaGreatLast
set_option linter.unusedVariables false
set_option linter.unusedSimpArgs false
namespace Go.Proofs.YtgbaijfgmeealaaGreat
open Go.RowKit
def ofL (L : List Lk) (tx : Int) : List Lk := L.filter fun x => !decide (x.tx ≠ tx)
def freeL (L : List Lk) (ls : List Int) : List Lk := L.filter fun x => !(ls.contains x.tx)
def findL (L : List Lk) (tx block : Int) : Lk := match L.findIdx? fun x => decide (ordI x ⟨block, tx, 0, 0⟩ = 0) with
  | some i => L[i]?.getD ⟨block, tx, 0, 0⟩
  | none => ⟨block, tx, 0, 0⟩
theorem own_ge {w : World} {base m n : Nat} {t : TypeId} {v : Value} {xs : List Value} (h : w.ownsRow base t m v n xs) {k : Nat} (hk : v.ownBlock = some k) : base ≤ k := by
  rcases h.2 with ⟨rfl, _⟩ | ⟨g, cap, cur, rfl, hb, _⟩
  · cases hk
  · cases hk; exact hb
theorem size_table : (Tryz.prog.info? 34).map (·.size) = some 1 := by kernel_rfl
theorem tab_ret {fn : Func} {p : Nat} {a : Act} {w : World} {b : Nat} {v : Value} {R : Ending → World → Prop} (hfn : fn.results = #[.cell p 34]) (ha : a.tmps.getD p undef = .pointer (some ⟨b, 0, none⟩)) (hd : a.defers = [])
    (hh : w.heap[b]? = some (.cells #[v] 34 (0, 0))) (hR : R (.returned (.agg #[v])) w) : bodyPost Tryz.prog fn R .ret a w :=
  bodyPost_ret (results_cell_row hfn _ _ b _ _ _ _ ha hh Tryz.underlying34 rfl (by kernel_rfl)) hd hR
theorem lk_ret {fn : Func} {p : Nat} {a : Act} {w : World} {b : Nat} {x : Lk} {R : Ending → World → Prop} (hfn : fn.results = #[.cell p 78]) (ha : a.tmps.getD p undef = .pointer (some ⟨b, 0, none⟩)) (hd : a.defers = [])
    (hh : w.heap[b]? = some (.cells x.cells.toArray 78 (0, 0))) (hR : R (.returned (lkV x)) w) : bodyPost Tryz.prog fn R .ret a w :=
  bodyPost_ret (results_cell_row hfn _ _ b _ _ _ _ ha hh Tryz.underlying78 rfl (by kernel_rfl)) hd hR
section
variable {w : World} {v : Value} {L : List Lk}
set_option maxRecDepth 100000 in
theorem of_c (tx : Int) (h : SlV 4 Lk.cells w v L) (hn : L.length ≤ 1000000) : Calls Tryz.prog 72 #[.agg #[v], .int .i64 tx] w fun e w' => ∃ v', e = .returned v' ∧ w'.ownsRow w.heap.size 78 4 v' (ofL L tx).length ((ofL L tx).flatMap Lk.cells) ∧ Fr F0 w w' := by
  have HL := Lib.hid h
  obtain ⟨A, c, rfl, -⟩ := h.ex
  have HF0 : Hid (Fr F0 w ((w.alloc (.cells #[.slice A L.length c] 34)).alloc (.cells #[.int .i64 tx] 3))) := Lib.hid (((Fr.refl F0 w).alloc _).alloc _)
  have HB : Hid (((w.alloc (.cells #[.slice A L.length c] 34)).alloc (.cells #[.int .i64 tx] 3)).heap[w.heap.size + 1]? = some (.cells #[.int .i64 tx] 3 (0, 0))) := Lib.hid (alloc_at (by simp) _)
  have HSZ : Hid (((w.alloc (.cells #[.slice A L.length c] 34)).alloc (.cells #[.int .i64 tx] 3)).heap.size = w.heap.size + 2) := Lib.hid (by simp)
  clear h
  go_enter Tryz.func72, Tryz.ntmps72
  go_wp2_with fail
  refine (clone_lk (HL.out.keep0 HF0.out) hn).mono ?_
  rintro e w1 ⟨v1, rfl, hown1, hf1⟩
  have HO1 := Lib.hid hown1
  have HF1 := Lib.hid (HF0.out.then0 hf1)
  have HB1 := Lib.hid (hf1.keep0 HB.out)
  clear hown1 hf1
  go_wp2_with fail
  refine (delf_of (fun x => decide (x.tx ≠ tx)) (w.heap.size + 1) HO1.out hn (fun W hW x => of1_c x tx _ (hW.keep HB1.out (fun hk => by have := own_ge HO1.out hk; rw [HSZ.out] at this; omega)))).mono ?_
  rintro e w2 ⟨v2, rfl, hown2, hf2⟩
  have HO2 := Lib.hid hown2
  have HF2 : Hid (Fr F0 w w2) := Lib.hid (HF1.out.trans hf2 (fun k hk => .inr (by have := own_ge HO1.out hk; rw [HSZ.out] at this; omega)))
  clear hown2 hf2
  go_wp2_with fail
  go_ret
  exact ⟨_, rfl, own_lower HO2.out (by rw [HSZ.out]; omega), HF2.out⟩
set_option maxRecDepth 100000 in
theorem free_c {A' : Option Addr} {n c' : Nat} {ls : List Int} (hl : ls.length = n) (hA : ValsAt w A' (ls.map (Value.int .i64))) (hnl : n ≤ 1000000) (h : SlV 4 Lk.cells w v L) (hn : L.length ≤ 1000000) :
    Calls Tryz.prog 28 #[.agg #[v], .slice A' n c'] w fun e w' => ∃ v', e = .returned (.agg #[v']) ∧ w'.ownsRow w.heap.size 78 4 v' (freeL L ls).length ((freeL L ls).flatMap Lk.cells) ∧ Fr F0 w w' := by
  have HL := Lib.hid h
  have HV := Lib.hid hA
  have HLL := Lib.hid hl
  obtain ⟨A, c, rfl, -⟩ := h.ex
  have HF0 : Hid (Fr F0 w (((w.alloc (.cells #[.slice A L.length c] 34)).alloc (.cells #[.slice A' n c'] 37)).alloc (.cells #[.slice none 0 0] 34))) := Lib.hid ((((Fr.refl F0 w).alloc _).alloc _).alloc _)
  have HB : Hid ((((w.alloc (.cells #[.slice A L.length c] 34)).alloc (.cells #[.slice A' n c'] 37)).alloc (.cells #[.slice none 0 0] 34)).heap[w.heap.size + 1]? = some (.cells #[.slice A' n c'] 37 (0, 0))) := Lib.hid (keep_alloc (alloc_at (by simp) _) _)
  have HR : Hid ((((w.alloc (.cells #[.slice A L.length c] 34)).alloc (.cells #[.slice A' n c'] 37)).alloc (.cells #[.slice none 0 0] 34)).heap[w.heap.size + 2]? = some (.cells #[.slice none 0 0] 34 (0, 0))) := Lib.hid (alloc_at (by simp) _)
  have HSZ : Hid ((((w.alloc (.cells #[.slice A L.length c] 34)).alloc (.cells #[.slice A' n c'] 37)).alloc (.cells #[.slice none 0 0] 34)).heap.size = w.heap.size + 3) := Lib.hid (by simp)
  clear h hA hl
  go_enter Tryz.func28, Tryz.ntmps28
  go_wp2_with fail
  refine (clone_lk (HL.out.keep0 HF0.out) hn).mono ?_
  rintro e w1 ⟨v1, rfl, hown1, hf1⟩
  have HO1 := Lib.hid hown1
  have HF1 := Lib.hid (HF0.out.then0 hf1)
  have HB1 := Lib.hid (hf1.keep0 HB.out)
  have HR1 := Lib.hid (hf1.keep0 HR.out)
  clear hown1 hf1
  go_wp2_with fail
  refine (delf_free (fun x => ls.contains x.tx) (w.heap.size + 1) HO1.out hn (fun W hW x => free1_c x HLL.out ?_ hnl _ (hW.keep HB1.out (fun hk => by have := own_ge HO1.out hk; rw [HSZ.out] at this; omega)))).mono ?_
  · have hw : Fr F0 w W := HF1.out.trans hW (fun k hk => .inr (by have := own_ge HO1.out hk; rw [HSZ.out] at this; omega))
    exact HV.out.keep0 hw
  rintro e w2 ⟨v2, rfl, hown2, hf2⟩
  have HO2 := Lib.hid hown2
  have HF2 : Hid (Fr F0 w w2) := Lib.hid (HF1.out.trans hf2 (fun k hk => .inr (by have := own_ge HO1.out hk; rw [HSZ.out] at this; omega)))
  have HR2 : Hid (w2.heap[w.heap.size + 2]? = some (.cells #[.slice none 0 0] 34 (0, 0))) := Lib.hid (hf2.keep HR1.out (fun hk => by have := own_ge HO1.out hk; rw [HSZ.out] at this; omega))
  have h6 : w2.ownsRow _ 78 4 v2 (freeL L ls).length ((freeL L ls).flatMap Lk.cells) := hown2
  obtain ⟨A2, c2, rfl, -⟩ := SrAt.of_own Lk.len h6
  clear hown2 hf2 h6
  have HR3 : Hid ((w2.setCell ⟨w.heap.size + 1 + 1, 0, none⟩ (.slice A2 (freeL L ls).length c2)).heap[w.heap.size + 2]? = some (.cells #[.slice A2 (freeL L ls).length c2] 34 (0, 0))) := Lib.hid (by rw [set_cell HR2.out]; rfl)
  have hf3 : Fr (fun k => k = w.heap.size + 2) w2 (w2.setCell ⟨w.heap.size + 1 + 1, 0, none⟩ (.slice A2 (freeL L ls).length c2)) := (Fr.refl _ _).setCell (by exact .inl rfl) _
  have HO3 := Lib.hid (own_keep HO2.out hf3 (fun k hk e => by have := own_ge HO2.out hk; rw [HSZ.out] at this; omega))
  have HF3 := Lib.hid (HF2.out.trans hf3 (fun k hk => .inr (by omega)))
  clear hf3
  have q1 : w2.cell? ⟨w.heap.size + 1 + 1, 0, none⟩ = some (.slice none 0 0) := by rw [cell_of HR2.out]; rfl
  have q2 : w2.frozen? ⟨w.heap.size + 1 + 1, 0, none⟩ = false := free_of HR2.out 0
  go_wp2_with fail
  exact tab_ret rfl (by rfl) rfl HR3.out ⟨_, rfl, own_lower HO3.out (by rw [HSZ.out]; omega), HF3.out⟩
theorem findIdx_at {α : Type} {p : α → Bool} {L : List α} {i : Nat} (h : L.findIdx? p = some i) : ∃ x, L[i]? = some x ∧ p x = true := by
  rw [List.findIdx?_eq_some_iff_getElem] at h
  obtain ⟨hi, hp, -⟩ := h
  exact ⟨_, List.getElem?_eq_getElem hi, hp⟩
set_option maxRecDepth 100000 in
set_option maxHeartbeats 1000000 in
theorem find_c (tx block : Int) (h : SlV 4 Lk.cells w v L) (hn : L.length ≤ 1000000) : Calls Tryz.prog 32 #[.agg #[v], .int .i64 tx, .int .i64 block] w fun e w' => e = .returned (lkV (findL L tx block)) ∧ Fr F0 w w' := by
  have HL := Lib.hid h
  obtain ⟨A, c, rfl, hsr, -⟩ := h.ex
  have HS := Lib.hid hsr
  obtain ⟨d, hu, hd⟩ := und_lock
  have HU := Lib.hid hu
  have HDD := Lib.hid hd
  obtain ⟨W, hW⟩ : ∃ W, W = ((w.alloc (.cells #[.slice A L.length c] 34)).alloc (.cells #[.int .i64 0, .int .i64 0, .int .i64 0, .int .i64 0] 78)).alloc (.cells #[.int .i64 block, .int .i64 tx, .int .i64 0, .int .i64 0] 78) := ⟨_, rfl⟩
  have HF0 : Hid (Fr F0 w W) := Lib.hid (by rw [hW]; exact ((((Fr.refl F0 w).alloc _).alloc _).alloc _))
  have HT : Hid (W.heap[w.heap.size]? = some (.cells #[.slice A L.length c] 34 (0, 0))) := Lib.hid (by rw [hW]; exact keep_alloc (keep_alloc (alloc_at rfl _) _) _)
  have HR : Hid (W.heap[w.heap.size + 1]? = some (.cells (Lk.cells ⟨0, 0, 0, 0⟩).toArray 78 (0, 0))) := Lib.hid (by rw [hW]; exact keep_alloc (alloc_at (by simp) _) _)
  have HB : Hid (W.heap[w.heap.size + 2]? = some (.cells (Lk.cells ⟨block, tx, 0, 0⟩).toArray 78 (0, 0))) := Lib.hid (by rw [hW]; exact alloc_at (by simp) _)
  have HW := Lib.hid hW
  clear h hsr hu hd hW
  go_enter Tryz.func32, Tryz.ntmps32
  go_wp2_with fail
  rw [← HW.out]
  have HI := idxf_find (w := W) (fun x => decide (ordI x ⟨block, tx, 0, 0⟩ = 0)) (w.heap.size + 2) (HL.out.keep0 HF0.out) hn (fun W' hW' x => find1_c x ⟨block, tx, 0, 0⟩ _ (hW'.keep0 HB.out))
  refine HI.mono ?_
  rintro e w1 ⟨rfl, hf1⟩
  have HF1 := Lib.hid (HF0.out.then0 hf1)
  have HT1 := Lib.hid (hf1.keep0 HT.out)
  have HR1 := Lib.hid (hf1.keep0 HR.out)
  have HB1 := Lib.hid (hf1.keep0 HB.out)
  clear HI hf1
  cases hix : L.findIdx? fun x => decide (ordI x ⟨block, tx, 0, 0⟩ = 0) with
  | none =>
    have hfl : findL L tx block = ⟨block, tx, 0, 0⟩ := by unfold findL; rw [hix]
    have HX : Hid (∀ i v, (Lk.cells ⟨block, tx, 0, 0⟩)[i]? = some v → w1.cell? ⟨w.heap.size + 2, 0 + i, none⟩ = some v) := Lib.hid (fun i v hv => by rw [cell_of HB1.out]; simpa using hv)
    have HR2 : Hid ((w1.setRow (w.heap.size + 1) (splat (Lk.cells ⟨0, 0, 0, 0⟩) 0 (Lk.cells ⟨block, tx, 0, 0⟩)).toArray).heap[w.heap.size + 1]? = some (.cells (Lk.cells ⟨block, tx, 0, 0⟩).toArray 78 (0, 0))) := Lib.hid (by rw [setRow_heap _ _ _ _ _ _ HR1.out]; rfl)
    have HF2 : Hid (Fr F0 w (w1.setRow (w.heap.size + 1) (splat (Lk.cells ⟨0, 0, 0, 0⟩) 0 (Lk.cells ⟨block, tx, 0, 0⟩)).toArray)) := Lib.hid (HF1.out.setRow (.inr (by omega)) _)
    have HFL := Lib.hid hfl
    clear hix hfl
    simp only [idxI]
    go_wp2_with (first | (refine wpList_load_at rfl 78 (.tmp 7) rfl (w.heap.size + 2) 0 (by rfl) (Lk.cells ⟨block, tx, 0, 0⟩) d HX.out HU.out HDD.out size_lock ?_) | (refine wpList_store_at rfl 78 (.tmp 6) (.tmp 23) rfl (w.heap.size + 1) 0 (Lk.cells ⟨block, tx, 0, 0⟩) (by rfl) (by rfl) 78 (Lk.cells ⟨0, 0, 0, 0⟩) HR1.out size_lock (Nat.le_refl 4) (Lk.one _) ?_))
    exact lk_ret rfl (by rfl) rfl HR2.out ⟨by rw [HFL.out], HF2.out⟩
  | some i =>
    obtain ⟨x, hx, -⟩ := findIdx_at hix
    have hfl : findL L tx block = x := by unfold findL; rw [hix]; simp [hx]
    have hil : i < L.length := (List.getElem?_eq_some_iff.1 hx).1
    obtain ⟨b, off, hA, hc⟩ := ((HS.out.keep0 HF1.out)).get hx (Lk.pos _)
    have HX : Hid (∀ i' v, x.cells[i']? = some v → w1.cell? ⟨b, off + i * 4 + i', none⟩ = some v) := Lib.hid hc
    have HR2 : Hid ((w1.setRow (w.heap.size + 1) (splat (Lk.cells ⟨0, 0, 0, 0⟩) 0 x.cells).toArray).heap[w.heap.size + 1]? = some (.cells x.cells.toArray 78 (0, 0))) := Lib.hid (by rw [setRow_heap _ _ _ _ _ _ HR1.out]; rfl)
    have HF2 : Hid (Fr F0 w (w1.setRow (w.heap.size + 1) (splat (Lk.cells ⟨0, 0, 0, 0⟩) 0 x.cells).toArray)) := Lib.hid (HF1.out.setRow (.inr (by omega)) _)
    have HFL := Lib.hid hfl
    subst hA
    have hT2 : w1.cell? ⟨w.heap.size, 0, none⟩ = some (.slice (some ⟨b, off, none⟩) L.length c) := by rw [cell_of HT1.out]; rfl
    have i0 : (0 : Int) ≤ (i : Int) := Int.natCast_nonneg _
    have i1 : (i : Int) < (L.length : Int) := by omega
    clear hix hfl hx hc
    simp only [idxI]
    go_wp2_with (first | (refine wpList_load_at rfl 78 (.tmp 21) rfl b (off + i * 4) (by rfl) x.cells d HX.out HU.out HDD.out size_lock ?_) | (refine wpList_store_at rfl 78 (.tmp 6) (.tmp 22) rfl (w.heap.size + 1) 0 x.cells (by rfl) (by rfl) 78 (Lk.cells ⟨0, 0, 0, 0⟩) HR1.out size_lock (Nat.le_refl 4) (Lk.one _) ?_))
    exact lk_ret rfl (by rfl) rfl HR2.out ⟨by rw [HFL.out], HF2.out⟩
end
end Go.Proofs.YtgbaijfgmeealaaGreat
