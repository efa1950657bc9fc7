/-
  The document's device, read as bytes; heronryref08: Load. Conditions: none.
-/
import Derived.Test.YtdeckbdaencjnaaDoorRf12
import Derived.Test.YtdeckbdaencjnaaDoorR04d
set_option linter.unusedVariables false
set_option linter.unusedSimpArgs false
namespace Go.Proofs.YtdeckbdaencjnaaDoor
open Go.RowKit
theorem bytesOf_nums {s : List Int} (h : Bys s) : bytesOf (strOfNums s) = s := by
  rw [bytesOf, strOfNums_data, List.map_map]
  conv => rhs; rw [← List.map_id s]
  refine List.map_congr_left fun b hb => ?_
  have := h b hb
  simp; omega
structure StrRetB (w w' : World) (e : Ending) (s : List Int) : Prop where
  ex : ∃ b c, e = .returned (.tuple #[.slice (some ⟨b, 0, none⟩) 64 c, .int .i64 0]) ∧ BytesAt w' (some ⟨b, 0, none⟩) 64 s ∧ 64 ≤ c ∧ w.heap.size ≤ b ∧ Fr F0 w w'
theorem r_conv_strb (W : World) (s : List Int) (hs : s.length = 64) : ∃ c, 64 ≤ c ∧ (convert 9 24 (.string (strOfNums s))).run Tryd.prog W = .ok (.slice (some ⟨W.heap.size, 0, none⟩) 64 c) (W.drew.alloc (.cells (bytesRow (strOfNums s) c) 5 ((bytesRow (strOfNums s) c).size, (bytesRow (strOfNums s) c).size + 1))) := by
  have hsz : (strOfNums s).size = 64 := by rw [strOfNums_size, hs]
  have := run_bytes_of_string (P := Tryd.prog) W 9 24 5 (strOfNums s) r_und_string r_und_bytes r_und_u8
  rw [hsz] at this
  exact ⟨_, grownCap_ge _ _ _ _, this⟩
theorem rsup_ret {fn : Func} {c2 c3 : Nat} {a : Act} {w : World} {b : Nat} {t : TypeId} {s : Sup} {e : Int} {R : Ending → World → Prop} (hfn : fn.results = #[.cell c2 23, .tmp c3]) (ha : a.tmps.getD c2 undef = .pointer (some ⟨b, 0, none⟩)) (hc : a.tmps.getD c3 undef = .int .i64 e) (hd : a.defers = [])
    (hh : w.heap[b]? = some (.cells s.cells.toArray t (0, 0))) (hR : R (.returned (.tuple #[.agg s.cells.toArray, .int .i64 e])) w) : bodyPost Tryd.prog fn R .ret a w :=
  bodyPost_ret (results_cell2 hfn ha hc (load_rsuper hh)) hd hR
section
variable {w : World} {rb lb tb : Nat} {D : Dev}
set_option maxRecDepth 100000 in
set_option maxHeartbeats 400000 in
theorem rreadb_c (h : RefAt w rb lb tb D) (hg : D.gone = false) (i : Nat) (hi : i < D.laid.length) (hby : Bys (D.at i)) :
    Calls Tryd.prog 74 #[.pointer (some ⟨rb, 0, none⟩), .int .i64 (i : Int)] w fun e w' => StrRetB w w' e (D.at i) := by
  have HBY := Lib.hid hby
  clear hby
  obtain ⟨cap0, h0, h1, h2, h3, h4, f2, f3, f4⟩ := h.cells
  obtain ⟨t3, e3⟩ := h.late
  obtain ⟨t2, cs, e2, l2, l3⟩ := h.laid
  have hlt : i < D.late.length := by rw [h.ok.len]; exact hi
  have hi0 : (0 : Int) ≤ (i : Int) := Int.natCast_nonneg _
  have hi1 : (i : Int) < (D.laid.length : Int) := by omega
  rw [hg] at h3
  cases hs : D.late[i]? with
  | none => simp at hs; omega
  | some o =>
    cases o with
    | some s =>
      have h64 : s.length = 64 := h.ok.lates s (List.mem_of_getElem? hs)
      have hat : D.at i = s := Dev.at_late hs
      rw [hat]
      have hcl : w.cell? ⟨tb, i, none⟩ = some (.string (strOfNums s)) := by rw [cell_of e3 i]; simp [hs, lateStr]
      have hne := str64_full h64
      obtain ⟨c, hc64, hcv⟩ := r_conv_strb w s h64
      have HC64 := Lib.hid hc64
      have hsb : Bys s := by rw [← hat]; exact HBY.out
      have HSB := Lib.hid hsb
      clear hc64 hsb
      have HS := Lib.hid h64
      clear hs hat h64 e3 e2 l2 l3 h2 h4 f2 f3 f4
      go_enter Tryd.func74, Tryd.ntmps74
      go_wp2_with fail
      go_ret2
      refine ⟨_, c, rfl, ?_, HC64.out, (by exact Nat.le_refl _), (Fr.refl _ _).drew.alloc _⟩
      have := bytesRow_at (W := w.drew.alloc (.cells (bytesRow (strOfNums s) c) 5 ((bytesRow (strOfNums s) c).size, (bytesRow (strOfNums s) c).size + 1))) (b := w.heap.size) (alloc_at rfl _)
      rwa [strOfNums_size, HS.out, bytesOf_nums HSB.out] at this
    | none =>
      obtain ⟨s, hsl⟩ : ∃ s, D.laid[i]? = some s := ⟨D.laid[i], List.getElem?_eq_getElem hi⟩
      have h64 : s.length = 64 := h.ok.secs s (List.mem_of_getElem? hsl)
      have hat : D.at i = s := by rw [Dev.at_laid hs]; simp [List.getD, hsl]
      rw [hat]
      have hcl : w.cell? ⟨tb, i, none⟩ = some (.string ⟨#[]⟩) := by rw [cell_of e3 i]; simp [hs, lateStr]
      have hcl2 : w.cell? ⟨lb, i, none⟩ = some (.string (strOfNums s)) := by rw [cell_of e2 i]; exact l3 i s hsl
      obtain ⟨c, hc64, hcv⟩ := r_conv_strb w s h64
      have HC64 := Lib.hid hc64
      have hsb : Bys s := by rw [← hat]; exact HBY.out
      have HSB := Lib.hid hsb
      clear hc64 hsb
      have HS := Lib.hid h64
      clear hs hat h64 hsl e3 e2 l2 l3 h2 h4 f2 f3 f4
      go_enter Tryd.func74, Tryd.ntmps74
      go_wp2_with fail
      go_ret2
      refine ⟨_, c, rfl, ?_, HC64.out, (by exact Nat.le_refl _), (Fr.refl _ _).drew.alloc _⟩
      have := bytesRow_at (W := w.drew.alloc (.cells (bytesRow (strOfNums s) c) 5 ((bytesRow (strOfNums s) c).size, (bytesRow (strOfNums s) c).size + 1))) (b := w.heap.size) (alloc_at rfl _)
      rwa [strOfNums_size, HS.out, bytesOf_nums HSB.out] at this
theorem rdecode_n {w : World} (A : Option Addr) (c : Nat) (xs : List Int) (hA : BytesAt w A 64 xs) (hc : 64 ≤ c) (hb : Bys xs) :
    Calls Tryd.prog 26 #[.slice A 64 c] w fun e w' => ∃ s, e = .returned (.tuple #[.agg #[.int .i64 s.version, .int .i64 s.epoch, .int .i64 s.blocks, .int .i64 s.counters, .int .i64 s.log, .int .i64 s.head, .int .i64 s.applied], .int .i64 (decE xs)]) ∧ Hid (s = decS xs) ∧ Fr F0 w w' := by
  refine (rdecode_c A 64 c xs hA hc (by decide) hb).mono ?_
  rintro e w' ⟨rfl, hf⟩
  exact ⟨_, rfl, Lib.hid rfl, hf⟩
theorem pick_a {x y : List Int} {s t : Sup} (hs : s = decS x) (ht : t = decS y) (hx : decE x = 0) (h : decE y ≠ 0 ∨ ¬ s.version < t.version) : s = pickS x y := by
  rw [hs, decS_ok hx]
  unfold pickS
  rw [if_neg, if_pos hx]
  rintro ⟨h1, h2⟩
  rcases h with h | h
  · exact h h1
  · rcases h2 with h2 | h2
    · exact h2 hx
    · rw [hs, ht, decS_ok hx, decS_ok h1] at h
      exact h h2
theorem pick_b {x y : List Int} {s t : Sup} (hs : s = decS x) (ht : t = decS y) (hy : decE y = 0) (h : decE x ≠ 0 ∨ s.version < t.version) : t = pickS x y := by
  rw [ht, decS_ok hy]
  unfold pickS
  rw [if_pos]
  refine ⟨hy, ?_⟩
  by_cases hx : decE x = 0
  · rcases h with h | h
    · exact .inl h
    · rw [hs, ht, decS_ok hx, decS_ok hy] at h
      exact .inr h
  · exact .inl hx
set_option maxRecDepth 100000 in
set_option maxHeartbeats 4000000 in
theorem rload_c (h : RefAt w rb lb tb D) (hB : ∀ i, i < 2 → Bys (D.at i)) :
    Calls Tryd.prog 41 #[.pointer (some ⟨rb, 0, none⟩)] w fun e w' => e = .returned (.tuple #[.agg D.loadS.cells.toArray, .int .i64 D.loadE]) ∧ Fr F0 w w' := by
  have HH := Lib.hid h
  have HB := Lib.hid hB
  have HD : Hid ((w.alloc (.cells #[.int .i64 0, .int .i64 0, .int .i64 0, .int .i64 0, .int .i64 0, .int .i64 0, .int .i64 0] 23)).heap[w.heap.size]? = some (.cells Sup.zero.cells.toArray 23 (0, 0))) := Lib.hid (alloc_at rfl _)
  have HFR : Hid (Fr F0 w (w.alloc (.cells #[.int .i64 0, .int .i64 0, .int .i64 0, .int .i64 0, .int .i64 0, .int .i64 0, .int .i64 0] 23))) := Lib.hid ((Fr.refl _ _).alloc _)
  clear h hB
  by_cases m0 : D.may 0 = 0
  · obtain ⟨hg, hp⟩ := may_ok m0
    have HG := Lib.hid hg
    have HP := Lib.hid hp
    by_cases m1 : D.may 1 = 0
    · obtain ⟨-, hp1⟩ := may_ok m1
      have HP1 := Lib.hid hp1
      have hE : D.loadE = pickE (D.at 0) (D.at 1) := by unfold Dev.loadE; rw [if_neg (by rw [m0]; decide), if_neg (by rw [m1]; decide)]
      have hS : D.loadS = pickS (D.at 0) (D.at 1) := by unfold Dev.loadS; rw [if_neg (by rw [m0]; decide), if_neg (by rw [m1]; decide)]
      rw [hE, hS]
      clear hE hS m0 m1 hg hp hp1
      obtain ⟨x, hx⟩ : ∃ x, x = D.at 0 := ⟨_, rfl⟩
      obtain ⟨y, hy⟩ : ∃ y, y = D.at 1 := ⟨_, rfl⟩
      rw [← hx, ← hy]
      have HX := Lib.hid hx
      have HY := Lib.hid hy
      clear hx hy
      go_enter Tryd.func41, Tryd.ntmps41
      go_wp2_with fail
      refine (rreadb_c (HH.out.keep0 HFR.out) HG.out 0 (by have := HP.out; omega) (HB.out 0 (by decide))).mono ?_
      rintro e w2 ⟨B0, c0, rfl, hB0, hc0, hn0, hf2⟩
      rw [← HX.out] at hB0
      have HFR := Lib.hid (HFR.out.then0 hf2)
      have HD := Lib.hid (hf2.keep0 HD.out)
      have HB0 := Lib.hid hB0
      clear hB0 hf2 hn0
      go_wp2_with fail
      refine (rreadb_c (HH.out.keep0 HFR.out) HG.out 1 (by have := HP1.out; omega) (HB.out 1 (by decide))).mono ?_
      rintro e w3 ⟨B1, c1, rfl, hB1, hc1, hn1, hf3⟩
      rw [← HY.out] at hB1
      have HFR := Lib.hid (HFR.out.then0 hf3)
      have HD := Lib.hid (hf3.keep0 HD.out)
      have HB0 := Lib.hid (HB0.out.keep0 hf3)
      have HB1 := Lib.hid hB1
      clear hB1 hf3 hn1
      go_wp2_with fail
      refine (rdecode_n _ c0 x HB0.out hc0 (by rw [HX.out]; exact HB.out 0 (by decide))).mono ?_
      rintro e w4 ⟨s, rfl, HSX, hf4⟩
      have hf4' : Fr F0 w3 (w4.alloc (.cells #[.int .i64 s.version, .int .i64 s.epoch, .int .i64 s.blocks, .int .i64 s.counters, .int .i64 s.log, .int .i64 s.head, .int .i64 s.applied] 23)) := hf4.alloc _
      have HFR := Lib.hid (HFR.out.then0 hf4')
      have HD := Lib.hid (hf4'.keep0 HD.out)
      have HB1 := Lib.hid (HB1.out.keep0 hf4')
      have HS4 : Hid ((w4.alloc (.cells #[.int .i64 s.version, .int .i64 s.epoch, .int .i64 s.blocks, .int .i64 s.counters, .int .i64 s.log, .int .i64 s.head, .int .i64 s.applied] 23)).heap[w4.heap.size]? = some (.cells s.cells.toArray 23 (0, 0))) := Lib.hid (alloc_at rfl _)
      obtain ⟨ex, hex⟩ : ∃ ex, ex = decE x := ⟨_, rfl⟩
      rw [← hex]
      have HEX := Lib.hid hex
      clear hf4 hf4' hex
      go_wp2_with (refine wpList_store_fresh rfl 23 (.tmp 7) (.tmp 32) rfl #[.int .i64 s.version, .int .i64 s.epoch, .int .i64 s.blocks, .int .i64 s.counters, .int .i64 s.log, .int .i64 s.head, .int .i64 s.applied] (by rfl) (by rfl) 23 #[.int .i64 0, .int .i64 0, .int .i64 0, .int .i64 0, .int .i64 0, .int .i64 0, .int .i64 0] (by rw [size_rsuper]; rfl) rfl (by rfl) ?_)
      refine (rdecode_n _ c1 y HB1.out hc1 (by rw [HY.out]; exact HB.out 1 (by decide))).mono ?_
      rintro e w5 ⟨t, rfl, HSY, hf5⟩
      have hf5' : Fr F0 (w4.alloc (.cells #[.int .i64 s.version, .int .i64 s.epoch, .int .i64 s.blocks, .int .i64 s.counters, .int .i64 s.log, .int .i64 s.head, .int .i64 s.applied] 23)) (w5.alloc (.cells #[.int .i64 t.version, .int .i64 t.epoch, .int .i64 t.blocks, .int .i64 t.counters, .int .i64 t.log, .int .i64 t.head, .int .i64 t.applied] 23)) := hf5.alloc _
      have HFR := Lib.hid (HFR.out.then0 hf5')
      have HD := Lib.hid (hf5'.keep0 HD.out)
      have HS4 := Lib.hid (hf5'.keep0 HS4.out)
      have HS5 : Hid ((w5.alloc (.cells #[.int .i64 t.version, .int .i64 t.epoch, .int .i64 t.blocks, .int .i64 t.counters, .int .i64 t.log, .int .i64 t.head, .int .i64 t.applied] 23)).heap[w5.heap.size]? = some (.cells t.cells.toArray 23 (0, 0))) := Lib.hid (alloc_at rfl _)
      obtain ⟨ey, hey⟩ : ∃ ey, ey = decE y := ⟨_, rfl⟩
      rw [← hey]
      have HEY := Lib.hid hey
      clear hf5 hf5' hey
      have ky : (w5.alloc (.cells #[.int .i64 t.version, .int .i64 t.epoch, .int .i64 t.blocks, .int .i64 t.counters, .int .i64 t.log, .int .i64 t.head, .int .i64 t.applied] 23)).cell? ⟨w5.heap.size, 0, none⟩ = some (.int .i64 t.version) := by rw [cell_of HS5.out]; rfl
      have kx : (w5.alloc (.cells #[.int .i64 t.version, .int .i64 t.epoch, .int .i64 t.blocks, .int .i64 t.counters, .int .i64 t.log, .int .i64 t.head, .int .i64 t.applied] 23)).cell? ⟨w4.heap.size, 0, none⟩ = some (.int .i64 s.version) := by rw [cell_of HS4.out]; rfl
      obtain ⟨vs, hvs⟩ : ∃ vs, vs = s.version := ⟨_, rfl⟩
      rw [← hvs] at kx
      have HVS := Lib.hid hvs
      clear hvs
      obtain ⟨d, hu, hd⟩ := und_rsuper
      have HU := Lib.hid hu
      have HDD := Lib.hid hd
      have HC4 : Hid (∀ i v, s.cells[i]? = some v → (w5.alloc (.cells #[.int .i64 t.version, .int .i64 t.epoch, .int .i64 t.blocks, .int .i64 t.counters, .int .i64 t.log, .int .i64 t.head, .int .i64 t.applied] 23)).cell? ⟨w4.heap.size, 0 + i, none⟩ = some v) := Lib.hid (by
        intro i v hv
        rw [cell_of HS4.out]
        simpa using hv)
      have HC5 : Hid (∀ i v, t.cells[i]? = some v → (w5.alloc (.cells #[.int .i64 t.version, .int .i64 t.epoch, .int .i64 t.blocks, .int .i64 t.counters, .int .i64 t.log, .int .i64 t.head, .int .i64 t.applied] 23)).cell? ⟨w5.heap.size, 0 + i, none⟩ = some v) := Lib.hid (by
        intro i v hv
        rw [cell_of HS5.out]
        simpa using hv)
      clear hu hd
      by_cases hx0 : ex = 0
      · have hE0 : pickE x y = 0 := by unfold pickE; rw [if_pos (.inl (by rw [← HEX.out]; exact hx0))]
        have HE0 := Lib.hid hE0
        have HX0 := Lib.hid hx0
        have b1 : (ex != 0) = false := by simp [hx0]
        rw [hx0]
        clear hx0 hE0
        by_cases hb : ey = 0 ∧ vs < t.version
        · obtain ⟨hy0, hlt⟩ := hb
          have hp := pick_b HSX.out HSY.out (by rw [← HEY.out]; exact hy0) (.inr (by rw [← HVS.out]; exact hlt))
          have HP := Lib.hid hp
          have b2 : (ey == 0) = true := by simp [hy0]
          have hlt' : decide (vs < t.version) = true := by simpa using hlt
          rw [hy0]
          clear hp hy0
          go_wp2_with ((refine wpList_load_at rfl 23 (.tmp 9) rfl w5.heap.size 0 (by rfl) t.cells d HC5.out HU.out HDD.out size_rsuper ?_; refine wpList_store_at rfl 23 (.tmp 2) (.tmp 59) rfl w.heap.size 0 t.cells (by rfl) (by rfl) 23 Sup.zero.cells HD.out size_rsuper (Nat.le_refl 7) (Sup.one _) ?_))
          refine rsup_ret (b := w.heap.size) (t := 23) (s := t) Tryd.results41 (by rfl) (by rfl) rfl ?_ ⟨by rw [HE0.out, ← HP.out], HFR.out.setRow (by exact .inr (Nat.le_refl _)) _⟩
          rw [setRow_heap _ w.heap.size _ _ _ _ HD.out, splat_all Sup.zero.cells t.cells rfl]
        · have hp := pick_a HSX.out HSY.out (by rw [← HEX.out]; exact HX0.out) (by
            by_cases hy0 : ey = 0
            · exact .inr (by rw [← HVS.out]; exact fun h => hb ⟨hy0, h⟩)
            · exact .inl (by rw [← HEY.out]; exact hy0))
          have HP := Lib.hid hp
          clear hp
          by_cases hy0 : ey = 0
          · have b2 : (ey == 0) = true := by simp [hy0]
            have hlt : ¬ vs < t.version := fun h => hb ⟨hy0, h⟩
            have hlt' : decide (vs < t.version) = false := by simpa using hlt
            rw [hy0]
            clear hy0 hb
            go_wp2_with ((refine wpList_load_at rfl 23 (.tmp 7) rfl w4.heap.size 0 (by rfl) s.cells d HC4.out HU.out HDD.out size_rsuper ?_; refine wpList_store_at rfl 23 (.tmp 2) (.tmp 60) rfl w.heap.size 0 s.cells (by rfl) (by rfl) 23 Sup.zero.cells HD.out size_rsuper (Nat.le_refl 7) (Sup.one _) ?_))
            refine rsup_ret (b := w.heap.size) (t := 23) (s := s) Tryd.results41 (by rfl) (by rfl) rfl ?_ ⟨by rw [HE0.out, ← HP.out], HFR.out.setRow (by exact .inr (Nat.le_refl _)) _⟩
            rw [setRow_heap _ w.heap.size _ _ _ _ HD.out, splat_all Sup.zero.cells s.cells rfl]
          · have b2 : (ey == 0) = false := by simp [hy0]
            clear hy0 hb
            go_wp2_with ((refine wpList_load_at rfl 23 (.tmp 7) rfl w4.heap.size 0 (by rfl) s.cells d HC4.out HU.out HDD.out size_rsuper ?_; refine wpList_store_at rfl 23 (.tmp 2) (.tmp 60) rfl w.heap.size 0 s.cells (by rfl) (by rfl) 23 Sup.zero.cells HD.out size_rsuper (Nat.le_refl 7) (Sup.one _) ?_))
            refine rsup_ret (b := w.heap.size) (t := 23) (s := s) Tryd.results41 (by rfl) (by rfl) rfl ?_ ⟨by rw [HE0.out, ← HP.out], HFR.out.setRow (by exact .inr (Nat.le_refl _)) _⟩
            rw [setRow_heap _ w.heap.size _ _ _ _ HD.out, splat_all Sup.zero.cells s.cells rfl]
      · have b1 : (ex != 0) = true := by simp [hx0]
        have HX0 := Lib.hid hx0
        clear hx0
        by_cases hy0 : ey = 0
        · have hE0 : pickE x y = 0 := by unfold pickE; rw [if_pos (.inr (by rw [← HEY.out]; exact hy0))]
          have hp := pick_b HSX.out HSY.out (by rw [← HEY.out]; exact hy0) (.inl (by rw [← HEX.out]; exact HX0.out))
          have HE0 := Lib.hid hE0
          have HP := Lib.hid hp
          have b2 : (ey != 0) = false := by simp [hy0]
          rw [hy0]
          clear hy0 hE0 hp
          go_wp2_with ((refine wpList_load_at rfl 23 (.tmp 9) rfl w5.heap.size 0 (by rfl) t.cells d HC5.out HU.out HDD.out size_rsuper ?_; refine wpList_store_at rfl 23 (.tmp 2) (.tmp 59) rfl w.heap.size 0 t.cells (by rfl) (by rfl) 23 Sup.zero.cells HD.out size_rsuper (Nat.le_refl 7) (Sup.one _) ?_))
          refine rsup_ret (b := w.heap.size) (t := 23) (s := t) Tryd.results41 (by rfl) (by rfl) rfl ?_ ⟨by rw [HE0.out, ← HP.out], HFR.out.setRow (by exact .inr (Nat.le_refl _)) _⟩
          rw [setRow_heap _ w.heap.size _ _ _ _ HD.out, splat_all Sup.zero.cells t.cells rfl]
        · have b2 : (ey != 0) = true := by simp [hy0]
          have hn : ¬ (decE x = 0 ∨ decE y = 0) := by
            rw [← HEX.out, ← HEY.out]
            rintro (h | h)
            · exact HX0.out h
            · exact hy0 h
          have hE6 : pickE x y = 6 := by unfold pickE; rw [if_neg hn]
          have hS6 : pickS x y = Sup.zero := by
            unfold pickS
            rw [if_neg (fun h => hn (.inr h.1)), if_neg (fun h => hn (.inl h))]
          have HE6 := Lib.hid hE6
          have HS6 := Lib.hid hS6
          clear hy0 hn hE6 hS6
          go_wp2_with (refine wpList_store_at rfl 23 (.tmp 2) (.tmp 45) rfl w.heap.size 0 Sup.zero.cells (by rfl) (by rfl) 23 Sup.zero.cells HD.out size_rsuper (by decide) (Sup.one _) ?_)
          refine rsup_ret (b := w.heap.size) (t := 23) Tryd.results41 (by rfl) (by rfl) rfl ?_ ⟨by rw [HE6.out, HS6.out], HFR.out.setRow (by exact .inr (Nat.le_refl _)) _⟩
          rw [setRow_heap _ w.heap.size _ _ _ _ HD.out, splat_all _ _ rfl]
    · have hE : D.loadE = D.may 1 := by unfold Dev.loadE; rw [if_neg (by rw [m0]; decide), if_pos m1]
      have hS : D.loadS = Sup.zero := by unfold Dev.loadS; rw [if_neg (by rw [m0]; decide), if_pos m1]
      have HE := Lib.hid hE
      have HS := Lib.hid hS
      have hne : (D.may 1 != 0) = true := by simpa using m1
      have HM1 := Lib.hid m1
      clear hE hS m1 m0 hg hp
      go_enter Tryd.func41, Tryd.ntmps41
      go_wp2_with fail
      refine (rread_c (HH.out.keep0 HFR.out) HG.out 0 (by have := HP.out; omega)).mono ?_
      rintro e w2 ⟨B0, c0, ys, rfl, hB0, hys, hf2⟩
      have HFR := Lib.hid (HFR.out.then0 hf2)
      have HD := Lib.hid (hf2.keep0 HD.out)
      clear hB0 hf2 hys
      go_wp2_with fail
      refine (rread_no (HH.out.keep0 HFR.out) 1 HM1.out).mono ?_
      rintro e w4 ⟨rfl, rfl⟩
      go_wp2_with (refine wpList_store_at rfl 23 (.tmp 2) (.tmp 27) rfl w.heap.size 0 Sup.zero.cells (by rfl) (by rfl) 23 Sup.zero.cells HD.out size_rsuper (by decide) (Sup.one _) ?_)
      refine rsup_ret (b := w.heap.size) (t := 23) Tryd.results41 (by rfl) (by rfl) rfl ?_ ⟨by rw [HE.out, HS.out], HFR.out.setRow (by exact .inr (Nat.le_refl _)) _⟩
      rw [setRow_heap _ w.heap.size _ _ _ _ HD.out, splat_all _ _ rfl]
  · have hE : D.loadE = D.may 0 := by unfold Dev.loadE; rw [if_pos m0]
    have hS : D.loadS = Sup.zero := by unfold Dev.loadS; rw [if_pos m0]
    have HE := Lib.hid hE
    have HS := Lib.hid hS
    have hne : (D.may 0 != 0) = true := by simpa using m0
    have HM0 := Lib.hid m0
    clear hE hS m0
    go_enter Tryd.func41, Tryd.ntmps41
    go_wp2_with fail
    refine (rread_no (HH.out.keep0 HFR.out) 0 HM0.out).mono ?_
    rintro e w2 ⟨rfl, rfl⟩
    go_wp2_with (refine wpList_store_at rfl 23 (.tmp 2) (.tmp 18) rfl w.heap.size 0 Sup.zero.cells (by rfl) (by rfl) 23 Sup.zero.cells HD.out size_rsuper (by decide) (Sup.one _) ?_)
    refine rsup_ret (b := w.heap.size) (t := 23) Tryd.results41 (by rfl) (by rfl) rfl ?_ ⟨by rw [HE.out, HS.out], HFR.out.setRow (by exact .inr (Nat.le_refl _)) _⟩
    rw [setRow_heap _ w.heap.size _ _ _ _ HD.out, splat_all _ _ rfl]
end
end Go.Proofs.YtdeckbdaencjnaaDoor
