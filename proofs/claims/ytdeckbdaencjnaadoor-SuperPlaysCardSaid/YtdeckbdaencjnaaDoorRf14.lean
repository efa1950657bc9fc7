/-
  heronryref08: Save. Conditions: none.
-/
import Derived.Test.YtdeckbdaencjnaaDoorRf13
set_option linter.unusedVariables false
set_option linter.unusedSimpArgs false
namespace Go.Proofs.YtdeckbdaencjnaaDoor
open Go.RowKit
section
variable {w : World} {rb lb tb : Nat} {D : Dev}
set_option maxRecDepth 100000 in
set_option maxHeartbeats 4000000 in
theorem rsave_c (h : RefAt w rb lb tb D) (s : Sup) : Calls Tryd.prog 33 #[.pointer (some ⟨rb, 0, none⟩), (.agg #[.int .i64 s.version, .int .i64 s.epoch, .int .i64 s.blocks, .int .i64 s.counters, .int .i64 s.log, .int .i64 s.head, .int .i64 s.applied])] w
    fun e w' => e = .returned (.tuple #[.agg (D.saveS s).cells.toArray, .int .i64 (D.saveE s)]) ∧ RefAt w' rb lb tb (D.save s) ∧ Fr (Rv rb lb tb) w w' := by
  have HH := Lib.hid h
  have hlt := h.lt
  have H1 : Hid (Fr F0 w ((w.alloc (.cells #[.int .i64 s.version, .int .i64 s.epoch, .int .i64 s.blocks, .int .i64 s.counters, .int .i64 s.log, .int .i64 s.head, .int .i64 s.applied] 23)).alloc (.cells #[.int .i64 0, .int .i64 0, .int .i64 0, .int .i64 0, .int .i64 0, .int .i64 0, .int .i64 0] 23))) := Lib.hid (((Fr.refl _ _).alloc _).alloc _)
  have R0 : Hid (((w.alloc (.cells #[.int .i64 s.version, .int .i64 s.epoch, .int .i64 s.blocks, .int .i64 s.counters, .int .i64 s.log, .int .i64 s.head, .int .i64 s.applied] 23)).alloc (.cells #[.int .i64 0, .int .i64 0, .int .i64 0, .int .i64 0, .int .i64 0, .int .i64 0, .int .i64 0] 23)).heap[w.heap.size]? = some (.cells s.cells.toArray 23 (0, 0))) := Lib.hid (keep_alloc (alloc_at rfl _) _)
  have R1 : Hid (((w.alloc (.cells #[.int .i64 s.version, .int .i64 s.epoch, .int .i64 s.blocks, .int .i64 s.counters, .int .i64 s.log, .int .i64 s.head, .int .i64 s.applied] 23)).alloc (.cells #[.int .i64 0, .int .i64 0, .int .i64 0, .int .i64 0, .int .i64 0, .int .i64 0, .int .i64 0] 23)).heap[w.heap.size + 1]? = some (.cells Sup.zero.cells.toArray 23 (0, 0))) := Lib.hid (alloc_at (by simp) _)
  clear h
  by_cases hgd : s.good = true
  · have hs : s.sane = true := by
      have := (Sup.good_iff s).1 hgd
      simpa [Sup.sane] using this.1
    have hns : s.next.sane = true := by
      have := (Sup.good_iff s).1 hgd
      simpa [Sup.sane] using this.2
    have hbd : 0 ≤ s.version ∧ s.version < 281474976710656 := by
      have h1 := (Sup.good_iff s).1 hgd
      have h2 := h1.1.1.1
      have h3 := h1.2.1.2
      simp only [Sup.next] at h3
      omega
    have hv0 := hbd.1
    have hv1 := hbd.2
    have HGD := Lib.hid hgd
    have HSN := Lib.hid hs
    have HNS := Lib.hid hns
    clear hs hns hgd hbd
    go_enter Tryd.func33, Tryd.ntmps33
    go_wp2_with fail
    refine (rsane_c s).mono ?_
    rintro e w2 ⟨rfl, hf2⟩
    rw [HSN.out]
    generalize (w.alloc (.cells #[.int .i64 s.version, .int .i64 s.epoch, .int .i64 s.blocks, .int .i64 s.counters, .int .i64 s.log, .int .i64 s.head, .int .i64 s.applied] 23)).alloc (.cells #[.int .i64 0, .int .i64 0, .int .i64 0, .int .i64 0, .int .i64 0, .int .i64 0, .int .i64 0] 23) = w1 at *
    have hr0 := hf2.keep0 R0.out
    obtain ⟨f0, f1, f2, f3, f4, f5, f6⟩ := (show SupAt w2 w.heap.size s from ⟨_, hr0⟩).all
    have fz := free_of hr0 0
    have hveq : (s.version == 281474976710656) = false := by simp; omega
    go_wp2_with fail
    have hws : Fr (fun k => k = w.heap.size) w2 (w2.setCell ⟨w.heap.size, 0, none⟩ (.int .i64 (s.version + 1))) := (Fr.refl _ _).setCell (by exact .inl rfl) _
    have hn0 := set_cell hr0 0 (.int .i64 (s.version + 1))
    generalize w2.setCell ⟨w.heap.size, 0, none⟩ (.int .i64 (s.version + 1)) = w3 at *
    have hn3 : w3.heap[w.heap.size]? = some (.cells s.next.cells.toArray 23 (0, 0)) := hn0
    have hr13 := (hf2.keep0 R1.out)
    have hR13 := hws.keep hr13 (by omega)
    have HF3 := Lib.hid ((H1.out.then0 hf2).trans hws (S := F0) (by intro k hk; exact .inr (by omega)))
    have HN3 := Lib.hid hn3
    have HR13 := Lib.hid hR13
    clear f0 f1 f2 f3 f4 f5 f6 fz hn0 hn3 hr13 hR13 hws hf2 hr0 hveq
    refine (rencode_c s.next).mono ?_
    rintro e w4 ⟨v, rfl, ho, hno, hf4⟩
    have hR14 := hf4.keep0 HR13.out
    have hN4 := hf4.keep0 HN3.out
    have HF4 := Lib.hid (HF3.out.then0 hf4)
    have HN4 := Lib.hid hN4
    have HR14 := Lib.hid hR14
    have hlt3 : w.heap.size ≤ w3.heap.size := HF3.out.size
    have hee : s.next.encE = 0 := by simp [Sup.encE, HNS.out]
    rw [hee]
    obtain ⟨A, c, rfl, hby, hnew⟩ := (ho HNS.out).byt
    have hel := s.next.enc_len
    have HEL := Lib.hid hel
    rw [hel]
    have g0 : w4.cell? ⟨w.heap.size, 0, none⟩ = some (.int .i64 (s.version + 1)) := by rw [cell_of hN4]; rfl
    have hsz4 := hf4.size
    have HBY := Lib.hid hby
    clear ho hno hee hel hN4 hf4 hby hR14
    go_wp2_with fail
    refine (rwrite_c (HH.out.keep0 HF4.out) ((s.version + 1) % 2) A c s.next.enc 64 (by have := HBY.out.at_; rw [HEL.out] at this; exact this) (by intro _ ad e; have := hnew ad e; omega)).mono ?_
    rintro e w5 ⟨rfl, h5, hf5⟩
    have hwE : D.writeE ((s.version + 1) % 2) s.next.enc = D.saveWE s := rfl
    have hwD : D.write ((s.version + 1) % 2) s.next.enc = D.saveW s := rfl
    rw [hwE]
    rw [hwD] at h5
    have hr5 := hf5.keep HR14.out (by rintro (h' | h' | h') <;> omega)
    have hn5 := hf5.keep HN4.out (by rintro (h' | h' | h') <;> omega)
    have HF5 := Lib.hid (HF4.out.of0.trans hf5 (fun _ hk => .inl hk))
    have H5 := Lib.hid h5
    have HR5 := Lib.hid hr5
    have HN5 := Lib.hid hn5
    clear hwE hwD hr5 hn5 hf5 h5 g0
    by_cases hwe : D.saveWE s = 0
    · have HWE := Lib.hid hwe
      rw [hwe]
      clear hwe
      go_wp2_with fail
      refine (rflush_c H5.out).mono ?_
      rintro e w6 ⟨rfl, h6, hf6⟩
      have HF6 := Lib.hid (HF5.out.trans hf6 (fun _ hk => .inl hk))
      have HR6 := Lib.hid (hf6.keep HR5.out (by rintro (h' | h' | h') <;> omega))
      have HN6 := Lib.hid (hf6.keep HN5.out (by rintro (h' | h' | h') <;> omega))
      have H6 := Lib.hid h6
      have hE : D.saveE s = (D.saveW s).flushE := by simp [Dev.saveE, HGD.out, HWE.out]
      have hD : D.save s = (D.saveW s).flush := by simp [Dev.save, HGD.out, HWE.out]
      obtain ⟨fe, hfe⟩ : ∃ fe, fe = (D.saveW s).flushE := ⟨_, rfl⟩
      rw [← hfe]
      rw [← hfe] at hE
      have HE := Lib.hid hE
      have HD := Lib.hid hD
      clear h6 hf6 hE hD hfe
      by_cases hf0 : fe = 0
      · have hS : D.saveS s = s.next := by simp [Dev.saveS, HE.out, hf0]
        have HS := Lib.hid hS
        obtain ⟨d, hu, hd⟩ := und_rsuper
        have HU := Lib.hid hu
        have HDD := Lib.hid hd
        have HCS : Hid (∀ i v, s.next.cells[i]? = some v → w6.cell? ⟨w.heap.size, 0 + i, none⟩ = some v) := Lib.hid (by
          intro i v hv
          rw [cell_of HN6.out]
          simpa using hv)
        subst hf0
        clear hu hd hS
        go_wp2_with ((refine wpList_load_at rfl 23 (.tmp 3) rfl w.heap.size 0 (by rfl) s.next.cells d HCS.out HU.out HDD.out size_rsuper ?_; refine wpList_store_at rfl 23 (.tmp 4) (.tmp 43) rfl (w.heap.size + 1) 0 s.next.cells (by rfl) (by rfl) 23 Sup.zero.cells HR6.out size_rsuper (Nat.le_refl 7) (Sup.one _) ?_))
        have hfz : Fr (fun k => k = w.heap.size + 1) w6 (w6.setRow (w.heap.size + 1) (splat Sup.zero.cells 0 s.next.cells).toArray) := (Fr.refl _ _).setRow (by exact .inl rfl) _
        refine rsup_ret (b := w.heap.size + 1) (t := 23) (s := s.next) Tryd.results33 (by rfl) (by rfl) rfl ?_ ⟨by rw [HE.out, HS.out], ?_, HF6.out.trans hfz (fun k hk => .inr (by omega))⟩
        · rw [setRow_heap w6 (w.heap.size + 1) _ _ _ _ HR6.out, splat_all Sup.zero.cells s.next.cells rfl]
        · rw [HD.out]
          exact H6.out.keep hfz (by omega) (by omega) (by omega)
      · have hS : D.saveS s = Sup.zero := by simp [Dev.saveS, HE.out, hf0]
        have HS := Lib.hid hS
        have hb0 : (fe != 0) = true := by simp [hf0]
        clear hS hf0
        go_wp2_with (refine wpList_store_at rfl 23 (.tmp 4) (.tmp 41) rfl (w.heap.size + 1) 0 Sup.zero.cells (by rfl) (by rfl) 23 Sup.zero.cells HR6.out size_rsuper (by decide) (Sup.one _) ?_)
        have hfz : Fr (fun k => k = w.heap.size + 1) w6 (w6.setRow (w.heap.size + 1) (splat Sup.zero.cells 0 Sup.zero.cells).toArray) := (Fr.refl _ _).setRow (by exact .inl rfl) _
        refine rsup_ret (b := w.heap.size + 1) (t := 23) Tryd.results33 (by rfl) (by rfl) rfl ?_ ⟨by rw [HE.out, HS.out], ?_, HF6.out.trans hfz (fun k hk => .inr (by omega))⟩
        · rw [setRow_heap w6 (w.heap.size + 1) _ _ _ _ HR6.out, splat_all _ _ rfl]
        · rw [HD.out]
          exact H6.out.keep hfz (by omega) (by omega) (by omega)
    · have hE : D.saveE s = D.saveWE s := by simp [Dev.saveE, HGD.out, hwe]
      have hD : D.save s = D.saveW s := by simp [Dev.save, HGD.out, hwe]
      have hS : D.saveS s = Sup.zero := by simp [Dev.saveS, hE, hwe]
      obtain ⟨fe, hfe⟩ : ∃ fe, fe = D.saveWE s := ⟨_, rfl⟩
      rw [← hfe] at hE hwe ⊢
      have HE := Lib.hid hE
      have HD := Lib.hid hD
      have HS := Lib.hid hS
      have hb0 : (fe != 0) = true := by simp [hwe]
      clear hE hD hS hwe hfe
      go_wp2_with (refine wpList_store_at rfl 23 (.tmp 4) (.tmp 35) rfl (w.heap.size + 1) 0 Sup.zero.cells (by rfl) (by rfl) 23 Sup.zero.cells HR5.out size_rsuper (by decide) (Sup.one _) ?_)
      have hfz : Fr (fun k => k = w.heap.size + 1) w5 (w5.setRow (w.heap.size + 1) (splat Sup.zero.cells 0 Sup.zero.cells).toArray) := (Fr.refl _ _).setRow (by exact .inl rfl) _
      refine rsup_ret (b := w.heap.size + 1) (t := 23) Tryd.results33 (by rfl) (by rfl) rfl ?_ ⟨by rw [HE.out, HS.out], ?_, HF5.out.trans hfz (fun k hk => .inr (by omega))⟩
      · rw [setRow_heap w5 (w.heap.size + 1) _ _ _ _ HR5.out, splat_all _ _ rfl]
      · rw [HD.out]
        exact H5.out.keep hfz (by omega) (by omega) (by omega)
  · have hg : s.good = false := by simpa using hgd
    have hE : D.saveE s = 1 := by simp [Dev.saveE, hg]
    have hD : D.save s = D := by simp [Dev.save, hg]
    have hS : D.saveS s = Sup.zero := by simp [Dev.saveS, hE]
    have HE := Lib.hid hE
    have HD := Lib.hid hD
    have HS := Lib.hid hS
    have hor : s.sane = false ∨ (s.sane = true ∧ s.version = 281474976710656) := by
      cases hsn : s.sane with
      | false => exact .inl rfl
      | true =>
        refine .inr ⟨rfl, ?_⟩
        have h1 : s.Sane := by simpa [Sup.sane] using hsn
        have h2 := h1.1.2
        simp [Sup.good, hsn] at hg
        omega
    have fin : ∀ w2, w2.heap[w.heap.size + 1]? = some (.cells Sup.zero.cells.toArray 23 (0, 0)) → Fr F0 w w2 → RefAt (w2.setRow (w.heap.size + 1) (splat Sup.zero.cells 0 Sup.zero.cells).toArray) rb lb tb (D.save s) ∧ Fr (Rv rb lb tb) w (w2.setRow (w.heap.size + 1) (splat Sup.zero.cells 0 Sup.zero.cells).toArray) := by
      intro w2 hr hf
      have hfe : Fr F0 w (w2.setRow (w.heap.size + 1) (splat Sup.zero.cells 0 Sup.zero.cells).toArray) := hf.setRow (by exact .inr (by omega)) _
      exact ⟨by rw [HD.out]; exact HH.out.keep0 hfe, hfe.of0⟩
    have FIN := Lib.hid fin
    clear hgd hg hE hD hS fin
    rcases hor with hs | ⟨hs, hv⟩
    · have HSN := Lib.hid hs
      clear hs
      go_enter Tryd.func33, Tryd.ntmps33
      go_wp2_with fail
      refine (rsane_c s).mono ?_
      rintro e w2 ⟨rfl, hf2⟩
      rw [HSN.out]
      generalize (w.alloc (.cells #[.int .i64 s.version, .int .i64 s.epoch, .int .i64 s.blocks, .int .i64 s.counters, .int .i64 s.log, .int .i64 s.head, .int .i64 s.applied] 23)).alloc (.cells #[.int .i64 0, .int .i64 0, .int .i64 0, .int .i64 0, .int .i64 0, .int .i64 0, .int .i64 0] 23) = w1 at *
      have HR1 := Lib.hid (hf2.keep0 R1.out)
      have HF2 := Lib.hid (H1.out.then0 hf2)
      clear hf2
      go_wp2_with (refine wpList_store_at rfl 23 (.tmp 4) (.tmp 17) rfl (w.heap.size + 1) 0 Sup.zero.cells (by rfl) (by rfl) 23 Sup.zero.cells HR1.out size_rsuper (by decide) (Sup.one _) ?_)
      refine rsup_ret (b := w.heap.size + 1) (t := 23) Tryd.results33 (by rfl) (by rfl) rfl ?_ ⟨by rw [HE.out, HS.out], FIN.out _ HR1.out HF2.out⟩
      rw [setRow_heap w2 (w.heap.size + 1) _ _ _ _ HR1.out, splat_all _ _ rfl]
    · have HSN := Lib.hid hs
      have HV := Lib.hid hv
      clear hs hv
      go_enter Tryd.func33, Tryd.ntmps33
      go_wp2_with fail
      refine (rsane_c s).mono ?_
      rintro e w2 ⟨rfl, hf2⟩
      rw [HSN.out]
      generalize (w.alloc (.cells #[.int .i64 s.version, .int .i64 s.epoch, .int .i64 s.blocks, .int .i64 s.counters, .int .i64 s.log, .int .i64 s.head, .int .i64 s.applied] 23)).alloc (.cells #[.int .i64 0, .int .i64 0, .int .i64 0, .int .i64 0, .int .i64 0, .int .i64 0, .int .i64 0] 23) = w1 at *
      have hr0 := hf2.keep0 R0.out
      have f0 : w2.cell? ⟨w.heap.size, 0, none⟩ = some (.int .i64 281474976710656) := by rw [cell_of hr0, ← HV.out]; rfl
      have HR1 := Lib.hid (hf2.keep0 R1.out)
      have HF2 := Lib.hid (H1.out.then0 hf2)
      clear hf2 hr0
      go_wp2_with (refine wpList_store_at rfl 23 (.tmp 4) (.tmp 17) rfl (w.heap.size + 1) 0 Sup.zero.cells (by rfl) (by rfl) 23 Sup.zero.cells HR1.out size_rsuper (by decide) (Sup.one _) ?_)
      refine rsup_ret (b := w.heap.size + 1) (t := 23) Tryd.results33 (by rfl) (by rfl) rfl ?_ ⟨by rw [HE.out, HS.out], FIN.out _ HR1.out HF2.out⟩
      rw [setRow_heap w2 (w.heap.size + 1) _ _ _ _ HR1.out, splat_all _ _ rfl]
end
end Go.Proofs.YtdeckbdaencjnaaDoor
