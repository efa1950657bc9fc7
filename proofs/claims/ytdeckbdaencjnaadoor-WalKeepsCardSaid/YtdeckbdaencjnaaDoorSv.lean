/-
  super's Save. Conditions: none.
-/
import Derived.Test.YtdeckbdaencjnaaDoorSl
set_option linter.unusedVariables false
set_option linter.unusedSimpArgs false
namespace Go.Proofs.YtdeckbdaencjnaaDoor
open Go.RowKit

section
variable {w : World} {db lb mb : Nat} {D : Dev}
set_option maxRecDepth 100000 in
set_option maxHeartbeats 4000000 in
theorem save_c (h : DevAt Tryd.prog 3 w db lb mb D) (s : Sup) : Calls Tryd.prog 20 #[.pointer (some ⟨db, 0, none⟩), .agg #[.int .i64 s.version, .int .i64 s.epoch, .int .i64 s.blocks, .int .i64 s.counters, .int .i64 s.log, .int .i64 s.head, .int .i64 s.applied]] w
    fun e w' => e = .returned (.tuple #[.agg (D.saveS s).cells.toArray, .int .i64 (D.saveE s)]) ∧ DevAt Tryd.prog 3 w' db lb mb (D.save s) ∧ Fr (Dv db lb mb) w w' := by
  have HH := Lib.hid h
  have hlt := h.lt
  have h1 : Fr F0 w ((w.alloc (.cells #[.int .i64 s.version, .int .i64 s.epoch, .int .i64 s.blocks, .int .i64 s.counters, .int .i64 s.log, .int .i64 s.head, .int .i64 s.applied] 29)).alloc (.cells #[.int .i64 0, .int .i64 0, .int .i64 0, .int .i64 0, .int .i64 0, .int .i64 0, .int .i64 0] 29)) := ((Fr.refl _ _).alloc _).alloc _
  have r0 : ((w.alloc (.cells #[.int .i64 s.version, .int .i64 s.epoch, .int .i64 s.blocks, .int .i64 s.counters, .int .i64 s.log, .int .i64 s.head, .int .i64 s.applied] 29)).alloc (.cells #[.int .i64 0, .int .i64 0, .int .i64 0, .int .i64 0, .int .i64 0, .int .i64 0, .int .i64 0] 29)).heap[w.heap.size]? = some (.cells s.cells.toArray 29 (0, 0)) := keep_alloc (alloc_at rfl _) _
  have r1 : ((w.alloc (.cells #[.int .i64 s.version, .int .i64 s.epoch, .int .i64 s.blocks, .int .i64 s.counters, .int .i64 s.log, .int .i64 s.head, .int .i64 s.applied] 29)).alloc (.cells #[.int .i64 0, .int .i64 0, .int .i64 0, .int .i64 0, .int .i64 0, .int .i64 0, .int .i64 0] 29)).heap[w.heap.size + 1]? = some (.cells Sup.zero.cells.toArray 29 (0, 0)) := alloc_at (by simp) _
  have H1 := Lib.hid h1
  have R0 := Lib.hid r0
  have R1 := Lib.hid r1
  clear h1 r0 r1
  by_cases hs : s.sane = true
  · have HSN := Lib.hid hs
    have hbd : 0 ≤ s.version ∧ s.version ≤ 281474976710656 := by
      have : s.Sane := by simpa [Sup.sane] using hs
      exact this.1
    have hv0 := hbd.1
    have hv1 := hbd.2
    clear hs hbd
    go_enter Tryd.func20, Tryd.ntmps20
    go_wp2_with fail
    refine (sane_c s).mono ?_
    rintro e w2 ⟨rfl, hf2⟩
    rw [HSN.out]
    generalize (w.alloc (.cells #[.int .i64 s.version, .int .i64 s.epoch, .int .i64 s.blocks, .int .i64 s.counters, .int .i64 s.log, .int .i64 s.head, .int .i64 s.applied] 29)).alloc (.cells #[.int .i64 0, .int .i64 0, .int .i64 0, .int .i64 0, .int .i64 0, .int .i64 0, .int .i64 0] 29) = w1 at *
    have hr0 := hf2.keep0 R0.out
    have f0 : w2.cell? ⟨w.heap.size, 0, none⟩ = some (.int .i64 s.version) := by rw [cell_of hr0]; rfl
    have f1 : w2.cell? ⟨w.heap.size, 1, none⟩ = some (.int .i64 s.epoch) := by rw [cell_of hr0]; rfl
    have f2 : w2.cell? ⟨w.heap.size, 2, none⟩ = some (.int .i64 s.blocks) := by rw [cell_of hr0]; rfl
    have f3 : w2.cell? ⟨w.heap.size, 3, none⟩ = some (.int .i64 s.counters) := by rw [cell_of hr0]; rfl
    have f4 : w2.cell? ⟨w.heap.size, 4, none⟩ = some (.int .i64 s.log) := by rw [cell_of hr0]; rfl
    have f5 : w2.cell? ⟨w.heap.size, 5, none⟩ = some (.int .i64 s.head) := by rw [cell_of hr0]; rfl
    have f6 : w2.cell? ⟨w.heap.size, 6, none⟩ = some (.int .i64 s.applied) := by rw [cell_of hr0]; rfl
    have fz := free_of hr0 0
    go_wp2_with fail
    have hws : Fr (fun k => k = w.heap.size) w2 (w2.setCell ⟨w.heap.size, 0, none⟩ (.int .i64 (s.version + 1))) := (Fr.refl _ _).setCell (by exact .inl rfl) _
    have hn0 := set_cell hr0 0 (.int .i64 (s.version + 1))
    generalize w2.setCell ⟨w.heap.size, 0, none⟩ (.int .i64 (s.version + 1)) = w3 at *
    have hn3 : w3.heap[w.heap.size]? = some (.cells s.next.cells.toArray 29 (0, 0)) := hn0
    have hr13 := (hf2.keep0 R1.out)
    have hR13 := hws.keep hr13 (by omega)
    have HF3 := Lib.hid ((H1.out.then0 hf2).trans hws (S := F0) (by intro k hk; exact .inr (by omega)))
    have HN3 := Lib.hid hn3
    have HR13 := Lib.hid hR13
    clear f0 f1 f2 f3 f4 f5 f6 fz hn0 hn3 hr13 hR13 hws hf2 hr0
    refine (encode_c s.next).mono ?_
    rintro e w4 ⟨v, rfl, ho, hno, hf4⟩
    have hR14 := hf4.keep0 HR13.out
    have hN4 := hf4.keep0 HN3.out
    have HF4 := Lib.hid (HF3.out.then0 hf4)
    have HN4 := Lib.hid hN4
    have HR14 := Lib.hid hR14
    have hlt3 : w.heap.size ≤ w3.heap.size := HF3.out.size
    clear hR14
    by_cases hns : s.next.sane = true
    · have hgood : s.good = true := by
        rw [Sup.good_iff]
        exact ⟨by simpa [Sup.sane] using HSN.out, by simpa [Sup.sane] using hns⟩
      have hee : s.next.encE = 0 := by simp [Sup.encE, hns]
      rw [hee]
      obtain ⟨A, c, rfl, hby, hnew⟩ := (ho hns).byt
      have hel := s.next.enc_len
      have HGD := Lib.hid hgood
      have HEL := Lib.hid hel
      rw [hel]
      have g0 : w4.cell? ⟨w.heap.size, 0, none⟩ = some (.int .i64 (s.version + 1)) := by rw [cell_of hN4]; rfl
      have hsz4 := hf4.size
      have HBY := Lib.hid hby
      clear ho hno hns hgood hee hel hN4 hf4 hby
      go_wp2_with fail
      refine (write_c (HH.out.keep0 HF4.out) ((s.version + 1) % 2) A c s.next.enc 64 (by have := HBY.out.at_; rw [HEL.out] at this; exact this) (by intro _ ad e; have := hnew ad e; omega)).mono ?_
      rintro e w5 ⟨rfl, h5, hf5⟩
      have hwE : D.writeE ((s.version + 1) % 2) s.next.enc = D.saveWE s := rfl
      have hwD : D.write ((s.version + 1) % 2) s.next.enc = D.saveW s := rfl
      rw [hwE]
      rw [hwD] at h5
      have hr5 := hf5.keep HR14.out (by rintro (h' | h' | h') <;> omega)
      have hn5 := hf5.keep HN4.out (by rintro (h' | h' | h') <;> omega)
      have HF5 := Lib.hid (HF4.out.of0.trans hf5 (fun _ hk => .inl hk))
      have H5 := Lib.hid h5
      have HR5 := Lib.hid hr5
      have HN5 := Lib.hid hn5
      clear hwE hwD hr5 hn5 hf5 h5 g0
      by_cases hwe : D.saveWE s = 0
      · have HWE := Lib.hid hwe
        rw [hwe]
        clear hwe
        go_wp2_with fail
        refine (flush_c H5.out).mono ?_
        rintro e w6 ⟨rfl, h6, hf6⟩
        have HF6 := Lib.hid (HF5.out.trans hf6 (fun _ hk => .inl hk))
        have HR6 := Lib.hid (hf6.keep HR5.out (by rintro (h' | h' | h') <;> omega))
        have HN6 := Lib.hid (hf6.keep HN5.out (by rintro (h' | h' | h') <;> omega))
        have H6 := Lib.hid h6
        have hE : D.saveE s = (D.saveW s).flushE := by simp [Dev.saveE, HGD.out, HWE.out]
        have hD : D.save s = (D.saveW s).flush := by simp [Dev.save, HGD.out, HWE.out]
        obtain ⟨fe, hfe⟩ : ∃ fe, fe = (D.saveW s).flushE := ⟨_, rfl⟩
        rw [← hfe]
        rw [← hfe] at hE
        have HE := Lib.hid hE
        have HD := Lib.hid hD
        clear h6 hf6 hE hD hfe
        by_cases hf0 : fe = 0
        · have hS : D.saveS s = s.next := by simp [Dev.saveS, HE.out, hf0]
          have HS := Lib.hid hS
          obtain ⟨d, hu, hd⟩ := und_super
          have HU := Lib.hid hu
          have HDD := Lib.hid hd
          have HCS : Hid (∀ i v, s.next.cells[i]? = some v → w6.cell? ⟨w.heap.size, 0 + i, none⟩ = some v) := Lib.hid (by
            intro i v hv
            rw [cell_of HN6.out]
            simpa using hv)
          subst hf0
          clear hu hd hS
          go_wp2_with ((refine wpList_load_at rfl 29 (.tmp 3) rfl w.heap.size 0 (by rfl) s.next.cells d HCS.out HU.out HDD.out size_super ?_; refine wpList_store_at rfl 29 (.tmp 4) (.tmp 37) rfl (w.heap.size + 1) 0 s.next.cells (by rfl) (by rfl) 29 Sup.zero.cells HR6.out size_super (Nat.le_refl 7) (Sup.one _) ?_))
          have hfz : Fr (fun k => k = w.heap.size + 1) w6 (w6.setRow (w.heap.size + 1) (splat Sup.zero.cells 0 s.next.cells).toArray) := (Fr.refl _ _).setRow (by exact .inl rfl) _
          refine sup_ret (b := w.heap.size + 1) (t := 29) (s := s.next) Tryd.results20 (by rfl) (by rfl) rfl ?_ ⟨by rw [HE.out, HS.out], ?_, HF6.out.trans hfz (fun k hk => .inr (by omega))⟩
          · rw [setRow_heap w6 (w.heap.size + 1) _ _ _ _ HR6.out, splat_all Sup.zero.cells s.next.cells rfl]
          · rw [HD.out]
            exact H6.out.keep hfz (by omega) (by omega) (by omega)
        · have hS : D.saveS s = Sup.zero := by simp [Dev.saveS, HE.out, hf0]
          have HS := Lib.hid hS
          have hb0 : (fe != 0) = true := by simp [hf0]
          clear hS hf0
          go_wp2_with (refine wpList_store_at rfl 29 (.tmp 4) (.tmp 35) rfl (w.heap.size + 1) 0 Sup.zero.cells (by rfl) (by rfl) 29 Sup.zero.cells HR6.out size_super (by decide) (Sup.one _) ?_)
          have hfz : Fr (fun k => k = w.heap.size + 1) w6 (w6.setRow (w.heap.size + 1) (splat Sup.zero.cells 0 Sup.zero.cells).toArray) := (Fr.refl _ _).setRow (by exact .inl rfl) _
          refine sup_ret (b := w.heap.size + 1) (t := 29) Tryd.results20 (by rfl) (by rfl) rfl ?_ ⟨by rw [HE.out, HS.out], ?_, HF6.out.trans hfz (fun k hk => .inr (by omega))⟩
          · rw [setRow_heap w6 (w.heap.size + 1) _ _ _ _ HR6.out, splat_all _ _ rfl]
          · rw [HD.out]
            exact H6.out.keep hfz (by omega) (by omega) (by omega)
      · have hE : D.saveE s = D.saveWE s := by simp [Dev.saveE, HGD.out, hwe]
        have hD : D.save s = D.saveW s := by simp [Dev.save, HGD.out, hwe]
        have hS : D.saveS s = Sup.zero := by simp [Dev.saveS, hE, hwe]
        obtain ⟨fe, hfe⟩ : ∃ fe, fe = D.saveWE s := ⟨_, rfl⟩
        rw [← hfe] at hE hwe ⊢
        have HE := Lib.hid hE
        have HD := Lib.hid hD
        have HS := Lib.hid hS
        have hb0 : (fe != 0) = true := by simp [hwe]
        have hb1 : (fe == 0) = false := by simp [hwe]
        clear hE hD hS hwe hfe
        go_wp2_with (refine wpList_store_at rfl 29 (.tmp 4) (.tmp 35) rfl (w.heap.size + 1) 0 Sup.zero.cells (by rfl) (by rfl) 29 Sup.zero.cells HR5.out size_super (by decide) (Sup.one _) ?_)
        have hfz : Fr (fun k => k = w.heap.size + 1) w5 (w5.setRow (w.heap.size + 1) (splat Sup.zero.cells 0 Sup.zero.cells).toArray) := (Fr.refl _ _).setRow (by exact .inl rfl) _
        refine sup_ret (b := w.heap.size + 1) (t := 29) Tryd.results20 (by rfl) (by rfl) rfl ?_ ⟨by rw [HE.out, HS.out], ?_, HF5.out.trans hfz (fun k hk => .inr (by omega))⟩
        · rw [setRow_heap w5 (w.heap.size + 1) _ _ _ _ HR5.out, splat_all _ _ rfl]
        · rw [HD.out]
          exact H5.out.keep hfz (by omega) (by omega) (by omega)
    · have hns' : s.next.sane = false := by simpa using hns
      have hg : s.good = false := by
        cases hgd : s.good with
        | false => rfl
        | true =>
          have := (Sup.good_iff s).1 hgd
          exact absurd (by simpa [Sup.sane] using this.2) hns
      have hee : s.next.encE = 1 := by simp [Sup.encE, hns']
      have hE : D.saveE s = 1 := by simp [Dev.saveE, hg]
      have hD : D.save s = D := by simp [Dev.save, hg]
      have hS : D.saveS s = Sup.zero := by simp [Dev.saveS, hE]
      have HE := Lib.hid hE
      have HD := Lib.hid hD
      have HS := Lib.hid hS
      rw [hee, hno hns']
      clear ho hno hns hns' hee hg hE hD hS hN4
      go_wp2_with (refine wpList_store_at rfl 29 (.tmp 4) (.tmp 35) rfl (w.heap.size + 1) 0 Sup.zero.cells (by rfl) (by rfl) 29 Sup.zero.cells HR14.out size_super (by decide) (Sup.one _) ?_)
      have hfz : Fr F0 w (w4.setRow (w.heap.size + 1) (splat Sup.zero.cells 0 Sup.zero.cells).toArray) := HF4.out.setRow (by exact .inr (by omega)) _
      refine sup_ret (b := w.heap.size + 1) (t := 29) Tryd.results20 (by rfl) (by rfl) rfl ?_ ⟨by rw [HE.out, HS.out], ?_, hfz.of0⟩
      · rw [setRow_heap w4 (w.heap.size + 1) _ _ _ _ HR14.out, splat_all _ _ rfl]
      · rw [HD.out]
        exact HH.out.keep0 hfz
  · have hs' : s.sane = false := by simpa using hs
    have hg : s.good = false := by simp [Sup.good, hs']
    have hE : D.saveE s = 1 := by simp [Dev.saveE, hg]
    have hD : D.save s = D := by simp [Dev.save, hg]
    have hS : D.saveS s = Sup.zero := by simp [Dev.saveS, hE]
    have HE := Lib.hid hE
    have HD := Lib.hid hD
    have HS := Lib.hid hS
    have HSN := Lib.hid hs'
    clear hs hs' hg hE hD hS
    go_enter Tryd.func20, Tryd.ntmps20
    go_wp2_with fail
    refine (sane_c s).mono ?_
    rintro e w2 ⟨rfl, hf2⟩
    rw [HSN.out]
    generalize (w.alloc (.cells #[.int .i64 s.version, .int .i64 s.epoch, .int .i64 s.blocks, .int .i64 s.counters, .int .i64 s.log, .int .i64 s.head, .int .i64 s.applied] 29)).alloc (.cells #[.int .i64 0, .int .i64 0, .int .i64 0, .int .i64 0, .int .i64 0, .int .i64 0, .int .i64 0] 29) = w1 at *
    have HR1 := Lib.hid (hf2.keep0 R1.out)
    have HF2 := Lib.hid (H1.out.then0 hf2)
    clear hf2
    go_wp2_with (refine wpList_store_at rfl 29 (.tmp 4) (.tmp 11) rfl (w.heap.size + 1) 0 Sup.zero.cells (by rfl) (by rfl) 29 Sup.zero.cells HR1.out size_super (by decide) (Sup.one _) ?_)
    have hfe : Fr F0 w (w2.setRow (w.heap.size + 1) (splat Sup.zero.cells 0 Sup.zero.cells).toArray) := HF2.out.setRow (by exact .inr (by omega)) _
    refine sup_ret (b := w.heap.size + 1) (t := 29) Tryd.results20 (by rfl) (by rfl) rfl ?_ ⟨by rw [HE.out, HS.out], ?_, hfe.of0⟩
    · rw [setRow_heap w2 (w.heap.size + 1) _ _ _ _ HR1.out, splat_all _ _ rfl]
    · rw [HD.out]
      exact HH.out.keep0 hfe
end
end Go.Proofs.YtdeckbdaencjnaaDoor
