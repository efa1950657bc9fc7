/-
  heronryref08: Decode. Conditions: none.
-/
import Derived.Test.YtdeckbdaencjnaaDoorRf10
set_option linter.unusedVariables false
set_option linter.unusedSimpArgs false
namespace Go.Proofs.YtdeckbdaencjnaaDoor
open Go.RowKit
theorem rdec_ret {a : Act} {w : World} {b : Nat} {t : TypeId} {s : Sup} {e : Int} {R : Ending → World → Prop} (ha : a.tmps.getD 2 undef = .pointer (some ⟨b, 0, none⟩)) (hc : a.tmps.getD 3 undef = .int .i64 e) (hd : a.defers = [])
    (hh : w.heap[b]? = some (.cells s.cells.toArray t (0, 0))) (hR : R (.returned (.tuple #[.agg s.cells.toArray, .int .i64 e])) w) : bodyPost Tryd.prog Tryd.f26 R .ret a w :=
  bodyPost_ret (results_cell2 Tryd.results26 ha hc (load_rsuper hh)) hd hR
section
variable {w : World}
set_option maxRecDepth 100000 in
set_option maxHeartbeats 4000000 in
theorem rdecode_c (A : Option Addr) (n c : Nat) (xs : List Int) (hA : BytesAt w A n xs) (hcap : n ≤ c) (hn : n ≤ 1099511627776) (hb : Bys xs) :
    Calls Tryd.prog 26 #[.slice A n c] w fun e w' => e = .returned (.tuple #[.agg (decS xs).cells.toArray, .int .i64 (decE xs)]) ∧ Fr F0 w w' := by
  have hl := hA.len
  have HL := Lib.hid hl
  have hn' : (n : Int) ≤ 1099511627776 := by omega
  clear hl
  by_cases h1 : n < 64
  · have hE : decE xs = 2 := by unfold decE; rw [HL.out, if_pos h1]
    have HE := Lib.hid hE
    have HSS := Lib.hid (decS_bad (xs := xs) (by rw [hE]; decide))
    have g1 : (n : Int) < 64 := by omega
    clear hE
    go_enter Tryd.func26, Tryd.ntmps26
    go_wp2_with fail
    exact rdec_ret (by rfl) (by rfl) rfl (alloc_at rfl _) ⟨by rw [HE.out, HSS.out], (Fr.refl _ _).alloc _⟩
  by_cases h2 : 64 < n
  · have hE : decE xs = 3 := by unfold decE; rw [HL.out, if_neg h1, if_pos h2]
    have HE := Lib.hid hE
    have HSS := Lib.hid (decS_bad (xs := xs) (by rw [hE]; decide))
    have g1 : ¬ (n : Int) < 64 := by omega
    have g2 : (64 : Int) < (n : Int) := by omega
    clear hE
    go_enter Tryd.func26, Tryd.ntmps26
    go_wp2_with fail
    exact rdec_ret (by rfl) (by rfl) rfl (alloc_at rfl _) ⟨by rw [HE.out, HSS.out], (Fr.refl _ _).alloc _⟩
  have hn64 : n = 64 := by omega
  subst hn64
  have hE := decE_64 HL.out
  have HE := Lib.hid hE
  have hlt : ∀ ad, A = some ad → ad.block < w.heap.size := fun ad e => by subst e; exact hA.lt (by decide)
  have HLT := Lib.hid hlt
  have HB := Lib.hid hb
  clear hE h1 h2 hn' hlt
  have HD : Hid ((w.alloc (.cells #[.int .i64 0, .int .i64 0, .int .i64 0, .int .i64 0, .int .i64 0, .int .i64 0, .int .i64 0] 23)).heap[w.heap.size]? = some (.cells Sup.zero.cells.toArray 23 (0, 0))) := Lib.hid (alloc_at rfl _)
  have HFR : Hid (Fr F0 w (w.alloc (.cells #[.int .i64 0, .int .i64 0, .int .i64 0, .int .i64 0, .int .i64 0, .int .i64 0, .int .i64 0] 23))) := Lib.hid ((Fr.refl _ _).alloc _)
  have HA := Lib.hid (hA.keep0 HFR.out)
  clear hA
  go_enter Tryd.func26, Tryd.ntmps26
  go_wp2_with fail
  refine (ropen_c A 64 c xs HA.out hcap hn hb).mono ?_
  rintro e w1 ⟨v, rfl, hv, hf1⟩
  have HFR := Lib.hid (HFR.out.then0 hf1)
  have HD := Lib.hid (hf1.keep0 HD.out)
  have HA := Lib.hid (HA.out.keep0 hf1)
  have hz1 : w.heap.size < w1.heap.size := by have := hf1.size; simp at this; omega
  clear hf1 hb hv
  by_cases hs : sealed xs = true
  · have ho : openE xs = 0 := by simp [openE, HL.out, hs]
    have hE2 : decE xs = if okForm xs = true then 0 else 3 := by rw [HE.out, if_neg (by rw [hs]; decide)]
    have HE2 := Lib.hid hE2
    have HSD := Lib.hid hs
    rw [ho]
    clear ho hE2 hs
    have hrd : RRd (w1.alloc (.cells #[.slice A 64 c, .int .i64 8] 114)) w1.heap.size A 64 c xs 8 := ⟨⟨_, alloc_at rfl _⟩, HA.out.keep0 ((Fr.refl _ _).alloc _), HB.out, by decide, fun ad e _ => by have := HLT.out ad e; omega, by decide⟩
    have HRD := Lib.hid hrd
    have hf2 : Fr F0 w1 (w1.alloc (.cells #[.slice A 64 c, .int .i64 8] 114)) := (Fr.refl _ _).alloc _
    have HFR := Lib.hid (HFR.out.then0 hf2)
    have HA := Lib.hid (HA.out.keep0 hf2)
    have HD := Lib.hid (hf2.keep0 HD.out)
    have HZ : Hid (w.heap.size ≤ (w1.alloc (.cells #[.slice A 64 c, .int .i64 8] 114)).heap.size) := Lib.hid (by simp; omega)
    clear hrd hf2
    go_wp2_with fail
    refine (rget_c HRD.out 8 (by decide) (by decide) (by decide)).mono ?_
    rintro e w3 ⟨rfl, hrd, hf⟩
    obtain ⟨u0, hu⟩ : ∃ u, u = unle ((xs.drop 8).take 8) := ⟨_, rfl⟩
    rw [← hu]
    have HU0 := Lib.hid hu
    have HRD := Lib.hid hrd
    have HD := Lib.hid (hf.keep HD.out (by omega))
    have HFR := Lib.hid (HFR.out.trans hf (by intro i hi; exact .inr (by omega)))
    have HA := Lib.hid (HA.out.keep hf (by intro hp ad e h; have := HLT.out ad e; omega))
    have HZ := Lib.hid (Nat.le_trans HZ.out hf.size)
    clear hu hrd hf
    go_wp2_with fail
    refine (rget_c HRD.out 4 (by decide) (by decide) (by decide)).mono ?_
    rintro e w4 ⟨rfl, hrd, hf⟩
    obtain ⟨u1, hu⟩ : ∃ u, u = unle ((xs.drop 16).take 4) := ⟨_, rfl⟩
    rw [← hu]
    have HU1 := Lib.hid hu
    have HRD := Lib.hid hrd
    have HD := Lib.hid (hf.keep HD.out (by omega))
    have HFR := Lib.hid (HFR.out.trans hf (by intro i hi; exact .inr (by omega)))
    have HA := Lib.hid (HA.out.keep hf (by intro hp ad e h; have := HLT.out ad e; omega))
    have HZ := Lib.hid (Nat.le_trans HZ.out hf.size)
    clear hu hrd hf
    go_wp2_with fail
    refine (rget_c HRD.out 2 (by decide) (by decide) (by decide)).mono ?_
    rintro e w5 ⟨rfl, hrd, hf⟩
    obtain ⟨u2, hu⟩ : ∃ u, u = unle ((xs.drop 20).take 2) := ⟨_, rfl⟩
    rw [← hu]
    have HU2 := Lib.hid hu
    have HRD := Lib.hid hrd
    have HD := Lib.hid (hf.keep HD.out (by omega))
    have HFR := Lib.hid (HFR.out.trans hf (by intro i hi; exact .inr (by omega)))
    have HA := Lib.hid (HA.out.keep hf (by intro hp ad e h; have := HLT.out ad e; omega))
    have HZ := Lib.hid (Nat.le_trans HZ.out hf.size)
    clear hu hrd hf
    go_wp2_with fail
    refine (rget_c HRD.out 2 (by decide) (by decide) (by decide)).mono ?_
    rintro e w6 ⟨rfl, hrd, hf⟩
    obtain ⟨u3, hu⟩ : ∃ u, u = unle ((xs.drop 22).take 2) := ⟨_, rfl⟩
    rw [← hu]
    have HU3 := Lib.hid hu
    have HRD := Lib.hid hrd
    have HD := Lib.hid (hf.keep HD.out (by omega))
    have HFR := Lib.hid (HFR.out.trans hf (by intro i hi; exact .inr (by omega)))
    have HA := Lib.hid (HA.out.keep hf (by intro hp ad e h; have := HLT.out ad e; omega))
    have HZ := Lib.hid (Nat.le_trans HZ.out hf.size)
    clear hu hrd hf
    go_wp2_with fail
    refine (rget_c HRD.out 2 (by decide) (by decide) (by decide)).mono ?_
    rintro e w7 ⟨rfl, hrd, hf⟩
    obtain ⟨u4, hu⟩ : ∃ u, u = unle ((xs.drop 24).take 2) := ⟨_, rfl⟩
    rw [← hu]
    have HU4 := Lib.hid hu
    have HRD := Lib.hid hrd
    have HD := Lib.hid (hf.keep HD.out (by omega))
    have HFR := Lib.hid (HFR.out.trans hf (by intro i hi; exact .inr (by omega)))
    have HA := Lib.hid (HA.out.keep hf (by intro hp ad e h; have := HLT.out ad e; omega))
    have HZ := Lib.hid (Nat.le_trans HZ.out hf.size)
    clear hu hrd hf
    go_wp2_with fail
    refine (rget_c HRD.out 8 (by decide) (by decide) (by decide)).mono ?_
    rintro e w8 ⟨rfl, hrd, hf⟩
    obtain ⟨u5, hu⟩ : ∃ u, u = unle ((xs.drop 26).take 8) := ⟨_, rfl⟩
    rw [← hu]
    have HU5 := Lib.hid hu
    have HRD := Lib.hid hrd
    have HD := Lib.hid (hf.keep HD.out (by omega))
    have HFR := Lib.hid (HFR.out.trans hf (by intro i hi; exact .inr (by omega)))
    have HA := Lib.hid (HA.out.keep hf (by intro hp ad e h; have := HLT.out ad e; omega))
    have HZ := Lib.hid (Nat.le_trans HZ.out hf.size)
    clear hu hrd hf
    go_wp2_with fail
    refine (rget_c HRD.out 8 (by decide) (by decide) (by decide)).mono ?_
    rintro e w9 ⟨rfl, hrd, hf⟩
    obtain ⟨u6, hu⟩ : ∃ u, u = unle ((xs.drop 34).take 8) := ⟨_, rfl⟩
    rw [← hu]
    have HU6 := Lib.hid hu
    have HRD := Lib.hid hrd
    have HD := Lib.hid (hf.keep HD.out (by omega))
    have HFR := Lib.hid (HFR.out.trans hf (by intro i hi; exact .inr (by omega)))
    have HA := Lib.hid (HA.out.keep hf (by intro hp ad e h; have := HLT.out ad e; omega))
    have HZ := Lib.hid (Nat.le_trans HZ.out hf.size)
    clear hu hrd hf
    obtain ⟨s, hs⟩ : ∃ s : Sup, s = ⟨wrap64 u0, wrap64 u1, wrap64 u2, wrap64 u3, wrap64 u4, wrap64 u5, wrap64 u6⟩ := ⟨_, rfl⟩
    have e0 : wrap64 u0 = s.version := by rw [hs]
    have e1 : wrap64 u1 = s.epoch := by rw [hs]
    have e2 : wrap64 u2 = s.blocks := by rw [hs]
    have e3 : wrap64 u3 = s.counters := by rw [hs]
    have e4 : wrap64 u4 = s.log := by rw [hs]
    have e5 : wrap64 u5 = s.head := by rw [hs]
    have e6 : wrap64 u6 = s.applied := by rw [hs]
    have hsd : s = decF xs := by rw [hs, HU0.out, HU1.out, HU2.out, HU3.out, HU4.out, HU5.out, HU6.out]; rfl
    have HSD2 := Lib.hid hsd
    have hfx : Fr F0 w9 (w9.alloc (.cells #[.int .i64 s.version, .int .i64 s.epoch, .int .i64 s.blocks, .int .i64 s.counters, .int .i64 s.log, .int .i64 s.head, .int .i64 s.applied] 23)) := (Fr.refl _ _).alloc _
    have HD := Lib.hid (hfx.keep0 HD.out)
    have HFR := Lib.hid (HFR.out.then0 hfx)
    have HSUP : Hid ((w9.alloc (.cells #[.int .i64 s.version, .int .i64 s.epoch, .int .i64 s.blocks, .int .i64 s.counters, .int .i64 s.log, .int .i64 s.head, .int .i64 s.applied] 23)).heap[w9.heap.size]? = some (.cells s.cells.toArray 23 (0, 0))) := Lib.hid (alloc_at rfl _)
    have HA := Lib.hid (HA.out.keep0 hfx)
    clear hs hsd hfx
    go_wp2_with (refine wpList_store_fresh rfl 23 (.tmp 21) (.tmp 92) rfl #[.int .i64 s.version, .int .i64 s.epoch, .int .i64 s.blocks, .int .i64 s.counters, .int .i64 s.log, .int .i64 s.head, .int .i64 s.applied] (by rfl) (by rfl) 23 #[.int .i64 0, .int .i64 0, .int .i64 0, .int .i64 0, .int .i64 0, .int .i64 0, .int .i64 0] (by rw [size_rsuper]; rfl) rfl (by rfl) ?_)
    clear e0 e1 e2 e3 e4 e5 e6
    refine (rencode_c s).mono ?_
    rintro e w10 ⟨v10, rfl, hv1, hv2, hf10⟩
    have HD := Lib.hid (hf10.keep0 HD.out)
    have HFR := Lib.hid (HFR.out.then0 hf10)
    have HSUP := Lib.hid (hf10.keep0 HSUP.out)
    have HA := Lib.hid (HA.out.keep0 hf10)
    have hok : okForm xs = true ↔ (s.Sane ∧ s.enc = xs) := by rw [HSD2.out]; exact enc_dec HB.out HL.out HSD.out
    have HOK := Lib.hid hok
    clear hok hf10
    have hbad : okForm xs = false → decE xs = 3 := fun h => by rw [HE2.out, h]; rfl
    have HBAD := Lib.hid hbad
    clear hbad
    cases hsn : s.sane with
    | false =>
      have hok : okForm xs = false := by
        cases hk : okForm xs with
        | false => rfl
        | true =>
          have := (HOK.out.1 hk).1
          rw [Sup.sane_yes this] at hsn; cases hsn
      have hr : s.encE = 1 := by simp [Sup.encE, hsn]
      have hE3 := HBAD.out hok
      have HE3 := Lib.hid hE3
      have HS3 := Lib.hid (decS_bad (xs := xs) (by rw [hE3]; decide))
      rw [hr]
      clear hr hE3 hok hsn hv1 hv2
      go_wp2_with (refine wpList_store_at rfl 23 (.tmp 2) (.tmp 107) rfl w.heap.size 0 Sup.zero.cells (by rfl) (by rfl) 23 Sup.zero.cells HD.out size_rsuper (by decide) (Sup.one _) ?_)
      refine rdec_ret (b := w.heap.size) (t := 23) (by rfl) (by rfl) rfl ?_ ⟨by rw [HE3.out, HS3.out], HFR.out.setRow (by exact .inr (Nat.le_refl _)) _⟩
      rw [setRow_heap w10 w.heap.size _ _ _ _ HD.out, splat_all _ _ rfl]
    | true =>
      have hown := hv1 hsn
      have hsan : s.Sane := by simpa [Sup.sane] using hsn
      have HSAN := Lib.hid hsan
      obtain ⟨A10, c10, rfl, hb10, hn10⟩ := hown.byt
      have hr : s.encE = 0 := by simp [Sup.encE, hsn]
      rw [hr, s.enc_len]
      have hat := hb10.at_
      rw [s.enc_len] at hat
      have r1 := conv_at hat und_bytes und_u8 r_und_str c10
      have r2 := conv_at HA.out und_bytes und_u8 r_und_str c
      have hq := str_eq_nums (Sup.enc_bys s) HB.out
      obtain ⟨ys, hys⟩ : ∃ ys, ys = s.enc := ⟨_, rfl⟩
      rw [← hys] at r1 hq
      have HYS := Lib.hid hys
      clear hv1 hv2 hown hb10 hn10 hat hr hys hsn hsan
      by_cases hex : ys = xs
      · rw [decide_eq_true hex] at hq
        have hok : okForm xs = true := HOK.out.2 ⟨HSAN.out, by rw [← HYS.out]; exact hex⟩
        have hE0 : decE xs = 0 := by rw [HE2.out, hok]; rfl
        have HE0 := Lib.hid hE0
        have HS0 := Lib.hid (decS_ok hE0)
        clear hok hE0 hex
        obtain ⟨d, hu, hd⟩ := und_rsuper
        have HU := Lib.hid hu
        have HDD := Lib.hid hd
        have hcs : ∀ j v, s.cells[j]? = some v → w10.cell? ⟨w9.heap.size, 0 + j, none⟩ = some v := by
          intro j v hv
          rw [cell_of HSUP.out]
          simpa using hv
        have HCS := Lib.hid hcs
        clear hu hd hcs
        go_wp2_with ((refine wpList_load_at rfl 23 (.tmp 21) rfl w9.heap.size 0 (by rfl) s.cells d HCS.out HU.out HDD.out size_rsuper ?_; refine wpList_store_at rfl 23 (.tmp 2) (.tmp 108) rfl w.heap.size 0 s.cells (by rfl) (by rfl) 23 Sup.zero.cells HD.out size_rsuper (Nat.le_refl 7) (Sup.one _) ?_))
        refine rdec_ret (b := w.heap.size) (t := 23) (s := s) (by rfl) (by rfl) rfl ?_ ⟨by rw [HE0.out, HS0.out, ← HSD2.out], HFR.out.setRow (by exact .inr (Nat.le_refl _)) _⟩
        rw [setRow_heap w10 w.heap.size _ _ _ _ HD.out, splat_all Sup.zero.cells s.cells rfl]
      · rw [decide_eq_false hex] at hq
        have hok : okForm xs = false := by
          cases hk : okForm xs with
          | false => rfl
          | true => exact absurd (by rw [HYS.out]; exact (HOK.out.1 hk).2) hex
        have hE3 := HBAD.out hok
        have HE3 := Lib.hid hE3
        have HS3 := Lib.hid (decS_bad (xs := xs) (by rw [hE3]; decide))
        clear hok hE3 hex
        go_wp2_with (refine wpList_store_at rfl 23 (.tmp 2) (.tmp 107) rfl w.heap.size 0 Sup.zero.cells (by rfl) (by rfl) 23 Sup.zero.cells HD.out size_rsuper (by decide) (Sup.one _) ?_)
        refine rdec_ret (b := w.heap.size) (t := 23) (by rfl) (by rfl) rfl ?_ ⟨by rw [HE3.out, HS3.out], HFR.out.setRow (by exact .inr (Nat.le_refl _)) _⟩
        rw [setRow_heap w10 w.heap.size _ _ _ _ HD.out, splat_all _ _ rfl]
  · have ho : openE xs = 4 := by simp [openE, HL.out, hs]
    have hs' : sealed xs = false := by simpa using hs
    have hE4 : decE xs = 4 := by rw [HE.out, if_pos hs']
    have HE4 := Lib.hid hE4
    have HS4 := Lib.hid (decS_bad (xs := xs) (by rw [hE4]; decide))
    rw [ho]
    clear ho hs hs' hE4
    go_wp2_with (refine wpList_store_at rfl 23 (.tmp 2) (.tmp 38) rfl w.heap.size 0 Sup.zero.cells (by rfl) (by rfl) 23 Sup.zero.cells HD.out size_rsuper (by decide) (Sup.one _) ?_)
    refine rdec_ret (b := w.heap.size) (t := 23) (by rfl) (by rfl) rfl ?_ ⟨by rw [HE4.out, HS4.out], HFR.out.setRow (by exact .inr (Nat.le_refl _)) _⟩
    rw [setRow_heap w1 w.heap.size _ _ _ _ HD.out, splat_all _ _ rfl]
end
end Go.Proofs.YtdeckbdaencjnaaDoor
