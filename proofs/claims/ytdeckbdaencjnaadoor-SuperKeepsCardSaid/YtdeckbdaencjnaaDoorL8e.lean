/-
  SuperKeeps: the walk. Conditions: none.
-/
import Derived.Test.YtdeckbdaencjnaaDoorL8c
import Derived.Test.YtdeckbdaencjnaaDoorL8d
import Derived.Test.YtdeckbdaencjnaaDoorDevG
set_option linter.unusedVariables false
set_option linter.unusedSimpArgs false
namespace Go.Proofs.YtdeckbdaencjnaaDoor
open Go.RowKit
section
variable {w : World}
structure KeepsIn (db lb mb p : Nat) (j : Nat) (w1 wr : World) : Prop where
  ex : ∃ D last now, DevAt Tryd.prog 3 wr db lb mb D ∧ KeepsRun j D last now ∧ wr.heap[p]? = some (.cells last.cells.toArray 29 (0, 0)) ∧ wr.heap[p + 1]? = some (.cells now.cells.toArray 29 (0, 0))
  fr : Fr (fun k => k = db ∨ k = lb ∨ k = mb ∨ k = p ∨ k = p + 1) w1 wr
set_option maxRecDepth 100000 in
set_option maxHeartbeats 4000000 in
theorem keeps8_walk (A0 : Option Addr) (n0 c0 : Nat) (xs : List Int) (bu : Int) (A2 : Option Addr) (n2 c2 : Nat) (bs : List Bool) (hl0 : xs.length = n0) (hV0 : ValsAt w A0 (xs.map (Value.int .i64))) (hn0 : n0 ≤ 9223372036854775807)
    (hl2 : bs.length = n2) (hB2 : ValsAt w A2 (bs.map Value.bool)) (hn2 : n2 ≤ 9223372036854775807) :
    Calls Tryd.prog 9 #[.slice A0 n0 c0, .int .i64 bu, .slice A2 n2 c2] w fun e w' => e = .returned (.bool true) ∧ Fr F0 w w' := by
  have HL0 := Lib.hid hl0
  have HL2 := Lib.hid hl2
  clear hl0 hl2
  have a0 : (0 : Int) ≤ (n0 : Int) := Int.natCast_nonneg _
  have a2 : (0 : Int) ≤ (n2 : Int) := Int.natCast_nonneg _
  by_cases hbig : 20 < n0 ∨ 20 < n2
  · go_enter Tryd.func9, Tryd.ntmps9
    go_wp2_with fail
    refine (awake_c _).mono ?_
    rintro e w1 ⟨rfl, hf1⟩
    have hb : (20 : Int) < (n0 : Int) ∨ (20 : Int) < (n2 : Int) := by omega
    by_cases hb0 : (20 : Int) < (n0 : Int)
    · clear hbig hb
      go_wp2_with fail
      go_ret
      exact ⟨rfl, hf1⟩
    · have hb2 : (20 : Int) < (n2 : Int) := by omega
      clear hbig hb
      go_wp2_with fail
      go_ret
      exact ⟨rfl, hf1⟩
  obtain ⟨b, hb⟩ : ∃ b, b = bu % 32 := ⟨_, rfl⟩
  have b0 : 0 ≤ b := by omega
  have b1 : b < 32 := by omega
  have hx : bits .and .i64 bu 31 = b := by rw [hb]; exact i64_and bu 5 (by decide)
  clear hb
  have m0 : ¬ (20 : Int) < (n0 : Int) := by omega
  have m2 : ¬ (20 : Int) < (n2 : Int) := by omega
  have M0 : Hid (n0 ≤ 20) := Lib.hid (by omega)
  have M2 : Hid (n2 ≤ 20) := Lib.hid (by omega)
  clear hbig
  obtain ⟨x1, x2, x3, x4, -, -⟩ := new_save 4 (by decide) sup1_good
  have X1 := Lib.hid x1
  have X2 := Lib.hid x2
  have X3 := Lib.hid x3
  have X4 := Lib.hid x4
  clear x1 x2 x3 x4
  obtain ⟨du, hu, hdd⟩ := und_super
  have HU := Lib.hid hu
  have HDD := Lib.hid hdd
  clear hu hdd
  go_enter Tryd.func9, Tryd.ntmps9
  go_wp2_with fail
  refine (awake_c _).mono ?_
  rintro e w1 ⟨rfl, hf1⟩
  go_wp2_with fail
  refine (new_c 4 (by decide) (by decide) _).mono ?_
  rintro e w2 ⟨db, lb, mb, rfl, hD2, n1, n2', n3, hf2⟩
  have HF2 := Lib.hid (hf1.then0 hf2)
  have hnd : NewDev w db lb mb := ⟨Nat.le_trans hf1.size n1, Nat.le_trans hf1.size n2', Nat.le_trans hf1.size n3⟩
  have hlt2 := hD2.lt
  go_wp2_with fail
  refine (save_n hD2 sup1).mono ?_
  rintro e w3 ⟨s1, rfl, hs1, hD3, hf3⟩
  rw [X1.out]
  have e1 : s1 = ⟨1, 0, 0, 0, 1, 0, 0⟩ := hs1.out.trans X2.out
  subst e1
  have HF3 := Lib.hid (HF2.out.dev hnd hf3)
  clear hf3 hs1
  go_wp2_with fail
  obtain ⟨p, hp⟩ : ∃ p, p = w3.heap.size := ⟨_, rfl⟩
  have c4 : ((w3.alloc (.cells #[.int .i64 1, .int .i64 0, .int .i64 0, .int .i64 0, .int .i64 1, .int .i64 0, .int .i64 0] 29)).alloc (.cells #[.int .i64 1, .int .i64 0, .int .i64 0, .int .i64 0, .int .i64 1, .int .i64 0, .int .i64 0] 29)).heap[p]? = some (.cells (⟨1, 0, 0, 0, 1, 0, 0⟩ : Sup).cells.toArray 29 (0, 0)) := keep_alloc (alloc_at hp _) _
  have d4 : ((w3.alloc (.cells #[.int .i64 1, .int .i64 0, .int .i64 0, .int .i64 0, .int .i64 1, .int .i64 0, .int .i64 0] 29)).alloc (.cells #[.int .i64 1, .int .i64 0, .int .i64 0, .int .i64 0, .int .i64 1, .int .i64 0, .int .i64 0] 29)).heap[p + 1]? = some (.cells (⟨1, 0, 0, 0, 1, 0, 0⟩ : Sup).cells.toArray 29 (0, 0)) := alloc_at (by rw [hp]; simp) _
  have f4 : Fr F0 w3 ((w3.alloc (.cells #[.int .i64 1, .int .i64 0, .int .i64 0, .int .i64 0, .int .i64 1, .int .i64 0, .int .i64 0] 29)).alloc (.cells #[.int .i64 1, .int .i64 0, .int .i64 0, .int .i64 0, .int .i64 1, .int .i64 0, .int .i64 0] 29)) := ((Fr.refl _ _).alloc _).alloc _
  have hz3 := HF3.out.size
  have hDp : db < p ∧ lb < p ∧ mb < p := by rw [hp]; exact hD3.lt
  have hwp : w.heap.size ≤ p := by omega
  rw [← hp]
  generalize ((w3.alloc (.cells #[.int .i64 1, .int .i64 0, .int .i64 0, .int .i64 0, .int .i64 1, .int .i64 0, .int .i64 0] 29)).alloc (.cells #[.int .i64 1, .int .i64 0, .int .i64 0, .int .i64 0, .int .i64 1, .int .i64 0, .int .i64 0] 29)) = w4 at *
  have hD4 := hD3.keep0 f4
  have HF4 := Lib.hid (HF3.out.then0 f4)
  clear f4 hp hz3
  refine (budget_c hD4 b (by omega)).mono ?_
  rintro e w5 ⟨rfl, hD5, hf5⟩
  have hp1 := lt_of_block d4
  have c5 := hf5.keep c4 (by omega)
  have d5 := hf5.keep d4 (by omega)
  have K0 : KeepsRun 0 (((Dev.new 4).save sup1).budgeted b) ⟨1, 0, 0, 0, 1, 0, 0⟩ ⟨1, 0, 0, 0, 1, 0, 0⟩ := KeepsRun.start ⟨X3.out.laid, X3.out.late, X3.out.gone⟩ X4.out rfl
  have HF5 := Lib.hid (HF4.out.trans hf5 (by intro i hi; subst hi; exact .inr hnd.d))
  have KI : KeepsIn db lb mb p 0 w5 w5 := ⟨⟨_, _, _, hD5, K0, c5, d5⟩, Fr.refl _ _⟩
  have hz5 := HF5.out.size
  have hz45 := hf5.size
  clear c4 d4 c5 d5 K0 hf5 hD5 hD4 hD3 hD2
  go_wp2_with fail
  go_loopg [13] n0 (fun kq v wr => ∃ j : Nat, j ≤ n0 ∧ kq = n0 - j ∧ v = .int .i64 (j : Int) ∧ KeepsIn db lb mb p j w5 wr)
  case atStart => exact ⟨0, by omega, rfl, rfl, KI⟩
  case round =>
    obtain ⟨j, hj, rfl, rfl, ⟨⟨D, last, now, hD, hK, hP, hQ⟩, hfr⟩⟩ := hrel
    have HP := Lib.hid hP
    have HQ := Lib.hid hQ
    have HD := Lib.hid hD
    have HK := Lib.hid hK
    have HFR := Lib.hid hfr
    have hz := hfr.size
    have hpr := lt_of_block hQ
    have hVr := hV0.keep0 (HF5.out.trans hfr (by intro i hi; refine .inr ?_; have := hnd.d; have := hnd.l; have := hnd.m; rcases hi with h' | h' | h' | h' | h' <;> omega))
    have hj0 : (0 : Int) ≤ (j : Int) := Int.natCast_nonneg _
    have hlt := hD.lt
    have HFW : Hid (Fr F0 w wr) := Lib.hid (HF5.out.trans hfr (by intro i hi; refine .inr ?_; have := hnd.d; have := hnd.l; have := hnd.m; rcases hi with h' | h' | h' | h' | h' <;> omega))
    clear hP hQ hD hK hfr
    by_cases hjn : j < n0
    · have hj1 : (j : Int) < (n0 : Int) := by omega
      obtain ⟨ad, rfl, hc⟩ := hVr.cells (by simp; have := HL0.out; omega)
      obtain ⟨x, hx'⟩ : ∃ x, xs[j]? = some x := ⟨xs[j]'(by have := HL0.out; omega), List.getElem?_eq_getElem _⟩
      obtain ⟨ad2, e2, hc2⟩ := (hVr.keep0 ((Fr.refl _ _).alloc (.cells #[.int .i64 last.version, .int .i64 last.epoch, .int .i64 last.blocks, .int .i64 last.counters, .int .i64 last.log, .int .i64 last.head, .int .i64 last.applied] 29))).cells (by simp; have := HL0.out; omega)
      cases e2
      have gx : (wr.alloc (.cells #[.int .i64 last.version, .int .i64 last.epoch, .int .i64 last.blocks, .int .i64 last.counters, .int .i64 last.log, .int .i64 last.head, .int .i64 last.applied] 29)).cell? (ad.add j) = some (.int .i64 x) := hc2 j _ (by simp [hx'])
      obtain ⟨hd, hhd⟩ : ∃ hd, hd = x % 65536 := ⟨_, rfl⟩
      have hd0 : 0 ≤ hd := by omega
      have hd1 : hd < 65536 := by omega
      have hhx : bits .and .i64 x 65535 = hd := by rw [hhd]; exact i64_and x 16 (by decide)
      clear hc hc2 hx' hhd
      obtain ⟨q0, q1, q2, q3, q4, q5, q6⟩ := sup_cells HP.out
      cases hg : D.gone with
      | true =>
        go_wp2_with (go_at_call 42; refine (gone_c HD.out).mono ?_; rintro e w' ⟨rfl, rfl⟩; rw [hg])
        have hB2r := hB2.keep0 HFW.out
        refine (crash_c HD.out A2 c2 bs n2 HL2.out hB2r (by intro ad e hp hs; subst e; obtain ⟨ad', e', hc⟩ := hB2.cells (by simpa using hp); cases e'; have h0 := hc 0 (.bool (bs[0]'hp)) (by simp [hp]); have h1 := World.block_lt_of_cell? w _ h0; have h2 : ad.block < w.heap.size := (by simpa [Addr.add] using h1); have := hnd.d; have := hnd.l; have := hnd.m; rcases hs with h' | h' | h' <;> omega) (by have := M2.out; omega)).mono ?_
        rintro e w8 ⟨rfl, hD8, hf8⟩
        have hld := HK.out.kept.load bs
        have hby := HK.out.kept.bys bs
        have hz8 := hf8.size
        have p8 := hf8.keep HP.out (by rintro (h' | h' | h') <;> omega)
        have o8 := hf8.keep HQ.out (by rintro (h' | h' | h') <;> omega)
        have HF8 := Lib.hid (HFW.out.dev hnd hf8)
        have HD8 := Lib.hid hD8
        have HBY := Lib.hid hby
        clear hD8 hf8 hB2r hby
        go_wp2_with fail
        refine (load_n HD8.out HBY.out).mono ?_
        rintro e w9 ⟨s9, rfl, hs9, hf9⟩
        rw [hld.1]
        have x9 : Fr F0 w8 (w9.alloc (.cells #[.int .i64 s9.version, .int .i64 s9.epoch, .int .i64 s9.blocks, .int .i64 s9.counters, .int .i64 s9.log, .int .i64 s9.head, .int .i64 s9.applied] 29)) := hf9.alloc _
        have p9 := x9.keep0 p8
        have o9 := x9.keep0 o8
        have HF9 := Lib.hid (HF8.out.then0 x9)
        have hw9 := hf9.size
        have hv := HK.out.nv
        have hs9' := hld.2
        rw [← hs9.out] at hs9'
        clear hs9 hf9 hld x9 p8 o8
        obtain ⟨t0, t1, t2, t3, t4, t5, t6⟩ := sup_cells p9
        obtain ⟨u0, u1, u2, u3, u4, u5, u6⟩ := sup_cells o9
        clear p9 o9
        rcases hs9' with rfl | rfl
        · clear hv u0 u1 u2 u3 u4 u5 u6
          go_wp2_with fail
          go_ret
          exact ⟨rfl, HF9.out⟩
        · rcases hv with rfl | hv
          · clear u0 u1 u2 u3 u4 u5 u6
            go_wp2_with fail
            go_ret
            exact ⟨rfl, HF9.out⟩
          · have hne : (s9.version == last.version) = false := by rw [beq_eq_false_iff_ne]; omega
            clear hv
            go_wp2_with fail
            go_ret
            exact ⟨rfl, HF9.out⟩
      | false =>
        have lv0 := HK.out.v0
        have lv1 : last.version ≤ 1 + (j : Int) := HK.out.v1
        have j20 : (j : Int) ≤ 20 := by have := M0.out; omega
        have x0 : (wr.alloc (.cells #[.int .i64 last.version, .int .i64 last.epoch, .int .i64 last.blocks, .int .i64 last.counters, .int .i64 last.log, .int .i64 hd, .int .i64 last.applied] 29)).heap[wr.heap.size]? = some (.cells (last.headed hd).cells.toArray 29 (0, 0)) := alloc_at rfl _
        have xf : Fr F0 wr (wr.alloc (.cells #[.int .i64 last.version, .int .i64 last.epoch, .int .i64 last.blocks, .int .i64 last.counters, .int .i64 last.log, .int .i64 hd, .int .i64 last.applied] 29)) := (Fr.refl _ _).alloc _
        have HXP := Lib.hid (xf.keep0 HP.out)
        have HXQ := Lib.hid (xf.keep0 HQ.out)
        have yf : Fr (fun k => k = p + 1) (wr.alloc (.cells #[.int .i64 last.version, .int .i64 last.epoch, .int .i64 last.blocks, .int .i64 last.counters, .int .i64 last.log, .int .i64 hd, .int .i64 last.applied] 29)) ((wr.alloc (.cells #[.int .i64 last.version, .int .i64 last.epoch, .int .i64 last.blocks, .int .i64 last.counters, .int .i64 last.log, .int .i64 hd, .int .i64 last.applied] 29)).setRow (p + 1) (splat now.cells 0 (last.headed hd).cells).toArray) := (Fr.refl _ _).setRow (by exact .inl rfl) _
        have y1 : ((wr.alloc (.cells #[.int .i64 last.version, .int .i64 last.epoch, .int .i64 last.blocks, .int .i64 last.counters, .int .i64 last.log, .int .i64 hd, .int .i64 last.applied] 29)).setRow (p + 1) (splat now.cells 0 (last.headed hd).cells).toArray).heap[p + 1]? = some (.cells (last.headed hd).cells.toArray 29 (0, 0)) := by rw [setRow_heap _ (p + 1) _ _ _ _ HXQ.out, splat_all now.cells (last.headed hd).cells rfl]
        have y2 := yf.keep x0 (by omega)
        have y3 := yf.keep HXP.out (by omega)
        have g0 : ((wr.alloc (.cells #[.int .i64 last.version, .int .i64 last.epoch, .int .i64 last.blocks, .int .i64 last.counters, .int .i64 last.log, .int .i64 hd, .int .i64 last.applied] 29)).setRow (p + 1) (splat now.cells 0 (last.headed hd).cells).toArray).cell? ⟨p + 1, 0, none⟩ = some (.int .i64 last.version) := by rw [cell_of y1]; rfl
        have g1 : ((wr.alloc (.cells #[.int .i64 last.version, .int .i64 last.epoch, .int .i64 last.blocks, .int .i64 last.counters, .int .i64 last.log, .int .i64 hd, .int .i64 last.applied] 29)).setRow (p + 1) (splat now.cells 0 (last.headed hd).cells).toArray).frozen? ⟨p + 1, 0, none⟩ = false := free_of y1 0
        have zf : Fr (fun k => k = p + 1) ((wr.alloc (.cells #[.int .i64 last.version, .int .i64 last.epoch, .int .i64 last.blocks, .int .i64 last.counters, .int .i64 last.log, .int .i64 hd, .int .i64 last.applied] 29)).setRow (p + 1) (splat now.cells 0 (last.headed hd).cells).toArray) (((wr.alloc (.cells #[.int .i64 last.version, .int .i64 last.epoch, .int .i64 last.blocks, .int .i64 last.counters, .int .i64 last.log, .int .i64 hd, .int .i64 last.applied] 29)).setRow (p + 1) (splat now.cells 0 (last.headed hd).cells).toArray).setCell ⟨p + 1, 0, none⟩ (.int .i64 (last.version + 1))) := (Fr.refl _ _).setCell (by exact .inl rfl) _
        have z1 : (((wr.alloc (.cells #[.int .i64 last.version, .int .i64 last.epoch, .int .i64 last.blocks, .int .i64 last.counters, .int .i64 last.log, .int .i64 hd, .int .i64 last.applied] 29)).setRow (p + 1) (splat now.cells 0 (last.headed hd).cells).toArray).setCell ⟨p + 1, 0, none⟩ (.int .i64 (last.version + 1))).heap[p + 1]? = some (.cells (last.headed hd).next.cells.toArray 29 (0, 0)) := set_cell y1 0 _
        have z2 := zf.keep y2 (by omega)
        have HZP := Lib.hid (zf.keep y3 (by omega))
        have HZ1 := Lib.hid z1
        have HZ2 := Lib.hid z2
        have HZD := Lib.hid (((HD.out.keep0 xf).keep yf (by omega) (by omega) (by omega)).keep zf (by omega) (by omega) (by omega))
        have HZF := Lib.hid (((HFR.out.then0 xf).trans yf (by intro i hi; subst hi; exact .inl (.inr (.inr (.inr (.inr rfl))))) ).trans zf (by intro i hi; subst hi; exact .inl (.inr (.inr (.inr (.inr rfl))))))
        have HCZ : Hid (∀ i v, (last.headed hd).cells[i]? = some v → (((wr.alloc (.cells #[.int .i64 last.version, .int .i64 last.epoch, .int .i64 last.blocks, .int .i64 last.counters, .int .i64 last.log, .int .i64 hd, .int .i64 last.applied] 29)).setRow (p + 1) (splat now.cells 0 (last.headed hd).cells).toArray).setCell ⟨p + 1, 0, none⟩ (.int .i64 (last.version + 1))).cell? ⟨wr.heap.size, 0 + i, none⟩ = some v) := Lib.hid (by
          intro i v hv
          rw [cell_of z2]
          simpa using hv)
        clear x0 xf yf y1 y2 y3 zf z1 z2
        go_wp2_with (first | (go_at_call 42; refine (gone_c HD.out).mono ?_; rintro e w' ⟨rfl, rfl⟩; rw [hg]) | (refine wpList_store_at rfl 29 (.tmp 12) (.tmp 62) rfl (p + 1) 0 (last.headed hd).cells (by rfl) (by rfl) 29 now.cells HXQ.out size_super (Nat.le_refl 7) (Sup.one _) ?_) | (refine wpList_load_at rfl 29 (.tmp 14) rfl wr.heap.size 0 (by rfl) (last.headed hd).cells du HCZ.out HU.out HDD.out size_super ?_))
        generalize (((wr.alloc (.cells #[.int .i64 last.version, .int .i64 last.epoch, .int .i64 last.blocks, .int .i64 last.counters, .int .i64 last.log, .int .i64 hd, .int .i64 last.applied] 29)).setRow (p + 1) (splat now.cells 0 (last.headed hd).cells).toArray).setCell ⟨p + 1, 0, none⟩ (.int .i64 (last.version + 1))) = wz at *
        obtain ⟨nx, hnx⟩ : ∃ nx, nx = (last.headed hd).next := ⟨_, rfl⟩
        have hstep := HK.out.step hg (by have := M0.out; omega) hd0 hd1
        rw [← hnx] at hstep HZ1
        have HNX := Lib.hid hnx
        clear hnx
        have hwz := HZF.out.size
        refine (save_n HZD.out (last.headed hd)).mono ?_
        rintro e w6 ⟨s6, rfl, hs6, hD6, hf6⟩
        have hz6 := hf6.size
        have hpz := lt_of_block HZ1.out
        have p6 := hf6.keep HZP.out (by rintro (h' | h' | h') <;> omega)
        have o6 := hf6.keep HZ1.out (by rintro (h' | h' | h') <;> omega)
        have HF6 := Lib.hid (HZF.out.trans hf6 (by intro i hi; rcases hi with h' | h' | h' <;> (refine .inl ?_; simp [h'])))
        have HD6 := Lib.hid hD6
        clear hD6 hf6
        rcases hstep with ⟨e1, e2, e3⟩ | ⟨e1, e3⟩
        · have HE3 := Lib.hid e3
          rw [e1]
          obtain rfl : s6 = nx := hs6.out.trans e2
          clear e1 e2 e3 hs6
          have x7 : Fr F0 w6 (w6.alloc (.cells #[.int .i64 s6.version, .int .i64 s6.epoch, .int .i64 s6.blocks, .int .i64 s6.counters, .int .i64 s6.log, .int .i64 s6.head, .int .i64 s6.applied] 29)) := (Fr.refl _ _).alloc _
          have c7 : (w6.alloc (.cells #[.int .i64 s6.version, .int .i64 s6.epoch, .int .i64 s6.blocks, .int .i64 s6.counters, .int .i64 s6.log, .int .i64 s6.head, .int .i64 s6.applied] 29)).heap[w6.heap.size]? = some (.cells s6.cells.toArray 29 (0, 0)) := alloc_at rfl _
          obtain ⟨r0, r1, r2, r3, r4, r5, r6⟩ := sup_cells (x7.keep0 o6)
          have HC7 : Hid (∀ i v, s6.cells[i]? = some v → (w6.alloc (.cells #[.int .i64 s6.version, .int .i64 s6.epoch, .int .i64 s6.blocks, .int .i64 s6.counters, .int .i64 s6.log, .int .i64 s6.head, .int .i64 s6.applied] 29)).cell? ⟨w6.heap.size, 0 + i, none⟩ = some v) := Lib.hid (by
            intro i v hv
            rw [cell_of c7]
            simpa using hv)
          have P7 := Lib.hid (x7.keep0 p6)
          have O7 := Lib.hid (x7.keep0 o6)
          have HD7 := Lib.hid (HD6.out.keep0 x7)
          have HF7 := Lib.hid (HF6.out.then0 x7)
          clear x7 c7 p6 o6
          go_wp2_with ((refine wpList_load_at rfl 29 (.tmp 15) rfl w6.heap.size 0 (by rfl) s6.cells du HC7.out HU.out HDD.out size_super ?_; refine wpList_store_at rfl 29 (.tmp 10) (.tmp 78) rfl p 0 s6.cells (by rfl) (by rfl) 29 last.cells P7.out size_super (Nat.le_refl 7) (Sup.one _) ?_))
          go_roundg (n0 - (j + 1))
          case measure => omega
          case rel =>
            have yf : Fr (fun k => k = p) (w6.alloc (.cells #[.int .i64 s6.version, .int .i64 s6.epoch, .int .i64 s6.blocks, .int .i64 s6.counters, .int .i64 s6.log, .int .i64 s6.head, .int .i64 s6.applied] 29)) ((w6.alloc (.cells #[.int .i64 s6.version, .int .i64 s6.epoch, .int .i64 s6.blocks, .int .i64 s6.counters, .int .i64 s6.log, .int .i64 s6.head, .int .i64 s6.applied] 29)).setRow p (splat last.cells 0 s6.cells).toArray) := (Fr.refl _ _).setRow (by exact .inl rfl) _
            refine ⟨j + 1, by omega, rfl, by first | rfl | (go_num), ⟨⟨_, s6, s6, HD7.out.keep yf (by omega) (by omega) (by omega), HE3.out, ?_, yf.keep O7.out (by omega)⟩, HF7.out.trans yf (by intro i hi; subst hi; exact .inl (.inr (.inr (.inr (.inl rfl)))))⟩⟩
            rw [setRow_heap _ p _ _ _ _ P7.out, splat_all last.cells s6.cells rfl]
        · have HE3 := Lib.hid e3
          rw [e1]
          clear e1 e3
          have x7 : Fr F0 w6 (w6.alloc (.cells #[.int .i64 s6.version, .int .i64 s6.epoch, .int .i64 s6.blocks, .int .i64 s6.counters, .int .i64 s6.log, .int .i64 s6.head, .int .i64 s6.applied] 29)) := (Fr.refl _ _).alloc _
          have P7 := Lib.hid (x7.keep0 p6)
          have O7 := Lib.hid (x7.keep0 o6)
          have HD7 := Lib.hid (HD6.out.keep0 x7)
          have HF7 := Lib.hid (HF6.out.then0 x7)
          clear x7 p6 o6
          go_wp2_with fail
          go_roundg (n0 - (j + 1))
          case measure => omega
          case rel =>
            exact ⟨j + 1, by omega, rfl, by first | rfl | (go_num), ⟨⟨_, last, nx, HD7.out, HE3.out, P7.out, O7.out⟩, HF7.out⟩⟩
    · have hjn2 : ¬ ((j : Int) < (n0 : Int)) := by omega
      go_wp2_with fail
      have hB2r := hB2.keep0 HFW.out
      refine (crash_c HD.out A2 c2 bs n2 HL2.out hB2r (by intro ad e hp hs; subst e; obtain ⟨ad', e', hc⟩ := hB2.cells (by simpa using hp); cases e'; have h0 := hc 0 (.bool (bs[0]'hp)) (by simp [hp]); have h1 := World.block_lt_of_cell? w _ h0; have h2 : ad.block < w.heap.size := (by simpa [Addr.add] using h1); have := hnd.d; have := hnd.l; have := hnd.m; rcases hs with h' | h' | h' <;> omega) (by have := M2.out; omega)).mono ?_
      rintro e w8 ⟨rfl, hD8, hf8⟩
      have hld := HK.out.kept.load bs
      have hby := HK.out.kept.bys bs
      have hz8 := hf8.size
      have p8 := hf8.keep HP.out (by rintro (h' | h' | h') <;> omega)
      have o8 := hf8.keep HQ.out (by rintro (h' | h' | h') <;> omega)
      have HF8 := Lib.hid (HFW.out.dev hnd hf8)
      have HD8 := Lib.hid hD8
      have HBY := Lib.hid hby
      clear hD8 hf8 hB2r hby
      go_wp2_with fail
      refine (load_n HD8.out HBY.out).mono ?_
      rintro e w9 ⟨s9, rfl, hs9, hf9⟩
      rw [hld.1]
      have x9 : Fr F0 w8 (w9.alloc (.cells #[.int .i64 s9.version, .int .i64 s9.epoch, .int .i64 s9.blocks, .int .i64 s9.counters, .int .i64 s9.log, .int .i64 s9.head, .int .i64 s9.applied] 29)) := hf9.alloc _
      have p9 := x9.keep0 p8
      have o9 := x9.keep0 o8
      have HF9 := Lib.hid (HF8.out.then0 x9)
      have hw9 := hf9.size
      have hv := HK.out.nv
      have hs9' := hld.2
      rw [← hs9.out] at hs9'
      clear hs9 hf9 hld x9 p8 o8
      obtain ⟨t0, t1, t2, t3, t4, t5, t6⟩ := sup_cells p9
      obtain ⟨u0, u1, u2, u3, u4, u5, u6⟩ := sup_cells o9
      clear p9 o9
      rcases hs9' with rfl | rfl
      · clear hv u0 u1 u2 u3 u4 u5 u6
        go_wp2_with fail
        go_ret
        exact ⟨rfl, HF9.out⟩
      · rcases hv with rfl | hv
        · clear u0 u1 u2 u3 u4 u5 u6
          go_wp2_with fail
          go_ret
          exact ⟨rfl, HF9.out⟩
        · have hne : (s9.version == last.version) = false := by rw [beq_eq_false_iff_ne]; omega
          clear hv
          go_wp2_with fail
          go_ret
          exact ⟨rfl, HF9.out⟩
end
end Go.Proofs.YtdeckbdaencjnaaDoor
