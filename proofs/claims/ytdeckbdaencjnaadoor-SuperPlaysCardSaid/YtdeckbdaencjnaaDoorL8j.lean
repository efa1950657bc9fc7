/-
  SuperIs: the walk. Conditions: none.
-/
import Derived.Test.YtdeckbdaencjnaaDoorRf14
set_option linter.unusedVariables false
set_option linter.unusedSimpArgs false
namespace Go.Proofs.YtdeckbdaencjnaaDoor
open Go.RowKit
theorem rdecode_m {w : World} (A : Option Addr) (n c : Nat) (xs : List Int) (hA : BytesAt w A n xs) (hc : n ≤ c) (hn : n ≤ 1099511627776) (hb : Bys xs) :
    Calls Tryd.prog 26 #[.slice A n c] w fun e w' => ∃ s, e = .returned (.tuple #[.agg #[.int .i64 s.version, .int .i64 s.epoch, .int .i64 s.blocks, .int .i64 s.counters, .int .i64 s.log, .int .i64 s.head, .int .i64 s.applied], .int .i64 (decE xs)]) ∧ Hid (s = decS xs) ∧ Fr F0 w w' := by
  refine (rdecode_c A n c xs hA hc hn hb).mono ?_
  rintro e w' ⟨rfl, hf⟩
  exact ⟨_, rfl, Lib.hid rfl, hf⟩
/-- What Encode tells, as bytes. -/
def Sup.encB (s : Sup) : List Int := if s.sane = true then s.enc else []
theorem EncRet.bytes {w w' : World} {e : Ending} {s : Sup} (h : EncRet w w' e s) : ∃ A c, e = .returned (.tuple #[.slice A s.encB.length c, .int .i64 s.encE]) ∧ BytesAt w' A s.encB.length s.encB ∧ Fr F0 w w' := by
  obtain ⟨v, rfl, h1, h2, hf⟩ := h.ex
  unfold Sup.encB
  cases hs : s.sane with
  | true =>
    obtain ⟨A, c, rfl, hb, -⟩ := (h1 hs).byt
    exact ⟨A, c, by simp, by simpa using hb.at_, hf⟩
  | false =>
    rw [h2 hs]
    exact ⟨none, 0, by simp, by simpa using BytesAt.nil w' none, hf⟩
section
variable {w : World}
set_option maxRecDepth 100000 in
set_option maxHeartbeats 8000000 in
theorem is_walk (s : Sup) (A : Option Addr) (n c : Nat) (b : List Int) (hA : Byt w A c b) (hb : Bys b) (hl : b.length = n) :
    Calls Tryd.prog 6 #[(.agg #[.int .i64 s.version, .int .i64 s.epoch, .int .i64 s.blocks, .int .i64 s.counters, .int .i64 s.log, .int .i64 s.head, .int .i64 s.applied]), .slice A n c] w fun e w' => e = .returned (.bool true) ∧ Fr F0 w w' := by
  have hn0 : (0 : Int) ≤ (n : Int) := Int.natCast_nonneg _
  have HA := Lib.hid hA
  have HB := Lib.hid hb
  have HL := Lib.hid hl
  clear hA hb hl
  by_cases hbig : 200 < n
  · have hb : (200 : Int) < (n : Int) := by omega
    clear hbig
    go_enter Tryd.func6, Tryd.ntmps6
    go_wp2_with fail
    refine (awake_c _).mono ?_
    rintro e w1 ⟨rfl, hf1⟩
    go_wp2_with fail
    go_ret
    exact ⟨rfl, ((Fr.refl _ w).alloc _).then0 hf1⟩
  have hs200 : ¬ (200 : Int) < (n : Int) := by omega
  have N200 : Hid (n ≤ 200) := Lib.hid (by omega)
  clear hbig
  go_enter Tryd.func6, Tryd.ntmps6
  go_wp2_with fail
  have c0 : (w.alloc (.cells #[.int .i64 s.version, .int .i64 s.epoch, .int .i64 s.blocks, .int .i64 s.counters, .int .i64 s.log, .int .i64 s.head, .int .i64 s.applied] 23)).heap[w.heap.size]? = some (.cells s.cells.toArray 23 (0, 0)) := alloc_at rfl _
  have f0 : Fr F0 w (w.alloc (.cells #[.int .i64 s.version, .int .i64 s.epoch, .int .i64 s.blocks, .int .i64 s.counters, .int .i64 s.log, .int .i64 s.head, .int .i64 s.applied] 23)) := (Fr.refl _ _).alloc _
  refine (awake_c _).mono ?_
  rintro e w1 ⟨rfl, hf1⟩
  have C2 := Lib.hid (hf1.keep0 c0)
  have HF := Lib.hid (f0.then0 hf1)
  obtain ⟨q0, q1, q2, q3, q4, q5, q6⟩ := sup_cells C2.out
  clear c0 f0 hf1
  go_wp2_with fail
  refine (ours_c s).mono ?_
  rintro e w2 ⟨rfl, hf2⟩
  have C2 := Lib.hid (hf2.keep0 C2.out)
  have HF := Lib.hid (HF.out.then0 hf2)
  clear hf2 q0 q1 q2 q3 q4 q5 q6
  go_wp2_with fail
  refine (encode_c s).mono ?_
  intro e w3 hret
  obtain ⟨A6, c6, rfl, hb6, hf3⟩ := hret.bytes
  obtain ⟨xs, hxs⟩ : ∃ xs, xs = s.encB := ⟨_, rfl⟩
  obtain ⟨n6, hn6⟩ : ∃ n6, n6 = s.encB.length := ⟨_, rfl⟩
  obtain ⟨eE, heE⟩ : ∃ eE, eE = s.encE := ⟨_, rfl⟩
  rw [← hn6, ← hxs] at hb6
  rw [← hn6, ← heE]
  have HXS := Lib.hid hxs
  have HN6 := Lib.hid hn6
  have HEE := Lib.hid heE
  have C2 := Lib.hid (hf3.keep0 C2.out)
  have HF := Lib.hid (HF.out.then0 hf3)
  have B6 := Lib.hid hb6
  obtain ⟨q0, q1, q2, q3, q4, q5, q6⟩ := sup_cells C2.out
  clear hret hf3 hb6 hxs hn6 heE
  go_wp2_with fail
  refine (rencode_c s).mono ?_
  intro e w4 hret
  obtain ⟨A8, c8, rfl, hb8, hf4⟩ := hret.bytes
  rw [← HN6.out, ← HXS.out] at hb8
  rw [← HN6.out, ← HEE.out]
  have C2 := Lib.hid (hf4.keep0 C2.out)
  have HF := Lib.hid (HF.out.then0 hf4)
  have B6 := Lib.hid (B6.out.keep0 hf4)
  have B8 := Lib.hid hb8
  clear hret hf4 hb8 q0 q1 q2 q3 q4 q5 q6
  go_wp2_with fail
  refine (decode_n A n c b HL.out (HA.out.keep0 HF.out) (by rw [HL.out]; have := N200.out; omega) HB.out).mono ?_
  rintro e w5 ⟨u, rfl, HT, hf5⟩
  have hf5' : Fr F0 w4 (w5.alloc (.cells #[.int .i64 u.version, .int .i64 u.epoch, .int .i64 u.blocks, .int .i64 u.counters, .int .i64 u.log, .int .i64 u.head, .int .i64 u.applied] 29)) := hf5.alloc _
  obtain ⟨dE, hdE⟩ : ∃ dE, dE = decE b := ⟨_, rfl⟩
  rw [← hdE]
  have HDE := Lib.hid hdE
  have C2 := Lib.hid (hf5'.keep0 C2.out)
  have HF := Lib.hid (HF.out.then0 hf5')
  have B6 := Lib.hid (B6.out.keep0 hf5')
  have B8 := Lib.hid (B8.out.keep0 hf5')
  have C10 : Hid ((w5.alloc (.cells #[.int .i64 u.version, .int .i64 u.epoch, .int .i64 u.blocks, .int .i64 u.counters, .int .i64 u.log, .int .i64 u.head, .int .i64 u.applied] 29)).heap[w5.heap.size]? = some (.cells u.cells.toArray 29 (0, 0))) := Lib.hid (alloc_at rfl _)
  clear hf5 hf5' hdE
  go_wp2_with (refine wpList_store_fresh rfl 29 (.tmp 10) (.tmp 41) rfl #[.int .i64 u.version, .int .i64 u.epoch, .int .i64 u.blocks, .int .i64 u.counters, .int .i64 u.log, .int .i64 u.head, .int .i64 u.applied] (by rfl) (by rfl) 29 #[.int .i64 0, .int .i64 0, .int .i64 0, .int .i64 0, .int .i64 0, .int .i64 0, .int .i64 0] (by rw [size_super]; rfl) rfl (by rfl) ?_)
  refine (rdecode_m A n c b (by have := (HA.out.keep0 HF.out).at_; rwa [HL.out] at this) (by have := HA.out.cap; rwa [HL.out] at this) (by have := N200.out; omega) HB.out).mono ?_
  rintro e w6 ⟨u2, rfl, HT2, hf6⟩
  obtain rfl : u2 = u := by rw [HT2.out, HT.out]
  obtain ⟨p10, hp10⟩ : ∃ p, p = w5.heap.size := ⟨_, rfl⟩
  rw [← hp10] at C10 ⊢
  have hf6' : Fr F0 (w5.alloc (.cells #[.int .i64 u2.version, .int .i64 u2.epoch, .int .i64 u2.blocks, .int .i64 u2.counters, .int .i64 u2.log, .int .i64 u2.head, .int .i64 u2.applied] 29)) (w6.alloc (.cells #[.int .i64 u2.version, .int .i64 u2.epoch, .int .i64 u2.blocks, .int .i64 u2.counters, .int .i64 u2.log, .int .i64 u2.head, .int .i64 u2.applied] 23)) := hf6.alloc _
  rw [← HDE.out]
  have C2 := Lib.hid (hf6'.keep0 C2.out)
  have HF := Lib.hid (HF.out.then0 hf6')
  have B6 := Lib.hid (B6.out.keep0 hf6')
  have B8 := Lib.hid (B8.out.keep0 hf6')
  have C10 := Lib.hid (hf6'.keep0 C10.out)
  have C12 : Hid ((w6.alloc (.cells #[.int .i64 u2.version, .int .i64 u2.epoch, .int .i64 u2.blocks, .int .i64 u2.counters, .int .i64 u2.log, .int .i64 u2.head, .int .i64 u2.applied] 23)).heap[w6.heap.size]? = some (.cells u2.cells.toArray 23 (0, 0))) := Lib.hid (alloc_at rfl _)
  obtain ⟨q0, q1, q2, q3, q4, q5, q6⟩ := sup_cells C2.out
  clear hf6 hf6' hp10
  go_wp2_with (refine wpList_store_fresh rfl 23 (.tmp 12) (.tmp 46) rfl #[.int .i64 u2.version, .int .i64 u2.epoch, .int .i64 u2.blocks, .int .i64 u2.counters, .int .i64 u2.log, .int .i64 u2.head, .int .i64 u2.applied] (by rfl) (by rfl) 23 #[.int .i64 0, .int .i64 0, .int .i64 0, .int .i64 0, .int .i64 0, .int .i64 0, .int .i64 0] (by rw [size_rsuper]; rfl) rfl (by rfl) ?_)
  refine (ours_c s).mono ?_
  rintro e w7 ⟨rfl, hf7⟩
  obtain ⟨p12, hp12⟩ : ∃ p, p = w6.heap.size := ⟨_, rfl⟩
  rw [← hp12] at C12 ⊢
  have C2 := Lib.hid (hf7.keep0 C2.out)
  have HF := Lib.hid (HF.out.then0 hf7)
  have B6 := Lib.hid (B6.out.keep0 hf7)
  have B8 := Lib.hid (B8.out.keep0 hf7)
  have C10 := Lib.hid (hf7.keep0 C10.out)
  have C12 := Lib.hid (hf7.keep0 C12.out)
  clear hf7 q0 q1 q2 q3 q4 q5 q6 hp12
  go_wp2_with fail
  refine (layout_c s).mono ?_
  rintro e w8 ⟨rfl, hf8⟩
  obtain ⟨y1, hy1⟩ : ∃ y, y = s.lay1 := ⟨_, rfl⟩
  obtain ⟨y2, hy2⟩ : ∃ y, y = s.lay2 := ⟨_, rfl⟩
  obtain ⟨y3, hy3⟩ : ∃ y, y = s.lay3 := ⟨_, rfl⟩
  obtain ⟨y4, hy4⟩ : ∃ y, y = s.lay4 := ⟨_, rfl⟩
  rw [← hy1, ← hy2, ← hy3, ← hy4]
  have HY1 := Lib.hid hy1
  have HY2 := Lib.hid hy2
  have HY3 := Lib.hid hy3
  have HY4 := Lib.hid hy4
  have C2 := Lib.hid (hf8.keep0 C2.out)
  have HF := Lib.hid (HF.out.then0 hf8)
  have B6 := Lib.hid (B6.out.keep0 hf8)
  have B8 := Lib.hid (B8.out.keep0 hf8)
  have C10 := Lib.hid (hf8.keep0 C10.out)
  have C12 := Lib.hid (hf8.keep0 C12.out)
  obtain ⟨q0, q1, q2, q3, q4, q5, q6⟩ := sup_cells C2.out
  clear hf8 hy1 hy2 hy3 hy4
  go_wp2_with fail
  refine (rlayout_c s).mono ?_
  rintro e wl ⟨rfl, hf9⟩
  rw [← HY1.out, ← HY2.out, ← HY3.out, ← HY4.out]
  have C2 := Lib.hid (hf9.keep0 C2.out)
  have HF := Lib.hid (HF.out.then0 hf9)
  have B6 := Lib.hid (B6.out.keep0 hf9)
  have B8 := Lib.hid (B8.out.keep0 hf9)
  have C10 := Lib.hid (hf9.keep0 C10.out)
  have C12 := Lib.hid (hf9.keep0 C12.out)
  obtain ⟨sB, hsB⟩ : ∃ b, b = s.sane := ⟨_, rfl⟩
  have HSB := Lib.hid hsB.symm
  clear hf9 q0 q1 q2 q3 q4 q5 q6 hsB
  go_wp2_with fail
  refine wp_region_free (S := F0) [false, false, false, false, true, false, false, false, false, false, false, false, false, false, false, false, false, false, false, false, false, false, false, false, false, false, false, false, false, false, false, false, false, false, false, false, false, false, false, false, false, false, false, false, false, false, false, false, false, false, false, false, false, false, false, false, false, false, false, false, false, false, false, true, true, true, true, true, true, true, true, true, true, true, true, true, true, true, true, true, true, true, true, true, true, true, true, true, true, true, true, true, true, true, true, true, true, true, true, true, true, true, true, true, true, true, true, true, true, true, true, true, true, true, true] [.eq (.bool true), .eq (.bool true), .eq (.agg #[.int .i64 s.version, .int .i64 s.epoch, .int .i64 s.blocks, .int .i64 s.counters, .int .i64 s.log, .int .i64 s.head, .int .i64 s.applied]), .eq (.agg #[.int .i64 s.version, .int .i64 s.epoch, .int .i64 s.blocks, .int .i64 s.counters, .int .i64 s.log, .int .i64 s.head, .int .i64 s.applied]), .eq (.bool sB), .eq (.agg #[.int .i64 s.version, .int .i64 s.epoch, .int .i64 s.blocks, .int .i64 s.counters, .int .i64 s.log, .int .i64 s.head, .int .i64 s.applied]), .eq (.bool sB), .eq (.bool true), .eq (.bool true), .eq (.bool true), .eq (.slice A6 n6 c6), .eq (.string (strOfNums xs)), .eq (.slice A8 n6 c8), .eq (.string (strOfNums xs)), .eq (.bool true), .eq (.bool true), .eq (.bool true), .eq (.int .i64 eE), .eq (.int .i64 eE), .eq (.bool true), .eq (.bool true), .eq (.bool true), .eq (.agg #[.int .i64 u2.version, .int .i64 u2.epoch, .int .i64 u2.blocks, .int .i64 u2.counters, .int .i64 u2.log, .int .i64 u2.head, .int .i64 u2.applied]), .eq (.agg #[.int .i64 u2.version, .int .i64 u2.epoch, .int .i64 u2.blocks, .int .i64 u2.counters, .int .i64 u2.log, .int .i64 u2.head, .int .i64 u2.applied]), .eq (.agg #[.int .i64 u2.version, .int .i64 u2.epoch, .int .i64 u2.blocks, .int .i64 u2.counters, .int .i64 u2.log, .int .i64 u2.head, .int .i64 u2.applied]), .eq (.bool true), .eq (.bool true), .eq (.bool true), .eq (.int .i64 dE), .eq (.int .i64 dE), .eq (.bool true), .eq (.bool true), .eq (.bool true), .eq (.int .i64 y1), .eq (.int .i64 y1), .eq (.bool true), .eq (.bool true), .eq (.bool true), .eq (.int .i64 y2), .eq (.int .i64 y2), .eq (.bool true), .eq (.bool true), .eq (.bool true), .eq (.int .i64 y3), .eq (.int .i64 y3), .eq (.bool true), .eq (.bool true), .eq (.bool true), .eq (.int .i64 y4), .eq (.int .i64 y4), .eq (.bool true), .eq (.bool true), .eq (.bool true)] (by kernel_rfl) (by kernel_rfl) (by rfl) (fun us => ?steps) (fun us wz hG hall => ?fin)
  case steps =>
    simp only [fillL, Nat.reduceAdd]
    refine stepsHold.cons (fun wx hG hd K hK => ?_) ?_
    · rw [if_pos (wanted_none rfl)]
      refine wp_value (w2 := wx) (v := .bool true) ?_ (hK _ _ rfl (Fr.refl _ _))
      clear hd hG hK
      go_simp
    refine stepsHold.cons (fun wx hG hd K hK => ?_) ?_
    · have h63 : us 63 = (.bool true) := deps_get hd 0 rfl rfl rfl rfl rfl
      rw [if_pos (wanted_none rfl)]
      refine wp_value (w2 := wx) (v := .bool true) ?_ (hK _ _ rfl (Fr.refl _ _))
      clear hd hG hK
      go_simp
    refine stepsHold.cons (fun wx hG hd K hK => ?_) ?_
    · have h64 : us 64 = (.bool true) := deps_get hd 0 rfl rfl rfl rfl rfl
      rw [if_pos (wanted_yes rfl rfl rfl rfl h64)]
      obtain ⟨q0, q1, q2, q3, q4, q5, q6⟩ := sup_cells (s := s) (hG.keep0 C2.out)
      refine wp_value (w2 := wx) (v := .agg #[.int .i64 s.version, .int .i64 s.epoch, .int .i64 s.blocks, .int .i64 s.counters, .int .i64 s.log, .int .i64 s.head, .int .i64 s.applied]) ?_ (hK _ _ rfl (Fr.refl _ _))
      clear hd hK
      go_simp
    refine stepsHold.cons (fun wx hG hd K hK => ?_) ?_
    · have h65 : us 65 = (.agg #[.int .i64 s.version, .int .i64 s.epoch, .int .i64 s.blocks, .int .i64 s.counters, .int .i64 s.log, .int .i64 s.head, .int .i64 s.applied]) := deps_get hd 0 rfl rfl rfl rfl rfl
      have h64 : us 64 = (.bool true) := deps_get hd 1 rfl rfl rfl rfl rfl
      rw [if_pos (wanted_yes rfl rfl rfl rfl h64)]
      refine wp_call (w2 := wx) (f := 17) (args := #[.agg #[.int .i64 s.version, .int .i64 s.epoch, .int .i64 s.blocks, .int .i64 s.counters, .int .i64 s.log, .int .i64 s.head, .int .i64 s.applied]]) ?_ ?_
      · clear hd hK
        go_simp
      · refine (ours_c s).mono ?_
        rintro e w9 ⟨rfl, hf9⟩
        exact ⟨_, rfl, hK _ _ rfl hf9⟩
    refine stepsHold.cons (fun wx hG hd K hK => ?_) ?_
    · have h66 : us 66 = (.agg #[.int .i64 s.version, .int .i64 s.epoch, .int .i64 s.blocks, .int .i64 s.counters, .int .i64 s.log, .int .i64 s.head, .int .i64 s.applied]) := deps_get hd 0 rfl rfl rfl rfl rfl
      have h64 : us 64 = (.bool true) := deps_get hd 2 rfl rfl rfl rfl rfl
      rw [if_pos (wanted_yes rfl rfl rfl rfl h64)]
      refine wp_call (w2 := wx) (f := 29) (args := #[.agg #[.int .i64 s.version, .int .i64 s.epoch, .int .i64 s.blocks, .int .i64 s.counters, .int .i64 s.log, .int .i64 s.head, .int .i64 s.applied]]) ?_ ?_
      · clear hd hK
        go_simp
      · refine (sane_c s).mono ?_
        rintro e w9 ⟨rfl, hf9⟩
        rw [HSB.out]
        exact ⟨_, rfl, hK _ _ rfl hf9⟩
    refine stepsHold.cons (fun wx hG hd K hK => ?_) ?_
    · have h64 : us 64 = (.bool true) := deps_get hd 0 rfl rfl rfl rfl rfl
      rw [if_pos (wanted_yes rfl rfl rfl rfl h64)]
      obtain ⟨q0, q1, q2, q3, q4, q5, q6⟩ := sup_cells (s := s) (hG.keep0 C2.out)
      refine wp_value (w2 := wx) (v := .agg #[.int .i64 s.version, .int .i64 s.epoch, .int .i64 s.blocks, .int .i64 s.counters, .int .i64 s.log, .int .i64 s.head, .int .i64 s.applied]) ?_ (hK _ _ rfl (Fr.refl _ _))
      clear hd hK
      go_simp
    refine stepsHold.cons (fun wx hG hd K hK => ?_) ?_
    · have h68 : us 68 = (.agg #[.int .i64 s.version, .int .i64 s.epoch, .int .i64 s.blocks, .int .i64 s.counters, .int .i64 s.log, .int .i64 s.head, .int .i64 s.applied]) := deps_get hd 0 rfl rfl rfl rfl rfl
      have h64 : us 64 = (.bool true) := deps_get hd 2 rfl rfl rfl rfl rfl
      rw [if_pos (wanted_yes rfl rfl rfl rfl h64)]
      refine wp_call (w2 := wx) (f := 30) (args := #[.agg #[.int .i64 s.version, .int .i64 s.epoch, .int .i64 s.blocks, .int .i64 s.counters, .int .i64 s.log, .int .i64 s.head, .int .i64 s.applied]]) ?_ ?_
      · clear hd hK
        go_simp
      · refine (rsane_c s).mono ?_
        rintro e w9 ⟨rfl, hf9⟩
        rw [HSB.out]
        exact ⟨_, rfl, hK _ _ rfl hf9⟩
    refine stepsHold.cons (fun wx hG hd K hK => ?_) ?_
    · have h67 : us 67 = (.bool sB) := deps_get hd 0 rfl rfl rfl rfl rfl
      have h69 : us 69 = (.bool sB) := deps_get hd 1 rfl rfl rfl rfl rfl
      have h64 : us 64 = (.bool true) := deps_get hd 2 rfl rfl rfl rfl rfl
      rw [if_pos (wanted_yes rfl rfl rfl rfl h64)]
      refine wp_value (w2 := wx) (v := .bool true) ?_ (hK _ _ rfl (Fr.refl _ _))
      clear hd hG hK
      go_simp
    refine stepsHold.cons (fun wx hG hd K hK => ?_) ?_
    · have h64 : us 64 = (.bool true) := deps_get hd 0 rfl rfl rfl rfl rfl
      have h70 : us 70 = (.bool true) := deps_get hd 1 rfl rfl rfl rfl rfl
      rw [if_pos (wanted_none rfl)]
      refine wp_value (w2 := wx) (v := .bool true) ?_ (hK _ _ rfl (Fr.refl _ _))
      clear hd hG hK
      go_simp
    refine stepsHold.cons (fun wx hG hd K hK => ?_) ?_
    · have h71 : us 71 = (.bool true) := deps_get hd 0 rfl rfl rfl rfl rfl
      rw [if_pos (wanted_none rfl)]
      refine wp_value (w2 := wx) (v := .bool true) ?_ (hK _ _ rfl (Fr.refl _ _))
      clear hd hG hK
      go_simp
    refine stepsHold.cons (fun wx hG hd K hK => ?_) ?_
    · have h72 : us 72 = (.bool true) := deps_get hd 0 rfl rfl rfl rfl rfl
      rw [if_pos (wanted_yes rfl rfl rfl rfl h72)]
      refine wp_value (w2 := wx) (v := .slice A6 n6 c6) ?_ (hK _ _ rfl (Fr.refl _ _))
      clear hd hG hK
      go_simp
    refine stepsHold.cons (fun wx hG hd K hK => ?_) ?_
    · have h73 : us 73 = (.slice A6 n6 c6) := deps_get hd 0 rfl rfl rfl rfl rfl
      have h72 : us 72 = (.bool true) := deps_get hd 1 rfl rfl rfl rfl rfl
      rw [if_pos (wanted_yes rfl rfl rfl rfl h72)]
      have hr := conv_at (B6.out.keep0 hG) und_bytes und_u8 r_und_str c6
      refine wp_value (w2 := wx) (v := .string (strOfNums xs)) ?_ (hK _ _ rfl (Fr.refl _ _))
      clear hd hK
      go_simp
    refine stepsHold.cons (fun wx hG hd K hK => ?_) ?_
    · have h72 : us 72 = (.bool true) := deps_get hd 0 rfl rfl rfl rfl rfl
      rw [if_pos (wanted_yes rfl rfl rfl rfl h72)]
      refine wp_value (w2 := wx) (v := .slice A8 n6 c8) ?_ (hK _ _ rfl (Fr.refl _ _))
      clear hd hG hK
      go_simp
    refine stepsHold.cons (fun wx hG hd K hK => ?_) ?_
    · have h75 : us 75 = (.slice A8 n6 c8) := deps_get hd 0 rfl rfl rfl rfl rfl
      have h72 : us 72 = (.bool true) := deps_get hd 1 rfl rfl rfl rfl rfl
      rw [if_pos (wanted_yes rfl rfl rfl rfl h72)]
      have hr := conv_at (B8.out.keep0 hG) und_bytes und_u8 r_und_str c8
      refine wp_value (w2 := wx) (v := .string (strOfNums xs)) ?_ (hK _ _ rfl (Fr.refl _ _))
      clear hd hK
      go_simp
    refine stepsHold.cons (fun wx hG hd K hK => ?_) ?_
    · have h74 : us 74 = (.string (strOfNums xs)) := deps_get hd 0 rfl rfl rfl rfl rfl
      have h76 : us 76 = (.string (strOfNums xs)) := deps_get hd 1 rfl rfl rfl rfl rfl
      have h72 : us 72 = (.bool true) := deps_get hd 2 rfl rfl rfl rfl rfl
      rw [if_pos (wanted_yes rfl rfl rfl rfl h72)]
      refine wp_value (w2 := wx) (v := .bool true) ?_ (hK _ _ rfl (Fr.refl _ _))
      clear hd hG hK
      go_simp
    refine stepsHold.cons (fun wx hG hd K hK => ?_) ?_
    · have h72 : us 72 = (.bool true) := deps_get hd 0 rfl rfl rfl rfl rfl
      have h77 : us 77 = (.bool true) := deps_get hd 1 rfl rfl rfl rfl rfl
      rw [if_pos (wanted_none rfl)]
      refine wp_value (w2 := wx) (v := .bool true) ?_ (hK _ _ rfl (Fr.refl _ _))
      clear hd hG hK
      go_simp
    refine stepsHold.cons (fun wx hG hd K hK => ?_) ?_
    · have h78 : us 78 = (.bool true) := deps_get hd 0 rfl rfl rfl rfl rfl
      rw [if_pos (wanted_none rfl)]
      refine wp_value (w2 := wx) (v := .bool true) ?_ (hK _ _ rfl (Fr.refl _ _))
      clear hd hG hK
      go_simp
    refine stepsHold.cons (fun wx hG hd K hK => ?_) ?_
    · have h79 : us 79 = (.bool true) := deps_get hd 0 rfl rfl rfl rfl rfl
      rw [if_pos (wanted_yes rfl rfl rfl rfl h79)]
      refine wp_value (w2 := wx) (v := .int .i64 eE) ?_ (hK _ _ rfl (Fr.refl _ _))
      clear hd hG hK
      go_simp
    refine stepsHold.cons (fun wx hG hd K hK => ?_) ?_
    · have h79 : us 79 = (.bool true) := deps_get hd 0 rfl rfl rfl rfl rfl
      rw [if_pos (wanted_yes rfl rfl rfl rfl h79)]
      refine wp_value (w2 := wx) (v := .int .i64 eE) ?_ (hK _ _ rfl (Fr.refl _ _))
      clear hd hG hK
      go_simp
    refine stepsHold.cons (fun wx hG hd K hK => ?_) ?_
    · have h80 : us 80 = (.int .i64 eE) := deps_get hd 0 rfl rfl rfl rfl rfl
      have h81 : us 81 = (.int .i64 eE) := deps_get hd 1 rfl rfl rfl rfl rfl
      have h79 : us 79 = (.bool true) := deps_get hd 2 rfl rfl rfl rfl rfl
      rw [if_pos (wanted_yes rfl rfl rfl rfl h79)]
      refine wp_value (w2 := wx) (v := .bool true) ?_ (hK _ _ rfl (Fr.refl _ _))
      clear hd hG hK
      go_simp
    refine stepsHold.cons (fun wx hG hd K hK => ?_) ?_
    · have h79 : us 79 = (.bool true) := deps_get hd 0 rfl rfl rfl rfl rfl
      have h82 : us 82 = (.bool true) := deps_get hd 1 rfl rfl rfl rfl rfl
      rw [if_pos (wanted_none rfl)]
      refine wp_value (w2 := wx) (v := .bool true) ?_ (hK _ _ rfl (Fr.refl _ _))
      clear hd hG hK
      go_simp
    refine stepsHold.cons (fun wx hG hd K hK => ?_) ?_
    · have h83 : us 83 = (.bool true) := deps_get hd 0 rfl rfl rfl rfl rfl
      rw [if_pos (wanted_none rfl)]
      refine wp_value (w2 := wx) (v := .bool true) ?_ (hK _ _ rfl (Fr.refl _ _))
      clear hd hG hK
      go_simp
    refine stepsHold.cons (fun wx hG hd K hK => ?_) ?_
    · have h84 : us 84 = (.bool true) := deps_get hd 0 rfl rfl rfl rfl rfl
      rw [if_pos (wanted_yes rfl rfl rfl rfl h84)]
      obtain ⟨q0, q1, q2, q3, q4, q5, q6⟩ := sup_cells (s := u2) (hG.keep0 C10.out)
      refine wp_value (w2 := wx) (v := .agg #[.int .i64 u2.version, .int .i64 u2.epoch, .int .i64 u2.blocks, .int .i64 u2.counters, .int .i64 u2.log, .int .i64 u2.head, .int .i64 u2.applied]) ?_ (hK _ _ rfl (Fr.refl _ _))
      clear hd hK
      go_simp
    refine stepsHold.cons (fun wx hG hd K hK => ?_) ?_
    · have h85 : us 85 = (.agg #[.int .i64 u2.version, .int .i64 u2.epoch, .int .i64 u2.blocks, .int .i64 u2.counters, .int .i64 u2.log, .int .i64 u2.head, .int .i64 u2.applied]) := deps_get hd 0 rfl rfl rfl rfl rfl
      have h84 : us 84 = (.bool true) := deps_get hd 1 rfl rfl rfl rfl rfl
      rw [if_pos (wanted_yes rfl rfl rfl rfl h84)]
      refine wp_call (w2 := wx) (f := 31) (args := #[.agg #[.int .i64 u2.version, .int .i64 u2.epoch, .int .i64 u2.blocks, .int .i64 u2.counters, .int .i64 u2.log, .int .i64 u2.head, .int .i64 u2.applied]]) ?_ ?_
      · clear hd hK
        go_simp
      · refine (theirs_c u2).mono ?_
        rintro e w9 ⟨rfl, hf9⟩
        exact ⟨_, rfl, hK _ _ rfl hf9⟩
    refine stepsHold.cons (fun wx hG hd K hK => ?_) ?_
    · have h84 : us 84 = (.bool true) := deps_get hd 0 rfl rfl rfl rfl rfl
      rw [if_pos (wanted_yes rfl rfl rfl rfl h84)]
      obtain ⟨q0, q1, q2, q3, q4, q5, q6⟩ := sup_cells (s := u2) (hG.keep0 C12.out)
      refine wp_value (w2 := wx) (v := .agg #[.int .i64 u2.version, .int .i64 u2.epoch, .int .i64 u2.blocks, .int .i64 u2.counters, .int .i64 u2.log, .int .i64 u2.head, .int .i64 u2.applied]) ?_ (hK _ _ rfl (Fr.refl _ _))
      clear hd hK
      go_simp
    refine stepsHold.cons (fun wx hG hd K hK => ?_) ?_
    · have h86 : us 86 = (.agg #[.int .i64 u2.version, .int .i64 u2.epoch, .int .i64 u2.blocks, .int .i64 u2.counters, .int .i64 u2.log, .int .i64 u2.head, .int .i64 u2.applied]) := deps_get hd 0 rfl rfl rfl rfl rfl
      have h87 : us 87 = (.agg #[.int .i64 u2.version, .int .i64 u2.epoch, .int .i64 u2.blocks, .int .i64 u2.counters, .int .i64 u2.log, .int .i64 u2.head, .int .i64 u2.applied]) := deps_get hd 1 rfl rfl rfl rfl rfl
      have h84 : us 84 = (.bool true) := deps_get hd 2 rfl rfl rfl rfl rfl
      rw [if_pos (wanted_yes rfl rfl rfl rfl h84)]
      refine wp_value (w2 := wx) (v := .bool true) ?_ (hK _ _ rfl (Fr.refl _ _))
      clear hd hG hK
      go_simp
    refine stepsHold.cons (fun wx hG hd K hK => ?_) ?_
    · have h84 : us 84 = (.bool true) := deps_get hd 0 rfl rfl rfl rfl rfl
      have h88 : us 88 = (.bool true) := deps_get hd 1 rfl rfl rfl rfl rfl
      rw [if_pos (wanted_none rfl)]
      refine wp_value (w2 := wx) (v := .bool true) ?_ (hK _ _ rfl (Fr.refl _ _))
      clear hd hG hK
      go_simp
    refine stepsHold.cons (fun wx hG hd K hK => ?_) ?_
    · have h89 : us 89 = (.bool true) := deps_get hd 0 rfl rfl rfl rfl rfl
      rw [if_pos (wanted_none rfl)]
      refine wp_value (w2 := wx) (v := .bool true) ?_ (hK _ _ rfl (Fr.refl _ _))
      clear hd hG hK
      go_simp
    refine stepsHold.cons (fun wx hG hd K hK => ?_) ?_
    · have h90 : us 90 = (.bool true) := deps_get hd 0 rfl rfl rfl rfl rfl
      rw [if_pos (wanted_yes rfl rfl rfl rfl h90)]
      refine wp_value (w2 := wx) (v := .int .i64 dE) ?_ (hK _ _ rfl (Fr.refl _ _))
      clear hd hG hK
      go_simp
    refine stepsHold.cons (fun wx hG hd K hK => ?_) ?_
    · have h90 : us 90 = (.bool true) := deps_get hd 0 rfl rfl rfl rfl rfl
      rw [if_pos (wanted_yes rfl rfl rfl rfl h90)]
      refine wp_value (w2 := wx) (v := .int .i64 dE) ?_ (hK _ _ rfl (Fr.refl _ _))
      clear hd hG hK
      go_simp
    refine stepsHold.cons (fun wx hG hd K hK => ?_) ?_
    · have h91 : us 91 = (.int .i64 dE) := deps_get hd 0 rfl rfl rfl rfl rfl
      have h92 : us 92 = (.int .i64 dE) := deps_get hd 1 rfl rfl rfl rfl rfl
      have h90 : us 90 = (.bool true) := deps_get hd 2 rfl rfl rfl rfl rfl
      rw [if_pos (wanted_yes rfl rfl rfl rfl h90)]
      refine wp_value (w2 := wx) (v := .bool true) ?_ (hK _ _ rfl (Fr.refl _ _))
      clear hd hG hK
      go_simp
    refine stepsHold.cons (fun wx hG hd K hK => ?_) ?_
    · have h90 : us 90 = (.bool true) := deps_get hd 0 rfl rfl rfl rfl rfl
      have h93 : us 93 = (.bool true) := deps_get hd 1 rfl rfl rfl rfl rfl
      rw [if_pos (wanted_none rfl)]
      refine wp_value (w2 := wx) (v := .bool true) ?_ (hK _ _ rfl (Fr.refl _ _))
      clear hd hG hK
      go_simp
    refine stepsHold.cons (fun wx hG hd K hK => ?_) ?_
    · have h94 : us 94 = (.bool true) := deps_get hd 0 rfl rfl rfl rfl rfl
      rw [if_pos (wanted_none rfl)]
      refine wp_value (w2 := wx) (v := .bool true) ?_ (hK _ _ rfl (Fr.refl _ _))
      clear hd hG hK
      go_simp
    refine stepsHold.cons (fun wx hG hd K hK => ?_) ?_
    · have h95 : us 95 = (.bool true) := deps_get hd 0 rfl rfl rfl rfl rfl
      rw [if_pos (wanted_yes rfl rfl rfl rfl h95)]
      refine wp_value (w2 := wx) (v := .int .i64 y1) ?_ (hK _ _ rfl (Fr.refl _ _))
      clear hd hG hK
      go_simp
    refine stepsHold.cons (fun wx hG hd K hK => ?_) ?_
    · have h95 : us 95 = (.bool true) := deps_get hd 0 rfl rfl rfl rfl rfl
      rw [if_pos (wanted_yes rfl rfl rfl rfl h95)]
      refine wp_value (w2 := wx) (v := .int .i64 y1) ?_ (hK _ _ rfl (Fr.refl _ _))
      clear hd hG hK
      go_simp
    refine stepsHold.cons (fun wx hG hd K hK => ?_) ?_
    · have h96 : us 96 = (.int .i64 y1) := deps_get hd 0 rfl rfl rfl rfl rfl
      have h97 : us 97 = (.int .i64 y1) := deps_get hd 1 rfl rfl rfl rfl rfl
      have h95 : us 95 = (.bool true) := deps_get hd 2 rfl rfl rfl rfl rfl
      rw [if_pos (wanted_yes rfl rfl rfl rfl h95)]
      refine wp_value (w2 := wx) (v := .bool true) ?_ (hK _ _ rfl (Fr.refl _ _))
      clear hd hG hK
      go_simp
    refine stepsHold.cons (fun wx hG hd K hK => ?_) ?_
    · have h95 : us 95 = (.bool true) := deps_get hd 0 rfl rfl rfl rfl rfl
      have h98 : us 98 = (.bool true) := deps_get hd 1 rfl rfl rfl rfl rfl
      rw [if_pos (wanted_none rfl)]
      refine wp_value (w2 := wx) (v := .bool true) ?_ (hK _ _ rfl (Fr.refl _ _))
      clear hd hG hK
      go_simp
    refine stepsHold.cons (fun wx hG hd K hK => ?_) ?_
    · have h99 : us 99 = (.bool true) := deps_get hd 0 rfl rfl rfl rfl rfl
      rw [if_pos (wanted_none rfl)]
      refine wp_value (w2 := wx) (v := .bool true) ?_ (hK _ _ rfl (Fr.refl _ _))
      clear hd hG hK
      go_simp
    refine stepsHold.cons (fun wx hG hd K hK => ?_) ?_
    · have h100 : us 100 = (.bool true) := deps_get hd 0 rfl rfl rfl rfl rfl
      rw [if_pos (wanted_yes rfl rfl rfl rfl h100)]
      refine wp_value (w2 := wx) (v := .int .i64 y2) ?_ (hK _ _ rfl (Fr.refl _ _))
      clear hd hG hK
      go_simp
    refine stepsHold.cons (fun wx hG hd K hK => ?_) ?_
    · have h100 : us 100 = (.bool true) := deps_get hd 0 rfl rfl rfl rfl rfl
      rw [if_pos (wanted_yes rfl rfl rfl rfl h100)]
      refine wp_value (w2 := wx) (v := .int .i64 y2) ?_ (hK _ _ rfl (Fr.refl _ _))
      clear hd hG hK
      go_simp
    refine stepsHold.cons (fun wx hG hd K hK => ?_) ?_
    · have h101 : us 101 = (.int .i64 y2) := deps_get hd 0 rfl rfl rfl rfl rfl
      have h102 : us 102 = (.int .i64 y2) := deps_get hd 1 rfl rfl rfl rfl rfl
      have h100 : us 100 = (.bool true) := deps_get hd 2 rfl rfl rfl rfl rfl
      rw [if_pos (wanted_yes rfl rfl rfl rfl h100)]
      refine wp_value (w2 := wx) (v := .bool true) ?_ (hK _ _ rfl (Fr.refl _ _))
      clear hd hG hK
      go_simp
    refine stepsHold.cons (fun wx hG hd K hK => ?_) ?_
    · have h100 : us 100 = (.bool true) := deps_get hd 0 rfl rfl rfl rfl rfl
      have h103 : us 103 = (.bool true) := deps_get hd 1 rfl rfl rfl rfl rfl
      rw [if_pos (wanted_none rfl)]
      refine wp_value (w2 := wx) (v := .bool true) ?_ (hK _ _ rfl (Fr.refl _ _))
      clear hd hG hK
      go_simp
    refine stepsHold.cons (fun wx hG hd K hK => ?_) ?_
    · have h104 : us 104 = (.bool true) := deps_get hd 0 rfl rfl rfl rfl rfl
      rw [if_pos (wanted_none rfl)]
      refine wp_value (w2 := wx) (v := .bool true) ?_ (hK _ _ rfl (Fr.refl _ _))
      clear hd hG hK
      go_simp
    refine stepsHold.cons (fun wx hG hd K hK => ?_) ?_
    · have h105 : us 105 = (.bool true) := deps_get hd 0 rfl rfl rfl rfl rfl
      rw [if_pos (wanted_yes rfl rfl rfl rfl h105)]
      refine wp_value (w2 := wx) (v := .int .i64 y3) ?_ (hK _ _ rfl (Fr.refl _ _))
      clear hd hG hK
      go_simp
    refine stepsHold.cons (fun wx hG hd K hK => ?_) ?_
    · have h105 : us 105 = (.bool true) := deps_get hd 0 rfl rfl rfl rfl rfl
      rw [if_pos (wanted_yes rfl rfl rfl rfl h105)]
      refine wp_value (w2 := wx) (v := .int .i64 y3) ?_ (hK _ _ rfl (Fr.refl _ _))
      clear hd hG hK
      go_simp
    refine stepsHold.cons (fun wx hG hd K hK => ?_) ?_
    · have h106 : us 106 = (.int .i64 y3) := deps_get hd 0 rfl rfl rfl rfl rfl
      have h107 : us 107 = (.int .i64 y3) := deps_get hd 1 rfl rfl rfl rfl rfl
      have h105 : us 105 = (.bool true) := deps_get hd 2 rfl rfl rfl rfl rfl
      rw [if_pos (wanted_yes rfl rfl rfl rfl h105)]
      refine wp_value (w2 := wx) (v := .bool true) ?_ (hK _ _ rfl (Fr.refl _ _))
      clear hd hG hK
      go_simp
    refine stepsHold.cons (fun wx hG hd K hK => ?_) ?_
    · have h105 : us 105 = (.bool true) := deps_get hd 0 rfl rfl rfl rfl rfl
      have h108 : us 108 = (.bool true) := deps_get hd 1 rfl rfl rfl rfl rfl
      rw [if_pos (wanted_none rfl)]
      refine wp_value (w2 := wx) (v := .bool true) ?_ (hK _ _ rfl (Fr.refl _ _))
      clear hd hG hK
      go_simp
    refine stepsHold.cons (fun wx hG hd K hK => ?_) ?_
    · have h109 : us 109 = (.bool true) := deps_get hd 0 rfl rfl rfl rfl rfl
      rw [if_pos (wanted_none rfl)]
      refine wp_value (w2 := wx) (v := .bool true) ?_ (hK _ _ rfl (Fr.refl _ _))
      clear hd hG hK
      go_simp
    refine stepsHold.cons (fun wx hG hd K hK => ?_) ?_
    · have h110 : us 110 = (.bool true) := deps_get hd 0 rfl rfl rfl rfl rfl
      rw [if_pos (wanted_yes rfl rfl rfl rfl h110)]
      refine wp_value (w2 := wx) (v := .int .i64 y4) ?_ (hK _ _ rfl (Fr.refl _ _))
      clear hd hG hK
      go_simp
    refine stepsHold.cons (fun wx hG hd K hK => ?_) ?_
    · have h110 : us 110 = (.bool true) := deps_get hd 0 rfl rfl rfl rfl rfl
      rw [if_pos (wanted_yes rfl rfl rfl rfl h110)]
      refine wp_value (w2 := wx) (v := .int .i64 y4) ?_ (hK _ _ rfl (Fr.refl _ _))
      clear hd hG hK
      go_simp
    refine stepsHold.cons (fun wx hG hd K hK => ?_) ?_
    · have h111 : us 111 = (.int .i64 y4) := deps_get hd 0 rfl rfl rfl rfl rfl
      have h112 : us 112 = (.int .i64 y4) := deps_get hd 1 rfl rfl rfl rfl rfl
      have h110 : us 110 = (.bool true) := deps_get hd 2 rfl rfl rfl rfl rfl
      rw [if_pos (wanted_yes rfl rfl rfl rfl h110)]
      refine wp_value (w2 := wx) (v := .bool true) ?_ (hK _ _ rfl (Fr.refl _ _))
      clear hd hG hK
      go_simp
    refine stepsHold.cons (fun wx hG hd K hK => ?_) ?_
    · have h110 : us 110 = (.bool true) := deps_get hd 0 rfl rfl rfl rfl rfl
      have h113 : us 113 = (.bool true) := deps_get hd 1 rfl rfl rfl rfl rfl
      rw [if_pos (wanted_none rfl)]
      refine wp_value (w2 := wx) (v := .bool true) ?_ (hK _ _ rfl (Fr.refl _ _))
      clear hd hG hK
      go_simp
    refine stepsHold.cons (fun wx hG hd K hK => ?_) ?_
    · have h114 : us 114 = (.bool true) := deps_get hd 0 rfl rfl rfl rfl rfl
      rw [if_pos (wanted_none rfl)]
      refine wp_value (w2 := wx) (v := .bool true) ?_ (hK _ _ rfl (Fr.refl _ _))
      clear hd hG hK
      go_simp
    exact stepsHold.nil
  case fin =>
    have h63 : us 63 = (.bool true) := all_get hall 0 rfl rfl rfl
    have h64 : us 64 = (.bool true) := all_get hall 1 rfl rfl rfl
    have h65 : us 65 = (.agg #[.int .i64 s.version, .int .i64 s.epoch, .int .i64 s.blocks, .int .i64 s.counters, .int .i64 s.log, .int .i64 s.head, .int .i64 s.applied]) := all_get hall 2 rfl rfl rfl
    have h66 : us 66 = (.agg #[.int .i64 s.version, .int .i64 s.epoch, .int .i64 s.blocks, .int .i64 s.counters, .int .i64 s.log, .int .i64 s.head, .int .i64 s.applied]) := all_get hall 3 rfl rfl rfl
    have h67 : us 67 = (.bool sB) := all_get hall 4 rfl rfl rfl
    have h68 : us 68 = (.agg #[.int .i64 s.version, .int .i64 s.epoch, .int .i64 s.blocks, .int .i64 s.counters, .int .i64 s.log, .int .i64 s.head, .int .i64 s.applied]) := all_get hall 5 rfl rfl rfl
    have h69 : us 69 = (.bool sB) := all_get hall 6 rfl rfl rfl
    have h70 : us 70 = (.bool true) := all_get hall 7 rfl rfl rfl
    have h71 : us 71 = (.bool true) := all_get hall 8 rfl rfl rfl
    have h72 : us 72 = (.bool true) := all_get hall 9 rfl rfl rfl
    have h73 : us 73 = (.slice A6 n6 c6) := all_get hall 10 rfl rfl rfl
    have h74 : us 74 = (.string (strOfNums xs)) := all_get hall 11 rfl rfl rfl
    have h75 : us 75 = (.slice A8 n6 c8) := all_get hall 12 rfl rfl rfl
    have h76 : us 76 = (.string (strOfNums xs)) := all_get hall 13 rfl rfl rfl
    have h77 : us 77 = (.bool true) := all_get hall 14 rfl rfl rfl
    have h78 : us 78 = (.bool true) := all_get hall 15 rfl rfl rfl
    have h79 : us 79 = (.bool true) := all_get hall 16 rfl rfl rfl
    have h80 : us 80 = (.int .i64 eE) := all_get hall 17 rfl rfl rfl
    have h81 : us 81 = (.int .i64 eE) := all_get hall 18 rfl rfl rfl
    have h82 : us 82 = (.bool true) := all_get hall 19 rfl rfl rfl
    have h83 : us 83 = (.bool true) := all_get hall 20 rfl rfl rfl
    have h84 : us 84 = (.bool true) := all_get hall 21 rfl rfl rfl
    have h85 : us 85 = (.agg #[.int .i64 u2.version, .int .i64 u2.epoch, .int .i64 u2.blocks, .int .i64 u2.counters, .int .i64 u2.log, .int .i64 u2.head, .int .i64 u2.applied]) := all_get hall 22 rfl rfl rfl
    have h86 : us 86 = (.agg #[.int .i64 u2.version, .int .i64 u2.epoch, .int .i64 u2.blocks, .int .i64 u2.counters, .int .i64 u2.log, .int .i64 u2.head, .int .i64 u2.applied]) := all_get hall 23 rfl rfl rfl
    have h87 : us 87 = (.agg #[.int .i64 u2.version, .int .i64 u2.epoch, .int .i64 u2.blocks, .int .i64 u2.counters, .int .i64 u2.log, .int .i64 u2.head, .int .i64 u2.applied]) := all_get hall 24 rfl rfl rfl
    have h88 : us 88 = (.bool true) := all_get hall 25 rfl rfl rfl
    have h89 : us 89 = (.bool true) := all_get hall 26 rfl rfl rfl
    have h90 : us 90 = (.bool true) := all_get hall 27 rfl rfl rfl
    have h91 : us 91 = (.int .i64 dE) := all_get hall 28 rfl rfl rfl
    have h92 : us 92 = (.int .i64 dE) := all_get hall 29 rfl rfl rfl
    have h93 : us 93 = (.bool true) := all_get hall 30 rfl rfl rfl
    have h94 : us 94 = (.bool true) := all_get hall 31 rfl rfl rfl
    have h95 : us 95 = (.bool true) := all_get hall 32 rfl rfl rfl
    have h96 : us 96 = (.int .i64 y1) := all_get hall 33 rfl rfl rfl
    have h97 : us 97 = (.int .i64 y1) := all_get hall 34 rfl rfl rfl
    have h98 : us 98 = (.bool true) := all_get hall 35 rfl rfl rfl
    have h99 : us 99 = (.bool true) := all_get hall 36 rfl rfl rfl
    have h100 : us 100 = (.bool true) := all_get hall 37 rfl rfl rfl
    have h101 : us 101 = (.int .i64 y2) := all_get hall 38 rfl rfl rfl
    have h102 : us 102 = (.int .i64 y2) := all_get hall 39 rfl rfl rfl
    have h103 : us 103 = (.bool true) := all_get hall 40 rfl rfl rfl
    have h104 : us 104 = (.bool true) := all_get hall 41 rfl rfl rfl
    have h105 : us 105 = (.bool true) := all_get hall 42 rfl rfl rfl
    have h106 : us 106 = (.int .i64 y3) := all_get hall 43 rfl rfl rfl
    have h107 : us 107 = (.int .i64 y3) := all_get hall 44 rfl rfl rfl
    have h108 : us 108 = (.bool true) := all_get hall 45 rfl rfl rfl
    have h109 : us 109 = (.bool true) := all_get hall 46 rfl rfl rfl
    have h110 : us 110 = (.bool true) := all_get hall 47 rfl rfl rfl
    have h111 : us 111 = (.int .i64 y4) := all_get hall 48 rfl rfl rfl
    have h112 : us 112 = (.int .i64 y4) := all_get hall 49 rfl rfl rfl
    have h113 : us 113 = (.bool true) := all_get hall 50 rfl rfl rfl
    have h114 : us 114 = (.bool true) := all_get hall 51 rfl rfl rfl
    have h4 : us 4 = (.bool true) := all_get hall 52 rfl rfl rfl
    simp only [fillL, Nat.reduceAdd]
    clear hall
    simp only [h63, h64, h65, h66, h67, h68, h69, h70, h71, h72, h73, h74, h75, h76, h77, h78, h79, h80, h81, h82, h83, h84, h85, h86, h87, h88, h89, h90, h91, h92, h93, h94, h95, h96, h97, h98, h99, h100, h101, h102, h103, h104, h105, h106, h107, h108, h109, h110, h111, h112, h113, h114, h4]
    clear h63 h64 h65 h66 h67 h68 h69 h70 h71 h72 h73 h74 h75 h76 h77 h78 h79 h80 h81 h82 h83 h84 h85 h86 h87 h88 h89 h90 h91 h92 h93 h94 h95 h96 h97 h98 h99 h100 h101 h102 h103 h104 h105 h106 h107 h108 h109 h110 h111 h112 h113 h114 h4
    go_wp2_with fail
    go_ret
    exact ⟨rfl, HF.out.then0 hG⟩
end
end Go.Proofs.YtdeckbdaencjnaaDoor
