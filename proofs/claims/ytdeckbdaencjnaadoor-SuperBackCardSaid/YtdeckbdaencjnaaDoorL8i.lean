/-
  SuperBack: the walk. Conditions: none.
-/
import Derived.Test.YtdeckbdaencjnaaDoorL8h
set_option linter.unusedVariables false
set_option linter.unusedSimpArgs false
namespace Go.Proofs.YtdeckbdaencjnaaDoor
open Go.RowKit
theorem encE_cases (s : Sup) : (s.sane = true ∧ s.encE = 0) ∨ (s.sane = false ∧ s.encE = 1) := by
  cases h : s.sane with
  | true => exact .inl ⟨rfl, by simp [Sup.encE, h]⟩
  | false => exact .inr ⟨rfl, by simp [Sup.encE, h]⟩
/-- A bit turned in a sealed sector. -/
theorem flip_dec (s : Sup) {i j : Nat} (hi : i < 64) (hj : j < 8) {x : Int} (hx : s.enc[i]? = some x) (y : Int) (hy : 0 ≤ y ∧ y ≤ 255) (hne : y ≠ x) : decE (s.enc.set i y) = 4 := by
  have hl := s.enc_len
  have h := flip_unsealed s.enc_bys hl (sealed_seal _) hi hy (by
    intro e
    rw [List.getElem?_eq_getElem (by omega)] at hx
    exact hne (e.trans (Option.some.inj hx)))
  unfold decE
  rw [List.length_set, hl, h]
  simp
theorem dec_back {b : List Int} (hb : Bys b) (h : decE b = 0) : (decF b).sane = true ∧ (decF b).enc = b := by
  unfold decE at h
  by_cases h1 : b.length < 64
  · rw [if_pos h1] at h; exact absurd h (by decide)
  rw [if_neg h1] at h
  by_cases h2 : 64 < b.length
  · rw [if_pos h2] at h; exact absurd h (by decide)
  rw [if_neg h2] at h
  by_cases h3 : sealed b = false
  · rw [if_pos h3] at h; exact absurd h (by decide)
  rw [if_neg h3] at h
  by_cases h4 : okForm b = true
  · have h5 := (enc_dec hb (by omega) (by simpa using h3)).1 h4
    exact ⟨by simp [Sup.sane, h5.1], h5.2⟩
  · rw [if_neg h4] at h; exact absurd h (by decide)
theorem turn_bit (x : Int) (j : Nat) (h0 : 0 ≤ x) (h1 : x ≤ 255) (hj : j < 8) : ∃ y, bits .xor .u8 x (2 ^ j % 256) = y ∧ (0 ≤ y ∧ y ≤ 255) ∧ y ≠ x := by
  obtain ⟨a, rfl⟩ : ∃ a : Nat, x = a := ⟨x.toNat, by omega⟩
  have hp : 2 ^ j < 2 ^ 8 := Nat.pow_lt_pow_right (by decide) hj
  have e : ((2 : Int) ^ j % 256) = ((2 ^ j : Nat) : Int) := by
    have : (2 : Int) ^ j = ((2 ^ j : Nat) : Int) := by simp
    rw [this]
    have hp2 : 2 ^ j < 256 := hp
    generalize 2 ^ j = q at hp2
    omega
  rw [e]
  have hx := xor8 a (2 ^ j) (by omega) hp
  have hlt : a ^^^ 2 ^ j < 2 ^ 8 := Nat.xor_lt_two_pow (by omega) hp
  refine ⟨_, hx, ⟨Int.natCast_nonneg _, by have : (2 : Nat) ^ 8 = 256 := by decide
                                           omega⟩, fun h => xor_bit_ne a j (Int.ofNat.inj h)⟩
/-- A byte of a row of the call's own turned. -/
theorem row_set {W : World} {g cap : Nat} {cur : Array Value} {xs : List Int} {i : Nat} (y : Int) (hr : W.heap[g]? = some (.cells cur 5 (0, 0))) (h : cur.toList.take (xs.length * 1) = xs.map (Value.int .u8)) (hc : xs.length ≤ cap) (hcm : cap ≤ maxLen) (hs : cur.size = cap * 1) :
    Byt (W.setCell ⟨g, i, none⟩ (.int .u8 y)) (some ⟨g, 0, none⟩) cap (xs.set i y) := by
  have ho : (W.setCell ⟨g, i, none⟩ (.int .u8 y)).ownsRow 0 5 1 (.slice (some ⟨g, 0, none⟩) (xs.set i y).length cap) (xs.set i y).length ((xs.set i y).map (Value.int .u8)) := by
    refine ⟨by simp, .inr ⟨g, cap, cur.setIfInBounds i (.int .u8 y), rfl, Nat.zero_le _, set_cell hr i _, by simpa using hc, hcm, by simpa using hs, ?_⟩⟩
    rw [List.length_set, Array.toList_setIfInBounds, List.take_set, h, List.map_set]
  obtain ⟨A2, c2, e2, h1, h2, h3, -⟩ := vals_reads ho
  cases e2
  exact ⟨h1, h2, h3⟩
section
variable {w : World}
set_option maxRecDepth 100000 in
set_option maxHeartbeats 4000000 in
theorem back_walk (s : Sup) (A : Option Addr) (n c : Nat) (b : List Int) (bit : Int) (hA : Byt w A c b) (hb : Bys b) (hl : b.length = n) :
    Calls Tryd.prog 3 #[(.agg #[.int .i64 s.version, .int .i64 s.epoch, .int .i64 s.blocks, .int .i64 s.counters, .int .i64 s.log, .int .i64 s.head, .int .i64 s.applied]), .slice A n c, .int .i64 bit] w fun e w' => e = .returned (.bool true) ∧ Fr F0 w w' := by
  have hn0 : (0 : Int) ≤ (n : Int) := Int.natCast_nonneg _
  have HA := Lib.hid hA
  have HB := Lib.hid hb
  have HL := Lib.hid hl
  clear hA hb hl
  by_cases hbig : 200 < n
  · have hb : (200 : Int) < (n : Int) := by omega
    clear hbig
    go_enter Tryd.func3, Tryd.ntmps3
    go_wp2_with fail
    refine (awake_c _).mono ?_
    rintro e w1 ⟨rfl, hf1⟩
    go_wp2_with fail
    go_ret
    exact ⟨rfl, ((Fr.refl _ w).alloc _).then0 hf1⟩
  have hs200 : ¬ (200 : Int) < (n : Int) := by omega
  have N200 : Hid (n ≤ 200) := Lib.hid (by omega)
  clear hbig
  go_enter Tryd.func3, Tryd.ntmps3
  go_wp2_with fail
  have c0 : (w.alloc (.cells #[.int .i64 s.version, .int .i64 s.epoch, .int .i64 s.blocks, .int .i64 s.counters, .int .i64 s.log, .int .i64 s.head, .int .i64 s.applied] 23)).heap[w.heap.size]? = some (.cells s.cells.toArray 23 (0, 0)) := alloc_at rfl _
  have f0 : Fr F0 w (w.alloc (.cells #[.int .i64 s.version, .int .i64 s.epoch, .int .i64 s.blocks, .int .i64 s.counters, .int .i64 s.log, .int .i64 s.head, .int .i64 s.applied] 23)) := (Fr.refl _ _).alloc _
  refine (awake_c _).mono ?_
  rintro e w1 ⟨rfl, hf1⟩
  have C1 := Lib.hid (hf1.keep0 c0)
  have HF1 := Lib.hid (f0.then0 hf1)
  obtain ⟨q0, q1, q2, q3, q4, q5, q6⟩ := sup_cells C1.out
  clear c0 f0 hf1
  go_wp2_with fail
  refine (ours_c s).mono ?_
  rintro e w2 ⟨rfl, hf2⟩
  have C2 := Lib.hid (hf2.keep0 C1.out)
  have HF2 := Lib.hid (HF1.out.then0 hf2)
  clear hf2 q0 q1 q2 q3 q4 q5 q6
  go_wp2_with fail
  refine (encode_c s).mono ?_
  rintro e w3 ⟨v, rfl, hv1, hv0, hf3⟩
  have C3 := Lib.hid (hf3.keep0 C2.out)
  have HF3 := Lib.hid (HF2.out.then0 hf3)
  clear hf3
  rcases encE_cases s with ⟨hs, he⟩ | ⟨hs, he⟩
  · rw [he]
    have hO3 := (hv1 hs).own
    have hBE : ∃ AE cE, v = .slice AE s.enc.length cE ∧ Byt w3 AE cE s.enc ∧ ∃ g cur, AE = some ⟨g, 0, none⟩ ∧ w.heap.size ≤ g ∧ w3.heap[g]? = some (.cells cur 5 (0, 0)) ∧ cur.toList.take (s.enc.length * 1) = s.enc.map (Value.int .u8) ∧ cE ≤ maxLen ∧ cur.size = cE * 1 := by
      rcases hO3.2 with ⟨rfl, h0⟩ | ⟨g, cap, cur, rfl, hb, hh, h1, h2, h3, h4⟩
      · rw [Sup.enc_len] at h0; exact absurd h0 (by decide)
      · obtain ⟨A2, c2, e2, g1, g2, g3, -⟩ := vals_reads hO3
        cases e2
        exact ⟨_, _, rfl, ⟨g1, g2, g3⟩, g, cur, rfl, Nat.le_trans HF2.out.size hb, hh, h4, h2, h3⟩
    obtain ⟨AE, cE, rfl, hBE, g, cur, rfl, hgb, hrow, htake, hcm, hsz⟩ := hBE
    rw [Sup.enc_len]
    clear hv1 hv0 he hO3
    have ROW := Lib.hid hrow
    have TAKE := Lib.hid htake
    have SZ := Lib.hid hsz
    clear hrow htake hsz
    obtain ⟨k, hk⟩ : ∃ k, k = bit % 512 := ⟨_, rfl⟩
    obtain ⟨i, hi⟩ : ∃ i : Nat, (i : Int) = k / 8 := ⟨(k / 8).toNat, by omega⟩
    obtain ⟨j, hj⟩ : ∃ j : Nat, (j : Int) = k % 8 := ⟨(k % 8).toNat, by omega⟩
    have k0 : 0 ≤ k := by omega
    have k1 : k < 512 := by omega
    have hbt : bits .and .i64 bit 511 = k := by rw [hk]; exact i64_and bit 9 (by decide)
    have i64' : i < 64 := by omega
    have j8 : j < 8 := by omega
    have hi' : k / 8 = (i : Int) := hi.symm
    have hj' : k % 8 = (j : Int) := hj.symm
    have ii0 : (0 : Int) ≤ (i : Int) := Int.natCast_nonneg _
    have ii1 : (i : Int) < 64 := by omega
    have jj0 : (0 : Int) ≤ (j : Int) := Int.natCast_nonneg _
    have jj1 : (j : Int) < 8 := by omega
    clear hk hi hj
    have HBE := Lib.hid hBE
    obtain ⟨d1, d2⟩ := s.dec_enc (by simpa [Sup.sane] using hs)
    have D1 := Lib.hid d1
    have D2 := Lib.hid d2
    clear hBE d1 d2
    go_wp2_with fail
    refine (decode_n (some ⟨g, 0, none⟩) 64 cE s.enc s.enc_len HBE.out (by rw [Sup.enc_len]; decide) s.enc_bys).mono ?_
    rintro e w4 ⟨s4, rfl, hs4, hf4⟩
    rw [D1.out]
    obtain rfl : s4 = s := hs4.out.trans (by unfold decS; rw [if_pos D1.out, D2.out])
    have g5 : Fr F0 w3 (w4.alloc (.cells #[.int .i64 s4.version, .int .i64 s4.epoch, .int .i64 s4.blocks, .int .i64 s4.counters, .int .i64 s4.log, .int .i64 s4.head, .int .i64 s4.applied] 29)) := hf4.alloc _
    have C5 := Lib.hid (g5.keep0 C3.out)
    have E5 : Hid ((w4.alloc (.cells #[.int .i64 s4.version, .int .i64 s4.epoch, .int .i64 s4.blocks, .int .i64 s4.counters, .int .i64 s4.log, .int .i64 s4.head, .int .i64 s4.applied] 29)).heap[w4.heap.size]? = some (.cells s4.cells.toArray 29 (0, 0))) := Lib.hid (alloc_at rfl _)
    have HF5 := Lib.hid (HF3.out.then0 g5)
    have B5 := Lib.hid (HBE.out.keep0 g5)
    have ROW5 := Lib.hid (g5.keep0 ROW.out)
    clear g5 hf4 hs4
    go_wp2_with fail
    generalize (w4.alloc (.cells #[.int .i64 s4.version, .int .i64 s4.epoch, .int .i64 s4.blocks, .int .i64 s4.counters, .int .i64 s4.log, .int .i64 s4.head, .int .i64 s4.applied] 29)) = w5 at *
    refine wp_region_free (S := F0) [false, false, false, false, false, false, false, false, false, false, false, false, false, false, false, false, false, false, false, false, false, false, false, false, false, false, false, false, false, false, false, false, false, false, false, false, false, true, true, true, true, true, true, true, true, true, true, true, true, true, false, false, false, false, false, false, false, false, false, false, false, false, false, false, false, false, false, false, false, false, false, false, false, false, false, false, false, false, false, false, false, false, false, false, false, false, false, false, false, false, false, false, false, false, false, false, false, false, false, false, false, false, false] [.eq (.int .i64 0), .eq (.bool false), .eq (.bool false), .eq (.agg #[.int .i64 s4.version, .int .i64 s4.epoch, .int .i64 s4.blocks, .int .i64 s4.counters, .int .i64 s4.log, .int .i64 s4.head, .int .i64 s4.applied]), .eq (.agg #[.int .i64 s4.version, .int .i64 s4.epoch, .int .i64 s4.blocks, .int .i64 s4.counters, .int .i64 s4.log, .int .i64 s4.head, .int .i64 s4.applied]), .eq (.agg #[.int .i64 s4.version, .int .i64 s4.epoch, .int .i64 s4.blocks, .int .i64 s4.counters, .int .i64 s4.log, .int .i64 s4.head, .int .i64 s4.applied]), .eq (.bool false), .eq (.bool false), .eq (.bool false), .eq (.slice (some ⟨g, 0, none⟩) 64 cE), .eq (.int .i64 64), .eq (.bool false), .eq (.bool false)] (by kernel_rfl) (by kernel_rfl) (by rfl) (fun us => ?steps) (fun us wz hG hall => ?fin)
    case steps =>
      simp only [fillL, Nat.reduceAdd]
      refine stepsHold.cons (fun wx hG hd K hK => ?_) ?_
      · rw [if_pos (wanted_none rfl)]
        refine wp_value (w2 := wx) (v := .int .i64 0) ?_ (hK _ _ rfl (Fr.refl _ _))
        clear hd hG hK
        go_simp
      refine stepsHold.cons (fun wx hG hd K hK => ?_) ?_
      · have h37 : us 37 = (.int .i64 0) := deps_get hd 0 rfl rfl rfl rfl rfl
        rw [if_pos (wanted_none rfl)]
        refine wp_value (w2 := wx) (v := .bool false) ?_ (hK _ _ rfl (Fr.refl _ _))
        clear hd hG hK
        go_simp
      refine stepsHold.cons (fun wx hG hd K hK => ?_) ?_
      · have h38 : us 38 = (.bool false) := deps_get hd 0 rfl rfl rfl rfl rfl
        rw [if_pos (wanted_none rfl)]
        refine wp_value (w2 := wx) (v := .bool false) ?_ (hK _ _ rfl (Fr.refl _ _))
        clear hd hG hK
        go_simp
      refine stepsHold.cons (fun wx hG hd K hK => ?_) ?_
      · have h39 : us 39 = (.bool false) := deps_get hd 0 rfl rfl rfl rfl rfl
        rw [if_pos (wanted_yes rfl rfl rfl rfl h39)]
        obtain ⟨q0, q1, q2, q3, q4, q5, q6⟩ := sup_cells (s := s4) (hG.keep0 E5.out)
        refine wp_value (w2 := wx) (v := .agg #[.int .i64 s4.version, .int .i64 s4.epoch, .int .i64 s4.blocks, .int .i64 s4.counters, .int .i64 s4.log, .int .i64 s4.head, .int .i64 s4.applied]) ?_ (hK _ _ rfl (Fr.refl _ _))
        clear hd hK
        go_simp
      refine stepsHold.cons (fun wx hG hd K hK => ?_) ?_
      · have h39 : us 39 = (.bool false) := deps_get hd 0 rfl rfl rfl rfl rfl
        rw [if_pos (wanted_yes rfl rfl rfl rfl h39)]
        obtain ⟨q0, q1, q2, q3, q4, q5, q6⟩ := sup_cells (s := s4) (hG.keep0 C5.out)
        refine wp_value (w2 := wx) (v := .agg #[.int .i64 s4.version, .int .i64 s4.epoch, .int .i64 s4.blocks, .int .i64 s4.counters, .int .i64 s4.log, .int .i64 s4.head, .int .i64 s4.applied]) ?_ (hK _ _ rfl (Fr.refl _ _))
        clear hd hK
        go_simp
      refine stepsHold.cons (fun wx hG hd K hK => ?_) ?_
      · have h41 : us 41 = (.agg #[.int .i64 s4.version, .int .i64 s4.epoch, .int .i64 s4.blocks, .int .i64 s4.counters, .int .i64 s4.log, .int .i64 s4.head, .int .i64 s4.applied]) := deps_get hd 0 rfl rfl rfl rfl rfl
        have h39 : us 39 = (.bool false) := deps_get hd 1 rfl rfl rfl rfl rfl
        rw [if_pos (wanted_yes rfl rfl rfl rfl h39)]
        refine wp_call (w2 := wx) (f := 17) (args := #[.agg #[.int .i64 s4.version, .int .i64 s4.epoch, .int .i64 s4.blocks, .int .i64 s4.counters, .int .i64 s4.log, .int .i64 s4.head, .int .i64 s4.applied]]) ?_ ?_
        · clear hd hK
          go_simp
        · refine (ours_c s4).mono ?_
          rintro e w9 ⟨rfl, hf9⟩
          exact ⟨_, rfl, hK _ _ rfl hf9⟩
      refine stepsHold.cons (fun wx hG hd K hK => ?_) ?_
      · have h40 : us 40 = (.agg #[.int .i64 s4.version, .int .i64 s4.epoch, .int .i64 s4.blocks, .int .i64 s4.counters, .int .i64 s4.log, .int .i64 s4.head, .int .i64 s4.applied]) := deps_get hd 0 rfl rfl rfl rfl rfl
        have h42 : us 42 = (.agg #[.int .i64 s4.version, .int .i64 s4.epoch, .int .i64 s4.blocks, .int .i64 s4.counters, .int .i64 s4.log, .int .i64 s4.head, .int .i64 s4.applied]) := deps_get hd 1 rfl rfl rfl rfl rfl
        have h39 : us 39 = (.bool false) := deps_get hd 2 rfl rfl rfl rfl rfl
        rw [if_pos (wanted_yes rfl rfl rfl rfl h39)]
        refine wp_value (w2 := wx) (v := .bool false) ?_ (hK _ _ rfl (Fr.refl _ _))
        clear hd hG hK
        go_simp
      refine stepsHold.cons (fun wx hG hd K hK => ?_) ?_
      · have h39 : us 39 = (.bool false) := deps_get hd 0 rfl rfl rfl rfl rfl
        have h43 : us 43 = (.bool false) := deps_get hd 1 rfl rfl rfl rfl rfl
        rw [if_pos (wanted_none rfl)]
        refine wp_value (w2 := wx) (v := .bool false) ?_ (hK _ _ rfl (Fr.refl _ _))
        clear hd hG hK
        go_simp
      refine stepsHold.cons (fun wx hG hd K hK => ?_) ?_
      · have h44 : us 44 = (.bool false) := deps_get hd 0 rfl rfl rfl rfl rfl
        rw [if_pos (wanted_none rfl)]
        refine wp_value (w2 := wx) (v := .bool false) ?_ (hK _ _ rfl (Fr.refl _ _))
        clear hd hG hK
        go_simp
      refine stepsHold.cons (fun wx hG hd K hK => ?_) ?_
      · have h45 : us 45 = (.bool false) := deps_get hd 0 rfl rfl rfl rfl rfl
        rw [if_pos (wanted_yes rfl rfl rfl rfl h45)]
        refine wp_value (w2 := wx) (v := .slice (some ⟨g, 0, none⟩) 64 cE) ?_ (hK _ _ rfl (Fr.refl _ _))
        clear hd hG hK
        go_simp
      refine stepsHold.cons (fun wx hG hd K hK => ?_) ?_
      · have h46 : us 46 = (.slice (some ⟨g, 0, none⟩) 64 cE) := deps_get hd 0 rfl rfl rfl rfl rfl
        have h45 : us 45 = (.bool false) := deps_get hd 1 rfl rfl rfl rfl rfl
        rw [if_pos (wanted_yes rfl rfl rfl rfl h45)]
        refine wp_value (w2 := wx) (v := .int .i64 64) ?_ (hK _ _ rfl (Fr.refl _ _))
        clear hd hG hK
        go_simp
      refine stepsHold.cons (fun wx hG hd K hK => ?_) ?_
      · have h47 : us 47 = (.int .i64 64) := deps_get hd 0 rfl rfl rfl rfl rfl
        have h45 : us 45 = (.bool false) := deps_get hd 1 rfl rfl rfl rfl rfl
        rw [if_pos (wanted_yes rfl rfl rfl rfl h45)]
        refine wp_value (w2 := wx) (v := .bool false) ?_ (hK _ _ rfl (Fr.refl _ _))
        clear hd hG hK
        go_simp
      refine stepsHold.cons (fun wx hG hd K hK => ?_) ?_
      · have h45 : us 45 = (.bool false) := deps_get hd 0 rfl rfl rfl rfl rfl
        have h48 : us 48 = (.bool false) := deps_get hd 1 rfl rfl rfl rfl rfl
        rw [if_pos (wanted_none rfl)]
        refine wp_value (w2 := wx) (v := .bool false) ?_ (hK _ _ rfl (Fr.refl _ _))
        clear hd hG hK
        go_simp
      exact stepsHold.nil
    case fin =>
      have h37 : us 37 = (.int .i64 0) := all_get hall 0 rfl rfl rfl
      have h38 : us 38 = (.bool false) := all_get hall 1 rfl rfl rfl
      have h39 : us 39 = (.bool false) := all_get hall 2 rfl rfl rfl
      have h40 : us 40 = (.agg #[.int .i64 s4.version, .int .i64 s4.epoch, .int .i64 s4.blocks, .int .i64 s4.counters, .int .i64 s4.log, .int .i64 s4.head, .int .i64 s4.applied]) := all_get hall 3 rfl rfl rfl
      have h41 : us 41 = (.agg #[.int .i64 s4.version, .int .i64 s4.epoch, .int .i64 s4.blocks, .int .i64 s4.counters, .int .i64 s4.log, .int .i64 s4.head, .int .i64 s4.applied]) := all_get hall 4 rfl rfl rfl
      have h42 : us 42 = (.agg #[.int .i64 s4.version, .int .i64 s4.epoch, .int .i64 s4.blocks, .int .i64 s4.counters, .int .i64 s4.log, .int .i64 s4.head, .int .i64 s4.applied]) := all_get hall 5 rfl rfl rfl
      have h43 : us 43 = (.bool false) := all_get hall 6 rfl rfl rfl
      have h44 : us 44 = (.bool false) := all_get hall 7 rfl rfl rfl
      have h45 : us 45 = (.bool false) := all_get hall 8 rfl rfl rfl
      have h46 : us 46 = (.slice (some ⟨g, 0, none⟩) 64 cE) := all_get hall 9 rfl rfl rfl
      have h47 : us 47 = (.int .i64 64) := all_get hall 10 rfl rfl rfl
      have h48 : us 48 = (.bool false) := all_get hall 11 rfl rfl rfl
      have h49 : us 49 = (.bool false) := all_get hall 12 rfl rfl rfl
      simp only [fillL, Nat.reduceAdd]
      clear hall
      simp only [h37, h38, h39, h40, h41, h42, h43, h44, h45, h46, h47, h48, h49]
      clear h37 h38 h39 h40 h41 h42 h43 h44 h45 h46 h47 h48 h49
      obtain ⟨x, hx⟩ : ∃ x, s4.enc[i]? = some x := ⟨s4.enc[i]'(by rw [s4.enc_len]; omega), List.getElem?_eq_getElem _⟩
      have hxb : 0 ≤ x ∧ x ≤ 255 := s4.enc_bys x (List.mem_of_getElem? hx)
      have hrowz := hG.keep0 ROW5.out
      have hcx : wz.cell? ⟨g, i, none⟩ = some (.int .u8 x) := by
        rw [cell_of hrowz]
        have h1 : (cur.toList.take (s4.enc.length * 1))[i]? = some (.int .u8 x) := by rw [TAKE.out]; simp [hx]
        rw [List.getElem?_take_of_lt (by rw [s4.enc_len]; omega)] at h1
        simpa using h1
      have hfz : wz.frozen? ⟨g, i, none⟩ = false := free_of hrowz i
      have HX := Lib.hid hx
      have x0 := hxb.1
      have x1 := hxb.2
      have HRZ := Lib.hid hrowz
      have HG := Lib.hid (HF5.out.then0 hG)
      clear hx hxb hrowz
      go_wp2_with fail
      obtain ⟨y, hye, hyb, hyn⟩ := turn_bit x j x0 x1 j8
      rw [hye]
      have hd4 := flip_dec s4 i64' j8 HX.out y hyb hyn
      have hys : Bys (s4.enc.set i y) := by
        intro z hz
        rcases List.mem_or_eq_of_mem_set hz with hz | rfl
        · exact s4.enc_bys z hz
        · exact hyb
      have hby := row_set (i := i) y HRZ.out TAKE.out B5.out.cap hcm SZ.out
      have HGZ : Hid (Fr F0 w (wz.setCell ⟨g, i, none⟩ (.int .u8 y))) := Lib.hid (HG.out.setCell (by exact .inr hgb) _)
      have D4 := Lib.hid hd4
      clear hye hd4 hcx hfz
      generalize wz.setCell ⟨g, i, none⟩ (.int .u8 y) = wu at *
      refine (decode_n (some ⟨g, 0, none⟩) 64 cE (s4.enc.set i y) (by rw [List.length_set, s4.enc_len]) hby (by rw [List.length_set, s4.enc_len]; decide) hys).mono ?_
      rintro e wv ⟨sv, rfl, hsv, hfv⟩
      rw [D4.out]
      have gv : Fr F0 wu (wv.alloc (.cells #[.int .i64 sv.version, .int .i64 sv.epoch, .int .i64 sv.blocks, .int .i64 sv.counters, .int .i64 sv.log, .int .i64 sv.head, .int .i64 sv.applied] 29)) := hfv.alloc _
      have HFV := Lib.hid (HGZ.out.then0 gv)
      clear gv hfv hsv hby hys hyb hyn
      go_wp2_with fail
      refine (decode_n A n c b HL.out (HA.out.keep0 HFV.out) (by have := N200.out; rw [HL.out]; omega) HB.out).mono ?_
      rintro e wx ⟨sx, rfl, hsx, hfx⟩
      have gx : Fr F0 (wv.alloc (.cells #[.int .i64 sv.version, .int .i64 sv.epoch, .int .i64 sv.blocks, .int .i64 sv.counters, .int .i64 sv.log, .int .i64 sv.head, .int .i64 sv.applied] 29)) (wx.alloc (.cells #[.int .i64 sx.version, .int .i64 sx.epoch, .int .i64 sx.blocks, .int .i64 sx.counters, .int .i64 sx.log, .int .i64 sx.head, .int .i64 sx.applied] 29)) := hfx.alloc _
      have HFX := Lib.hid (HFV.out.then0 gx)
      obtain ⟨ed, hed⟩ : ∃ ed, ed = decE b := ⟨_, rfl⟩
      rw [← hed]
      clear gx hfx
      by_cases hd : ed = 0
      · have hd1 : (ed != 0) = false := by simp [hd]
        obtain ⟨k1, k2⟩ := dec_back HB.out (by rw [← hed]; exact hd)
        have hsF : sx = decF b := hsx.out.trans (by unfold decS; rw [if_pos (by rw [← hed]; exact hd)])
        have hee : (decF b).encE = 0 := by simp [Sup.encE, k1]
        rw [← hsF] at k1 k2 hee
        have K1 := Lib.hid k1
        have K2 := Lib.hid k2
        have HEE := Lib.hid hee
        clear k1 k2 hee hd hed hsF hsx
        go_wp2_with fail
        refine (encode_c sx).mono ?_
        rintro e wy ⟨vy, rfl, hv2, -, hfy⟩
        rw [HEE.out]
        obtain ⟨A2, c2, rfl, hB2, -⟩ := (hv2 K1.out).byt
        rw [K2.out] at hB2
        have HFY := Lib.hid (HFX.out.then0 hfy)
        rw [K2.out]
        have hr2 := conv_at hB2.at_ und_bytes und_u8 und_str c2
        have hrA := conv_at (HA.out.keep0 HFY.out).at_ und_bytes und_u8 und_str c
        rw [HL.out] at hrA hr2
        have hll := HL.out
        clear hv2 hfy hB2
        rw [hll]
        clear hll
        go_wp2_with fail
        go_ret
        exact ⟨rfl, HFY.out⟩
      · have hd1 : (ed != 0) = true := by simp [hd]
        obtain rfl : sx = ⟨0, 0, 0, 0, 0, 0, 0⟩ := hsx.out.trans (by unfold decS; rw [if_neg (by rw [← hed]; exact hd)]; rfl)
        clear hd hed hsx
        go_wp2_with fail
        go_ret
        exact ⟨rfl, HFX.out⟩
  · rw [he]
    clear hv1 hv0 he
    go_wp2_with fail
    refine (decode_n A n c b HL.out (HA.out.keep0 HF3.out) (by have := N200.out; rw [HL.out]; omega) HB.out).mono ?_
    rintro e wx ⟨sx, rfl, hsx, hfx⟩
    have gx : Fr F0 w3 (wx.alloc (.cells #[.int .i64 sx.version, .int .i64 sx.epoch, .int .i64 sx.blocks, .int .i64 sx.counters, .int .i64 sx.log, .int .i64 sx.head, .int .i64 sx.applied] 29)) := hfx.alloc _
    have HFX := Lib.hid (HF3.out.then0 gx)
    obtain ⟨ed, hed⟩ : ∃ ed, ed = decE b := ⟨_, rfl⟩
    rw [← hed]
    clear gx hfx
    by_cases hd : ed = 0
    · have hd1 : (ed != 0) = false := by simp [hd]
      obtain ⟨k1, k2⟩ := dec_back HB.out (by rw [← hed]; exact hd)
      have hsF : sx = decF b := hsx.out.trans (by unfold decS; rw [if_pos (by rw [← hed]; exact hd)])
      have hee : (decF b).encE = 0 := by simp [Sup.encE, k1]
      rw [← hsF] at k1 k2 hee
      have K1 := Lib.hid k1
      have K2 := Lib.hid k2
      have HEE := Lib.hid hee
      clear k1 k2 hee hd hed hsF hsx
      go_wp2_with fail
      refine (encode_c sx).mono ?_
      rintro e wy ⟨vy, rfl, hv2, -, hfy⟩
      rw [HEE.out]
      obtain ⟨A2, c2, rfl, hB2, -⟩ := (hv2 K1.out).byt
      rw [K2.out] at hB2
      have HFY := Lib.hid (HFX.out.then0 hfy)
      rw [K2.out]
      have hr2 := conv_at hB2.at_ und_bytes und_u8 und_str c2
      have hrA := conv_at (HA.out.keep0 HFY.out).at_ und_bytes und_u8 und_str c
      rw [HL.out] at hrA hr2
      have hll := HL.out
      clear hv2 hfy hB2
      rw [hll]
      clear hll
      go_wp2_with fail
      go_ret
      exact ⟨rfl, HFY.out⟩
    · have hd1 : (ed != 0) = true := by simp [hd]
      obtain rfl : sx = ⟨0, 0, 0, 0, 0, 0, 0⟩ := hsx.out.trans (by unfold decS; rw [if_neg (by rw [← hed]; exact hd)]; rfl)
      clear hd hed hsx
      go_wp2_with fail
      go_ret
      exact ⟨rfl, HFX.out⟩
end
end Go.Proofs.YtdeckbdaencjnaaDoor
