/-
  ring: between, Sane, Used, Free, place, Sector, Take, Drop. ring: Take, Drop, full, Spans; append of an element of several cells. ring: full, Spans. Conditions: none.
-/
import Derived.Test.YtdeckbdaencjnaaDoorSv
import Derived.Test.YtdeckbdaencjnaaDoorFree
import Derived.ArgAppend
set_option linter.unusedVariables false
set_option linter.unusedSimpArgs false
namespace Go.Proofs.YtdeckbdaencjnaaDoor
open Go.RowKit
structure Rg where
  from_ : Int
  size : Int
  head : Int
  tail : Int
structure Rg.Sane (r : Rg) : Prop where
  f0 : 0 ≤ r.from_
  f1 : r.from_ ≤ 4096
  s0 : 1 ≤ r.size
  s1 : r.size ≤ 4096
  h0 : 0 ≤ r.head
  ht : r.head ≤ r.tail
  t1 : r.tail ≤ 1099511627776
  fit : r.tail - r.head ≤ r.size
/-- Do numbers rise? -/
def risingB : List Int → Bool
  | a :: b :: l => decide (a ≤ b) && risingB (b :: l)
  | _ => true
theorem risingB_at : ∀ {l : List Int} {k : Nat}, risingB l = true → k + 1 < l.length → l.getD k 0 ≤ l.getD (k + 1) 0
  | [], k, _, h => by simp at h
  | [_], k, _, h => by simp at h
  | a :: b :: l, 0, h, _ => by simp [risingB] at h; simpa using h.1
  | a :: b :: l, k + 1, h, hk => by
    simp [risingB] at h
    have := risingB_at (l := b :: l) (k := k) h.2 (by simpa using hk)
    simpa using this
theorem risingB_of : ∀ {l : List Int}, (∀ k, k + 1 < l.length → l.getD k 0 ≤ l.getD (k + 1) 0) → risingB l = true
  | [], _ => rfl
  | [_], _ => rfl
  | a :: b :: l, h => by
    simp only [risingB, Bool.and_eq_true, decide_eq_true_eq]
    exact ⟨by simpa using h 0 (by simp), risingB_of (fun k hk => by simpa using h (k + 1) (by simpa using hk))⟩
/-- A ring's numbers, in a block of their own. -/
structure RgAt (w : World) (b : Nat) (r : Rg) : Prop where
  ex : ∃ t, w.heap[b]? = some (.cells #[.int .i64 r.from_, .int .i64 r.size, .int .i64 r.head, .int .i64 r.tail] t (0, 0))
theorem RgAt.keep0 {w w' : World} {b : Nat} {r : Rg} (h : RgAt w b r) (hf : Fr F0 w w') : RgAt w' b r := by
  obtain ⟨t, h⟩ := h.ex
  exact ⟨t, hf.keep0 h⟩
theorem RgAt.all {w : World} {b : Nat} {r : Rg} (h : RgAt w b r) : w.cell? ⟨b, 0, none⟩ = some (.int .i64 r.from_) ∧ w.cell? ⟨b, 1, none⟩ = some (.int .i64 r.size) ∧ w.cell? ⟨b, 2, none⟩ = some (.int .i64 r.head) ∧ w.cell? ⟨b, 3, none⟩ = some (.int .i64 r.tail) := by
  obtain ⟨t, e⟩ := h.ex
  refine ⟨?_, ?_, ?_, ?_⟩ <;> (rw [cell_of e]; rfl)
theorem ValsAt.of_block {w : World} {b : Nat} {vs : List Value} {t : TypeId} {fr : Nat × Nat} (h : w.heap[b]? = some (.cells vs.toArray t fr)) : ValsAt w (some ⟨b, 0, none⟩) vs := by
  refine ⟨fun _ => ⟨_, rfl, fun j v hv => ?_⟩⟩
  rw [add_at, Nat.zero_add]
  have : w.cell? ⟨b, j, none⟩ = vs[j]? := by simp [World.cell?, h]
  rw [this, hv]
section
variable {w : World}
set_option maxRecDepth 100000 in
set_option maxHeartbeats 1000000 in
theorem between_c (A : Option Addr) (n c : Nat) (xs : List Int) (hl : xs.length = n) (hA : ValsAt w A (xs.map (Value.int .i64))) (hn : n ≤ 1099511627776) :
    Calls Tryd.prog 111 #[.slice A n c] w fun e w' => e = .returned (.bool (risingB xs)) ∧ Fr F0 w w' := by
  have HL := Lib.hid hl
  have n0 : (0 : Int) ≤ (n : Int) := Int.natCast_nonneg _
  have n1 : (n : Int) ≤ 1099511627776 := by omega
  clear hl
  go_enter Tryd.func111, Tryd.ntmps111
  go_wp2_with fail
  go_loopg [3] (n - 1) (fun kq x3 wr => ∃ j : Nat, 1 ≤ j ∧ kq = n - j ∧ x3 = .int .i64 (j : Int) ∧ (j ≤ n ∨ j = 1) ∧ (∀ i, i + 1 < j → xs.getD i 0 ≤ xs.getD (i + 1) 0) ∧ Fr F0 w wr)
  case atStart => exact ⟨1, by omega, rfl, rfl, .inr rfl, fun i hi => by omega, Fr.refl _ _⟩
  case round =>
    obtain ⟨j, hj, rfl, rfl, hjn, hall, hf⟩ := hrel
    have HALL := Lib.hid hall
    clear hall
    by_cases hlt : j < n
    · have j0 : (0 : Int) ≤ (j : Int) := Int.natCast_nonneg _
      have j1 : (j : Int) < (n : Int) := by omega
      obtain ⟨p, hpj⟩ : ∃ p, j = p + 1 := ⟨j - 1, by omega⟩
      have HPJ := Lib.hid hpj
      obtain ⟨ad, rfl, hc⟩ := (hA.keep0 hf).cells (by rw [List.length_map, HL.out]; omega)
      obtain ⟨x, hx⟩ : ∃ x, x = xs.getD p 0 := ⟨_, rfl⟩
      obtain ⟨y, hy⟩ : ∃ y, y = xs.getD j 0 := ⟨_, rfl⟩
      have cx : wr.cell? (ad.add p) = some (.int .i64 x) := hc p _ (by rw [hx, List.getElem?_map, List.getD, List.getElem?_eq_getElem (show p < xs.length by rw [HL.out]; omega)]; rfl)
      have cy : wr.cell? (ad.add j) = some (.int .i64 y) := hc j _ (by rw [hy, List.getElem?_map, List.getD, List.getElem?_eq_getElem (show j < xs.length by rw [HL.out]; omega)]; rfl)
      have HX := Lib.hid hx
      have HY := Lib.hid hy
      have hw : IntKind.i64.wrap ((j : Int) - 1) = (p : Int) := by rw [IntKind.wrap_i64]; omega
      have hp0 : (0 : Int) ≤ (p : Int) := Int.natCast_nonneg _
      have hpn : (p : Int) < (n : Int) := by omega
      clear hc hx hy hpj
      by_cases hgt : y < x
      · have hg : decide (y < x) = true := by simpa using hgt
        have hb : risingB xs = false := by
          cases hr : risingB xs with
          | false => rfl
          | true =>
            have := risingB_at (k := p) hr (by rw [HL.out, ← HPJ.out]; exact hlt)
            rw [← HPJ.out, ← HX.out, ← HY.out] at this
            omega
        have HB := Lib.hid hb
        clear hb
        go_wp2_with fail
        go_still (by kernel_rfl)
        go_wp2_with fail
        go_ret
        exact ⟨by rw [HB.out]; rfl, hf.drew⟩
      · have hg : decide (y < x) = false := by simpa using hgt
        go_wp2_with fail
        go_still (by kernel_rfl)
        go_wp2_with fail
        go_roundg (n - (j + 1))
        case measure => omega
        case rel =>
          refine ⟨j + 1, by omega, rfl, by first | rfl | (go_num), .inl (by omega), fun i hi => ?_, hf.drew⟩
          by_cases hi2 : i + 1 < j
          · exact HALL.out i hi2
          · have hip : i = p := by have := HPJ.out; omega
            subst hip
            rw [← HPJ.out, ← HX.out, ← HY.out]; omega
    · have hb : risingB xs = true := risingB_of (fun k hk => HALL.out k (by rw [HL.out] at hk; omega))
      have HB := Lib.hid hb
      have j1 : ¬ (j : Int) < (n : Int) := by omega
      clear hb
      go_wp2_with fail
      go_ret
      exact ⟨by rw [HB.out]; rfl, hf⟩
theorem rise3 {a b c : Int} (h1 : a ≤ b) (h2 : b ≤ c) : risingB [a, b, c] = true := by simp [risingB, h1, h2]
theorem rise4 {a b c d : Int} (h1 : a ≤ b) (h2 : b ≤ c) (h3 : c ≤ d) : risingB [a, b, c, d] = true := by simp [risingB, h1, h2, h3]
theorem between3_c {w : World} {B : Nat} (a b c : Int) (h : w.heap[B]? = some (.cells #[.int .i64 a, .int .i64 b, .int .i64 c] 3 (0, 0))) :
    Calls Tryd.prog 111 #[.slice (some ⟨B, 0, none⟩) 3 3] w fun e w' => e = .returned (.bool (risingB [a, b, c])) ∧ Fr F0 w w' :=
  between_c _ 3 3 [a, b, c] rfl (ValsAt.of_block h) (by decide)
theorem between4_c {w : World} {B : Nat} (a b c d : Int) (h : w.heap[B]? = some (.cells #[.int .i64 a, .int .i64 b, .int .i64 c, .int .i64 d] 3 (0, 0))) :
    Calls Tryd.prog 111 #[.slice (some ⟨B, 0, none⟩) 4 4] w fun e w' => e = .returned (.bool (risingB [a, b, c, d])) ∧ Fr F0 w w' :=
  between_c _ 4 4 [a, b, c, d] rfl (ValsAt.of_block h) (by decide)
set_option maxRecDepth 100000 in
set_option maxHeartbeats 1000000 in
theorem gsane_c (r : Rg) (hr : r.Sane) : Calls Tryd.prog 108 #[(.agg #[.int .i64 r.from_, .int .i64 r.size, .int .i64 r.head, .int .i64 r.tail])] w fun e w' => e = .returned (.bool true) ∧ Fr F0 w w' := by
  obtain ⟨f0, f1, s0, s1, h0, ht, t1, fit⟩ := hr
  have R0 : Hid (RgAt (w.alloc (.cells #[.int .i64 r.from_, .int .i64 r.size, .int .i64 r.head, .int .i64 r.tail] 122)) w.heap.size r) := Lib.hid ⟨_, alloc_at rfl _⟩
  have F0_ : Hid (Fr F0 w (w.alloc (.cells #[.int .i64 r.from_, .int .i64 r.size, .int .i64 r.head, .int .i64 r.tail] 122))) := Lib.hid ((Fr.refl _ _).alloc _)
  have b1 : Hid (risingB [0, r.from_, 4096] = true) := Lib.hid (rise3 f0 f1)
  have b2 : Hid (risingB [1, r.size, 4096] = true) := Lib.hid (rise3 s0 s1)
  have b3 : Hid (risingB [0, r.head, r.tail, 1099511627776] = true) := Lib.hid (rise4 h0 ht t1)
  go_enter Tryd.func108, Tryd.ntmps108
  go_wp2_with fail
  refine (between3_c 0 r.from_ 4096 (alloc_at (by simp) _)).mono ?_
  rintro e w1 ⟨rfl, hf⟩
  have hf' : Fr F0 (w.alloc (.cells #[.int .i64 r.from_, .int .i64 r.size, .int .i64 r.head, .int .i64 r.tail] 122)) w1 := ((Fr.refl _ _).alloc _).then0 hf
  have R0 := Lib.hid (R0.out.keep0 hf')
  have F0_ := Lib.hid (F0_.out.then0 hf')
  obtain ⟨k0, k1, k2, k3⟩ := R0.out.all
  rw [b1.out]
  clear hf hf'
  go_wp2_with fail
  refine (between3_c 1 r.size 4096 (alloc_at rfl _)).mono ?_
  rintro e w2 ⟨rfl, hf⟩
  have hf' : Fr F0 w1 w2 := ((Fr.refl _ _).alloc _).then0 hf
  have R0 := Lib.hid (R0.out.keep0 hf')
  have F0_ := Lib.hid (F0_.out.then0 hf')
  clear k0 k1 k2 k3
  obtain ⟨k0, k1, k2, k3⟩ := R0.out.all
  rw [b2.out]
  clear hf hf'
  go_wp2_with fail
  refine (between4_c 0 r.head r.tail 1099511627776 (alloc_at rfl _)).mono ?_
  rintro e w3 ⟨rfl, hf⟩
  have hf' : Fr F0 w2 w3 := ((Fr.refl _ _).alloc _).then0 hf
  have R0 := Lib.hid (R0.out.keep0 hf')
  have F0_ := Lib.hid (F0_.out.then0 hf')
  clear k0 k1 k2 k3
  obtain ⟨k0, k1, k2, k3⟩ := R0.out.all
  rw [b3.out]
  clear hf hf'
  go_wp2_with fail
  go_ret
  exact ⟨rfl, F0_.out⟩
set_option maxRecDepth 100000 in
set_option maxHeartbeats 1000000 in
theorem used_c (r : Rg) (hr : r.Sane) : Calls Tryd.prog 110 #[(.agg #[.int .i64 r.from_, .int .i64 r.size, .int .i64 r.head, .int .i64 r.tail])] w fun e w' => e = .returned (.int .i64 (r.tail - r.head)) ∧ Fr F0 w w' := by
  have HR := Lib.hid hr
  obtain ⟨f0, f1, s0, s1, h0, ht, t1, fit⟩ := hr
  have R0 : Hid (RgAt (w.alloc (.cells #[.int .i64 r.from_, .int .i64 r.size, .int .i64 r.head, .int .i64 r.tail] 122)) w.heap.size r) := Lib.hid ⟨_, alloc_at rfl _⟩
  have F0_ : Hid (Fr F0 w (w.alloc (.cells #[.int .i64 r.from_, .int .i64 r.size, .int .i64 r.head, .int .i64 r.tail] 122))) := Lib.hid ((Fr.refl _ _).alloc _)
  go_enter Tryd.func110, Tryd.ntmps110
  go_wp2_with fail
  refine (gsane_c r HR.out).mono ?_
  rintro e w1 ⟨rfl, hf⟩
  have R0 := Lib.hid (R0.out.keep0 hf)
  have F0_ := Lib.hid (F0_.out.then0 hf)
  obtain ⟨k0, k1, k2, k3⟩ := R0.out.all
  clear hf
  go_wp2_with fail
  go_ret
  exact ⟨rfl, F0_.out⟩
set_option maxRecDepth 100000 in
set_option maxHeartbeats 1000000 in
theorem gfree_c (r : Rg) (hr : r.Sane) : Calls Tryd.prog 83 #[(.agg #[.int .i64 r.from_, .int .i64 r.size, .int .i64 r.head, .int .i64 r.tail])] w fun e w' => e = .returned (.int .i64 (r.size - (r.tail - r.head))) ∧ Fr F0 w w' := by
  have HR := Lib.hid hr
  obtain ⟨f0, f1, s0, s1, h0, ht, t1, fit⟩ := hr
  have R0 : Hid (RgAt (w.alloc (.cells #[.int .i64 r.from_, .int .i64 r.size, .int .i64 r.head, .int .i64 r.tail] 122)) w.heap.size r) := Lib.hid ⟨_, alloc_at rfl _⟩
  have F0_ : Hid (Fr F0 w (w.alloc (.cells #[.int .i64 r.from_, .int .i64 r.size, .int .i64 r.head, .int .i64 r.tail] 122))) := Lib.hid ((Fr.refl _ _).alloc _)
  have hw : Hid (IntKind.i64.wrap (r.size - (r.tail - r.head)) = r.size - (r.tail - r.head)) := Lib.hid (by rw [IntKind.wrap_i64]; omega)
  go_enter Tryd.func83, Tryd.ntmps83
  go_wp2_with fail
  refine (gsane_c r HR.out).mono ?_
  rintro e w1 ⟨rfl, hf⟩
  have R0 := Lib.hid (R0.out.keep0 hf)
  have F0_ := Lib.hid (F0_.out.then0 hf)
  clear hf
  go_wp2_with fail
  refine wp_region_free (S := F0) [false, false, true, false, false, false, true, true, true, true, true] [.eq (.pointer (some ⟨w.heap.size, 1, none⟩)), .eq (.int .i64 r.size), .eq (.agg #[.int .i64 r.from_, .int .i64 r.size, .int .i64 r.head, .int .i64 r.tail]), .eq (.int .i64 (r.tail - r.head)), .eq (.int .i64 (r.size - (r.tail - r.head))), .eq (.int .i64 (r.size - (r.tail - r.head)))] (by kernel_rfl) (by kernel_rfl) (by rfl) (fun us => ?steps) (fun us wz hG hall => ?fin)
  case steps =>
    simp only [fillL, Nat.reduceAdd]
    refine stepsHold.cons (fun wx hG hd K hK => ?_) ?_
    · rw [if_pos (wanted_none rfl)]
      refine wp_value (w2 := wx) (v := .pointer (some ⟨w.heap.size, 1, none⟩)) ?_ (hK _ _ rfl (Fr.refl _ _))
      clear hd hG hK
      go_simp
    refine stepsHold.cons (fun wx hG hd K hK => ?_) ?_
    · have h6 : us 6 = (.pointer (some ⟨w.heap.size, 1, none⟩)) := deps_get hd 0 rfl rfl rfl rfl rfl
      rw [if_pos (wanted_none rfl)]
      obtain ⟨k0, k1, k2, k3⟩ := (R0.out.keep0 hG).all
      refine wp_value (w2 := wx) (v := .int .i64 r.size) ?_ (hK _ _ rfl (Fr.refl _ _))
      clear hd hK
      go_simp
    refine stepsHold.cons (fun wx hG hd K hK => ?_) ?_
    · rw [if_pos (wanted_none rfl)]
      obtain ⟨k0, k1, k2, k3⟩ := (R0.out.keep0 hG).all
      refine wp_value (w2 := wx) (v := .agg #[.int .i64 r.from_, .int .i64 r.size, .int .i64 r.head, .int .i64 r.tail]) ?_ (hK _ _ rfl (Fr.refl _ _))
      clear hd hK
      go_simp
    refine stepsHold.cons (fun wx hG hd K hK => ?_) ?_
    · have h8 : us 8 = (.agg #[.int .i64 r.from_, .int .i64 r.size, .int .i64 r.head, .int .i64 r.tail]) := deps_get hd 0 rfl rfl rfl rfl rfl
      rw [if_pos (wanted_none rfl)]
      refine wp_call (w2 := wx) (f := 110) (args := #[.agg #[.int .i64 r.from_, .int .i64 r.size, .int .i64 r.head, .int .i64 r.tail]]) ?_ ?_
      · clear hd hK
        go_simp
      · refine (used_c r HR.out).mono ?_
        rintro e w9 ⟨rfl, hf9⟩
        exact ⟨_, rfl, hK _ _ rfl hf9⟩
    refine stepsHold.cons (fun wx hG hd K hK => ?_) ?_
    · have h7 : us 7 = (.int .i64 r.size) := deps_get hd 0 rfl rfl rfl rfl rfl
      have h9 : us 9 = (.int .i64 (r.tail - r.head)) := deps_get hd 1 rfl rfl rfl rfl rfl
      rw [if_pos (wanted_none rfl)]
      have hw := hw.out
      refine wp_value (w2 := wx) (v := .int .i64 (r.size - (r.tail - r.head))) ?_ (hK _ _ rfl (Fr.refl _ _))
      clear hd hG hK
      go_simp
    refine stepsHold.cons (fun wx hG hd K hK => ?_) ?_
    · have h10 : us 10 = (.int .i64 (r.size - (r.tail - r.head))) := deps_get hd 0 rfl rfl rfl rfl rfl
      rw [if_pos (wanted_none rfl)]
      refine wp_value (w2 := wx) (v := .int .i64 (r.size - (r.tail - r.head))) ?_ (hK _ _ rfl (Fr.refl _ _))
      clear hd hG hK
      go_simp
    exact stepsHold.nil
  case fin =>
    have h6 : us 6 = (.pointer (some ⟨w.heap.size, 1, none⟩)) := all_get hall 0 rfl rfl rfl
    have h7 : us 7 = (.int .i64 r.size) := all_get hall 1 rfl rfl rfl
    have h8 : us 8 = (.agg #[.int .i64 r.from_, .int .i64 r.size, .int .i64 r.head, .int .i64 r.tail]) := all_get hall 2 rfl rfl rfl
    have h9 : us 9 = (.int .i64 (r.tail - r.head)) := all_get hall 3 rfl rfl rfl
    have h10 : us 10 = (.int .i64 (r.size - (r.tail - r.head))) := all_get hall 4 rfl rfl rfl
    have h2 : us 2 = (.int .i64 (r.size - (r.tail - r.head))) := all_get hall 5 rfl rfl rfl
    simp only [fillL, Nat.reduceAdd]
    clear hall
    simp only [h6, h7, h8, h9, h10, h2]
    clear h6 h7 h8 h9 h10 h2
    go_wp2_with fail
    go_ret
    exact ⟨rfl, F0_.out.then0 hG⟩
set_option maxRecDepth 100000 in
set_option maxHeartbeats 1000000 in
theorem place_c (r : Rg) (hr : r.Sane) (at_ : Int) (a0 : 0 ≤ at_) (a1 : at_ ≤ 2199023255552) : Calls Tryd.prog 109 #[(.agg #[.int .i64 r.from_, .int .i64 r.size, .int .i64 r.head, .int .i64 r.tail]), .int .i64 at_] w fun e w' => e = .returned (.bool true) ∧ Fr F0 w w' := by
  have R0 : Hid (RgAt (w.alloc (.cells #[.int .i64 r.from_, .int .i64 r.size, .int .i64 r.head, .int .i64 r.tail] 122)) w.heap.size r) := Lib.hid ⟨_, alloc_at rfl _⟩
  have F0_ : Hid (Fr F0 w (w.alloc (.cells #[.int .i64 r.from_, .int .i64 r.size, .int .i64 r.head, .int .i64 r.tail] 122))) := Lib.hid ((Fr.refl _ _).alloc _)
  have b1 : Hid (risingB [0, at_, 2199023255552] = true) := Lib.hid (rise3 a0 a1)
  go_enter Tryd.func109, Tryd.ntmps109
  go_wp2_with fail
  refine (gsane_c r hr).mono ?_
  rintro e w1 ⟨rfl, hf⟩
  have R0 := Lib.hid (R0.out.keep0 hf)
  have F0_ := Lib.hid (F0_.out.then0 hf)
  clear hf
  go_wp2_with fail
  refine (between3_c 0 at_ 2199023255552 (alloc_at rfl _)).mono ?_
  rintro e w2 ⟨rfl, hf⟩
  have hf' : Fr F0 w1 w2 := ((Fr.refl _ _).alloc _).then0 hf
  have F0_ := Lib.hid (F0_.out.then0 hf')
  rw [b1.out]
  clear hf hf'
  go_wp2_with fail
  go_ret
  exact ⟨rfl, F0_.out⟩
def Rg.sec (r : Rg) (at_ : Int) : Int := r.from_ + at_ % r.size
set_option maxRecDepth 100000 in
set_option maxHeartbeats 1000000 in
theorem sector_c (r : Rg) (hr : r.Sane) (at_ : Int) (a0 : 0 ≤ at_) (a1 : at_ ≤ 2199023255552) : Calls Tryd.prog 82 #[(.agg #[.int .i64 r.from_, .int .i64 r.size, .int .i64 r.head, .int .i64 r.tail]), .int .i64 at_] w fun e w' => e = .returned (.int .i64 (r.sec at_)) ∧ Fr F0 w w' := by
  have HR := Lib.hid hr
  obtain ⟨f0, f1, s0, s1, h0, ht, t1, fit⟩ := hr
  have R0 : Hid (RgAt (w.alloc (.cells #[.int .i64 r.from_, .int .i64 r.size, .int .i64 r.head, .int .i64 r.tail] 122)) w.heap.size r) := Lib.hid ⟨_, alloc_at rfl _⟩
  have F0_ : Hid (Fr F0 w (w.alloc (.cells #[.int .i64 r.from_, .int .i64 r.size, .int .i64 r.head, .int .i64 r.tail] 122))) := Lib.hid ((Fr.refl _ _).alloc _)
  have m0 := Int.emod_nonneg at_ (show r.size ≠ 0 by omega)
  have m1 := Int.emod_lt_of_pos at_ (show 0 < r.size by omega)
  obtain ⟨m, hm⟩ : ∃ m, m = at_ % r.size := ⟨_, rfl⟩
  have hs : r.sec at_ = r.from_ + m := by rw [hm]; rfl
  rw [hs]
  rw [← hm] at m0 m1
  have HRE : Hid (at_.tmod r.size = m) := Lib.hid (by rw [hm, Int.tmod_eq_emod_of_nonneg a0])
  have HNZ : Hid (¬ r.size = 0) := Lib.hid (by omega)
  have hw : Hid (IntKind.i64.wrap (r.from_ + m) = r.from_ + m) := Lib.hid (by rw [IntKind.wrap_i64]; omega)
  clear hs hm
  go_enter Tryd.func82, Tryd.ntmps82
  go_wp2_with fail
  refine (place_c r HR.out at_ a0 a1).mono ?_
  rintro e w1 ⟨rfl, hf⟩
  have R0 := Lib.hid (R0.out.keep0 hf)
  have F0_ := Lib.hid (F0_.out.then0 hf)
  clear hf
  go_wp2_with fail
  refine wp_region_free (S := F0) [false, false, false, false, true, false, false, false, false, true, true, true, true, true, true, true] [.eq (.pointer (some ⟨w.heap.size, 0, none⟩)), .eq (.int .i64 r.from_), .eq (.int .i64 at_), .eq (.pointer (some ⟨w.heap.size, 1, none⟩)), .eq (.int .i64 r.size), .eq (.int .i64 m), .eq (.int .i64 (r.from_ + m)), .eq (.int .i64 (r.from_ + m))] (by kernel_rfl) (by kernel_rfl) (by rfl) (fun us => ?steps) (fun us wz hG hall => ?fin)
  case steps =>
    simp only [fillL, Nat.reduceAdd]
    refine stepsHold.cons (fun wx hG hd K hK => ?_) ?_
    · rw [if_pos (wanted_none rfl)]
      refine wp_value (w2 := wx) (v := .pointer (some ⟨w.heap.size, 0, none⟩)) ?_ (hK _ _ rfl (Fr.refl _ _))
      clear hd hG hK
      go_simp
    refine stepsHold.cons (fun wx hG hd K hK => ?_) ?_
    · have h9 : us 9 = (.pointer (some ⟨w.heap.size, 0, none⟩)) := deps_get hd 0 rfl rfl rfl rfl rfl
      rw [if_pos (wanted_none rfl)]
      obtain ⟨k0, k1, k2, k3⟩ := (R0.out.keep0 hG).all
      refine wp_value (w2 := wx) (v := .int .i64 r.from_) ?_ (hK _ _ rfl (Fr.refl _ _))
      clear hd hK
      go_simp
    refine stepsHold.cons (fun wx hG hd K hK => ?_) ?_
    · rw [if_pos (wanted_none rfl)]
      refine wp_value (w2 := wx) (v := .int .i64 at_) ?_ (hK _ _ rfl (Fr.refl _ _))
      clear hd hG hK
      go_simp
    refine stepsHold.cons (fun wx hG hd K hK => ?_) ?_
    · rw [if_pos (wanted_none rfl)]
      refine wp_value (w2 := wx) (v := .pointer (some ⟨w.heap.size, 1, none⟩)) ?_ (hK _ _ rfl (Fr.refl _ _))
      clear hd hG hK
      go_simp
    refine stepsHold.cons (fun wx hG hd K hK => ?_) ?_
    · have h12 : us 12 = (.pointer (some ⟨w.heap.size, 1, none⟩)) := deps_get hd 0 rfl rfl rfl rfl rfl
      rw [if_pos (wanted_none rfl)]
      obtain ⟨k0, k1, k2, k3⟩ := (R0.out.keep0 hG).all
      refine wp_value (w2 := wx) (v := .int .i64 r.size) ?_ (hK _ _ rfl (Fr.refl _ _))
      clear hd hK
      go_simp
    refine stepsHold.cons (fun wx hG hd K hK => ?_) ?_
    · have h11 : us 11 = (.int .i64 at_) := deps_get hd 0 rfl rfl rfl rfl rfl
      have h13 : us 13 = (.int .i64 r.size) := deps_get hd 1 rfl rfl rfl rfl rfl
      rw [if_pos (wanted_none rfl)]
      have hre := HRE.out
      have hnz := HNZ.out
      refine wp_value (w2 := wx) (v := .int .i64 m) ?_ (hK _ _ rfl (Fr.refl _ _))
      clear hd hG hK
      go_simp
    refine stepsHold.cons (fun wx hG hd K hK => ?_) ?_
    · have h10 : us 10 = (.int .i64 r.from_) := deps_get hd 0 rfl rfl rfl rfl rfl
      have h14 : us 14 = (.int .i64 m) := deps_get hd 1 rfl rfl rfl rfl rfl
      rw [if_pos (wanted_none rfl)]
      have hw := hw.out
      refine wp_value (w2 := wx) (v := .int .i64 (r.from_ + m)) ?_ (hK _ _ rfl (Fr.refl _ _))
      clear hd hG hK
      go_simp
    refine stepsHold.cons (fun wx hG hd K hK => ?_) ?_
    · have h15 : us 15 = (.int .i64 (r.from_ + m)) := deps_get hd 0 rfl rfl rfl rfl rfl
      rw [if_pos (wanted_none rfl)]
      refine wp_value (w2 := wx) (v := .int .i64 (r.from_ + m)) ?_ (hK _ _ rfl (Fr.refl _ _))
      clear hd hG hK
      go_simp
    exact stepsHold.nil
  case fin =>
    have h9 : us 9 = (.pointer (some ⟨w.heap.size, 0, none⟩)) := all_get hall 0 rfl rfl rfl
    have h10 : us 10 = (.int .i64 r.from_) := all_get hall 1 rfl rfl rfl
    have h11 : us 11 = (.int .i64 at_) := all_get hall 2 rfl rfl rfl
    have h12 : us 12 = (.pointer (some ⟨w.heap.size, 1, none⟩)) := all_get hall 3 rfl rfl rfl
    have h13 : us 13 = (.int .i64 r.size) := all_get hall 4 rfl rfl rfl
    have h14 : us 14 = (.int .i64 m) := all_get hall 5 rfl rfl rfl
    have h15 : us 15 = (.int .i64 (r.from_ + m)) := all_get hall 6 rfl rfl rfl
    have h4 : us 4 = (.int .i64 (r.from_ + m)) := all_get hall 7 rfl rfl rfl
    simp only [fillL, Nat.reduceAdd]
    clear hall
    simp only [h9, h10, h11, h12, h13, h14, h15, h4]
    clear h9 h10 h11 h12 h13 h14 h15 h4
    go_wp2_with fail
    go_ret
    exact ⟨rfl, F0_.out.then0 hG⟩
end
end Go.Proofs.YtdeckbdaencjnaaDoor
set_option linter.unusedVariables false
set_option linter.unusedSimpArgs false
namespace Go.Proofs.YtdeckbdaencjnaaDoor
open Go.RowKit
section
variable {P : Program}
/-- append(v, y), y an element of several cells that was just laid. -/
theorem wpList_append_cells {ops : Array Oper} {rest : List Oper} {o : Oper} {a : Act} {Q : Exit → Act → World → Prop} {W : World} (hgd : o.guard = none) (s x : Operand) (t e : TypeId) (size bytes : Nat) (z : Value)
    (ho : o.op = .call { callee := .builtin .append, args := #[s, x], argTypes := #[t, t] })
    (ht : P.underlying t = some (.slice e)) (hinfo : (P.info? e).map (fun i => (i.zero, i.size, i.bytes)) = some (some z, size, bytes)) (hz : z.cells.size = size) (hs0 : 0 < size) (hb0 : 0 < bytes)
    (base : Nat) (v : Value) (n : Nat) (xs ys : List Value) (B : Nat) (hB : B = W.heap.size) (hs : a.eval s = v) (hx : a.eval x = .slice (some ⟨B, 0, none⟩) 1 1) (hy : ys.length = size) (h1 : ∀ u ∈ ys, u.oneCell' = true)
    (HO : W.ownsRow base e size v n xs) (hbase : base ≤ W.heap.size) (hl : (n + 1) * bytes ≤ 140737488355328)
    (h : ∀ v1 w1, w1.ownsRow base e size v1 (n + 1) (xs ++ ys) → Fr (fun k => v.ownBlock = some k) W w1 → wpList P ops Q rest (a.put o.dst v1) w1) :
    wpList P ops Q (o :: rest) a (W.alloc (.cells ys.toArray e)) := by
  subst hB
  obtain ⟨i0, hi, hzz⟩ := Option.map_eq_some_iff.1 hinfo
  simp only [Prod.mk.injEq] at hzz
  obtain ⟨hz0, hz1, hz2⟩ := hzz
  have hlen : n + 1 ≤ 140737488355328 := Nat.le_trans (Nat.le_mul_of_pos_right _ hb0) hl
  refine wpList_append_own_at (W.alloc (.cells ys.toArray e)) hgd s x t ho base e i0 z size bytes ht hi hz0 hz1 hz2 hz hs0 v n xs hs (HO.alloc _) ⟨W.heap.size, 0, none⟩ 1 1 ys hx (by rw [hy, Nat.one_mul])
    (World.news_of_block (cs := ys.toArray) (t := e) (fr := (0, 0)) (heap_alloc_new W _)) h1 (by simp only [maxLen]; omega) hl (by simp; omega) ?_
  intro v1 w1 hown hg _ hat
  exact h v1 w1 hown (((Fr.refl _ W).alloc _).grown hg (fun k hk => .inl hk))
end
theorem und_ring : ∃ d, Tryd.prog.underlying 122 = some d ∧ aggDesc d = true := ⟨_, Tryd.underlying122, rfl⟩
theorem size_ring : (Tryd.prog.info? 122).map (·.size) = some 4 := by kernel_rfl
def Rg.cells (r : Rg) : List Value := [.int .i64 r.from_, .int .i64 r.size, .int .i64 r.head, .int .i64 r.tail]
def Rg.zero : Rg := ⟨0, 0, 0, 0⟩
theorem Rg.one (r : Rg) : ∀ v ∈ r.cells, v.oneCell' = true := by
  intro v hv
  simp only [Rg.cells, List.mem_cons, List.not_mem_nil, or_false] at hv
  rcases hv with rfl | rfl | rfl | rfl <;> rfl
theorem load_ring {w : World} {b : Nat} {t : TypeId} {r : Rg} (h : w.heap[b]? = some (.cells r.cells.toArray t (0, 0))) : (loadVar 122 ⟨b, 0, none⟩).run Tryd.prog w = .ok (.agg r.cells.toArray) w := by
  obtain ⟨d, hu, hd⟩ := und_ring
  refine run_loadVar_at w b 0 122 r.cells d (fun j v hv => ?_) hu hd size_ring
  rw [cell_of h]
  simpa using hv
theorem ring_ret {fn : Func} {c2 c3 : Nat} {a : Act} {w : World} {b : Nat} {t : TypeId} {r : Rg} {e : Int} {R : Ending → World → Prop} (hfn : fn.results = #[.cell c2 122, .tmp c3]) (ha : a.tmps.getD c2 undef = .pointer (some ⟨b, 0, none⟩)) (hc : a.tmps.getD c3 undef = .int .i64 e) (hd : a.defers = [])
    (hh : w.heap[b]? = some (.cells r.cells.toArray t (0, 0))) (hR : R (.returned (.tuple #[.agg r.cells.toArray, .int .i64 e])) w) : bodyPost Tryd.prog fn R .ret a w :=
  bodyPost_ret (results_cell2 hfn ha hc (load_ring hh)) hd hR
def Rg.takeE (r : Rg) (n : Int) : Int := if r.size - (r.tail - r.head) < n ∨ 1099511627776 - r.tail < n then 5 else 0
def Rg.taken (r : Rg) (n : Int) : Rg := { r with tail := r.tail + n }
def Rg.takeR (r : Rg) (n : Int) : Rg := if r.takeE n = 0 then r.taken n else Rg.zero
def Rg.dropE (r : Rg) (to : Int) : Int := if risingB [r.head, to, r.tail] = true then 0 else 1
def Rg.dropped (r : Rg) (to : Int) : Rg := { r with head := to }
def Rg.dropR (r : Rg) (to : Int) : Rg := if r.dropE to = 0 then r.dropped to else Rg.zero
section
variable {w : World}
set_option maxRecDepth 100000 in
set_option maxHeartbeats 2000000 in
theorem take7_c (r : Rg) (hr : r.Sane) (n : Int) (n0 : 0 ≤ n) (n1 : n ≤ 1099511627776) : Calls Tryd.prog 80 #[(.agg #[.int .i64 r.from_, .int .i64 r.size, .int .i64 r.head, .int .i64 r.tail]), .int .i64 n] w fun e w' => e = .returned (.tuple #[(.agg #[.int .i64 (r.takeR n).from_, .int .i64 (r.takeR n).size, .int .i64 (r.takeR n).head, .int .i64 (r.takeR n).tail]), .int .i64 (r.takeE n)]) ∧ Fr F0 w w' := by
  have HR := Lib.hid hr
  obtain ⟨f0, f1, s0, s1, h0, ht, t1, fit⟩ := hr
  have R0 : Hid (((w.alloc (.cells #[.int .i64 r.from_, .int .i64 r.size, .int .i64 r.head, .int .i64 r.tail] 122)).alloc (.cells #[.int .i64 0, .int .i64 0, .int .i64 0, .int .i64 0] 122)).heap[w.heap.size]? = some (.cells r.cells.toArray 122 (0, 0))) := Lib.hid (keep_alloc (alloc_at rfl _) _)
  have R1 : Hid (((w.alloc (.cells #[.int .i64 r.from_, .int .i64 r.size, .int .i64 r.head, .int .i64 r.tail] 122)).alloc (.cells #[.int .i64 0, .int .i64 0, .int .i64 0, .int .i64 0] 122)).heap[w.heap.size + 1]? = some (.cells Rg.zero.cells.toArray 122 (0, 0))) := Lib.hid (alloc_at (by simp) _)
  have F0_ : Hid (Fr F0 w ((w.alloc (.cells #[.int .i64 r.from_, .int .i64 r.size, .int .i64 r.head, .int .i64 r.tail] 122)).alloc (.cells #[.int .i64 0, .int .i64 0, .int .i64 0, .int .i64 0] 122))) := Lib.hid (((Fr.refl _ _).alloc _).alloc _)
  have hEt : (r.size - (r.tail - r.head) < n ∨ 1099511627776 - r.tail < n) → r.takeE n = 5 := fun h => by unfold Rg.takeE; rw [if_pos h]
  have hEf : ¬ (r.size - (r.tail - r.head) < n ∨ 1099511627776 - r.tail < n) → r.takeE n = 0 := fun h => by unfold Rg.takeE; rw [if_neg h]
  have HEt := Lib.hid hEt
  have HEf := Lib.hid hEf
  have hn0 : ¬ n < 0 := by omega
  clear hEt hEf
  go_enter Tryd.func80, Tryd.ntmps80
  go_wp2_with fail
  refine (gsane_c r HR.out).mono ?_
  rintro e w1 ⟨rfl, hf⟩
  have R0 := Lib.hid (hf.keep0 R0.out)
  have R1 := Lib.hid (hf.keep0 R1.out)
  have F0_ := Lib.hid (F0_.out.then0 hf)
  obtain ⟨k0, k1, k2, k3⟩ := (show RgAt w1 w.heap.size r from ⟨_, R0.out⟩).all
  have hzs : w.heap.size + 1 < w1.heap.size := lt_of_block R1.out
  clear hf
  go_wp2_with fail
  refine (gfree_c r HR.out).mono ?_
  rintro e w2 ⟨rfl, hf⟩
  have R0 := Lib.hid (hf.keep0 R0.out)
  have R1 := Lib.hid (hf.keep0 R1.out)
  have F0_ := Lib.hid (F0_.out.then0 hf)
  clear k0 k1 k2 k3
  obtain ⟨k0, k1, k2, k3⟩ := (show RgAt w2 w.heap.size r from ⟨_, R0.out⟩).all
  have fz := free_of R0.out 3
  clear hf
  by_cases hfull : r.size - (r.tail - r.head) < n ∨ 1099511627776 - r.tail < n
  · have hE := HEt.out hfull
    have hRR : r.takeR n = Rg.zero := by unfold Rg.takeR; rw [if_neg (by rw [hE]; decide)]
    have HE := Lib.hid hE
    have HRR := Lib.hid hRR
    clear hE hRR
    by_cases hf1 : r.size - (r.tail - r.head) < n
    · clear hfull
      go_wp2_with (refine wpList_store_at rfl 122 (.tmp 4) (.tmp 27) rfl (w.heap.size + 1) 0 Rg.zero.cells (by rfl) (by rfl) 122 Rg.zero.cells R1.out size_ring (by decide) (Rg.one _) ?_)
      refine ring_ret (b := w.heap.size + 1) (t := 122) Tryd.results80 (by rfl) (by rfl) rfl ?_ ⟨by rw [HE.out, HRR.out]; rfl, F0_.out.setRow (by exact .inr (by omega)) _⟩
      rw [setRow_heap _ (w.heap.size + 1) _ _ _ _ R1.out, splat_all _ _ rfl]
    · have hf2 : 1099511627776 - r.tail < n := by omega
      clear hfull
      go_wp2_with (refine wpList_store_at rfl 122 (.tmp 4) (.tmp 27) rfl (w.heap.size + 1) 0 Rg.zero.cells (by rfl) (by rfl) 122 Rg.zero.cells R1.out size_ring (by decide) (Rg.one _) ?_)
      refine ring_ret (b := w.heap.size + 1) (t := 122) Tryd.results80 (by rfl) (by rfl) rfl ?_ ⟨by rw [HE.out, HRR.out]; rfl, F0_.out.setRow (by exact .inr (by omega)) _⟩
      rw [setRow_heap _ (w.heap.size + 1) _ _ _ _ R1.out, splat_all _ _ rfl]
  · have hE := HEf.out hfull
    have hRR : r.takeR n = r.taken n := by unfold Rg.takeR; rw [if_pos hE]
    have HE := Lib.hid hE
    have HRR := Lib.hid hRR
    have hf1 : ¬ r.size - (r.tail - r.head) < n := fun h => hfull (.inl h)
    have hf2 : ¬ 1099511627776 - r.tail < n := fun h => hfull (.inr h)
    clear hE hRR hfull
    have hfs : Fr (fun k => k = w.heap.size) w2 (w2.setCell ⟨w.heap.size, 3, none⟩ (.int .i64 (r.tail + n))) := (Fr.refl _ _).setCell (by exact .inl rfl) _
    have R0' : Hid ((w2.setCell ⟨w.heap.size, 3, none⟩ (.int .i64 (r.tail + n))).heap[w.heap.size]? = some (.cells (r.taken n).cells.toArray 122 (0, 0))) := Lib.hid (set_cell R0.out 3 _)
    have R1' := Lib.hid (hfs.keep R1.out (by omega))
    have F1 : Hid (Fr F0 w (w2.setCell ⟨w.heap.size, 3, none⟩ (.int .i64 (r.tail + n)))) := Lib.hid (F0_.out.setCell (by exact .inr (Nat.le_refl _)) _)
    obtain ⟨d, hu, hd⟩ := und_ring
    have HU := Lib.hid hu
    have HDD := Lib.hid hd
    have HCS : Hid (∀ i v, (r.taken n).cells[i]? = some v → (w2.setCell ⟨w.heap.size, 3, none⟩ (.int .i64 (r.tail + n))).cell? ⟨w.heap.size, 0 + i, none⟩ = some v) := Lib.hid (by
      intro i v hv
      rw [cell_of R0'.out]
      simpa using hv)
    clear hu hd hfs
    go_wp2_with ((refine wpList_load_at rfl 122 (.tmp 2) rfl w.heap.size 0 (by rfl) (r.taken n).cells d HCS.out HU.out HDD.out size_ring ?_; refine wpList_store_at rfl 122 (.tmp 4) (.tmp 33) rfl (w.heap.size + 1) 0 (r.taken n).cells (by rfl) (by rfl) 122 Rg.zero.cells R1'.out size_ring (Nat.le_refl 4) (Rg.one _) ?_))
    refine ring_ret (b := w.heap.size + 1) (t := 122) (r := r.taken n) Tryd.results80 (by rfl) (by rfl) rfl ?_ ⟨by rw [HE.out, HRR.out]; rfl, F1.out.setRow (by exact .inr (by omega)) _⟩
    rw [setRow_heap _ (w.heap.size + 1) _ _ _ _ R1'.out, splat_all Rg.zero.cells (r.taken n).cells rfl]
set_option maxRecDepth 100000 in
set_option maxHeartbeats 2000000 in
theorem drop7_c (r : Rg) (hr : r.Sane) (to : Int) : Calls Tryd.prog 84 #[(.agg #[.int .i64 r.from_, .int .i64 r.size, .int .i64 r.head, .int .i64 r.tail]), .int .i64 to] w fun e w' => e = .returned (.tuple #[(.agg #[.int .i64 (r.dropR to).from_, .int .i64 (r.dropR to).size, .int .i64 (r.dropR to).head, .int .i64 (r.dropR to).tail]), .int .i64 (r.dropE to)]) ∧ Fr F0 w w' := by
  have R0 : Hid (((w.alloc (.cells #[.int .i64 r.from_, .int .i64 r.size, .int .i64 r.head, .int .i64 r.tail] 122)).alloc (.cells #[.int .i64 0, .int .i64 0, .int .i64 0, .int .i64 0] 122)).heap[w.heap.size]? = some (.cells r.cells.toArray 122 (0, 0))) := Lib.hid (keep_alloc (alloc_at rfl _) _)
  have R1 : Hid (((w.alloc (.cells #[.int .i64 r.from_, .int .i64 r.size, .int .i64 r.head, .int .i64 r.tail] 122)).alloc (.cells #[.int .i64 0, .int .i64 0, .int .i64 0, .int .i64 0] 122)).heap[w.heap.size + 1]? = some (.cells Rg.zero.cells.toArray 122 (0, 0))) := Lib.hid (alloc_at (by simp) _)
  have F0_ : Hid (Fr F0 w ((w.alloc (.cells #[.int .i64 r.from_, .int .i64 r.size, .int .i64 r.head, .int .i64 r.tail] 122)).alloc (.cells #[.int .i64 0, .int .i64 0, .int .i64 0, .int .i64 0] 122))) := Lib.hid (((Fr.refl _ _).alloc _).alloc _)
  have hEt : risingB [r.head, to, r.tail] = true → r.dropE to = 0 := fun h => by unfold Rg.dropE; rw [if_pos h]
  have hEf : risingB [r.head, to, r.tail] = false → r.dropE to = 1 := fun h => by unfold Rg.dropE; rw [if_neg (by rw [h]; decide)]
  have HEt := Lib.hid hEt
  have HEf := Lib.hid hEf
  clear hEt hEf
  go_enter Tryd.func84, Tryd.ntmps84
  go_wp2_with fail
  refine (gsane_c r hr).mono ?_
  rintro e w1 ⟨rfl, hf⟩
  have R0 := Lib.hid (hf.keep0 R0.out)
  have R1 := Lib.hid (hf.keep0 R1.out)
  have F0_ := Lib.hid (F0_.out.then0 hf)
  obtain ⟨k0, k1, k2, k3⟩ := (show RgAt w1 w.heap.size r from ⟨_, R0.out⟩).all
  have hzs : w.heap.size + 1 < w1.heap.size := lt_of_block R1.out
  clear hf
  go_wp2_with fail
  refine (between3_c r.head to r.tail (alloc_at rfl _)).mono ?_
  rintro e w2 ⟨rfl, hf⟩
  have hf' : Fr F0 w1 w2 := ((Fr.refl _ _).alloc _).then0 hf
  have R0 := Lib.hid (hf'.keep0 R0.out)
  have R1 := Lib.hid (hf'.keep0 R1.out)
  have F0_ := Lib.hid (F0_.out.then0 hf')
  clear k0 k1 k2 k3
  obtain ⟨k0, k1, k2, k3⟩ := (show RgAt w2 w.heap.size r from ⟨_, R0.out⟩).all
  have fz := free_of R0.out 2
  clear hf hf'
  cases hb : risingB [r.head, to, r.tail] with
  | false =>
    have hE := HEf.out hb
    have hRR : r.dropR to = Rg.zero := by unfold Rg.dropR; rw [if_neg (by rw [hE]; decide)]
    have HE := Lib.hid hE
    have HRR := Lib.hid hRR
    clear hE hRR hb
    go_wp2_with (refine wpList_store_at rfl 122 (.tmp 4) (.tmp 19) rfl (w.heap.size + 1) 0 Rg.zero.cells (by rfl) (by rfl) 122 Rg.zero.cells R1.out size_ring (by decide) (Rg.one _) ?_)
    refine ring_ret (b := w.heap.size + 1) (t := 122) Tryd.results84 (by rfl) (by rfl) rfl ?_ ⟨by rw [HE.out, HRR.out]; rfl, F0_.out.setRow (by exact .inr (by omega)) _⟩
    rw [setRow_heap _ (w.heap.size + 1) _ _ _ _ R1.out, splat_all _ _ rfl]
  | true =>
    have hE := HEt.out hb
    have hRR : r.dropR to = r.dropped to := by unfold Rg.dropR; rw [if_pos hE]
    have HE := Lib.hid hE
    have HRR := Lib.hid hRR
    clear hE hRR hb
    have hfs : Fr (fun k => k = w.heap.size) w2 (w2.setCell ⟨w.heap.size, 2, none⟩ (.int .i64 to)) := (Fr.refl _ _).setCell (by exact .inl rfl) _
    have R0' : Hid ((w2.setCell ⟨w.heap.size, 2, none⟩ (.int .i64 to)).heap[w.heap.size]? = some (.cells (r.dropped to).cells.toArray 122 (0, 0))) := Lib.hid (set_cell R0.out 2 _)
    have R1' := Lib.hid (hfs.keep R1.out (by omega))
    have F1 : Hid (Fr F0 w (w2.setCell ⟨w.heap.size, 2, none⟩ (.int .i64 to))) := Lib.hid (F0_.out.setCell (by exact .inr (Nat.le_refl _)) _)
    obtain ⟨d, hu, hd⟩ := und_ring
    have HU := Lib.hid hu
    have HDD := Lib.hid hd
    have HCS : Hid (∀ i v, (r.dropped to).cells[i]? = some v → (w2.setCell ⟨w.heap.size, 2, none⟩ (.int .i64 to)).cell? ⟨w.heap.size, 0 + i, none⟩ = some v) := Lib.hid (by
      intro i v hv
      rw [cell_of R0'.out]
      simpa using hv)
    clear hu hd hfs
    go_wp2_with ((refine wpList_load_at rfl 122 (.tmp 2) rfl w.heap.size 0 (by rfl) (r.dropped to).cells d HCS.out HU.out HDD.out size_ring ?_; refine wpList_store_at rfl 122 (.tmp 4) (.tmp 22) rfl (w.heap.size + 1) 0 (r.dropped to).cells (by rfl) (by rfl) 122 Rg.zero.cells R1'.out size_ring (Nat.le_refl 4) (Rg.one _) ?_))
    refine ring_ret (b := w.heap.size + 1) (t := 122) (r := r.dropped to) Tryd.results84 (by rfl) (by rfl) rfl ?_ ⟨by rw [HE.out, HRR.out]; rfl, F1.out.setRow (by exact .inr (by omega)) _⟩
    rw [setRow_heap _ (w.heap.size + 1) _ _ _ _ R1'.out, splat_all Rg.zero.cells (r.dropped to).cells rfl]
end
end Go.Proofs.YtdeckbdaencjnaaDoor
set_option linter.unusedVariables false
set_option linter.unusedSimpArgs false
namespace Go.Proofs.YtdeckbdaencjnaaDoor
open Go.RowKit
theorem und_pair : ∃ d, Tryd.prog.underlying 156 = some d ∧ aggDesc d = true := ⟨_, Tryd.underlying156, rfl⟩
theorem und_pairs : Tryd.prog.underlying 154 = some (.slice 156) := Tryd.underlying154
theorem size_pair : (Tryd.prog.info? 156).map (·.size) = some 2 := by kernel_rfl
theorem info_pair : (Tryd.prog.info? 156).map (fun i => (i.zero, i.size, i.bytes)) = some (some (.agg #[.int .i64 0, .int .i64 0]), 2, 16) := by kernel_rfl
def lotCells (x : Int × Int) : List Value := [.int .i64 x.1, .int .i64 x.2]
theorem lot_flat_len (l : List (Int × Int)) : (l.flatMap lotCells).length = l.length * 2 := by
  induction l with
  | nil => rfl
  | cons x l ih => rw [List.flatMap_cons, List.length_append, ih]; simp [lotCells]; omega
theorem lot_flat_at : ∀ (l : List (Int × Int)) (i k : Nat) (x : Int × Int) (v : Value), l[i]? = some x → (lotCells x)[k]? = some v → (l.flatMap lotCells)[i * 2 + k]? = some v
  | [], i, k, x, v, h, _ => by simp at h
  | y :: l, 0, k, x, v, h, hv => by
    simp at h; subst h
    have hk : k < (lotCells y).length := (List.getElem?_eq_some_iff.1 hv).1
    rw [List.flatMap_cons, List.getElem?_append_left (by omega), Nat.zero_mul, Nat.zero_add]; exact hv
  | y :: l, i + 1, k, x, v, h, hv => by
    rw [List.flatMap_cons, List.getElem?_append_right (by simp [lotCells]; omega)]
    have := lot_flat_at l i k x v (by simpa using h) hv
    rw [← this]; congr 1; simp [lotCells]; omega
/-- Lots that are read. -/
structure LotsAt (w : World) (A : Option Addr) (l : List (Int × Int)) : Prop where
  cells : ∀ i x, l[i]? = some x → ∃ b off, A = some ⟨b, off, none⟩ ∧ w.cell? ⟨b, off + i * 2, none⟩ = some (.int .i64 x.1) ∧ w.cell? ⟨b, off + i * 2 + 1, none⟩ = some (.int .i64 x.2)
theorem LotsAt.keep0 {w w' : World} {A : Option Addr} {l : List (Int × Int)} (h : LotsAt w A l) (hf : Fr F0 w w') : LotsAt w' A l := by
  refine ⟨fun i x hx => ?_⟩
  obtain ⟨b, off, e, h1, h2⟩ := h.cells i x hx
  exact ⟨b, off, e, (World.cell?_of_block (w := w) (hf.block _ (World.block_lt_of_cell? w _ h1) (fun h => h))).trans h1, (World.cell?_of_block (w := w) (hf.block _ (World.block_lt_of_cell? w _ h2) (fun h => h))).trans h2⟩
theorem LotsAt.of_own {w : World} {base : Nat} {v : Value} {l : List (Int × Int)} (h : w.ownsRow base 156 2 v l.length (l.flatMap lotCells)) : ∃ A c, v = .slice A l.length c ∧ LotsAt w A l ∧ l.length ≤ 9223372036854775807 := by
  obtain ⟨hl, h⟩ := h
  rcases h with ⟨rfl, hn⟩ | ⟨g, cap, cur, rfl, hb, hg, hc, hm, hsz, htk⟩
  · have : l = [] := List.eq_nil_of_length_eq_zero hn
    subst this
    exact ⟨none, 0, rfl, ⟨fun i x hx => by simp at hx⟩, by simp⟩
  · refine ⟨some ⟨g, 0, none⟩, cap, rfl, ⟨fun i x hx => ⟨g, 0, rfl, ?_, ?_⟩⟩, by simp only [maxLen] at hm; omega⟩
    · have h1 := lot_flat_at l i 0 x _ hx rfl
      rw [← htk] at h1
      have hlt := (List.getElem?_eq_some_iff.1 hx).1
      rw [List.getElem?_take_of_lt (by omega)] at h1
      rw [cell_of hg]
      simpa using h1
    · have h1 := lot_flat_at l i 1 x _ hx rfl
      rw [← htk] at h1
      have hlt := (List.getElem?_eq_some_iff.1 hx).1
      rw [List.getElem?_take_of_lt (by omega)] at h1
      rw [cell_of hg]
      simpa using h1
theorem size_lot (x : Int × Int) : (Tryd.prog.info? 156).map (·.size) = some (lotCells x).toArray.size := by rw [size_pair]; rfl
theorem one_lot (x : Int × Int) : (lotCells x).toArray.all (·.oneCell') = true := by simp [lotCells, Value.oneCell']
def fullL (l : List (Int × Int)) : List (Int × Int) := l.filter fun x => decide (0 < x.2)
theorem fullL_snoc (l : List (Int × Int)) (x : Int × Int) : fullL (l ++ [x]) = if 0 < x.2 then fullL l ++ [x] else fullL l := by
  unfold fullL
  rw [List.filter_append]
  by_cases h : 0 < x.2 <;> simp [h]
section
variable {w : World}
set_option maxRecDepth 100000 in
set_option maxHeartbeats 2000000 in
theorem full_c (B : Nat) (x y : Int × Int) (hB : w.heap[B]? = some (.cells #[.int .i64 x.1, .int .i64 x.2, .int .i64 y.1, .int .i64 y.2] 156 (0, 0))) :
    Calls Tryd.prog 120 #[.slice (some ⟨B, 0, none⟩) 2 2] w fun e w' => ∃ A c, e = .returned (.slice A (fullL [x, y]).length c) ∧ LotsAt w' A (fullL [x, y]) ∧ Fr F0 w w' := by
  have HB := Lib.hid hB
  obtain ⟨l, hl⟩ : ∃ l, l = [x, y] := ⟨_, rfl⟩
  rw [← hl]
  have HLL := Lib.hid hl
  have hcell : ∀ j z, l[j]? = some z → w.cell? ⟨B, j * 2, none⟩ = some (.int .i64 z.1) ∧ w.cell? ⟨B, j * 2 + 1, none⟩ = some (.int .i64 z.2) := by
    intro j z hz
    rw [hl] at hz
    have hj : j = 0 ∨ j = 1 := by have := (List.getElem?_eq_some_iff.1 hz).1; simp at this; omega
    rcases hj with rfl | rfl
    · simp at hz; subst hz; constructor <;> (rw [cell_of hB]; rfl)
    · simp at hz; subst hz; constructor <;> (rw [cell_of hB]; rfl)
  have HC := Lib.hid hcell
  have hBl : B < w.heap.size := lt_of_block hB
  have HL2 : Hid (l.length = 2) := Lib.hid (by rw [hl]; rfl)
  obtain ⟨d, hu, hd⟩ := und_pair
  have HU := Lib.hid hu
  have HDD := Lib.hid hd
  clear hcell hB hl hu hd
  go_enter Tryd.func120, Tryd.ntmps120
  go_wp2_with fail
  go_loopg [3, 5, 8] 2 (fun kq x3 x5 x8 wr => ∃ j : Nat, j ≤ 2 ∧ kq = 2 - j ∧ x8 = .int .i64 (j : Int) ∧ wr.ownsRow w.heap.size 156 2 x3 (fullL (l.take j)).length ((fullL (l.take j)).flatMap lotCells) ∧ Fr F0 w wr)
  case atStart => exact ⟨0, by omega, rfl, rfl, own_nil _ _ _ _, Fr.refl _ _⟩
  case round =>
    obtain ⟨j, hj, rfl, rfl, hown, hf⟩ := hrel
    have HO := Lib.hid hown
    have HF := Lib.hid hf
    have hsz := hf.size
    by_cases hlt : j < 2
    · have j0 : (0 : Int) ≤ (j : Int) := Int.natCast_nonneg _
      have j1 : (j : Int) < 2 := by omega
      obtain ⟨z, hz⟩ : ∃ z, l[j]? = some z := ⟨l[j]'(by rw [HL2.out]; exact hlt), List.getElem?_eq_getElem _⟩
      obtain ⟨c0, c1⟩ := HC.out j z hz
      have hb := hf.block B hBl (fun h => h)
      have HCS : Hid (∀ i v, (lotCells z)[i]? = some v → wr.cell? ⟨B, j * 2 + i, none⟩ = some v) := Lib.hid (by
        intro i v hv
        have hi : i = 0 ∨ i = 1 := by have := (List.getElem?_eq_some_iff.1 hv).1; simp [lotCells] at this; omega
        rcases hi with rfl | rfl
        · simp [lotCells] at hv; subst hv; exact (World.cell?_of_block (w := w) hb).trans c0
        · simp [lotCells] at hv; subst hv; exact (World.cell?_of_block (w := w) hb).trans c1)
      have HTK : Hid (l.take (j + 1) = l.take j ++ [z]) := Lib.hid (by
        have hlt2 : j < l.length := by rw [HL2.out]; exact hlt
        rw [List.take_succ_eq_append_getElem hlt2]
        have : l[j]'hlt2 = z := by rw [List.getElem?_eq_getElem hlt2] at hz; exact Option.some.inj hz
        rw [this])
      obtain ⟨z1, z2⟩ := z
      have HFX : Hid (Fr F0 wr (wr.alloc (.cells #[.int .i64 z1, .int .i64 z2] 156))) := Lib.hid ((Fr.refl _ _).alloc _)
      clear hz c0 c1 hb hown hf
      have hlen : (fullL (l.take j)).length ≤ 2 := by
        unfold fullL
        have h1 := List.length_filter_le (fun x : Int × Int => decide (0 < x.2)) (l.take j)
        rw [List.length_take] at h1
        omega
      by_cases hp : 0 < z2
      · go_wp2_with (first | (refine wpList_load_at rfl 156 (.tmp 10) rfl B (j * 2) (by rfl) (lotCells (z1, z2)) d HCS.out HU.out HDD.out size_pair ?_) | (refine wpList_store_fresh rfl 156 (.tmp 5) (.tmp 11) rfl (lotCells (z1, z2)).toArray (by rfl) (by rfl) 156 #[.int .i64 0, .int .i64 0] (size_lot _) rfl (one_lot _) ?_; simp only [lotCells, List.toArray]) | (at_builtin; refine wpList_append_cells rfl (.tmp 15) (.tmp 17) 154 156 2 16 (.agg #[.int .i64 0, .int .i64 0]) rfl und_pairs info_pair rfl (by decide) (by decide) w.heap.size u3 (fullL (l.take j)).length ((fullL (l.take j)).flatMap lotCells) (lotCells (z1, z2)) (wr.heap.size + 1) (by simp) (by rfl) (by rfl) rfl (by simp [lotCells, Value.oneCell']) (HO.out.alloc _) (by simp; omega) (by omega) ?_; intro v3 w3 hown3 hf3))
        go_roundg (2 - (j + 1))
        case measure => omega
        case rel =>
          refine ⟨j + 1, by omega, rfl, by first | rfl | (go_num), ?_, (HF.out.then0 HFX.out).trans hf3 (fun i hi => .inr (own_base HO.out i hi))⟩
          rw [HTK.out, fullL_snoc, if_pos hp, List.length_append, List.flatMap_append]
          simpa using hown3
      · have hp' : decide (0 < z2) = false := by simpa using hp
        go_wp2_with (first | (refine wpList_load_at rfl 156 (.tmp 10) rfl B (j * 2) (by rfl) (lotCells (z1, z2)) d HCS.out HU.out HDD.out size_pair ?_) | (refine wpList_store_fresh rfl 156 (.tmp 5) (.tmp 11) rfl (lotCells (z1, z2)).toArray (by rfl) (by rfl) 156 #[.int .i64 0, .int .i64 0] (size_lot _) rfl (one_lot _) ?_; simp only [lotCells, List.toArray]))
        go_roundg (2 - (j + 1))
        case measure => omega
        case rel =>
          refine ⟨j + 1, by omega, rfl, by first | rfl | (go_num), ?_, HF.out.then0 HFX.out⟩
          rw [HTK.out, fullL_snoc, if_neg (show ¬ 0 < z2 by omega)]
          exact HO.out.alloc _
    · have hj2 : j = 2 := by omega
      subst hj2
      have htk : l.take 2 = l := List.take_of_length_le (by rw [HL2.out]; exact Nat.le_refl _)
      rw [htk] at hown
      have HO2 := Lib.hid hown
      clear hown htk
      obtain ⟨A, c, rfl, hL, -⟩ := LotsAt.of_own HO2.out
      have HLA := Lib.hid hL
      clear hL
      go_wp2_with fail
      go_ret
      exact ⟨A, c, rfl, HLA.out, hf⟩
/-- The lots of places. -/
def Rg.first (r : Rg) (at_ : Int) : Int := at_ % r.size
def Rg.ahead (r : Rg) (at_ n : Int) : Int := min n (r.size - r.first at_)
def Rg.spans (r : Rg) (at_ n : Int) : List (Int × Int) := fullL [(r.from_ + r.first at_, r.ahead at_ n), (r.from_, n - r.ahead at_ n)]
set_option maxRecDepth 100000 in
set_option maxHeartbeats 2000000 in
theorem spans_c (r : Rg) (hr : r.Sane) (at_ n : Int) (a0 : 0 ≤ at_) (a1 : at_ ≤ 2199023255552) (n0 : 0 ≤ n) (n1 : n ≤ r.size) :
    Calls Tryd.prog 102 #[(.agg #[.int .i64 r.from_, .int .i64 r.size, .int .i64 r.head, .int .i64 r.tail]), .int .i64 at_, .int .i64 n] w fun e w' => ∃ A c, e = .returned (.slice A (r.spans at_ n).length c) ∧ LotsAt w' A (r.spans at_ n) ∧ Fr F0 w w' := by
  have HR := Lib.hid hr
  obtain ⟨f0, f1, s0, s1, h0, ht, t1, fit⟩ := hr
  have R0 : Hid (RgAt (w.alloc (.cells #[.int .i64 r.from_, .int .i64 r.size, .int .i64 r.head, .int .i64 r.tail] 122)) w.heap.size r) := Lib.hid ⟨_, alloc_at rfl _⟩
  have F0_ : Hid (Fr F0 w (w.alloc (.cells #[.int .i64 r.from_, .int .i64 r.size, .int .i64 r.head, .int .i64 r.tail] 122))) := Lib.hid ((Fr.refl _ _).alloc _)
  have b1 : Hid (risingB [0, n, r.size] = true) := Lib.hid (rise3 n0 n1)
  have m0 := Int.emod_nonneg at_ (show r.size ≠ 0 by omega)
  have m1 := Int.emod_lt_of_pos at_ (show 0 < r.size by omega)
  obtain ⟨m, hm⟩ : ∃ m, m = r.first at_ := ⟨_, rfl⟩
  have hmm : m = at_ % r.size := hm
  rw [← hmm] at m0 m1
  obtain ⟨q, hq⟩ : ∃ q, q = r.ahead at_ n := ⟨_, rfl⟩
  have hqq : q = min n (r.size - m) := by rw [hq, hm]; rfl
  have hsp : r.spans at_ n = fullL [(r.from_ + m, q), (r.from_, n - q)] := by unfold Rg.spans; rw [← hm, ← hq]
  rw [hsp]
  have q0 : 0 ≤ q := by omega
  have q1 : q ≤ n := by omega
  have HRE : Hid (at_.tmod r.size = m) := Lib.hid (by rw [hmm, Int.tmod_eq_emod_of_nonneg a0])
  have HREM : Hid (at_ % r.size = m) := Lib.hid hmm.symm
  have HMIN : Hid (min n (r.size - m) = q) := Lib.hid hqq.symm
  have hnz : ¬ r.size = 0 := by omega
  have HNZ := Lib.hid hnz
  clear hm hmm hq hqq hsp hnz
  go_enter Tryd.func102, Tryd.ntmps102
  go_wp2_with fail
  refine (place_c r HR.out at_ a0 a1).mono ?_
  rintro e w1 ⟨rfl, hf⟩
  have R0 := Lib.hid (R0.out.keep0 hf)
  have F0_ := Lib.hid (F0_.out.then0 hf)
  obtain ⟨k0, k1, k2, k3⟩ := R0.out.all
  clear hf
  go_wp2_with fail
  refine (between3_c 0 n r.size (alloc_at rfl _)).mono ?_
  rintro e w2 ⟨rfl, hf⟩
  have hf' : Fr F0 w1 w2 := ((Fr.refl _ _).alloc _).then0 hf
  have R0 := Lib.hid (R0.out.keep0 hf')
  have F0_ := Lib.hid (F0_.out.then0 hf')
  clear k0 k1 k2 k3
  obtain ⟨k0, k1, k2, k3⟩ := R0.out.all
  rw [b1.out]
  have hre := HRE.out
  have hrem := HREM.out
  have hnz := HNZ.out
  have hmin := HMIN.out
  clear hf hf'
  go_wp2_with fail
  refine (full_c _ (r.from_ + m, q) (r.from_, n - q) (alloc_at rfl _)).mono ?_
  rintro e w3 ⟨A, c, rfl, hL, hf⟩
  have HL := Lib.hid hL
  have hf' : Fr F0 w2 w3 := ((Fr.refl _ _).alloc _).then0 hf
  have F0_ := Lib.hid (F0_.out.then0 hf')
  clear hL hf hf' hre hrem hnz hmin
  go_wp2_with fail
  go_ret
  exact ⟨A, c, rfl, HL.out, F0_.out⟩
end
end Go.Proofs.YtdeckbdaencjnaaDoor
