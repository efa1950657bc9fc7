/-
  wal: may. wal: read. Conditions: none.
-/
import Derived.Test.YtdeckbdaencjnaaDoorK7c
set_option linter.unusedVariables false
set_option linter.unusedSimpArgs false
namespace Go.Proofs.YtdeckbdaencjnaaDoor
open Go.RowKit
/-- May a log be opened so? -/
def logMay (D : Dev) (from_ size head epoch : Int) : Int :=
  if D.gone = true then 11 else if from_ < 0 ∨ size < 1 ∨ (D.laid.length : Int) < size ∨ (D.laid.length : Int) - size < from_ then 1
  else if head < 0 ∨ 1099511627776 < head ∨ epoch < 1 ∨ 4294967295 < epoch then 1 else 0
section
variable {w w' : World} {lg db lb mb : Nat} {L : Lg} {D : Dev}
set_option maxRecDepth 100000 in
set_option maxHeartbeats 4000000 in
theorem wmay_c (hD : DevAt Tryd.prog 3 w db lb mb D) (from_ size head epoch : Int) :
    Calls Tryd.prog 75 #[.pointer (some ⟨db, 0, none⟩), .int .i64 from_, .int .i64 size, .int .i64 head, .int .i64 epoch] w fun e w' => e = .returned (.int .i64 (logMay D from_ size head epoch)) ∧ w = w' := by
  have HD := Lib.hid hD
  have hn0 := hD.ok.pos
  have hn1 := hD.ok.most
  obtain ⟨n, hn⟩ : ∃ n, n = (D.laid.length : Int) := ⟨_, rfl⟩
  have HN := Lib.hid hn
  have n0 : 1 ≤ n := by omega
  have n1 : n ≤ 4096 := by omega
  obtain ⟨r, hr⟩ : ∃ r, r = logMay D from_ size head epoch := ⟨_, rfl⟩
  rw [← hr]
  unfold logMay at hr
  rw [← hn] at hr
  clear hn hn0 hn1 hD
  go_enter Tryd.func75, Tryd.ntmps75
  go_wp2_with fail
  refine (size_c HD.out).mono ?_
  rintro e w1 ⟨rfl, rfl⟩
  rw [← HN.out]
  go_wp2_with fail
  refine (gone_c HD.out).mono ?_
  rintro e w1 ⟨rfl, rfl⟩
  cases hg : D.gone with
  | true =>
    rw [if_pos hg] at hr
    subst hr
    clear hg
    go_wp2_with fail
    go_ret
    exact ⟨rfl, rfl⟩
  | false =>
    rw [if_neg (by rw [hg]; decide)] at hr
    clear hg
    have one : (from_ < 0 ∨ size < 1 ∨ n < size ∨ n - size < from_) → r = 1 := fun h => by rw [hr, if_pos h]
    have two : ¬ (from_ < 0 ∨ size < 1 ∨ n < size ∨ n - size < from_) → (head < 0 ∨ 1099511627776 < head ∨ epoch < 1 ∨ 4294967295 < epoch) → r = 1 := fun h h2 => by rw [hr, if_neg h, if_pos h2]
    have zero : ¬ (from_ < 0 ∨ size < 1 ∨ n < size ∨ n - size < from_) → ¬ (head < 0 ∨ 1099511627776 < head ∨ epoch < 1 ∨ 4294967295 < epoch) → r = 0 := fun h h2 => by rw [hr, if_neg h, if_neg h2]
    have ONE := Lib.hid one
    have TWO := Lib.hid two
    have ZERO := Lib.hid zero
    clear hr one two zero
    by_cases a1 : from_ < 0
    · obtain rfl := ONE.out (.inl a1)
      go_wp2_with fail
      go_ret
      exact ⟨rfl, rfl⟩
    by_cases a2 : size < 1
    · obtain rfl := ONE.out (.inr (.inl a2))
      go_wp2_with fail
      go_ret
      exact ⟨rfl, rfl⟩
    by_cases a3 : n < size
    · obtain rfl := ONE.out (.inr (.inr (.inl a3)))
      go_wp2_with fail
      go_ret
      exact ⟨rfl, rfl⟩
    by_cases a4 : n - size < from_
    · obtain rfl := ONE.out (.inr (.inr (.inr a4)))
      go_wp2_with fail
      go_ret
      exact ⟨rfl, rfl⟩
    have no := show ¬ (from_ < 0 ∨ size < 1 ∨ n < size ∨ n - size < from_) by omega
    have TWO := Lib.hid (TWO.out no)
    have ZERO := Lib.hid (ZERO.out no)
    clear no
    by_cases b1 : head < 0
    · obtain rfl := TWO.out (.inl b1)
      go_wp2_with fail
      go_ret
      exact ⟨rfl, rfl⟩
    by_cases b2 : 1099511627776 < head
    · obtain rfl := TWO.out (.inr (.inl b2))
      go_wp2_with fail
      go_ret
      exact ⟨rfl, rfl⟩
    by_cases b3 : epoch < 1
    · obtain rfl := TWO.out (.inr (.inr (.inl b3)))
      go_wp2_with fail
      go_ret
      exact ⟨rfl, rfl⟩
    by_cases b4 : 4294967295 < epoch
    · obtain rfl := TWO.out (.inr (.inr (.inr b4)))
      go_wp2_with fail
      go_ret
      exact ⟨rfl, rfl⟩
    obtain rfl := ZERO.out (by omega)
    go_wp2_with fail
    go_ret
    exact ⟨rfl, rfl⟩
end
end Go.Proofs.YtdeckbdaencjnaaDoor
set_option linter.unusedVariables false
set_option linter.unusedSimpArgs false
namespace Go.Proofs.YtdeckbdaencjnaaDoor
open Go.RowKit
theorem LotRow.cells {w : World} {b : Nat} {x y : Value} (h : w.heap[b]? = some (.cells #[x, y] 156 (0, 0))) : w.cell? ⟨b, 0, none⟩ = some x ∧ w.cell? ⟨b, 1, none⟩ = some y := ⟨by rw [cell_of h]; rfl, by rw [cell_of h]; rfl⟩
/-- The lots lie in the part. -/
theorem spans_in (r : Rg) (h : r.Sane) : (r.spans r.head r.size).length ≤ 2 ∧ ∀ x ∈ r.spans r.head r.size, r.from_ ≤ x.1 ∧ 0 ≤ x.2 ∧ x.1 + x.2 ≤ r.from_ + r.size := by
  have hs := h.s0
  have m0 := Int.emod_nonneg r.head (show r.size ≠ 0 by omega)
  have m1 := Int.emod_lt_of_pos r.head (show 0 < r.size by omega)
  have hfirst : r.first r.head = r.head % r.size := rfl
  have hah : r.ahead r.head r.size = r.size - r.head % r.size := by unfold Rg.ahead; rw [hfirst]; omega
  unfold Rg.spans fullL
  rw [hfirst, hah]
  refine ⟨by have := List.length_filter_le (fun x : Int × Int => decide (0 < x.2)) [(r.from_ + r.head % r.size, r.size - r.head % r.size), (r.from_, r.size - (r.size - r.head % r.size))]; simpa using this, fun x hx => ?_⟩
  have hx := (List.mem_filter.1 hx).1
  simp only [List.mem_cons, List.not_mem_nil, or_false] at hx
  rcases hx with rfl | rfl <;> (simp only; omega)
theorem lotSecs_snoc (D : Dev) (l : List (Int × Int)) (x : Int × Int) : lotSecs D (l ++ [x]) = lotSecs D l ++ (List.range x.2.toNat).map fun k => D.at (x.1.toNat + k) := by
  unfold lotSecs
  rw [List.flatMap_append]
  simp
theorem lotSecs_len (D : Dev) : ∀ (l : List (Int × Int)), (∀ x ∈ l, x.2 ≤ 4096) → (lotSecs D l).length ≤ l.length * 4096
  | [], _ => by simp [lotSecs]
  | x :: l, h => by
    have ih := lotSecs_len D l (fun y hy => h y (by simp [hy]))
    have hx := h x (by simp)
    unfold lotSecs at ih ⊢
    rw [List.flatMap_cons, List.length_append, List.length_map, List.length_range, List.length_cons, Nat.succ_mul]
    omega
section
variable {α : Type} {head : α → List Value} {byt : α → List Int} {hd : Nat} {t : TypeId} {w : World} {base base' : Nat} {v : Value} {l : List α}
theorem OwnRowB.cells (h : OwnRowB head byt hd t w base v l) (k : Nat) (hk : v.ownBlock = some k) : ∃ c, w.heap[k]? = some (.cells c t (0, 0)) := by
  obtain ⟨ss, hs, ho, he⟩ := h.ex
  exact own_cells ho k hk
theorem OwnRowB.down (h : OwnRowB head byt hd t w base v l) (hb : base' ≤ base) : OwnRowB head byt hd t w base' v l := by
  obtain ⟨ss, hs, ho, he⟩ := h.ex
  exact ⟨ss, hs, own_base_le ho hb, fun i a s ha hsi => ⟨(he i a s ha hsi).1, (he i a s ha hsi).2.1, fun ad e hp => ⟨((he i a s ha hsi).2.2 ad e hp).1, Nat.le_trans hb ((he i a s ha hsi).2.2 ad e hp).2⟩⟩⟩
end
section
variable {w w' : World} {lg db lb mb : Nat} {L : Lg} {D : Dev}
set_option maxRecDepth 100000 in
set_option maxHeartbeats 4000000 in
theorem wread_c (h : LogAt w lg db L) (hD : DevAt Tryd.prog 3 w db lb mb D) (hg : D.gone = false) (hr : L.r.Sane) (hfit : L.r.from_ + L.r.size ≤ (D.laid.length : Int)) (hb : SecBys D) :
    Calls Tryd.prog 76 #[.pointer (some ⟨lg, 0, none⟩), .int .i64 L.r.head] w fun e w' => CutRet w w' e (ringSecs D L.r) := by
  have HH := Lib.hid h
  have HD := Lib.hid hD
  have HG := Lib.hid hg
  have HS := Lib.hid hr
  have HB := Lib.hid hb
  have hn1 := hD.ok.most
  obtain ⟨sp, hsp⟩ : ∃ sp, sp = L.r.spans L.r.head L.r.size := ⟨_, rfl⟩
  obtain ⟨hsl, hsi⟩ := spans_in L.r hr
  rw [← hsp] at hsl hsi
  obtain ⟨nl, hnl⟩ : ∃ nl, nl = sp.length := ⟨_, rfl⟩
  have HSP := Lib.hid hsp
  have HLEN : Hid ((L.r.spans L.r.head L.r.size).length = nl) := Lib.hid (by rw [hnl, hsp])
  have HNL := Lib.hid hnl
  have HSI := Lib.hid hsi
  have HRS : Hid (lotSecs D sp = ringSecs D L.r) := Lib.hid (by rw [hsp]; exact lotSecs_ring D L.r hr)
  rw [← hnl] at hsl
  obtain ⟨f0, f1, s0, s1, hh0, hht, ht1, hft⟩ := hr
  have nl0 : (0 : Int) ≤ (nl : Int) := Int.natCast_nonneg _
  have nl1 : (nl : Int) ≤ 2 := by omega
  clear hsp hnl hsi hD hg hb h
  go_enter Tryd.func76, Tryd.ntmps76
  go_upto_region 2 with fail
  refine wp_region_free (S := F0) [false, false, false, false, false, false, false, false, false, false, false, false, true, true, true, true, true, true, true, true, true, true, true, true, true, true, true, true, true, true, true, true, true, false, false, false, false, false, false, false, false, false, false, false, false, false, false, false, false, false, false, false, false, false, false, false, false, false, false, false, false, false, false] [.eq (.pointer (some ⟨lg, 0, none⟩)), .eq (.pointer (some ⟨lg, 0, none⟩)), .eq (.pointer (some ⟨lg, 0, none⟩)), .eq (.agg #[.int .i64 L.r.from_, .int .i64 L.r.size, .int .i64 L.r.head, .int .i64 L.r.tail]), .eq (.int .i64 L.r.head), .eq (.pointer (some ⟨lg, 0, none⟩)), .eq (.pointer (some ⟨lg, 0, none⟩)), .eq (.pointer (some ⟨lg, 0, none⟩)), .eq (.pointer (some ⟨lg, 2, none⟩)), .eq (.int .i64 L.r.head), .eq (.pointer (some ⟨lg, 0, none⟩)), .eq (.pointer (some ⟨lg, 0, none⟩)), .eq (.pointer (some ⟨lg, 0, none⟩)), .eq (.pointer (some ⟨lg, 1, none⟩)), .eq (.int .i64 L.r.size), .eq (.int .i64 (L.r.head + L.r.size)), .eq (.int .i64 L.r.head), .eq (.int .i64 L.r.size), ⟨fun v w1 => ∃ A c, v = .slice A nl c ∧ LotsAt w1 A sp, fun v w1 w2 ⟨A, c, h1, h2⟩ hf => ⟨A, c, h1, h2.keep0 hf⟩⟩, .eq (.int .i64 (nl : Int)), .eq (.int .i64 0)] (by kernel_rfl) (by kernel_rfl) (by rfl) (fun us => ?steps) (fun us wz hG hall => ?fin)
  case steps =>
    simp only [fillL, Nat.reduceAdd]
    refine stepsHold.cons (fun wx hG hd K hK => ?_) ?_
    · rw [if_pos (wanted_none rfl)]
      refine wp_value (w2 := wx) (v := .pointer (some ⟨lg, 0, none⟩)) ?_ (hK _ _ rfl (Fr.refl _ _))
      clear hd hG hK
      go_simp
    refine stepsHold.cons (fun wx hG hd K hK => ?_) ?_
    · have h12 : us 12 = (.pointer (some ⟨lg, 0, none⟩)) := deps_get hd 0 rfl rfl rfl rfl rfl
      rw [if_pos (wanted_none rfl)]
      refine wp_value (w2 := wx) (v := .pointer (some ⟨lg, 0, none⟩)) ?_ (hK _ _ rfl (Fr.refl _ _))
      clear hd hG hK
      go_simp
    refine stepsHold.cons (fun wx hG hd K hK => ?_) ?_
    · have h13 : us 13 = (.pointer (some ⟨lg, 0, none⟩)) := deps_get hd 0 rfl rfl rfl rfl rfl
      rw [if_pos (wanted_none rfl)]
      refine wp_value (w2 := wx) (v := .pointer (some ⟨lg, 0, none⟩)) ?_ (hK _ _ rfl (Fr.refl _ _))
      clear hd hG hK
      go_simp
    refine stepsHold.cons (fun wx hG hd K hK => ?_) ?_
    · have h14 : us 14 = (.pointer (some ⟨lg, 0, none⟩)) := deps_get hd 0 rfl rfl rfl rfl rfl
      rw [if_pos (wanted_none rfl)]
      obtain ⟨c0, c1, c2, c3, c4, c5, c6, c7, hz⟩ := (HH.out.keep0 hG).cells
      clear hz
      refine wp_value (w2 := wx) (v := .agg #[.int .i64 L.r.from_, .int .i64 L.r.size, .int .i64 L.r.head, .int .i64 L.r.tail]) ?_ (hK _ _ rfl (Fr.refl _ _))
      clear hd hK
      go_simp
    refine stepsHold.cons (fun wx hG hd K hK => ?_) ?_
    · rw [if_pos (wanted_none rfl)]
      refine wp_value (w2 := wx) (v := .int .i64 L.r.head) ?_ (hK _ _ rfl (Fr.refl _ _))
      clear hd hG hK
      go_simp
    refine stepsHold.cons (fun wx hG hd K hK => ?_) ?_
    · rw [if_pos (wanted_none rfl)]
      refine wp_value (w2 := wx) (v := .pointer (some ⟨lg, 0, none⟩)) ?_ (hK _ _ rfl (Fr.refl _ _))
      clear hd hG hK
      go_simp
    refine stepsHold.cons (fun wx hG hd K hK => ?_) ?_
    · have h17 : us 17 = (.pointer (some ⟨lg, 0, none⟩)) := deps_get hd 0 rfl rfl rfl rfl rfl
      rw [if_pos (wanted_none rfl)]
      refine wp_value (w2 := wx) (v := .pointer (some ⟨lg, 0, none⟩)) ?_ (hK _ _ rfl (Fr.refl _ _))
      clear hd hG hK
      go_simp
    refine stepsHold.cons (fun wx hG hd K hK => ?_) ?_
    · have h18 : us 18 = (.pointer (some ⟨lg, 0, none⟩)) := deps_get hd 0 rfl rfl rfl rfl rfl
      rw [if_pos (wanted_none rfl)]
      refine wp_value (w2 := wx) (v := .pointer (some ⟨lg, 0, none⟩)) ?_ (hK _ _ rfl (Fr.refl _ _))
      clear hd hG hK
      go_simp
    refine stepsHold.cons (fun wx hG hd K hK => ?_) ?_
    · have h19 : us 19 = (.pointer (some ⟨lg, 0, none⟩)) := deps_get hd 0 rfl rfl rfl rfl rfl
      rw [if_pos (wanted_none rfl)]
      refine wp_value (w2 := wx) (v := .pointer (some ⟨lg, 2, none⟩)) ?_ (hK _ _ rfl (Fr.refl _ _))
      clear hd hG hK
      go_simp
    refine stepsHold.cons (fun wx hG hd K hK => ?_) ?_
    · have h20 : us 20 = (.pointer (some ⟨lg, 2, none⟩)) := deps_get hd 0 rfl rfl rfl rfl rfl
      rw [if_pos (wanted_none rfl)]
      obtain ⟨c0, c1, c2, c3, c4, c5, c6, c7, hz⟩ := (HH.out.keep0 hG).cells
      clear hz
      refine wp_value (w2 := wx) (v := .int .i64 L.r.head) ?_ (hK _ _ rfl (Fr.refl _ _))
      clear hd hK
      go_simp
    refine stepsHold.cons (fun wx hG hd K hK => ?_) ?_
    · rw [if_pos (wanted_none rfl)]
      refine wp_value (w2 := wx) (v := .pointer (some ⟨lg, 0, none⟩)) ?_ (hK _ _ rfl (Fr.refl _ _))
      clear hd hG hK
      go_simp
    refine stepsHold.cons (fun wx hG hd K hK => ?_) ?_
    · have h22 : us 22 = (.pointer (some ⟨lg, 0, none⟩)) := deps_get hd 0 rfl rfl rfl rfl rfl
      rw [if_pos (wanted_none rfl)]
      refine wp_value (w2 := wx) (v := .pointer (some ⟨lg, 0, none⟩)) ?_ (hK _ _ rfl (Fr.refl _ _))
      clear hd hG hK
      go_simp
    refine stepsHold.cons (fun wx hG hd K hK => ?_) ?_
    · have h23 : us 23 = (.pointer (some ⟨lg, 0, none⟩)) := deps_get hd 0 rfl rfl rfl rfl rfl
      rw [if_pos (wanted_none rfl)]
      refine wp_value (w2 := wx) (v := .pointer (some ⟨lg, 0, none⟩)) ?_ (hK _ _ rfl (Fr.refl _ _))
      clear hd hG hK
      go_simp
    refine stepsHold.cons (fun wx hG hd K hK => ?_) ?_
    · have h24 : us 24 = (.pointer (some ⟨lg, 0, none⟩)) := deps_get hd 0 rfl rfl rfl rfl rfl
      rw [if_pos (wanted_none rfl)]
      refine wp_value (w2 := wx) (v := .pointer (some ⟨lg, 1, none⟩)) ?_ (hK _ _ rfl (Fr.refl _ _))
      clear hd hG hK
      go_simp
    refine stepsHold.cons (fun wx hG hd K hK => ?_) ?_
    · have h25 : us 25 = (.pointer (some ⟨lg, 1, none⟩)) := deps_get hd 0 rfl rfl rfl rfl rfl
      rw [if_pos (wanted_none rfl)]
      obtain ⟨c0, c1, c2, c3, c4, c5, c6, c7, hz⟩ := (HH.out.keep0 hG).cells
      clear hz
      refine wp_value (w2 := wx) (v := .int .i64 L.r.size) ?_ (hK _ _ rfl (Fr.refl _ _))
      clear hd hK
      go_simp
    refine stepsHold.cons (fun wx hG hd K hK => ?_) ?_
    · have h21 : us 21 = (.int .i64 L.r.head) := deps_get hd 0 rfl rfl rfl rfl rfl
      have h26 : us 26 = (.int .i64 L.r.size) := deps_get hd 1 rfl rfl rfl rfl rfl
      rw [if_pos (wanted_none rfl)]
      refine wp_value (w2 := wx) (v := .int .i64 (L.r.head + L.r.size)) ?_ (hK _ _ rfl (Fr.refl _ _))
      clear hd hG hK
      go_simp
      first | done | (rw [IntKind.wrap_i64]; omega)
    refine stepsHold.cons (fun wx hG hd K hK => ?_) ?_
    · rw [if_pos (wanted_none rfl)]
      refine wp_value (w2 := wx) (v := .int .i64 L.r.head) ?_ (hK _ _ rfl (Fr.refl _ _))
      clear hd hG hK
      go_simp
    refine stepsHold.cons (fun wx hG hd K hK => ?_) ?_
    · have h27 : us 27 = (.int .i64 (L.r.head + L.r.size)) := deps_get hd 0 rfl rfl rfl rfl rfl
      have h28 : us 28 = (.int .i64 L.r.head) := deps_get hd 1 rfl rfl rfl rfl rfl
      rw [if_pos (wanted_none rfl)]
      refine wp_value (w2 := wx) (v := .int .i64 L.r.size) ?_ (hK _ _ rfl (Fr.refl _ _))
      clear hd hG hK
      go_simp
      first | done | (rw [IntKind.wrap_i64]; omega)
    refine stepsHold.cons (fun wx hG hd K hK => ?_) ?_
    · have h15 : us 15 = (.agg #[.int .i64 L.r.from_, .int .i64 L.r.size, .int .i64 L.r.head, .int .i64 L.r.tail]) := deps_get hd 0 rfl rfl rfl rfl rfl
      have h16 : us 16 = (.int .i64 L.r.head) := deps_get hd 1 rfl rfl rfl rfl rfl
      have h29 : us 29 = (.int .i64 L.r.size) := deps_get hd 2 rfl rfl rfl rfl rfl
      rw [if_pos (wanted_none rfl)]
      refine wp_call (w2 := wx) (f := 102) (args := #[.agg #[.int .i64 L.r.from_, .int .i64 L.r.size, .int .i64 L.r.head, .int .i64 L.r.tail], .int .i64 L.r.head, .int .i64 L.r.size]) ?_ ?_
      · clear hd hK
        go_simp
      · refine (spans_c L.r HS.out L.r.head L.r.size (by omega) (by omega) (by omega) (by omega)).mono ?_
        rintro e w9 ⟨A9, c9, rfl, hL9, hf9⟩
        rw [HLEN.out]
        rw [← HSP.out] at hL9
        exact ⟨_, rfl, hK _ _ ⟨A9, c9, rfl, hL9⟩ hf9⟩
    refine stepsHold.cons (fun wx hG hd K hK => ?_) ?_
    · have h30 := deps_get hd 0 rfl rfl rfl rfl rfl
      rw [if_pos (wanted_none rfl)]
      obtain ⟨A9, c9, e9, h9⟩ := h30
      refine wp_value (w2 := wx) (v := .int .i64 (nl : Int)) ?_ (hK _ _ rfl (Fr.refl _ _))
      clear hd hG hK
      go_simp
    refine stepsHold.cons (fun wx hG hd K hK => ?_) ?_
    · rw [if_pos (wanted_none rfl)]
      refine wp_value (w2 := wx) (v := .int .i64 0) ?_ (hK _ _ rfl (Fr.refl _ _))
      clear hd hG hK
      go_simp
    exact stepsHold.nil
  case fin =>
    have h12 : us 12 = (.pointer (some ⟨lg, 0, none⟩)) := all_get hall 0 rfl rfl rfl
    have h13 : us 13 = (.pointer (some ⟨lg, 0, none⟩)) := all_get hall 1 rfl rfl rfl
    have h14 : us 14 = (.pointer (some ⟨lg, 0, none⟩)) := all_get hall 2 rfl rfl rfl
    have h15 : us 15 = (.agg #[.int .i64 L.r.from_, .int .i64 L.r.size, .int .i64 L.r.head, .int .i64 L.r.tail]) := all_get hall 3 rfl rfl rfl
    have h16 : us 16 = (.int .i64 L.r.head) := all_get hall 4 rfl rfl rfl
    have h17 : us 17 = (.pointer (some ⟨lg, 0, none⟩)) := all_get hall 5 rfl rfl rfl
    have h18 : us 18 = (.pointer (some ⟨lg, 0, none⟩)) := all_get hall 6 rfl rfl rfl
    have h19 : us 19 = (.pointer (some ⟨lg, 0, none⟩)) := all_get hall 7 rfl rfl rfl
    have h20 : us 20 = (.pointer (some ⟨lg, 2, none⟩)) := all_get hall 8 rfl rfl rfl
    have h21 : us 21 = (.int .i64 L.r.head) := all_get hall 9 rfl rfl rfl
    have h22 : us 22 = (.pointer (some ⟨lg, 0, none⟩)) := all_get hall 10 rfl rfl rfl
    have h23 : us 23 = (.pointer (some ⟨lg, 0, none⟩)) := all_get hall 11 rfl rfl rfl
    have h24 : us 24 = (.pointer (some ⟨lg, 0, none⟩)) := all_get hall 12 rfl rfl rfl
    have h25 : us 25 = (.pointer (some ⟨lg, 1, none⟩)) := all_get hall 13 rfl rfl rfl
    have h26 : us 26 = (.int .i64 L.r.size) := all_get hall 14 rfl rfl rfl
    have h27 : us 27 = (.int .i64 (L.r.head + L.r.size)) := all_get hall 15 rfl rfl rfl
    have h28 : us 28 = (.int .i64 L.r.head) := all_get hall 16 rfl rfl rfl
    have h29 : us 29 = (.int .i64 L.r.size) := all_get hall 17 rfl rfl rfl
    have h30 := all_get hall 18 rfl rfl rfl
    have h31 : us 31 = (.int .i64 (nl : Int)) := all_get hall 19 rfl rfl rfl
    have h32 : us 32 = (.int .i64 0) := all_get hall 20 rfl rfl rfl
    simp only [fillL, Nat.reduceAdd]
    clear hall
    simp only [h12, h13, h14, h15, h16, h17, h18, h19, h20, h21, h22, h23, h24, h25, h26, h27, h28, h29, h31, h32]
    clear h12 h13 h14 h15 h16 h17 h18 h19 h20 h21 h22 h23 h24 h25 h26 h27 h28 h29 h31 h32
    obtain ⟨A2, cc, e30, hla⟩ := h30
    rw [e30]
    have HLA := Lib.hid hla
    have HGG := Lib.hid hG
    clear hG hla e30
    go_wp2_with fail
    go_loopg [6, 8, 9, 10, 11, 32] nl (fun kq x6 x8 x9 x10 x11 x32 wr => ∃ j : Nat, j ≤ nl ∧ kq = nl - j ∧ x32 = .int .i64 (j : Int) ∧ OwnSecs wr wz.heap.size x6 (lotSecs D (sp.take j)) ∧ Fr F0 wz wr)
    case atStart => exact ⟨0, by omega, rfl, rfl, OwnRowB.nil _ _, Fr.refl _ _⟩
    case round =>
      obtain ⟨j, hj, rfl, rfl, hown, hf⟩ := hrel
      have HO := Lib.hid hown
      have HF := Lib.hid hf
      clear hown hf
      by_cases hlt : j < nl
      · have j0 : (0 : Int) ≤ (j : Int) := Int.natCast_nonneg _
        have j1 : (j : Int) < (nl : Int) := by omega
        have hjl : j < sp.length := by rw [← HNL.out]; exact hlt
        obtain ⟨x, hx⟩ : ∃ x, sp[j]? = some x := ⟨sp[j], List.getElem?_eq_getElem hjl⟩
        obtain ⟨i1, i2, i3⟩ := HSI.out x (List.mem_of_getElem? hx)
        have hlen : (lotSecs D (sp.take j)).length ≤ 8192 := by
          have := lotSecs_len D (sp.take j) (fun y hy => by have := HSI.out y (List.mem_of_mem_take hy); omega)
          rw [List.length_take] at this
          omega
        have HTK : Hid (lotSecs D (sp.take (j + 1)) = lotSecs D (sp.take j) ++ (List.range x.2.toNat).map fun k => D.at (x.1.toNat + k)) := Lib.hid (by
          rw [← lotSecs_snoc, List.take_succ_eq_append_getElem hjl]
          rw [List.getElem?_eq_getElem hjl] at hx
          rw [Option.some.inj hx])
        obtain ⟨gb, off, hA2, hc0, hc1⟩ := (HLA.out.keep0 HF.out).cells j x hx
        obtain ⟨x1, x2⟩ := x
        obtain ⟨a1, rfl⟩ : ∃ a : Nat, x1 = (a : Int) := ⟨x1.toNat, by omega⟩
        obtain ⟨a2, rfl⟩ : ∃ a : Nat, x2 = (a : Int) := ⟨x2.toNat, by omega⟩
        simp only [Int.toNat_natCast] at HTK i1 i2 i3 hc0 hc1
        subst hA2
        obtain ⟨dd, hu, hdd⟩ := und_pair
        have HU := Lib.hid hu
        have HDD := Lib.hid hdd
        have HCS : Hid (∀ i v, (lotCells ((a1 : Int), (a2 : Int)))[i]? = some v → wr.cell? ⟨gb, off + j * 2 + i, none⟩ = some v) := Lib.hid (by
          intro i v hv
          have hi : i = 0 ∨ i = 1 := by have := (List.getElem?_eq_some_iff.1 hv).1; simp [lotCells] at this; omega
          rcases hi with rfl | rfl
          · simp [lotCells] at hv; subst hv; exact hc0
          · simp [lotCells] at hv; subst hv; exact hc1)
        obtain ⟨w5, hw5⟩ : ∃ w5, w5 = wr.alloc (.cells #[.int .i64 (a1 : Int), .int .i64 (a2 : Int)] 156) := ⟨_, rfl⟩
        have HW5 := Lib.hid hw5
        obtain ⟨pb, hpb⟩ : ∃ pb, pb = wr.heap.size := ⟨_, rfl⟩
        have HPBB := Lib.hid hpb
        have HP5 : Hid (w5.heap[pb]? = some (.cells #[.int .i64 (a1 : Int), .int .i64 (a2 : Int)] 156 (0, 0))) := Lib.hid (by rw [hw5]; exact alloc_at hpb _)
        have hf5 : Fr F0 wr w5 := by rw [hw5]; exact (Fr.refl _ _).alloc _
        have HF5 := Lib.hid hf5
        have HO5 := Lib.hid (HO.out.keep hf5)
        have HF := Lib.hid (HF.out.then0 hf5)
        obtain ⟨k0, k1⟩ := LotRow.cells HP5.out
        clear hx hc0 hc1 hu hdd hf5 hw5 hpb
        go_upto_region 5 with (first | (refine wpList_load_at rfl 156 (.tmp 34) rfl gb (off + j * 2) (by rfl) (lotCells ((a1 : Int), (a2 : Int))) dd HCS.out HU.out HDD.out size_pair ?_) | (refine wpList_store_fresh rfl 156 (.tmp 8) (.tmp 35) rfl (lotCells ((a1 : Int), (a2 : Int))).toArray (by rfl) (by rfl) 156 #[.int .i64 0, .int .i64 0] (size_lot _) rfl (one_lot _) ?_))
        rw [show wr.alloc (.cells (lotCells ((a1 : Int), (a2 : Int))).toArray 156) = w5 from HW5.out.symm, ← HPBB.out]
        have a20 : (0 : Int) ≤ (a2 : Int) := Int.natCast_nonneg _
        have a10 : (0 : Int) ≤ (a1 : Int) := Int.natCast_nonneg _
        go_wp2_with fail
        clear k0 k1
        go_loopg [6, 9, 10, 11, 38] a2 (fun kq x6 x9 x10 x11 x38 wk => ∃ k : Nat, k ≤ a2 ∧ kq = a2 - k ∧ x38 = .int .i64 (k : Int) ∧ OwnSecs wk wz.heap.size x6 (lotSecs D (sp.take j) ++ (List.range k).map fun k => D.at (a1 + k)) ∧ Fr F0 wz wk ∧ wk.heap[pb]? = some (.cells #[.int .i64 (a1 : Int), .int .i64 (a2 : Int)] 156 (0, 0)))
        case atStart => exact ⟨0, by omega, rfl, rfl, by simpa using HO5.out, HF.out, HP5.out⟩
        case round =>
          obtain ⟨k, hk, rfl, rfl, hown, hf, hpr⟩ := hrel
          have HOK := Lib.hid hown
          have HFK := Lib.hid hf
          have HPK := Lib.hid hpr
          clear hown hf hpr
          by_cases hkt : k < a2
          · have k0 : (0 : Int) ≤ (k : Int) := Int.natCast_nonneg _
            have k1 : (k : Int) < (a2 : Int) := by omega
            have HLK := Lib.hid (HH.out.keep0 (HGG.out.then0 HFK.out))
            have HDK := Lib.hid (HD.out.keep0 (HGG.out.then0 HFK.out))
            have hin : a1 + k < D.laid.length := by omega
            have HIN := Lib.hid hin
            obtain ⟨s, hs⟩ : ∃ s, s = D.at (a1 + k) := ⟨_, rfl⟩
            have HSEC := Lib.hid hs
            clear hin hs
            go_upto_region 8 with fail
            refine wp_region_free (S := F0) [false, false, false, false, false, false, false, false, false, false, true, true, false, false, false, false, false, false, false, false, false, false, false, false, false, false, false, false, false, false, false, false, false, false, false, false, false, false, false, false, false, true, true, true, true, true, true, true, true, true, true, true, true, false, false, false, false, false, false, false, false, false, false] [.eq (.pointer (some ⟨lg, 0, none⟩)), .eq (.pointer (some ⟨lg, 0, none⟩)), .eq (.pointer (some ⟨lg, 4, none⟩)), .eq (.pointer (some ⟨db, 0, none⟩)), .eq (.pointer (some ⟨pb, 0, none⟩)), .eq (.int .i64 (a1 : Int)), .eq (.int .i64 (k : Int)), .eq (.int .i64 ((a1 + k : Nat) : Int)), ⟨fun v w1 => ∃ b, v = .tuple #[.slice (some ⟨b, 0, none⟩) 64 64, .int .i64 0] ∧ wr.heap.size ≤ b ∧ ∃ t, w1.heap[b]? = some (.cells (cellsOf s) t (0, 0)), fun v w1 w2 ⟨b, h1, h2, t, h3⟩ hf => ⟨b, h1, h2, t, hf.keep0 h3⟩⟩, ⟨fun v w1 => ∃ b, v = .tuple #[.slice (some ⟨b, 0, none⟩) 64 64, .int .i64 0] ∧ wr.heap.size ≤ b ∧ ∃ t, w1.heap[b]? = some (.cells (cellsOf s) t (0, 0)), fun v w1 w2 ⟨b, h1, h2, t, h3⟩ hf => ⟨b, h1, h2, t, hf.keep0 h3⟩⟩, ⟨fun v w1 => ∃ b, v = .slice (some ⟨b, 0, none⟩) 64 64 ∧ wr.heap.size ≤ b ∧ ∃ t, w1.heap[b]? = some (.cells (cellsOf s) t (0, 0)), fun v w1 w2 ⟨b, h1, h2, t, h3⟩ hf => ⟨b, h1, h2, t, hf.keep0 h3⟩⟩, .eq (.int .i64 0), ⟨fun v w1 => ∃ b, v = .slice (some ⟨b, 0, none⟩) 64 64 ∧ wr.heap.size ≤ b ∧ ∃ t, w1.heap[b]? = some (.cells (cellsOf s) t (0, 0)), fun v w1 w2 ⟨b, h1, h2, t, h3⟩ hf => ⟨b, h1, h2, t, hf.keep0 h3⟩⟩, .eq (.int .i64 0)] (by kernel_rfl) (by kernel_rfl) (by rfl) (fun us => ?steps) (fun us wy hG hall => ?fin)
            case steps =>
              simp only [fillL, Nat.reduceAdd]
              refine stepsHold.cons (fun wx hG hd K hK => ?_) ?_
              · rw [if_pos (wanted_none rfl)]
                refine wp_value (w2 := wx) (v := .pointer (some ⟨lg, 0, none⟩)) ?_ (hK _ _ rfl (Fr.refl _ _))
                clear hd hG hK
                go_simp
              refine stepsHold.cons (fun wx hG hd K hK => ?_) ?_
              · have h42 : us 42 = (.pointer (some ⟨lg, 0, none⟩)) := deps_get hd 0 rfl rfl rfl rfl rfl
                rw [if_pos (wanted_none rfl)]
                refine wp_value (w2 := wx) (v := .pointer (some ⟨lg, 0, none⟩)) ?_ (hK _ _ rfl (Fr.refl _ _))
                clear hd hG hK
                go_simp
              refine stepsHold.cons (fun wx hG hd K hK => ?_) ?_
              · have h43 : us 43 = (.pointer (some ⟨lg, 0, none⟩)) := deps_get hd 0 rfl rfl rfl rfl rfl
                rw [if_pos (wanted_none rfl)]
                refine wp_value (w2 := wx) (v := .pointer (some ⟨lg, 4, none⟩)) ?_ (hK _ _ rfl (Fr.refl _ _))
                clear hd hG hK
                go_simp
              refine stepsHold.cons (fun wx hG hd K hK => ?_) ?_
              · have h44 : us 44 = (.pointer (some ⟨lg, 4, none⟩)) := deps_get hd 0 rfl rfl rfl rfl rfl
                rw [if_pos (wanted_none rfl)]
                obtain ⟨c0, c1, c2, c3, c4, c5, c6, c7, hz⟩ := (HLK.out.keep0 hG).cells
                clear hz
                refine wp_value (w2 := wx) (v := .pointer (some ⟨db, 0, none⟩)) ?_ (hK _ _ rfl (Fr.refl _ _))
                clear hd hK
                go_simp
              refine stepsHold.cons (fun wx hG hd K hK => ?_) ?_
              · rw [if_pos (wanted_none rfl)]
                refine wp_value (w2 := wx) (v := .pointer (some ⟨pb, 0, none⟩)) ?_ (hK _ _ rfl (Fr.refl _ _))
                clear hd hG hK
                go_simp
              refine stepsHold.cons (fun wx hG hd K hK => ?_) ?_
              · have h46 : us 46 = (.pointer (some ⟨pb, 0, none⟩)) := deps_get hd 0 rfl rfl rfl rfl rfl
                rw [if_pos (wanted_none rfl)]
                have hc := (LotRow.cells (hG.keep0 HPK.out)).1
                refine wp_value (w2 := wx) (v := .int .i64 (a1 : Int)) ?_ (hK _ _ rfl (Fr.refl _ _))
                clear hd hK
                go_simp
              refine stepsHold.cons (fun wx hG hd K hK => ?_) ?_
              · rw [if_pos (wanted_none rfl)]
                refine wp_value (w2 := wx) (v := .int .i64 (k : Int)) ?_ (hK _ _ rfl (Fr.refl _ _))
                clear hd hG hK
                go_simp
              refine stepsHold.cons (fun wx hG hd K hK => ?_) ?_
              · have h47 : us 47 = (.int .i64 (a1 : Int)) := deps_get hd 0 rfl rfl rfl rfl rfl
                have h48 : us 48 = (.int .i64 (k : Int)) := deps_get hd 1 rfl rfl rfl rfl rfl
                rw [if_pos (wanted_none rfl)]
                refine wp_value (w2 := wx) (v := .int .i64 ((a1 + k : Nat) : Int)) ?_ (hK _ _ rfl (Fr.refl _ _))
                clear hd hG hK
                go_simp
                first | done | (rw [IntKind.wrap_i64]; omega)
              refine stepsHold.cons (fun wx hG hd K hK => ?_) ?_
              · have h45 : us 45 = (.pointer (some ⟨db, 0, none⟩)) := deps_get hd 0 rfl rfl rfl rfl rfl
                have h49 : us 49 = (.int .i64 ((a1 + k : Nat) : Int)) := deps_get hd 1 rfl rfl rfl rfl rfl
                rw [if_pos (wanted_none rfl)]
                refine wp_call (w2 := wx) (f := 23) (args := #[.pointer (some ⟨db, 0, none⟩), .int .i64 ((a1 + k : Nat) : Int)]) ?_ ?_
                · clear hd hK
                  go_simp
                · refine (read_c (HDK.out.keep0 hG) HG.out (a1 + k) HIN.out).mono ?_
                  rintro e w9 ⟨b9, t9, rfl, hb9, hc9, hf9⟩
                  rw [← HSEC.out] at hc9
                  exact ⟨_, rfl, hK _ _ ⟨b9, rfl, Nat.le_trans hG.size hb9, t9, hc9⟩ hf9⟩
              refine stepsHold.cons (fun wx hG hd K hK => ?_) ?_
              · have h50 := deps_get hd 0 rfl rfl rfl rfl rfl
                rw [if_pos (wanted_none rfl)]
                obtain ⟨b9, e9, hb9, t9, hc9⟩ := h50
                refine wp_value (w2 := wx) (v := .tuple #[.slice (some ⟨b9, 0, none⟩) 64 64, .int .i64 0]) ?_ (hK _ _ ⟨b9, rfl, hb9, t9, hc9⟩ (Fr.refl _ _))
                clear hd hG hK
                go_simp
              refine stepsHold.cons (fun wx hG hd K hK => ?_) ?_
              · have h41 := deps_get hd 0 rfl rfl rfl rfl rfl
                rw [if_pos (wanted_none rfl)]
                obtain ⟨b9, e9, hb9, t9, hc9⟩ := h41
                refine wp_value (w2 := wx) (v := .slice (some ⟨b9, 0, none⟩) 64 64) ?_ (hK _ _ ⟨b9, rfl, hb9, t9, hc9⟩ (Fr.refl _ _))
                clear hd hG hK
                go_simp
              refine stepsHold.cons (fun wx hG hd K hK => ?_) ?_
              · have h41 := deps_get hd 0 rfl rfl rfl rfl rfl
                rw [if_pos (wanted_none rfl)]
                obtain ⟨b9, e9, hb9, t9, hc9⟩ := h41
                refine wp_value (w2 := wx) (v := .int .i64 0) ?_ (hK _ _ rfl (Fr.refl _ _))
                clear hd hG hK
                go_simp
              refine stepsHold.cons (fun wx hG hd K hK => ?_) ?_
              · have h51 := deps_get hd 0 rfl rfl rfl rfl rfl
                rw [if_pos (wanted_none rfl)]
                obtain ⟨b9, e9, hb9, t9, hc9⟩ := h51
                refine wp_value (w2 := wx) (v := .slice (some ⟨b9, 0, none⟩) 64 64) ?_ (hK _ _ ⟨b9, rfl, hb9, t9, hc9⟩ (Fr.refl _ _))
                clear hd hG hK
                go_simp
              refine stepsHold.cons (fun wx hG hd K hK => ?_) ?_
              · have h52 : us 52 = (.int .i64 0) := deps_get hd 0 rfl rfl rfl rfl rfl
                rw [if_pos (wanted_none rfl)]
                refine wp_value (w2 := wx) (v := .int .i64 0) ?_ (hK _ _ rfl (Fr.refl _ _))
                clear hd hG hK
                go_simp
              exact stepsHold.nil
            case fin =>
              have h42 : us 42 = (.pointer (some ⟨lg, 0, none⟩)) := all_get hall 0 rfl rfl rfl
              have h43 : us 43 = (.pointer (some ⟨lg, 0, none⟩)) := all_get hall 1 rfl rfl rfl
              have h44 : us 44 = (.pointer (some ⟨lg, 4, none⟩)) := all_get hall 2 rfl rfl rfl
              have h45 : us 45 = (.pointer (some ⟨db, 0, none⟩)) := all_get hall 3 rfl rfl rfl
              have h46 : us 46 = (.pointer (some ⟨pb, 0, none⟩)) := all_get hall 4 rfl rfl rfl
              have h47 : us 47 = (.int .i64 (a1 : Int)) := all_get hall 5 rfl rfl rfl
              have h48 : us 48 = (.int .i64 (k : Int)) := all_get hall 6 rfl rfl rfl
              have h49 : us 49 = (.int .i64 ((a1 + k : Nat) : Int)) := all_get hall 7 rfl rfl rfl
              have h50 := all_get hall 8 rfl rfl rfl
              have h41 := all_get hall 9 rfl rfl rfl
              have h51 := all_get hall 10 rfl rfl rfl
              have h52 : us 52 = (.int .i64 0) := all_get hall 11 rfl rfl rfl
              have h10 := all_get hall 12 rfl rfl rfl
              have h11 : us 11 = (.int .i64 0) := all_get hall 13 rfl rfl rfl
              simp only [fillL, Nat.reduceAdd]
              clear hall
              simp only [h42, h43, h44, h45, h46, h47, h48, h49, h52, h11]
              clear h42 h43 h44 h45 h46 h47 h48 h49 h52 h11
              obtain ⟨b9, e10, hb9, t9, hc9⟩ := h10
              have hls : s.length = 64 := by rw [HSEC.out]; exact at_len HD.out.ok HIN.out
              rw [← hls] at e10
              rw [e10]
              have HF9 := Lib.hid hG
              have HBY9 : Hid (Byt wy (some ⟨b9, 0, none⟩) s.length s) := Lib.hid ⟨BytesAt.of_block hc9, by omega, by omega⟩
              have HLS := Lib.hid hls
              have HBS9 : Hid (Bys s) := Lib.hid (by rw [HSEC.out]; exact HB.out.at _)
              have HO9 := Lib.hid (HOK.out.keep hG)
              have hap : ∀ ad, (some ⟨b9, 0, none⟩ : Option Addr) = some ad → 0 < s.length → u6.ownBlock ≠ some ad.block ∧ wz.heap.size ≤ ad.block := fun ad e _ => by
                obtain rfl := Option.some.inj e
                refine ⟨fun hk => ?_, ?_⟩
                · have h1 : b9 < wr.heap.size := HOK.out.lt _ hk
                  omega
                · have h2 := HFK.out.size
                  show wz.heap.size ≤ b9
                  omega
              have hz9 : wz.heap.size ≤ wy.heap.size := (HFK.out.then0 hG).size
              have HAP := Lib.hid hap
              have hll : (lotSecs D (sp.take j) ++ (List.range k).map fun k => D.at (a1 + k)).length = (lotSecs D (sp.take j)).length + k := by simp
              have HLL := Lib.hid hll
              clear hap hll hG e10 hc9 hls
              go_wp2_with (at_builtin; refine wpList_append_rowB (t := 24) (hd := 0) (head := fun _ : List Int => []) (byt := fun x => x) rfl (.tmp 56) (.tmp 58) 84 24 (.slice none 0 0) rfl und_bytess info_bytes rfl (by decide) (fun _ => rfl) (fun _ u hu => by cases hu) wz.heap.size u6 (lotSecs D (sp.take j) ++ (List.range k).map fun k => D.at (a1 + k)) s (some ⟨b9, 0, none⟩) s.length wy.heap.size rfl (by rfl) (by rfl) HO9.out HBY9.out HBS9.out HAP.out (by omega) (by rw [HLL.out]; omega) ?_; intro v3 w3 hown3 hf3)
              have hf9 : Fr F0 wz w3 := (HFK.out.then0 HF9.out).trans hf3 (fun i hi => .inr (HO9.out.base_le _ hi))
              have hp9 := hf3.keep (HF9.out.keep0 HPK.out) (fun hi => by
                obtain ⟨c9, hc⟩ := HO9.out.cells _ hi
                rw [HF9.out.keep0 HPK.out] at hc
                cases hc)
              go_roundg (a2 - (k + 1))
              case measure => omega
              case rel =>
                refine ⟨k + 1, by omega, rfl, by first | rfl | (go_num), ?_, hf9, hp9⟩
                rw [List.range_succ, List.map_append, List.map_singleton, ← HSEC.out, ← List.append_assoc]
                exact hown3
          · have hkn : k = a2 := by omega
            subst hkn
            rw [← HTK.out] at HOK
            go_wp2_with fail
            go_roundg (nl - (j + 1))
            case measure => omega
            case rel => exact ⟨j + 1, by omega, rfl, by first | rfl | (go_num), HOK.out, HFK.out⟩
      · have hjn : j = nl := by omega
        have htk : sp.take j = sp := List.take_of_length_le (by rw [← HNL.out]; omega)
        rw [htk, HRS.out] at HO
        clear htk
        subst hjn
        go_wp2_with fail
        go_ret2
        exact ⟨_, rfl, HO.out.down HGG.out.size, HGG.out.then0 HF.out⟩
end
end Go.Proofs.YtdeckbdaencjnaaDoor
