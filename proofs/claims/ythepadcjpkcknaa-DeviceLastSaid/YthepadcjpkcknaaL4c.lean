/-
  DeviceLast: the walk. Conditions: none.
-/
import Derived.Test.YthepadcjpkcknaaL4a
import Derived.Test.YthepadcjpkcknaaDevX
import Derived.Test.YthepadcjpkcknaaFree
set_option linter.unusedVariables false
set_option linter.unusedSimpArgs false
namespace Go.Proofs.Ythepadcjpkcknaa
open Go.RowKit

/-- A device of eight sectors, two of which were written to, the same. -/
structure Two (k o : Nat) (p : List Int) (some_ : Bool) (D : Dev) : Prop where
  gone : D.gone = false
  budget : D.budget = -1
  laid : D.laid = (Dev.new 8).laid
  len : D.late.length = 8
  late : ∀ j, j < 8 → D.late[j]? = some (if (j = k ∨ j = o) ∧ some_ = true then some p else none)

theorem Two.start (k o : Nat) (p : List Int) : Two k o p false (Dev.new 8) := ⟨rfl, rfl, rfl, by simp [Dev.new], fun j hj => by
  show (List.replicate 8 none)[j]? = _
  rw [List.getElem?_replicate, if_pos hj]; simp⟩
theorem Two.more {k o : Nat} {p : List Int} {b : Bool} {D : Dev} (h : Two k o p b D) (hk : k < 8) (ho : o < 8) (x : Int) :
    D.writeE k [x] = 0 ∧ (D.write k [x]).writeE o [x] = 0 ∧ Two k o (pad64 [x]) true ((D.write k [x]).write o [x]) := by
  have hb : D.budget ≠ 0 := by rw [h.budget]; decide
  have hl : D.laid.length = 8 := by rw [h.laid]; simp [Dev.new]
  obtain ⟨e1, e2⟩ := Dev.write_ok h.gone hb (i := k) (by omega) (xs := [x]) (by simp)
  have g1 : (D.write k [x]).gone = false := by rw [e2]; exact Dev.spend_gone h.gone hb
  have b1 : (D.write k [x]).budget = -1 := by rw [e2]; exact Dev.spend_neg h.budget
  have l1 : (D.write k [x]).laid = D.laid := by rw [e2]; exact Dev.spend_laid D
  have t1 : (D.write k [x]).late = D.late.set k (some (pad64 [x])) := by rw [e2]; show (D.spend.late).set _ _ = _; rw [Dev.spend_late]
  have hb1 : (D.write k [x]).budget ≠ 0 := by rw [b1]; decide
  obtain ⟨e3, e4⟩ := Dev.write_ok g1 hb1 (i := o) (by rw [l1]; omega) (xs := [x]) (by simp)
  refine ⟨e1, e3, ?_⟩
  have t2 : ((D.write k [x]).write o [x]).late = (D.late.set k (some (pad64 [x]))).set o (some (pad64 [x])) := by
    rw [e4]; show ((D.write k [x]).spend.late).set _ _ = _; rw [Dev.spend_late, t1]
  refine ⟨by rw [e4]; exact Dev.spend_gone g1 hb1, by rw [e4]; exact Dev.spend_neg b1, by rw [e4]; show ((D.write k [x]).spend).laid = _; rw [Dev.spend_laid, l1]; exact h.laid, by rw [t2]; simp [h.len], fun j hj => ?_⟩
  rw [t2]
  by_cases hjo : j = o
  · subst hjo
    rw [List.getElem?_set_self (by simp [h.len]; exact hj)]
    simp
  · rw [List.getElem?_set_ne (Ne.symm hjo)]
    by_cases hjk : j = k
    · subst hjk
      rw [List.getElem?_set_self (by rw [h.len]; exact hj)]
      simp
    · rw [List.getElem?_set_ne (Ne.symm hjk), h.late j hj]
      simp [hjo, hjk]
theorem two_count : ∀ k, k < 8 → ∀ o, o < 8 → ((List.range 8).filter fun j => decide (j = k ∨ j = o)).length = if o = k then 1 else 2 := by decide
theorem Two.cached {k o : Nat} {p : List Int} {D : Dev} (h : Two k o p true D) (hk : k < 8) (ho : o < 8) : D.cachedI.length = if o = k then 1 else 2 := by
  have hl : D.laid.length = 8 := by rw [h.laid]; simp [Dev.new]
  rw [← two_count k hk o ho]
  unfold Dev.cachedI Dev.cached
  rw [List.length_map, hl]
  congr 1
  refine List.filter_congr fun j hj => ?_
  rw [h.late j (List.mem_range.1 hj)]
  by_cases hc : j = k ∨ j = o
  · simp [hc]
  · simp [hc]
theorem Two.at_ {k o : Nat} {p : List Int} {D : Dev} (h : Two k o p true D) (hk : k < 8) : D.at k = p := Dev.at_late (by rw [h.late k hk]; simp)

/-- What the loop keeps. -/
structure LastAt (k o : Nat) (xs : List Int) (db lb mb : Nat) (w0 : World) (j : Nat) (wr : World) : Prop where
  ex : ∃ D, DevAt Try.prog 3 wr db lb mb D ∧ Two k o (pad64 [xs.getD (j - 1) 0]) (decide (0 < j)) D
  fr : Fr (Dv db lb mb) w0 wr

section
variable {w : World}
set_option maxRecDepth 100000 in
set_option maxHeartbeats 2000000 in
theorem last_walk (A : Option Addr) (n c : Nat) (xs : List Int) (at_ oth : Int) (hA : BytesAt w A n xs) (hn : n ≤ 9223372036854775807) :
    Calls Try.prog 5 #[.slice A n c, .int .i64 at_, .int .i64 oth] w fun e w' => e = .returned (.bool true) ∧ Fr F0 w w' := by
  by_cases hbig : 60 < n
  · have hbig' : (60 : Int) < (n : Int) := by omega
    go_enter Try.func5, Try.ntmps5
    go_wp2_with (go_at_call 9; refine (awake_c _).mono ?_; rintro e w1 ⟨rfl, hf1⟩)
    go_ret
    exact ⟨rfl, hf1⟩
  by_cases hz : n = 0
  · subst hz
    go_enter Try.func5, Try.ntmps5
    go_wp2_with (go_at_call 9; refine (awake_c _).mono ?_; rintro e w1 ⟨rfl, hf1⟩)
    go_ret
    exact ⟨rfl, hf1⟩
  have hbig' : ¬ (60 : Int) < (n : Int) := by omega
  have hz' : ((n : Int) == 0) = false := by rw [beq_eq_false_iff_ne]; omega
  obtain ⟨k, hk⟩ : ∃ k : Nat, at_ % 8 = (k : Int) := ⟨(at_ % 8).toNat, by omega⟩
  obtain ⟨o, ho⟩ : ∃ k : Nat, oth % 8 = (k : Int) := ⟨(oth % 8).toNat, by omega⟩
  have hk8 : k < 8 := by omega
  have ho8 : o < 8 := by omega
  have hband : bits BinOp.and IntKind.i64 at_ 7 = (k : Int) := by rw [← hk]; exact i64_and at_ 3 (by decide)
  have hband2 : bits BinOp.and IntKind.i64 oth 7 = (o : Int) := by rw [← ho]; exact i64_and oth 3 (by decide)
  have HLEN := Lib.hid hA.len
  clear hk ho
  obtain ⟨ad, rfl, hcells⟩ := hA.cells (by omega)
  have hlt := hA.lt (by omega)
  have HC := Lib.hid hcells
  clear hcells
  go_enter Try.func5, Try.ntmps5
  go_wp2_with fail
  refine (awake_c _).mono ?_
  rintro e w1 ⟨rfl, hf1⟩
  go_wp2_with fail
  refine (new_c 8 (by decide) (by decide) _).mono ?_
  rintro e w2 ⟨db, lb, mb, rfl, h2, n1, n2, n3, hf2⟩
  go_wp2_with fail
  have z1 := hf1.size
  have z2 := hf2.size
  have hlt2 := h2.lt
  have hA2 := (hA.keep0 hf1).keep0 hf2
  go_loopg [11] n (fun kq v wr => ∃ j : Nat, j ≤ n ∧ kq = n - j ∧ v = .int .i64 (j : Int) ∧ LastAt k o xs db lb mb w2 j wr)
  case atStart => exact ⟨0, by omega, rfl, rfl, ⟨⟨_, h2, Two.start _ _ _⟩, Fr.refl _ _⟩⟩
  case round =>
    obtain ⟨j, hj, rfl, rfl, ⟨D, hD, hT⟩, hfr⟩ := hrel
    have HT := Lib.hid hT
    clear hT
    have z3 := hfr.size
    by_cases hlt3 : j < n
    · have hj0 : (0 : Int) ≤ (j : Int) := Int.natCast_nonneg _
      have hj1 : (j : Int) < (n : Int) := by omega
      have hjx : j < xs.length := by rw [HLEN.out]; exact hlt3
      obtain ⟨x, hx⟩ : ∃ x, xs[j]? = some x := ⟨xs[j], List.getElem?_eq_getElem _⟩
      have hgx : xs.getD j 0 = x := by simp [List.getD, hx]
      have hnB : 0 < n → ∀ ad', some ad = some ad' → ¬ Dv db lb mb ad'.block := by
        intro _ ad' e hd
        cases e
        rcases hd with h' | h' | h' <;> omega
      have hcell : wr.cell? (ad.add j) = some (.int .u8 x) := by
        obtain ⟨ad', e, hc⟩ := (hA2.keep hfr hnB).cells (by omega)
        cases e
        exact hc j _ (by simp [hx])
      have HM := Lib.hid (HT.out.more hk8 ho8 x)
      have HX := Lib.hid hgx
      clear hx hgx
      have hltD := hD.lt
      go_wp2_with fail
      have hb1 : (wr.alloc (.cells #[.int .u8 x] 5)).heap[wr.heap.size]? = some (.cells (([x] : List Int).map (Value.int .u8)).toArray 5 (0, 0)) := alloc_at rfl _
      refine (write_c (hD.keep0 ((Fr.refl _ _).alloc _)) k _ 1 [x] 1 (BytesAt.of_block hb1) (by intro _ ad e; cases e; simp; omega)).mono ?_
      rintro e w4 ⟨rfl, h4, hf4⟩
      rw [HM.out.1]
      clear hb1
      have hcell4 : w4.cell? (ad.add j) = some (.int .u8 x) := by
        have hb : (ad.add j).block = ad.block := by unfold Addr.add; split <;> rfl
        have hl : ad.block < wr.heap.size := by omega
        rw [World.cell?_of_block (w := wr.alloc (.cells #[.int .u8 x] 5)) (hf4.block _ (by rw [hb]; simp; omega) (by rw [hb]; rintro (h' | h' | h') <;> omega))]
        rw [World.cell?_of_block (w := wr) (Below.heap_alloc _ _ _ (by rw [hb]; omega))]
        exact hcell
      have z4 := hf4.size
      simp at z4
      go_wp2_with fail
      have hb2 : (w4.alloc (.cells #[.int .u8 x] 5)).heap[w4.heap.size]? = some (.cells (([x] : List Int).map (Value.int .u8)).toArray 5 (0, 0)) := alloc_at rfl _
      refine (write_c (h4.keep0 ((Fr.refl _ _).alloc _)) o _ 1 [x] 1 (BytesAt.of_block hb2) (by intro _ ad e; cases e; simp; omega)).mono ?_
      rintro e w5 ⟨rfl, h5, hf5⟩
      rw [HM.out.2.1]
      clear hb2
      go_wp2_with fail
      go_roundg (n - (j + 1))
      case measure => omega
      case rel =>
        refine ⟨j + 1, by omega, rfl, by first | rfl | (go_num), ⟨⟨_, h5, ?_⟩, ?_⟩⟩
        · have hT2 := HM.out.2.2
          rw [show j + 1 - 1 = j by omega, HX.out]
          simpa using hT2
        · have k1 : Fr (Dv db lb mb) w2 (wr.alloc (.cells #[.int .u8 x] 5)) := hfr.alloc _
          have k2 := (k1.trans hf4 (fun _ e => .inl e)).alloc (.cells #[.int .u8 x] 5)
          exact k2.trans hf5 (fun _ e => .inl e)
    · have hjn : j = n := by omega
      subst hjn
      have hpos : decide (0 < j) = true := by simp; omega
      rw [show (decide (0 < j)) = true from hpos] at HT
      clear hpos
      generalize hp : pad64 [xs.getD (j - 1) 0] = p at *
      have HP := Lib.hid hp
      clear hp
      have hD0 := HT.out.gone
      obtain ⟨xl, hxl⟩ : ∃ xl, xs[j - 1]? = some xl := ⟨xs[j - 1]'(by rw [HLEN.out]; omega), List.getElem?_eq_getElem _⟩
      have hp0 : p[0]? = some xl := by
        rw [← HP.out]
        have : xs.getD (j - 1) 0 = xl := by simp [List.getD, hxl]
        rw [this]
        exact pad64_head xl
      have HXL := Lib.hid hp0
      have hl8 : D.laid.length = 8 := by rw [HT.out.laid]; simp [Dev.new]
      have hb0 : D.budget ≠ 0 := by rw [HT.out.budget]; decide
      have HL8 := Lib.hid hl8
      obtain ⟨hfl1, hfl2⟩ := Dev.flush_ok hD0 hb0
      have HFL1 := Lib.hid hfl1
      have HFL2 := Lib.hid hfl2
      have hD1g : D.spend.lay.gone = false := Dev.spend_gone hD0 hb0
      have hatL : D.spend.lay.at k = p := by
        rw [Dev.lay_at (by rw [Dev.spend_laid, hl8]; exact hk8), Dev.spend_at]; exact HT.out.at_ hk8
      have hcr : (D.spend.lay.crash []).at k = p := by
        rw [Dev.crash_nil_at, Dev.lay_laid]
        have hkk : k < D.spend.laid.length := by rw [Dev.spend_laid, hl8]; exact hk8
        have : ((List.range D.spend.laid.length).map D.spend.at).getD k [] = D.spend.at k := by simp [List.getD, hkk]
        rw [this, Dev.spend_at]; exact HT.out.at_ hk8
      have HCR := Lib.hid hcr
      have HAT := Lib.hid (HT.out.at_ hk8)
      obtain ⟨m, hm⟩ : ∃ m, m = (if o = k then 1 else 2) := ⟨_, rfl⟩
      have hcnt : D.cachedI.length = m := by rw [hm]; exact HT.out.cached hk8 ho8
      have HCNT := Lib.hid hcnt
      have HM := Lib.hid hm
      have HXX := Lib.hid hxl
      clear hp0 hl8 hb0 hfl1 hfl2 hatL hcr hcnt hm hxl
      go_wp2_with fail
      refine (cached_c hD).mono ?_
      rintro e w6 ⟨B6, c6, rfl, hV6, hc6, hB6, hf6⟩
      rw [HCNT.out]
      by_cases hok : o = k
      · have hm1 : m = 1 := by rw [HM.out, if_pos hok]
        have hok' : ((o : Int) == (k : Int)) = true := by simp [hok]
        subst hm1
        go_wp2_with fail
        refine (read_c (hD.keep0 hf6) hD0 k (by rw [HL8.out]; exact hk8)).mono ?_
        rintro e w7 ⟨b7, t7, rfl, hn7, hb7, hf7⟩
        rw [HAT.out] at hb7
        have HB7 := Lib.hid hb7
        clear hb7
        go_wp2_with fail
        refine (flush_c ((hD.keep0 hf6).keep0 hf7)).mono ?_
        rintro e w8 ⟨rfl, h8, hf8⟩
        rw [HFL1.out]
        rw [HFL2.out] at h8
        go_wp2_with fail
        refine (cached_c h8).mono ?_
        rintro e w9 ⟨B9, c9, rfl, hV9, hc9, hB9, hf9⟩
        rw [Dev.lay_cached]
        go_wp2_with fail
        refine (crash_c (h8.keep0 hf9) none 0 [] 0 rfl ⟨fun h => by simp at h⟩ (by intro ad e; cases e) (by decide)).mono ?_
        rintro e w10 ⟨rfl, h10, hf10⟩
        go_wp2_with fail
        refine (read_c h10 rfl k (by rw [Dev.crash_nil_len, Dev.lay_len, Dev.spend_laid, HL8.out]; exact hk8)).mono ?_
        rintro e w11 ⟨b9, t11, rfl, hn11, hb11, hf11⟩
        rw [HCR.out] at hb11
        go_wp2_with fail
        have hall : Fr F0 w w11 := by
          have k1 : Fr F0 w w2 := hf1.then0 hf2
          have k2 := k1.trans hfr (S := F0) (by intro i hi; refine .inr ?_; rcases hi with h' | h' | h' <;> omega)
          have k3 := ((k2.then0 hf6).then0 hf7).trans hf8 (S := F0) (by intro i hi; refine .inr ?_; rcases hi with h' | h' | h' <;> omega)
          exact ((k3.then0 hf9).trans hf10 (S := F0) (by intro i hi; refine .inr ?_; rcases hi with h' | h' | h' <;> omega)).then0 hf11
        have HF := Lib.hid hall
        have HB9 := Lib.hid hb11
        have hnv : ¬ Dv db lb mb b7 := by
          have := hD.lt
          have := hf6.size
          rintro (h' | h' | h') <;> omega
        have HB7' := Lib.hid (hf11.keep0 (hf10.keep (hf9.keep0 (hf8.keep HB7.out hnv)) hnv))
        have hA11 := hA.keep0 hall
        have hcellL : ∀ wx, Fr F0 w11 wx → wx.cell? (ad.add (j - 1)) = some (.int .u8 xl) := by
          intro wx hG
          obtain ⟨ad', e, hc⟩ := (hA11.keep0 hG).cells (by omega)
          cases e
          exact hc (j - 1) _ (by simp [HXX.out])
        have HCL := Lib.hid hcellL
        have hj1 : (1 : Int) ≤ (j : Int) := by omega
        have hjx : ((j : Int) - 1).toNat = j - 1 := by omega
        have hj2 : (0 : Int) ≤ (j : Int) - 1 := by omega
        have hj3 : (j : Int) - 1 < (j : Int) := by omega
        clear hcellL hall hb11 hA11
        refine wp_region_free (S := F0) [false, false, false, false, false, false, true, false, false, false, false, false, false, false, false, false, false, false, false, false, false, false, false, false, false, false, false, false, false, false, false, false, false, false, false, false, false, false, false, false, false, false, false, false, false, false, false, false, false, false, false, false, false, false, false, false, false, false, false, false, false, false, false, false, false, false, false, false, false, false, false, false, false, false, false, false, false, false, false, false, false, false, false, false, false, false, false, false, false, true, true, true, true, true, true, true, true, true, true, true, true, true, true, true, true, true, true, true, true, true, true, true, true, true, true, true, true, true, true, true, true, true, true, true, true, true, true, true, true, true, true, true, true, true, true, true, true, true, true, true, true, true] [.eq (.bool true), .eq (.bool true), .eq (.int .i64 0), .eq (.bool true), .eq (.bool true), .eq (.bool true), .eq (.int .i64 0), .eq (.bool true), .eq (.bool true), .eq (.bool true), .eq (.int .i64 0), .eq (.bool true), .eq (.bool true), .eq (.bool true), .eq (.int .i64 1), .eq (.int .i64 1), .eq (.bool true), .eq (.bool true), .eq (.bool true), .eq (.int .i64 0), .eq (.bool true), .eq (.bool true), .eq (.bool true), .eq (.slice (some ⟨b7, 0, none⟩) 64 64), .eq (.int .i64 64), .eq (.bool true), .eq (.bool true), .eq (.bool true), .eq (.slice (some ⟨b9, 0, none⟩) 64 64), .eq (.int .i64 64), .eq (.bool true), .eq (.bool true), .eq (.bool true), .eq (.slice (some ⟨b7, 0, none⟩) 64 64), .eq (.pointer (some ⟨b7, 0, none⟩)), .eq (.int .u8 xl), .eq (.slice (some ad) j c), .eq (.slice (some ad) j c), .eq (.int .i64 (j : Int)), .eq (.int .i64 ((j : Int) - 1)), .eq (.pointer (some (ad.add (j - 1)))), .eq (.int .u8 xl), .eq (.bool true), .eq (.bool true), .eq (.bool true), .eq (.slice (some ⟨b9, 0, none⟩) 64 64), .eq (.pointer (some ⟨b9, 0, none⟩)), .eq (.int .u8 xl), .eq (.slice (some ⟨b7, 0, none⟩) 64 64), .eq (.pointer (some ⟨b7, 0, none⟩)), .eq (.int .u8 xl), .eq (.bool true), .eq (.bool true), .eq (.bool true)] (by kernel_rfl) (by kernel_rfl) (by rfl) (fun us => ?steps) (fun us wz hG hall => ?fin)
        case steps =>
          simp only [fillL, Nat.reduceAdd]
          refine stepsHold.cons (fun wx hG hd K hK => ?_) ?_
          · rw [if_pos (wanted_none rfl)]
            refine wp_value (w2 := wx) (v := .bool true) ?_ (hK _ _ rfl (Fr.refl _ _))
            clear hd hG hK
            go_simp
          refine stepsHold.cons (fun wx hG hd K hK => ?_) ?_
          · have h89 : us 89 = (.bool true) := deps_get hd 0 rfl rfl rfl rfl rfl
            rw [if_pos (wanted_none rfl)]
            refine wp_value (w2 := wx) (v := .bool true) ?_ (hK _ _ rfl (Fr.refl _ _))
            clear hd hG hK
            go_simp
          refine stepsHold.cons (fun wx hG hd K hK => ?_) ?_
          · have h90 : us 90 = (.bool true) := deps_get hd 0 rfl rfl rfl rfl rfl
            rw [if_pos (wanted_yes rfl rfl rfl rfl h90)]
            refine wp_value (w2 := wx) (v := .int .i64 0) ?_ (hK _ _ rfl (Fr.refl _ _))
            clear hd hG hK
            go_simp
          refine stepsHold.cons (fun wx hG hd K hK => ?_) ?_
          · have h91 : us 91 = (.int .i64 0) := deps_get hd 0 rfl rfl rfl rfl rfl
            have h90 : us 90 = (.bool true) := deps_get hd 1 rfl rfl rfl rfl rfl
            rw [if_pos (wanted_yes rfl rfl rfl rfl h90)]
            refine wp_value (w2 := wx) (v := .bool true) ?_ (hK _ _ rfl (Fr.refl _ _))
            clear hd hG hK
            go_simp
          refine stepsHold.cons (fun wx hG hd K hK => ?_) ?_
          · have h90 : us 90 = (.bool true) := deps_get hd 0 rfl rfl rfl rfl rfl
            have h92 : us 92 = (.bool true) := deps_get hd 1 rfl rfl rfl rfl rfl
            rw [if_pos (wanted_none rfl)]
            refine wp_value (w2 := wx) (v := .bool true) ?_ (hK _ _ rfl (Fr.refl _ _))
            clear hd hG hK
            go_simp
          refine stepsHold.cons (fun wx hG hd K hK => ?_) ?_
          · have h93 : us 93 = (.bool true) := deps_get hd 0 rfl rfl rfl rfl rfl
            rw [if_pos (wanted_none rfl)]
            refine wp_value (w2 := wx) (v := .bool true) ?_ (hK _ _ rfl (Fr.refl _ _))
            clear hd hG hK
            go_simp
          refine stepsHold.cons (fun wx hG hd K hK => ?_) ?_
          · have h94 : us 94 = (.bool true) := deps_get hd 0 rfl rfl rfl rfl rfl
            rw [if_pos (wanted_yes rfl rfl rfl rfl h94)]
            refine wp_value (w2 := wx) (v := .int .i64 0) ?_ (hK _ _ rfl (Fr.refl _ _))
            clear hd hG hK
            go_simp
          refine stepsHold.cons (fun wx hG hd K hK => ?_) ?_
          · have h95 : us 95 = (.int .i64 0) := deps_get hd 0 rfl rfl rfl rfl rfl
            have h94 : us 94 = (.bool true) := deps_get hd 1 rfl rfl rfl rfl rfl
            rw [if_pos (wanted_yes rfl rfl rfl rfl h94)]
            refine wp_value (w2 := wx) (v := .bool true) ?_ (hK _ _ rfl (Fr.refl _ _))
            clear hd hG hK
            go_simp
          refine stepsHold.cons (fun wx hG hd K hK => ?_) ?_
          · have h94 : us 94 = (.bool true) := deps_get hd 0 rfl rfl rfl rfl rfl
            have h96 : us 96 = (.bool true) := deps_get hd 1 rfl rfl rfl rfl rfl
            rw [if_pos (wanted_none rfl)]
            refine wp_value (w2 := wx) (v := .bool true) ?_ (hK _ _ rfl (Fr.refl _ _))
            clear hd hG hK
            go_simp
          refine stepsHold.cons (fun wx hG hd K hK => ?_) ?_
          · have h97 : us 97 = (.bool true) := deps_get hd 0 rfl rfl rfl rfl rfl
            rw [if_pos (wanted_none rfl)]
            refine wp_value (w2 := wx) (v := .bool true) ?_ (hK _ _ rfl (Fr.refl _ _))
            clear hd hG hK
            go_simp
          refine stepsHold.cons (fun wx hG hd K hK => ?_) ?_
          · have h98 : us 98 = (.bool true) := deps_get hd 0 rfl rfl rfl rfl rfl
            rw [if_pos (wanted_yes rfl rfl rfl rfl h98)]
            refine wp_value (w2 := wx) (v := .int .i64 0) ?_ (hK _ _ rfl (Fr.refl _ _))
            clear hd hG hK
            go_simp
          refine stepsHold.cons (fun wx hG hd K hK => ?_) ?_
          · have h99 : us 99 = (.int .i64 0) := deps_get hd 0 rfl rfl rfl rfl rfl
            have h98 : us 98 = (.bool true) := deps_get hd 1 rfl rfl rfl rfl rfl
            rw [if_pos (wanted_yes rfl rfl rfl rfl h98)]
            refine wp_value (w2 := wx) (v := .bool true) ?_ (hK _ _ rfl (Fr.refl _ _))
            clear hd hG hK
            go_simp
          refine stepsHold.cons (fun wx hG hd K hK => ?_) ?_
          · have h98 : us 98 = (.bool true) := deps_get hd 0 rfl rfl rfl rfl rfl
            have h100 : us 100 = (.bool true) := deps_get hd 1 rfl rfl rfl rfl rfl
            rw [if_pos (wanted_none rfl)]
            refine wp_value (w2 := wx) (v := .bool true) ?_ (hK _ _ rfl (Fr.refl _ _))
            clear hd hG hK
            go_simp
          refine stepsHold.cons (fun wx hG hd K hK => ?_) ?_
          · have h101 : us 101 = (.bool true) := deps_get hd 0 rfl rfl rfl rfl rfl
            rw [if_pos (wanted_none rfl)]
            refine wp_value (w2 := wx) (v := .bool true) ?_ (hK _ _ rfl (Fr.refl _ _))
            clear hd hG hK
            go_simp
          refine stepsHold.cons (fun wx hG hd K hK => ?_) ?_
          · have h102 : us 102 = (.bool true) := deps_get hd 0 rfl rfl rfl rfl rfl
            rw [if_pos (wanted_yes rfl rfl rfl rfl h102)]
            refine wp_value (w2 := wx) (v := .int .i64 1) ?_ (hK _ _ rfl (Fr.refl _ _))
            clear hd hG hK
            go_simp
          refine stepsHold.cons (fun wx hG hd K hK => ?_) ?_
          · have h102 : us 102 = (.bool true) := deps_get hd 0 rfl rfl rfl rfl rfl
            rw [if_pos (wanted_yes rfl rfl rfl rfl h102)]
            refine wp_value (w2 := wx) (v := .int .i64 1) ?_ (hK _ _ rfl (Fr.refl _ _))
            clear hd hG hK
            go_simp
          refine stepsHold.cons (fun wx hG hd K hK => ?_) ?_
          · have h103 : us 103 = (.int .i64 1) := deps_get hd 0 rfl rfl rfl rfl rfl
            have h104 : us 104 = (.int .i64 1) := deps_get hd 1 rfl rfl rfl rfl rfl
            have h102 : us 102 = (.bool true) := deps_get hd 2 rfl rfl rfl rfl rfl
            rw [if_pos (wanted_yes rfl rfl rfl rfl h102)]
            refine wp_value (w2 := wx) (v := .bool true) ?_ (hK _ _ rfl (Fr.refl _ _))
            clear hd hG hK
            go_simp
          refine stepsHold.cons (fun wx hG hd K hK => ?_) ?_
          · have h102 : us 102 = (.bool true) := deps_get hd 0 rfl rfl rfl rfl rfl
            have h105 : us 105 = (.bool true) := deps_get hd 1 rfl rfl rfl rfl rfl
            rw [if_pos (wanted_none rfl)]
            refine wp_value (w2 := wx) (v := .bool true) ?_ (hK _ _ rfl (Fr.refl _ _))
            clear hd hG hK
            go_simp
          refine stepsHold.cons (fun wx hG hd K hK => ?_) ?_
          · have h106 : us 106 = (.bool true) := deps_get hd 0 rfl rfl rfl rfl rfl
            rw [if_pos (wanted_none rfl)]
            refine wp_value (w2 := wx) (v := .bool true) ?_ (hK _ _ rfl (Fr.refl _ _))
            clear hd hG hK
            go_simp
          refine stepsHold.cons (fun wx hG hd K hK => ?_) ?_
          · have h107 : us 107 = (.bool true) := deps_get hd 0 rfl rfl rfl rfl rfl
            rw [if_pos (wanted_yes rfl rfl rfl rfl h107)]
            refine wp_value (w2 := wx) (v := .int .i64 0) ?_ (hK _ _ rfl (Fr.refl _ _))
            clear hd hG hK
            go_simp
          refine stepsHold.cons (fun wx hG hd K hK => ?_) ?_
          · have h108 : us 108 = (.int .i64 0) := deps_get hd 0 rfl rfl rfl rfl rfl
            have h107 : us 107 = (.bool true) := deps_get hd 1 rfl rfl rfl rfl rfl
            rw [if_pos (wanted_yes rfl rfl rfl rfl h107)]
            refine wp_value (w2 := wx) (v := .bool true) ?_ (hK _ _ rfl (Fr.refl _ _))
            clear hd hG hK
            go_simp
          refine stepsHold.cons (fun wx hG hd K hK => ?_) ?_
          · have h107 : us 107 = (.bool true) := deps_get hd 0 rfl rfl rfl rfl rfl
            have h109 : us 109 = (.bool true) := deps_get hd 1 rfl rfl rfl rfl rfl
            rw [if_pos (wanted_none rfl)]
            refine wp_value (w2 := wx) (v := .bool true) ?_ (hK _ _ rfl (Fr.refl _ _))
            clear hd hG hK
            go_simp
          refine stepsHold.cons (fun wx hG hd K hK => ?_) ?_
          · have h110 : us 110 = (.bool true) := deps_get hd 0 rfl rfl rfl rfl rfl
            rw [if_pos (wanted_none rfl)]
            refine wp_value (w2 := wx) (v := .bool true) ?_ (hK _ _ rfl (Fr.refl _ _))
            clear hd hG hK
            go_simp
          refine stepsHold.cons (fun wx hG hd K hK => ?_) ?_
          · have h111 : us 111 = (.bool true) := deps_get hd 0 rfl rfl rfl rfl rfl
            rw [if_pos (wanted_yes rfl rfl rfl rfl h111)]
            refine wp_value (w2 := wx) (v := .slice (some ⟨b7, 0, none⟩) 64 64) ?_ (hK _ _ rfl (Fr.refl _ _))
            clear hd hG hK
            go_simp
          refine stepsHold.cons (fun wx hG hd K hK => ?_) ?_
          · have h112 : us 112 = (.slice (some ⟨b7, 0, none⟩) 64 64) := deps_get hd 0 rfl rfl rfl rfl rfl
            have h111 : us 111 = (.bool true) := deps_get hd 1 rfl rfl rfl rfl rfl
            rw [if_pos (wanted_yes rfl rfl rfl rfl h111)]
            refine wp_value (w2 := wx) (v := .int .i64 64) ?_ (hK _ _ rfl (Fr.refl _ _))
            clear hd hG hK
            go_simp
          refine stepsHold.cons (fun wx hG hd K hK => ?_) ?_
          · have h113 : us 113 = (.int .i64 64) := deps_get hd 0 rfl rfl rfl rfl rfl
            have h111 : us 111 = (.bool true) := deps_get hd 1 rfl rfl rfl rfl rfl
            rw [if_pos (wanted_yes rfl rfl rfl rfl h111)]
            refine wp_value (w2 := wx) (v := .bool true) ?_ (hK _ _ rfl (Fr.refl _ _))
            clear hd hG hK
            go_simp
          refine stepsHold.cons (fun wx hG hd K hK => ?_) ?_
          · have h111 : us 111 = (.bool true) := deps_get hd 0 rfl rfl rfl rfl rfl
            have h114 : us 114 = (.bool true) := deps_get hd 1 rfl rfl rfl rfl rfl
            rw [if_pos (wanted_none rfl)]
            refine wp_value (w2 := wx) (v := .bool true) ?_ (hK _ _ rfl (Fr.refl _ _))
            clear hd hG hK
            go_simp
          refine stepsHold.cons (fun wx hG hd K hK => ?_) ?_
          · have h115 : us 115 = (.bool true) := deps_get hd 0 rfl rfl rfl rfl rfl
            rw [if_pos (wanted_none rfl)]
            refine wp_value (w2 := wx) (v := .bool true) ?_ (hK _ _ rfl (Fr.refl _ _))
            clear hd hG hK
            go_simp
          refine stepsHold.cons (fun wx hG hd K hK => ?_) ?_
          · have h116 : us 116 = (.bool true) := deps_get hd 0 rfl rfl rfl rfl rfl
            rw [if_pos (wanted_yes rfl rfl rfl rfl h116)]
            refine wp_value (w2 := wx) (v := .slice (some ⟨b9, 0, none⟩) 64 64) ?_ (hK _ _ rfl (Fr.refl _ _))
            clear hd hG hK
            go_simp
          refine stepsHold.cons (fun wx hG hd K hK => ?_) ?_
          · have h117 : us 117 = (.slice (some ⟨b9, 0, none⟩) 64 64) := deps_get hd 0 rfl rfl rfl rfl rfl
            have h116 : us 116 = (.bool true) := deps_get hd 1 rfl rfl rfl rfl rfl
            rw [if_pos (wanted_yes rfl rfl rfl rfl h116)]
            refine wp_value (w2 := wx) (v := .int .i64 64) ?_ (hK _ _ rfl (Fr.refl _ _))
            clear hd hG hK
            go_simp
          refine stepsHold.cons (fun wx hG hd K hK => ?_) ?_
          · have h118 : us 118 = (.int .i64 64) := deps_get hd 0 rfl rfl rfl rfl rfl
            have h116 : us 116 = (.bool true) := deps_get hd 1 rfl rfl rfl rfl rfl
            rw [if_pos (wanted_yes rfl rfl rfl rfl h116)]
            refine wp_value (w2 := wx) (v := .bool true) ?_ (hK _ _ rfl (Fr.refl _ _))
            clear hd hG hK
            go_simp
          refine stepsHold.cons (fun wx hG hd K hK => ?_) ?_
          · have h116 : us 116 = (.bool true) := deps_get hd 0 rfl rfl rfl rfl rfl
            have h119 : us 119 = (.bool true) := deps_get hd 1 rfl rfl rfl rfl rfl
            rw [if_pos (wanted_none rfl)]
            refine wp_value (w2 := wx) (v := .bool true) ?_ (hK _ _ rfl (Fr.refl _ _))
            clear hd hG hK
            go_simp
          refine stepsHold.cons (fun wx hG hd K hK => ?_) ?_
          · have h120 : us 120 = (.bool true) := deps_get hd 0 rfl rfl rfl rfl rfl
            rw [if_pos (wanted_none rfl)]
            refine wp_value (w2 := wx) (v := .bool true) ?_ (hK _ _ rfl (Fr.refl _ _))
            clear hd hG hK
            go_simp
          refine stepsHold.cons (fun wx hG hd K hK => ?_) ?_
          · have h121 : us 121 = (.bool true) := deps_get hd 0 rfl rfl rfl rfl rfl
            rw [if_pos (wanted_yes rfl rfl rfl rfl h121)]
            refine wp_value (w2 := wx) (v := .slice (some ⟨b7, 0, none⟩) 64 64) ?_ (hK _ _ rfl (Fr.refl _ _))
            clear hd hG hK
            go_simp
          refine stepsHold.cons (fun wx hG hd K hK => ?_) ?_
          · have h122 : us 122 = (.slice (some ⟨b7, 0, none⟩) 64 64) := deps_get hd 0 rfl rfl rfl rfl rfl
            have h121 : us 121 = (.bool true) := deps_get hd 1 rfl rfl rfl rfl rfl
            rw [if_pos (wanted_yes rfl rfl rfl rfl h121)]
            refine wp_value (w2 := wx) (v := .pointer (some ⟨b7, 0, none⟩)) ?_ (hK _ _ rfl (Fr.refl _ _))
            clear hd hG hK
            go_simp
          refine stepsHold.cons (fun wx hG hd K hK => ?_) ?_
          · have h123 : us 123 = (.pointer (some ⟨b7, 0, none⟩)) := deps_get hd 0 rfl rfl rfl rfl rfl
            have h121 : us 121 = (.bool true) := deps_get hd 1 rfl rfl rfl rfl rfl
            rw [if_pos (wanted_yes rfl rfl rfl rfl h121)]
            have hc := sec_cell (hG.keep0 HB7'.out) 0 xl HXL.out
            refine wp_value (w2 := wx) (v := .int .u8 xl) ?_ (hK _ _ rfl (Fr.refl _ _))
            clear hd hK hG
            go_simp
          refine stepsHold.cons (fun wx hG hd K hK => ?_) ?_
          · have h121 : us 121 = (.bool true) := deps_get hd 0 rfl rfl rfl rfl rfl
            rw [if_pos (wanted_yes rfl rfl rfl rfl h121)]
            refine wp_value (w2 := wx) (v := .slice (some ad) j c) ?_ (hK _ _ rfl (Fr.refl _ _))
            clear hd hG hK
            go_simp
          refine stepsHold.cons (fun wx hG hd K hK => ?_) ?_
          · have h121 : us 121 = (.bool true) := deps_get hd 0 rfl rfl rfl rfl rfl
            rw [if_pos (wanted_yes rfl rfl rfl rfl h121)]
            refine wp_value (w2 := wx) (v := .slice (some ad) j c) ?_ (hK _ _ rfl (Fr.refl _ _))
            clear hd hG hK
            go_simp
          refine stepsHold.cons (fun wx hG hd K hK => ?_) ?_
          · have h126 : us 126 = (.slice (some ad) j c) := deps_get hd 0 rfl rfl rfl rfl rfl
            have h121 : us 121 = (.bool true) := deps_get hd 1 rfl rfl rfl rfl rfl
            rw [if_pos (wanted_yes rfl rfl rfl rfl h121)]
            refine wp_value (w2 := wx) (v := .int .i64 (j : Int)) ?_ (hK _ _ rfl (Fr.refl _ _))
            clear hd hG hK
            go_simp
          refine stepsHold.cons (fun wx hG hd K hK => ?_) ?_
          · have h127 : us 127 = (.int .i64 (j : Int)) := deps_get hd 0 rfl rfl rfl rfl rfl
            have h121 : us 121 = (.bool true) := deps_get hd 1 rfl rfl rfl rfl rfl
            rw [if_pos (wanted_yes rfl rfl rfl rfl h121)]
            have hwr : IntKind.i64.wrap ((j : Int) - 1) = (j : Int) - 1 := by rw [IntKind.wrap_i64]; omega
            refine wp_value (w2 := wx) (v := .int .i64 ((j : Int) - 1)) ?_ (hK _ _ rfl (Fr.refl _ _))
            clear hd hG hK
            go_simp
          refine stepsHold.cons (fun wx hG hd K hK => ?_) ?_
          · have h125 : us 125 = (.slice (some ad) j c) := deps_get hd 0 rfl rfl rfl rfl rfl
            have h128 : us 128 = (.int .i64 ((j : Int) - 1)) := deps_get hd 1 rfl rfl rfl rfl rfl
            have h121 : us 121 = (.bool true) := deps_get hd 2 rfl rfl rfl rfl rfl
            rw [if_pos (wanted_yes rfl rfl rfl rfl h121)]
            refine wp_value (w2 := wx) (v := .pointer (some (ad.add (j - 1)))) ?_ (hK _ _ rfl (Fr.refl _ _))
            clear hd hG hK
            go_simp
          refine stepsHold.cons (fun wx hG hd K hK => ?_) ?_
          · have h129 : us 129 = (.pointer (some (ad.add (j - 1)))) := deps_get hd 0 rfl rfl rfl rfl rfl
            have h121 : us 121 = (.bool true) := deps_get hd 1 rfl rfl rfl rfl rfl
            rw [if_pos (wanted_yes rfl rfl rfl rfl h121)]
            have hc := HCL.out wx hG
            refine wp_value (w2 := wx) (v := .int .u8 xl) ?_ (hK _ _ rfl (Fr.refl _ _))
            clear hd hK hG
            go_simp
          refine stepsHold.cons (fun wx hG hd K hK => ?_) ?_
          · have h124 : us 124 = (.int .u8 xl) := deps_get hd 0 rfl rfl rfl rfl rfl
            have h130 : us 130 = (.int .u8 xl) := deps_get hd 1 rfl rfl rfl rfl rfl
            have h121 : us 121 = (.bool true) := deps_get hd 2 rfl rfl rfl rfl rfl
            rw [if_pos (wanted_yes rfl rfl rfl rfl h121)]
            refine wp_value (w2 := wx) (v := .bool true) ?_ (hK _ _ rfl (Fr.refl _ _))
            clear hd hG hK
            go_simp
          refine stepsHold.cons (fun wx hG hd K hK => ?_) ?_
          · have h121 : us 121 = (.bool true) := deps_get hd 0 rfl rfl rfl rfl rfl
            have h131 : us 131 = (.bool true) := deps_get hd 1 rfl rfl rfl rfl rfl
            rw [if_pos (wanted_none rfl)]
            refine wp_value (w2 := wx) (v := .bool true) ?_ (hK _ _ rfl (Fr.refl _ _))
            clear hd hG hK
            go_simp
          refine stepsHold.cons (fun wx hG hd K hK => ?_) ?_
          · have h132 : us 132 = (.bool true) := deps_get hd 0 rfl rfl rfl rfl rfl
            rw [if_pos (wanted_none rfl)]
            refine wp_value (w2 := wx) (v := .bool true) ?_ (hK _ _ rfl (Fr.refl _ _))
            clear hd hG hK
            go_simp
          refine stepsHold.cons (fun wx hG hd K hK => ?_) ?_
          · have h133 : us 133 = (.bool true) := deps_get hd 0 rfl rfl rfl rfl rfl
            rw [if_pos (wanted_yes rfl rfl rfl rfl h133)]
            refine wp_value (w2 := wx) (v := .slice (some ⟨b9, 0, none⟩) 64 64) ?_ (hK _ _ rfl (Fr.refl _ _))
            clear hd hG hK
            go_simp
          refine stepsHold.cons (fun wx hG hd K hK => ?_) ?_
          · have h134 : us 134 = (.slice (some ⟨b9, 0, none⟩) 64 64) := deps_get hd 0 rfl rfl rfl rfl rfl
            have h133 : us 133 = (.bool true) := deps_get hd 1 rfl rfl rfl rfl rfl
            rw [if_pos (wanted_yes rfl rfl rfl rfl h133)]
            refine wp_value (w2 := wx) (v := .pointer (some ⟨b9, 0, none⟩)) ?_ (hK _ _ rfl (Fr.refl _ _))
            clear hd hG hK
            go_simp
          refine stepsHold.cons (fun wx hG hd K hK => ?_) ?_
          · have h135 : us 135 = (.pointer (some ⟨b9, 0, none⟩)) := deps_get hd 0 rfl rfl rfl rfl rfl
            have h133 : us 133 = (.bool true) := deps_get hd 1 rfl rfl rfl rfl rfl
            rw [if_pos (wanted_yes rfl rfl rfl rfl h133)]
            have hc := sec_cell (hG.keep0 HB9.out) 0 xl HXL.out
            refine wp_value (w2 := wx) (v := .int .u8 xl) ?_ (hK _ _ rfl (Fr.refl _ _))
            clear hd hK hG
            go_simp
          refine stepsHold.cons (fun wx hG hd K hK => ?_) ?_
          · have h133 : us 133 = (.bool true) := deps_get hd 0 rfl rfl rfl rfl rfl
            rw [if_pos (wanted_yes rfl rfl rfl rfl h133)]
            refine wp_value (w2 := wx) (v := .slice (some ⟨b7, 0, none⟩) 64 64) ?_ (hK _ _ rfl (Fr.refl _ _))
            clear hd hG hK
            go_simp
          refine stepsHold.cons (fun wx hG hd K hK => ?_) ?_
          · have h137 : us 137 = (.slice (some ⟨b7, 0, none⟩) 64 64) := deps_get hd 0 rfl rfl rfl rfl rfl
            have h133 : us 133 = (.bool true) := deps_get hd 1 rfl rfl rfl rfl rfl
            rw [if_pos (wanted_yes rfl rfl rfl rfl h133)]
            refine wp_value (w2 := wx) (v := .pointer (some ⟨b7, 0, none⟩)) ?_ (hK _ _ rfl (Fr.refl _ _))
            clear hd hG hK
            go_simp
          refine stepsHold.cons (fun wx hG hd K hK => ?_) ?_
          · have h138 : us 138 = (.pointer (some ⟨b7, 0, none⟩)) := deps_get hd 0 rfl rfl rfl rfl rfl
            have h133 : us 133 = (.bool true) := deps_get hd 1 rfl rfl rfl rfl rfl
            rw [if_pos (wanted_yes rfl rfl rfl rfl h133)]
            have hc := sec_cell (hG.keep0 HB7'.out) 0 xl HXL.out
            refine wp_value (w2 := wx) (v := .int .u8 xl) ?_ (hK _ _ rfl (Fr.refl _ _))
            clear hd hK hG
            go_simp
          refine stepsHold.cons (fun wx hG hd K hK => ?_) ?_
          · have h136 : us 136 = (.int .u8 xl) := deps_get hd 0 rfl rfl rfl rfl rfl
            have h139 : us 139 = (.int .u8 xl) := deps_get hd 1 rfl rfl rfl rfl rfl
            have h133 : us 133 = (.bool true) := deps_get hd 2 rfl rfl rfl rfl rfl
            rw [if_pos (wanted_yes rfl rfl rfl rfl h133)]
            refine wp_value (w2 := wx) (v := .bool true) ?_ (hK _ _ rfl (Fr.refl _ _))
            clear hd hG hK
            go_simp
          refine stepsHold.cons (fun wx hG hd K hK => ?_) ?_
          · have h133 : us 133 = (.bool true) := deps_get hd 0 rfl rfl rfl rfl rfl
            have h140 : us 140 = (.bool true) := deps_get hd 1 rfl rfl rfl rfl rfl
            rw [if_pos (wanted_none rfl)]
            refine wp_value (w2 := wx) (v := .bool true) ?_ (hK _ _ rfl (Fr.refl _ _))
            clear hd hG hK
            go_simp
          refine stepsHold.cons (fun wx hG hd K hK => ?_) ?_
          · have h141 : us 141 = (.bool true) := deps_get hd 0 rfl rfl rfl rfl rfl
            rw [if_pos (wanted_none rfl)]
            refine wp_value (w2 := wx) (v := .bool true) ?_ (hK _ _ rfl (Fr.refl _ _))
            clear hd hG hK
            go_simp
          exact stepsHold.nil
        case fin =>
          have h89 : us 89 = (.bool true) := all_get hall 0 rfl rfl rfl
          have h90 : us 90 = (.bool true) := all_get hall 1 rfl rfl rfl
          have h91 : us 91 = (.int .i64 0) := all_get hall 2 rfl rfl rfl
          have h92 : us 92 = (.bool true) := all_get hall 3 rfl rfl rfl
          have h93 : us 93 = (.bool true) := all_get hall 4 rfl rfl rfl
          have h94 : us 94 = (.bool true) := all_get hall 5 rfl rfl rfl
          have h95 : us 95 = (.int .i64 0) := all_get hall 6 rfl rfl rfl
          have h96 : us 96 = (.bool true) := all_get hall 7 rfl rfl rfl
          have h97 : us 97 = (.bool true) := all_get hall 8 rfl rfl rfl
          have h98 : us 98 = (.bool true) := all_get hall 9 rfl rfl rfl
          have h99 : us 99 = (.int .i64 0) := all_get hall 10 rfl rfl rfl
          have h100 : us 100 = (.bool true) := all_get hall 11 rfl rfl rfl
          have h101 : us 101 = (.bool true) := all_get hall 12 rfl rfl rfl
          have h102 : us 102 = (.bool true) := all_get hall 13 rfl rfl rfl
          have h103 : us 103 = (.int .i64 1) := all_get hall 14 rfl rfl rfl
          have h104 : us 104 = (.int .i64 1) := all_get hall 15 rfl rfl rfl
          have h105 : us 105 = (.bool true) := all_get hall 16 rfl rfl rfl
          have h106 : us 106 = (.bool true) := all_get hall 17 rfl rfl rfl
          have h107 : us 107 = (.bool true) := all_get hall 18 rfl rfl rfl
          have h108 : us 108 = (.int .i64 0) := all_get hall 19 rfl rfl rfl
          have h109 : us 109 = (.bool true) := all_get hall 20 rfl rfl rfl
          have h110 : us 110 = (.bool true) := all_get hall 21 rfl rfl rfl
          have h111 : us 111 = (.bool true) := all_get hall 22 rfl rfl rfl
          have h112 : us 112 = (.slice (some ⟨b7, 0, none⟩) 64 64) := all_get hall 23 rfl rfl rfl
          have h113 : us 113 = (.int .i64 64) := all_get hall 24 rfl rfl rfl
          have h114 : us 114 = (.bool true) := all_get hall 25 rfl rfl rfl
          have h115 : us 115 = (.bool true) := all_get hall 26 rfl rfl rfl
          have h116 : us 116 = (.bool true) := all_get hall 27 rfl rfl rfl
          have h117 : us 117 = (.slice (some ⟨b9, 0, none⟩) 64 64) := all_get hall 28 rfl rfl rfl
          have h118 : us 118 = (.int .i64 64) := all_get hall 29 rfl rfl rfl
          have h119 : us 119 = (.bool true) := all_get hall 30 rfl rfl rfl
          have h120 : us 120 = (.bool true) := all_get hall 31 rfl rfl rfl
          have h121 : us 121 = (.bool true) := all_get hall 32 rfl rfl rfl
          have h122 : us 122 = (.slice (some ⟨b7, 0, none⟩) 64 64) := all_get hall 33 rfl rfl rfl
          have h123 : us 123 = (.pointer (some ⟨b7, 0, none⟩)) := all_get hall 34 rfl rfl rfl
          have h124 : us 124 = (.int .u8 xl) := all_get hall 35 rfl rfl rfl
          have h125 : us 125 = (.slice (some ad) j c) := all_get hall 36 rfl rfl rfl
          have h126 : us 126 = (.slice (some ad) j c) := all_get hall 37 rfl rfl rfl
          have h127 : us 127 = (.int .i64 (j : Int)) := all_get hall 38 rfl rfl rfl
          have h128 : us 128 = (.int .i64 ((j : Int) - 1)) := all_get hall 39 rfl rfl rfl
          have h129 : us 129 = (.pointer (some (ad.add (j - 1)))) := all_get hall 40 rfl rfl rfl
          have h130 : us 130 = (.int .u8 xl) := all_get hall 41 rfl rfl rfl
          have h131 : us 131 = (.bool true) := all_get hall 42 rfl rfl rfl
          have h132 : us 132 = (.bool true) := all_get hall 43 rfl rfl rfl
          have h133 : us 133 = (.bool true) := all_get hall 44 rfl rfl rfl
          have h134 : us 134 = (.slice (some ⟨b9, 0, none⟩) 64 64) := all_get hall 45 rfl rfl rfl
          have h135 : us 135 = (.pointer (some ⟨b9, 0, none⟩)) := all_get hall 46 rfl rfl rfl
          have h136 : us 136 = (.int .u8 xl) := all_get hall 47 rfl rfl rfl
          have h137 : us 137 = (.slice (some ⟨b7, 0, none⟩) 64 64) := all_get hall 48 rfl rfl rfl
          have h138 : us 138 = (.pointer (some ⟨b7, 0, none⟩)) := all_get hall 49 rfl rfl rfl
          have h139 : us 139 = (.int .u8 xl) := all_get hall 50 rfl rfl rfl
          have h140 : us 140 = (.bool true) := all_get hall 51 rfl rfl rfl
          have h141 : us 141 = (.bool true) := all_get hall 52 rfl rfl rfl
          have h6 : us 6 = (.bool true) := all_get hall 53 rfl rfl rfl
          simp only [fillL, Nat.reduceAdd]
          clear hall
          simp only [h89, h90, h91, h92, h93, h94, h95, h96, h97, h98, h99, h100, h101, h102, h103, h104, h105, h106, h107, h108, h109, h110, h111, h112, h113, h114, h115, h116, h117, h118, h119, h120, h121, h122, h123, h124, h125, h126, h127, h128, h129, h130, h131, h132, h133, h134, h135, h136, h137, h138, h139, h140, h141, h6]
          clear h89 h90 h91 h92 h93 h94 h95 h96 h97 h98 h99 h100 h101 h102 h103 h104 h105 h106 h107 h108 h109 h110 h111 h112 h113 h114 h115 h116 h117 h118 h119 h120 h121 h122 h123 h124 h125 h126 h127 h128 h129 h130 h131 h132 h133 h134 h135 h136 h137 h138 h139 h140 h141 h6
          go_wp2
          go_ret
          exact ⟨rfl, HF.out.then0 hG⟩
      · have hm1 : m = 2 := by rw [HM.out, if_neg hok]
        have hok' : ((o : Int) == (k : Int)) = false := by rw [beq_eq_false_iff_ne]; omega
        subst hm1
        go_wp2_with fail
        refine (read_c (hD.keep0 hf6) hD0 k (by rw [HL8.out]; exact hk8)).mono ?_
        rintro e w7 ⟨b7, t7, rfl, hn7, hb7, hf7⟩
        rw [HAT.out] at hb7
        have HB7 := Lib.hid hb7
        clear hb7
        go_wp2_with fail
        refine (flush_c ((hD.keep0 hf6).keep0 hf7)).mono ?_
        rintro e w8 ⟨rfl, h8, hf8⟩
        rw [HFL1.out]
        rw [HFL2.out] at h8
        go_wp2_with fail
        refine (cached_c h8).mono ?_
        rintro e w9 ⟨B9, c9, rfl, hV9, hc9, hB9, hf9⟩
        rw [Dev.lay_cached]
        go_wp2_with fail
        refine (crash_c (h8.keep0 hf9) none 0 [] 0 rfl ⟨fun h => by simp at h⟩ (by intro ad e; cases e) (by decide)).mono ?_
        rintro e w10 ⟨rfl, h10, hf10⟩
        go_wp2_with fail
        refine (read_c h10 rfl k (by rw [Dev.crash_nil_len, Dev.lay_len, Dev.spend_laid, HL8.out]; exact hk8)).mono ?_
        rintro e w11 ⟨b9, t11, rfl, hn11, hb11, hf11⟩
        rw [HCR.out] at hb11
        go_wp2_with fail
        have hall : Fr F0 w w11 := by
          have k1 : Fr F0 w w2 := hf1.then0 hf2
          have k2 := k1.trans hfr (S := F0) (by intro i hi; refine .inr ?_; rcases hi with h' | h' | h' <;> omega)
          have k3 := ((k2.then0 hf6).then0 hf7).trans hf8 (S := F0) (by intro i hi; refine .inr ?_; rcases hi with h' | h' | h' <;> omega)
          exact ((k3.then0 hf9).trans hf10 (S := F0) (by intro i hi; refine .inr ?_; rcases hi with h' | h' | h' <;> omega)).then0 hf11
        have HF := Lib.hid hall
        have HB9 := Lib.hid hb11
        have hnv : ¬ Dv db lb mb b7 := by
          have := hD.lt
          have := hf6.size
          rintro (h' | h' | h') <;> omega
        have HB7' := Lib.hid (hf11.keep0 (hf10.keep (hf9.keep0 (hf8.keep HB7.out hnv)) hnv))
        have hA11 := hA.keep0 hall
        have hcellL : ∀ wx, Fr F0 w11 wx → wx.cell? (ad.add (j - 1)) = some (.int .u8 xl) := by
          intro wx hG
          obtain ⟨ad', e, hc⟩ := (hA11.keep0 hG).cells (by omega)
          cases e
          exact hc (j - 1) _ (by simp [HXX.out])
        have HCL := Lib.hid hcellL
        have hj1 : (1 : Int) ≤ (j : Int) := by omega
        have hjx : ((j : Int) - 1).toNat = j - 1 := by omega
        have hj2 : (0 : Int) ≤ (j : Int) - 1 := by omega
        have hj3 : (j : Int) - 1 < (j : Int) := by omega
        clear hcellL hall hb11 hA11
        refine wp_region_free (S := F0) [false, false, false, false, false, false, true, false, false, false, false, false, false, false, false, false, false, false, false, false, false, false, false, false, false, false, false, false, false, false, false, false, false, false, false, false, false, false, false, false, false, false, false, false, false, false, false, false, false, false, false, false, false, false, false, false, false, false, false, false, false, false, false, false, false, false, false, false, false, false, false, false, false, false, false, false, false, false, false, false, false, false, false, false, false, false, false, false, false, true, true, true, true, true, true, true, true, true, true, true, true, true, true, true, true, true, true, true, true, true, true, true, true, true, true, true, true, true, true, true, true, true, true, true, true, true, true, true, true, true, true, true, true, true, true, true, true, true, true, true, true, true] [.eq (.bool true), .eq (.bool true), .eq (.int .i64 0), .eq (.bool true), .eq (.bool true), .eq (.bool true), .eq (.int .i64 0), .eq (.bool true), .eq (.bool true), .eq (.bool true), .eq (.int .i64 0), .eq (.bool true), .eq (.bool true), .eq (.bool true), .eq (.int .i64 2), .eq (.int .i64 2), .eq (.bool true), .eq (.bool true), .eq (.bool true), .eq (.int .i64 0), .eq (.bool true), .eq (.bool true), .eq (.bool true), .eq (.slice (some ⟨b7, 0, none⟩) 64 64), .eq (.int .i64 64), .eq (.bool true), .eq (.bool true), .eq (.bool true), .eq (.slice (some ⟨b9, 0, none⟩) 64 64), .eq (.int .i64 64), .eq (.bool true), .eq (.bool true), .eq (.bool true), .eq (.slice (some ⟨b7, 0, none⟩) 64 64), .eq (.pointer (some ⟨b7, 0, none⟩)), .eq (.int .u8 xl), .eq (.slice (some ad) j c), .eq (.slice (some ad) j c), .eq (.int .i64 (j : Int)), .eq (.int .i64 ((j : Int) - 1)), .eq (.pointer (some (ad.add (j - 1)))), .eq (.int .u8 xl), .eq (.bool true), .eq (.bool true), .eq (.bool true), .eq (.slice (some ⟨b9, 0, none⟩) 64 64), .eq (.pointer (some ⟨b9, 0, none⟩)), .eq (.int .u8 xl), .eq (.slice (some ⟨b7, 0, none⟩) 64 64), .eq (.pointer (some ⟨b7, 0, none⟩)), .eq (.int .u8 xl), .eq (.bool true), .eq (.bool true), .eq (.bool true)] (by kernel_rfl) (by kernel_rfl) (by rfl) (fun us => ?steps) (fun us wz hG hall => ?fin)
        case steps =>
          simp only [fillL, Nat.reduceAdd]
          refine stepsHold.cons (fun wx hG hd K hK => ?_) ?_
          · rw [if_pos (wanted_none rfl)]
            refine wp_value (w2 := wx) (v := .bool true) ?_ (hK _ _ rfl (Fr.refl _ _))
            clear hd hG hK
            go_simp
          refine stepsHold.cons (fun wx hG hd K hK => ?_) ?_
          · have h89 : us 89 = (.bool true) := deps_get hd 0 rfl rfl rfl rfl rfl
            rw [if_pos (wanted_none rfl)]
            refine wp_value (w2 := wx) (v := .bool true) ?_ (hK _ _ rfl (Fr.refl _ _))
            clear hd hG hK
            go_simp
          refine stepsHold.cons (fun wx hG hd K hK => ?_) ?_
          · have h90 : us 90 = (.bool true) := deps_get hd 0 rfl rfl rfl rfl rfl
            rw [if_pos (wanted_yes rfl rfl rfl rfl h90)]
            refine wp_value (w2 := wx) (v := .int .i64 0) ?_ (hK _ _ rfl (Fr.refl _ _))
            clear hd hG hK
            go_simp
          refine stepsHold.cons (fun wx hG hd K hK => ?_) ?_
          · have h91 : us 91 = (.int .i64 0) := deps_get hd 0 rfl rfl rfl rfl rfl
            have h90 : us 90 = (.bool true) := deps_get hd 1 rfl rfl rfl rfl rfl
            rw [if_pos (wanted_yes rfl rfl rfl rfl h90)]
            refine wp_value (w2 := wx) (v := .bool true) ?_ (hK _ _ rfl (Fr.refl _ _))
            clear hd hG hK
            go_simp
          refine stepsHold.cons (fun wx hG hd K hK => ?_) ?_
          · have h90 : us 90 = (.bool true) := deps_get hd 0 rfl rfl rfl rfl rfl
            have h92 : us 92 = (.bool true) := deps_get hd 1 rfl rfl rfl rfl rfl
            rw [if_pos (wanted_none rfl)]
            refine wp_value (w2 := wx) (v := .bool true) ?_ (hK _ _ rfl (Fr.refl _ _))
            clear hd hG hK
            go_simp
          refine stepsHold.cons (fun wx hG hd K hK => ?_) ?_
          · have h93 : us 93 = (.bool true) := deps_get hd 0 rfl rfl rfl rfl rfl
            rw [if_pos (wanted_none rfl)]
            refine wp_value (w2 := wx) (v := .bool true) ?_ (hK _ _ rfl (Fr.refl _ _))
            clear hd hG hK
            go_simp
          refine stepsHold.cons (fun wx hG hd K hK => ?_) ?_
          · have h94 : us 94 = (.bool true) := deps_get hd 0 rfl rfl rfl rfl rfl
            rw [if_pos (wanted_yes rfl rfl rfl rfl h94)]
            refine wp_value (w2 := wx) (v := .int .i64 0) ?_ (hK _ _ rfl (Fr.refl _ _))
            clear hd hG hK
            go_simp
          refine stepsHold.cons (fun wx hG hd K hK => ?_) ?_
          · have h95 : us 95 = (.int .i64 0) := deps_get hd 0 rfl rfl rfl rfl rfl
            have h94 : us 94 = (.bool true) := deps_get hd 1 rfl rfl rfl rfl rfl
            rw [if_pos (wanted_yes rfl rfl rfl rfl h94)]
            refine wp_value (w2 := wx) (v := .bool true) ?_ (hK _ _ rfl (Fr.refl _ _))
            clear hd hG hK
            go_simp
          refine stepsHold.cons (fun wx hG hd K hK => ?_) ?_
          · have h94 : us 94 = (.bool true) := deps_get hd 0 rfl rfl rfl rfl rfl
            have h96 : us 96 = (.bool true) := deps_get hd 1 rfl rfl rfl rfl rfl
            rw [if_pos (wanted_none rfl)]
            refine wp_value (w2 := wx) (v := .bool true) ?_ (hK _ _ rfl (Fr.refl _ _))
            clear hd hG hK
            go_simp
          refine stepsHold.cons (fun wx hG hd K hK => ?_) ?_
          · have h97 : us 97 = (.bool true) := deps_get hd 0 rfl rfl rfl rfl rfl
            rw [if_pos (wanted_none rfl)]
            refine wp_value (w2 := wx) (v := .bool true) ?_ (hK _ _ rfl (Fr.refl _ _))
            clear hd hG hK
            go_simp
          refine stepsHold.cons (fun wx hG hd K hK => ?_) ?_
          · have h98 : us 98 = (.bool true) := deps_get hd 0 rfl rfl rfl rfl rfl
            rw [if_pos (wanted_yes rfl rfl rfl rfl h98)]
            refine wp_value (w2 := wx) (v := .int .i64 0) ?_ (hK _ _ rfl (Fr.refl _ _))
            clear hd hG hK
            go_simp
          refine stepsHold.cons (fun wx hG hd K hK => ?_) ?_
          · have h99 : us 99 = (.int .i64 0) := deps_get hd 0 rfl rfl rfl rfl rfl
            have h98 : us 98 = (.bool true) := deps_get hd 1 rfl rfl rfl rfl rfl
            rw [if_pos (wanted_yes rfl rfl rfl rfl h98)]
            refine wp_value (w2 := wx) (v := .bool true) ?_ (hK _ _ rfl (Fr.refl _ _))
            clear hd hG hK
            go_simp
          refine stepsHold.cons (fun wx hG hd K hK => ?_) ?_
          · have h98 : us 98 = (.bool true) := deps_get hd 0 rfl rfl rfl rfl rfl
            have h100 : us 100 = (.bool true) := deps_get hd 1 rfl rfl rfl rfl rfl
            rw [if_pos (wanted_none rfl)]
            refine wp_value (w2 := wx) (v := .bool true) ?_ (hK _ _ rfl (Fr.refl _ _))
            clear hd hG hK
            go_simp
          refine stepsHold.cons (fun wx hG hd K hK => ?_) ?_
          · have h101 : us 101 = (.bool true) := deps_get hd 0 rfl rfl rfl rfl rfl
            rw [if_pos (wanted_none rfl)]
            refine wp_value (w2 := wx) (v := .bool true) ?_ (hK _ _ rfl (Fr.refl _ _))
            clear hd hG hK
            go_simp
          refine stepsHold.cons (fun wx hG hd K hK => ?_) ?_
          · have h102 : us 102 = (.bool true) := deps_get hd 0 rfl rfl rfl rfl rfl
            rw [if_pos (wanted_yes rfl rfl rfl rfl h102)]
            refine wp_value (w2 := wx) (v := .int .i64 2) ?_ (hK _ _ rfl (Fr.refl _ _))
            clear hd hG hK
            go_simp
          refine stepsHold.cons (fun wx hG hd K hK => ?_) ?_
          · have h102 : us 102 = (.bool true) := deps_get hd 0 rfl rfl rfl rfl rfl
            rw [if_pos (wanted_yes rfl rfl rfl rfl h102)]
            refine wp_value (w2 := wx) (v := .int .i64 2) ?_ (hK _ _ rfl (Fr.refl _ _))
            clear hd hG hK
            go_simp
          refine stepsHold.cons (fun wx hG hd K hK => ?_) ?_
          · have h103 : us 103 = (.int .i64 2) := deps_get hd 0 rfl rfl rfl rfl rfl
            have h104 : us 104 = (.int .i64 2) := deps_get hd 1 rfl rfl rfl rfl rfl
            have h102 : us 102 = (.bool true) := deps_get hd 2 rfl rfl rfl rfl rfl
            rw [if_pos (wanted_yes rfl rfl rfl rfl h102)]
            refine wp_value (w2 := wx) (v := .bool true) ?_ (hK _ _ rfl (Fr.refl _ _))
            clear hd hG hK
            go_simp
          refine stepsHold.cons (fun wx hG hd K hK => ?_) ?_
          · have h102 : us 102 = (.bool true) := deps_get hd 0 rfl rfl rfl rfl rfl
            have h105 : us 105 = (.bool true) := deps_get hd 1 rfl rfl rfl rfl rfl
            rw [if_pos (wanted_none rfl)]
            refine wp_value (w2 := wx) (v := .bool true) ?_ (hK _ _ rfl (Fr.refl _ _))
            clear hd hG hK
            go_simp
          refine stepsHold.cons (fun wx hG hd K hK => ?_) ?_
          · have h106 : us 106 = (.bool true) := deps_get hd 0 rfl rfl rfl rfl rfl
            rw [if_pos (wanted_none rfl)]
            refine wp_value (w2 := wx) (v := .bool true) ?_ (hK _ _ rfl (Fr.refl _ _))
            clear hd hG hK
            go_simp
          refine stepsHold.cons (fun wx hG hd K hK => ?_) ?_
          · have h107 : us 107 = (.bool true) := deps_get hd 0 rfl rfl rfl rfl rfl
            rw [if_pos (wanted_yes rfl rfl rfl rfl h107)]
            refine wp_value (w2 := wx) (v := .int .i64 0) ?_ (hK _ _ rfl (Fr.refl _ _))
            clear hd hG hK
            go_simp
          refine stepsHold.cons (fun wx hG hd K hK => ?_) ?_
          · have h108 : us 108 = (.int .i64 0) := deps_get hd 0 rfl rfl rfl rfl rfl
            have h107 : us 107 = (.bool true) := deps_get hd 1 rfl rfl rfl rfl rfl
            rw [if_pos (wanted_yes rfl rfl rfl rfl h107)]
            refine wp_value (w2 := wx) (v := .bool true) ?_ (hK _ _ rfl (Fr.refl _ _))
            clear hd hG hK
            go_simp
          refine stepsHold.cons (fun wx hG hd K hK => ?_) ?_
          · have h107 : us 107 = (.bool true) := deps_get hd 0 rfl rfl rfl rfl rfl
            have h109 : us 109 = (.bool true) := deps_get hd 1 rfl rfl rfl rfl rfl
            rw [if_pos (wanted_none rfl)]
            refine wp_value (w2 := wx) (v := .bool true) ?_ (hK _ _ rfl (Fr.refl _ _))
            clear hd hG hK
            go_simp
          refine stepsHold.cons (fun wx hG hd K hK => ?_) ?_
          · have h110 : us 110 = (.bool true) := deps_get hd 0 rfl rfl rfl rfl rfl
            rw [if_pos (wanted_none rfl)]
            refine wp_value (w2 := wx) (v := .bool true) ?_ (hK _ _ rfl (Fr.refl _ _))
            clear hd hG hK
            go_simp
          refine stepsHold.cons (fun wx hG hd K hK => ?_) ?_
          · have h111 : us 111 = (.bool true) := deps_get hd 0 rfl rfl rfl rfl rfl
            rw [if_pos (wanted_yes rfl rfl rfl rfl h111)]
            refine wp_value (w2 := wx) (v := .slice (some ⟨b7, 0, none⟩) 64 64) ?_ (hK _ _ rfl (Fr.refl _ _))
            clear hd hG hK
            go_simp
          refine stepsHold.cons (fun wx hG hd K hK => ?_) ?_
          · have h112 : us 112 = (.slice (some ⟨b7, 0, none⟩) 64 64) := deps_get hd 0 rfl rfl rfl rfl rfl
            have h111 : us 111 = (.bool true) := deps_get hd 1 rfl rfl rfl rfl rfl
            rw [if_pos (wanted_yes rfl rfl rfl rfl h111)]
            refine wp_value (w2 := wx) (v := .int .i64 64) ?_ (hK _ _ rfl (Fr.refl _ _))
            clear hd hG hK
            go_simp
          refine stepsHold.cons (fun wx hG hd K hK => ?_) ?_
          · have h113 : us 113 = (.int .i64 64) := deps_get hd 0 rfl rfl rfl rfl rfl
            have h111 : us 111 = (.bool true) := deps_get hd 1 rfl rfl rfl rfl rfl
            rw [if_pos (wanted_yes rfl rfl rfl rfl h111)]
            refine wp_value (w2 := wx) (v := .bool true) ?_ (hK _ _ rfl (Fr.refl _ _))
            clear hd hG hK
            go_simp
          refine stepsHold.cons (fun wx hG hd K hK => ?_) ?_
          · have h111 : us 111 = (.bool true) := deps_get hd 0 rfl rfl rfl rfl rfl
            have h114 : us 114 = (.bool true) := deps_get hd 1 rfl rfl rfl rfl rfl
            rw [if_pos (wanted_none rfl)]
            refine wp_value (w2 := wx) (v := .bool true) ?_ (hK _ _ rfl (Fr.refl _ _))
            clear hd hG hK
            go_simp
          refine stepsHold.cons (fun wx hG hd K hK => ?_) ?_
          · have h115 : us 115 = (.bool true) := deps_get hd 0 rfl rfl rfl rfl rfl
            rw [if_pos (wanted_none rfl)]
            refine wp_value (w2 := wx) (v := .bool true) ?_ (hK _ _ rfl (Fr.refl _ _))
            clear hd hG hK
            go_simp
          refine stepsHold.cons (fun wx hG hd K hK => ?_) ?_
          · have h116 : us 116 = (.bool true) := deps_get hd 0 rfl rfl rfl rfl rfl
            rw [if_pos (wanted_yes rfl rfl rfl rfl h116)]
            refine wp_value (w2 := wx) (v := .slice (some ⟨b9, 0, none⟩) 64 64) ?_ (hK _ _ rfl (Fr.refl _ _))
            clear hd hG hK
            go_simp
          refine stepsHold.cons (fun wx hG hd K hK => ?_) ?_
          · have h117 : us 117 = (.slice (some ⟨b9, 0, none⟩) 64 64) := deps_get hd 0 rfl rfl rfl rfl rfl
            have h116 : us 116 = (.bool true) := deps_get hd 1 rfl rfl rfl rfl rfl
            rw [if_pos (wanted_yes rfl rfl rfl rfl h116)]
            refine wp_value (w2 := wx) (v := .int .i64 64) ?_ (hK _ _ rfl (Fr.refl _ _))
            clear hd hG hK
            go_simp
          refine stepsHold.cons (fun wx hG hd K hK => ?_) ?_
          · have h118 : us 118 = (.int .i64 64) := deps_get hd 0 rfl rfl rfl rfl rfl
            have h116 : us 116 = (.bool true) := deps_get hd 1 rfl rfl rfl rfl rfl
            rw [if_pos (wanted_yes rfl rfl rfl rfl h116)]
            refine wp_value (w2 := wx) (v := .bool true) ?_ (hK _ _ rfl (Fr.refl _ _))
            clear hd hG hK
            go_simp
          refine stepsHold.cons (fun wx hG hd K hK => ?_) ?_
          · have h116 : us 116 = (.bool true) := deps_get hd 0 rfl rfl rfl rfl rfl
            have h119 : us 119 = (.bool true) := deps_get hd 1 rfl rfl rfl rfl rfl
            rw [if_pos (wanted_none rfl)]
            refine wp_value (w2 := wx) (v := .bool true) ?_ (hK _ _ rfl (Fr.refl _ _))
            clear hd hG hK
            go_simp
          refine stepsHold.cons (fun wx hG hd K hK => ?_) ?_
          · have h120 : us 120 = (.bool true) := deps_get hd 0 rfl rfl rfl rfl rfl
            rw [if_pos (wanted_none rfl)]
            refine wp_value (w2 := wx) (v := .bool true) ?_ (hK _ _ rfl (Fr.refl _ _))
            clear hd hG hK
            go_simp
          refine stepsHold.cons (fun wx hG hd K hK => ?_) ?_
          · have h121 : us 121 = (.bool true) := deps_get hd 0 rfl rfl rfl rfl rfl
            rw [if_pos (wanted_yes rfl rfl rfl rfl h121)]
            refine wp_value (w2 := wx) (v := .slice (some ⟨b7, 0, none⟩) 64 64) ?_ (hK _ _ rfl (Fr.refl _ _))
            clear hd hG hK
            go_simp
          refine stepsHold.cons (fun wx hG hd K hK => ?_) ?_
          · have h122 : us 122 = (.slice (some ⟨b7, 0, none⟩) 64 64) := deps_get hd 0 rfl rfl rfl rfl rfl
            have h121 : us 121 = (.bool true) := deps_get hd 1 rfl rfl rfl rfl rfl
            rw [if_pos (wanted_yes rfl rfl rfl rfl h121)]
            refine wp_value (w2 := wx) (v := .pointer (some ⟨b7, 0, none⟩)) ?_ (hK _ _ rfl (Fr.refl _ _))
            clear hd hG hK
            go_simp
          refine stepsHold.cons (fun wx hG hd K hK => ?_) ?_
          · have h123 : us 123 = (.pointer (some ⟨b7, 0, none⟩)) := deps_get hd 0 rfl rfl rfl rfl rfl
            have h121 : us 121 = (.bool true) := deps_get hd 1 rfl rfl rfl rfl rfl
            rw [if_pos (wanted_yes rfl rfl rfl rfl h121)]
            have hc := sec_cell (hG.keep0 HB7'.out) 0 xl HXL.out
            refine wp_value (w2 := wx) (v := .int .u8 xl) ?_ (hK _ _ rfl (Fr.refl _ _))
            clear hd hK hG
            go_simp
          refine stepsHold.cons (fun wx hG hd K hK => ?_) ?_
          · have h121 : us 121 = (.bool true) := deps_get hd 0 rfl rfl rfl rfl rfl
            rw [if_pos (wanted_yes rfl rfl rfl rfl h121)]
            refine wp_value (w2 := wx) (v := .slice (some ad) j c) ?_ (hK _ _ rfl (Fr.refl _ _))
            clear hd hG hK
            go_simp
          refine stepsHold.cons (fun wx hG hd K hK => ?_) ?_
          · have h121 : us 121 = (.bool true) := deps_get hd 0 rfl rfl rfl rfl rfl
            rw [if_pos (wanted_yes rfl rfl rfl rfl h121)]
            refine wp_value (w2 := wx) (v := .slice (some ad) j c) ?_ (hK _ _ rfl (Fr.refl _ _))
            clear hd hG hK
            go_simp
          refine stepsHold.cons (fun wx hG hd K hK => ?_) ?_
          · have h126 : us 126 = (.slice (some ad) j c) := deps_get hd 0 rfl rfl rfl rfl rfl
            have h121 : us 121 = (.bool true) := deps_get hd 1 rfl rfl rfl rfl rfl
            rw [if_pos (wanted_yes rfl rfl rfl rfl h121)]
            refine wp_value (w2 := wx) (v := .int .i64 (j : Int)) ?_ (hK _ _ rfl (Fr.refl _ _))
            clear hd hG hK
            go_simp
          refine stepsHold.cons (fun wx hG hd K hK => ?_) ?_
          · have h127 : us 127 = (.int .i64 (j : Int)) := deps_get hd 0 rfl rfl rfl rfl rfl
            have h121 : us 121 = (.bool true) := deps_get hd 1 rfl rfl rfl rfl rfl
            rw [if_pos (wanted_yes rfl rfl rfl rfl h121)]
            have hwr : IntKind.i64.wrap ((j : Int) - 1) = (j : Int) - 1 := by rw [IntKind.wrap_i64]; omega
            refine wp_value (w2 := wx) (v := .int .i64 ((j : Int) - 1)) ?_ (hK _ _ rfl (Fr.refl _ _))
            clear hd hG hK
            go_simp
          refine stepsHold.cons (fun wx hG hd K hK => ?_) ?_
          · have h125 : us 125 = (.slice (some ad) j c) := deps_get hd 0 rfl rfl rfl rfl rfl
            have h128 : us 128 = (.int .i64 ((j : Int) - 1)) := deps_get hd 1 rfl rfl rfl rfl rfl
            have h121 : us 121 = (.bool true) := deps_get hd 2 rfl rfl rfl rfl rfl
            rw [if_pos (wanted_yes rfl rfl rfl rfl h121)]
            refine wp_value (w2 := wx) (v := .pointer (some (ad.add (j - 1)))) ?_ (hK _ _ rfl (Fr.refl _ _))
            clear hd hG hK
            go_simp
          refine stepsHold.cons (fun wx hG hd K hK => ?_) ?_
          · have h129 : us 129 = (.pointer (some (ad.add (j - 1)))) := deps_get hd 0 rfl rfl rfl rfl rfl
            have h121 : us 121 = (.bool true) := deps_get hd 1 rfl rfl rfl rfl rfl
            rw [if_pos (wanted_yes rfl rfl rfl rfl h121)]
            have hc := HCL.out wx hG
            refine wp_value (w2 := wx) (v := .int .u8 xl) ?_ (hK _ _ rfl (Fr.refl _ _))
            clear hd hK hG
            go_simp
          refine stepsHold.cons (fun wx hG hd K hK => ?_) ?_
          · have h124 : us 124 = (.int .u8 xl) := deps_get hd 0 rfl rfl rfl rfl rfl
            have h130 : us 130 = (.int .u8 xl) := deps_get hd 1 rfl rfl rfl rfl rfl
            have h121 : us 121 = (.bool true) := deps_get hd 2 rfl rfl rfl rfl rfl
            rw [if_pos (wanted_yes rfl rfl rfl rfl h121)]
            refine wp_value (w2 := wx) (v := .bool true) ?_ (hK _ _ rfl (Fr.refl _ _))
            clear hd hG hK
            go_simp
          refine stepsHold.cons (fun wx hG hd K hK => ?_) ?_
          · have h121 : us 121 = (.bool true) := deps_get hd 0 rfl rfl rfl rfl rfl
            have h131 : us 131 = (.bool true) := deps_get hd 1 rfl rfl rfl rfl rfl
            rw [if_pos (wanted_none rfl)]
            refine wp_value (w2 := wx) (v := .bool true) ?_ (hK _ _ rfl (Fr.refl _ _))
            clear hd hG hK
            go_simp
          refine stepsHold.cons (fun wx hG hd K hK => ?_) ?_
          · have h132 : us 132 = (.bool true) := deps_get hd 0 rfl rfl rfl rfl rfl
            rw [if_pos (wanted_none rfl)]
            refine wp_value (w2 := wx) (v := .bool true) ?_ (hK _ _ rfl (Fr.refl _ _))
            clear hd hG hK
            go_simp
          refine stepsHold.cons (fun wx hG hd K hK => ?_) ?_
          · have h133 : us 133 = (.bool true) := deps_get hd 0 rfl rfl rfl rfl rfl
            rw [if_pos (wanted_yes rfl rfl rfl rfl h133)]
            refine wp_value (w2 := wx) (v := .slice (some ⟨b9, 0, none⟩) 64 64) ?_ (hK _ _ rfl (Fr.refl _ _))
            clear hd hG hK
            go_simp
          refine stepsHold.cons (fun wx hG hd K hK => ?_) ?_
          · have h134 : us 134 = (.slice (some ⟨b9, 0, none⟩) 64 64) := deps_get hd 0 rfl rfl rfl rfl rfl
            have h133 : us 133 = (.bool true) := deps_get hd 1 rfl rfl rfl rfl rfl
            rw [if_pos (wanted_yes rfl rfl rfl rfl h133)]
            refine wp_value (w2 := wx) (v := .pointer (some ⟨b9, 0, none⟩)) ?_ (hK _ _ rfl (Fr.refl _ _))
            clear hd hG hK
            go_simp
          refine stepsHold.cons (fun wx hG hd K hK => ?_) ?_
          · have h135 : us 135 = (.pointer (some ⟨b9, 0, none⟩)) := deps_get hd 0 rfl rfl rfl rfl rfl
            have h133 : us 133 = (.bool true) := deps_get hd 1 rfl rfl rfl rfl rfl
            rw [if_pos (wanted_yes rfl rfl rfl rfl h133)]
            have hc := sec_cell (hG.keep0 HB9.out) 0 xl HXL.out
            refine wp_value (w2 := wx) (v := .int .u8 xl) ?_ (hK _ _ rfl (Fr.refl _ _))
            clear hd hK hG
            go_simp
          refine stepsHold.cons (fun wx hG hd K hK => ?_) ?_
          · have h133 : us 133 = (.bool true) := deps_get hd 0 rfl rfl rfl rfl rfl
            rw [if_pos (wanted_yes rfl rfl rfl rfl h133)]
            refine wp_value (w2 := wx) (v := .slice (some ⟨b7, 0, none⟩) 64 64) ?_ (hK _ _ rfl (Fr.refl _ _))
            clear hd hG hK
            go_simp
          refine stepsHold.cons (fun wx hG hd K hK => ?_) ?_
          · have h137 : us 137 = (.slice (some ⟨b7, 0, none⟩) 64 64) := deps_get hd 0 rfl rfl rfl rfl rfl
            have h133 : us 133 = (.bool true) := deps_get hd 1 rfl rfl rfl rfl rfl
            rw [if_pos (wanted_yes rfl rfl rfl rfl h133)]
            refine wp_value (w2 := wx) (v := .pointer (some ⟨b7, 0, none⟩)) ?_ (hK _ _ rfl (Fr.refl _ _))
            clear hd hG hK
            go_simp
          refine stepsHold.cons (fun wx hG hd K hK => ?_) ?_
          · have h138 : us 138 = (.pointer (some ⟨b7, 0, none⟩)) := deps_get hd 0 rfl rfl rfl rfl rfl
            have h133 : us 133 = (.bool true) := deps_get hd 1 rfl rfl rfl rfl rfl
            rw [if_pos (wanted_yes rfl rfl rfl rfl h133)]
            have hc := sec_cell (hG.keep0 HB7'.out) 0 xl HXL.out
            refine wp_value (w2 := wx) (v := .int .u8 xl) ?_ (hK _ _ rfl (Fr.refl _ _))
            clear hd hK hG
            go_simp
          refine stepsHold.cons (fun wx hG hd K hK => ?_) ?_
          · have h136 : us 136 = (.int .u8 xl) := deps_get hd 0 rfl rfl rfl rfl rfl
            have h139 : us 139 = (.int .u8 xl) := deps_get hd 1 rfl rfl rfl rfl rfl
            have h133 : us 133 = (.bool true) := deps_get hd 2 rfl rfl rfl rfl rfl
            rw [if_pos (wanted_yes rfl rfl rfl rfl h133)]
            refine wp_value (w2 := wx) (v := .bool true) ?_ (hK _ _ rfl (Fr.refl _ _))
            clear hd hG hK
            go_simp
          refine stepsHold.cons (fun wx hG hd K hK => ?_) ?_
          · have h133 : us 133 = (.bool true) := deps_get hd 0 rfl rfl rfl rfl rfl
            have h140 : us 140 = (.bool true) := deps_get hd 1 rfl rfl rfl rfl rfl
            rw [if_pos (wanted_none rfl)]
            refine wp_value (w2 := wx) (v := .bool true) ?_ (hK _ _ rfl (Fr.refl _ _))
            clear hd hG hK
            go_simp
          refine stepsHold.cons (fun wx hG hd K hK => ?_) ?_
          · have h141 : us 141 = (.bool true) := deps_get hd 0 rfl rfl rfl rfl rfl
            rw [if_pos (wanted_none rfl)]
            refine wp_value (w2 := wx) (v := .bool true) ?_ (hK _ _ rfl (Fr.refl _ _))
            clear hd hG hK
            go_simp
          exact stepsHold.nil
        case fin =>
          have h89 : us 89 = (.bool true) := all_get hall 0 rfl rfl rfl
          have h90 : us 90 = (.bool true) := all_get hall 1 rfl rfl rfl
          have h91 : us 91 = (.int .i64 0) := all_get hall 2 rfl rfl rfl
          have h92 : us 92 = (.bool true) := all_get hall 3 rfl rfl rfl
          have h93 : us 93 = (.bool true) := all_get hall 4 rfl rfl rfl
          have h94 : us 94 = (.bool true) := all_get hall 5 rfl rfl rfl
          have h95 : us 95 = (.int .i64 0) := all_get hall 6 rfl rfl rfl
          have h96 : us 96 = (.bool true) := all_get hall 7 rfl rfl rfl
          have h97 : us 97 = (.bool true) := all_get hall 8 rfl rfl rfl
          have h98 : us 98 = (.bool true) := all_get hall 9 rfl rfl rfl
          have h99 : us 99 = (.int .i64 0) := all_get hall 10 rfl rfl rfl
          have h100 : us 100 = (.bool true) := all_get hall 11 rfl rfl rfl
          have h101 : us 101 = (.bool true) := all_get hall 12 rfl rfl rfl
          have h102 : us 102 = (.bool true) := all_get hall 13 rfl rfl rfl
          have h103 : us 103 = (.int .i64 2) := all_get hall 14 rfl rfl rfl
          have h104 : us 104 = (.int .i64 2) := all_get hall 15 rfl rfl rfl
          have h105 : us 105 = (.bool true) := all_get hall 16 rfl rfl rfl
          have h106 : us 106 = (.bool true) := all_get hall 17 rfl rfl rfl
          have h107 : us 107 = (.bool true) := all_get hall 18 rfl rfl rfl
          have h108 : us 108 = (.int .i64 0) := all_get hall 19 rfl rfl rfl
          have h109 : us 109 = (.bool true) := all_get hall 20 rfl rfl rfl
          have h110 : us 110 = (.bool true) := all_get hall 21 rfl rfl rfl
          have h111 : us 111 = (.bool true) := all_get hall 22 rfl rfl rfl
          have h112 : us 112 = (.slice (some ⟨b7, 0, none⟩) 64 64) := all_get hall 23 rfl rfl rfl
          have h113 : us 113 = (.int .i64 64) := all_get hall 24 rfl rfl rfl
          have h114 : us 114 = (.bool true) := all_get hall 25 rfl rfl rfl
          have h115 : us 115 = (.bool true) := all_get hall 26 rfl rfl rfl
          have h116 : us 116 = (.bool true) := all_get hall 27 rfl rfl rfl
          have h117 : us 117 = (.slice (some ⟨b9, 0, none⟩) 64 64) := all_get hall 28 rfl rfl rfl
          have h118 : us 118 = (.int .i64 64) := all_get hall 29 rfl rfl rfl
          have h119 : us 119 = (.bool true) := all_get hall 30 rfl rfl rfl
          have h120 : us 120 = (.bool true) := all_get hall 31 rfl rfl rfl
          have h121 : us 121 = (.bool true) := all_get hall 32 rfl rfl rfl
          have h122 : us 122 = (.slice (some ⟨b7, 0, none⟩) 64 64) := all_get hall 33 rfl rfl rfl
          have h123 : us 123 = (.pointer (some ⟨b7, 0, none⟩)) := all_get hall 34 rfl rfl rfl
          have h124 : us 124 = (.int .u8 xl) := all_get hall 35 rfl rfl rfl
          have h125 : us 125 = (.slice (some ad) j c) := all_get hall 36 rfl rfl rfl
          have h126 : us 126 = (.slice (some ad) j c) := all_get hall 37 rfl rfl rfl
          have h127 : us 127 = (.int .i64 (j : Int)) := all_get hall 38 rfl rfl rfl
          have h128 : us 128 = (.int .i64 ((j : Int) - 1)) := all_get hall 39 rfl rfl rfl
          have h129 : us 129 = (.pointer (some (ad.add (j - 1)))) := all_get hall 40 rfl rfl rfl
          have h130 : us 130 = (.int .u8 xl) := all_get hall 41 rfl rfl rfl
          have h131 : us 131 = (.bool true) := all_get hall 42 rfl rfl rfl
          have h132 : us 132 = (.bool true) := all_get hall 43 rfl rfl rfl
          have h133 : us 133 = (.bool true) := all_get hall 44 rfl rfl rfl
          have h134 : us 134 = (.slice (some ⟨b9, 0, none⟩) 64 64) := all_get hall 45 rfl rfl rfl
          have h135 : us 135 = (.pointer (some ⟨b9, 0, none⟩)) := all_get hall 46 rfl rfl rfl
          have h136 : us 136 = (.int .u8 xl) := all_get hall 47 rfl rfl rfl
          have h137 : us 137 = (.slice (some ⟨b7, 0, none⟩) 64 64) := all_get hall 48 rfl rfl rfl
          have h138 : us 138 = (.pointer (some ⟨b7, 0, none⟩)) := all_get hall 49 rfl rfl rfl
          have h139 : us 139 = (.int .u8 xl) := all_get hall 50 rfl rfl rfl
          have h140 : us 140 = (.bool true) := all_get hall 51 rfl rfl rfl
          have h141 : us 141 = (.bool true) := all_get hall 52 rfl rfl rfl
          have h6 : us 6 = (.bool true) := all_get hall 53 rfl rfl rfl
          simp only [fillL, Nat.reduceAdd]
          clear hall
          simp only [h89, h90, h91, h92, h93, h94, h95, h96, h97, h98, h99, h100, h101, h102, h103, h104, h105, h106, h107, h108, h109, h110, h111, h112, h113, h114, h115, h116, h117, h118, h119, h120, h121, h122, h123, h124, h125, h126, h127, h128, h129, h130, h131, h132, h133, h134, h135, h136, h137, h138, h139, h140, h141, h6]
          clear h89 h90 h91 h92 h93 h94 h95 h96 h97 h98 h99 h100 h101 h102 h103 h104 h105 h106 h107 h108 h109 h110 h111 h112 h113 h114 h115 h116 h117 h118 h119 h120 h121 h122 h123 h124 h125 h126 h127 h128 h129 h130 h131 h132 h133 h134 h135 h136 h137 h138 h139 h140 h141 h6
          go_wp2
          go_ret
          exact ⟨rfl, HF.out.then0 hG⟩
end
end Go.Proofs.Ythepadcjpkcknaa
