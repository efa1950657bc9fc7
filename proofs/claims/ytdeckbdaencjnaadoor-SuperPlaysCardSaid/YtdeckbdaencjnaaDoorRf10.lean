/-
  heronryref08: Sane. heronryref08: Encode, Layout. heronryref03: Open. Conditions: none.
-/
import Derived.Test.YtdeckbdaencjnaaDoorRf2
import Derived.Test.YtdeckbdaencjnaaDoorL8h
import Derived.ArgAppend
import Derived.Test.YtdeckbdaencjnaaDoorFree
import Derived.Laws.IdiomStrings
set_option linter.unusedVariables false
set_option linter.unusedSimpArgs false
namespace Go.Proofs.YtdeckbdaencjnaaDoor
open Go.RowKit
section
variable {w : World}
theorem Sup.sane_no {s : Sup} (h : ¬ s.Sane) : s.sane = false := by simpa [Sup.sane] using h
theorem Sup.sane_yes {s : Sup} (h : s.Sane) : s.sane = true := by simpa [Sup.sane] using h
theorem ret_boolEq {a b : Bool} (h : a = b) : Ending.returned (.bool a) = .returned (.bool b) := by rw [h]
set_option maxRecDepth 100000 in
set_option maxHeartbeats 2000000 in
theorem rsane_c (s : Sup) : Calls Tryd.prog 30 #[(.agg #[.int .i64 s.version, .int .i64 s.epoch, .int .i64 s.blocks, .int .i64 s.counters, .int .i64 s.log, .int .i64 s.head, .int .i64 s.applied])] w fun e w' => e = .returned (.bool s.sane) ∧ Fr F0 w w' := by
  have HS : Hid (s.sane = decide s.Sane) := Lib.hid rfl
  obtain ⟨b, hb⟩ : ∃ b, b = s.sane := ⟨_, rfl⟩
  rw [← hb]
  have HB := Lib.hid hb
  clear hb
  go_enter Tryd.func30, Tryd.ntmps30
  go_wp2_with fail
  all_goals (go_ret; refine ⟨ret_boolEq ?_, (Fr.refl _ _).alloc _⟩; rw [HB.out]; first | (refine (Sup.sane_no ?_).symm; simp only [Sup.Sane]; omega) | (rw [Bool.eq_iff_iff, Sup.sane, decide_eq_true_eq, decide_eq_true_eq]; simp only [Sup.Sane]; omega))
end
end Go.Proofs.YtdeckbdaencjnaaDoor
set_option linter.unusedVariables false
set_option linter.unusedSimpArgs false
namespace Go.Proofs.YtdeckbdaencjnaaDoor
open Go.RowKit
section
variable {w : World}
theorem SupAt.all {w : World} {b : Nat} {s : Sup} (h : SupAt w b s) : w.cell? ⟨b, 0, none⟩ = some (.int .i64 s.version) ∧ w.cell? ⟨b, 1, none⟩ = some (.int .i64 s.epoch) ∧ w.cell? ⟨b, 2, none⟩ = some (.int .i64 s.blocks) ∧ w.cell? ⟨b, 3, none⟩ = some (.int .i64 s.counters) ∧ w.cell? ⟨b, 4, none⟩ = some (.int .i64 s.log) ∧ w.cell? ⟨b, 5, none⟩ = some (.int .i64 s.head) ∧ w.cell? ⟨b, 6, none⟩ = some (.int .i64 s.applied) := by
  obtain ⟨t, e⟩ := h.ex
  refine ⟨?_, ?_, ?_, ?_, ?_, ?_, ?_⟩ <;> (rw [cell_of e]; rfl)
set_option maxRecDepth 100000 in
set_option maxHeartbeats 2000000 in
theorem rencode_c (s : Sup) : Calls Tryd.prog 25 #[(.agg #[.int .i64 s.version, .int .i64 s.epoch, .int .i64 s.blocks, .int .i64 s.counters, .int .i64 s.log, .int .i64 s.head, .int .i64 s.applied])] w fun e w' => EncRet w w' e s := by
  have hcv := conv_const
  go_enter Tryd.func25, Tryd.ntmps25
  go_wp2_with fail
  have hS : SupAt (w.alloc (.cells #[.int .i64 s.version, .int .i64 s.epoch, .int .i64 s.blocks, .int .i64 s.counters, .int .i64 s.log, .int .i64 s.head, .int .i64 s.applied] 23)) w.heap.size s := ⟨_, alloc_at rfl _⟩
  have hf0 : Fr F0 w (w.alloc (.cells #[.int .i64 s.version, .int .i64 s.epoch, .int .i64 s.blocks, .int .i64 s.counters, .int .i64 s.log, .int .i64 s.head, .int .i64 s.applied] 23)) := (Fr.refl _ _).alloc _
  refine (rsane_c s).mono ?_
  rintro e w1 ⟨rfl, hf1⟩
  have hS1 := hS.keep0 hf1
  have hfr : Fr F0 w w1 := hf0.then0 hf1
  have hsb : w.heap.size < w1.heap.size := by have := hf1.size; simp at this; omega
  clear hS hf1 hf0
  by_cases hs : s.sane = true
  · have HS := Lib.hid hs
    have hsn : s.Sane := by simpa [Sup.sane] using hs
    obtain ⟨⟨a0, a1⟩, ⟨b0, b1⟩, ⟨c0, c1⟩, ⟨d0, d1⟩, ⟨e0, e1⟩, ⟨f0, f1⟩, ⟨g0, g1⟩⟩ := hsn
    rw [hs]
    clear hs
    have HS1 := Lib.hid hS1
    have HFR := Lib.hid hfr
    clear hS1 hfr
    obtain ⟨i0, hi, hzz⟩ := Option.map_eq_some_iff.1 info_u8
    simp only [Prod.mk.injEq] at hzz
    have HI := Lib.hid hi
    have HZ := Lib.hid hzz
    clear hi hzz
    have HA1 : Hid ((w1.alloc (.cells ([.int .u8 72, .int .u8 69, .int .u8 82, .int .u8 79, .int .u8 78, .int .u8 49] : List Value).toArray 5 (6, 7))).heap[w1.heap.size]? = some (.cells ([.int .u8 72, .int .u8 69, .int .u8 82, .int .u8 79, .int .u8 78, .int .u8 49] : List Value).toArray 5 (6, 7))) := Lib.hid (alloc_at rfl _)
    have HA2 : Hid (((w1.alloc (.cells ([.int .u8 72, .int .u8 69, .int .u8 82, .int .u8 79, .int .u8 78, .int .u8 49] : List Value).toArray 5 (6, 7))).alloc (.cells ([.int .u8 0, .int .u8 0] : List Value).toArray 5)).heap[w1.heap.size + 1]? = some (.cells ([.int .u8 0, .int .u8 0] : List Value).toArray 5 (0, 0))) := Lib.hid (alloc_at (by simp) _)
    go_wp2_with (at_builtin; refine wpList_append_grows _ rfl (.tmp 9) (.tmp 10) 24 rfl 5 i0 (.int .u8 0) 1 1 und_bytes HI.out HZ.out.1 HZ.out.2.1 HZ.out.2.2 rfl (by decide) (some ⟨w1.heap.size, 0, none⟩) 6 6 [.int .u8 72, .int .u8 69, .int .u8 82, .int .u8 79, .int .u8 78, .int .u8 49] (by rfl) (by intro h; cases h) rfl (by intro b hb; cases hb; exact World.news_of_block (keep_alloc HA1.out _)) ⟨w1.heap.size + 1, 0, none⟩ 2 2 [.int .u8 0, .int .u8 0] (by rfl) rfl (World.news_of_block HA2.out) (by decide) (by decide) (by unfold maxLen; decide) (by decide) ?_; intro v5 w5 hown5 hg5; obtain ⟨q0, -, -, -, -, -, -⟩ := (HS1.out.keep0 ((((Fr.refl F0 w1).alloc _).alloc _).grown hg5 (by intro k hk; cases hk))).all; clear hcv)
    have hf5 : Fr F0 w1 w5 := (((Fr.refl F0 w1).alloc _).alloc _).grown hg5 (by intro k hk; cases hk)
    have HO : Hid (OwnV w w5 v5 mark8) := Lib.hid ⟨own_base_le hown5 (by simp; omega), HFR.out.then0 hf5⟩
    have HS1 := Lib.hid (HS1.out.keep0 hf5)
    have hsb : w.heap.size < w5.heap.size := by have := hf5.size; omega
    obtain ⟨x0, hx0⟩ : ∃ x, x = mark8 := ⟨_, rfl⟩
    have HX0 := Lib.hid hx0
    have HL0 : Hid (x0.length = 8) := Lib.hid (by rw [hx0]; rfl)
    rw [← hx0] at HO
    clear hown5 hg5 hf5 hx0
    obtain ⟨A0, c0, rfl, hb0, hn0⟩ := HO.out.byt
    have HB := Lib.hid hb0
    rw [HL0.out]
    clear hb0 hn0
    refine (rput_c A0 8 c0 x0 (by have := HB.out.at_; rwa [HL0.out] at this) (by decide) s.version (by omega) (by omega) 8 (by decide)).mono ?_
    rintro e w6 ⟨v6, rfl, hown⟩
    have hf := hown.fr
    have HO : Hid (OwnV w w6 v6 (x0 ++ le 8 s.version)) := Lib.hid ⟨own_base_le hown.own (Nat.le_of_lt hsb), HO.out.fr.then0 hf⟩
    have HS1 := Lib.hid (HS1.out.keep0 hf)
    have hsb : w.heap.size < w6.heap.size := by have := hf.size; omega
    obtain ⟨x1, hx⟩ : ∃ x, x = x0 ++ le 8 s.version := ⟨_, rfl⟩
    have HX1 := Lib.hid hx
    have HL1 : Hid (x1.length = 16) := Lib.hid (by rw [hx, List.length_append, HL0.out, le_len])
    rw [← hx] at HO
    clear hown hf hx q0
    obtain ⟨A1, c1, rfl, hb1, hn1⟩ := HO.out.byt
    obtain ⟨-, q1, -, -, -, -, -⟩ := HS1.out.all
    have HB := Lib.hid hb1
    rw [HL1.out]
    clear hb1 hn1
    go_wp2_with fail
    refine (rput_c A1 16 c1 x1 (by have := HB.out.at_; rwa [HL1.out] at this) (by decide) s.epoch (by omega) (by omega) 4 (by decide)).mono ?_
    rintro e w7 ⟨v7, rfl, hown⟩
    have hf := hown.fr
    have HO : Hid (OwnV w w7 v7 (x1 ++ le 4 s.epoch)) := Lib.hid ⟨own_base_le hown.own (Nat.le_of_lt hsb), HO.out.fr.then0 hf⟩
    have HS1 := Lib.hid (HS1.out.keep0 hf)
    have hsb : w.heap.size < w7.heap.size := by have := hf.size; omega
    obtain ⟨x2, hx⟩ : ∃ x, x = x1 ++ le 4 s.epoch := ⟨_, rfl⟩
    have HX2 := Lib.hid hx
    have HL2 : Hid (x2.length = 20) := Lib.hid (by rw [hx, List.length_append, HL1.out, le_len])
    rw [← hx] at HO
    clear hown hf hx q1
    obtain ⟨A2, c2, rfl, hb2, hn2⟩ := HO.out.byt
    obtain ⟨-, -, q2, -, -, -, -⟩ := HS1.out.all
    have HB := Lib.hid hb2
    rw [HL2.out]
    clear hb2 hn2
    go_wp2_with fail
    refine (rput_c A2 20 c2 x2 (by have := HB.out.at_; rwa [HL2.out] at this) (by decide) s.blocks (by omega) (by omega) 2 (by decide)).mono ?_
    rintro e w8 ⟨v8, rfl, hown⟩
    have hf := hown.fr
    have HO : Hid (OwnV w w8 v8 (x2 ++ le 2 s.blocks)) := Lib.hid ⟨own_base_le hown.own (Nat.le_of_lt hsb), HO.out.fr.then0 hf⟩
    have HS1 := Lib.hid (HS1.out.keep0 hf)
    have hsb : w.heap.size < w8.heap.size := by have := hf.size; omega
    obtain ⟨x3, hx⟩ : ∃ x, x = x2 ++ le 2 s.blocks := ⟨_, rfl⟩
    have HX3 := Lib.hid hx
    have HL3 : Hid (x3.length = 22) := Lib.hid (by rw [hx, List.length_append, HL2.out, le_len])
    rw [← hx] at HO
    clear hown hf hx q2
    obtain ⟨A3, c3, rfl, hb3, hn3⟩ := HO.out.byt
    obtain ⟨-, -, -, q3, -, -, -⟩ := HS1.out.all
    have HB := Lib.hid hb3
    rw [HL3.out]
    clear hb3 hn3
    go_wp2_with fail
    refine (rput_c A3 22 c3 x3 (by have := HB.out.at_; rwa [HL3.out] at this) (by decide) s.counters (by omega) (by omega) 2 (by decide)).mono ?_
    rintro e w9 ⟨v9, rfl, hown⟩
    have hf := hown.fr
    have HO : Hid (OwnV w w9 v9 (x3 ++ le 2 s.counters)) := Lib.hid ⟨own_base_le hown.own (Nat.le_of_lt hsb), HO.out.fr.then0 hf⟩
    have HS1 := Lib.hid (HS1.out.keep0 hf)
    have hsb : w.heap.size < w9.heap.size := by have := hf.size; omega
    obtain ⟨x4, hx⟩ : ∃ x, x = x3 ++ le 2 s.counters := ⟨_, rfl⟩
    have HX4 := Lib.hid hx
    have HL4 : Hid (x4.length = 24) := Lib.hid (by rw [hx, List.length_append, HL3.out, le_len])
    rw [← hx] at HO
    clear hown hf hx q3
    obtain ⟨A4, c4, rfl, hb4, hn4⟩ := HO.out.byt
    obtain ⟨-, -, -, -, q4, -, -⟩ := HS1.out.all
    have HB := Lib.hid hb4
    rw [HL4.out]
    clear hb4 hn4
    go_wp2_with fail
    refine (rput_c A4 24 c4 x4 (by have := HB.out.at_; rwa [HL4.out] at this) (by decide) s.log (by omega) (by omega) 2 (by decide)).mono ?_
    rintro e w10 ⟨v10, rfl, hown⟩
    have hf := hown.fr
    have HO : Hid (OwnV w w10 v10 (x4 ++ le 2 s.log)) := Lib.hid ⟨own_base_le hown.own (Nat.le_of_lt hsb), HO.out.fr.then0 hf⟩
    have HS1 := Lib.hid (HS1.out.keep0 hf)
    have hsb : w.heap.size < w10.heap.size := by have := hf.size; omega
    obtain ⟨x5, hx⟩ : ∃ x, x = x4 ++ le 2 s.log := ⟨_, rfl⟩
    have HX5 := Lib.hid hx
    have HL5 : Hid (x5.length = 26) := Lib.hid (by rw [hx, List.length_append, HL4.out, le_len])
    rw [← hx] at HO
    clear hown hf hx q4
    obtain ⟨A5, c5, rfl, hb5, hn5⟩ := HO.out.byt
    obtain ⟨-, -, -, -, -, q5, -⟩ := HS1.out.all
    have HB := Lib.hid hb5
    rw [HL5.out]
    clear hb5 hn5
    go_wp2_with fail
    refine (rput_c A5 26 c5 x5 (by have := HB.out.at_; rwa [HL5.out] at this) (by decide) s.head (by omega) (by omega) 8 (by decide)).mono ?_
    rintro e w11 ⟨v11, rfl, hown⟩
    have hf := hown.fr
    have HO : Hid (OwnV w w11 v11 (x5 ++ le 8 s.head)) := Lib.hid ⟨own_base_le hown.own (Nat.le_of_lt hsb), HO.out.fr.then0 hf⟩
    have HS1 := Lib.hid (HS1.out.keep0 hf)
    have hsb : w.heap.size < w11.heap.size := by have := hf.size; omega
    obtain ⟨x6, hx⟩ : ∃ x, x = x5 ++ le 8 s.head := ⟨_, rfl⟩
    have HX6 := Lib.hid hx
    have HL6 : Hid (x6.length = 34) := Lib.hid (by rw [hx, List.length_append, HL5.out, le_len])
    rw [← hx] at HO
    clear hown hf hx q5
    obtain ⟨A6, c6, rfl, hb6, hn6⟩ := HO.out.byt
    obtain ⟨-, -, -, -, -, -, q6⟩ := HS1.out.all
    have HB := Lib.hid hb6
    rw [HL6.out]
    clear hb6 hn6
    go_wp2_with fail
    refine (rput_c A6 34 c6 x6 (by have := HB.out.at_; rwa [HL6.out] at this) (by decide) s.applied (by omega) (by omega) 8 (by decide)).mono ?_
    rintro e w12 ⟨v12, rfl, hown⟩
    have hf := hown.fr
    have HO : Hid (OwnV w w12 v12 (x6 ++ le 8 s.applied)) := Lib.hid ⟨own_base_le hown.own (Nat.le_of_lt hsb), HO.out.fr.then0 hf⟩
    have HS1 := Lib.hid (HS1.out.keep0 hf)
    have hsb : w.heap.size < w12.heap.size := by have := hf.size; omega
    obtain ⟨x7, hx⟩ : ∃ x, x = x6 ++ le 8 s.applied := ⟨_, rfl⟩
    have HX7 := Lib.hid hx
    have HL7 : Hid (x7.length = 42) := Lib.hid (by rw [hx, List.length_append, HL6.out, le_len])
    rw [← hx] at HO
    clear hown hf hx q6
    go_wp2_with fail
    go_loopg [4] 18 (fun kq x4 wr => ∃ p : Nat, p ≤ 18 ∧ kq = 18 - p ∧ OwnV w wr x4 (x7 ++ List.replicate p 0))
    case atStart => exact ⟨0, by omega, rfl, by simpa using HO.out⟩
    case round =>
      obtain ⟨p, hp, rfl, hown⟩ := hrel
      have HOW := Lib.hid hown
      obtain ⟨A9, c9, rfl, hb9, hn9⟩ := hown.byt
      have hsz := hown.fr.size
      have hlen : (x7 ++ List.replicate p (0 : Int)).length = 42 + p := by rw [List.length_append, HL7.out, List.length_replicate]
      have HLEN := Lib.hid hlen
      rw [hlen]
      have HB9 := Lib.hid hb9
      clear hown hlen hb9 hn9
      have p0 : (0 : Int) ≤ (p : Int) := Int.natCast_nonneg _
      by_cases hlt : p < 18
      · have h60 : 42 + p < 60 := by omega
        go_wp2_with (at_builtin; refine wpList_append_one rfl (.tmp 50) (.tmp 51) 24 5 1 (.int .u8 0) rfl und_bytes info_u8 rfl (by decide) w.heap.size (.slice A9 (42 + p) c9) ((x7 ++ List.replicate p (0 : Int)).map (Value.int .u8)) (.int .u8 0) (by rfl) (by rfl) rfl (by have := HOW.out.own; rw [List.length_map, HLEN.out]; rw [HLEN.out] at this; exact this) hsz (by rw [List.length_map, HLEN.out]; omega) ?_; intro v3 w3 hown3 hf3)
        go_roundg (18 - (p + 1))
        case measure => omega
        case rel =>
          refine ⟨p + 1, by omega, rfl, ?_⟩
          have e1 : x7 ++ List.replicate (p + 1) (0 : Int) = (x7 ++ List.replicate p 0) ++ [0] := by rw [List.replicate_succ', List.append_assoc]
          rw [e1]
          have ho := HOW.out.own
          rw [HLEN.out] at ho
          refine ⟨?_, HOW.out.fr.trans hf3 (fun i hi => .inr (own_base ho i hi))⟩
          have := hown3
          rw [List.length_map] at this
          simpa [Nat.add_assoc] using this
      · have hpe : p = 18 := by omega
        subst hpe
        have hbody : x7 ++ List.replicate 18 0 = s.body := by
          rw [HX7.out, HX6.out, HX5.out, HX4.out, HX3.out, HX2.out, HX1.out, HX0.out]
          simp only [Sup.body, Sup.nums, List.append_assoc]
        have hbys : Bys s.body := fun x hx => Sup.enc_bys s x (List.mem_append.2 (.inl hx))
        have hat := HB9.out.at_
        rw [HLEN.out, hbody] at hat
        have hfrw := HOW.out.fr
        have HBYS := Lib.hid hbys
        clear hbody hbys
        go_wp2_with fail
        refine (rseal_c A9 60 c9 s.body hat (by decide) HBYS.out).mono ?_
        rintro e wz ⟨vz, rfl, hownz⟩
        have hr : s.encE = 0 := by simp [Sup.encE, HS.out]
        have HR := Lib.hid hr
        have HZ2 := Lib.hid hownz
        clear hr hownz hat
        go_wp2_with fail
        go_ret2
        exact ⟨_, by rw [HR.out]; rfl, (fun _ => ⟨own_base_le HZ2.out.own hsz, hfrw.then0 HZ2.out.fr⟩), (fun h => by rw [HS.out] at h; cases h), hfrw.then0 HZ2.out.fr⟩
  · have hs' : s.sane = false := by simpa using hs
    have hr : s.encE = 1 := by simp [Sup.encE, hs']
    have HS := Lib.hid hs'
    have HR := Lib.hid hr
    rw [hs']
    clear hs hs' hr
    go_wp2_with fail
    go_ret2
    exact ⟨_, by rw [HR.out]; rfl, (fun h => by rw [HS.out] at h; cases h), fun _ => rfl, hfr⟩
end
end Go.Proofs.YtdeckbdaencjnaaDoor
set_option linter.unusedVariables false
set_option linter.unusedSimpArgs false
namespace Go.Proofs.YtdeckbdaencjnaaDoor
open Go.RowKit
theorem run_neq_nums {P : Program} (t : TypeId) {xs ys : List Int} (hx : Bys xs) (hy : Bys ys) (w : World) : (binOp .neq t (.string (strOfNums xs)) (.string (strOfNums ys))).run P w = .ok (.bool (!decide (xs = ys))) w := by
  rw [← bytesOf_eq hx hy, ← Lib.strOfNums_toList, ← Lib.strOfNums_toList]
  simp [binOp, Op.stringOp]
theorem run_eql_nums {P : Program} (t : TypeId) {xs ys : List Int} (hx : Bys xs) (hy : Bys ys) (w : World) : (binOp .eql t (.string (strOfNums xs)) (.string (strOfNums ys))).run P w = .ok (.bool (decide (xs = ys))) w := by
  rw [← bytesOf_eq hx hy, ← Lib.strOfNums_toList, ← Lib.strOfNums_toList]
  simp [binOp, Op.stringOp]
theorem sealL_take {xs : List Int} {m : Nat} {ys : List Int} (h : ys.length = m + 4) (he : ys = sealL (xs.take m)) : (sealL (xs.take m)).length = m + 4 := by rw [← he, h]
theorem str_eq_nums {xs ys : List Int} (hx : Bys xs) (hy : Bys ys) : ((strOfNums xs).toList == (strOfNums ys).toList) = decide (xs = ys) := by
  rw [Lib.strOfNums_toList, Lib.strOfNums_toList, bytesOf_eq hx hy]
theorem r_und_str : Tryd.prog.underlying 9 = some .string := by kernel_rfl
section
variable {w : World}
set_option maxRecDepth 100000 in
set_option maxHeartbeats 1000000 in
theorem ropen_c (A : Option Addr) (n c : Nat) (xs : List Int) (hA : BytesAt w A n xs) (hc : n ≤ c) (hn : n ≤ 1099511627776) (hb : Bys xs) :
    Calls Tryd.prog 68 #[.slice A n c] w fun e w' => OpenRet w w' e xs := by
  have hl := hA.len
  by_cases h4 : n < 4
  · have hr : openE xs = 2 := by simp [openE, hl, h4]
    have HR : OpenRet w w (.returned (.tuple #[.slice none 0 0, .int .i64 2])) xs := ⟨_, by rw [hr], fun h => by omega, Fr.refl _ _⟩
    have g1 : (n : Int) - 4 < 0 := by omega
    clear hr hl
    go_enter Tryd.func68, Tryd.ntmps68
    go_wp2_with fail
    go_ret2
    exact HR
  · obtain ⟨m, hm⟩ : ∃ m, m = n - 4 := ⟨_, rfl⟩
    obtain rfl : n = m + 4 := by omega
    obtain ⟨ys, hys⟩ : ∃ ys, ys = sealL (xs.take m) := ⟨_, rfl⟩
    have hyb : Bys ys := by rw [hys]; exact sealL_bys (hb.take m)
    have hyl : ys.length = m + 4 := by rw [hys]; simp [sealL, le_len, hl]
    have hse : sealed xs = decide (ys = xs) := by
      unfold sealed
      have : xs.length - 4 = m := by omega
      rw [this, ← hys]
      have : (4 ≤ xs.length) := by omega
      simp [this]
    have hq := str_eq_nums hyb hb
    rw [← hse] at hq
    have HSE := Lib.hid hse
    have HAT := Lib.hid hA
    have HBY := Lib.hid hb
    have HYS := Lib.hid hys
    have HYL := Lib.hid hyl
    have HL := Lib.hid hl
    have m0 : (0 : Int) ≤ (m : Int) := Int.natCast_nonneg _
    have m1 : (m : Int) ≤ 1099511627776 := by omega
    have m2 : (m : Int) ≤ (c : Int) := by omega
    clear hm hse hys hA hyl hl
    have hwr : IntKind.i64.wrap ((m : Int) + 4 - 4) = (m : Int) := by rw [IntKind.wrap_i64]; omega
    cases hs : sealed xs with
    | true =>
      rw [hs] at hq
      obtain ⟨bq, hbq⟩ : ∃ b : Bool, b = (!true) := ⟨_, rfl⟩
      have hqb : ((strOfNums ys).toList == (strOfNums xs).toList) = !bq := by rw [hq, hbq]; rfl
      have HNEQ := Lib.hid hqb
      clear hqb
      have HS := Lib.hid hs
      clear hq hs
      have HBQ := Lib.hid hbq
      clear hbq
      go_enter Tryd.func68, Tryd.ntmps68
      go_wp2_with fail
      refine wp_region_free (S := F0) [false, false, false, false, false, false, false, false, false, false, true, true, true, true, true, true, true, true, false, false, false, false, false] [.eq (.slice A (m + 4) c), .eq (.int .i64 (m : Int)), .eq (.slice A m c), ⟨fun v w' => ∃ A c, v = .slice A (m + 4) c ∧ BytesAt w' A (m + 4) ys, fun v w' w'' ⟨A, c, h1, h2⟩ hf => ⟨A, c, h1, h2.keep0 hf⟩⟩, .eq (.string (strOfNums ys)), .eq (.slice A (m + 4) c), .eq (.string (strOfNums xs)), .eq (.bool bq)] (by kernel_rfl) (by kernel_rfl) (by rfl) (fun us => ?steps) (fun us wz hG hall => ?fin)
      case steps =>
        simp only [fillL, Nat.reduceAdd]
        refine stepsHold.cons (fun wx hG hd K hK => ?_) ?_
        · rw [if_pos (wanted_none rfl)]
          refine wp_value (w2 := wx) (v := .slice A (m + 4) c) ?_ (hK _ _ rfl (Fr.refl _ _))
          clear hd hG hK
          go_simp
        refine stepsHold.cons (fun wx hG hd K hK => ?_) ?_
        · rw [if_pos (wanted_none rfl)]
          refine wp_value (w2 := wx) (v := .int .i64 (m : Int)) ?_ (hK _ _ rfl (Fr.refl _ _))
          clear hd hG hK
          go_simp
        refine stepsHold.cons (fun wx hG hd K hK => ?_) ?_
        · have h10 : us 10 = (.slice A (m + 4) c) := deps_get hd 0 rfl rfl rfl rfl rfl
          have h11 : us 11 = (.int .i64 (m : Int)) := deps_get hd 1 rfl rfl rfl rfl rfl
          rw [if_pos (wanted_none rfl)]
          refine wp_value (w2 := wx) (v := .slice A m c) ?_ (hK _ _ rfl (Fr.refl _ _))
          clear hd hG hK
          go_simp
        refine stepsHold.cons (fun wx hG hd K hK => ?_) ?_
        · have h12 : us 12 = (.slice A m c) := deps_get hd 0 rfl rfl rfl rfl rfl
          rw [if_pos (wanted_none rfl)]
          refine wp_call (w2 := wx) (f := 67) (args := #[.slice A m c]) ?_ ?_
          · clear hd hK
            go_simp
          · refine (rseal_c A m c (xs.take m) ((HAT.out.keep0 hG).take m (by omega)) (by omega) (HBY.out.take m)).mono ?_
            rintro e w9 ⟨v, rfl, hown⟩
            obtain ⟨A9, c9, rfl, hb9, hn9⟩ := hown.byt
            have h9 := hb9.at_
            rw [← HYS.out, HYL.out] at h9 ⊢
            exact ⟨_, rfl, hK _ _ ⟨A9, c9, rfl, h9⟩ hown.fr⟩
        refine stepsHold.cons (fun wx hG hd K hK => ?_) ?_
        · have h13 := deps_get hd 0 rfl rfl rfl rfl rfl
          rw [if_pos (wanted_none rfl)]
          obtain ⟨A9, c9, e9, h9⟩ := h13
          have hr := conv_at h9 und_bytes und_u8 r_und_str c9
          refine wp_value (w2 := wx) (v := .string (strOfNums ys)) ?_ (hK _ _ rfl (Fr.refl _ _))
          clear hd hK
          go_simp
        refine stepsHold.cons (fun wx hG hd K hK => ?_) ?_
        · rw [if_pos (wanted_none rfl)]
          refine wp_value (w2 := wx) (v := .slice A (m + 4) c) ?_ (hK _ _ rfl (Fr.refl _ _))
          clear hd hG hK
          go_simp
        refine stepsHold.cons (fun wx hG hd K hK => ?_) ?_
        · have h15 : us 15 = (.slice A (m + 4) c) := deps_get hd 0 rfl rfl rfl rfl rfl
          rw [if_pos (wanted_none rfl)]
          have hr := conv_at (HAT.out.keep0 hG) und_bytes und_u8 r_und_str c
          refine wp_value (w2 := wx) (v := .string (strOfNums xs)) ?_ (hK _ _ rfl (Fr.refl _ _))
          clear hd hK
          go_simp
        refine stepsHold.cons (fun wx hG hd K hK => ?_) ?_
        · have h14 : us 14 = (.string (strOfNums ys)) := deps_get hd 0 rfl rfl rfl rfl rfl
          have h16 : us 16 = (.string (strOfNums xs)) := deps_get hd 1 rfl rfl rfl rfl rfl
          rw [if_pos (wanted_none rfl)]
          have hq := HNEQ.out
          refine wp_value (w2 := wx) (v := .bool bq) ?_ (hK _ _ rfl (Fr.refl _ _))
          clear hd hG hK
          go_simp
        exact stepsHold.nil
      case fin =>
        have h10 : us 10 = (.slice A (m + 4) c) := all_get hall 0 rfl rfl rfl
        have h11 : us 11 = (.int .i64 (m : Int)) := all_get hall 1 rfl rfl rfl
        have h12 : us 12 = (.slice A m c) := all_get hall 2 rfl rfl rfl
        have h13 := all_get hall 3 rfl rfl rfl
        have h14 : us 14 = (.string (strOfNums ys)) := all_get hall 4 rfl rfl rfl
        have h15 : us 15 = (.slice A (m + 4) c) := all_get hall 5 rfl rfl rfl
        have h16 : us 16 = (.string (strOfNums xs)) := all_get hall 6 rfl rfl rfl
        have h17 : us 17 = (.bool bq) := all_get hall 7 rfl rfl rfl
        simp only [fillL, Nat.reduceAdd]
        clear hall
        simp only [h10, h11, h12, h14, h15, h16, h17]
        clear h10 h11 h12 h14 h15 h16 h17
        have hbf : bq = false := by rw [HBQ.out]; rfl
        rw [hbf]
        have HAT2 := Lib.hid ((HAT.out.keep0 hG).take m (by omega))
        have f1 : Fr F0 wz (wz.alloc (.cells #[] 5)) := (Fr.refl _ _).alloc _
        have HO1 : Hid ((wz.alloc (.cells #[] 5)).ownsRow wz.heap.size 5 1 (.slice (some ⟨wz.heap.size, 0, none⟩) 0 0) 0 []) := Lib.hid ⟨rfl, .inr ⟨wz.heap.size, 0, #[], rfl, Nat.le_refl _, alloc_at rfl _, Nat.le_refl _, by decide, rfl, rfl⟩⟩
        have HF1 := Lib.hid f1
        have hb1 : wz.heap.size ≤ (wz.alloc (.cells #[] 5)).heap.size := f1.size
        have HB1 := Lib.hid hb1
        have HG := Lib.hid hG
        clear hbf f1 hG hb1
        have hln : (xs.take m).length = m := by have := HL.out; simp; omega
        have HLN := Lib.hid hln
        clear hln
        go_wp2_with (at_builtin; refine wpList_append_vals rfl (.tmp 18) (.tmp 21) 24 5 1 (.int .u8 0) rfl und_bytes info_u8 rfl (by decide) wz.heap.size (.slice (some ⟨wz.heap.size, 0, none⟩) 0 0) [] ((xs.take m).map (Value.int .u8)) A m c (by rfl) (by rfl) (by rw [List.length_map, HLN.out]) (bytes_one _) HO1.out (HAT2.out.keep0 HF1.out).vals HB1.out (by simp; omega) ?_; intro v5 w5 hO5 hf5)
        have HO : Hid (OwnV wz w5 v5 (xs.take m)) := Lib.hid ⟨by have := hO5; rw [HLN.out]; simpa using this, HF1.out.trans hf5 (fun i hi => .inr (own_base HO1.out i hi))⟩
        have hr : openE xs = 0 := by simp [openE, HL.out, HS.out]
        have HR := Lib.hid hr
        clear hO5 hf5 hr
        go_ret2
        refine ⟨_, by rw [HR.out]; rfl, fun _ => ?_, HG.out.then0 HO.out.fr⟩
        have : xs.length - 4 = m := by have := HL.out; omega
        rw [this]
        exact ⟨own_base_le HO.out.own HG.out.size, HG.out.then0 HO.out.fr⟩
    | false =>
      rw [hs] at hq
      obtain ⟨bq, hbq⟩ : ∃ b : Bool, b = (!false) := ⟨_, rfl⟩
      have hqb : ((strOfNums ys).toList == (strOfNums xs).toList) = !bq := by rw [hq, hbq]; rfl
      have HNEQ := Lib.hid hqb
      clear hqb
      have HS := Lib.hid hs
      clear hq hs
      have HBQ := Lib.hid hbq
      clear hbq
      go_enter Tryd.func68, Tryd.ntmps68
      go_wp2_with fail
      refine wp_region_free (S := F0) [false, false, false, false, false, false, false, false, false, false, true, true, true, true, true, true, true, true, false, false, false, false, false] [.eq (.slice A (m + 4) c), .eq (.int .i64 (m : Int)), .eq (.slice A m c), ⟨fun v w' => ∃ A c, v = .slice A (m + 4) c ∧ BytesAt w' A (m + 4) ys, fun v w' w'' ⟨A, c, h1, h2⟩ hf => ⟨A, c, h1, h2.keep0 hf⟩⟩, .eq (.string (strOfNums ys)), .eq (.slice A (m + 4) c), .eq (.string (strOfNums xs)), .eq (.bool bq)] (by kernel_rfl) (by kernel_rfl) (by rfl) (fun us => ?steps) (fun us wz hG hall => ?fin)
      case steps =>
        simp only [fillL, Nat.reduceAdd]
        refine stepsHold.cons (fun wx hG hd K hK => ?_) ?_
        · rw [if_pos (wanted_none rfl)]
          refine wp_value (w2 := wx) (v := .slice A (m + 4) c) ?_ (hK _ _ rfl (Fr.refl _ _))
          clear hd hG hK
          go_simp
        refine stepsHold.cons (fun wx hG hd K hK => ?_) ?_
        · rw [if_pos (wanted_none rfl)]
          refine wp_value (w2 := wx) (v := .int .i64 (m : Int)) ?_ (hK _ _ rfl (Fr.refl _ _))
          clear hd hG hK
          go_simp
        refine stepsHold.cons (fun wx hG hd K hK => ?_) ?_
        · have h10 : us 10 = (.slice A (m + 4) c) := deps_get hd 0 rfl rfl rfl rfl rfl
          have h11 : us 11 = (.int .i64 (m : Int)) := deps_get hd 1 rfl rfl rfl rfl rfl
          rw [if_pos (wanted_none rfl)]
          refine wp_value (w2 := wx) (v := .slice A m c) ?_ (hK _ _ rfl (Fr.refl _ _))
          clear hd hG hK
          go_simp
        refine stepsHold.cons (fun wx hG hd K hK => ?_) ?_
        · have h12 : us 12 = (.slice A m c) := deps_get hd 0 rfl rfl rfl rfl rfl
          rw [if_pos (wanted_none rfl)]
          refine wp_call (w2 := wx) (f := 67) (args := #[.slice A m c]) ?_ ?_
          · clear hd hK
            go_simp
          · refine (rseal_c A m c (xs.take m) ((HAT.out.keep0 hG).take m (by omega)) (by omega) (HBY.out.take m)).mono ?_
            rintro e w9 ⟨v, rfl, hown⟩
            obtain ⟨A9, c9, rfl, hb9, hn9⟩ := hown.byt
            have h9 := hb9.at_
            rw [← HYS.out, HYL.out] at h9 ⊢
            exact ⟨_, rfl, hK _ _ ⟨A9, c9, rfl, h9⟩ hown.fr⟩
        refine stepsHold.cons (fun wx hG hd K hK => ?_) ?_
        · have h13 := deps_get hd 0 rfl rfl rfl rfl rfl
          rw [if_pos (wanted_none rfl)]
          obtain ⟨A9, c9, e9, h9⟩ := h13
          have hr := conv_at h9 und_bytes und_u8 r_und_str c9
          refine wp_value (w2 := wx) (v := .string (strOfNums ys)) ?_ (hK _ _ rfl (Fr.refl _ _))
          clear hd hK
          go_simp
        refine stepsHold.cons (fun wx hG hd K hK => ?_) ?_
        · rw [if_pos (wanted_none rfl)]
          refine wp_value (w2 := wx) (v := .slice A (m + 4) c) ?_ (hK _ _ rfl (Fr.refl _ _))
          clear hd hG hK
          go_simp
        refine stepsHold.cons (fun wx hG hd K hK => ?_) ?_
        · have h15 : us 15 = (.slice A (m + 4) c) := deps_get hd 0 rfl rfl rfl rfl rfl
          rw [if_pos (wanted_none rfl)]
          have hr := conv_at (HAT.out.keep0 hG) und_bytes und_u8 r_und_str c
          refine wp_value (w2 := wx) (v := .string (strOfNums xs)) ?_ (hK _ _ rfl (Fr.refl _ _))
          clear hd hK
          go_simp
        refine stepsHold.cons (fun wx hG hd K hK => ?_) ?_
        · have h14 : us 14 = (.string (strOfNums ys)) := deps_get hd 0 rfl rfl rfl rfl rfl
          have h16 : us 16 = (.string (strOfNums xs)) := deps_get hd 1 rfl rfl rfl rfl rfl
          rw [if_pos (wanted_none rfl)]
          have hq := HNEQ.out
          refine wp_value (w2 := wx) (v := .bool bq) ?_ (hK _ _ rfl (Fr.refl _ _))
          clear hd hG hK
          go_simp
        exact stepsHold.nil
      case fin =>
        have h10 : us 10 = (.slice A (m + 4) c) := all_get hall 0 rfl rfl rfl
        have h11 : us 11 = (.int .i64 (m : Int)) := all_get hall 1 rfl rfl rfl
        have h12 : us 12 = (.slice A m c) := all_get hall 2 rfl rfl rfl
        have h13 := all_get hall 3 rfl rfl rfl
        have h14 : us 14 = (.string (strOfNums ys)) := all_get hall 4 rfl rfl rfl
        have h15 : us 15 = (.slice A (m + 4) c) := all_get hall 5 rfl rfl rfl
        have h16 : us 16 = (.string (strOfNums xs)) := all_get hall 6 rfl rfl rfl
        have h17 : us 17 = (.bool bq) := all_get hall 7 rfl rfl rfl
        simp only [fillL, Nat.reduceAdd]
        clear hall
        simp only [h10, h11, h12, h14, h15, h16, h17]
        clear h10 h11 h12 h14 h15 h16 h17
        have hbf : bq = true := by rw [HBQ.out]; rfl
        rw [hbf]
        have hr : openE xs = 4 := by
          have := HL.out
          simp [openE, HS.out]; omega
        have HR := Lib.hid hr
        have HG := Lib.hid hG
        clear hbf hr hG
        go_wp2_with fail
        go_ret2
        exact ⟨_, by rw [HR.out]; rfl, fun h => by rw [HR.out] at h; omega, HG.out⟩
end
end Go.Proofs.YtdeckbdaencjnaaDoor
