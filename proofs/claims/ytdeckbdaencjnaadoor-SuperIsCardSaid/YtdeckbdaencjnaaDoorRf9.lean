/-
  heronryref08: Encode, Layout. Conditions: none.
-/
import Derived.Test.YtdeckbdaencjnaaDoorRf8
import Derived.ArgAppend
set_option linter.unusedVariables false
set_option linter.unusedSimpArgs false
namespace Go.Proofs.YtdeckbdaencjnaaDoor
open Go.RowKit
section
variable {w : World}
theorem SupAt.all {w : World} {b : Nat} {s : Sup} (h : SupAt w b s) : w.cell? ⟨b, 0, none⟩ = some (.int .i64 s.version) ∧ w.cell? ⟨b, 1, none⟩ = some (.int .i64 s.epoch) ∧ w.cell? ⟨b, 2, none⟩ = some (.int .i64 s.blocks) ∧ w.cell? ⟨b, 3, none⟩ = some (.int .i64 s.counters) ∧ w.cell? ⟨b, 4, none⟩ = some (.int .i64 s.log) ∧ w.cell? ⟨b, 5, none⟩ = some (.int .i64 s.head) ∧ w.cell? ⟨b, 6, none⟩ = some (.int .i64 s.applied) := by
  obtain ⟨t, e⟩ := h.ex
  refine ⟨?_, ?_, ?_, ?_, ?_, ?_, ?_⟩ <;> (rw [cell_of e]; rfl)
set_option maxRecDepth 100000 in
set_option maxHeartbeats 2000000 in
theorem rencode_c (s : Sup) : Calls Tryd.prog 25 #[(.agg #[.int .i64 s.version, .int .i64 s.epoch, .int .i64 s.blocks, .int .i64 s.counters, .int .i64 s.log, .int .i64 s.head, .int .i64 s.applied])] w fun e w' => EncRet w w' e s := by
  have hcv := conv_const
  go_enter Tryd.func25, Tryd.ntmps25
  go_wp2_with fail
  have hS : SupAt (w.alloc (.cells #[.int .i64 s.version, .int .i64 s.epoch, .int .i64 s.blocks, .int .i64 s.counters, .int .i64 s.log, .int .i64 s.head, .int .i64 s.applied] 23)) w.heap.size s := ⟨_, alloc_at rfl _⟩
  have hf0 : Fr F0 w (w.alloc (.cells #[.int .i64 s.version, .int .i64 s.epoch, .int .i64 s.blocks, .int .i64 s.counters, .int .i64 s.log, .int .i64 s.head, .int .i64 s.applied] 23)) := (Fr.refl _ _).alloc _
  refine (rsane_c s).mono ?_
  rintro e w1 ⟨rfl, hf1⟩
  have hS1 := hS.keep0 hf1
  have hfr : Fr F0 w w1 := hf0.then0 hf1
  have hsb : w.heap.size < w1.heap.size := by have := hf1.size; simp at this; omega
  clear hS hf1 hf0
  by_cases hs : s.sane = true
  · have HS := Lib.hid hs
    have hsn : s.Sane := by simpa [Sup.sane] using hs
    obtain ⟨⟨a0, a1⟩, ⟨b0, b1⟩, ⟨c0, c1⟩, ⟨d0, d1⟩, ⟨e0, e1⟩, ⟨f0, f1⟩, ⟨g0, g1⟩⟩ := hsn
    rw [hs]
    clear hs
    have HS1 := Lib.hid hS1
    have HFR := Lib.hid hfr
    clear hS1 hfr
    obtain ⟨i0, hi, hzz⟩ := Option.map_eq_some_iff.1 info_u8
    simp only [Prod.mk.injEq] at hzz
    have HI := Lib.hid hi
    have HZ := Lib.hid hzz
    clear hi hzz
    have HA1 : Hid ((w1.alloc (.cells ([.int .u8 72, .int .u8 69, .int .u8 82, .int .u8 79, .int .u8 78, .int .u8 49] : List Value).toArray 5 (6, 7))).heap[w1.heap.size]? = some (.cells ([.int .u8 72, .int .u8 69, .int .u8 82, .int .u8 79, .int .u8 78, .int .u8 49] : List Value).toArray 5 (6, 7))) := Lib.hid (alloc_at rfl _)
    have HA2 : Hid (((w1.alloc (.cells ([.int .u8 72, .int .u8 69, .int .u8 82, .int .u8 79, .int .u8 78, .int .u8 49] : List Value).toArray 5 (6, 7))).alloc (.cells ([.int .u8 0, .int .u8 0] : List Value).toArray 5)).heap[w1.heap.size + 1]? = some (.cells ([.int .u8 0, .int .u8 0] : List Value).toArray 5 (0, 0))) := Lib.hid (alloc_at (by simp) _)
    go_wp2_with (at_builtin; refine wpList_append_grows _ rfl (.tmp 9) (.tmp 10) 24 rfl 5 i0 (.int .u8 0) 1 1 und_bytes HI.out HZ.out.1 HZ.out.2.1 HZ.out.2.2 rfl (by decide) (some ⟨w1.heap.size, 0, none⟩) 6 6 [.int .u8 72, .int .u8 69, .int .u8 82, .int .u8 79, .int .u8 78, .int .u8 49] (by rfl) (by intro h; cases h) rfl (by intro b hb; cases hb; exact World.news_of_block (keep_alloc HA1.out _)) ⟨w1.heap.size + 1, 0, none⟩ 2 2 [.int .u8 0, .int .u8 0] (by rfl) rfl (World.news_of_block HA2.out) (by decide) (by decide) (by unfold maxLen; decide) (by decide) ?_; intro v5 w5 hown5 hg5; obtain ⟨q0, -, -, -, -, -, -⟩ := (HS1.out.keep0 ((((Fr.refl F0 w1).alloc _).alloc _).grown hg5 (by intro k hk; cases hk))).all; clear hcv)
    have hf5 : Fr F0 w1 w5 := (((Fr.refl F0 w1).alloc _).alloc _).grown hg5 (by intro k hk; cases hk)
    have HO : Hid (OwnV w w5 v5 mark8) := Lib.hid ⟨own_base_le hown5 (by simp; omega), HFR.out.then0 hf5⟩
    have HS1 := Lib.hid (HS1.out.keep0 hf5)
    have hsb : w.heap.size < w5.heap.size := by have := hf5.size; omega
    obtain ⟨x0, hx0⟩ : ∃ x, x = mark8 := ⟨_, rfl⟩
    have HX0 := Lib.hid hx0
    have HL0 : Hid (x0.length = 8) := Lib.hid (by rw [hx0]; rfl)
    rw [← hx0] at HO
    clear hown5 hg5 hf5 hx0
    obtain ⟨A0, c0, rfl, hb0, hn0⟩ := HO.out.byt
    have HB := Lib.hid hb0
    rw [HL0.out]
    clear hb0 hn0
    refine (rput_c A0 8 c0 x0 (by have := HB.out.at_; rwa [HL0.out] at this) (by decide) s.version (by omega) (by omega) 8 (by decide)).mono ?_
    rintro e w6 ⟨v6, rfl, hown⟩
    have hf := hown.fr
    have HO : Hid (OwnV w w6 v6 (x0 ++ le 8 s.version)) := Lib.hid ⟨own_base_le hown.own (Nat.le_of_lt hsb), HO.out.fr.then0 hf⟩
    have HS1 := Lib.hid (HS1.out.keep0 hf)
    have hsb : w.heap.size < w6.heap.size := by have := hf.size; omega
    obtain ⟨x1, hx⟩ : ∃ x, x = x0 ++ le 8 s.version := ⟨_, rfl⟩
    have HX1 := Lib.hid hx
    have HL1 : Hid (x1.length = 16) := Lib.hid (by rw [hx, List.length_append, HL0.out, le_len])
    rw [← hx] at HO
    clear hown hf hx q0
    obtain ⟨A1, c1, rfl, hb1, hn1⟩ := HO.out.byt
    obtain ⟨-, q1, -, -, -, -, -⟩ := HS1.out.all
    have HB := Lib.hid hb1
    rw [HL1.out]
    clear hb1 hn1
    go_wp2_with fail
    refine (rput_c A1 16 c1 x1 (by have := HB.out.at_; rwa [HL1.out] at this) (by decide) s.epoch (by omega) (by omega) 4 (by decide)).mono ?_
    rintro e w7 ⟨v7, rfl, hown⟩
    have hf := hown.fr
    have HO : Hid (OwnV w w7 v7 (x1 ++ le 4 s.epoch)) := Lib.hid ⟨own_base_le hown.own (Nat.le_of_lt hsb), HO.out.fr.then0 hf⟩
    have HS1 := Lib.hid (HS1.out.keep0 hf)
    have hsb : w.heap.size < w7.heap.size := by have := hf.size; omega
    obtain ⟨x2, hx⟩ : ∃ x, x = x1 ++ le 4 s.epoch := ⟨_, rfl⟩
    have HX2 := Lib.hid hx
    have HL2 : Hid (x2.length = 20) := Lib.hid (by rw [hx, List.length_append, HL1.out, le_len])
    rw [← hx] at HO
    clear hown hf hx q1
    obtain ⟨A2, c2, rfl, hb2, hn2⟩ := HO.out.byt
    obtain ⟨-, -, q2, -, -, -, -⟩ := HS1.out.all
    have HB := Lib.hid hb2
    rw [HL2.out]
    clear hb2 hn2
    go_wp2_with fail
    refine (rput_c A2 20 c2 x2 (by have := HB.out.at_; rwa [HL2.out] at this) (by decide) s.blocks (by omega) (by omega) 2 (by decide)).mono ?_
    rintro e w8 ⟨v8, rfl, hown⟩
    have hf := hown.fr
    have HO : Hid (OwnV w w8 v8 (x2 ++ le 2 s.blocks)) := Lib.hid ⟨own_base_le hown.own (Nat.le_of_lt hsb), HO.out.fr.then0 hf⟩
    have HS1 := Lib.hid (HS1.out.keep0 hf)
    have hsb : w.heap.size < w8.heap.size := by have := hf.size; omega
    obtain ⟨x3, hx⟩ : ∃ x, x = x2 ++ le 2 s.blocks := ⟨_, rfl⟩
    have HX3 := Lib.hid hx
    have HL3 : Hid (x3.length = 22) := Lib.hid (by rw [hx, List.length_append, HL2.out, le_len])
    rw [← hx] at HO
    clear hown hf hx q2
    obtain ⟨A3, c3, rfl, hb3, hn3⟩ := HO.out.byt
    obtain ⟨-, -, -, q3, -, -, -⟩ := HS1.out.all
    have HB := Lib.hid hb3
    rw [HL3.out]
    clear hb3 hn3
    go_wp2_with fail
    refine (rput_c A3 22 c3 x3 (by have := HB.out.at_; rwa [HL3.out] at this) (by decide) s.counters (by omega) (by omega) 2 (by decide)).mono ?_
    rintro e w9 ⟨v9, rfl, hown⟩
    have hf := hown.fr
    have HO : Hid (OwnV w w9 v9 (x3 ++ le 2 s.counters)) := Lib.hid ⟨own_base_le hown.own (Nat.le_of_lt hsb), HO.out.fr.then0 hf⟩
    have HS1 := Lib.hid (HS1.out.keep0 hf)
    have hsb : w.heap.size < w9.heap.size := by have := hf.size; omega
    obtain ⟨x4, hx⟩ : ∃ x, x = x3 ++ le 2 s.counters := ⟨_, rfl⟩
    have HX4 := Lib.hid hx
    have HL4 : Hid (x4.length = 24) := Lib.hid (by rw [hx, List.length_append, HL3.out, le_len])
    rw [← hx] at HO
    clear hown hf hx q3
    obtain ⟨A4, c4, rfl, hb4, hn4⟩ := HO.out.byt
    obtain ⟨-, -, -, -, q4, -, -⟩ := HS1.out.all
    have HB := Lib.hid hb4
    rw [HL4.out]
    clear hb4 hn4
    go_wp2_with fail
    refine (rput_c A4 24 c4 x4 (by have := HB.out.at_; rwa [HL4.out] at this) (by decide) s.log (by omega) (by omega) 2 (by decide)).mono ?_
    rintro e w10 ⟨v10, rfl, hown⟩
    have hf := hown.fr
    have HO : Hid (OwnV w w10 v10 (x4 ++ le 2 s.log)) := Lib.hid ⟨own_base_le hown.own (Nat.le_of_lt hsb), HO.out.fr.then0 hf⟩
    have HS1 := Lib.hid (HS1.out.keep0 hf)
    have hsb : w.heap.size < w10.heap.size := by have := hf.size; omega
    obtain ⟨x5, hx⟩ : ∃ x, x = x4 ++ le 2 s.log := ⟨_, rfl⟩
    have HX5 := Lib.hid hx
    have HL5 : Hid (x5.length = 26) := Lib.hid (by rw [hx, List.length_append, HL4.out, le_len])
    rw [← hx] at HO
    clear hown hf hx q4
    obtain ⟨A5, c5, rfl, hb5, hn5⟩ := HO.out.byt
    obtain ⟨-, -, -, -, -, q5, -⟩ := HS1.out.all
    have HB := Lib.hid hb5
    rw [HL5.out]
    clear hb5 hn5
    go_wp2_with fail
    refine (rput_c A5 26 c5 x5 (by have := HB.out.at_; rwa [HL5.out] at this) (by decide) s.head (by omega) (by omega) 8 (by decide)).mono ?_
    rintro e w11 ⟨v11, rfl, hown⟩
    have hf := hown.fr
    have HO : Hid (OwnV w w11 v11 (x5 ++ le 8 s.head)) := Lib.hid ⟨own_base_le hown.own (Nat.le_of_lt hsb), HO.out.fr.then0 hf⟩
    have HS1 := Lib.hid (HS1.out.keep0 hf)
    have hsb : w.heap.size < w11.heap.size := by have := hf.size; omega
    obtain ⟨x6, hx⟩ : ∃ x, x = x5 ++ le 8 s.head := ⟨_, rfl⟩
    have HX6 := Lib.hid hx
    have HL6 : Hid (x6.length = 34) := Lib.hid (by rw [hx, List.length_append, HL5.out, le_len])
    rw [← hx] at HO
    clear hown hf hx q5
    obtain ⟨A6, c6, rfl, hb6, hn6⟩ := HO.out.byt
    obtain ⟨-, -, -, -, -, -, q6⟩ := HS1.out.all
    have HB := Lib.hid hb6
    rw [HL6.out]
    clear hb6 hn6
    go_wp2_with fail
    refine (rput_c A6 34 c6 x6 (by have := HB.out.at_; rwa [HL6.out] at this) (by decide) s.applied (by omega) (by omega) 8 (by decide)).mono ?_
    rintro e w12 ⟨v12, rfl, hown⟩
    have hf := hown.fr
    have HO : Hid (OwnV w w12 v12 (x6 ++ le 8 s.applied)) := Lib.hid ⟨own_base_le hown.own (Nat.le_of_lt hsb), HO.out.fr.then0 hf⟩
    have HS1 := Lib.hid (HS1.out.keep0 hf)
    have hsb : w.heap.size < w12.heap.size := by have := hf.size; omega
    obtain ⟨x7, hx⟩ : ∃ x, x = x6 ++ le 8 s.applied := ⟨_, rfl⟩
    have HX7 := Lib.hid hx
    have HL7 : Hid (x7.length = 42) := Lib.hid (by rw [hx, List.length_append, HL6.out, le_len])
    rw [← hx] at HO
    clear hown hf hx q6
    go_wp2_with fail
    go_loopg [4] 18 (fun kq x4 wr => ∃ p : Nat, p ≤ 18 ∧ kq = 18 - p ∧ OwnV w wr x4 (x7 ++ List.replicate p 0))
    case atStart => exact ⟨0, by omega, rfl, by simpa using HO.out⟩
    case round =>
      obtain ⟨p, hp, rfl, hown⟩ := hrel
      have HOW := Lib.hid hown
      obtain ⟨A9, c9, rfl, hb9, hn9⟩ := hown.byt
      have hsz := hown.fr.size
      have hlen : (x7 ++ List.replicate p (0 : Int)).length = 42 + p := by rw [List.length_append, HL7.out, List.length_replicate]
      have HLEN := Lib.hid hlen
      rw [hlen]
      have HB9 := Lib.hid hb9
      clear hown hlen hb9 hn9
      have p0 : (0 : Int) ≤ (p : Int) := Int.natCast_nonneg _
      by_cases hlt : p < 18
      · have h60 : 42 + p < 60 := by omega
        go_wp2_with (at_builtin; refine wpList_append_one rfl (.tmp 50) (.tmp 51) 24 5 1 (.int .u8 0) rfl und_bytes info_u8 rfl (by decide) w.heap.size (.slice A9 (42 + p) c9) ((x7 ++ List.replicate p (0 : Int)).map (Value.int .u8)) (.int .u8 0) (by rfl) (by rfl) rfl (by have := HOW.out.own; rw [List.length_map, HLEN.out]; rw [HLEN.out] at this; exact this) hsz (by rw [List.length_map, HLEN.out]; omega) ?_; intro v3 w3 hown3 hf3)
        go_roundg (18 - (p + 1))
        case measure => omega
        case rel =>
          refine ⟨p + 1, by omega, rfl, ?_⟩
          have e1 : x7 ++ List.replicate (p + 1) (0 : Int) = (x7 ++ List.replicate p 0) ++ [0] := by rw [List.replicate_succ', List.append_assoc]
          rw [e1]
          have ho := HOW.out.own
          rw [HLEN.out] at ho
          refine ⟨?_, HOW.out.fr.trans hf3 (fun i hi => .inr (own_base ho i hi))⟩
          have := hown3
          rw [List.length_map] at this
          simpa [Nat.add_assoc] using this
      · have hpe : p = 18 := by omega
        subst hpe
        have hbody : x7 ++ List.replicate 18 0 = s.body := by
          rw [HX7.out, HX6.out, HX5.out, HX4.out, HX3.out, HX2.out, HX1.out, HX0.out]
          simp only [Sup.body, Sup.nums, List.append_assoc]
        have hbys : Bys s.body := fun x hx => Sup.enc_bys s x (List.mem_append.2 (.inl hx))
        have hat := HB9.out.at_
        rw [HLEN.out, hbody] at hat
        have hfrw := HOW.out.fr
        have HBYS := Lib.hid hbys
        clear hbody hbys
        go_wp2_with fail
        refine (rseal_c A9 60 c9 s.body hat (by decide) HBYS.out).mono ?_
        rintro e wz ⟨vz, rfl, hownz⟩
        have hr : s.encE = 0 := by simp [Sup.encE, HS.out]
        have HR := Lib.hid hr
        have HZ2 := Lib.hid hownz
        clear hr hownz hat
        go_wp2_with fail
        go_ret2
        exact ⟨_, by rw [HR.out]; rfl, (fun _ => ⟨own_base_le HZ2.out.own hsz, hfrw.then0 HZ2.out.fr⟩), (fun h => by rw [HS.out] at h; cases h), hfrw.then0 HZ2.out.fr⟩
  · have hs' : s.sane = false := by simpa using hs
    have hr : s.encE = 1 := by simp [Sup.encE, hs']
    have HS := Lib.hid hs'
    have HR := Lib.hid hr
    rw [hs']
    clear hs hs' hr
    go_wp2_with fail
    go_ret2
    exact ⟨_, by rw [HR.out]; rfl, (fun h => by rw [HS.out] at h; cases h), fun _ => rfl, hfr⟩
end
end Go.Proofs.YtdeckbdaencjnaaDoor
