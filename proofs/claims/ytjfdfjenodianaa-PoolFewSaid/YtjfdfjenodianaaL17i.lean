/-
  heronrylaw17.PoolFew: the walk. Conditions: none.
-/
import Derived.Test.YtjfdfjenodianaaStr17
import Derived.Test.YtjfdfjenodianaaP17g
set_option linter.unusedVariables false
set_option linter.unusedSimpArgs false
namespace Go.Proofs.Ytjfdfjenodianaa
open Go.RowKit
theorem addr_add0 (a : Addr) : a.add 0 = a := by
  obtain ⟨b, o, s⟩ := a
  unfold Addr.add
  split <;> simp_all
def boolsA (B : List Bool) : Array Value := (B.map Value.bool).toArray
theorem boolsA_set (B : List Bool) (i : Nat) (b : Bool) : (boolsA B).setIfInBounds i (.bool b) = boolsA (B.set i b) := by simp [boolsA, List.map_set]
theorem boolsA_get (B : List Bool) (i : Nat) : (boolsA B)[i]? = (B[i]?).map Value.bool := by simp [boolsA]
def no8 : List Bool := List.replicate 8 false
theorem make17_bools (w : World) : (Instr.makeSlice 45 (.int .i64 8) (.int .i64 8)).run Try.prog w = .ok (.slice (some ⟨w.heap.size, 0, none⟩) 8 8) (w.alloc (.cells (boolsA no8) 4)) := by
  have := run_make_row' (P := Try.prog) 45 4 (.bool false) 1 (by kernel_rfl) (by kernel_rfl) rfl .i64 .i64 8 (by decide) (by decide) w
  have e : madeCells #[Value.bool false] 8 = boolsA no8 := by kernel_rfl
  rw [e] at this
  exact this
/-- Two pools on one device at the law: so many met. -/
structure FewAt (w0 w : World) (pa pf db lb mb tb N : Nat) (D : Dev) (k : Int) (n : Nat) : Prop where
  ex : ∃ Ma Mf Pa Pf B, PoolIn Ma w pa db lb mb 8 N Pa D ∧ PoolIn Mf w pf db lb mb 8 N Pf D ∧ AllMet Pa D B ∧ FewMet Pf D B k ∧ (∀ x, Ma x → ¬ Mf x) ∧ (∀ x, Ma x ∨ Mf x → w0.heap.size ≤ x ∧ x ≠ tb) ∧ w.heap[tb]? = some (.cells (boolsA B) 4 (0, 0)) ∧ n = B.countP id
  fr : Fr F0 w0 w
section
variable {w : World}
set_option maxRecDepth 100000 in
set_option maxHeartbeats 4000000 in
theorem few_walk (A : Option Addr) (n c : Nat) (xs : List Int) (rn : Int) (hl0 : xs.length = n) (hV0 : ValsAt w A (xs.map (Value.int .i64))) (hn : n ≤ 9223372036854775807) :
    Calls Try.prog 4 #[.slice A n c, .int .i64 rn] w fun e w' => e = .returned (.bool true) ∧ Fr F0 w w' := by
  have HL0 := Lib.hid hl0
  have HV0 := Lib.hid hV0
  clear hl0 hV0
  have a0 : (0 : Int) ≤ (n : Int) := Int.natCast_nonneg _
  by_cases hbig : 100 < n
  · have hb0 : (100 : Int) < (n : Int) := by omega
    go_enter Try.func4, Try.ntmps4
    go_wp2_with fail
    refine (awake17_c).mono ?_
    rintro e w1 ⟨rfl, hf1⟩
    go_wp2_with fail
    go_ret
    exact ⟨rfl, hf1⟩
  have hb0 : ¬ (100 : Int) < (n : Int) := by omega
  obtain ⟨r, hr⟩ : ∃ r : Nat, rn % 8 = (r : Int) := ⟨(rn % 8).toNat, by omega⟩
  have hr8 : r < 8 := by omega
  have hbandr : bits .and .i64 rn 7 = (r : Int) := by rw [← hr]; exact i64_and rn 3 (by decide)
  have hr1 : IntKind.i64.wrap (1 + (r : Int)) = 1 + (r : Int) := by rw [IntKind.wrap_i64]; omega
  clear hr
  go_enter Try.func4, Try.ntmps4
  go_wp2_with fail
  refine (awake17_c).mono ?_
  rintro e w1 ⟨rfl, hf1⟩
  have HF1 := Lib.hid hf1
  clear hf1
  go_wp2_with fail
  refine (new_c 8 (by decide) (by decide) _).mono ?_
  rintro e w2 ⟨db, lb, mb, rfl, h1, n1, n2, n3', hf2⟩
  have HD2 := Lib.hid h1
  have HF2 := Lib.hid (HF1.out.then0 hf2)
  have HN : Hid (∀ k, Dv db lb mb k → w.heap.size ≤ k) := Lib.hid (fun k hk => by
    have := HF1.out.size
    rcases hk with h | h | h <;> omega)
  clear h1 n1 n2 n3' hf2
  go_wp2_with fail
  go_loopg [8] 8 (fun kq x8 wr => ∃ j : Nat, j ≤ 8 ∧ kq = 8 - j ∧ x8 = .int .i64 (j : Int) ∧ (∃ D, DevAt Try.prog 3 wr db lb mb D ∧ Wrote D j) ∧ Fr F0 w wr)
  case atStart => exact ⟨0, by omega, rfl, rfl, ⟨_, HD2.out, Wrote.new⟩, HF2.out⟩
  case round =>
    obtain ⟨j, hj, rfl, rfl, ⟨D, hD, hW⟩, hfr⟩ := hrel
    have HD := Lib.hid hD
    have HW := Lib.hid hW
    have HF := Lib.hid hfr
    clear hD hW hfr
    have j0 : (0 : Int) ≤ (j : Int) := Int.natCast_nonneg _
    by_cases hlt : j < 8
    · have j1 : (j : Int) < 8 := by omega
      have hu8 : IntKind.u8.wrap ((j : Int) + 1) = (j : Int) + 1 := by rw [IntKind.wrap_u8]; omega
      have hu64 : IntKind.i64.wrap ((j : Int) + 1) = (j : Int) + 1 := by rw [IntKind.wrap_i64]; omega
      obtain ⟨g1, g2⟩ := HW.out.write hlt
      have HG1 := Lib.hid g1
      have HG2 := Lib.hid g2
      clear g1 g2
      have HAL := Lib.hid ((Fr.refl F0 wr).alloc (.cells #[.int .u8 ((j : Int) + 1)] 5))
      go_wp2_with fail
      refine (write_c (HD.out.keep0 HAL.out) (j : Int) (some ⟨wr.heap.size, 0, none⟩) 1 [(j : Int) + 1] 1 (BytesAt.of_block (xs := [(j : Int) + 1]) (alloc_at rfl _)) (fun _ ad e h => by
        cases e
        have := HD.out.dv_lt db (.inl rfl)
        have h' : wr.heap.size = db := h
        omega)).mono ?_
      rintro e w3 ⟨rfl, hd3, hf3⟩
      rw [HG1.out]
      have HD3 := Lib.hid hd3
      have HF3 := Lib.hid ((HF.out.then0 HAL.out).trans hf3 (fun k hk => .inr (HN.out k hk)))
      clear hd3 hf3
      go_wp2_with fail
      go_roundg (8 - (j + 1))
      case measure => omega
      case rel => exact ⟨j + 1, by omega, rfl, by first | rfl | (go_num), ⟨_, HD3.out, HG2.out⟩, HF3.out⟩
    · have hjn : j = 8 := by omega
      subst hjn
      go_wp2_with fail
      refine (PoolIn.new HD.out HW.out.good 8 (by decide) (by decide)).mono ?_
      rintro e w4 ⟨pa, rfl, hpa, hin4, hf4⟩
      have HI4 : Hid (PoolIn (fun x => x = pa) w4 pa db lb mb 8 0 ⟨[], 8, 0, 0, 0⟩ D) := Lib.hid hin4
      have HF4 := Lib.hid (HF.out.then0 hf4)
      have HPA : Hid (w.heap.size ≤ pa) := Lib.hid (by have := HF.out.size; omega)
      clear hpa hin4 hf4
      go_wp2_with fail
      refine (PoolIn.new HI4.out.dev HW.out.good (1 + (r : Int)) (by omega) (by omega)).mono ?_
      rintro e w5 ⟨pf, rfl, hpf, hin5, hf5⟩
      have HI5 : Hid (PoolIn (fun x => x = pf) w5 pf db lb mb 8 0 ⟨[], 1 + (r : Int), 0, 0, 0⟩ D) := Lib.hid hin5
      have HJ5 := Lib.hid (HI4.out.keep0 hf5)
      have HPF : Hid (w.heap.size ≤ pf ∧ pf ≠ pa) := Lib.hid (by
        have h1 := HF4.out.size
        have h2 := HI4.out.lt pa (.inl rfl)
        omega)
      have HF5 := Lib.hid (HF4.out.then0 hf5)
      clear hpf hin5 hf5
      have hmk := make17_bools w5
      go_upto_region 15 with fail
      obtain ⟨tb, htb⟩ : ∃ tb, tb = w5.heap.size := ⟨_, rfl⟩
      have HT6 : Hid ((w5.alloc (.cells (boolsA no8) 4)).heap[tb]? = some (.cells (boolsA no8) 4 (0, 0))) := Lib.hid (by rw [htb]; exact alloc_at rfl _)
      have HI6 := Lib.hid (HI5.out.keep0 ((Fr.refl F0 w5).alloc (.cells (boolsA no8) 4)))
      have HJ6 := Lib.hid (HJ5.out.keep0 ((Fr.refl F0 w5).alloc (.cells (boolsA no8) 4)))
      have HF6 := Lib.hid (HF5.out.alloc (.cells (boolsA no8) 4))
      have HTB : Hid (tb ≠ pa ∧ tb ≠ pf ∧ (¬ Dv db lb mb tb) ∧ w.heap.size ≤ tb) := Lib.hid (by
        have h1 := HJ5.out.lt pa (.inl rfl)
        have h2 := HI5.out.lt pf (.inl rfl)
        have h3 := HF5.out.size
        refine ⟨by omega, by omega, fun hk => ?_, by omega⟩
        have := HI5.out.lt tb (.inr hk)
        omega)
      rw [← htb]
      clear hmk htb
      generalize (w5.alloc (.cells (boolsA no8) 4)) = w6 at *
      go_wp2_with fail
      go_loopg [15, 16, 17, 18, 19, 20, 21] n (fun kq x15 x16 x17 x18 x19 x20 x21 wr => ∃ i m : Nat, i ≤ n ∧ m ≤ i ∧ kq = n - i ∧ x16 = .int .i64 (i : Int) ∧ x15 = .int .i64 (m : Int) ∧ FewAt w wr pa pf db lb mb tb i D (1 + (r : Int)) m)
      case atStart =>
        refine ⟨0, 0, by omega, by omega, rfl, rfl, rfl, ⟨⟨_, _, _, _, no8, HJ6.out, HI6.out, AllMet.new D, FewMet.new D _, fun x h1 h2 => HPF.out.2 (h2.symm.trans h1), fun x hx => ?_, HT6.out, rfl⟩, HF6.out⟩⟩
        rcases hx with hx | hx
        · exact ⟨by have := HPA.out; omega, by have := HTB.out.1; omega⟩
        · exact ⟨by have := HPF.out.1; omega, by have := HTB.out.2.1; omega⟩
      case round =>
        obtain ⟨i, m, hi, hmi, rfl, rfl, rfl, hfa⟩ := hrel
        obtain ⟨⟨Ma, Mf, Pa, Pf, B, hia, hif, hall, hfew, hap, hup, htb, hcnt⟩, hfr⟩ := hfa
        have HIA := Lib.hid hia
        have HIF := Lib.hid hif
        have HALL := Lib.hid hall
        have HFEW := Lib.hid hfew
        have HAP := Lib.hid hap
        have HUP := Lib.hid hup
        have HTBL := Lib.hid htb
        have HCNT := Lib.hid hcnt
        have HFR := Lib.hid hfr
        clear hia hif hall hfew hap hup htb hcnt hfr
        have i0 : (0 : Int) ≤ (i : Int) := Int.natCast_nonneg _
        have m0 : (0 : Int) ≤ (m : Int) := Int.natCast_nonneg _
        by_cases hlt2 : i < n
        · have i1 : (i : Int) < (n : Int) := by omega
          obtain ⟨x, hx⟩ : ∃ x, xs[i]? = some x := ⟨xs[i]'(by rw [HL0.out]; exact hlt2), List.getElem?_eq_getElem _⟩
          obtain ⟨ad, rfl, hc⟩ := (HV0.out.keep0 HFR.out).cells (by rw [List.length_map, HL0.out]; omega)
          have gx : wr.cell? (ad.add i) = some (.int .i64 x) := hc i _ (by simp [hx])
          obtain ⟨z, hz⟩ : ∃ z : Nat, x % 8 = (z : Int) := ⟨(x % 8).toNat, by omega⟩
          have hz8 : z < 8 := by omega
          have hz0 : (0 : Int) ≤ (z : Int) := Int.natCast_nonneg _
          have hz1 : (z : Int) < 8 := by omega
          have hbandz : bits .and .i64 x 7 = (z : Int) := by rw [← hz]; exact i64_and x 3 (by decide)
          have hu8 : IntKind.u8.wrap ((z : Int) + 1) = (z : Int) + 1 := by rw [IntKind.wrap_u8]; omega
          have hu64 : IntKind.i64.wrap ((z : Int) + 1) = (z : Int) + 1 := by rw [IntKind.wrap_i64]; omega
          clear hc hx hz
          cases hB : B[z]? with
          | none => rw [List.getElem?_eq_none_iff, HALL.out.len] at hB; omega
          | some b =>
            have HBZ := Lib.hid hB
            clear hB
            have hcb : wr.cell? ⟨tb, z, none⟩ = some (.bool b) := by rw [cell_of HTBL.out, boolsA_get, HBZ.out]; rfl
            have hfz : wr.frozen? ⟨tb, z, none⟩ = false := free_of HTBL.out _
            cases b with
            | true =>
              have HA6 := HIA
              have HG6 := HIF
              have HT6 : Hid (wr.heap[tb]? = some (.cells (boolsA (B.set z true)) 4 (0, 0))) := Lib.hid (by rw [count_met HBZ.out]; exact HTBL.out)
              have HFR6 := HFR
              have HC6 : Hid (m = (B.set z true).countP id) := Lib.hid (by rw [count_met HBZ.out]; exact HCNT.out)
              clear hfz
              go_wp2_with fail
              refine (HA6.out.get (by omega) z hz8).mono ?_
              intro e w7 hg
              obtain ⟨-, t2, ⟨i7, t3⟩, -, -⟩ := HALL.out.tidy.hold HA6.out.wf (a := z)
              have HALL7 := Lib.hid (HALL.out.hold HA6.out.wf hz8)
              cases hg with
              | no M' hs hin ho he hf => rw [ho] at t3; cases t3
              | yes Ma' hs hin i9 f9 A9 c9 ho hi9 he hb hl hA hf =>
              subst he
              have hfb := HALL.out.tidy.found HA6.out.wf ho hi9
              rw [t2] at hin
              have hsz6 := HFR6.out.size
              have hlt6 := HG6.out.lt
              have HAP7 : Hid (∀ x, Ma' x → ¬ Mf x) := Lib.hid (fun x hx hx2 => by
                rcases hs x hx with h5 | h5
                · exact HAP.out x h5 hx2
                · have := hlt6 x (.inl hx2); omega)
              have HUP7 : Hid (∀ x, Ma' x ∨ Mf x → w.heap.size ≤ x ∧ x ≠ tb) := Lib.hid (fun x hx => by
                rcases hx with hx | hx
                · rcases hs x hx with h5 | h5
                  · exact HUP.out x (.inl h5)
                  · have := lt_of_block HT6.out; omega
                · exact HUP.out x (.inr hx))
              have HG7 := Lib.hid (HG6.out.other hf HAP.out hin.dev)
              have HA7 := Lib.hid hin
              have HT7 := Lib.hid (hf.keep HT6.out (fun hk => by
                rcases hk with hk | hk
                · exact (HUP.out _ (.inl hk)).2 rfl
                · exact HTB.out.2.2.1 hk))
              have HFR7 := Lib.hid (HFR6.out.trans hf (fun k hk => .inr (by
                rcases hk with hk | hk
                · exact (HUP.out _ (.inl hk)).1
                · exact HN.out k hk)))
              rw [hfb] at hb hl
              have HB7 := Lib.hid hb
              have HL7 := Lib.hid hl
              have HA9 : Hid (∀ ad, A9 = some ad → ¬ Mf ad.block ∧ ¬ Dv db lb mb ad.block) := Lib.hid (fun ad e => by
                have h5 := (hA ad e).1
                refine ⟨fun hk => ?_, fun hk => ?_⟩
                · have := hlt6 _ (.inl hk); omega
                · have := hlt6 _ (.inr hk); omega)
              clear hs hin ho hi9 hb hl hA hf hfb t2 t3 hsz6 hlt6
              go_wp2_with fail
              refine (HG7.out.get (by omega) z hz8).mono ?_
              intro e w8 hg
              obtain ⟨-, t2, ⟨i7, t3⟩, -, -⟩ := HFEW.out.tidy.hold HG7.out.wf (a := z)
              have HFEW8 := Lib.hid (HFEW.out.hold HG7.out.wf hz8)
              cases hg with
              | no M' hs hin ho he hf => rw [ho] at t3; cases t3
              | yes Mf' hs hin i9 f9 A10 c10 ho hi9 he hb hl hA hf =>
              subst he
              have hfb := HFEW.out.tidy.found HG7.out.wf ho hi9
              rw [t2] at hin
              have hlt7 := HA7.out.lt
              have HAP8 : Hid (∀ x, Ma' x → ¬ Mf' x) := Lib.hid (fun x hx hx2 => by
                rcases hs x hx2 with h5 | h5
                · exact HAP7.out x hx h5
                · have := hlt7 x (.inl hx); omega)
              have HUP8 : Hid (∀ x, Ma' x ∨ Mf' x → w.heap.size ≤ x ∧ x ≠ tb) := Lib.hid (fun x hx => by
                rcases hx with hx | hx
                · exact HUP7.out x (.inl hx)
                · rcases hs x hx with h5 | h5
                  · exact HUP7.out x (.inr h5)
                  · have := lt_of_block HT7.out
                    have := HFR7.out.size
                    omega)
              have HA8 := Lib.hid (HA7.out.other hf (fun k h1 h2 => HAP7.out k h2 h1) hin.dev)
              have HG8 := Lib.hid hin
              have HT8 := Lib.hid (hf.keep HT7.out (fun hk => by
                rcases hk with hk | hk
                · exact (HUP7.out _ (.inr hk)).2 rfl
                · exact HTB.out.2.2.1 hk))
              have HFR8 := Lib.hid (HFR7.out.trans hf (fun k hk => .inr (by
                rcases hk with hk | hk
                · exact (HUP7.out _ (.inr hk)).1
                · exact HN.out k hk)))
              rw [hfb] at hb hl
              have hb9 := HB7.out.keep hf (fun _ ad e hk => by
                rcases hk with hk | hk
                · exact (HA9.out ad e).1 hk
                · exact (HA9.out ad e).2 hk)
              have hb9a := hb9.at_
              have hb10a := hb.at_
              rw [HL7.out] at hb9a hb10a
              have hcv1 := conv_at hb9a und17_bytes und17_u8 und17_string c9
              have hcv2 := conv_at hb10a und17_bytes und17_u8 und17_string c10
              obtain ⟨ad9, rfl, hcc⟩ := hb9a.cells (by decide)
              have hhas := HW.out.has z hz8
              have gx9 : w8.cell? ad9 = some (.int .u8 ((z : Int) + 1)) := by have h5 := hcc 0 _ (show _ = some (Value.int .u8 ((z : Int) + 1)) by rw [hhas]; rfl); rwa [addr_add0] at h5
              have HHE : Hid (∀ (e : Ending) (w9 : World), Listed w8 w9 e ((Pf.hold D z).2.1.listed fun _ => true) → ∃ A11 n11 c11, e = .returned (.slice A11 n11 c11) ∧ (n11 : Int) ≤ 1 + (r : Int) ∧ Hid (Fr F0 w8 w9)) := Lib.hid (by
                intro e w9 hlx
                obtain ⟨A11, c11, he, -, -, hf9⟩ := hlx.ex
                refine ⟨A11, _, c11, he, ?_, Lib.hid hf9⟩
                rw [listed_all_len]
                have h1 := HG8.out.wf.ok.fit
                have h2 := HFEW8.out.room_
                omega)
              clear hs hin ho hi9 hb hl hA hf hfb t2 t3 hlt7 hb9 hb9a hb10a hcc hhas
              go_wp2_with fail
              refine (HG8.out.held).mono ?_
              intro e w9 hlx
              obtain ⟨A11, n11, c11, rfl, hn11, HF9⟩ := HHE.out e w9 hlx
              have hn11' : ¬ (1 + (r : Int)) < (n11 : Int) := by omega
              clear hlx gx9 hcv1 hcv2
              go_wp2_with fail
              go_roundg (n - (i + 1))
              case measure => omega
              case rel => exact ⟨i + 1, m, by omega, by omega, rfl, by first | rfl | (go_num), by first | rfl | (go_num), ⟨⟨Ma', Mf', _, _, B.set z true, HA8.out.keep0 HF9.out, HG8.out.keep0 HF9.out, HALL7.out, HFEW8.out, HAP8.out, HUP8.out, HF9.out.keep0 HT8.out, HC6.out⟩, HFR8.out.then0 HF9.out⟩⟩
            | false =>
              have hfw : Fr (fun k => k = tb) wr (wr.setCell ⟨tb, z, none⟩ (.bool true)) := (Fr.refl (fun k => k = tb) wr).setCell (p := ⟨tb, z, none⟩) (.inl rfl) _
              have HA6 : Hid (PoolIn Ma (wr.setCell ⟨tb, z, none⟩ (.bool true)) pa db lb mb 8 i Pa D) := Lib.hid (HIA.out.keep hfw (fun k hk => by subst hk; exact ⟨fun h => (HUP.out _ (.inl h)).2 rfl, HTB.out.2.2.1⟩))
              have HG6 : Hid (PoolIn Mf (wr.setCell ⟨tb, z, none⟩ (.bool true)) pf db lb mb 8 i Pf D) := Lib.hid (HIF.out.keep hfw (fun k hk => by subst hk; exact ⟨fun h => (HUP.out _ (.inr h)).2 rfl, HTB.out.2.2.1⟩))
              have HT6 : Hid ((wr.setCell ⟨tb, z, none⟩ (.bool true)).heap[tb]? = some (.cells (boolsA (B.set z true)) 4 (0, 0))) := Lib.hid (by rw [set_cell HTBL.out, boolsA_set])
              have HFR6 : Hid (Fr F0 w (wr.setCell ⟨tb, z, none⟩ (.bool true))) := Lib.hid (HFR.out.setCell (p := ⟨tb, z, none⟩) (.inr HTB.out.2.2.2) _)
              have HC6 : Hid (m + 1 = (B.set z true).countP id) := Lib.hid (by rw [(count_new HBZ.out).1, ← HCNT.out])
              clear hfw
              go_wp2_with fail
              refine (HA6.out.get (by omega) z hz8).mono ?_
              intro e w7 hg
              obtain ⟨-, t2, ⟨i7, t3⟩, -, -⟩ := HALL.out.tidy.hold HA6.out.wf (a := z)
              have HALL7 := Lib.hid (HALL.out.hold HA6.out.wf hz8)
              cases hg with
              | no M' hs hin ho he hf => rw [ho] at t3; cases t3
              | yes Ma' hs hin i9 f9 A9 c9 ho hi9 he hb hl hA hf =>
              subst he
              have hfb := HALL.out.tidy.found HA6.out.wf ho hi9
              rw [t2] at hin
              have hsz6 := HFR6.out.size
              have hlt6 := HG6.out.lt
              have HAP7 : Hid (∀ x, Ma' x → ¬ Mf x) := Lib.hid (fun x hx hx2 => by
                rcases hs x hx with h5 | h5
                · exact HAP.out x h5 hx2
                · have := hlt6 x (.inl hx2); omega)
              have HUP7 : Hid (∀ x, Ma' x ∨ Mf x → w.heap.size ≤ x ∧ x ≠ tb) := Lib.hid (fun x hx => by
                rcases hx with hx | hx
                · rcases hs x hx with h5 | h5
                  · exact HUP.out x (.inl h5)
                  · have := lt_of_block HT6.out; omega
                · exact HUP.out x (.inr hx))
              have HG7 := Lib.hid (HG6.out.other hf HAP.out hin.dev)
              have HA7 := Lib.hid hin
              have HT7 := Lib.hid (hf.keep HT6.out (fun hk => by
                rcases hk with hk | hk
                · exact (HUP.out _ (.inl hk)).2 rfl
                · exact HTB.out.2.2.1 hk))
              have HFR7 := Lib.hid (HFR6.out.trans hf (fun k hk => .inr (by
                rcases hk with hk | hk
                · exact (HUP.out _ (.inl hk)).1
                · exact HN.out k hk)))
              rw [hfb] at hb hl
              have HB7 := Lib.hid hb
              have HL7 := Lib.hid hl
              have HA9 : Hid (∀ ad, A9 = some ad → ¬ Mf ad.block ∧ ¬ Dv db lb mb ad.block) := Lib.hid (fun ad e => by
                have h5 := (hA ad e).1
                refine ⟨fun hk => ?_, fun hk => ?_⟩
                · have := hlt6 _ (.inl hk); omega
                · have := hlt6 _ (.inr hk); omega)
              clear hs hin ho hi9 hb hl hA hf hfb t2 t3 hsz6 hlt6
              go_wp2_with fail
              refine (HG7.out.get (by omega) z hz8).mono ?_
              intro e w8 hg
              obtain ⟨-, t2, ⟨i7, t3⟩, -, -⟩ := HFEW.out.tidy.hold HG7.out.wf (a := z)
              have HFEW8 := Lib.hid (HFEW.out.hold HG7.out.wf hz8)
              cases hg with
              | no M' hs hin ho he hf => rw [ho] at t3; cases t3
              | yes Mf' hs hin i9 f9 A10 c10 ho hi9 he hb hl hA hf =>
              subst he
              have hfb := HFEW.out.tidy.found HG7.out.wf ho hi9
              rw [t2] at hin
              have hlt7 := HA7.out.lt
              have HAP8 : Hid (∀ x, Ma' x → ¬ Mf' x) := Lib.hid (fun x hx hx2 => by
                rcases hs x hx2 with h5 | h5
                · exact HAP7.out x hx h5
                · have := hlt7 x (.inl hx); omega)
              have HUP8 : Hid (∀ x, Ma' x ∨ Mf' x → w.heap.size ≤ x ∧ x ≠ tb) := Lib.hid (fun x hx => by
                rcases hx with hx | hx
                · exact HUP7.out x (.inl hx)
                · rcases hs x hx with h5 | h5
                  · exact HUP7.out x (.inr h5)
                  · have := lt_of_block HT7.out
                    have := HFR7.out.size
                    omega)
              have HA8 := Lib.hid (HA7.out.other hf (fun k h1 h2 => HAP7.out k h2 h1) hin.dev)
              have HG8 := Lib.hid hin
              have HT8 := Lib.hid (hf.keep HT7.out (fun hk => by
                rcases hk with hk | hk
                · exact (HUP7.out _ (.inr hk)).2 rfl
                · exact HTB.out.2.2.1 hk))
              have HFR8 := Lib.hid (HFR7.out.trans hf (fun k hk => .inr (by
                rcases hk with hk | hk
                · exact (HUP7.out _ (.inr hk)).1
                · exact HN.out k hk)))
              rw [hfb] at hb hl
              have hb9 := HB7.out.keep hf (fun _ ad e hk => by
                rcases hk with hk | hk
                · exact (HA9.out ad e).1 hk
                · exact (HA9.out ad e).2 hk)
              have hb9a := hb9.at_
              have hb10a := hb.at_
              rw [HL7.out] at hb9a hb10a
              have hcv1 := conv_at hb9a und17_bytes und17_u8 und17_string c9
              have hcv2 := conv_at hb10a und17_bytes und17_u8 und17_string c10
              obtain ⟨ad9, rfl, hcc⟩ := hb9a.cells (by decide)
              have hhas := HW.out.has z hz8
              have gx9 : w8.cell? ad9 = some (.int .u8 ((z : Int) + 1)) := by have h5 := hcc 0 _ (show _ = some (Value.int .u8 ((z : Int) + 1)) by rw [hhas]; rfl); rwa [addr_add0] at h5
              have HHE : Hid (∀ (e : Ending) (w9 : World), Listed w8 w9 e ((Pf.hold D z).2.1.listed fun _ => true) → ∃ A11 n11 c11, e = .returned (.slice A11 n11 c11) ∧ (n11 : Int) ≤ 1 + (r : Int) ∧ Hid (Fr F0 w8 w9)) := Lib.hid (by
                intro e w9 hlx
                obtain ⟨A11, c11, he, -, -, hf9⟩ := hlx.ex
                refine ⟨A11, _, c11, he, ?_, Lib.hid hf9⟩
                rw [listed_all_len]
                have h1 := HG8.out.wf.ok.fit
                have h2 := HFEW8.out.room_
                omega)
              clear hs hin ho hi9 hb hl hA hf hfb t2 t3 hlt7 hb9 hb9a hb10a hcc hhas
              go_wp2_with fail
              refine (HG8.out.held).mono ?_
              intro e w9 hlx
              obtain ⟨A11, n11, c11, rfl, hn11, HF9⟩ := HHE.out e w9 hlx
              have hn11' : ¬ (1 + (r : Int)) < (n11 : Int) := by omega
              clear hlx gx9 hcv1 hcv2
              go_wp2_with fail
              go_roundg (n - (i + 1))
              case measure => omega
              case rel => exact ⟨i + 1, m + 1, by omega, by omega, rfl, by first | rfl | (go_num), by first | rfl | (go_num), ⟨⟨Ma', Mf', _, _, B.set z true, HA8.out.keep0 HF9.out, HG8.out.keep0 HF9.out, HALL7.out, HFEW8.out, HAP8.out, HUP8.out, HF9.out.keep0 HT8.out, HC6.out⟩, HFR8.out.then0 HF9.out⟩⟩
        · have hin : i = n := by omega
          subst hin
          go_wp2_with fail
          refine (HIA.out.reads).mono ?_
          rintro e w7 ⟨rfl, rfl⟩
          rw [HALL.out.reads, ← HCNT.out]
          go_wp2_with fail
          refine (HIF.out.reads).mono ?_
          rintro e w7 ⟨rfl, rfl⟩
          have hrd : (m : Int) ≤ Pf.reads := by rw [HCNT.out]; exact HFEW.out.reads
          obtain ⟨rd, hrd2⟩ : ∃ rd, rd = Pf.reads := ⟨_, rfl⟩
          rw [← hrd2] at hrd ⊢
          clear hrd2
          go_wp2_with fail
          refine (HIA.out.held).mono ?_
          rintro e w8 ⟨A8, c8, rfl, -, -, hf8⟩
          rw [listed_all_len, HALL.out.many, ← HCNT.out]
          have HF8 := Lib.hid (HFR.out.then0 hf8)
          have HA8 := Lib.hid (HIA.out.keep0 hf8)
          have HG8 := Lib.hid (HIF.out.keep0 hf8)
          clear hf8
          go_wp2_with fail
          refine (HA8.out.dirty).mono ?_
          rintro e w9 ⟨A9, c9, rfl, -, -, hf9⟩
          rw [HALL.out.tidy.dirty]
          have HF9 := Lib.hid (HF8.out.then0 hf9)
          have HG9 := Lib.hid (HG8.out.keep0 hf9)
          clear hf9
          go_wp2_with fail
          refine (HG9.out.dirty).mono ?_
          rintro e w10 ⟨A10, c10, rfl, -, -, hf10⟩
          rw [HFEW.out.tidy.dirty]
          have HF10 := Lib.hid (HF9.out.then0 hf10)
          have HG10 := Lib.hid (HG9.out.keep0 hf10)
          clear hf10
          go_wp2_with fail
          refine (spent_c HG10.out.dev).mono ?_
          rintro e w11 ⟨rfl, rfl⟩
          have hsp : D.spent = 8 := HW.out.spent
          rw [hsp]
          go_wp2_with fail
          go_ret
          exact ⟨rfl, HF10.out⟩
end
end Go.Proofs.Ytjfdfjenodianaa
