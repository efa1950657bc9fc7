/-
  heronrylaw17.PoolTells: the walk. Conditions: none.
-/
import Derived.Test.YtjfdfjenodianaaStr17
set_option linter.unusedVariables false
set_option linter.unusedSimpArgs false
namespace Go.Proofs.Ytjfdfjenodianaa
open Go.RowKit
/-- A pool at the law: what is told lies in the block wb. -/
structure TellAt (w0 w : World) (pb db lb mb wb N : Nat) : Prop where
  ex : ∃ M P D W, PoolIn M w pb db lb mb 12 N P D ∧ Tells P D W (65 * N) ∧ (∀ x, M x → w0.heap.size ≤ x) ∧ ¬ M wb ∧ 0 ≤ P.safe ∧ w.heap[wb]? = some (.cells (wantA W) 9 (0, 0))
  fr : Fr F0 w0 w
theorem rep_step {α : Type} (x y : α) {j : Nat} (h : j < 12) : (List.replicate j x ++ List.replicate (12 - j) y).set j x = List.replicate (j + 1) x ++ List.replicate (12 - (j + 1)) y := by
  rw [List.set_append_right _ _ (by simp), List.length_replicate, Nat.sub_self, show 12 - j = (12 - (j + 1)) + 1 by omega, List.replicate_succ, List.set_cons_zero, List.replicate_succ', List.append_assoc]
  rfl
theorem hold_safe (P : Pl) (D : Dev) (a : Nat) : (P.hold D a).2.1.safe = P.safe := by
  have hc := hold_case P D a
  cases hc with
  | hit i f hx hi hfa he => rw [he]
  | new hx hr he => rw [he]
  | full hx hr ho he => rw [he]; exact (Pl.round_room _ P).2.1
  | old i f Q D' hx hr hQ hf hD' he =>
    rw [he]
    have := (Pl.round_room (2 * P.fs.length) P).2.1
    rw [hQ] at this
    exact this
theorem PoolIn.next {w : World} {M : Nat → Prop} {pb db lb mb n N : Nat} {P : Pl} {D : Dev} (h : PoolIn M w pb db lb mb n N P D) : PoolIn M w pb db lb mb n (N + 1) P D :=
  ⟨h.ex, h.dev, h.apart, h.wf, h.r0, by have := h.r1; omega⟩
theorem TellAt.keep0 {w0 w w' : World} {pb db lb mb wb N : Nat} (h : TellAt w0 w pb db lb mb wb N) (hf : Fr F0 w w') : TellAt w0 w' pb db lb mb wb N := by
  obtain ⟨⟨M, P, D, W, h1, h2, h3, h4, h5, h6⟩, h7⟩ := h
  exact ⟨⟨M, P, D, W, h1.keep0 hf, h2, h3, h4, h5, hf.keep0 h6⟩, h7.then0 hf⟩
theorem cell_keep0 {w w' : World} {a : Addr} {v : Value} (hf : Fr F0 w w') (h : w.cell? a = some v) : w'.cell? a = some v :=
  (World.cell?_of_block (w := w) (hf.block _ (World.block_lt_of_cell? w _ h) (fun h => h))).trans h
theorem ActsAt.slice {w : World} {b off n : Nat} {l : List Act1} (h : ActsAt w (some ⟨b, off, none⟩) n l) {i : Nat} {x : Act1} (hx : l[i]? = some x) : w.cell? ⟨b, off + i * 4 + 3, none⟩ = some (.slice x.bA x.bn x.bc) := by
  have hi : i < n := by have := h.len; have := (List.getElem?_eq_some_iff.1 hx).1; omega
  obtain ⟨b', off', x', e, hx', hok', c0, c1, c2, c3⟩ := h.get hi
  cases e
  rw [hx] at hx'
  cases hx'
  exact c3
section
variable {w : World}
set_option maxRecDepth 100000 in
set_option maxHeartbeats 4000000 in
theorem tells_walk (rn : Int) (A : Option Addr) (n c : Nat) (l : List Act1) (hL : ActsAt w A n l) (hn : n ≤ 9223372036854775807) :
    Calls Try.prog 3 #[.int .i64 rn, .slice A n c] w fun e w' => e = .returned (.bool true) ∧ Fr F0 w w' := by
  by_cases hsm' : smallB l = false
  · go_enter Try.func3, Try.ntmps3
    go_wp2_with fail
    refine (awake17_c).mono ?_
    rintro e w1 ⟨rfl, hf1⟩
    go_wp2_with fail
    refine (small_c A n c l (hL.keep0 hf1) hn).mono ?_
    rintro e w2 ⟨rfl, hf2⟩
    rw [hsm']
    go_wp2_with fail
    go_ret
    exact ⟨rfl, hf1.then0 hf2⟩
  have hsm : smallB l = true := by simpa using hsm'
  clear hsm'
  have HSM := Lib.hid hsm
  have HL := Lib.hid hL
  have n60 : n ≤ 60 := by
    have h1 := hL.len
    by_cases h0 : n = 0
    · omega
    · have := smallB_get hsm (List.getElem?_eq_getElem (show 0 < l.length by omega))
      omega
  clear hsm hL
  obtain ⟨r, hr⟩ : ∃ r : Nat, rn % 8 = (r : Int) := ⟨(rn % 8).toNat, by omega⟩
  have hr8 : r < 8 := by omega
  have hbandr : bits .and .i64 rn 7 = (r : Int) := by rw [← hr]; exact i64_and rn 3 (by decide)
  have hr1 : IntKind.i64.wrap (1 + (r : Int)) = 1 + (r : Int) := by rw [IntKind.wrap_i64]; omega
  clear hr
  go_enter Try.func3, Try.ntmps3
  go_wp2_with fail
  refine (awake17_c).mono ?_
  rintro e w1 ⟨rfl, hf1⟩
  have HF1 := Lib.hid hf1
  clear hf1
  go_wp2_with fail
  refine (small_c A n c l (HL.out.keep0 HF1.out) hn).mono ?_
  rintro e w2 ⟨rfl, hf2⟩
  rw [HSM.out]
  have HF2 := Lib.hid (HF1.out.then0 hf2)
  clear hf2
  go_wp2_with fail
  refine (new_c 12 (by decide) (by decide) _).mono ?_
  rintro e w3 ⟨db, lb, mb, rfl, h1, n1, n2, n3', hf3⟩
  have HD3 := Lib.hid h1
  have HF3 := Lib.hid (HF2.out.then0 hf3)
  have HN : Hid (∀ k, Dv db lb mb k → w.heap.size ≤ k) := Lib.hid (fun k hk => by
    have := HF2.out.size
    rcases hk with h | h | h <;> omega)
  clear h1 n1 n2 n3' hf3
  go_wp2_with fail
  refine (PoolIn.new HD3.out (Dev.new_ok17 12) (1 + (r : Int)) (by omega) (by omega)).mono ?_
  rintro e w4 ⟨pb, rfl, hpb, hin, hf4⟩
  have HI4 : Hid (PoolIn (fun x => x = pb) w4 pb db lb mb 12 0 ⟨[], 1 + (r : Int), 0, 0, 0⟩ (Dev.new 12)) := Lib.hid hin
  have HM4 : Hid (∀ k, k = pb → w.heap.size ≤ k) := Lib.hid (fun k hk => by have := HF3.out.size; omega)
  have HF4 := Lib.hid (HF3.out.then0 hf4)
  clear hpb hin hf4
  have hmks := make17_strs w4
  go_upto_region 9 with fail
  obtain ⟨wb, hwb⟩ : ∃ wb, wb = w4.heap.size := ⟨_, rfl⟩
  have HW5 : Hid ((w4.alloc (.cells (wantA none12) 9)).heap[wb]? = some (.cells (wantA none12) 9 (0, 0))) := Lib.hid (by rw [hwb]; exact alloc_at rfl _)
  have HI5 := Lib.hid (HI4.out.keep0 ((Fr.refl F0 w4).alloc (.cells (wantA none12) 9)))
  have HF5 := Lib.hid (HF4.out.alloc (.cells (wantA none12) 9))
  have HWB : Hid (wb ≠ pb ∧ (¬ Dv db lb mb wb) ∧ w.heap.size ≤ wb) := Lib.hid (by
    have h1 := HI4.out.lt pb (.inl rfl)
    have h2 := HF4.out.size
    refine ⟨by omega, fun hk => ?_, by omega⟩
    have := HI4.out.lt wb (.inr hk)
    omega)
  rw [← hwb]
  clear hmks hwb
  generalize (w4.alloc (.cells (wantA none12) 9)) = w5 at *
  go_wp2_with fail
  go_loopg [11] 12 (fun kq x11 wr => ∃ j : Nat, j ≤ 12 ∧ kq = 12 - j ∧ x11 = .int .i64 (j : Int) ∧ PoolIn (fun x => x = pb) wr pb db lb mb 12 0 ⟨[], 1 + (r : Int), 0, 0, 0⟩ (Dev.new 12) ∧ wr.heap[wb]? = some (.cells (wantA (List.replicate j zsec ++ List.replicate (12 - j) [])) 9 (0, 0)) ∧ Fr F0 w wr)
  case atStart => exact ⟨0, by omega, rfl, rfl, HI5.out, HW5.out, HF5.out⟩
  case round =>
    obtain ⟨j, hj, rfl, rfl, hin, hw, hfr⟩ := hrel
    have HI := Lib.hid hin
    have HW := Lib.hid hw
    have HF := Lib.hid hfr
    clear hin hw hfr
    have j0 : (0 : Int) ≤ (j : Int) := Int.natCast_nonneg _
    by_cases hlt : j < 12
    · have j1 : (j : Int) < 12 := by omega
      have hmk := make17_zsec wr
      have hWA : (wr.alloc (.cells (cellsOf zsec) 5)).heap[wb]? = some (.cells (wantA (List.replicate j zsec ++ List.replicate (12 - j) [])) 9 (0, 0)) := keep_alloc HW.out _
      have hcv := conv17_zsec (W := wr.alloc (.cells (cellsOf zsec) 5)) (b := wr.heap.size) (alloc_at rfl _)
      have hfz : (wr.alloc (.cells (cellsOf zsec) 5)).frozen? ⟨wb, j, none⟩ = false := free_of hWA _
      have hcl : (wr.alloc (.cells (cellsOf zsec) 5)).cell? ⟨wb, j, none⟩ = some (strV []) := by
        rw [cell_of hWA, wantA_get, List.getElem?_append_right (by simp), List.getElem?_replicate, if_pos (by simp; omega)]
        rfl
      have HWA := Lib.hid hWA
      clear hWA
      go_wp2_with fail
      go_roundg (12 - (j + 1))
      case measure => omega
      case rel =>
        refine ⟨j + 1, by omega, rfl, by first | rfl | (go_num), ?_, ?_, ?_⟩
        · refine (HI.out.keep0 ((Fr.refl F0 wr).alloc _)).keep ((Fr.refl (fun k => k = wb) _).setCell (p := ⟨wb, j, none⟩) (.inl rfl) _) (fun k hk => ?_)
          subst hk
          exact ⟨HWB.out.1, HWB.out.2.1⟩
        · rw [set_cell HWA.out]
          have e1 := wantA_set (List.replicate j zsec ++ List.replicate (12 - j) []) j zsec
          rw [rep_step zsec [] hlt] at e1
          rw [← e1]
          rfl
        · exact (HF.out.alloc _).setCell (p := ⟨wb, j, none⟩) (.inr HWB.out.2.2) _
    · have hjn : j = 12 := by omega
      subst hjn
      go_wp2_with fail
      go_loopg [12, 13, 14, 15, 16, 17, 18] n (fun kq x12 x13 x14 x15 x16 x17 x18 wr => ∃ j : Nat, j ≤ n ∧ kq = n - j ∧ x12 = .int .i64 (j : Int) ∧ TellAt w wr pb db lb mb wb j)
      case atStart => exact ⟨0, by omega, rfl, rfl, ⟨⟨_, _, _, _, HI.out, Tells.new _, HM4.out, HWB.out.1, Int.le_refl 0, HW.out⟩, HF.out⟩⟩
      case round =>
        obtain ⟨j, hj, rfl, rfl, hta⟩ := hrel
        obtain ⟨⟨M, P, D, W, hin, hte, hm, hmw, hsf, hw⟩, hfr⟩ := hta
        have HI5 := Lib.hid hin
        have HT5 := Lib.hid hte
        have HM5 := Lib.hid hm
        have HMW := Lib.hid hmw
        have HSF := Lib.hid hsf
        have HW5 := Lib.hid hw
        have HF5 := Lib.hid hfr
        clear hin hte hm hmw hsf hw hfr
        have j0 : (0 : Int) ≤ (j : Int) := Int.natCast_nonneg _
        by_cases hlt2 : j < n
        · have j1 : (j : Int) < (n : Int) := by omega
          obtain ⟨b, off, x, rfl, hx, hok, c0, c1, c2, c3⟩ := (HL.out.keep0 HF5.out).get hlt2
          have hok0 := HL.out.ok x (List.mem_of_getElem? hx)
          have HOK := Lib.hid hok
          have HOK0 := Lib.hid hok0
          have HX9 := Lib.hid (smallB_get HSM.out hx).2
          have HXM := Lib.hid hx
          clear hx hok hok0
          obtain ⟨y, hy⟩ : ∃ y : Nat, x.pos % 256 = (y : Int) := ⟨(x.pos % 256).toNat, by omega⟩
          have hbandy : bits .and .i64 x.pos 255 = (y : Int) := by rw [← hy]; exact i64_and x.pos 8 (by decide)
          obtain ⟨z, hz⟩ : ∃ z : Nat, z = y % 12 := ⟨_, rfl⟩
          have hz12 : z < 12 := by omega
          have hz0 : (0 : Int) ≤ (z : Int) := Int.natCast_nonneg _
          have hz1 : (z : Int) < 12 := by omega
          have hremz : Int.tmod (y : Int) 12 = (z : Int) := by rw [Int.tmod_eq_emod_of_nonneg (by omega)]; omega
          have hzw : IntKind.i64.wrap (z : Int) = (z : Int) := by rw [IntKind.wrap_i64]; omega
          obtain ⟨s, hs⟩ : ∃ s : Nat, x.lsn % 16 = (s : Int) := ⟨(x.lsn % 16).toNat, by omega⟩
          have hs16 : s < 16 := by omega
          have hbands : bits .and .i64 x.lsn 15 = (s : Int) := by rw [← hs]; exact i64_and x.lsn 4 (by decide)
          clear hy hz hs
          obtain ⟨wz9, hwz9⟩ : ∃ wz9, W[z]? = some wz9 := ⟨W[z]'(by rw [HT5.out.len]; exact hz12), List.getElem?_eq_getElem _⟩
          have HWZ := Lib.hid hwz9
          clear hwz9
          have HUP : Hid (∀ M' : Nat → Prop, (∀ k, M' k → M k ∨ wr.heap.size ≤ k) → (∀ x, M' x → w.heap.size ≤ x) ∧ ¬ M' wb) := Lib.hid (fun M' hs => ⟨fun k hk => by
            have hsz := HF5.out.size
            rcases hs k hk with h5 | h5
            · exact HM5.out k h5
            · omega, fun hk => by
            rcases hs _ hk with h5 | h5
            · exact HMW.out h5
            · have := lt_of_block HW5.out; omega⟩)
          have HST : Hid (∀ w5, Fr (fun k => M k ∨ Dv db lb mb k) wr w5 → Fr F0 w w5 ∧ w5.heap[wb]? = some (.cells (wantA W) 9 (0, 0))) := Lib.hid (fun w5 hf => ⟨HF5.out.trans hf (fun k hk => .inr (by
            rcases hk with hk | hk
            · exact HM5.out k hk
            · exact HN.out k hk)), hf.keep HW5.out (by
            rintro (hk | hk)
            · exact HMW.out hk
            · exact HWB.out.2.1 hk)⟩)
          have k3 : 65 * j < 1000000 := by omega
          have HK3 := Lib.hid k3
          clear k3
          by_cases hlo : x.what < 3
          · go_wp2_with fail
            refine (HI5.out.get (by omega) z hz12).mono ?_
            intro e w6 hg
            have ht6 := HT5.out.hold HK3.out HI5.out.wf hz12
            have hs6 := hold_safe P D z
            cases hg with
            | no M' hs hin ho he hf =>
              subst he
              obtain ⟨g1, g2⟩ := HST.out w6 hf
              obtain ⟨g3, g4⟩ := HUP.out M' hs
              have HTA : Hid (TellAt w w6 pb db lb mb wb (j + 1)) := Lib.hid ⟨⟨M', _, _, W, hin, ht6.more (by omega), g3, g4, by rw [hs6]; exact HSF.out, g2⟩, g1⟩
              clear hs hin ho hf g1 g2 g3 g4 ht6 hs6 c0 c1 c2 c3
              go_upto_region 19 with fail
              go_quiet (fail)
              go_wp2_with fail
              go_roundg (n - (j + 1))
              case measure => omega
              case rel => exact ⟨j + 1, by omega, rfl, by first | rfl | (go_num), HTA.out.keep0 ((Fr.refl F0 w6).drewN _)⟩
            | yes M' hs hin i9 f9 A9 c9 ho hi he hb hl hA hf =>
              subst he
              obtain ⟨g1, g2⟩ := HST.out w6 hf
              obtain ⟨g3, g4⟩ := HUP.out M' hs
              have hfound := ht6.found (List.mem_of_getElem? hi) (hold_at ho hi)
              have kw : ∀ wx, Fr F0 w6 wx → wx.cell? ⟨wb, z, none⟩ = some (.string (strOfNums f9.b)) := fun wx hx => by
                rw [cell_of (hx.keep0 g2), wantA_get, hfound]
                rfl
              have hb64 := hb.at_
              rw [hl] at hb64
              have HB5 := Lib.hid hb64
              have HTA : Hid (TellAt w w6 pb db lb mb wb (j + 1)) := Lib.hid ⟨⟨M', _, _, W, hin, ht6.more (by omega), g3, g4, by rw [hs6]; exact HSF.out, g2⟩, g1⟩
              clear hs hin ho hi hf hb hl hA g1 g2 g3 g4 ht6 hs6 hfound hb64 c0 c1 c2 c3
              go_upto_region 19 with fail
              refine wp_region_free (S := F0) [false, false, false, false, false, false, false, false, false, false, false, false, false, false, false, false, false, false, false, false, false, false, false, false, false, false, false, false, false, false, false, false, false, false, false, false, false, false, false, false, false, false, false, false, false, false, false, false, false, false, false, false, false, false, false, false, false, false, false, false, false, false, false, false, false, false, false, false, false, false, false, false, false, false, false, false, true, true, true, true, true, true, true, true, true, true, true, true, true, true, true, true, true, true, true, false, false, false, false, false, false, false, false, false, false, false, false, false, false, false, false, false, false, false, false, false, false, false, false, false, false, false, false, false, false, false, false, false, false, false, false, false, false, false, false, false, false, false, false, false, false, false, false, false, false, false, false, false, false, false, false, false, false, false, false, false, false, false, false, false, false, false, false, false, false, false, false, false, false, false, false, false, false, false, false, false, false, false, false, false, false, false, false, false, false, false, false, false, false, false, false, false, false, false] [.eq (.int .i64 0), .eq (.bool true), .eq (.bool true), .eq (.slice A9 64 c9), .eq (.string (strOfNums f9.b)), .eq (.slice (some ⟨wb, 0, none⟩) 12 12), .eq (.int .i64 (z : Int)), .eq (.pointer (some ⟨wb, z, none⟩)), .eq (.string (strOfNums f9.b)), .eq (.bool false), .eq (.bool false), .eq (.bool false), .eq (.int .i64 0), .eq (.bool false), .eq (.bool false), .eq undef, .eq undef, .eq (.bool false), .eq (.bool false)] (by kernel_rfl) (by kernel_rfl) (by rfl) (fun us => ?steps) (fun us wz hG hall => ?fin)
              case steps =>
                simp only [fillL, Nat.reduceAdd]
                refine stepsHold.cons (fun wx hG hd K hK => ?_) ?_
                · rw [if_pos (wanted_none rfl)]
                  refine wp_value (w2 := wx) (v := .int .i64 0) ?_ (hK _ _ rfl (Fr.refl _ _))
                  clear hd hG hK
                  go_simp
                refine stepsHold.cons (fun wx hG hd K hK => ?_) ?_
                · have h76 : us 76 = (.int .i64 0) := deps_get hd 0 rfl rfl rfl rfl rfl
                  rw [if_pos (wanted_none rfl)]
                  refine wp_value (w2 := wx) (v := .bool true) ?_ (hK _ _ rfl (Fr.refl _ _))
                  clear hd hG hK
                  go_simp
                refine stepsHold.cons (fun wx hG hd K hK => ?_) ?_
                · have h77 : us 77 = (.bool true) := deps_get hd 0 rfl rfl rfl rfl rfl
                  rw [if_pos (wanted_none rfl)]
                  refine wp_value (w2 := wx) (v := .bool true) ?_ (hK _ _ rfl (Fr.refl _ _))
                  clear hd hG hK
                  go_simp
                refine stepsHold.cons (fun wx hG hd K hK => ?_) ?_
                · have h78 : us 78 = (.bool true) := deps_get hd 0 rfl rfl rfl rfl rfl
                  rw [if_pos (wanted_yes rfl rfl rfl rfl h78)]
                  refine wp_value (w2 := wx) (v := .slice A9 64 c9) ?_ (hK _ _ rfl (Fr.refl _ _))
                  clear hd hG hK
                  go_simp
                refine stepsHold.cons (fun wx hG hd K hK => ?_) ?_
                · have h79 : us 79 = (.slice A9 64 c9) := deps_get hd 0 rfl rfl rfl rfl rfl
                  have h78 : us 78 = (.bool true) := deps_get hd 1 rfl rfl rfl rfl rfl
                  rw [if_pos (wanted_yes rfl rfl rfl rfl h78)]
                  have hr := conv_at (HB5.out.keep0 hG) und17_bytes und17_u8 und17_string c9
                  refine wp_value (w2 := wx) (v := .string (strOfNums f9.b)) ?_ (hK _ _ rfl (Fr.refl _ _))
                  clear hd hK
                  go_simp
                refine stepsHold.cons (fun wx hG hd K hK => ?_) ?_
                · have h78 : us 78 = (.bool true) := deps_get hd 0 rfl rfl rfl rfl rfl
                  rw [if_pos (wanted_yes rfl rfl rfl rfl h78)]
                  refine wp_value (w2 := wx) (v := .slice (some ⟨wb, 0, none⟩) 12 12) ?_ (hK _ _ rfl (Fr.refl _ _))
                  clear hd hG hK
                  go_simp
                refine stepsHold.cons (fun wx hG hd K hK => ?_) ?_
                · have h78 : us 78 = (.bool true) := deps_get hd 0 rfl rfl rfl rfl rfl
                  rw [if_pos (wanted_yes rfl rfl rfl rfl h78)]
                  refine wp_value (w2 := wx) (v := .int .i64 (z : Int)) ?_ (hK _ _ rfl (Fr.refl _ _))
                  clear hd hG hK
                  go_simp
                refine stepsHold.cons (fun wx hG hd K hK => ?_) ?_
                · have h81 : us 81 = (.slice (some ⟨wb, 0, none⟩) 12 12) := deps_get hd 0 rfl rfl rfl rfl rfl
                  have h82 : us 82 = (.int .i64 (z : Int)) := deps_get hd 1 rfl rfl rfl rfl rfl
                  have h78 : us 78 = (.bool true) := deps_get hd 2 rfl rfl rfl rfl rfl
                  rw [if_pos (wanted_yes rfl rfl rfl rfl h78)]
                  refine wp_value (w2 := wx) (v := .pointer (some ⟨wb, z, none⟩)) ?_ (hK _ _ rfl (Fr.refl _ _))
                  clear hd hG hK
                  go_simp
                refine stepsHold.cons (fun wx hG hd K hK => ?_) ?_
                · have h83 : us 83 = (.pointer (some ⟨wb, z, none⟩)) := deps_get hd 0 rfl rfl rfl rfl rfl
                  have h78 : us 78 = (.bool true) := deps_get hd 1 rfl rfl rfl rfl rfl
                  rw [if_pos (wanted_yes rfl rfl rfl rfl h78)]
                  have hc := kw wx hG
                  refine wp_value (w2 := wx) (v := .string (strOfNums f9.b)) ?_ (hK _ _ rfl (Fr.refl _ _))
                  clear hd hK
                  go_simp
                refine stepsHold.cons (fun wx hG hd K hK => ?_) ?_
                · have h80 : us 80 = (.string (strOfNums f9.b)) := deps_get hd 0 rfl rfl rfl rfl rfl
                  have h84 : us 84 = (.string (strOfNums f9.b)) := deps_get hd 1 rfl rfl rfl rfl rfl
                  have h78 : us 78 = (.bool true) := deps_get hd 2 rfl rfl rfl rfl rfl
                  rw [if_pos (wanted_yes rfl rfl rfl rfl h78)]
                  refine wp_value (w2 := wx) (v := .bool false) ?_ (hK _ _ rfl (Fr.refl _ _))
                  clear hd hG hK
                  go_simp
                refine stepsHold.cons (fun wx hG hd K hK => ?_) ?_
                · have h78 : us 78 = (.bool true) := deps_get hd 0 rfl rfl rfl rfl rfl
                  have h85 : us 85 = (.bool false) := deps_get hd 1 rfl rfl rfl rfl rfl
                  rw [if_pos (wanted_none rfl)]
                  refine wp_value (w2 := wx) (v := .bool false) ?_ (hK _ _ rfl (Fr.refl _ _))
                  clear hd hG hK
                  go_simp
                refine stepsHold.cons (fun wx hG hd K hK => ?_) ?_
                · have h86 : us 86 = (.bool false) := deps_get hd 0 rfl rfl rfl rfl rfl
                  rw [if_pos (wanted_none rfl)]
                  refine wp_value (w2 := wx) (v := .bool false) ?_ (hK _ _ rfl (Fr.refl _ _))
                  clear hd hG hK
                  go_simp
                refine stepsHold.cons (fun wx hG hd K hK => ?_) ?_
                · have h87 : us 87 = (.bool false) := deps_get hd 0 rfl rfl rfl rfl rfl
                  rw [if_pos (wanted_yes rfl rfl rfl rfl h87)]
                  refine wp_value (w2 := wx) (v := .int .i64 0) ?_ (hK _ _ rfl (Fr.refl _ _))
                  clear hd hG hK
                  go_simp
                refine stepsHold.cons (fun wx hG hd K hK => ?_) ?_
                · have h88 : us 88 = (.int .i64 0) := deps_get hd 0 rfl rfl rfl rfl rfl
                  have h87 : us 87 = (.bool false) := deps_get hd 1 rfl rfl rfl rfl rfl
                  rw [if_pos (wanted_yes rfl rfl rfl rfl h87)]
                  refine wp_value (w2 := wx) (v := .bool false) ?_ (hK _ _ rfl (Fr.refl _ _))
                  clear hd hG hK
                  go_simp
                refine stepsHold.cons (fun wx hG hd K hK => ?_) ?_
                · have h89 : us 89 = (.bool false) := deps_get hd 0 rfl rfl rfl rfl rfl
                  have h87 : us 87 = (.bool false) := deps_get hd 1 rfl rfl rfl rfl rfl
                  rw [if_pos (wanted_yes rfl rfl rfl rfl h87)]
                  refine wp_value (w2 := wx) (v := .bool false) ?_ (hK _ _ rfl (Fr.refl _ _))
                  clear hd hG hK
                  go_simp
                refine stepsHold.cons (fun wx hG hd K hK => ?_) ?_
                · have h90 : us 90 = (.bool false) := deps_get hd 0 rfl rfl rfl rfl rfl
                  rw [if_neg (wanted_no rfl rfl rfl rfl h90)]
                  exact hK _ _ rfl (Fr.refl _ _)
                refine stepsHold.cons (fun wx hG hd K hK => ?_) ?_
                · have h91 : us 91 = (undef) := deps_get hd 0 rfl rfl rfl rfl rfl
                  have h90 : us 90 = (.bool false) := deps_get hd 1 rfl rfl rfl rfl rfl
                  rw [if_neg (wanted_no rfl rfl rfl rfl h90)]
                  exact hK _ _ rfl (Fr.refl _ _)
                refine stepsHold.cons (fun wx hG hd K hK => ?_) ?_
                · have h90 : us 90 = (.bool false) := deps_get hd 0 rfl rfl rfl rfl rfl
                  have h92 : us 92 = (undef) := deps_get hd 1 rfl rfl rfl rfl rfl
                  have h87 : us 87 = (.bool false) := deps_get hd 2 rfl rfl rfl rfl rfl
                  rw [if_pos (wanted_yes rfl rfl rfl rfl h87)]
                  refine wp_value (w2 := wx) (v := .bool false) ?_ (hK _ _ rfl (Fr.refl _ _))
                  clear hd hG hK
                  go_simp
                refine stepsHold.cons (fun wx hG hd K hK => ?_) ?_
                · have h87 : us 87 = (.bool false) := deps_get hd 0 rfl rfl rfl rfl rfl
                  have h93 : us 93 = (.bool false) := deps_get hd 1 rfl rfl rfl rfl rfl
                  rw [if_pos (wanted_none rfl)]
                  refine wp_value (w2 := wx) (v := .bool false) ?_ (hK _ _ rfl (Fr.refl _ _))
                  clear hd hG hK
                  go_simp
                exact stepsHold.nil
              case fin =>
                have h76 : us 76 = (.int .i64 0) := all_get hall 0 rfl rfl rfl
                have h77 : us 77 = (.bool true) := all_get hall 1 rfl rfl rfl
                have h78 : us 78 = (.bool true) := all_get hall 2 rfl rfl rfl
                have h79 : us 79 = (.slice A9 64 c9) := all_get hall 3 rfl rfl rfl
                have h80 : us 80 = (.string (strOfNums f9.b)) := all_get hall 4 rfl rfl rfl
                have h81 : us 81 = (.slice (some ⟨wb, 0, none⟩) 12 12) := all_get hall 5 rfl rfl rfl
                have h82 : us 82 = (.int .i64 (z : Int)) := all_get hall 6 rfl rfl rfl
                have h83 : us 83 = (.pointer (some ⟨wb, z, none⟩)) := all_get hall 7 rfl rfl rfl
                have h84 : us 84 = (.string (strOfNums f9.b)) := all_get hall 8 rfl rfl rfl
                have h85 : us 85 = (.bool false) := all_get hall 9 rfl rfl rfl
                have h86 : us 86 = (.bool false) := all_get hall 10 rfl rfl rfl
                have h87 : us 87 = (.bool false) := all_get hall 11 rfl rfl rfl
                have h88 : us 88 = (.int .i64 0) := all_get hall 12 rfl rfl rfl
                have h89 : us 89 = (.bool false) := all_get hall 13 rfl rfl rfl
                have h90 : us 90 = (.bool false) := all_get hall 14 rfl rfl rfl
                have h91 : us 91 = (undef) := all_get hall 15 rfl rfl rfl
                have h92 : us 92 = (undef) := all_get hall 16 rfl rfl rfl
                have h93 : us 93 = (.bool false) := all_get hall 17 rfl rfl rfl
                have h94 : us 94 = (.bool false) := all_get hall 18 rfl rfl rfl
                simp only [fillL, Nat.reduceAdd]
                clear hall
                simp only [h76, h77, h78, h79, h80, h81, h82, h83, h84, h85, h86, h87, h88, h89, h90, h91, h92, h93, h94]
                clear h76 h77 h78 h79 h80 h81 h82 h83 h84 h85 h86 h87 h88 h89 h90 h91 h92 h93 h94
                go_wp2_with fail
                go_roundg (n - (j + 1))
                case measure => omega
                case rel => exact ⟨j + 1, by omega, rfl, by first | rfl | (go_num), HTA.out.keep0 hG⟩
          by_cases hhi : x.what ≤ 5
          · have hlo' : 3 ≤ x.what := by omega
            clear hlo
            have HLB : Hid (x.b.length ≤ 100) := Lib.hid (by rw [HOK.out.b.len]; exact HX9.out)
            by_cases hbig : 64 < x.bn
            · go_wp2_with fail
              refine (pput_big _ _ _ _ _ hbig _).mono ?_
              rintro e w6 ⟨rfl, rfl⟩
              have HB5 := Lib.hid HOK.out.b
              have kc3 : ∀ wx, Fr F0 wr wx → wx.cell? ⟨b, off + j * 4 + 3, none⟩ = some (.slice x.bA x.bn x.bc) := fun wx hx => cell_keep0 hx c3
              have HTA : Hid (TellAt w wr pb db lb mb wb (j + 1)) := Lib.hid ⟨⟨M, P, D, W, HI5.out.next, HT5.out.more (by omega), HM5.out, HMW.out, HSF.out, HW5.out⟩, HF5.out⟩
              clear c0 c1 c2 c3
              go_upto_region 23 with fail
              refine wp_region_free (S := F0) [false, false, false, false, false, false, false, false, false, false, false, false, false, false, false, false, true, false, false, false, false, false, false, false, false, false, false, false, false, false, false, false, false, false, false, false, false, false, false, false, false, false, false, false, false, false, false, false, false, false, false, false, false, false, false, false, false, false, false, false, false, false, false, false, false, false, false, false, false, false, false, false, false, false, false, false, false, false, false, false, false, false, false, false, false, false, false, false, false, false, false, false, false, false, false, false, false, false, false, false, false, false, false, false, false, false, false, false, false, false, false, false, false, false, false, false, false, false, false, true, true, true, true, true, true, true, true, true, false, false, false, false, false, false, false, false, false, false, false, false, false, false, false, false, false, false, false, false, false, false, false, false, false, false, false, false, false, false, false, false, false, false, false, false, false, false, false, false, false, false, false, false, false, false, false, false, false, false, false, false, false, false, false, false, false, false, false, false, false, false, false, false, false, false] [.eq (.slice (some ⟨b, off, none⟩) n c), .eq (.int .i64 (j : Int)), .eq (.pointer (some ⟨b, off + j * 4, none⟩)), .eq (.pointer (some ⟨b, off + j * 4 + 3, none⟩)), .eq (.slice x.bA x.bn x.bc), .eq (.string (strOfNums x.b)), ⟨fun v w' => ∃ b, v = .slice (some ⟨b, 0, none⟩) 64 64 ∧ w'.heap[b]? = some (.cells (cellsOf zsec) 5 (0, 0)), fun v w' w'' ⟨b, h1, h2⟩ hf => ⟨b, h1, hf.keep0 h2⟩⟩, .eq (.string (strOfNums zsec)), .eq (.string (strOfNums (x.b ++ zsec))), .eq (.string (strOfNums (x.b ++ zsec)))] (by kernel_rfl) (by kernel_rfl) (by rfl) (fun us => ?steps) (fun us wz hG hall => ?fin)
              case steps =>
                simp only [fillL, Nat.reduceAdd]
                refine stepsHold.cons (fun wx hG hd K hK => ?_) ?_
                · rw [if_pos (wanted_none rfl)]
                  refine wp_value (w2 := wx) (v := .slice (some ⟨b, off, none⟩) n c) ?_ (hK _ _ rfl (Fr.refl _ _))
                  clear hd hG hK
                  go_simp
                refine stepsHold.cons (fun wx hG hd K hK => ?_) ?_
                · rw [if_pos (wanted_none rfl)]
                  refine wp_value (w2 := wx) (v := .int .i64 (j : Int)) ?_ (hK _ _ rfl (Fr.refl _ _))
                  clear hd hG hK
                  go_simp
                refine stepsHold.cons (fun wx hG hd K hK => ?_) ?_
                · have h119 : us 119 = (.slice (some ⟨b, off, none⟩) n c) := deps_get hd 0 rfl rfl rfl rfl rfl
                  have h120 : us 120 = (.int .i64 (j : Int)) := deps_get hd 1 rfl rfl rfl rfl rfl
                  rw [if_pos (wanted_none rfl)]
                  refine wp_value (w2 := wx) (v := .pointer (some ⟨b, off + j * 4, none⟩)) ?_ (hK _ _ rfl (Fr.refl _ _))
                  clear hd hG hK
                  go_simp
                refine stepsHold.cons (fun wx hG hd K hK => ?_) ?_
                · have h121 : us 121 = (.pointer (some ⟨b, off + j * 4, none⟩)) := deps_get hd 0 rfl rfl rfl rfl rfl
                  rw [if_pos (wanted_none rfl)]
                  refine wp_value (w2 := wx) (v := .pointer (some ⟨b, off + j * 4 + 3, none⟩)) ?_ (hK _ _ rfl (Fr.refl _ _))
                  clear hd hG hK
                  go_simp
                refine stepsHold.cons (fun wx hG hd K hK => ?_) ?_
                · have h122 : us 122 = (.pointer (some ⟨b, off + j * 4 + 3, none⟩)) := deps_get hd 0 rfl rfl rfl rfl rfl
                  rw [if_pos (wanted_none rfl)]
                  have hc := kc3 wx hG
                  refine wp_value (w2 := wx) (v := .slice x.bA x.bn x.bc) ?_ (hK _ _ rfl (Fr.refl _ _))
                  clear hd hK
                  go_simp
                refine stepsHold.cons (fun wx hG hd K hK => ?_) ?_
                · have h123 : us 123 = (.slice x.bA x.bn x.bc) := deps_get hd 0 rfl rfl rfl rfl rfl
                  rw [if_pos (wanted_none rfl)]
                  have hr := conv_at (HB5.out.keep0 hG) und17_bytes und17_u8 und17_string x.bc
                  refine wp_value (w2 := wx) (v := .string (strOfNums x.b)) ?_ (hK _ _ rfl (Fr.refl _ _))
                  clear hd hK
                  go_simp
                refine stepsHold.cons (fun wx hG hd K hK => ?_) ?_
                · rw [if_pos (wanted_none rfl)]
                  have hr := make17_zsec wx
                  refine wp_value (w2 := wx.alloc (.cells (cellsOf zsec) 5)) (v := .slice (some ⟨wx.heap.size, 0, none⟩) 64 64) ?_ (hK _ _ ⟨_, rfl, alloc_at rfl _⟩ ((Fr.refl _ _).alloc _))
                  clear hd hK
                  go_simp
                refine stepsHold.cons (fun wx hG hd K hK => ?_) ?_
                · have h125 := deps_get hd 0 rfl rfl rfl rfl rfl
                  rw [if_pos (wanted_none rfl)]
                  obtain ⟨b9, hb1, hb2⟩ := h125
                  have hr := conv17_zsec hb2
                  refine wp_value (w2 := wx) (v := .string (strOfNums zsec)) ?_ (hK _ _ rfl (Fr.refl _ _))
                  clear hd hK
                  go_simp
                refine stepsHold.cons (fun wx hG hd K hK => ?_) ?_
                · have h124 : us 124 = (.string (strOfNums x.b)) := deps_get hd 0 rfl rfl rfl rfl rfl
                  have h126 : us 126 = (.string (strOfNums zsec)) := deps_get hd 1 rfl rfl rfl rfl rfl
                  rw [if_pos (wanted_none rfl)]
                  refine wp_value (w2 := wx) (v := .string (strOfNums (x.b ++ zsec))) ?_ (hK _ _ rfl (Fr.refl _ _))
                  clear hd hK
                  rw [strOfNums_append]
                  have hsz : (strOfNums x.b).size + (strOfNums zsec).size ≤ 9223372036854775807 := by rw [strOfNums_size, strOfNums_size, zsec_len]; have := HLB.out; omega
                  go_simp
                refine stepsHold.cons (fun wx hG hd K hK => ?_) ?_
                · have h127 : us 127 = (.string (strOfNums (x.b ++ zsec))) := deps_get hd 0 rfl rfl rfl rfl rfl
                  rw [if_pos (wanted_none rfl)]
                  refine wp_value (w2 := wx) (v := .string (strOfNums (x.b ++ zsec))) ?_ (hK _ _ rfl (Fr.refl _ _))
                  clear hd hG hK
                  go_simp
                exact stepsHold.nil
              case fin =>
                have h119 : us 119 = (.slice (some ⟨b, off, none⟩) n c) := all_get hall 0 rfl rfl rfl
                have h120 : us 120 = (.int .i64 (j : Int)) := all_get hall 1 rfl rfl rfl
                have h121 : us 121 = (.pointer (some ⟨b, off + j * 4, none⟩)) := all_get hall 2 rfl rfl rfl
                have h122 : us 122 = (.pointer (some ⟨b, off + j * 4 + 3, none⟩)) := all_get hall 3 rfl rfl rfl
                have h123 : us 123 = (.slice x.bA x.bn x.bc) := all_get hall 4 rfl rfl rfl
                have h124 : us 124 = (.string (strOfNums x.b)) := all_get hall 5 rfl rfl rfl
                have h125 := all_get hall 6 rfl rfl rfl
                have h126 : us 126 = (.string (strOfNums zsec)) := all_get hall 7 rfl rfl rfl
                have h127 : us 127 = (.string (strOfNums (x.b ++ zsec))) := all_get hall 8 rfl rfl rfl
                have h16 : us 16 = (.string (strOfNums (x.b ++ zsec))) := all_get hall 9 rfl rfl rfl
                simp only [fillL, Nat.reduceAdd]
                clear hall
                simp only [h119, h120, h121, h122, h123, h124, h126, h127, h16]
                clear h119 h120 h121 h122 h123 h124 h126 h127 h16
                go_wp2_with fail
                go_roundg (n - (j + 1))
                case measure => omega
                case rel => exact ⟨j + 1, by omega, rfl, by first | rfl | (go_num), HTA.out.keep0 hG⟩
            · go_wp2_with fail
              refine (HI5.out.put (by omega) z hz12 x.bA x.bn x.bc x.b HOK.out.b (by omega) (fun ad e hp => by
                have hb0 := HOK0.out.b
                rw [e] at hb0
                have hlt0 := hb0.lt hp
                refine ⟨fun hk => ?_, fun hk => ?_⟩
                · have := HM5.out _ hk; omega
                · have := HN.out _ hk; omega) (s : Int) (by omega)).mono ?_
              intro e w6 hput
              have ht6 := HT5.out.hold HK3.out HI5.out.wf hz12
              have hs6 := hold_safe P D z
              have hwf6 := HI5.out.wf.hold (a := z) hz12
              cases hput with
              | no M' hs hin ho he hf =>
                subst he
                obtain ⟨g1, g2⟩ := HST.out w6 hf
                obtain ⟨g3, g4⟩ := HUP.out M' hs
                have HTA : Hid (TellAt w w6 pb db lb mb wb (j + 1)) := Lib.hid ⟨⟨M', _, _, W, hin, ht6.more (by omega), g3, g4, by rw [hs6]; exact HSF.out, g2⟩, g1⟩
                have HL6 := Lib.hid (HL.out.keep0 g1)
                have kc3 : ∀ wx, Fr F0 w6 wx → wx.cell? ⟨b, off + j * 4 + 3, none⟩ = some (.slice x.bA x.bn x.bc) := fun wx hx => cell_keep0 hx (HL6.out.slice HXM.out)
                have HB5 := Lib.hid (HL6.out.ok x (List.mem_of_getElem? HXM.out)).b
                clear hs hin ho hf g1 g2 g3 g4 ht6 hs6 hwf6 c0 c1 c2 c3
                go_upto_region 23 with fail
                refine wp_region_free (S := F0) [false, false, false, false, false, false, false, false, false, false, false, false, false, false, false, false, true, false, false, false, false, false, false, false, false, false, false, false, false, false, false, false, false, false, false, false, false, false, false, false, false, false, false, false, false, false, false, false, false, false, false, false, false, false, false, false, false, false, false, false, false, false, false, false, false, false, false, false, false, false, false, false, false, false, false, false, false, false, false, false, false, false, false, false, false, false, false, false, false, false, false, false, false, false, false, false, false, false, false, false, false, false, false, false, false, false, false, false, false, false, false, false, false, false, false, false, false, false, false, true, true, true, true, true, true, true, true, true, false, false, false, false, false, false, false, false, false, false, false, false, false, false, false, false, false, false, false, false, false, false, false, false, false, false, false, false, false, false, false, false, false, false, false, false, false, false, false, false, false, false, false, false, false, false, false, false, false, false, false, false, false, false, false, false, false, false, false, false, false, false, false, false, false, false] [.eq (.slice (some ⟨b, off, none⟩) n c), .eq (.int .i64 (j : Int)), .eq (.pointer (some ⟨b, off + j * 4, none⟩)), .eq (.pointer (some ⟨b, off + j * 4 + 3, none⟩)), .eq (.slice x.bA x.bn x.bc), .eq (.string (strOfNums x.b)), ⟨fun v w' => ∃ b, v = .slice (some ⟨b, 0, none⟩) 64 64 ∧ w'.heap[b]? = some (.cells (cellsOf zsec) 5 (0, 0)), fun v w' w'' ⟨b, h1, h2⟩ hf => ⟨b, h1, hf.keep0 h2⟩⟩, .eq (.string (strOfNums zsec)), .eq (.string (strOfNums (x.b ++ zsec))), .eq (.string (strOfNums (x.b ++ zsec)))] (by kernel_rfl) (by kernel_rfl) (by rfl) (fun us => ?steps) (fun us wz hG hall => ?fin)
                case steps =>
                  simp only [fillL, Nat.reduceAdd]
                  refine stepsHold.cons (fun wx hG hd K hK => ?_) ?_
                  · rw [if_pos (wanted_none rfl)]
                    refine wp_value (w2 := wx) (v := .slice (some ⟨b, off, none⟩) n c) ?_ (hK _ _ rfl (Fr.refl _ _))
                    clear hd hG hK
                    go_simp
                  refine stepsHold.cons (fun wx hG hd K hK => ?_) ?_
                  · rw [if_pos (wanted_none rfl)]
                    refine wp_value (w2 := wx) (v := .int .i64 (j : Int)) ?_ (hK _ _ rfl (Fr.refl _ _))
                    clear hd hG hK
                    go_simp
                  refine stepsHold.cons (fun wx hG hd K hK => ?_) ?_
                  · have h119 : us 119 = (.slice (some ⟨b, off, none⟩) n c) := deps_get hd 0 rfl rfl rfl rfl rfl
                    have h120 : us 120 = (.int .i64 (j : Int)) := deps_get hd 1 rfl rfl rfl rfl rfl
                    rw [if_pos (wanted_none rfl)]
                    refine wp_value (w2 := wx) (v := .pointer (some ⟨b, off + j * 4, none⟩)) ?_ (hK _ _ rfl (Fr.refl _ _))
                    clear hd hG hK
                    go_simp
                  refine stepsHold.cons (fun wx hG hd K hK => ?_) ?_
                  · have h121 : us 121 = (.pointer (some ⟨b, off + j * 4, none⟩)) := deps_get hd 0 rfl rfl rfl rfl rfl
                    rw [if_pos (wanted_none rfl)]
                    refine wp_value (w2 := wx) (v := .pointer (some ⟨b, off + j * 4 + 3, none⟩)) ?_ (hK _ _ rfl (Fr.refl _ _))
                    clear hd hG hK
                    go_simp
                  refine stepsHold.cons (fun wx hG hd K hK => ?_) ?_
                  · have h122 : us 122 = (.pointer (some ⟨b, off + j * 4 + 3, none⟩)) := deps_get hd 0 rfl rfl rfl rfl rfl
                    rw [if_pos (wanted_none rfl)]
                    have hc := kc3 wx hG
                    refine wp_value (w2 := wx) (v := .slice x.bA x.bn x.bc) ?_ (hK _ _ rfl (Fr.refl _ _))
                    clear hd hK
                    go_simp
                  refine stepsHold.cons (fun wx hG hd K hK => ?_) ?_
                  · have h123 : us 123 = (.slice x.bA x.bn x.bc) := deps_get hd 0 rfl rfl rfl rfl rfl
                    rw [if_pos (wanted_none rfl)]
                    have hr := conv_at (HB5.out.keep0 hG) und17_bytes und17_u8 und17_string x.bc
                    refine wp_value (w2 := wx) (v := .string (strOfNums x.b)) ?_ (hK _ _ rfl (Fr.refl _ _))
                    clear hd hK
                    go_simp
                  refine stepsHold.cons (fun wx hG hd K hK => ?_) ?_
                  · rw [if_pos (wanted_none rfl)]
                    have hr := make17_zsec wx
                    refine wp_value (w2 := wx.alloc (.cells (cellsOf zsec) 5)) (v := .slice (some ⟨wx.heap.size, 0, none⟩) 64 64) ?_ (hK _ _ ⟨_, rfl, alloc_at rfl _⟩ ((Fr.refl _ _).alloc _))
                    clear hd hK
                    go_simp
                  refine stepsHold.cons (fun wx hG hd K hK => ?_) ?_
                  · have h125 := deps_get hd 0 rfl rfl rfl rfl rfl
                    rw [if_pos (wanted_none rfl)]
                    obtain ⟨b9, hb1, hb2⟩ := h125
                    have hr := conv17_zsec hb2
                    refine wp_value (w2 := wx) (v := .string (strOfNums zsec)) ?_ (hK _ _ rfl (Fr.refl _ _))
                    clear hd hK
                    go_simp
                  refine stepsHold.cons (fun wx hG hd K hK => ?_) ?_
                  · have h124 : us 124 = (.string (strOfNums x.b)) := deps_get hd 0 rfl rfl rfl rfl rfl
                    have h126 : us 126 = (.string (strOfNums zsec)) := deps_get hd 1 rfl rfl rfl rfl rfl
                    rw [if_pos (wanted_none rfl)]
                    refine wp_value (w2 := wx) (v := .string (strOfNums (x.b ++ zsec))) ?_ (hK _ _ rfl (Fr.refl _ _))
                    clear hd hK
                    rw [strOfNums_append]
                    have hsz : (strOfNums x.b).size + (strOfNums zsec).size ≤ 9223372036854775807 := by rw [strOfNums_size, strOfNums_size, zsec_len]; have := HLB.out; omega
                    go_simp
                  refine stepsHold.cons (fun wx hG hd K hK => ?_) ?_
                  · have h127 : us 127 = (.string (strOfNums (x.b ++ zsec))) := deps_get hd 0 rfl rfl rfl rfl rfl
                    rw [if_pos (wanted_none rfl)]
                    refine wp_value (w2 := wx) (v := .string (strOfNums (x.b ++ zsec))) ?_ (hK _ _ rfl (Fr.refl _ _))
                    clear hd hG hK
                    go_simp
                  exact stepsHold.nil
                case fin =>
                  have h119 : us 119 = (.slice (some ⟨b, off, none⟩) n c) := all_get hall 0 rfl rfl rfl
                  have h120 : us 120 = (.int .i64 (j : Int)) := all_get hall 1 rfl rfl rfl
                  have h121 : us 121 = (.pointer (some ⟨b, off + j * 4, none⟩)) := all_get hall 2 rfl rfl rfl
                  have h122 : us 122 = (.pointer (some ⟨b, off + j * 4 + 3, none⟩)) := all_get hall 3 rfl rfl rfl
                  have h123 : us 123 = (.slice x.bA x.bn x.bc) := all_get hall 4 rfl rfl rfl
                  have h124 : us 124 = (.string (strOfNums x.b)) := all_get hall 5 rfl rfl rfl
                  have h125 := all_get hall 6 rfl rfl rfl
                  have h126 : us 126 = (.string (strOfNums zsec)) := all_get hall 7 rfl rfl rfl
                  have h127 : us 127 = (.string (strOfNums (x.b ++ zsec))) := all_get hall 8 rfl rfl rfl
                  have h16 : us 16 = (.string (strOfNums (x.b ++ zsec))) := all_get hall 9 rfl rfl rfl
                  simp only [fillL, Nat.reduceAdd]
                  clear hall
                  simp only [h119, h120, h121, h122, h123, h124, h126, h127, h16]
                  clear h119 h120 h121 h122 h123 h124 h126 h127 h16
                  go_wp2_with fail
                  go_roundg (n - (j + 1))
                  case measure => omega
                  case rel => exact ⟨j + 1, by omega, rfl, by first | rfl | (go_num), HTA.out.keep0 hG⟩
              | yes M' hs i9 f9 ho hi hin he hf =>
                subst he
                obtain ⟨g1, g2⟩ := HST.out w6 hf
                obtain ⟨g3, g4⟩ := HUP.out M' hs
                have hT9 := (ht6.put hwf6 hz12 hi (hold_at ho hi) x.b (s : Int) (by omega)).more (show 65 * j + 1 ≤ 65 * (j + 1) by omega)
                have HL6 := Lib.hid (HL.out.keep0 g1)
                have kc3 : ∀ wx, Fr F0 w6 wx → wx.cell? ⟨b, off + j * 4 + 3, none⟩ = some (.slice x.bA x.bn x.bc) := fun wx hx => cell_keep0 hx (HL6.out.slice HXM.out)
                have HB5 := Lib.hid (HL6.out.ok x (List.mem_of_getElem? HXM.out)).b
                have HIN6 := Lib.hid hin
                have HT9 := Lib.hid hT9
                have HS6 : Hid (0 ≤ (P.hold D z).2.1.safe) := Lib.hid (by rw [hs6]; exact HSF.out)
                have HM6 := Lib.hid g3
                have HMW6 := Lib.hid g4
                have HF6 := Lib.hid g1
                have HW6 := Lib.hid g2
                clear hs hin ho hi hf g1 g2 g3 g4 ht6 hs6 hwf6 hT9 c0 c1 c2 c3
                go_upto_region 23 with fail
                refine wp_region_free (S := F0) [false, false, false, false, false, false, false, false, false, false, false, false, false, false, false, false, true, false, false, false, false, false, false, false, false, false, false, false, false, false, false, false, false, false, false, false, false, false, false, false, false, false, false, false, false, false, false, false, false, false, false, false, false, false, false, false, false, false, false, false, false, false, false, false, false, false, false, false, false, false, false, false, false, false, false, false, false, false, false, false, false, false, false, false, false, false, false, false, false, false, false, false, false, false, false, false, false, false, false, false, false, false, false, false, false, false, false, false, false, false, false, false, false, false, false, false, false, false, false, true, true, true, true, true, true, true, true, true, false, false, false, false, false, false, false, false, false, false, false, false, false, false, false, false, false, false, false, false, false, false, false, false, false, false, false, false, false, false, false, false, false, false, false, false, false, false, false, false, false, false, false, false, false, false, false, false, false, false, false, false, false, false, false, false, false, false, false, false, false, false, false, false, false, false] [.eq (.slice (some ⟨b, off, none⟩) n c), .eq (.int .i64 (j : Int)), .eq (.pointer (some ⟨b, off + j * 4, none⟩)), .eq (.pointer (some ⟨b, off + j * 4 + 3, none⟩)), .eq (.slice x.bA x.bn x.bc), .eq (.string (strOfNums x.b)), ⟨fun v w' => ∃ b, v = .slice (some ⟨b, 0, none⟩) 64 64 ∧ w'.heap[b]? = some (.cells (cellsOf zsec) 5 (0, 0)), fun v w' w'' ⟨b, h1, h2⟩ hf => ⟨b, h1, hf.keep0 h2⟩⟩, .eq (.string (strOfNums zsec)), .eq (.string (strOfNums (x.b ++ zsec))), .eq (.string (strOfNums (x.b ++ zsec)))] (by kernel_rfl) (by kernel_rfl) (by rfl) (fun us => ?steps) (fun us wz hG hall => ?fin)
                case steps =>
                  simp only [fillL, Nat.reduceAdd]
                  refine stepsHold.cons (fun wx hG hd K hK => ?_) ?_
                  · rw [if_pos (wanted_none rfl)]
                    refine wp_value (w2 := wx) (v := .slice (some ⟨b, off, none⟩) n c) ?_ (hK _ _ rfl (Fr.refl _ _))
                    clear hd hG hK
                    go_simp
                  refine stepsHold.cons (fun wx hG hd K hK => ?_) ?_
                  · rw [if_pos (wanted_none rfl)]
                    refine wp_value (w2 := wx) (v := .int .i64 (j : Int)) ?_ (hK _ _ rfl (Fr.refl _ _))
                    clear hd hG hK
                    go_simp
                  refine stepsHold.cons (fun wx hG hd K hK => ?_) ?_
                  · have h119 : us 119 = (.slice (some ⟨b, off, none⟩) n c) := deps_get hd 0 rfl rfl rfl rfl rfl
                    have h120 : us 120 = (.int .i64 (j : Int)) := deps_get hd 1 rfl rfl rfl rfl rfl
                    rw [if_pos (wanted_none rfl)]
                    refine wp_value (w2 := wx) (v := .pointer (some ⟨b, off + j * 4, none⟩)) ?_ (hK _ _ rfl (Fr.refl _ _))
                    clear hd hG hK
                    go_simp
                  refine stepsHold.cons (fun wx hG hd K hK => ?_) ?_
                  · have h121 : us 121 = (.pointer (some ⟨b, off + j * 4, none⟩)) := deps_get hd 0 rfl rfl rfl rfl rfl
                    rw [if_pos (wanted_none rfl)]
                    refine wp_value (w2 := wx) (v := .pointer (some ⟨b, off + j * 4 + 3, none⟩)) ?_ (hK _ _ rfl (Fr.refl _ _))
                    clear hd hG hK
                    go_simp
                  refine stepsHold.cons (fun wx hG hd K hK => ?_) ?_
                  · have h122 : us 122 = (.pointer (some ⟨b, off + j * 4 + 3, none⟩)) := deps_get hd 0 rfl rfl rfl rfl rfl
                    rw [if_pos (wanted_none rfl)]
                    have hc := kc3 wx hG
                    refine wp_value (w2 := wx) (v := .slice x.bA x.bn x.bc) ?_ (hK _ _ rfl (Fr.refl _ _))
                    clear hd hK
                    go_simp
                  refine stepsHold.cons (fun wx hG hd K hK => ?_) ?_
                  · have h123 : us 123 = (.slice x.bA x.bn x.bc) := deps_get hd 0 rfl rfl rfl rfl rfl
                    rw [if_pos (wanted_none rfl)]
                    have hr := conv_at (HB5.out.keep0 hG) und17_bytes und17_u8 und17_string x.bc
                    refine wp_value (w2 := wx) (v := .string (strOfNums x.b)) ?_ (hK _ _ rfl (Fr.refl _ _))
                    clear hd hK
                    go_simp
                  refine stepsHold.cons (fun wx hG hd K hK => ?_) ?_
                  · rw [if_pos (wanted_none rfl)]
                    have hr := make17_zsec wx
                    refine wp_value (w2 := wx.alloc (.cells (cellsOf zsec) 5)) (v := .slice (some ⟨wx.heap.size, 0, none⟩) 64 64) ?_ (hK _ _ ⟨_, rfl, alloc_at rfl _⟩ ((Fr.refl _ _).alloc _))
                    clear hd hK
                    go_simp
                  refine stepsHold.cons (fun wx hG hd K hK => ?_) ?_
                  · have h125 := deps_get hd 0 rfl rfl rfl rfl rfl
                    rw [if_pos (wanted_none rfl)]
                    obtain ⟨b9, hb1, hb2⟩ := h125
                    have hr := conv17_zsec hb2
                    refine wp_value (w2 := wx) (v := .string (strOfNums zsec)) ?_ (hK _ _ rfl (Fr.refl _ _))
                    clear hd hK
                    go_simp
                  refine stepsHold.cons (fun wx hG hd K hK => ?_) ?_
                  · have h124 : us 124 = (.string (strOfNums x.b)) := deps_get hd 0 rfl rfl rfl rfl rfl
                    have h126 : us 126 = (.string (strOfNums zsec)) := deps_get hd 1 rfl rfl rfl rfl rfl
                    rw [if_pos (wanted_none rfl)]
                    refine wp_value (w2 := wx) (v := .string (strOfNums (x.b ++ zsec))) ?_ (hK _ _ rfl (Fr.refl _ _))
                    clear hd hK
                    rw [strOfNums_append]
                    have hsz : (strOfNums x.b).size + (strOfNums zsec).size ≤ 9223372036854775807 := by rw [strOfNums_size, strOfNums_size, zsec_len]; have := HLB.out; omega
                    go_simp
                  refine stepsHold.cons (fun wx hG hd K hK => ?_) ?_
                  · have h127 : us 127 = (.string (strOfNums (x.b ++ zsec))) := deps_get hd 0 rfl rfl rfl rfl rfl
                    rw [if_pos (wanted_none rfl)]
                    refine wp_value (w2 := wx) (v := .string (strOfNums (x.b ++ zsec))) ?_ (hK _ _ rfl (Fr.refl _ _))
                    clear hd hG hK
                    go_simp
                  exact stepsHold.nil
                case fin =>
                  have h119 : us 119 = (.slice (some ⟨b, off, none⟩) n c) := all_get hall 0 rfl rfl rfl
                  have h120 : us 120 = (.int .i64 (j : Int)) := all_get hall 1 rfl rfl rfl
                  have h121 : us 121 = (.pointer (some ⟨b, off + j * 4, none⟩)) := all_get hall 2 rfl rfl rfl
                  have h122 : us 122 = (.pointer (some ⟨b, off + j * 4 + 3, none⟩)) := all_get hall 3 rfl rfl rfl
                  have h123 : us 123 = (.slice x.bA x.bn x.bc) := all_get hall 4 rfl rfl rfl
                  have h124 : us 124 = (.string (strOfNums x.b)) := all_get hall 5 rfl rfl rfl
                  have h125 := all_get hall 6 rfl rfl rfl
                  have h126 : us 126 = (.string (strOfNums zsec)) := all_get hall 7 rfl rfl rfl
                  have h127 : us 127 = (.string (strOfNums (x.b ++ zsec))) := all_get hall 8 rfl rfl rfl
                  have h16 : us 16 = (.string (strOfNums (x.b ++ zsec))) := all_get hall 9 rfl rfl rfl
                  simp only [fillL, Nat.reduceAdd]
                  clear hall
                  simp only [h119, h120, h121, h122, h123, h124, h126, h127, h16]
                  clear h119 h120 h121 h122 h123 h124 h126 h127 h16
                  have hsz : (64 : Int) ≤ ((strOfNums (x.b ++ zsec)).size : Int) := by rw [strOfNums_size, List.length_append, zsec_len]; omega
                  have hwz := hG.keep0 HW6.out
                  have hfz : wz.frozen? ⟨wb, z, none⟩ = false := free_of hwz _
                  have hcl : wz.cell? ⟨wb, z, none⟩ = some (strV wz9) := by rw [cell_of hwz, wantA_get, HWZ.out]; rfl
                  have HWZ2 := Lib.hid hwz
                  clear hwz
                  go_wp2_with fail
                  go_roundg (n - (j + 1))
                  case measure => omega
                  case rel =>
                    rw [strOfNums_take, pad64_take x.b (by have := HB5.out.len; omega)]
                    refine ⟨j + 1, by omega, rfl, by first | rfl | (go_num), ⟨⟨M', _, _, W.set z (pad64 x.b), ?_, HT9.out, HM6.out, HMW6.out, HS6.out, ?_⟩, ?_⟩⟩
                    · refine (HIN6.out.keep0 hG).keep ((Fr.refl (fun k => k = wb) _).setCell (p := ⟨wb, z, none⟩) (.inl rfl) _) (fun k hk => ?_)
                      subst hk
                      exact ⟨HMW6.out, HWB.out.2.1⟩
                    · rw [set_cell HWZ2.out, ← wantA_set]
                      rfl
                    · exact (HF6.out.then0 hG).setCell (p := ⟨wb, z, none⟩) (.inr HWB.out.2.2) _
          by_cases h8 : x.what = 8
          · go_wp2_with fail
            refine (HI5.out.safe (s : Int)).mono ?_
            rintro e w6 ⟨rfl, hin, hf⟩
            obtain ⟨g1, g2⟩ := HST.out w6 hf
            have HTA : Hid (TellAt w w6 pb db lb mb wb (j + 1)) := Lib.hid ⟨⟨M, _, D, W, hin.next, (HT5.out.safe _).more (by omega), HM5.out, HMW.out, by have := HSF.out; show 0 ≤ max P.safe (s : Int); omega, g2⟩, g1⟩
            clear hin hf g1 g2
            go_wp2_with fail
            go_roundg (n - (j + 1))
            case measure => omega
            case rel => exact ⟨j + 1, by omega, rfl, by first | rfl | (go_num), HTA.out⟩
          by_cases h9 : x.what = 9
          · go_wp2_with fail
            refine (HI5.out.clean HT5.out.s0 (by have := HT5.out.s1; have := HK3.out; omega)).mono ?_
            rintro e w6 ⟨P6, D6, hcl⟩
            obtain ⟨rfl, hwa, hin, hf⟩ := hcl
            obtain ⟨g1, g2⟩ := HST.out w6 hf
            have hll := listed_length P (fun f => f.dirty && P.may f)
            have hl64 := HI5.out.len64
            have HTA : Hid (TellAt w w6 pb db lb mb wb (j + 1)) := Lib.hid ⟨⟨M, _, _, W, hin.next, (HT5.out.washed HI5.out.wf (listed_sub _) (by omega) hwa).more (by omega), HM5.out, HMW.out, by rw [hwa.pool]; exact HSF.out, g2⟩, g1⟩
            clear hin hf g1 g2 hwa hll hl64
            go_wp2_with fail
            go_roundg (n - (j + 1))
            case measure => omega
            case rel => exact ⟨j + 1, by omega, rfl, by first | rfl | (go_num), HTA.out⟩
          · go_wp2_with fail
            refine (HI5.out.get (by omega) z hz12).mono ?_
            intro e w6 hg
            have ht6 := HT5.out.hold HK3.out HI5.out.wf hz12
            have hs6 := hold_safe P D z
            cases hg with
            | no M' hs hin ho he hf =>
              subst he
              obtain ⟨g1, g2⟩ := HST.out w6 hf
              obtain ⟨g3, g4⟩ := HUP.out M' hs
              have HTA : Hid (TellAt w w6 pb db lb mb wb (j + 1)) := Lib.hid ⟨⟨M', _, _, W, hin, ht6.more (by omega), g3, g4, by rw [hs6]; exact HSF.out, g2⟩, g1⟩
              clear hs hin ho hf g1 g2 g3 g4 ht6 hs6 c0 c1 c2 c3
              go_upto_region 19 with fail
              go_quiet (fail)
              go_wp2_with fail
              go_roundg (n - (j + 1))
              case measure => omega
              case rel => exact ⟨j + 1, by omega, rfl, by first | rfl | (go_num), HTA.out.keep0 ((Fr.refl F0 w6).drewN _)⟩
            | yes M' hs hin i9 f9 A9 c9 ho hi he hb hl hA hf =>
              subst he
              obtain ⟨g1, g2⟩ := HST.out w6 hf
              obtain ⟨g3, g4⟩ := HUP.out M' hs
              have hfound := ht6.found (List.mem_of_getElem? hi) (hold_at ho hi)
              have kw : ∀ wx, Fr F0 w6 wx → wx.cell? ⟨wb, z, none⟩ = some (.string (strOfNums f9.b)) := fun wx hx => by
                rw [cell_of (hx.keep0 g2), wantA_get, hfound]
                rfl
              have hb64 := hb.at_
              rw [hl] at hb64
              have HB5 := Lib.hid hb64
              have HTA : Hid (TellAt w w6 pb db lb mb wb (j + 1)) := Lib.hid ⟨⟨M', _, _, W, hin, ht6.more (by omega), g3, g4, by rw [hs6]; exact HSF.out, g2⟩, g1⟩
              clear hs hin ho hi hf hb hl hA g1 g2 g3 g4 ht6 hs6 hfound hb64 c0 c1 c2 c3
              go_upto_region 19 with fail
              refine wp_region_free (S := F0) [false, false, false, false, false, false, false, false, false, false, false, false, false, false, false, false, false, false, false, false, false, false, false, false, false, false, false, false, false, false, false, false, false, false, false, false, false, false, false, false, false, false, false, false, false, false, false, false, false, false, false, false, false, false, false, false, false, false, false, false, false, false, false, false, false, false, false, false, false, false, false, false, false, false, false, false, true, true, true, true, true, true, true, true, true, true, true, true, true, true, true, true, true, true, true, false, false, false, false, false, false, false, false, false, false, false, false, false, false, false, false, false, false, false, false, false, false, false, false, false, false, false, false, false, false, false, false, false, false, false, false, false, false, false, false, false, false, false, false, false, false, false, false, false, false, false, false, false, false, false, false, false, false, false, false, false, false, false, false, false, false, false, false, false, false, false, false, false, false, false, false, false, false, false, false, false, false, false, false, false, false, false, false, false, false, false, false, false, false, false, false, false, false, false] [.eq (.int .i64 0), .eq (.bool true), .eq (.bool true), .eq (.slice A9 64 c9), .eq (.string (strOfNums f9.b)), .eq (.slice (some ⟨wb, 0, none⟩) 12 12), .eq (.int .i64 (z : Int)), .eq (.pointer (some ⟨wb, z, none⟩)), .eq (.string (strOfNums f9.b)), .eq (.bool false), .eq (.bool false), .eq (.bool false), .eq (.int .i64 0), .eq (.bool false), .eq (.bool false), .eq undef, .eq undef, .eq (.bool false), .eq (.bool false)] (by kernel_rfl) (by kernel_rfl) (by rfl) (fun us => ?steps) (fun us wz hG hall => ?fin)
              case steps =>
                simp only [fillL, Nat.reduceAdd]
                refine stepsHold.cons (fun wx hG hd K hK => ?_) ?_
                · rw [if_pos (wanted_none rfl)]
                  refine wp_value (w2 := wx) (v := .int .i64 0) ?_ (hK _ _ rfl (Fr.refl _ _))
                  clear hd hG hK
                  go_simp
                refine stepsHold.cons (fun wx hG hd K hK => ?_) ?_
                · have h76 : us 76 = (.int .i64 0) := deps_get hd 0 rfl rfl rfl rfl rfl
                  rw [if_pos (wanted_none rfl)]
                  refine wp_value (w2 := wx) (v := .bool true) ?_ (hK _ _ rfl (Fr.refl _ _))
                  clear hd hG hK
                  go_simp
                refine stepsHold.cons (fun wx hG hd K hK => ?_) ?_
                · have h77 : us 77 = (.bool true) := deps_get hd 0 rfl rfl rfl rfl rfl
                  rw [if_pos (wanted_none rfl)]
                  refine wp_value (w2 := wx) (v := .bool true) ?_ (hK _ _ rfl (Fr.refl _ _))
                  clear hd hG hK
                  go_simp
                refine stepsHold.cons (fun wx hG hd K hK => ?_) ?_
                · have h78 : us 78 = (.bool true) := deps_get hd 0 rfl rfl rfl rfl rfl
                  rw [if_pos (wanted_yes rfl rfl rfl rfl h78)]
                  refine wp_value (w2 := wx) (v := .slice A9 64 c9) ?_ (hK _ _ rfl (Fr.refl _ _))
                  clear hd hG hK
                  go_simp
                refine stepsHold.cons (fun wx hG hd K hK => ?_) ?_
                · have h79 : us 79 = (.slice A9 64 c9) := deps_get hd 0 rfl rfl rfl rfl rfl
                  have h78 : us 78 = (.bool true) := deps_get hd 1 rfl rfl rfl rfl rfl
                  rw [if_pos (wanted_yes rfl rfl rfl rfl h78)]
                  have hr := conv_at (HB5.out.keep0 hG) und17_bytes und17_u8 und17_string c9
                  refine wp_value (w2 := wx) (v := .string (strOfNums f9.b)) ?_ (hK _ _ rfl (Fr.refl _ _))
                  clear hd hK
                  go_simp
                refine stepsHold.cons (fun wx hG hd K hK => ?_) ?_
                · have h78 : us 78 = (.bool true) := deps_get hd 0 rfl rfl rfl rfl rfl
                  rw [if_pos (wanted_yes rfl rfl rfl rfl h78)]
                  refine wp_value (w2 := wx) (v := .slice (some ⟨wb, 0, none⟩) 12 12) ?_ (hK _ _ rfl (Fr.refl _ _))
                  clear hd hG hK
                  go_simp
                refine stepsHold.cons (fun wx hG hd K hK => ?_) ?_
                · have h78 : us 78 = (.bool true) := deps_get hd 0 rfl rfl rfl rfl rfl
                  rw [if_pos (wanted_yes rfl rfl rfl rfl h78)]
                  refine wp_value (w2 := wx) (v := .int .i64 (z : Int)) ?_ (hK _ _ rfl (Fr.refl _ _))
                  clear hd hG hK
                  go_simp
                refine stepsHold.cons (fun wx hG hd K hK => ?_) ?_
                · have h81 : us 81 = (.slice (some ⟨wb, 0, none⟩) 12 12) := deps_get hd 0 rfl rfl rfl rfl rfl
                  have h82 : us 82 = (.int .i64 (z : Int)) := deps_get hd 1 rfl rfl rfl rfl rfl
                  have h78 : us 78 = (.bool true) := deps_get hd 2 rfl rfl rfl rfl rfl
                  rw [if_pos (wanted_yes rfl rfl rfl rfl h78)]
                  refine wp_value (w2 := wx) (v := .pointer (some ⟨wb, z, none⟩)) ?_ (hK _ _ rfl (Fr.refl _ _))
                  clear hd hG hK
                  go_simp
                refine stepsHold.cons (fun wx hG hd K hK => ?_) ?_
                · have h83 : us 83 = (.pointer (some ⟨wb, z, none⟩)) := deps_get hd 0 rfl rfl rfl rfl rfl
                  have h78 : us 78 = (.bool true) := deps_get hd 1 rfl rfl rfl rfl rfl
                  rw [if_pos (wanted_yes rfl rfl rfl rfl h78)]
                  have hc := kw wx hG
                  refine wp_value (w2 := wx) (v := .string (strOfNums f9.b)) ?_ (hK _ _ rfl (Fr.refl _ _))
                  clear hd hK
                  go_simp
                refine stepsHold.cons (fun wx hG hd K hK => ?_) ?_
                · have h80 : us 80 = (.string (strOfNums f9.b)) := deps_get hd 0 rfl rfl rfl rfl rfl
                  have h84 : us 84 = (.string (strOfNums f9.b)) := deps_get hd 1 rfl rfl rfl rfl rfl
                  have h78 : us 78 = (.bool true) := deps_get hd 2 rfl rfl rfl rfl rfl
                  rw [if_pos (wanted_yes rfl rfl rfl rfl h78)]
                  refine wp_value (w2 := wx) (v := .bool false) ?_ (hK _ _ rfl (Fr.refl _ _))
                  clear hd hG hK
                  go_simp
                refine stepsHold.cons (fun wx hG hd K hK => ?_) ?_
                · have h78 : us 78 = (.bool true) := deps_get hd 0 rfl rfl rfl rfl rfl
                  have h85 : us 85 = (.bool false) := deps_get hd 1 rfl rfl rfl rfl rfl
                  rw [if_pos (wanted_none rfl)]
                  refine wp_value (w2 := wx) (v := .bool false) ?_ (hK _ _ rfl (Fr.refl _ _))
                  clear hd hG hK
                  go_simp
                refine stepsHold.cons (fun wx hG hd K hK => ?_) ?_
                · have h86 : us 86 = (.bool false) := deps_get hd 0 rfl rfl rfl rfl rfl
                  rw [if_pos (wanted_none rfl)]
                  refine wp_value (w2 := wx) (v := .bool false) ?_ (hK _ _ rfl (Fr.refl _ _))
                  clear hd hG hK
                  go_simp
                refine stepsHold.cons (fun wx hG hd K hK => ?_) ?_
                · have h87 : us 87 = (.bool false) := deps_get hd 0 rfl rfl rfl rfl rfl
                  rw [if_pos (wanted_yes rfl rfl rfl rfl h87)]
                  refine wp_value (w2 := wx) (v := .int .i64 0) ?_ (hK _ _ rfl (Fr.refl _ _))
                  clear hd hG hK
                  go_simp
                refine stepsHold.cons (fun wx hG hd K hK => ?_) ?_
                · have h88 : us 88 = (.int .i64 0) := deps_get hd 0 rfl rfl rfl rfl rfl
                  have h87 : us 87 = (.bool false) := deps_get hd 1 rfl rfl rfl rfl rfl
                  rw [if_pos (wanted_yes rfl rfl rfl rfl h87)]
                  refine wp_value (w2 := wx) (v := .bool false) ?_ (hK _ _ rfl (Fr.refl _ _))
                  clear hd hG hK
                  go_simp
                refine stepsHold.cons (fun wx hG hd K hK => ?_) ?_
                · have h89 : us 89 = (.bool false) := deps_get hd 0 rfl rfl rfl rfl rfl
                  have h87 : us 87 = (.bool false) := deps_get hd 1 rfl rfl rfl rfl rfl
                  rw [if_pos (wanted_yes rfl rfl rfl rfl h87)]
                  refine wp_value (w2 := wx) (v := .bool false) ?_ (hK _ _ rfl (Fr.refl _ _))
                  clear hd hG hK
                  go_simp
                refine stepsHold.cons (fun wx hG hd K hK => ?_) ?_
                · have h90 : us 90 = (.bool false) := deps_get hd 0 rfl rfl rfl rfl rfl
                  rw [if_neg (wanted_no rfl rfl rfl rfl h90)]
                  exact hK _ _ rfl (Fr.refl _ _)
                refine stepsHold.cons (fun wx hG hd K hK => ?_) ?_
                · have h91 : us 91 = (undef) := deps_get hd 0 rfl rfl rfl rfl rfl
                  have h90 : us 90 = (.bool false) := deps_get hd 1 rfl rfl rfl rfl rfl
                  rw [if_neg (wanted_no rfl rfl rfl rfl h90)]
                  exact hK _ _ rfl (Fr.refl _ _)
                refine stepsHold.cons (fun wx hG hd K hK => ?_) ?_
                · have h90 : us 90 = (.bool false) := deps_get hd 0 rfl rfl rfl rfl rfl
                  have h92 : us 92 = (undef) := deps_get hd 1 rfl rfl rfl rfl rfl
                  have h87 : us 87 = (.bool false) := deps_get hd 2 rfl rfl rfl rfl rfl
                  rw [if_pos (wanted_yes rfl rfl rfl rfl h87)]
                  refine wp_value (w2 := wx) (v := .bool false) ?_ (hK _ _ rfl (Fr.refl _ _))
                  clear hd hG hK
                  go_simp
                refine stepsHold.cons (fun wx hG hd K hK => ?_) ?_
                · have h87 : us 87 = (.bool false) := deps_get hd 0 rfl rfl rfl rfl rfl
                  have h93 : us 93 = (.bool false) := deps_get hd 1 rfl rfl rfl rfl rfl
                  rw [if_pos (wanted_none rfl)]
                  refine wp_value (w2 := wx) (v := .bool false) ?_ (hK _ _ rfl (Fr.refl _ _))
                  clear hd hG hK
                  go_simp
                exact stepsHold.nil
              case fin =>
                have h76 : us 76 = (.int .i64 0) := all_get hall 0 rfl rfl rfl
                have h77 : us 77 = (.bool true) := all_get hall 1 rfl rfl rfl
                have h78 : us 78 = (.bool true) := all_get hall 2 rfl rfl rfl
                have h79 : us 79 = (.slice A9 64 c9) := all_get hall 3 rfl rfl rfl
                have h80 : us 80 = (.string (strOfNums f9.b)) := all_get hall 4 rfl rfl rfl
                have h81 : us 81 = (.slice (some ⟨wb, 0, none⟩) 12 12) := all_get hall 5 rfl rfl rfl
                have h82 : us 82 = (.int .i64 (z : Int)) := all_get hall 6 rfl rfl rfl
                have h83 : us 83 = (.pointer (some ⟨wb, z, none⟩)) := all_get hall 7 rfl rfl rfl
                have h84 : us 84 = (.string (strOfNums f9.b)) := all_get hall 8 rfl rfl rfl
                have h85 : us 85 = (.bool false) := all_get hall 9 rfl rfl rfl
                have h86 : us 86 = (.bool false) := all_get hall 10 rfl rfl rfl
                have h87 : us 87 = (.bool false) := all_get hall 11 rfl rfl rfl
                have h88 : us 88 = (.int .i64 0) := all_get hall 12 rfl rfl rfl
                have h89 : us 89 = (.bool false) := all_get hall 13 rfl rfl rfl
                have h90 : us 90 = (.bool false) := all_get hall 14 rfl rfl rfl
                have h91 : us 91 = (undef) := all_get hall 15 rfl rfl rfl
                have h92 : us 92 = (undef) := all_get hall 16 rfl rfl rfl
                have h93 : us 93 = (.bool false) := all_get hall 17 rfl rfl rfl
                have h94 : us 94 = (.bool false) := all_get hall 18 rfl rfl rfl
                simp only [fillL, Nat.reduceAdd]
                clear hall
                simp only [h76, h77, h78, h79, h80, h81, h82, h83, h84, h85, h86, h87, h88, h89, h90, h91, h92, h93, h94]
                clear h76 h77 h78 h79 h80 h81 h82 h83 h84 h85 h86 h87 h88 h89 h90 h91 h92 h93 h94
                go_wp2_with fail
                go_roundg (n - (j + 1))
                case measure => omega
                case rel => exact ⟨j + 1, by omega, rfl, by first | rfl | (go_num), HTA.out.keep0 hG⟩
        · have hjn : j = n := by omega
          subst hjn
          have HUN : Hid (∀ k, M k ∨ Dv db lb mb k → w.heap.size ≤ k ∧ k ≠ wb) := Lib.hid (fun k hk => by
            rcases hk with hk | hk
            · exact ⟨HM5.out k hk, fun e => HMW.out (e ▸ hk)⟩
            · exact ⟨HN.out k hk, fun e => HWB.out.2.1 (e ▸ hk)⟩)
          go_wp2_with fail
          refine (HI5.out.safe 100).mono ?_
          rintro e w6 ⟨rfl, hin6, hf6⟩
          have HI6 := Lib.hid hin6
          have HF6 := Lib.hid (HF5.out.trans hf6 (fun k hk => .inr (HUN.out k hk).1))
          have HW6 := Lib.hid (hf6.keep HW5.out (fun hk => (HUN.out _ hk).2 rfl))
          clear hin6 hf6
          go_wp2_with fail
          refine (HI6.out.clean HT5.out.s0 (by have := HT5.out.s1; omega)).mono ?_
          rintro e w7 ⟨P7, D7, hcl⟩
          obtain ⟨rfl, hwa, hin7, hf7⟩ := hcl
          have HALL := Lib.hid ((HT5.out.safe (max P.safe 100)).all HI6.out.wf (by show (15 : Int) ≤ max P.safe 100; omega) hwa HI6.out.len64)
          have HI7 := Lib.hid hin7
          have HF7 := Lib.hid (HF6.out.trans hf7 (fun k hk => .inr (HUN.out k hk).1))
          have HW7 := Lib.hid (hf7.keep HW6.out (fun hk => (HUN.out _ hk).2 rfl))
          clear hwa hin7 hf7
          go_wp2_with fail
          refine (HI7.out.dirty).mono ?_
          rintro e w8 ⟨A8, c8, rfl, -, -, hf8⟩
          rw [HALL.out.1]
          have HF8 := Lib.hid (HF7.out.then0 hf8)
          have HW8 := Lib.hid (hf8.keep0 HW7.out)
          have HD8 := Lib.hid (HI7.out.dev.keep0 hf8)
          have HWF := Lib.hid HI7.out.wf
          clear hf8
          go_wp2_with fail
          go_loopg [19, 20, 21] 12 (fun kq x19 x20 x21 wr => ∃ i : Nat, i ≤ 12 ∧ kq = 12 - i ∧ x19 = .int .i64 (i : Int) ∧ Fr F0 w8 wr)
          case atStart => exact ⟨0, by omega, rfl, rfl, Fr.refl F0 w8⟩
          case round =>
            obtain ⟨i, hi, rfl, rfl, hfr⟩ := hrel
            have HFR := Lib.hid hfr
            clear hfr
            have i0 : (0 : Int) ≤ (i : Int) := Int.natCast_nonneg _
            by_cases hlt3 : i < 12
            · have i1 : (i : Int) < 12 := by omega
              go_wp2_with fail
              refine (read_c (HD8.out.keep0 HFR.out) HWF.out.good.gone i (by rw [HWF.out.good.laid]; omega)).mono ?_
              rintro e w9 ⟨b9, t9, rfl, hb90, hb91, hf9⟩
              have hl9 : (D7.at i).length = 64 := Dev.at_len HWF.out.dok (by rw [HWF.out.good.laid]; omega)
              have hb9 := BytesAt.of_block hb91
              rw [hl9] at hb9
              have HB9 := Lib.hid hb9
              have kw : ∀ wx, Fr F0 w9 wx → wx.cell? ⟨wb, i, none⟩ = some (.string (strOfNums (D7.at i))) := fun wx hx => by
                rw [cell_of (((HFR.out.then0 hf9).then0 hx).keep0 HW8.out), wantA_get, HALL.out.2 i hlt3]
                rfl
              have HF9 := Lib.hid (HFR.out.then0 hf9)
              clear hb90 hb91 hf9 hl9 hb9
              go_upto_region 40 with fail
              refine wp_region_free (S := F0) [false, false, false, false, false, false, false, false, false, false, false, false, false, false, false, false, false, false, false, false, false, false, false, false, false, false, false, false, false, false, false, false, false, false, false, false, false, false, false, false, false, false, false, false, false, false, false, false, false, false, false, false, false, false, false, false, false, false, false, false, false, false, false, false, false, false, false, false, false, false, false, false, false, false, false, false, false, false, false, false, false, false, false, false, false, false, false, false, false, false, false, false, false, false, false, false, false, false, false, false, false, false, false, false, false, false, false, false, false, false, false, false, false, false, false, false, false, false, false, false, false, false, false, false, false, false, false, false, false, false, false, false, false, false, false, false, false, false, false, false, false, false, false, false, false, false, false, false, false, false, false, false, false, false, false, false, false, false, false, false, false, false, false, false, false, false, false, false, false, false, false, false, false, false, false, false, false, false, false, false, false, false, true, true, true, true, true, true, true, true, true, true, true, false] [.eq (.int .i64 0), .eq (.bool false), .eq (.bool false), .eq (.slice (some ⟨b9, 0, none⟩) 64 64), .eq (.string (strOfNums (D7.at i))), .eq (.slice (some ⟨wb, 0, none⟩) 12 12), .eq (.int .i64 (i : Int)), .eq (.pointer (some ⟨wb, i, none⟩)), .eq (.string (strOfNums (D7.at i))), .eq (.bool false), .eq (.bool false)] (by kernel_rfl) (by kernel_rfl) (by rfl) (fun us => ?steps) (fun us wz hG hall => ?fin)
              case steps =>
                simp only [fillL, Nat.reduceAdd]
                refine stepsHold.cons (fun wx hG hd K hK => ?_) ?_
                · rw [if_pos (wanted_none rfl)]
                  refine wp_value (w2 := wx) (v := .int .i64 0) ?_ (hK _ _ rfl (Fr.refl _ _))
                  clear hd hG hK
                  go_simp
                refine stepsHold.cons (fun wx hG hd K hK => ?_) ?_
                · have h182 : us 182 = (.int .i64 0) := deps_get hd 0 rfl rfl rfl rfl rfl
                  rw [if_pos (wanted_none rfl)]
                  refine wp_value (w2 := wx) (v := .bool false) ?_ (hK _ _ rfl (Fr.refl _ _))
                  clear hd hG hK
                  go_simp
                refine stepsHold.cons (fun wx hG hd K hK => ?_) ?_
                · have h183 : us 183 = (.bool false) := deps_get hd 0 rfl rfl rfl rfl rfl
                  rw [if_pos (wanted_none rfl)]
                  refine wp_value (w2 := wx) (v := .bool false) ?_ (hK _ _ rfl (Fr.refl _ _))
                  clear hd hG hK
                  go_simp
                refine stepsHold.cons (fun wx hG hd K hK => ?_) ?_
                · have h184 : us 184 = (.bool false) := deps_get hd 0 rfl rfl rfl rfl rfl
                  rw [if_pos (wanted_yes rfl rfl rfl rfl h184)]
                  refine wp_value (w2 := wx) (v := .slice (some ⟨b9, 0, none⟩) 64 64) ?_ (hK _ _ rfl (Fr.refl _ _))
                  clear hd hG hK
                  go_simp
                refine stepsHold.cons (fun wx hG hd K hK => ?_) ?_
                · have h185 : us 185 = (.slice (some ⟨b9, 0, none⟩) 64 64) := deps_get hd 0 rfl rfl rfl rfl rfl
                  have h184 : us 184 = (.bool false) := deps_get hd 1 rfl rfl rfl rfl rfl
                  rw [if_pos (wanted_yes rfl rfl rfl rfl h184)]
                  have hr := conv_at (HB9.out.keep0 hG) und17_bytes und17_u8 und17_string 64
                  refine wp_value (w2 := wx) (v := .string (strOfNums (D7.at i))) ?_ (hK _ _ rfl (Fr.refl _ _))
                  clear hd hK
                  go_simp
                refine stepsHold.cons (fun wx hG hd K hK => ?_) ?_
                · have h184 : us 184 = (.bool false) := deps_get hd 0 rfl rfl rfl rfl rfl
                  rw [if_pos (wanted_yes rfl rfl rfl rfl h184)]
                  refine wp_value (w2 := wx) (v := .slice (some ⟨wb, 0, none⟩) 12 12) ?_ (hK _ _ rfl (Fr.refl _ _))
                  clear hd hG hK
                  go_simp
                refine stepsHold.cons (fun wx hG hd K hK => ?_) ?_
                · have h184 : us 184 = (.bool false) := deps_get hd 0 rfl rfl rfl rfl rfl
                  rw [if_pos (wanted_yes rfl rfl rfl rfl h184)]
                  refine wp_value (w2 := wx) (v := .int .i64 (i : Int)) ?_ (hK _ _ rfl (Fr.refl _ _))
                  clear hd hG hK
                  go_simp
                refine stepsHold.cons (fun wx hG hd K hK => ?_) ?_
                · have h187 : us 187 = (.slice (some ⟨wb, 0, none⟩) 12 12) := deps_get hd 0 rfl rfl rfl rfl rfl
                  have h188 : us 188 = (.int .i64 (i : Int)) := deps_get hd 1 rfl rfl rfl rfl rfl
                  have h184 : us 184 = (.bool false) := deps_get hd 2 rfl rfl rfl rfl rfl
                  rw [if_pos (wanted_yes rfl rfl rfl rfl h184)]
                  refine wp_value (w2 := wx) (v := .pointer (some ⟨wb, i, none⟩)) ?_ (hK _ _ rfl (Fr.refl _ _))
                  clear hd hG hK
                  go_simp
                refine stepsHold.cons (fun wx hG hd K hK => ?_) ?_
                · have h189 : us 189 = (.pointer (some ⟨wb, i, none⟩)) := deps_get hd 0 rfl rfl rfl rfl rfl
                  have h184 : us 184 = (.bool false) := deps_get hd 1 rfl rfl rfl rfl rfl
                  rw [if_pos (wanted_yes rfl rfl rfl rfl h184)]
                  have hc := kw wx hG
                  refine wp_value (w2 := wx) (v := .string (strOfNums (D7.at i))) ?_ (hK _ _ rfl (Fr.refl _ _))
                  clear hd hK
                  go_simp
                refine stepsHold.cons (fun wx hG hd K hK => ?_) ?_
                · have h186 : us 186 = (.string (strOfNums (D7.at i))) := deps_get hd 0 rfl rfl rfl rfl rfl
                  have h190 : us 190 = (.string (strOfNums (D7.at i))) := deps_get hd 1 rfl rfl rfl rfl rfl
                  have h184 : us 184 = (.bool false) := deps_get hd 2 rfl rfl rfl rfl rfl
                  rw [if_pos (wanted_yes rfl rfl rfl rfl h184)]
                  refine wp_value (w2 := wx) (v := .bool false) ?_ (hK _ _ rfl (Fr.refl _ _))
                  clear hd hG hK
                  go_simp
                refine stepsHold.cons (fun wx hG hd K hK => ?_) ?_
                · have h184 : us 184 = (.bool false) := deps_get hd 0 rfl rfl rfl rfl rfl
                  have h191 : us 191 = (.bool false) := deps_get hd 1 rfl rfl rfl rfl rfl
                  rw [if_pos (wanted_none rfl)]
                  refine wp_value (w2 := wx) (v := .bool false) ?_ (hK _ _ rfl (Fr.refl _ _))
                  clear hd hG hK
                  go_simp
                exact stepsHold.nil
              case fin =>
                have h182 : us 182 = (.int .i64 0) := all_get hall 0 rfl rfl rfl
                have h183 : us 183 = (.bool false) := all_get hall 1 rfl rfl rfl
                have h184 : us 184 = (.bool false) := all_get hall 2 rfl rfl rfl
                have h185 : us 185 = (.slice (some ⟨b9, 0, none⟩) 64 64) := all_get hall 3 rfl rfl rfl
                have h186 : us 186 = (.string (strOfNums (D7.at i))) := all_get hall 4 rfl rfl rfl
                have h187 : us 187 = (.slice (some ⟨wb, 0, none⟩) 12 12) := all_get hall 5 rfl rfl rfl
                have h188 : us 188 = (.int .i64 (i : Int)) := all_get hall 6 rfl rfl rfl
                have h189 : us 189 = (.pointer (some ⟨wb, i, none⟩)) := all_get hall 7 rfl rfl rfl
                have h190 : us 190 = (.string (strOfNums (D7.at i))) := all_get hall 8 rfl rfl rfl
                have h191 : us 191 = (.bool false) := all_get hall 9 rfl rfl rfl
                have h192 : us 192 = (.bool false) := all_get hall 10 rfl rfl rfl
                simp only [fillL, Nat.reduceAdd]
                clear hall
                simp only [h182, h183, h184, h185, h186, h187, h188, h189, h190, h191, h192]
                clear h182 h183 h184 h185 h186 h187 h188 h189 h190 h191 h192
                go_wp2_with fail
                go_roundg (12 - (i + 1))
                case measure => omega
                case rel => exact ⟨i + 1, by omega, rfl, by first | rfl | (go_num), HF9.out.then0 hG⟩
            · have hin : i = 12 := by omega
              subst hin
              go_wp2_with fail
              go_ret
              exact ⟨rfl, HF8.out.then0 HFR.out⟩
end
end Go.Proofs.Ytjfdfjenodianaa
