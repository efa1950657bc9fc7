/-
  heronry/locks: Pass, of a table that is sane. Conditions: none.
-/
import Derived.Test.YtgbaijfgmeealaaGreatP10c
import Derived.Test.YtgbaijfgmeealaaGreatK10q
import Derived.Test.YtgbaijfgmeealaaGreatLast
set_option linter.unusedVariables false
set_option linter.unusedSimpArgs false
namespace Go.Proofs.YtgbaijfgmeealaaGreat
open Go.RowKit
theorem ValsAt.one {w : World} {b : Nat} {v : Value} {t : TypeId} (h : w.heap[b]? = some (.cells #[v] t (0, 0))) : ValsAt w (some ⟨b, 0, none⟩) [v] := by
  refine ⟨fun _ => ⟨_, rfl, fun j u hj => ?_⟩⟩
  have hj0 : j = 0 := by
    have := (List.getElem?_eq_some_iff.1 hj).1
    simp at this
    omega
  subst hj0
  have : u = v := by simpa using hj.symm
  subst this
  show w.cell? ⟨b, 0, none⟩ = _
  rw [cell_of h]
  rfl
section
variable {w : World} {v : Value} {L : List Lk}
set_option maxRecDepth 100000 in
set_option maxHeartbeats 4000000 in
theorem pass_c (tx p : Int) (h : SlV 4 Lk.cells w v L) (hs : SaneL L) (hp : p < 64) :
    Calls Tryz.prog 44 #[.agg #[v], .int .i64 tx, .int .i64 p] w fun e w' => ∃ v', e = .returned (.agg #[v']) ∧ SlV 4 Lk.cells w' v' (passL L tx p) ∧ Fr F0 w w' := by
  have hn := sane_len hs
  have HL := Lib.hid h
  have HSA := Lib.hid hs
  obtain ⟨A, c, rfl, -⟩ := h.ex
  obtain ⟨W, hW⟩ : ∃ W, W = ((w.alloc (.cells #[.slice A L.length c] 34)).alloc (.cells #[.slice none 0 0] 34)).alloc (.cells #[.int .i64 tx] 3) := ⟨_, rfl⟩
  have HF0 : Hid (Fr F0 w W) := Lib.hid (by rw [hW]; exact ((((Fr.refl F0 w).alloc _).alloc _).alloc _))
  have HT : Hid (W.heap[w.heap.size]? = some (.cells #[.slice A L.length c] 34 (0, 0))) := Lib.hid (by rw [hW]; exact keep_alloc (keep_alloc (alloc_at rfl _) _) _)
  have HR : Hid (W.heap[w.heap.size + 1]? = some (.cells #[.slice none 0 0] 34 (0, 0))) := Lib.hid (by rw [hW]; exact keep_alloc (alloc_at (by simp) _) _)
  have HI : Hid (W.heap[w.heap.size + 2]? = some (.cells #[.int .i64 tx] 3 (0, 0))) := Lib.hid (by rw [hW]; exact alloc_at (by simp) _)
  have HSZ : Hid (W.heap.size = w.heap.size + 3) := Lib.hid (by rw [hW]; simp)
  have HW := Lib.hid hW
  clear h hs hW
  go_enter Tryz.func44, Tryz.ntmps44
  go_wp2_with fail
  rw [← HW.out]
  refine (free_c (ls := [tx]) (n := 1) rfl (ValsAt.one HI.out) (by decide) (HL.out.keep0 HF0.out) (by omega)).mono ?_
  rintro e w1 ⟨v1, rfl, hown1, hf1⟩
  obtain ⟨A1, c1, rfl, -⟩ := SrAt.of_own Lk.len hown1
  obtain ⟨n1, hn1⟩ : ∃ n1, n1 = (freeL L [tx]).length := ⟨_, rfl⟩
  have HN1 := Lib.hid hn1
  rw [← hn1] at hown1 ⊢
  have hs1 : SlV 4 Lk.cells w1 (.slice A1 n1 c1) (freeL L [tx]) := SlV.of_own Lk.len (by rw [← hn1]; exact hown1)
  obtain ⟨W1, hW1⟩ : ∃ W1, W1 = w1.alloc (.cells #[.slice A1 n1 c1] 34) := ⟨_, rfl⟩
  have HW1 := Lib.hid hW1
  have hfa : Fr F0 w1 W1 := by rw [hW1]; exact (Fr.refl _ _).alloc _
  have HS1 := Lib.hid (hs1.keep0 hfa)
  have HF1 : Hid (Fr F0 w W1) := Lib.hid ((HF0.out.then0 hf1).then0 hfa)
  have HT1 := Lib.hid (hfa.keep0 (hf1.keep0 HT.out))
  have HR1 := Lib.hid (hfa.keep0 (hf1.keep0 HR.out))
  have HB1 : Hid (W1.heap[w1.heap.size]? = some (.cells #[.slice A1 n1 c1] 34 (0, 0))) := Lib.hid (by rw [hW1]; exact alloc_at rfl _)
  have hbt : w.heap.size + 3 ≤ w1.heap.size := by rw [← HSZ.out]; exact hf1.size
  clear hown1 hf1 hn1 hs1 hW1 hfa
  have kt : (w1.alloc (.cells #[.slice A1 n1 c1] 34)).cell? ⟨w.heap.size, 0, none⟩ = some (.slice A L.length c) := by rw [← HW1.out, cell_of HT1.out]; rfl
  have kr : (w1.alloc (.cells #[.slice A1 n1 c1] 34)).cell? ⟨w.heap.size + 1, 0, none⟩ = some (.slice none 0 0) := by rw [← HW1.out, cell_of HR1.out]; rfl
  have kf : (w1.alloc (.cells #[.slice A1 n1 c1] 34)).frozen? ⟨w.heap.size + 1, 0, none⟩ = false := by rw [← HW1.out]; exact free_of HR1.out 0
  by_cases hp0 : p < 0
  · go_wp2_with fail
    rw [← HW1.out]
    have e : passL L tx p = freeL L [tx] := by unfold passL; rw [if_pos hp0]
    rw [e]
    have hff : Fr (fun k => k = w.heap.size + 1) W1 (W1.setCell ⟨w.heap.size + 1, 0, none⟩ (.slice A1 n1 c1)) := (Fr.refl _ _).setCell (by exact .inl rfl) _
    exact tab_ret (b := w.heap.size + 1) rfl (by rfl) rfl (by rw [set_cell HR1.out]; rfl) ⟨_, rfl, HS1.out.box Lk.len HR1.out (by show 1 < 4; decide) hff, HF1.out.trans hff (fun k hk => .inr (by omega))⟩
  · have HP0 : Hid (¬ p < 0) := Lib.hid hp0
    go_wp2_with fail
    rw [← HW1.out]
    obtain ⟨bt, hbq⟩ : ∃ bt, bt = w1.heap.size := ⟨_, rfl⟩
    rw [← hbq] at HB1 hbt ⊢
    clear kt kr kf hbq
    refine (of_c tx (HL.out.keep0 HF1.out) (by omega)).mono ?_
    rintro e w2 ⟨v2, rfl, hown2, hf2⟩
    have hs2 := SlV.of_own Lk.len hown2
    have HLO : Hid (SaneL (ofL L tx)) := Lib.hid (ofL_sane HSA.out tx)
    have HLF : Hid (SaneL (freeL L [tx])) := Lib.hid (freeL_sane HSA.out _)
    have HPL : Hid (passL L tx p = passTo p (ofL L tx) (freeL L [tx])) := Lib.hid (by unfold passL; rw [if_neg (by have := HP0.out; omega)])
    obtain ⟨M, hM⟩ : ∃ M, M = ofL L tx := ⟨_, rfl⟩
    obtain ⟨O, hO⟩ : ∃ O, O = freeL L [tx] := ⟨_, rfl⟩
    rw [← hM] at hs2 HPL HLO
    rw [← hO] at HS1 HPL HN1 HLF
    have hMn : M.length ≤ 1000000 := by have := sane_len HLO.out; omega
    obtain ⟨A2, c2, rfl, hr2, -⟩ := hs2.ex
    obtain ⟨m, hm⟩ : ∃ m, m = M.length := ⟨_, rfl⟩
    have HM := Lib.hid hm
    rw [← hm] at hMn ⊢
    have HR2 := Lib.hid (hf2.keep0 HR1.out)
    have HB2 := Lib.hid (hf2.keep0 HB1.out)
    have HS2 := Lib.hid (HS1.out.keep0 hf2)
    have HO2 := Lib.hid hr2
    have HF2 := Lib.hid (HF1.out.then0 hf2)
    have m0 : (0 : Int) ≤ (m : Int) := Int.natCast_nonneg _
    have HPP : Hid (p < 64) := Lib.hid hp
    clear hown2 hs2 hr2 hm hf2 hM hO hp hp0
    go_wp2_with fail
    go_loopg [9, 10, 22] m (fun kq x9 x10 x22 wr => ∃ (j : Nat) (v7 : Value), j ≤ m ∧ kq = m - j ∧ x22 = .int .i64 (j : Int) ∧ wr.heap[bt]? = some (.cells #[v7] 34 (0, 0)) ∧ SlV 4 Lk.cells wr v7 (passTo p (M.take j) O) ∧ Fr (fun k => k = bt) w2 wr)
    case atStart => exact ⟨0, .slice A1 n1 c1, by omega, rfl, rfl, HB2.out, by rw [List.take_zero]; exact HS2.out, Fr.refl _ _⟩
    case round =>
      obtain ⟨j, v7, hj, rfl, rfl, hb, hsl, hf⟩ := hrel
      have HB := Lib.hid hb
      have HS := Lib.hid hsl
      have HF := Lib.hid hf
      have HSO : Hid (SaneL (passTo p (M.take j) O)) := Lib.hid (passTo_sane (by have := HP0.out; omega) HPP.out _ _ HLF.out (fun x hx => HLO.out.sound x (List.mem_of_mem_take hx)))
      obtain ⟨A7, c7, rfl, -⟩ := hsl.ex
      obtain ⟨n7, hn7⟩ : ∃ n7, n7 = (passTo p (M.take j) O).length := ⟨_, rfl⟩
      have HN7 := Lib.hid hn7
      have HNL : Hid ((passTo p (M.take j) O).length ≤ 100000) := Lib.hid (by have := sane_len HSO.out; omega)
      rw [← hn7] at HB HS
      clear hb hsl hf hn7
      have j0 : (0 : Int) ≤ (j : Int) := Int.natCast_nonneg _
      by_cases hlt : j < m
      · have j1 : (j : Int) < (m : Int) := by omega
        have hjl : j < M.length := by have := HM.out; omega
        have hrr := HO2.out.keep HF.out (fun ad e hl hk => HO2.out.notIn Lk.len HB2.out (by show 1 < 4; decide) hl ad e hk)
        obtain ⟨b, off, rfl, hc⟩ := hrr.get (List.getElem?_eq_getElem hjl) (Lk.pos _)
        have HLJ := Lib.hid (List.getElem?_eq_getElem hjl)
        obtain ⟨x, hx⟩ : ∃ x, x = M[j] := ⟨_, rfl⟩
        rw [← hx] at hc HLJ
        clear hx hrr
        have HPS : Hid (passTo p (M.take (j + 1)) O = withL (passTo p (M.take j) O) (keepL (passTo p (M.take j) O) p x)) := Lib.hid (passTo_succ p M O HLJ.out)
        obtain ⟨Q, hQ⟩ : ∃ Q, Q = passTo p (M.take j) O := ⟨_, rfl⟩
        rw [← hQ] at HS HSO HPS HN7 HNL
        clear hQ
        obtain ⟨x1, x2, x3, x4⟩ := x
        have HCS : Hid (∀ i v, (Lk.cells ⟨x1, x2, x3, x4⟩)[i]? = some v → wr.cell? ⟨b, off + j * 4 + i, none⟩ = some v) := Lib.hid hc
        obtain ⟨d, hu, hd⟩ := und_lock
        have HU := Lib.hid hu
        have HDD := Lib.hid hd
        clear hc hu hd
        obtain ⟨W3, hW3⟩ : ∃ W3, W3 = wr.alloc (.cells #[.int .i64 x1, .int .i64 x2, .int .i64 x3, .int .i64 x4] 78) := ⟨_, rfl⟩
        have hf3 : Fr F0 wr W3 := by rw [hW3]; exact (Fr.refl _ _).alloc _
        obtain ⟨b9, hb9⟩ : ∃ b9, b9 = wr.heap.size := ⟨_, rfl⟩
        have HW3 := Lib.hid hW3
        have H93 : Hid (W3.heap[b9]? = some (.cells #[.int .i64 x1, .int .i64 x2, .int .i64 x3, .int .i64 x4] 78 (0, 0))) := Lib.hid (by rw [hW3, hb9]; exact alloc_at rfl _)
        have HB3 := Lib.hid (hf3.keep0 HB.out)
        have HS3 := Lib.hid (HS.out.keep0 hf3)
        have HFK : Hid (Fr (fun k => k = bt) w2 W3) := Lib.hid (HF.out.then0 hf3)
        have HB9 := Lib.hid hb9
        have hbb : bt < b9 := by rw [hb9]; exact lt_of_block HB.out
        have k7 : (wr.alloc (.cells #[.int .i64 x1, .int .i64 x2, .int .i64 x3, .int .i64 x4] 78)).cell? ⟨bt, 0, none⟩ = some (.slice A7 n7 c7) := by rw [← hW3, cell_of HB3.out]; rfl
        clear hf3 hW3 hb9
        go_wp2_with (first | (refine wpList_load_at rfl 78 (.tmp 24) rfl b (off + j * 4) (by rfl) (Lk.cells ⟨x1, x2, x3, x4⟩) d HCS.out HU.out HDD.out size_lock ?_) | (refine wpList_store_fresh rfl 78 (.tmp 9) (.tmp 25) rfl (Lk.cells ⟨x1, x2, x3, x4⟩).toArray (by rfl) (by rfl) 78 #[.int .i64 0, .int .i64 0, .int .i64 0, .int .i64 0] size_lock rfl (by simp [Lk.cells, Value.oneCell']) ?_; simp only [Lk.cells, List.toArray]))
        rw [← HW3.out, ← HB9.out]
        clear k7
        refine (find_c p x1 HS3.out (by have := HNL.out; omega)).mono ?_
        rintro e w4 ⟨rfl, hf4⟩
        obtain ⟨fl, hfl⟩ : ∃ fl, fl = findL Q p x1 := ⟨_, rfl⟩
        rw [← hfl]
        obtain ⟨f1, f2, f3, f4⟩ := fl
        have HKL : Hid (keepL Q p ⟨x1, x2, x3, x4⟩ = ⟨f1, f2, f3, max f4 (max x3 x4)⟩) := Lib.hid (by show keepF (findL Q p x1) _ = _; rw [← hfl]; rfl)
        obtain ⟨W5, hW5⟩ : ∃ W5, W5 = w4.alloc (.cells #[.int .i64 f1, .int .i64 f2, .int .i64 f3, .int .i64 f4] 78) := ⟨_, rfl⟩
        obtain ⟨b10, hb10⟩ : ∃ b10, b10 = w4.heap.size := ⟨_, rfl⟩
        have hfW : Fr F0 w4 W5 := by rw [hW5]; exact (Fr.refl _ _).alloc _
        have H10 : Hid (W5.heap[b10]? = some (.cells #[.int .i64 f1, .int .i64 f2, .int .i64 f3, .int .i64 f4] 78 (0, 0))) := Lib.hid (by rw [hW5]; exact alloc_at hb10 _)
        have H94 := Lib.hid (hfW.keep0 (hf4.keep0 H93.out))
        have HB4 := Lib.hid (hf4.keep0 HB3.out)
        have HS4 := Lib.hid (HS3.out.keep0 hf4)
        have HFK4 : Hid (Fr (fun k => k = bt) w2 w4) := Lib.hid (HFK.out.then0 hf4)
        have HF45 := Lib.hid hfW
        have hb1 : bt < b10 := by rw [hb10]; exact lt_of_block (hf4.keep0 HB3.out)
        have hwb : w2.heap.size ≤ b10 := by rw [hb10]; exact (HFK.out.then0 hf4).size
        have HW5 := Lib.hid hW5
        have HB10 := Lib.hid hb10
        clear hfl hW5 hb10 hfW hf4 HW3 HB9 H93 HB3 HS3 HFK HS HB HF HCS HU HDD
        go_wp2_with fail
        rw [← HW5.out, ← HB10.out]
        clear HW5
        refine wp_region_last (S := F0) [false, false, false, false, false, false, false, false, false, false, false, false, false, false, false, false, false, false, false, false, false, false, false, false, false, false, false, false, false, false, false, true, true, true, true, true, true, false, false, false, false, false] [.eq (.pointer (some ⟨b10, 3, none⟩)), .eq (.int .i64 f4), .eq (.agg #[.int .i64 x1, .int .i64 x2, .int .i64 x3, .int .i64 x4]), .eq (.int .i64 (max x3 x4)), .eq (.int .i64 (max f4 (max x3 x4))), .eq (.pointer (some ⟨b10, 3, none⟩)), .any] (by kernel_rfl) (by kernel_rfl) (by rfl) (by rfl) (by kernel_rfl) (fun us => ?steps) (fun us wz hG hall => ?fin)
        case steps =>
          simp only [fillL, Nat.reduceAdd]
          refine stepsHold.cons (fun wx hG hd K hK => ?_) ?_
          · rw [if_pos (wanted_none rfl)]
            refine wp_value (w2 := wx) (v := .pointer (some ⟨b10, 3, none⟩)) ?_ (hK _ _ rfl (Fr.refl _ _))
            clear hd hG hK
            go_simp
          refine stepsHold.cons (fun wx hG hd K hK => ?_) ?_
          · have h31 : us 31 = (.pointer (some ⟨b10, 3, none⟩)) := deps_get hd 0 rfl rfl rfl rfl rfl
            rw [if_pos (wanted_none rfl)]
            have hc : wx.cell? ⟨b10, 3, none⟩ = some (.int .i64 f4) := by rw [cell_of (hG.keep0 H10.out)]; rfl
            refine wp_value (w2 := wx) (v := .int .i64 f4) ?_ (hK _ _ rfl (Fr.refl _ _))
            clear hd hK
            go_simp
          refine stepsHold.cons (fun wx hG hd K hK => ?_) ?_
          · rw [if_pos (wanted_none rfl)]
            have hc0 : wx.cell? ⟨b9, 0, none⟩ = some (.int .i64 x1) := by rw [cell_of (hG.keep0 H94.out)]; rfl
            have hc1 : wx.cell? ⟨b9, 1, none⟩ = some (.int .i64 x2) := by rw [cell_of (hG.keep0 H94.out)]; rfl
            have hc2 : wx.cell? ⟨b9, 2, none⟩ = some (.int .i64 x3) := by rw [cell_of (hG.keep0 H94.out)]; rfl
            have hc3 : wx.cell? ⟨b9, 3, none⟩ = some (.int .i64 x4) := by rw [cell_of (hG.keep0 H94.out)]; rfl
            refine wp_value (w2 := wx) (v := .agg #[.int .i64 x1, .int .i64 x2, .int .i64 x3, .int .i64 x4]) ?_ (hK _ _ rfl (Fr.refl _ _))
            clear hd hK
            go_simp
          refine stepsHold.cons (fun wx hG hd K hK => ?_) ?_
          · have h33 : us 33 = (.agg #[.int .i64 x1, .int .i64 x2, .int .i64 x3, .int .i64 x4]) := deps_get hd 0 rfl rfl rfl rfl rfl
            rw [if_pos (wanted_none rfl)]
            refine wp_call (w2 := wx) (f := 34) (args := #[.agg #[.int .i64 x1, .int .i64 x2, .int .i64 x3, .int .i64 x4]]) ?_ ?_
            · clear hd hK
              go_simp
            · refine (strong_c (w := wx) ⟨x1, x2, x3, x4⟩).mono ?_
              rintro e w9 ⟨rfl, hf⟩
              exact ⟨_, rfl, hK _ _ rfl hf⟩
          refine stepsHold.cons (fun wx hG hd K hK => ?_) ?_
          · have h32 : us 32 = (.int .i64 f4) := deps_get hd 0 rfl rfl rfl rfl rfl
            have h34 : us 34 = (.int .i64 (max x3 x4)) := deps_get hd 1 rfl rfl rfl rfl rfl
            rw [if_pos (wanted_none rfl)]
            refine wp_value (w2 := wx) (v := .int .i64 (max f4 (max x3 x4))) ?_ (hK _ _ rfl (Fr.refl _ _))
            clear hd hG hK
            go_simp
          refine stepsHold.cons (fun wx hG hd K hK => ?_) ?_
          · rw [if_pos (wanted_none rfl)]
            refine wp_value (w2 := wx) (v := .pointer (some ⟨b10, 3, none⟩)) ?_ (hK _ _ rfl (Fr.refl _ _))
            clear hd hG hK
            go_simp
          exact stepsHold.nil
        case fin =>
          have h31 : us 31 = (.pointer (some ⟨b10, 3, none⟩)) := all_get hall 0 rfl rfl rfl
          have h32 : us 32 = (.int .i64 f4) := all_get hall 1 rfl rfl rfl
          have h33 : us 33 = (.agg #[.int .i64 x1, .int .i64 x2, .int .i64 x3, .int .i64 x4]) := all_get hall 2 rfl rfl rfl
          have h34 : us 34 = (.int .i64 (max x3 x4)) := all_get hall 3 rfl rfl rfl
          have h35 : us 35 = (.int .i64 (max f4 (max x3 x4))) := all_get hall 4 rfl rfl rfl
          have h36 : us 36 = (.pointer (some ⟨b10, 3, none⟩)) := all_get hall 5 rfl rfl rfl
          simp only [fillL, Nat.reduceAdd]
          clear hall
          simp only [h31, h32, h33, h34, h35, h36]
          clear h31 h32 h33 h34 h35 h36
          refine wp_skip (w2 := wz.setCell ⟨b10, 3, none⟩ (.int .i64 (max f4 (max x3 x4)))) ?_ ?_
          · have k1 : wz.cell? ⟨b10, 3, none⟩ = some (.int .i64 f4) := by rw [cell_of (hG.keep0 H10.out)]; rfl
            have k2 : wz.frozen? ⟨b10, 3, none⟩ = false := free_of (hG.keep0 H10.out) 3
            go_simp
          have h10z := hG.keep0 H10.out
          obtain ⟨W6, hW6⟩ : ∃ W6, W6 = wz.setCell ⟨b10, 3, none⟩ (.int .i64 (max f4 (max x3 x4))) := ⟨_, rfl⟩
          have hf6 : Fr (fun k => k = b10) wz W6 := by rw [hW6]; exact (Fr.refl _ _).setCell (by exact .inl rfl) _
          have hf46 : Fr F0 w4 W6 := (HF45.out.then0 hG).trans hf6 (fun k hk => .inr (by rw [hk, HB10.out]; exact Nat.le_refl _))
          have H16 : Hid (W6.heap[b10]? = some (.cells #[.int .i64 f1, .int .i64 f2, .int .i64 f3, .int .i64 (max f4 (max x3 x4))] 78 (0, 0))) := Lib.hid (by rw [hW6, set_cell h10z]; rfl)
          have HB6 := Lib.hid (hf46.keep0 HB4.out)
          have HS6 := Lib.hid (HS4.out.keep0 hf46)
          have HFK6 := Lib.hid (HFK4.out.then0 hf46)
          rw [← hW6]
          have k7 : W6.cell? ⟨bt, 0, none⟩ = some (.slice A7 n7 c7) := by rw [cell_of HB6.out]; rfl
          have q0 : W6.cell? ⟨b10, 0, none⟩ = some (.int .i64 f1) := by rw [cell_of H16.out]; rfl
          have q1 : W6.cell? ⟨b10, 1, none⟩ = some (.int .i64 f2) := by rw [cell_of H16.out]; rfl
          have q2 : W6.cell? ⟨b10, 2, none⟩ = some (.int .i64 f3) := by rw [cell_of H16.out]; rfl
          have q3 : W6.cell? ⟨b10, 3, none⟩ = some (.int .i64 (max f4 (max x3 x4))) := by rw [cell_of H16.out]; rfl
          clear h10z hW6 hf6 hf46 hG HB4 HS4 HFK4 HF45 H94 H10 HB10
          go_wp2_with fail
          refine (with_c ⟨f1, f2, f3, max f4 (max x3 x4)⟩ HS6.out HNL.out HSO.out.rise).mono ?_
          rintro e w8 ⟨v8, rfl, hown8, hf8⟩
          have hs8 : SlV 4 Lk.cells w8 v8 (passTo p (M.take (j + 1)) O) := by rw [HPS.out, HKL.out]; exact SlV.of_own Lk.len hown8
          obtain ⟨A8, c8, rfl, -⟩ := hs8.ex
          obtain ⟨n8, hn8⟩ : ∃ n8, n8 = (passTo p (M.take (j + 1)) O).length := ⟨_, rfl⟩
          have HS8 := Lib.hid hs8
          have HB8 := Lib.hid (hf8.keep0 HB6.out)
          have HFK8 := Lib.hid (HFK6.out.then0 hf8)
          rw [← hn8] at HS8 ⊢
          clear k7 q0 q1 q2 q3 hown8 hf8 hs8 hn8
          have k7 : w8.cell? ⟨bt, 0, none⟩ = some (.slice A7 n7 c7) := by rw [cell_of HB8.out]; rfl
          have k8 : w8.frozen? ⟨bt, 0, none⟩ = false := free_of HB8.out 0
          go_wp2_with fail
          go_roundg (m - (j + 1))
          case measure => omega
          case rel =>
            have hf9 : Fr (fun k => k = bt) w8 (w8.setCell ⟨bt, 0, none⟩ (.slice A8 n8 c8)) := (Fr.refl _ _).setCell (by exact .inl rfl) _
            exact ⟨j + 1, .slice A8 n8 c8, by omega, rfl, by first | rfl | (go_num), by rw [set_cell HB8.out]; rfl, HS8.out.box Lk.len HB8.out (by show 1 < 4; decide) hf9, HFK8.out.trans hf9 (fun k hk => .inl hk)⟩
      · have hjm : j = m := by omega
        subst hjm
        have HRR : Hid (wr.heap[w.heap.size + 1]? = some (.cells #[.slice none 0 0] 34 (0, 0))) := Lib.hid (HF.out.keep HR2.out (by omega))
        have k7 : wr.cell? ⟨bt, 0, none⟩ = some (.slice A7 n7 c7) := by rw [cell_of HB.out]; rfl
        have kr : wr.cell? ⟨w.heap.size + 1, 0, none⟩ = some (.slice none 0 0) := by rw [cell_of HRR.out]; rfl
        have kf : wr.frozen? ⟨w.heap.size + 1, 0, none⟩ = false := free_of HRR.out 0
        go_wp2_with fail
        have hff : Fr (fun k => k = w.heap.size + 1) wr (wr.setCell ⟨w.heap.size + 1, 0, none⟩ (.slice A7 n7 c7)) := (Fr.refl _ _).setCell (by exact .inl rfl) _
        refine tab_ret (b := w.heap.size + 1) rfl (by rfl) rfl (by rw [set_cell HRR.out]; rfl) ⟨_, rfl, ?_, (HF2.out.trans HF.out (fun k hk => .inr (by omega))).trans hff (fun k hk => .inr (by omega))⟩
        have h9 := HS.out.box Lk.len HRR.out (by show 1 < 4; decide) hff
        rw [HPL.out]
        rw [HM.out, List.take_length] at h9
        exact h9
end
end Go.Proofs.YtgbaijfgmeealaaGreat
