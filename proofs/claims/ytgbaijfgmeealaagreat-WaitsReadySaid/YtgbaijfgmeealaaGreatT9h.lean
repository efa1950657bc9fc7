/-
  heronry/tree: inside, at Abort's closure: its integers are new. (Printed by gen_T9h.py.) Conditions: none.
-/
import Derived.Test.YtgbaijfgmeealaaGreatT9e
set_option linter.unusedVariables false
set_option linter.unusedSimpArgs false
namespace Go.Proofs.YtgbaijfgmeealaaGreat
open Go.RowKit
structure NewInts2 (w w' : World) (e : Ending) (xs : List Int) : Prop where
  ex : ∃ A c, e = .returned (.slice A xs.length c) ∧ ValsAt w' A (xs.map (Value.int .i64)) ∧ Fr F0 w w' ∧ ∀ ad, A = some ad → w.heap.size ≤ ad.block
section
variable {w : World} {v : Value} {L : List Tx9}
set_option maxRecDepth 100000 in
set_option maxHeartbeats 2000000 in
theorem inside_undo2 (clk id : Int) (h : SlV 4 Tx9.cells w v L) (hn : L.length ≤ 64) :
    Calls Tryz.prog 47 #[.agg #[v, .int .i64 clk], .int .i64 id, .func (.func 48) #[] #[]] w fun e w' => NewInts2 w w' e (insL L id undoB) := by
  obtain ⟨A, c, rfl, hs, hnil, hsp⟩ := h.ex
  have HL := Lib.hid hs
  obtain ⟨n, hnn⟩ : ∃ n, n = L.length := ⟨_, rfl⟩
  have HN := Lib.hid hnn
  have HWI : Hid (∀ W (k of : Int), TxsAt W A L → Calls Tryz.prog 35 #[.agg #[.slice A n c, .int .i64 clk], .int .i64 k, .int .i64 of] W fun e w' => e = .returned (.bool (withinB L k of)) ∧ Fr F0 W w') := Lib.hid (fun W k of hW => by
    have h5 := within_c (w := W) c clk k of hW hn
    rw [← hnn] at h5
    exact h5)
  rw [← hnn]
  have n0 : (0 : Int) ≤ (n : Int) := Int.natCast_nonneg _
  have HB : Hid ((w.alloc (.cells #[.slice A n c, .int .i64 clk] 31)).heap[w.heap.size]? = some (.cells #[.slice A n c, .int .i64 clk] 31 (0, 0))) := Lib.hid (alloc_at rfl _)
  have HF0 : Hid (Fr F0 w (w.alloc (.cells #[.slice A n c, .int .i64 clk] 31))) := Lib.hid ((Fr.refl F0 w).alloc _)
  obtain ⟨d, hu, hd⟩ := und_tx
  have HU := Lib.hid hu
  have HDD := Lib.hid hd
  clear h hs hnil hsp hnn hu hd
  go_enter Tryz.func47, Tryz.ntmps47
  go_wp2_with fail
  go_loopg [7, 8, 9, 13] n (fun kq x7 x8 x9 x13 wr => ∃ j : Nat, j ≤ n ∧ kq = n - j ∧ x13 = .int .i64 (j : Int) ∧ wr.ownsRow (w.heap.size + 1) 3 1 x7 (insTo L id undoB j).length ((insTo L id undoB j).map (Value.int .i64)) ∧ wr.heap[w.heap.size]? = some (.cells #[.slice A n c, .int .i64 clk] 31 (0, 0)) ∧ Fr F0 w wr ∧ w.heap.size + 1 ≤ wr.heap.size)
  case atStart => exact ⟨0, by omega, rfl, rfl, own_nil _ _ _ _, HB.out, HF0.out, by simp⟩
  case round =>
    obtain ⟨j, hj, rfl, rfl, hown, hb, hf, hsz⟩ := hrel
    have HO := Lib.hid hown
    have HBR := Lib.hid hb
    have HF := Lib.hid hf
    have HSZ := Lib.hid hsz
    clear hown hb hf hsz
    have j0 : (0 : Int) ≤ (j : Int) := Int.natCast_nonneg _
    by_cases hlt : j < n
    · have j1 : (j : Int) < (n : Int) := by omega
      have hjl : j < L.length := by have := HN.out; omega
      obtain ⟨b, off, rfl, hc⟩ := (HL.out.keep0 HF.out).get (List.getElem?_eq_getElem hjl) (Tx9.pos _)
      have HLJ := Lib.hid (List.getElem?_eq_getElem hjl)
      obtain ⟨x, hx⟩ : ∃ x, x = L[j] := ⟨_, rfl⟩
      rw [← hx] at hc HLJ
      clear hx
      have HCS : Hid (∀ i v, x.cells[i]? = some v → wr.cell? ⟨b, off + j * 4 + i, none⟩ = some v) := Lib.hid hc
      have HFX : Hid (Fr F0 wr (wr.alloc (.cells x.cells.toArray 76))) := Lib.hid ((Fr.refl _ _).alloc _)
      clear hc
      have hins : insB L id undoB j = (undoB x && withinB L (j : Int) id) := by unfold insB; rw [HLJ.out]
      have HINS := Lib.hid hins
      clear hins
      obtain ⟨x1, x2, x3, x4⟩ := x
      have HST : Hid (insTo L id undoB (j + 1) = insTo L id undoB j ++ (if insB L id undoB j = true then [(j : Int)] else [])) := Lib.hid (insTo_succ L id undoB j)
      have hlen := insTo_len L id undoB j
      go_wp2_with (first | (refine wpList_load_at rfl 76 (.tmp 16) rfl b (off + j * 4) (by rfl) (Tx9.cells ⟨x1, x2, x3, x4⟩) d HCS.out HU.out HDD.out size_tx ?_) | (refine wpList_store_fresh rfl 76 (.tmp 9) (.tmp 17) rfl (Tx9.cells ⟨x1, x2, x3, x4⟩).toArray (by rfl) (by rfl) 76 #[.int .i64 0, .int .i64 0, .int .i64 0, .int .i64 0] size_tx rfl (by simp [Tx9.cells, Value.oneCell']) ?_; simp only [Tx9.cells, List.toArray]))
      have HX2 := Lib.hid (HFX.out)
      refine (undo_c ⟨x1, x2, x3, x4⟩).mono ?_
      rintro e w3 ⟨rfl, hf3⟩
      have HF3 := Lib.hid ((HF.out.then0 HFX.out).then0 hf3)
      have HB3 := Lib.hid ((HFX.out.then0 hf3).keep0 HBR.out)
      have HO3 := Lib.hid (own_keep0 HO.out (HFX.out.then0 hf3))
      have hz3 : w.heap.size + 1 ≤ w3.heap.size := Nat.le_trans HSZ.out (HFX.out.then0 hf3).size
      clear hf3
      obtain ⟨tst, htst⟩ : ∃ tst, tst = undoB ⟨x1, x2, x3, x4⟩ := ⟨_, rfl⟩
      rw [← htst] at HINS ⊢
      clear htst
      cases tst with
      | false =>
        have HI2 : Hid (insTo L id undoB (j + 1) = insTo L id undoB j) := Lib.hid (by rw [HST.out, if_neg (by rw [HINS.out]; simp), List.append_nil])
        go_wp2_with fail
        go_roundg (n - (j + 1))
        case measure => omega
        case rel => exact ⟨j + 1, by omega, rfl, by first | rfl | (go_num), by rw [HI2.out]; exact HO3.out, HB3.out, HF3.out, hz3⟩
      | true =>
        have k0 : w3.cell? ⟨w.heap.size, 0, none⟩ = some (.slice (some ⟨b, off, none⟩) n c) := by rw [cell_of HB3.out]; rfl
        have k1 : w3.cell? ⟨w.heap.size, 1, none⟩ = some (.int .i64 clk) := by rw [cell_of HB3.out]; rfl
        go_wp2_with fail
        refine (HWI.out w3 (j : Int) id (HL.out.keep0 HF3.out)).mono ?_
        rintro e w4 ⟨rfl, hf4⟩
        have HF4 := Lib.hid (HF3.out.then0 hf4)
        have HB4 := Lib.hid (hf4.keep0 HB3.out)
        have HO4 := Lib.hid (own_keep0 HO3.out hf4)
        have hz4 : w.heap.size + 1 ≤ w4.heap.size := Nat.le_trans hz3 hf4.size
        clear hf4 k0 k1
        obtain ⟨wi, hwi⟩ : ∃ wi, wi = withinB L (j : Int) id := ⟨_, rfl⟩
        rw [← hwi] at HINS ⊢
        clear hwi
        cases wi with
        | false =>
          have HI2 : Hid (insTo L id undoB (j + 1) = insTo L id undoB j) := Lib.hid (by rw [HST.out, if_neg (by rw [HINS.out]; simp), List.append_nil])
          go_wp2_with fail
          go_roundg (n - (j + 1))
          case measure => omega
          case rel => exact ⟨j + 1, by omega, rfl, by first | rfl | (go_num), by rw [HI2.out]; exact HO4.out, HB4.out, HF4.out, hz4⟩
        | true =>
          have HI2 : Hid (insTo L id undoB (j + 1) = insTo L id undoB j ++ [(j : Int)]) := Lib.hid (by rw [HST.out, if_pos (by rw [HINS.out]; rfl)])
          go_wp2_with (at_builtin; refine wpList_append_one rfl (.tmp 27) (.tmp 29) 37 3 8 (.int .i64 0) rfl und_ints9 info_int9 rfl (by decide) (w.heap.size + 1) u7 ((insTo L id undoB j).map (Value.int .i64)) (.int .i64 (j : Int)) (by rfl) (by rfl) rfl (by rw [List.length_map]; exact HO4.out) hz4 (by rw [List.length_map]; omega) ?_; intro v5 w5 hown5 hf5)
          go_roundg (n - (j + 1))
          case measure => omega
          case rel =>
            refine ⟨j + 1, by omega, rfl, by first | rfl | (go_num), ?_, hf5.keep HB4.out (fun e => by have := own_base HO4.out _ e; omega), HF4.out.trans hf5 (fun k hk => .inr (by have := own_base HO4.out k hk; omega)), Nat.le_trans hz4 hf5.size⟩
            rw [HI2.out, List.length_append, List.map_append]
            rw [List.length_map] at hown5
            exact hown5
    · have hjn : j = n := by omega
      subst hjn
      have HO2 := HO
      obtain ⟨A2, c2, rfl, hv2, -, -, hbs⟩ := ValsAt.of_own HO.out
      have HBS := Lib.hid hbs
      have HV2 := Lib.hid hv2
      clear hv2 hbs
      go_wp2_with fail
      go_ret
      have hl : insL L id undoB = insTo L id undoB j := by unfold insL; rw [← HN.out]
      exact ⟨A2, c2, by rw [hl]; rfl, by rw [hl]; exact HV2.out, HF.out, fun ad e => Nat.le_trans (Nat.le_succ _) (HBS.out ad e)⟩
end
end Go.Proofs.YtgbaijfgmeealaaGreat
