/-
  heronry/locks: Against, its integers told to be new. (Printed by gen_K10n.py.) Conditions: none.
-/
import Derived.Test.YtgbaijfgmeealaaGreatK10d
import Derived.Test.YtgbaijfgmeealaaGreatT9h
set_option linter.unusedVariables false
set_option linter.unusedSimpArgs false
namespace Go.Proofs.YtgbaijfgmeealaaGreat
open Go.RowKit
open Go.ChangeMaps (setBlock)
section
variable {w : World} {v : Value} {L : List Lk} {u : Value} {X : List Tx9}
set_option maxRecDepth 100000 in
set_option maxHeartbeats 4000000 in
theorem against2_c (clk tx block m : Int) (h : SlV 4 Lk.cells w v L) (hn : L.length ≤ 1000000) (hs : SaneL L) (hX : SlV 4 Tx9.cells w u X) (hXn : X.length ≤ 64) (hm : m = 1 ∨ m = 2) :
    Calls Tryz.prog 16 #[.agg #[v], .agg #[u, .int .i64 clk], .int .i64 tx, .int .i64 block, .int .i64 m] w fun e w' => NewInts2 w w' e (againstL X L tx block m) := by
  obtain ⟨A, c, rfl, hsr, hnil, hsp⟩ := h.ex
  obtain ⟨B, cb, rfl, hxr, -⟩ := hX.ex
  have HL := Lib.hid hsr
  have HX := Lib.hid hxr
  have HS := Lib.hid hs
  obtain ⟨n, hnn⟩ : ∃ n, n = L.length := ⟨_, rfl⟩
  have HN := Lib.hid hnn
  obtain ⟨nx, hnx⟩ : ∃ nx, nx = X.length := ⟨_, rfl⟩
  have HWI : Hid (∀ W (k of : Int), TxsAt W B X → Calls Tryz.prog 35 #[.agg #[.slice B nx cb, .int .i64 clk], .int .i64 k, .int .i64 of] W fun e w' => e = .returned (.bool (withinB X k of)) ∧ Fr F0 W w') := Lib.hid (fun W k of hW => by
    have h5 := within_c (w := W) cb clk k of hW hXn
    rw [← hnx] at h5
    exact h5)
  rw [← hnn, ← hnx]
  have n0 : (0 : Int) ≤ (n : Int) := Int.natCast_nonneg _
  obtain ⟨mo, hmo⟩ : ∃ mo, mo = mostOf m := ⟨_, rfl⟩
  have HMO := Lib.hid hmo
  have hm0 : 0 ≤ m ∧ m ≤ 100 := by rcases hm with h | h <;> omega
  have HKM := Lib.hid (key9 m hm0.1 hm0.2)
  have HK1 := Lib.hid (key9 1 (by decide) (by decide))
  have HK2 := Lib.hid (key9 2 (by decide) (by decide))
  have HWF := Lib.hid (weakF_at hm)
  obtain ⟨W0, hW0⟩ : ∃ W0, W0 = (((w.alloc (.cells #[.slice A n c] 34)).alloc (.cells #[.slice B nx cb, .int .i64 clk] 31)).alloc (.map #[] 0)) := ⟨_, rfl⟩
  have HB : Hid (W0.heap[w.heap.size]? = some (.cells #[.slice A n c] 34 (0, 0))) := Lib.hid (by rw [hW0]; exact keep_alloc (keep_alloc (alloc_at rfl _) _) _)
  have HT : Hid (W0.heap[w.heap.size + 1]? = some (.cells #[.slice B nx cb, .int .i64 clk] 31 (0, 0))) := Lib.hid (by rw [hW0]; exact keep_alloc (alloc_at (by simp) _) _)
  have HM : Hid (W0.heap[w.heap.size + 2]? = some (.map #[] 0)) := Lib.hid (by rw [hW0]; exact alloc_at (by simp) _)
  have HF0 : Hid (Fr F0 w W0) := Lib.hid (by rw [hW0]; exact (((Fr.refl F0 w).alloc _).alloc _).alloc _)
  obtain ⟨d, hu, hd⟩ := und_lock
  have HU := Lib.hid hu
  have HDD := Lib.hid hd
  have HW0 := Lib.hid hW0
  have hmm := @run_makeMap Tryz.prog
  clear h hsr hs hnil hsp hnn hu hd hX hxr hnx hm hmo hm0 hW0
  go_enter Tryz.func16, Tryz.ntmps16
  go_upto_region 2 with (first | (refine wpList_insert_is rfl (.tmp 17) (.const (.int .i64 1)) (.const (.int .i64 1)) 81 rfl keyed9_int und_weak (w.heap.size + 2) (by rw [← HW0.out]; exact HM.out) (MapIs.empty _ _ 0) (by rfl) (.int .i64 1) (.int .i64 1) (by rfl) (by rfl) HK1.out ?_; intro es1 cl1 hM1; have HM1 := Lib.hid hM1; clear hM1; rw [← HW0.out]) | (refine wpList_insert_is rfl (.tmp 17) (.const (.int .i64 2)) (.const (.int .i64 0)) 81 rfl keyed9_int und_weak (w.heap.size + 2) (set_block HM.out _) HM1.out (by rfl) (.int .i64 2) (.int .i64 0) (by rfl) (by rfl) HK2.out ?_; intro es2 cl2 hM2; have HM2 := Lib.hid hM2; clear hM2))
  obtain ⟨W2, hW2⟩ : ∃ W2, W2 = setBlock (setBlock W0 (w.heap.size + 2) (.map es1 cl1)) (w.heap.size + 2) (.map es2 cl2) := ⟨_, rfl⟩
  have HB2 : Hid (W2.heap[w.heap.size]? = some (.cells #[.slice A n c] 34 (0, 0))) := Lib.hid (by rw [hW2]; exact keep_setBlock (keep_setBlock HB.out (by omega) _) (by omega) _)
  have HT2 : Hid (W2.heap[w.heap.size + 1]? = some (.cells #[.slice B nx cb, .int .i64 clk] 31 (0, 0))) := Lib.hid (by rw [hW2]; exact keep_setBlock (keep_setBlock HT.out (by omega) _) (by omega) _)
  have hm2 : W2.heap[w.heap.size + 2]? = some (.map es2 cl2) := by rw [hW2]; exact set_block (set_block HM.out _) _
  have HF2 : Hid (Fr F0 w W2) := Lib.hid (by rw [hW2]; exact (HF0.out.setBlock (by exact .inr (by omega)) _).setBlock (by exact .inr (by omega)) _)
  have hlook := HM2.out.look (t := 81) (e := 3) keyed9_int und_weak hm2 HKM.out (zero_int9 W2) true
  have hwf : upd (upd (fun _ => none) (.int .i64 1) (.int .i64 1)) (.int .i64 2) (.int .i64 0) (.int .i64 m) = some (.int .i64 mo) := by rw [HMO.out]; exact HWF.out
  rw [hwf] at hlook
  have HSZ2 : Hid (w.heap.size + 3 ≤ W2.heap.size) := Lib.hid (lt_of_block hm2)
  rw [← hW2]
  clear hW2 hwf hm2
  simp only [Option.getD_some, Option.isSome_some, if_true] at hlook
  have t0 : W2.cell? ⟨w.heap.size, 0, none⟩ = some (.slice A n c) := by rw [cell_of HB2.out]; rfl
  go_wp2_with fail
  go_loopg [14, 16, 30] n (fun kq x14 x16 x30 wr => ∃ j : Nat, j ≤ n ∧ kq = n - j ∧ x30 = .int .i64 (j : Int) ∧ wr.ownsRow (w.heap.size + 3) 3 1 x14 (againstL X (L.take j) tx block m).length ((againstL X (L.take j) tx block m).map (Value.int .i64)) ∧ wr.heap[w.heap.size + 1]? = some (.cells #[.slice B nx cb, .int .i64 clk] 31 (0, 0)) ∧ Fr F0 w wr ∧ w.heap.size + 3 ≤ wr.heap.size)
  case atStart => exact ⟨0, by omega, rfl, rfl, by simpa [againstL] using own_nil W2 (w.heap.size + 3) 3 1, HT2.out, HF2.out, HSZ2.out⟩
  case round =>
    obtain ⟨j, hj, rfl, rfl, hown, ht, hf, hsz⟩ := hrel
    have HO := Lib.hid hown
    have HTR := Lib.hid ht
    have HF := Lib.hid hf
    have HSZ := Lib.hid hsz
    clear hown ht hf hsz t0 hlook hmm
    have j0 : (0 : Int) ≤ (j : Int) := Int.natCast_nonneg _
    by_cases hlt : j < n
    · have j1 : (j : Int) < (n : Int) := by omega
      have hjl : j < L.length := by have := HN.out; omega
      obtain ⟨b, off, hA, hc⟩ := (HL.out.keep0 HF.out).get (List.getElem?_eq_getElem hjl) (Lk.pos _)
      subst hA
      have hsound := HS.out.sound L[j] (List.getElem_mem hjl)
      have htk : L.take (j + 1) = L.take j ++ [L[j]] := List.take_succ_eq_append_getElem hjl
      obtain ⟨x, hx⟩ : ∃ x, x = L[j] := ⟨_, rfl⟩
      rw [← hx] at hc hsound htk
      clear hx
      have hst : againstL X (L.take (j + 1)) tx block m = againstL X (L.take j) tx block m ++ (if agB X tx block m x = true then [x.tx] else []) := by
        unfold againstL
        rw [htk, List.filter_append, List.map_append]
        by_cases h : agB X tx block m x = true <;> simp [h]
      have HST := Lib.hid hst
      have hlen : (againstL X (L.take j) tx block m).length ≤ j := by
        unfold againstL
        rw [List.length_map]
        have h1 := List.length_filter_le (agB X tx block m) (L.take j)
        rw [List.length_take] at h1
        omega
      have HCS : Hid (∀ i v, x.cells[i]? = some v → wr.cell? ⟨b, off + j * 4 + i, none⟩ = some v) := Lib.hid hc
      have HFX : Hid (Fr F0 wr (wr.alloc (.cells x.cells.toArray 78))) := Lib.hid ((Fr.refl F0 wr).alloc _)
      have HXB : Hid ((wr.alloc (.cells x.cells.toArray 78)).heap[wr.heap.size]? = some (.cells x.cells.toArray 78 (0, 0))) := Lib.hid (alloc_at rfl _)
      clear hc hst htk
      obtain ⟨x1, x2, x3, x4⟩ := x
      have hx2 : 0 ≤ x2 ∧ x2 < 64 := by
        have h5 := hsound
        unfold Lk.sound at h5
        simp only [Bool.and_eq_true, decide_eq_true_eq] at h5
        exact ⟨h5.1.1.1.1.2, h5.1.1.1.2⟩
      have hx20 := hx2.1
      have hx21 := hx2.2
      clear hsound hx2
      by_cases hbl : x1 = block
      case neg =>
        have HAG : Hid (againstL X (L.take (j + 1)) tx block m = againstL X (L.take j) tx block m) := Lib.hid (by rw [HST.out, if_neg (by unfold agB; simp [hbl]), List.append_nil])
        have hbq : (x1 == block) = false := by simp [hbl]
        go_wp2_with (first | (refine wpList_load_at rfl 78 (.tmp 32) rfl b (off + j * 4) (by rfl) (Lk.cells ⟨x1, x2, x3, x4⟩) d HCS.out HU.out HDD.out size_lock ?_) | (refine wpList_store_fresh rfl 78 (.tmp 16) (.tmp 33) rfl (Lk.cells ⟨x1, x2, x3, x4⟩).toArray (by rfl) (by rfl) 78 #[.int .i64 0, .int .i64 0, .int .i64 0, .int .i64 0] size_lock rfl (by simp [Lk.cells, Value.oneCell']) ?_; simp only [Lk.cells, List.toArray]))
        go_roundg (n - (j + 1))
        case measure => omega
        case rel => exact ⟨j + 1, by omega, rfl, by first | rfl | (go_num), by rw [HAG.out]; exact own_keep0 HO.out HFX.out, HFX.out.keep0 HTR.out, HF.out.then0 HFX.out, Nat.le_trans HSZ.out HFX.out.size⟩
      case pos =>
        subst hbl
        go_wp2_with (first | (refine wpList_load_at rfl 78 (.tmp 32) rfl b (off + j * 4) (by rfl) (Lk.cells ⟨x1, x2, x3, x4⟩) d HCS.out HU.out HDD.out size_lock ?_) | (refine wpList_store_fresh rfl 78 (.tmp 16) (.tmp 33) rfl (Lk.cells ⟨x1, x2, x3, x4⟩).toArray (by rfl) (by rfl) 78 #[.int .i64 0, .int .i64 0, .int .i64 0, .int .i64 0] size_lock rfl (by simp [Lk.cells, Value.oneCell']) ?_; simp only [Lk.cells, List.toArray]))
        refine (strong_c ⟨x1, x2, x3, x4⟩).mono ?_
        rintro e w3 ⟨rfl, hf3⟩
        have HF3 := Lib.hid ((HF.out.then0 HFX.out).then0 hf3)
        have HT3 := Lib.hid ((HFX.out.then0 hf3).keep0 HTR.out)
        have HO3 := Lib.hid (own_keep0 HO.out (HFX.out.then0 hf3))
        have HX3 := Lib.hid (hf3.keep0 HXB.out)
        have hz3 : w.heap.size + 3 ≤ w3.heap.size := Nat.le_trans HSZ.out (HFX.out.then0 hf3).size
        clear hf3
        obtain ⟨s, hs⟩ : ∃ s, s = Lk.strong ⟨x1, x2, x3, x4⟩ := ⟨_, rfl⟩
        have HSG := Lib.hid hs
        rw [← hs]
        clear hs
        by_cases hso : mo < s
        case neg =>
          have HAG : Hid (againstL X (L.take (j + 1)) tx x1 m = againstL X (L.take j) tx x1 m) := Lib.hid (by rw [HST.out, if_neg (by unfold agB; rw [← HSG.out, ← HMO.out]; simp [hso]), List.append_nil])
          go_wp2_with fail
          go_roundg (n - (j + 1))
          case measure => omega
          case rel => exact ⟨j + 1, by omega, rfl, by first | rfl | (go_num), by rw [HAG.out]; exact HO3.out, HT3.out, HF3.out, hz3⟩
        case pos =>
          have k1 : w3.cell? ⟨wr.heap.size, 1, none⟩ = some (.int .i64 x2) := by rw [cell_of HX3.out]; rfl
          have k2 : w3.cell? ⟨w.heap.size + 1, 0, none⟩ = some (.slice B nx cb) := by rw [cell_of HT3.out]; rfl
          have k3 : w3.cell? ⟨w.heap.size + 1, 1, none⟩ = some (.int .i64 clk) := by rw [cell_of HT3.out]; rfl
          go_wp2_with fail
          refine (HWI.out w3 tx x2 (HX.out.keep0 HF3.out)).mono ?_
          rintro e w4 ⟨rfl, hf4⟩
          have HF4 := Lib.hid (HF3.out.then0 hf4)
          have HT4 := Lib.hid (hf4.keep0 HT3.out)
          have HO4 := Lib.hid (own_keep0 HO3.out hf4)
          have HX4 := Lib.hid (hf4.keep0 HX3.out)
          have hz4 : w.heap.size + 3 ≤ w4.heap.size := Nat.le_trans hz3 hf4.size
          clear hf4 k1 k2 k3
          have HWE : Hid (againstL X (L.take (j + 1)) tx x1 m = againstL X (L.take j) tx x1 m ++ (if withinB X tx x2 = true then [] else [x2])) := Lib.hid (by
            rw [HST.out]
            unfold agB
            rw [← HSG.out, ← HMO.out]
            cases withinB X tx x2 <;> simp [hso])
          obtain ⟨wi, hwi⟩ : ∃ wi, wi = withinB X tx x2 := ⟨_, rfl⟩
          rw [← hwi] at HWE ⊢
          clear hwi
          cases wi with
          | true =>
            have HAG : Hid (againstL X (L.take (j + 1)) tx x1 m = againstL X (L.take j) tx x1 m) := Lib.hid (by rw [HWE.out, if_pos rfl, List.append_nil])
            go_wp2_with fail
            go_roundg (n - (j + 1))
            case measure => omega
            case rel => exact ⟨j + 1, by omega, rfl, by first | rfl | (go_num), by rw [HAG.out]; exact HO4.out, HT4.out, HF4.out, hz4⟩
          | false =>
            have HAG : Hid (againstL X (L.take (j + 1)) tx x1 m = againstL X (L.take j) tx x1 m ++ [x2]) := Lib.hid (by rw [HWE.out, if_neg (by simp)])
            have k1 : w4.cell? ⟨wr.heap.size, 1, none⟩ = some (.int .i64 x2) := by rw [cell_of HX4.out]; rfl
            go_wp2_with (at_builtin; refine wpList_append_one rfl (.tmp 62) (.tmp 65) 37 3 8 (.int .i64 0) rfl und_ints9 info_int9 rfl (by decide) (w.heap.size + 3) u14 ((againstL X (L.take j) tx x1 m).map (Value.int .i64)) (.int .i64 x2) (by rfl) (by rfl) rfl (by rw [List.length_map]; exact HO4.out) hz4 (by rw [List.length_map]; omega) ?_; intro v5 w5 hown5 hf5)
            go_roundg (n - (j + 1))
            case measure => omega
            case rel =>
              refine ⟨j + 1, by omega, rfl, by first | rfl | (go_num), ?_, hf5.keep HT4.out (fun e => by have := own_base HO4.out _ e; omega), HF4.out.trans hf5 (fun k hk => .inr (by have := own_base HO4.out k hk; omega)), Nat.le_trans hz4 hf5.size⟩
              rw [HAG.out, List.length_append, List.map_append]
              rw [List.length_map] at hown5
              exact hown5
    · have hjn : j = n := by omega
      subst hjn
      have htk : L.take j = L := List.take_of_length_le (by have := HN.out; omega)
      rw [htk] at HO
      have hll : (againstL X L tx block m).length ≤ L.length := by
        unfold againstL
        rw [List.length_map]
        exact List.length_filter_le _ _
      obtain ⟨l, hl⟩ : ∃ l, l = againstL X L tx block m := ⟨_, rfl⟩
      have HLL := Lib.hid hl
      have hrise := againstL_rise X L tx block m HS.out
      rw [← hl] at HO hll hrise
      have HRI := Lib.hid hrise
      obtain ⟨A2, c2, hv2, -, -, -, -⟩ := ValsAt.of_own HO.out
      subst hv2
      clear hl htk hrise
      go_wp2_with fail
      refine (sort_own HO.out (by omega)).mono ?_
      rintro e w5 ⟨rfl, ho5, hf5⟩
      rw [rise_sorted l HRI.out] at ho5
      have HO5 := Lib.hid ho5
      have HF5 := Lib.hid (HF.out.trans hf5 (fun k hk => .inr (by have := own_base HO.out k hk; omega)))
      clear ho5 hf5
      go_wp2_with fail
      refine (compact_own HO5.out (by omega) HRI.out).mono ?_
      rintro e w6 ⟨rfl, ho6, hf6⟩
      obtain ⟨A3, c3, hv3, hval3, -, -, hbs⟩ := ValsAt.of_own ho6
      have HBS := Lib.hid hbs
      have HV6 := Lib.hid hval3
      have HF6 := Lib.hid (HF5.out.trans hf6 (fun k hk => .inr (by have := own_base HO5.out k hk; omega)))
      cases hv3
      clear ho6 hf6 hval3 hbs
      go_wp2_with fail
      go_ret
      rw [← HLL.out]
      exact ⟨A2, c2, rfl, HV6.out, HF6.out, fun ad e => Nat.le_trans (by omega) (HBS.out ad e)⟩
end
end Go.Proofs.YtgbaijfgmeealaaGreat
