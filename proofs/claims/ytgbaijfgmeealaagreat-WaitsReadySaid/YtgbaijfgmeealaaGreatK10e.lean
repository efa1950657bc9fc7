/-
  heronry/locks: the closures of Find, Of, Free; slices.Contains of integers; slices.IndexFunc. Conditions: none.
-/
import Derived.Test.YtgbaijfgmeealaaGreatK10b
import Derived.Test.YtgbaijfgmeealaaGreatRowU
import Derived.Lib.BufferMore
set_option linter.unusedVariables false
set_option linter.unusedSimpArgs false
namespace Go.Proofs.YtgbaijfgmeealaaGreat
open Go.RowKit
def idxI : Option Nat → Int
  | none => -1
  | some i => (i : Int)
section
variable {w : World} {v : Value} {L : List Lk}
set_option maxRecDepth 100000 in
set_option maxHeartbeats 1000000 in
theorem index_c {A : Option Addr} {n c : Nat} {ls : List Int} (x : Int) (hl : ls.length = n) (hA : ValsAt w A (ls.map (Value.int .i64))) (hn : n ≤ 1000000) :
    Calls Tryz.prog 74 #[.slice A n c, .int .i64 x] w fun e w' => e = .returned (.int .i64 (idxI (ls.findIdx? fun y => y == x))) ∧ Fr F0 w w' := by
  have HL := Lib.hid hl
  have HV := Lib.hid hA
  have n0 : (0 : Int) ≤ (n : Int) := Int.natCast_nonneg _
  clear hl hA
  go_enter Tryz.func74, Tryz.ntmps74
  go_wp2_with fail
  go_loopg [5, 8] n (fun kq x5 x8 wr => ∃ j : Nat, j ≤ n ∧ kq = n - j ∧ x8 = .int .i64 (j : Int) ∧ (∀ i y, i < j → ls[i]? = some y → y ≠ x) ∧ Fr F0 w wr)
  case atStart => exact ⟨0, by omega, rfl, rfl, fun i y h => by omega, Fr.refl _ _⟩
  case round =>
    obtain ⟨j, hj, rfl, rfl, hno, hf⟩ := hrel
    have HNO := Lib.hid hno
    have HF := Lib.hid hf
    clear hno hf
    have j0 : (0 : Int) ≤ (j : Int) := Int.natCast_nonneg _
    by_cases hlt : j < n
    · have j1 : (j : Int) < (n : Int) := by omega
      obtain ⟨y, hy⟩ : ∃ y, ls[j]? = some y := ⟨ls[j]'(by rw [HL.out]; exact hlt), List.getElem?_eq_getElem _⟩
      obtain ⟨ad, rfl, hc⟩ := (HV.out.keep0 HF.out).cells (by rw [List.length_map, HL.out]; omega)
      have gx : wr.cell? (ad.add j) = some (.int .i64 y) := hc j _ (by simp [hy])
      have HY := Lib.hid hy
      clear hc hy
      by_cases hxy : x = y
      · subst hxy
        go_wp2_with fail
        go_ret
        refine ⟨?_, HF.out⟩
        have : ls.findIdx? (fun y => y == x) = some j := by
          rw [List.findIdx?_eq_some_iff_getElem]
          have hjl : j < ls.length := by rw [HL.out]; exact hlt
          have hyj : ls[j] = x := by have := HY.out; rw [List.getElem?_eq_getElem hjl] at this; exact Option.some.inj this
          refine ⟨hjl, by simp [hyj], fun i hi => ?_⟩
          have := HNO.out i _ hi (List.getElem?_eq_getElem (by omega))
          simpa using this
        rw [this]; rfl
      · have hq : (x == y) = false := by simp [hxy]
        go_wp2_with fail
        go_roundg (n - (j + 1))
        case measure => omega
        case rel =>
          refine ⟨j + 1, by omega, rfl, by first | rfl | (go_num), fun i z hi hz => ?_, HF.out⟩
          by_cases hij : i < j
          · exact HNO.out i z hij hz
          · have : i = j := by omega
            subst this
            rw [HY.out] at hz
            cases hz
            exact fun e => hxy e.symm
    · have hjn : j = n := by omega
      subst hjn
      go_wp2_with fail
      go_ret
      refine ⟨?_, HF.out⟩
      have : ls.findIdx? (fun y => y == x) = none := by
        rw [List.findIdx?_eq_none_iff]
        intro y hy
        obtain ⟨i, hi⟩ := List.mem_iff_getElem?.1 hy
        have hil := (List.getElem?_eq_some_iff.1 hi).1
        have := HNO.out i y (by rw [← HL.out]; exact hil) hi
        simpa using this
      rw [this]; rfl
theorem idx_contains (ls : List Int) (x : Int) : decide (0 ≤ idxI (ls.findIdx? fun y => y == x)) = ls.contains x := by
  cases h : ls.findIdx? (fun y => y == x) with
  | some i =>
    rw [List.findIdx?_eq_some_iff_getElem] at h
    obtain ⟨hi, he, _⟩ := h
    have hm : x ∈ ls := by
      have : ls[i] = x := by simpa using he
      exact this ▸ List.getElem_mem hi
    have e1 : (0 : Int) ≤ idxI (some i) := Int.natCast_nonneg _
    rw [decide_eq_true e1]
    simp [hm]
  | none =>
    rw [List.findIdx?_eq_none_iff] at h
    have hm : x ∉ ls := fun hm => by have := h x hm; simp at this
    have e1 : ¬ (0 : Int) ≤ idxI none := by decide
    rw [decide_eq_false e1]
    simp [hm]
set_option maxRecDepth 100000 in
theorem contains_c {A : Option Addr} {n c : Nat} {ls : List Int} (x : Int) (hl : ls.length = n) (hA : ValsAt w A (ls.map (Value.int .i64))) (hn : n ≤ 1000000) :
    Calls Tryz.prog 53 #[.slice A n c, .int .i64 x] w fun e w' => e = .returned (.bool (ls.contains x)) ∧ Fr F0 w w' := by
  have HV := Lib.hid hA
  have HL := Lib.hid hl
  clear hA hl
  rw [← idx_contains]
  obtain ⟨ix, hix⟩ : ∃ ix, ix = idxI (ls.findIdx? fun y => y == x) := ⟨_, rfl⟩
  rw [← hix]
  have HIX := Lib.hid hix
  clear hix
  go_enter Tryz.func53, Tryz.ntmps53
  go_wp2_with fail
  refine (index_c x HL.out HV.out hn).mono ?_
  rintro e w1 ⟨rfl, hf1⟩
  rw [← HIX.out]
  go_wp2_with fail
  go_ret
  exact ⟨by first | rfl | simp, hf1⟩
def wantLk (block tx : Int) : Lk := ⟨block, tx, 0, 0⟩
set_option maxRecDepth 100000 in
theorem find1_c (x y : Lk) (cb : Nat) (hc : w.heap[cb]? = some (.cells y.cells.toArray 78 (0, 0))) : Calls Tryz.prog 61 #[lkV x, .pointer (some ⟨cb, 0, none⟩)] w fun e w' => e = .returned (.bool (decide (ordI x y = 0))) ∧ Fr F0 w w' := by
  obtain ⟨y1, y2, y3, y4⟩ := y
  obtain ⟨x1, x2, x3, x4⟩ := x
  have k0 : w.cell? ⟨cb, 0, none⟩ = some (.int .i64 y1) := by rw [cell_of hc]; rfl
  have k1 : w.cell? ⟨cb, 1, none⟩ = some (.int .i64 y2) := by rw [cell_of hc]; rfl
  have k2 : w.cell? ⟨cb, 2, none⟩ = some (.int .i64 y3) := by rw [cell_of hc]; rfl
  have k3 : w.cell? ⟨cb, 3, none⟩ = some (.int .i64 y4) := by rw [cell_of hc]; rfl
  have hcb := lt_of_block hc
  have HF : Hid (Fr F0 w (w.alloc (.cells #[.int .i64 x1, .int .i64 x2, .int .i64 x3, .int .i64 x4] 78))) := Lib.hid ((Fr.refl F0 w).alloc _)
  obtain ⟨o, ho⟩ : ∃ o, o = ordI ⟨x1, x2, x3, x4⟩ ⟨y1, y2, y3, y4⟩ := ⟨_, rfl⟩
  rw [← ho]
  have HO := Lib.hid ho
  have HK : Hid (∀ k z, (Lk.cells ⟨y1, y2, y3, y4⟩)[k]? = some z → (w.alloc (.cells #[.int .i64 x1, .int .i64 x2, .int .i64 x3, .int .i64 x4] 78)).cell? ⟨cb, k, none⟩ = some z) := Lib.hid (fun k z hz => by
    rw [cell_of (keep_alloc hc _)]
    simpa using hz)
  have q0 := HK.out 0 _ rfl
  have q1 := HK.out 1 _ rfl
  have q2 := HK.out 2 _ rfl
  have q3 := HK.out 3 _ rfl
  clear hc ho k0 k1 k2 k3
  go_enter Tryz.func61, Tryz.ntmps61
  go_wp2_with fail
  refine (order_c ⟨x1, x2, x3, x4⟩ ⟨y1, y2, y3, y4⟩).mono ?_
  rintro e w1 ⟨rfl, hf1⟩
  rw [← HO.out]
  by_cases h0 : o = 0
  · subst h0
    go_wp2_with fail
    go_ret
    exact ⟨by first | rfl | simp, HF.out.then0 hf1⟩
  · have hq : (o == 0) = false := by simp [h0]
    go_wp2_with fail
    go_ret
    exact ⟨by simp [h0], HF.out.then0 hf1⟩
set_option maxRecDepth 100000 in
theorem of1_c (x : Lk) (tx : Int) (cb : Nat) (hc : w.heap[cb]? = some (.cells #[.int .i64 tx] 3 (0, 0))) : Calls Tryz.prog 96 #[lkV x, .pointer (some ⟨cb, 0, none⟩)] w fun e w' => e = .returned (.bool (decide (x.tx ≠ tx))) ∧ Fr F0 w w' := by
  obtain ⟨x1, x2, x3, x4⟩ := x
  have hcb := lt_of_block hc
  have HF : Hid (Fr F0 w (w.alloc (.cells #[.int .i64 x1, .int .i64 x2, .int .i64 x3, .int .i64 x4] 78))) := Lib.hid ((Fr.refl F0 w).alloc _)
  have q0 : (w.alloc (.cells #[.int .i64 x1, .int .i64 x2, .int .i64 x3, .int .i64 x4] 78)).cell? ⟨cb, 0, none⟩ = some (.int .i64 tx) := by rw [cell_of (keep_alloc hc _)]; rfl
  clear hc
  by_cases h0 : x2 = tx
  · subst h0
    go_enter Tryz.func96, Tryz.ntmps96
    go_wp2_with fail
    go_ret
    exact ⟨by first | rfl | simp, HF.out⟩
  · have hq : (x2 != tx) = true := by simp [h0]
    go_enter Tryz.func96, Tryz.ntmps96
    go_wp2_with fail
    go_ret
    exact ⟨by simp [h0], HF.out⟩
set_option maxRecDepth 100000 in
theorem free1_c (x : Lk) {A : Option Addr} {n c : Nat} {ls : List Int} (hl : ls.length = n) (hA : ValsAt w A (ls.map (Value.int .i64))) (hn : n ≤ 1000000) (cb : Nat) (hc : w.heap[cb]? = some (.cells #[.slice A n c] 37 (0, 0))) :
    Calls Tryz.prog 52 #[lkV x, .pointer (some ⟨cb, 0, none⟩)] w fun e w' => e = .returned (.bool (ls.contains x.tx)) ∧ Fr F0 w w' := by
  obtain ⟨x1, x2, x3, x4⟩ := x
  have hcb := lt_of_block hc
  have HV := Lib.hid hA
  have HL := Lib.hid hl
  have HF : Hid (Fr F0 w (w.alloc (.cells #[.int .i64 x1, .int .i64 x2, .int .i64 x3, .int .i64 x4] 78))) := Lib.hid ((Fr.refl F0 w).alloc _)
  have q0 : (w.alloc (.cells #[.int .i64 x1, .int .i64 x2, .int .i64 x3, .int .i64 x4] 78)).cell? ⟨cb, 0, none⟩ = some (.slice A n c) := by rw [cell_of (keep_alloc hc _)]; rfl
  clear hc hA hl
  obtain ⟨r, hr⟩ : ∃ r, r = ls.contains x2 := ⟨_, rfl⟩
  have HR := Lib.hid hr
  show Calls Tryz.prog 52 #[lkV ⟨x1, x2, x3, x4⟩, .pointer (some ⟨cb, 0, none⟩)] w fun e w' => e = .returned (.bool (ls.contains x2)) ∧ Fr F0 w w'
  rw [← hr]
  clear hr
  go_enter Tryz.func52, Tryz.ntmps52
  go_wp2_with fail
  refine (contains_c x2 HL.out (HV.out.keep0 HF.out) hn).mono ?_
  rintro e w1 ⟨rfl, hf1⟩
  rw [← HR.out]
  go_wp2_with fail
  go_ret
  exact ⟨rfl, HF.out.then0 hf1⟩
set_option maxRecDepth 100000 in
set_option maxHeartbeats 1000000 in
theorem idxf_find (tst : Lk → Bool) (cb : Nat) (h : SlV 4 Lk.cells w v L) (hn : L.length ≤ 1000000) (hso : ∀ W, Fr F0 w W → ∀ x, Calls Tryz.prog 61 #[lkV x, .pointer (some ⟨cb, 0, none⟩)] W fun e w' => e = .returned (.bool (tst x)) ∧ Fr F0 W w') :
    Calls Tryz.prog 60 #[v, .func (.func 61) #[] #[.pointer (some ⟨cb, 0, none⟩)]] w fun e w' => e = .returned (.int .i64 (idxI (L.findIdx? tst))) ∧ Fr F0 w w' := by
  obtain ⟨A, c, rfl, hsr, -⟩ := h.ex
  have HL := Lib.hid hsr
  have HSO := Lib.hid hso
  obtain ⟨n, hnn⟩ : ∃ n, n = L.length := ⟨_, rfl⟩
  have HN := Lib.hid hnn
  rw [← hnn]
  have n0 : (0 : Int) ≤ (n : Int) := Int.natCast_nonneg _
  obtain ⟨d, hu, hd⟩ := und_lock
  have HU := Lib.hid hu
  have HDD := Lib.hid hd
  clear h hsr hso hnn hu hd
  go_enter Tryz.func60, Tryz.ntmps60
  go_wp2_with fail
  go_loopg [5, 8] n (fun kq x5 x8 wr => ∃ j : Nat, j ≤ n ∧ kq = n - j ∧ x8 = .int .i64 (j : Int) ∧ (∀ i y, i < j → L[i]? = some y → tst y = false) ∧ Fr F0 w wr)
  case atStart => exact ⟨0, by omega, rfl, rfl, fun i y h => by omega, Fr.refl _ _⟩
  case round =>
    obtain ⟨j, hj, rfl, rfl, hno, hf⟩ := hrel
    have HNO := Lib.hid hno
    have HF := Lib.hid hf
    clear hno hf
    have j0 : (0 : Int) ≤ (j : Int) := Int.natCast_nonneg _
    by_cases hlt : j < n
    · have j1 : (j : Int) < (n : Int) := by omega
      have hjl : j < L.length := by have := HN.out; omega
      obtain ⟨b, off, hA, hc⟩ := (HL.out.keep0 HF.out).get (List.getElem?_eq_getElem hjl) (Lk.pos _)
      subst hA
      have HY := Lib.hid (List.getElem?_eq_getElem hjl)
      obtain ⟨x, hx⟩ : ∃ x, x = L[j] := ⟨_, rfl⟩
      rw [← hx] at hc HY
      clear hx
      have HCS : Hid (∀ i v, x.cells[i]? = some v → wr.cell? ⟨b, off + j * 4 + i, none⟩ = some v) := Lib.hid hc
      clear hc
      obtain ⟨x1, x2, x3, x4⟩ := x
      go_wp2_with (refine wpList_load_at rfl 78 (.tmp 14) rfl b (off + j * 4) (by rfl) (Lk.cells ⟨x1, x2, x3, x4⟩) d HCS.out HU.out HDD.out size_lock ?_; simp only [Lk.cells, List.toArray])
      refine (HSO.out _ HF.out ⟨x1, x2, x3, x4⟩).mono ?_
      rintro e w3 ⟨rfl, hf3⟩
      have HF3 := Lib.hid (HF.out.then0 hf3)
      clear hf3
      obtain ⟨tt, htt⟩ : ∃ tt, tt = tst ⟨x1, x2, x3, x4⟩ := ⟨_, rfl⟩
      have HTT := Lib.hid htt
      rw [← htt]
      clear htt
      cases tt with
      | true =>
        go_wp2_with fail
        go_ret
        refine ⟨?_, HF3.out⟩
        have : L.findIdx? tst = some j := by
          rw [List.findIdx?_eq_some_iff_getElem]
          have hyj : L[j] = ⟨x1, x2, x3, x4⟩ := by have := HY.out; rw [List.getElem?_eq_getElem hjl] at this; exact Option.some.inj this
          refine ⟨hjl, by rw [hyj, ← HTT.out], fun i hi => ?_⟩
          have := HNO.out i _ hi (List.getElem?_eq_getElem (by omega))
          simpa using this
        rw [this]; rfl
      | false =>
        go_wp2_with fail
        go_roundg (n - (j + 1))
        case measure => omega
        case rel =>
          refine ⟨j + 1, by omega, rfl, by first | rfl | (go_num), fun i z hi hz => ?_, HF3.out⟩
          by_cases hij : i < j
          · exact HNO.out i z hij hz
          · have : i = j := by omega
            subst this
            rw [HY.out] at hz
            cases hz
            exact HTT.out.symm
    · have hjn : j = n := by omega
      subst hjn
      go_wp2_with fail
      go_ret
      refine ⟨?_, HF.out⟩
      have : L.findIdx? tst = none := by
        rw [List.findIdx?_eq_none_iff]
        intro y hy
        obtain ⟨i, hi⟩ := List.mem_iff_getElem?.1 hy
        have hil := (List.getElem?_eq_some_iff.1 hi).1
        exact HNO.out i y (by rw [HN.out]; exact hil) hi
      rw [this]; rfl
set_option maxRecDepth 100000 in
set_option maxHeartbeats 1000000 in
theorem idxf_of (tst : Lk → Bool) (cb : Nat) (h : SlV 4 Lk.cells w v L) (hn : L.length ≤ 1000000) (hso : ∀ W, Fr F0 w W → ∀ x, Calls Tryz.prog 96 #[lkV x, .pointer (some ⟨cb, 0, none⟩)] W fun e w' => e = .returned (.bool (tst x)) ∧ Fr F0 W w') :
    Calls Tryz.prog 60 #[v, .func (.func 96) #[] #[.pointer (some ⟨cb, 0, none⟩)]] w fun e w' => e = .returned (.int .i64 (idxI (L.findIdx? tst))) ∧ Fr F0 w w' := by
  obtain ⟨A, c, rfl, hsr, -⟩ := h.ex
  have HL := Lib.hid hsr
  have HSO := Lib.hid hso
  obtain ⟨n, hnn⟩ : ∃ n, n = L.length := ⟨_, rfl⟩
  have HN := Lib.hid hnn
  rw [← hnn]
  have n0 : (0 : Int) ≤ (n : Int) := Int.natCast_nonneg _
  obtain ⟨d, hu, hd⟩ := und_lock
  have HU := Lib.hid hu
  have HDD := Lib.hid hd
  clear h hsr hso hnn hu hd
  go_enter Tryz.func60, Tryz.ntmps60
  go_wp2_with fail
  go_loopg [5, 8] n (fun kq x5 x8 wr => ∃ j : Nat, j ≤ n ∧ kq = n - j ∧ x8 = .int .i64 (j : Int) ∧ (∀ i y, i < j → L[i]? = some y → tst y = false) ∧ Fr F0 w wr)
  case atStart => exact ⟨0, by omega, rfl, rfl, fun i y h => by omega, Fr.refl _ _⟩
  case round =>
    obtain ⟨j, hj, rfl, rfl, hno, hf⟩ := hrel
    have HNO := Lib.hid hno
    have HF := Lib.hid hf
    clear hno hf
    have j0 : (0 : Int) ≤ (j : Int) := Int.natCast_nonneg _
    by_cases hlt : j < n
    · have j1 : (j : Int) < (n : Int) := by omega
      have hjl : j < L.length := by have := HN.out; omega
      obtain ⟨b, off, hA, hc⟩ := (HL.out.keep0 HF.out).get (List.getElem?_eq_getElem hjl) (Lk.pos _)
      subst hA
      have HY := Lib.hid (List.getElem?_eq_getElem hjl)
      obtain ⟨x, hx⟩ : ∃ x, x = L[j] := ⟨_, rfl⟩
      rw [← hx] at hc HY
      clear hx
      have HCS : Hid (∀ i v, x.cells[i]? = some v → wr.cell? ⟨b, off + j * 4 + i, none⟩ = some v) := Lib.hid hc
      clear hc
      obtain ⟨x1, x2, x3, x4⟩ := x
      go_wp2_with (refine wpList_load_at rfl 78 (.tmp 14) rfl b (off + j * 4) (by rfl) (Lk.cells ⟨x1, x2, x3, x4⟩) d HCS.out HU.out HDD.out size_lock ?_; simp only [Lk.cells, List.toArray])
      refine (HSO.out _ HF.out ⟨x1, x2, x3, x4⟩).mono ?_
      rintro e w3 ⟨rfl, hf3⟩
      have HF3 := Lib.hid (HF.out.then0 hf3)
      clear hf3
      obtain ⟨tt, htt⟩ : ∃ tt, tt = tst ⟨x1, x2, x3, x4⟩ := ⟨_, rfl⟩
      have HTT := Lib.hid htt
      rw [← htt]
      clear htt
      cases tt with
      | true =>
        go_wp2_with fail
        go_ret
        refine ⟨?_, HF3.out⟩
        have : L.findIdx? tst = some j := by
          rw [List.findIdx?_eq_some_iff_getElem]
          have hyj : L[j] = ⟨x1, x2, x3, x4⟩ := by have := HY.out; rw [List.getElem?_eq_getElem hjl] at this; exact Option.some.inj this
          refine ⟨hjl, by rw [hyj, ← HTT.out], fun i hi => ?_⟩
          have := HNO.out i _ hi (List.getElem?_eq_getElem (by omega))
          simpa using this
        rw [this]; rfl
      | false =>
        go_wp2_with fail
        go_roundg (n - (j + 1))
        case measure => omega
        case rel =>
          refine ⟨j + 1, by omega, rfl, by first | rfl | (go_num), fun i z hi hz => ?_, HF3.out⟩
          by_cases hij : i < j
          · exact HNO.out i z hij hz
          · have : i = j := by omega
            subst this
            rw [HY.out] at hz
            cases hz
            exact HTT.out.symm
    · have hjn : j = n := by omega
      subst hjn
      go_wp2_with fail
      go_ret
      refine ⟨?_, HF.out⟩
      have : L.findIdx? tst = none := by
        rw [List.findIdx?_eq_none_iff]
        intro y hy
        obtain ⟨i, hi⟩ := List.mem_iff_getElem?.1 hy
        have hil := (List.getElem?_eq_some_iff.1 hi).1
        exact HNO.out i y (by rw [HN.out]; exact hil) hi
      rw [this]; rfl
set_option maxRecDepth 100000 in
set_option maxHeartbeats 1000000 in
theorem idxf_free (tst : Lk → Bool) (cb : Nat) (h : SlV 4 Lk.cells w v L) (hn : L.length ≤ 1000000) (hso : ∀ W, Fr F0 w W → ∀ x, Calls Tryz.prog 52 #[lkV x, .pointer (some ⟨cb, 0, none⟩)] W fun e w' => e = .returned (.bool (tst x)) ∧ Fr F0 W w') :
    Calls Tryz.prog 60 #[v, .func (.func 52) #[] #[.pointer (some ⟨cb, 0, none⟩)]] w fun e w' => e = .returned (.int .i64 (idxI (L.findIdx? tst))) ∧ Fr F0 w w' := by
  obtain ⟨A, c, rfl, hsr, -⟩ := h.ex
  have HL := Lib.hid hsr
  have HSO := Lib.hid hso
  obtain ⟨n, hnn⟩ : ∃ n, n = L.length := ⟨_, rfl⟩
  have HN := Lib.hid hnn
  rw [← hnn]
  have n0 : (0 : Int) ≤ (n : Int) := Int.natCast_nonneg _
  obtain ⟨d, hu, hd⟩ := und_lock
  have HU := Lib.hid hu
  have HDD := Lib.hid hd
  clear h hsr hso hnn hu hd
  go_enter Tryz.func60, Tryz.ntmps60
  go_wp2_with fail
  go_loopg [5, 8] n (fun kq x5 x8 wr => ∃ j : Nat, j ≤ n ∧ kq = n - j ∧ x8 = .int .i64 (j : Int) ∧ (∀ i y, i < j → L[i]? = some y → tst y = false) ∧ Fr F0 w wr)
  case atStart => exact ⟨0, by omega, rfl, rfl, fun i y h => by omega, Fr.refl _ _⟩
  case round =>
    obtain ⟨j, hj, rfl, rfl, hno, hf⟩ := hrel
    have HNO := Lib.hid hno
    have HF := Lib.hid hf
    clear hno hf
    have j0 : (0 : Int) ≤ (j : Int) := Int.natCast_nonneg _
    by_cases hlt : j < n
    · have j1 : (j : Int) < (n : Int) := by omega
      have hjl : j < L.length := by have := HN.out; omega
      obtain ⟨b, off, hA, hc⟩ := (HL.out.keep0 HF.out).get (List.getElem?_eq_getElem hjl) (Lk.pos _)
      subst hA
      have HY := Lib.hid (List.getElem?_eq_getElem hjl)
      obtain ⟨x, hx⟩ : ∃ x, x = L[j] := ⟨_, rfl⟩
      rw [← hx] at hc HY
      clear hx
      have HCS : Hid (∀ i v, x.cells[i]? = some v → wr.cell? ⟨b, off + j * 4 + i, none⟩ = some v) := Lib.hid hc
      clear hc
      obtain ⟨x1, x2, x3, x4⟩ := x
      go_wp2_with (refine wpList_load_at rfl 78 (.tmp 14) rfl b (off + j * 4) (by rfl) (Lk.cells ⟨x1, x2, x3, x4⟩) d HCS.out HU.out HDD.out size_lock ?_; simp only [Lk.cells, List.toArray])
      refine (HSO.out _ HF.out ⟨x1, x2, x3, x4⟩).mono ?_
      rintro e w3 ⟨rfl, hf3⟩
      have HF3 := Lib.hid (HF.out.then0 hf3)
      clear hf3
      obtain ⟨tt, htt⟩ : ∃ tt, tt = tst ⟨x1, x2, x3, x4⟩ := ⟨_, rfl⟩
      have HTT := Lib.hid htt
      rw [← htt]
      clear htt
      cases tt with
      | true =>
        go_wp2_with fail
        go_ret
        refine ⟨?_, HF3.out⟩
        have : L.findIdx? tst = some j := by
          rw [List.findIdx?_eq_some_iff_getElem]
          have hyj : L[j] = ⟨x1, x2, x3, x4⟩ := by have := HY.out; rw [List.getElem?_eq_getElem hjl] at this; exact Option.some.inj this
          refine ⟨hjl, by rw [hyj, ← HTT.out], fun i hi => ?_⟩
          have := HNO.out i _ hi (List.getElem?_eq_getElem (by omega))
          simpa using this
        rw [this]; rfl
      | false =>
        go_wp2_with fail
        go_roundg (n - (j + 1))
        case measure => omega
        case rel =>
          refine ⟨j + 1, by omega, rfl, by first | rfl | (go_num), fun i z hi hz => ?_, HF3.out⟩
          by_cases hij : i < j
          · exact HNO.out i z hij hz
          · have : i = j := by omega
            subst this
            rw [HY.out] at hz
            cases hz
            exact HTT.out.symm
    · have hjn : j = n := by omega
      subst hjn
      go_wp2_with fail
      go_ret
      refine ⟨?_, HF.out⟩
      have : L.findIdx? tst = none := by
        rw [List.findIdx?_eq_none_iff]
        intro y hy
        obtain ⟨i, hi⟩ := List.mem_iff_getElem?.1 hy
        have hil := (List.getElem?_eq_some_iff.1 hi).1
        exact HNO.out i y (by rw [HN.out]; exact hil) hi
      rw [this]; rfl
end
end Go.Proofs.YtgbaijfgmeealaaGreat
