/-
  heronry/waits: kids, the live ones in a live one; slices.Max of integers. heronry/waits: holds; slices.IndexFunc and ContainsFunc of integers at its closure. Conditions: none.
-/
import Derived.Test.YtgbaijfgmeealaaGreatW11c
import Derived.Test.YtgbaijfgmeealaaGreatT9g
set_option linter.unusedVariables false
set_option linter.unusedSimpArgs false
namespace Go.Proofs.YtgbaijfgmeealaaGreat
open Go.RowKit
def kidB (X : List Tx9) (of : Int) (k : Nat) : Bool := match X[k]? with | some x => decide (x.parent = of) && decide (x.state = 1) | none => false
def kidsTo (X : List Tx9) (of : Int) (j : Nat) : List Int := ((List.range j).filter (kidB X of)).map fun (k : Nat) => (k : Int)
/-- The live ones in a live one. -/
def kidsL (X : List Tx9) (of : Int) : List Int := if stateOf X of = 1 then kidsTo X of X.length else []
theorem kidsTo_succ (X : List Tx9) (of : Int) (j : Nat) : kidsTo X of (j + 1) = kidsTo X of j ++ (if kidB X of j = true then [(j : Int)] else []) := by
  unfold kidsTo
  rw [List.range_succ, List.filter_append]
  by_cases h : kidB X of j = true
  · rw [if_pos h]; simp [h]
  · rw [if_neg h]; simp [h]
theorem kidsTo_len (X : List Tx9) (of : Int) (j : Nat) : (kidsTo X of j).length ≤ j := by
  unfold kidsTo
  rw [List.length_map]
  have := List.length_filter_le (kidB X of) (List.range j)
  rwa [List.length_range] at this
section
variable {w : World} {v : Value} {X : List Tx9}
set_option maxRecDepth 100000 in
set_option maxHeartbeats 2000000 in
theorem kids_c (clk of : Int) (h : SlV 4 Tx9.cells w v X) (hn : X.length ≤ 64) (hof : isId X of = true) :
    Calls Tryz.prog 23 #[.agg #[v, .int .i64 clk], .int .i64 of] w fun e w' => ∃ v', e = .returned v' ∧ w'.ownsRow w.heap.size 3 1 v' (kidsL X of).length ((kidsL X of).map (Value.int .i64)) ∧ Fr F0 w w' := by
  obtain ⟨A, c, rfl, hs, -⟩ := h.ex
  have HL := Lib.hid hs
  obtain ⟨n, hnn⟩ : ∃ n, n = X.length := ⟨_, rfl⟩
  have HN := Lib.hid hnn
  have hn64 : n ≤ 64 := by omega
  rw [← hnn]
  have n0 : (0 : Int) ≤ (n : Int) := Int.natCast_nonneg _
  have HB : Hid ((w.alloc (.cells #[.slice A n c, .int .i64 clk] 31)).heap[w.heap.size]? = some (.cells #[.slice A n c, .int .i64 clk] 31 (0, 0))) := Lib.hid (alloc_at rfl _)
  have HF0 : Hid (Fr F0 w (w.alloc (.cells #[.slice A n c, .int .i64 clk] 31))) := Lib.hid ((Fr.refl F0 w).alloc _)
  obtain ⟨d, hu, hd⟩ := und_tx
  have HU := Lib.hid hu
  have HDD := Lib.hid hd
  have hii := isId_iff.1 hof
  obtain ⟨q, rfl⟩ : ∃ q : Nat, of = (q : Int) := ⟨of.toNat, by omega⟩
  have hqn : q < X.length := by omega
  have q0 : (0 : Int) ≤ (q : Int) := Int.natCast_nonneg _
  have q1 : (q : Int) < (n : Int) := by omega
  obtain ⟨b, off, rfl, hcs⟩ := (HL.out.keep0 HF0.out).get (List.getElem?_eq_getElem hqn) (Tx9.pos _)
  obtain ⟨st, hst⟩ : ∃ st, st = X[q].state := ⟨_, rfl⟩
  have HST : Hid (stateOf X (q : Int) = st) := Lib.hid (by rw [hst]; exact stateOf_at (List.getElem?_eq_getElem hqn))
  have ks : (w.alloc (.cells #[.slice (some ⟨b, off, none⟩) n c, .int .i64 clk] 31)).cell? ⟨b, off + q * 4 + 1, none⟩ = some (.int .i64 st) := by rw [hst]; exact hcs 1 _ rfl
  clear h hs hnn hu hd hcs hst hii hof hqn
  by_cases hs1 : st = 1
  · have hs2 : (st != 1) = false := by simp [hs1]
    have HK : Hid (kidsL X (q : Int) = kidsTo X (q : Int) n) := Lib.hid (by unfold kidsL; rw [HST.out, if_pos hs1, HN.out])
    clear hs1
    go_enter Tryz.func23, Tryz.ntmps23
    go_wp2_with fail
    go_loopg [5, 6, 7, 18] n (fun kq x5 x6 x7 x18 wr => ∃ j : Nat, j ≤ n ∧ kq = n - j ∧ x18 = .int .i64 (j : Int) ∧ wr.ownsRow (w.heap.size + 1) 3 1 x5 (kidsTo X (q : Int) j).length ((kidsTo X (q : Int) j).map (Value.int .i64)) ∧ Fr F0 w wr ∧ w.heap.size + 1 ≤ wr.heap.size)
    case atStart => exact ⟨0, by omega, rfl, rfl, own_nil _ _ _ _, HF0.out, by simp⟩
    case round =>
      obtain ⟨j, hj, rfl, rfl, hown, hf, hsz⟩ := hrel
      have HO := Lib.hid hown
      have HF := Lib.hid hf
      have HSZ := Lib.hid hsz
      clear hown hf hsz ks hs2
      have j0 : (0 : Int) ≤ (j : Int) := Int.natCast_nonneg _
      by_cases hlt : j < n
      · have j1 : (j : Int) < (n : Int) := by omega
        have hjl : j < X.length := by have := HN.out; omega
        obtain ⟨b', off', hA', hc⟩ := (HL.out.keep0 HF.out).get (List.getElem?_eq_getElem hjl) (Tx9.pos _)
        cases hA'
        have HLJ := Lib.hid (List.getElem?_eq_getElem hjl)
        obtain ⟨x, hx⟩ : ∃ x, x = X[j] := ⟨_, rfl⟩
        rw [← hx] at hc HLJ
        clear hx
        have HCS : Hid (∀ i v, x.cells[i]? = some v → wr.cell? ⟨b, off + j * 4 + i, none⟩ = some v) := Lib.hid hc
        clear hc
        have HKB : Hid (kidB X (q : Int) j = (decide (x.parent = (q : Int)) && decide (x.state = 1))) := Lib.hid (by unfold kidB; rw [HLJ.out])
        have HSTEP : Hid (kidsTo X (q : Int) (j + 1) = kidsTo X (q : Int) j ++ (if kidB X (q : Int) j = true then [(j : Int)] else [])) := Lib.hid (kidsTo_succ X (q : Int) j)
        have hlen := kidsTo_len X (q : Int) j
        obtain ⟨x1, x2, x3, x4⟩ := x
        simp only at HKB
        obtain ⟨W1, hW1⟩ : ∃ W1, W1 = wr.alloc (.cells #[.int .i64 x1, .int .i64 x2, .int .i64 x3, .int .i64 x4] 76) := ⟨_, rfl⟩
        have hf1 : Fr F0 wr W1 := by rw [hW1]; exact (Fr.refl _ _).alloc _
        have HF1 := Lib.hid (HF.out.then0 hf1)
        have HO1 := Lib.hid (own_keep0 HO.out hf1)
        have hz1 : w.heap.size + 1 ≤ W1.heap.size := Nat.le_trans HSZ.out hf1.size
        have HW1 := Lib.hid hW1
        clear hf1 hW1
        by_cases hp : x1 = (q : Int)
        · by_cases hs : x2 = 1
          · have g1 : (x1 == (q : Int)) = true := by simp [hp]
            have g2 : (x2 == 1) = true := by simp [hs]
            have HI2 : Hid (kidsTo X (q : Int) (j + 1) = kidsTo X (q : Int) j ++ [(j : Int)]) := Lib.hid (by rw [HSTEP.out, HKB.out, if_pos (by simp [hp, hs])])
            clear hp hs
            go_upto_region 8 with (first | (refine wpList_load_at rfl 76 (.tmp 21) rfl b (off + j * 4) (by rfl) (Tx9.cells ⟨x1, x2, x3, x4⟩) d HCS.out HU.out HDD.out size_tx ?_) | (refine wpList_store_fresh rfl 76 (.tmp 7) (.tmp 22) rfl (Tx9.cells ⟨x1, x2, x3, x4⟩).toArray (by rfl) (by rfl) 76 #[.int .i64 0, .int .i64 0, .int .i64 0, .int .i64 0] size_tx rfl (by simp [Tx9.cells, Value.oneCell']) ?_; simp only [Tx9.cells, List.toArray]))
            rw [← HW1.out]
            go_wp2_with (at_builtin; refine wpList_append_one rfl (.tmp 32) (.tmp 34) 37 3 8 (.int .i64 0) rfl und_ints9 info_int9 rfl (by decide) (w.heap.size + 1) u5 ((kidsTo X (q : Int) j).map (Value.int .i64)) (.int .i64 (j : Int)) (by rfl) (by rfl) rfl (by rw [List.length_map]; exact HO1.out) hz1 (by rw [List.length_map]; omega) ?_; intro v5 w5 hown5 hf5)
            go_roundg (n - (j + 1))
            case measure => omega
            case rel =>
              refine ⟨j + 1, by omega, rfl, by first | rfl | (go_num), ?_, HF1.out.trans hf5 (fun k hk => .inr (by have := own_base HO1.out k hk; omega)), Nat.le_trans hz1 hf5.size⟩
              rw [HI2.out, List.length_append, List.map_append]
              rw [List.length_map] at hown5
              exact hown5
          · have g1 : (x1 == (q : Int)) = true := by simp [hp]
            have g2 : (x2 == 1) = false := by simp [hs]
            have HI2 : Hid (kidsTo X (q : Int) (j + 1) = kidsTo X (q : Int) j) := Lib.hid (by rw [HSTEP.out, HKB.out, if_neg (by simp [hs]), List.append_nil])
            clear hp hs
            go_wp2_with (first | (refine wpList_load_at rfl 76 (.tmp 21) rfl b (off + j * 4) (by rfl) (Tx9.cells ⟨x1, x2, x3, x4⟩) d HCS.out HU.out HDD.out size_tx ?_) | (refine wpList_store_fresh rfl 76 (.tmp 7) (.tmp 22) rfl (Tx9.cells ⟨x1, x2, x3, x4⟩).toArray (by rfl) (by rfl) 76 #[.int .i64 0, .int .i64 0, .int .i64 0, .int .i64 0] size_tx rfl (by simp [Tx9.cells, Value.oneCell']) ?_; simp only [Tx9.cells, List.toArray]))
            go_roundg (n - (j + 1))
            case measure => omega
            case rel => exact ⟨j + 1, by omega, rfl, by first | rfl | (go_num), by rw [HI2.out, ← HW1.out]; exact HO1.out, by rw [← HW1.out]; exact HF1.out, by rw [← HW1.out]; exact hz1⟩
        · have g1 : (x1 == (q : Int)) = false := by simp [hp]
          have HI2 : Hid (kidsTo X (q : Int) (j + 1) = kidsTo X (q : Int) j) := Lib.hid (by rw [HSTEP.out, HKB.out, if_neg (by simp [hp]), List.append_nil])
          clear hp
          go_wp2_with (first | (refine wpList_load_at rfl 76 (.tmp 21) rfl b (off + j * 4) (by rfl) (Tx9.cells ⟨x1, x2, x3, x4⟩) d HCS.out HU.out HDD.out size_tx ?_) | (refine wpList_store_fresh rfl 76 (.tmp 7) (.tmp 22) rfl (Tx9.cells ⟨x1, x2, x3, x4⟩).toArray (by rfl) (by rfl) 76 #[.int .i64 0, .int .i64 0, .int .i64 0, .int .i64 0] size_tx rfl (by simp [Tx9.cells, Value.oneCell']) ?_; simp only [Tx9.cells, List.toArray]))
          go_roundg (n - (j + 1))
          case measure => omega
          case rel => exact ⟨j + 1, by omega, rfl, by first | rfl | (go_num), by rw [HI2.out, ← HW1.out]; exact HO1.out, by rw [← HW1.out]; exact HF1.out, by rw [← HW1.out]; exact hz1⟩
      · have hjn : j = n := by omega
        subst hjn
        go_wp2_with fail
        go_ret
        exact ⟨_, rfl, by rw [HK.out]; exact own_lower HO.out (Nat.le_succ _), HF.out⟩
  · have hs2 : (st != 1) = true := by simp [hs1]
    have HK : Hid (kidsL X (q : Int) = []) := Lib.hid (by unfold kidsL; rw [HST.out, if_neg hs1])
    clear hs1
    go_enter Tryz.func23, Tryz.ntmps23
    go_wp2_with fail
    go_ret
    exact ⟨_, rfl, by rw [HK.out]; exact own_nil _ _ _ _, HF0.out⟩
/-- The greatest of integers. -/
def maxI (l : List Int) : Int := l.tail.foldl max (l.headD 0)
set_option maxRecDepth 100000 in
set_option maxHeartbeats 1000000 in
theorem max_c {A : Option Addr} {n c : Nat} {ls : List Int} (hl : ls.length = n) (hA : ValsAt w A (ls.map (Value.int .i64))) (hn : n ≤ 1000000) (h0 : 0 < n) :
    Calls Tryz.prog 26 #[.slice A n c] w fun e w' => e = .returned (.int .i64 (maxI ls)) ∧ Fr F0 w w' := by
  have HL := Lib.hid hl
  obtain ⟨b, off, rfl, hc⟩ := hA.plain (by rw [List.length_map]; omega)
  have HC : Hid (∀ wx, Fr F0 w wx → ∀ i y, ls[i]? = some y → wx.cell? ⟨b, off + i, none⟩ = some (.int .i64 y)) := Lib.hid (fun wx hf i y hy => by
    have h1 := hc i (.int .i64 y) (by rw [List.getElem?_map, hy]; rfl)
    exact (World.cell?_of_block (w := w) (hf.block _ (World.block_lt_of_cell? _ _ h1) (fun h => h))).trans h1)
  have n0 : (0 : Int) ≤ (n : Int) := Int.natCast_nonneg _
  have n1 : ¬ (n : Int) < 1 := by omega
  have n2 : (0 : Int) < (n : Int) := by omega
  obtain ⟨y0, hy0⟩ : ∃ y0, ls[0]? = some y0 := ⟨ls[0]'(by omega), List.getElem?_eq_getElem _⟩
  have k0 : w.cell? ⟨b, off, none⟩ = some (.int .i64 y0) := HC.out w (Fr.refl _ _) 0 y0 hy0
  have HT1 : Hid ((ls.take 1).tail.foldl max ((ls.take 1).headD 0) = y0) := Lib.hid (by
    cases ls with
    | nil => simp at hy0
    | cons a l =>
      simp at hy0
      subst hy0
      rfl)
  have HSTEP : Hid (∀ (j : Nat) (y : Int), 1 ≤ j → ls[j]? = some y → maxI (ls.take (j + 1)) = max (maxI (ls.take j)) y) := Lib.hid (fun j y hj hy => by
    cases ls with
    | nil => simp at hy
    | cons a l =>
      obtain ⟨i, rfl⟩ : ∃ i, j = i + 1 := ⟨j - 1, by omega⟩
      have hy' : l[i]? = some y := by simpa using hy
      unfold maxI
      simp only [List.take_succ_cons, List.tail_cons, List.headD_cons]
      rw [List.take_add_one, hy', List.foldl_append]
      rfl)
  clear hl hA hc hy0
  go_enter Tryz.func26, Tryz.ntmps26
  go_wp2_with fail
  go_loopg [3, 4] (n - 1) (fun kq x3 x4 wr => ∃ j : Nat, 1 ≤ j ∧ j ≤ n ∧ kq = n - j ∧ x4 = .int .i64 (j : Int) ∧ x3 = .int .i64 (maxI (ls.take j)) ∧ Fr F0 w wr)
  case atStart => exact ⟨1, Nat.le_refl _, h0, rfl, rfl, by rw [show maxI (ls.take 1) = y0 from HT1.out], Fr.refl _ _⟩
  case round =>
    obtain ⟨j, hj1, hj, rfl, rfl, rfl, hf⟩ := hrel
    have HF := Lib.hid hf
    clear hf k0
    obtain ⟨mx, hmx⟩ : ∃ mx, mx = maxI (ls.take j) := ⟨_, rfl⟩
    have HMX := Lib.hid hmx
    rw [← hmx]
    clear hmx
    have j0 : (0 : Int) ≤ (j : Int) := Int.natCast_nonneg _
    by_cases hlt : j < n
    · have jl : (j : Int) < (n : Int) := by omega
      obtain ⟨y, hy⟩ : ∃ y, ls[j]? = some y := ⟨ls[j]'(by rw [HL.out]; exact hlt), List.getElem?_eq_getElem _⟩
      have gx := HC.out wr HF.out j y hy
      have HM2 : Hid (maxI (ls.take (j + 1)) = max mx y) := Lib.hid (by rw [HSTEP.out j y hj1 hy, HMX.out])
      clear hy
      go_wp2_with fail
      go_roundg (n - (j + 1))
      case measure => omega
      case rel => exact ⟨j + 1, by omega, by omega, rfl, by first | rfl | (go_num), by rw [HM2.out], HF.out⟩
    · have hjn : j = n := by omega
      subst hjn
      have HME : Hid (maxI ls = mx) := Lib.hid (by rw [HMX.out, ← HL.out, List.take_length])
      go_wp2_with fail
      go_ret
      exact ⟨by rw [HME.out]; rfl, HF.out⟩
end
end Go.Proofs.YtgbaijfgmeealaaGreat
set_option linter.unusedVariables false
set_option linter.unusedSimpArgs false
namespace Go.Proofs.YtgbaijfgmeealaaGreat
open Go.RowKit
/-- Is a want held up by one that is ahead, against which these are? -/
def holdsB (X : List Tx9) (a : Wn) (ag : List Int) (later : Wn) : Bool :=
  if a.block ≠ later.block ∨ (a.mode ≠ 2 ∧ later.mode ≠ 2) then false else !(ag.any fun of => withinB X later.tx of)
section
variable {w : World} {X : List Tx9} {ls : List Int}
set_option maxRecDepth 100000 in
theorem holds1_c (of : Int) (y : Wn) (tb lb : Nat) {A : Option Addr} {n c : Nat} {clk : Int} (hn : X.length = n) (hn64 : n ≤ 64) (hX : TxsAt w A X) (ht : w.heap[tb]? = some (.cells #[.slice A n c, .int .i64 clk] 31 (0, 0))) (hb : w.heap[lb]? = some (.cells y.cells.toArray 46 (0, 0))) :
    Calls Tryz.prog 77 #[.int .i64 of, .pointer (some ⟨tb, 0, none⟩), .pointer (some ⟨lb, 0, none⟩)] w fun e w' => e = .returned (.bool (withinB X y.tx of)) ∧ Fr F0 w w' := by
  obtain ⟨y1, y2, y3⟩ := y
  have k0 : w.cell? ⟨tb, 0, none⟩ = some (.slice A n c) := by rw [cell_of ht]; rfl
  have k1 : w.cell? ⟨tb, 1, none⟩ = some (.int .i64 clk) := by rw [cell_of ht]; rfl
  have k2 : w.cell? ⟨lb, 0, none⟩ = some (.int .i64 y1) := by rw [cell_of hb]; rfl
  have HWI : Hid (Calls Tryz.prog 35 #[.agg #[.slice A n c, .int .i64 clk], .int .i64 y1, .int .i64 of] w fun e w' => e = .returned (.bool (withinB X y1 of)) ∧ Fr F0 w w') := Lib.hid (by
    have h5 := within_c (w := w) c clk y1 of hX (by omega)
    rw [hn] at h5
    exact h5)
  obtain ⟨r, hr⟩ : ∃ r, r = withinB X y1 of := ⟨_, rfl⟩
  have HR := Lib.hid hr
  show Calls Tryz.prog 77 _ w fun e w' => e = .returned (.bool (withinB X y1 of)) ∧ Fr F0 w w'
  rw [← hr]
  clear hr ht hb hX hn
  go_enter Tryz.func77, Tryz.ntmps77
  go_wp2_with fail
  refine HWI.out.mono ?_
  rintro e w1 ⟨rfl, hf1⟩
  rw [← HR.out]
  have HF1 := Lib.hid hf1
  clear hf1
  go_wp2_with fail
  go_ret
  exact ⟨rfl, HF1.out⟩
set_option maxRecDepth 100000 in
set_option maxHeartbeats 1000000 in
theorem idxi_c (tst : Int → Bool) (tb lb : Nat) {A : Option Addr} {n c : Nat} (hl : ls.length = n) (hA : ValsAt w A (ls.map (Value.int .i64))) (hn : n ≤ 1000000) (hso : ∀ W, Fr F0 w W → ∀ x, Calls Tryz.prog 77 #[.int .i64 x, .pointer (some ⟨tb, 0, none⟩), .pointer (some ⟨lb, 0, none⟩)] W fun e w' => e = .returned (.bool (tst x)) ∧ Fr F0 W w') :
    Calls Tryz.prog 97 #[.slice A n c, .func (.func 77) #[] #[.pointer (some ⟨tb, 0, none⟩), .pointer (some ⟨lb, 0, none⟩)]] w fun e w' => e = .returned (.int .i64 (idxI (ls.findIdx? tst))) ∧ Fr F0 w w' := by
  have HL := Lib.hid hl
  have HV := Lib.hid hA
  have HSO := Lib.hid hso
  have n0 : (0 : Int) ≤ (n : Int) := Int.natCast_nonneg _
  clear hl hA hso
  go_enter Tryz.func97, Tryz.ntmps97
  go_wp2_with fail
  go_loopg [5, 8] n (fun kq x5 x8 wr => ∃ j : Nat, j ≤ n ∧ kq = n - j ∧ x8 = .int .i64 (j : Int) ∧ (∀ i y, i < j → ls[i]? = some y → tst y = false) ∧ Fr F0 w wr)
  case atStart => exact ⟨0, by omega, rfl, rfl, fun i y h => by omega, Fr.refl _ _⟩
  case round =>
    obtain ⟨j, hj, rfl, rfl, hno, hf⟩ := hrel
    have HNO := Lib.hid hno
    have HF := Lib.hid hf
    clear hno hf
    have j0 : (0 : Int) ≤ (j : Int) := Int.natCast_nonneg _
    by_cases hlt : j < n
    · have j1 : (j : Int) < (n : Int) := by omega
      have hjl : j < ls.length := by rw [HL.out]; exact hlt
      obtain ⟨y, hy⟩ : ∃ y, ls[j]? = some y := ⟨ls[j], List.getElem?_eq_getElem _⟩
      obtain ⟨b, off, rfl, hc⟩ := (HV.out.keep0 HF.out).plain (by rw [List.length_map, HL.out]; omega)
      have gx : wr.cell? ⟨b, off + j, none⟩ = some (.int .i64 y) := hc j _ (by simp [hy])
      have HY := Lib.hid hy
      clear hc hy
      go_wp2_with fail
      refine (HSO.out _ HF.out y).mono ?_
      rintro e w3 ⟨rfl, hf3⟩
      have HF3 := Lib.hid (HF.out.then0 hf3)
      clear hf3
      obtain ⟨tt, htt⟩ : ∃ tt, tt = tst y := ⟨_, rfl⟩
      have HTT := Lib.hid htt
      rw [← htt]
      clear htt
      cases tt with
      | true =>
        go_wp2_with fail
        go_ret
        refine ⟨?_, HF3.out⟩
        have : ls.findIdx? tst = some j := by
          rw [List.findIdx?_eq_some_iff_getElem]
          have hyj : ls[j] = y := by have := HY.out; rw [List.getElem?_eq_getElem hjl] at this; exact Option.some.inj this
          refine ⟨hjl, by rw [hyj, ← HTT.out], fun i hi => ?_⟩
          have := HNO.out i _ hi (List.getElem?_eq_getElem (by omega))
          simpa using this
        rw [this]; rfl
      | false =>
        go_wp2_with fail
        go_roundg (n - (j + 1))
        case measure => omega
        case rel =>
          refine ⟨j + 1, by omega, rfl, by first | rfl | (go_num), fun i z hi hz => ?_, HF3.out⟩
          by_cases hij : i < j
          · exact HNO.out i z hij hz
          · have : i = j := by omega
            subst this
            rw [HY.out] at hz
            cases hz
            exact HTT.out.symm
    · have hjn : j = n := by omega
      subst hjn
      go_wp2_with fail
      go_ret
      refine ⟨?_, HF.out⟩
      have : ls.findIdx? tst = none := by
        rw [List.findIdx?_eq_none_iff]
        intro y hy
        obtain ⟨i, hi⟩ := List.mem_iff_getElem?.1 hy
        have hil := (List.getElem?_eq_some_iff.1 hi).1
        exact HNO.out i y (by rw [← HL.out]; exact hil) hi
      rw [this]; rfl
set_option maxRecDepth 100000 in
theorem conti_c (tst : Int → Bool) (tb lb : Nat) {A : Option Addr} {n c : Nat} (hl : ls.length = n) (hA : ValsAt w A (ls.map (Value.int .i64))) (hn : n ≤ 1000000) (hso : ∀ W, Fr F0 w W → ∀ x, Calls Tryz.prog 77 #[.int .i64 x, .pointer (some ⟨tb, 0, none⟩), .pointer (some ⟨lb, 0, none⟩)] W fun e w' => e = .returned (.bool (tst x)) ∧ Fr F0 W w') :
    Calls Tryz.prog 76 #[.slice A n c, .func (.func 77) #[] #[.pointer (some ⟨tb, 0, none⟩), .pointer (some ⟨lb, 0, none⟩)]] w fun e w' => e = .returned (.bool (ls.any tst)) ∧ Fr F0 w w' := by
  have HL := Lib.hid hl
  have HV := Lib.hid hA
  have HSO := Lib.hid hso
  rw [← idx_any]
  obtain ⟨ix, hix⟩ : ∃ ix, ix = idxI (ls.findIdx? tst) := ⟨_, rfl⟩
  rw [← hix]
  have HIX := Lib.hid hix
  clear hix hl hA hso
  go_enter Tryz.func76, Tryz.ntmps76
  go_wp2_with fail
  refine (idxi_c tst tb lb HL.out HV.out hn HSO.out).mono ?_
  rintro e w1 ⟨rfl, hf1⟩
  rw [← HIX.out]
  go_wp2_with fail
  go_ret
  exact ⟨by first | rfl | simp, hf1⟩
set_option maxRecDepth 100000 in
set_option maxHeartbeats 2000000 in
theorem holds_c (a later : Wn) {A' : Option Addr} {m c' : Nat} {u : Value} (clk : Int) (hl : ls.length = m) (hA : ValsAt w A' (ls.map (Value.int .i64))) (hm : m ≤ 1000000) (hX : SlV 4 Tx9.cells w u X) (hXn : X.length ≤ 64) :
    Calls Tryz.prog 57 #[.agg #[.int .i64 a.tx, .int .i64 a.block, .int .i64 a.mode, .slice A' m c'], wnV later, .agg #[u, .int .i64 clk]] w fun e w' => e = .returned (.bool (holdsB X a ls later)) ∧ Fr F0 w w' := by
  obtain ⟨B, cb, rfl, hxr, -⟩ := hX.ex
  have HLS := Lib.hid hl
  have HV := Lib.hid hA
  have HX := Lib.hid hxr
  obtain ⟨nx, hnx⟩ : ∃ nx, nx = X.length := ⟨_, rfl⟩
  have HNX := Lib.hid hnx
  rw [← hnx]
  obtain ⟨a1, a2, a3⟩ := a
  obtain ⟨y1, y2, y3⟩ := later
  obtain ⟨W, hW⟩ : ∃ W, W = (((w.alloc (.cells #[.int .i64 a1, .int .i64 a2, .int .i64 a3, .slice A' m c'] 106)).alloc (.cells #[.int .i64 y1, .int .i64 y2, .int .i64 y3] 46)).alloc (.cells #[.slice B nx cb, .int .i64 clk] 31)) := ⟨_, rfl⟩
  have HF0 : Hid (Fr F0 w W) := Lib.hid (by rw [hW]; exact (((Fr.refl F0 w).alloc _).alloc _).alloc _)
  have H4 : Hid (W.heap[w.heap.size + 1]? = some (.cells (Wn.cells ⟨y1, y2, y3⟩).toArray 46 (0, 0))) := Lib.hid (by rw [hW]; exact keep_alloc (alloc_at (by simp) _) _)
  have H5 : Hid (W.heap[w.heap.size + 2]? = some (.cells #[.slice B nx cb, .int .i64 clk] 31 (0, 0))) := Lib.hid (by rw [hW]; exact alloc_at (by simp) _)
  have HW := Lib.hid hW
  clear hl hA hX hxr hnx hW
  show Calls Tryz.prog 57 #[.agg #[.int .i64 a1, .int .i64 a2, .int .i64 a3, .slice A' m c'], .agg #[.int .i64 y1, .int .i64 y2, .int .i64 y3], .agg #[.slice B nx cb, .int .i64 clk]] w _
  by_cases hb : a2 = y2
  · by_cases hm1 : a3 ≠ 2 ∧ y3 ≠ 2
    · have HE : Hid (holdsB X ⟨a1, a2, a3⟩ ls ⟨y1, y2, y3⟩ = false) := Lib.hid (by unfold holdsB; rw [if_pos (.inr hm1)])
      have g1 : (a2 != y2) = false := by simp [hb]
      have g2 : (a3 != 2) = true := by simp [hm1.1]
      have g3 : (y3 != 2) = true := by simp [hm1.2]
      clear hb hm1
      go_enter Tryz.func57, Tryz.ntmps57
      go_wp2_with fail
      go_ret
      exact ⟨by rw [HE.out]; rfl, by rw [← HW.out]; exact HF0.out⟩
    · have HE : Hid (holdsB X ⟨a1, a2, a3⟩ ls ⟨y1, y2, y3⟩ = !(ls.any fun of => withinB X y1 of)) := Lib.hid (by unfold holdsB; rw [if_neg (by rintro (h | h); exact h hb; exact hm1 h)])
      have g1 : (a2 != y2) = false := by simp [hb]
      have HOR : Hid (a3 = 2 ∨ y3 = 2) := Lib.hid (by omega)
      have hor : ((a3 != 2) = false) ∨ ((a3 != 2) = true ∧ (y3 != 2) = false) := by
        by_cases h : a3 = 2
        · left; simp [h]
        · right
          have h2 : y3 = 2 := HOR.out.resolve_left h
          exact ⟨by simp [h], by simp [h2]⟩
      clear hb hm1
      rcases hor with g2 | ⟨g2, g3⟩
      all_goals
        go_enter Tryz.func57, Tryz.ntmps57
        go_wp2_with fail
        rw [← HW.out]
        refine (conti_c (fun of => withinB X y1 of) (w.heap.size + 2) (w.heap.size + 1) HLS.out (HV.out.keep0 HF0.out) hm (fun W' hf x => holds1_c x ⟨y1, y2, y3⟩ _ _ HNX.out.symm (by rw [HNX.out]; exact hXn) (HX.out.keep0 (HF0.out.then0 hf)) (hf.keep0 H5.out) (hf.keep0 H4.out))).mono ?_
        rintro e w1 ⟨rfl, hf1⟩
        have HF1 := Lib.hid (HF0.out.then0 hf1)
        obtain ⟨r, hr⟩ : ∃ r, r = ls.any (fun of => withinB X y1 of) := ⟨_, rfl⟩
        have HR := Lib.hid hr
        rw [← hr]
        clear hr hf1
        go_wp2_with fail
        go_ret
        exact ⟨by rw [HE.out, ← HR.out]; first | rfl | (cases r <;> rfl), HF1.out⟩
  · have HE : Hid (holdsB X ⟨a1, a2, a3⟩ ls ⟨y1, y2, y3⟩ = false) := Lib.hid (by unfold holdsB; rw [if_pos (.inl hb)])
    have g1 : (a2 != y2) = true := by simp [hb]
    clear hb
    go_enter Tryz.func57, Tryz.ntmps57
    go_wp2_with fail
    go_ret
    exact ⟨by rw [HE.out]; rfl, by rw [← HW.out]; exact HF0.out⟩
end
end Go.Proofs.YtgbaijfgmeealaaGreat
