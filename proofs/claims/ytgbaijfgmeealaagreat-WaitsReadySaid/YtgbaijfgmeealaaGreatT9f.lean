/-
  heronry/tree: end, Commit, Abort. Conditions: none.
-/
import Derived.Test.YtgbaijfgmeealaaGreatP10c
import Derived.Test.YtgbaijfgmeealaaGreatK10q
import Derived.Test.YtgbaijfgmeealaaGreatTurnB
import Derived.Test.YtgbaijfgmeealaaGreatShelf
set_option linter.unusedVariables false
set_option linter.unusedSimpArgs false
namespace Go.Proofs.YtgbaijfgmeealaaGreat
open Go.RowKit
theorem ValsAt.plain {w : World} {A : Option Addr} {vs : List Value} (h : ValsAt w A vs) (hn : 0 < vs.length) : ∃ b off, A = some ⟨b, off, none⟩ ∧ ∀ j v, vs[j]? = some v → w.cell? ⟨b, off + j, none⟩ = some v := by
  obtain ⟨⟨b, off, sp⟩, rfl, hc⟩ := h.cells hn
  cases sp with
  | none => exact ⟨b, off, rfl, fun j v hv => by
      have h5 := hc j v hv
      have e5 : Addr.add ⟨b, off, none⟩ j = ⟨b, off + j, none⟩ := by
        unfold Addr.add
        split
        · rename_i e; rw [e]; rfl
        · rfl
      rwa [e5] at h5⟩
  | some s =>
    exfalso
    have h0 := hc 0 _ (List.getElem?_eq_getElem hn)
    unfold World.cell? Addr.add at h0
    simp at h0
    split at h0
    · simp at h0
    · cases h0
section
variable {α : Type} {m : Nat} {f : α → List Value}
/-- One cell of one element, in an own row. -/
theorem own_cell {w : World} {base g n cap : Nat} {t : TypeId} {L : List α} (hm : ∀ x, (f x).length = m) (h : w.ownsRow base t m (.slice (some ⟨g, 0, none⟩) n cap) n (L.flatMap f)) (hn : L.length = n) {i j : Nat} (hi : i < n) (hj : j < m) :
    ∃ old, w.cell? ⟨g, i * m + j, none⟩ = some old ∧ w.frozen? ⟨g, i * m + j, none⟩ = false := by
  subst hn
  obtain ⟨rest, hh, hb, h1, h2, h3⟩ := own_parts h
  have hfl := cells_flat_len f L (fun x _ => hm x)
  have him : i * m + m ≤ L.length * m := by rw [← Nat.succ_mul]; exact Nat.mul_le_mul_right m hi
  have hlt : i * m + j < (L.flatMap f ++ rest).length := by rw [List.length_append, hfl]; omega
  exact ⟨(L.flatMap f ++ rest)[i * m + j], by rw [cell_of hh, List.getElem?_toArray, List.getElem?_eq_getElem hlt], free_of hh _⟩
theorem own_put {w : World} {base g n cap : Nat} {t : TypeId} {L : List α} (hm : ∀ x, (f x).length = m) (h : w.ownsRow base t m (.slice (some ⟨g, 0, none⟩) n cap) n (L.flatMap f)) (hn : L.length = n) {i j : Nat} (hi : i < n) (hj : j < m) {x y : α} {v : Value} (hx : L[i]? = some x) (hy : f y = (f x).set j v) :
    (w.setCell ⟨g, i * m + j, none⟩ v).ownsRow base t m (.slice (some ⟨g, 0, none⟩) n cap) n ((L.set i y).flatMap f) := by
  subst hn
  obtain ⟨rest, hh, hb, h1, h2, h3⟩ := own_parts h
  have hfl := cells_flat_len f L (fun x _ => hm x)
  have hfl2 := cells_flat_len f (L.set i y) (fun x _ => hm x)
  rw [List.length_set] at hfl2
  obtain ⟨e1, l1⟩ := flat_split hm hi
  have hxi : L[i] = x := by
    rw [List.getElem?_eq_getElem hi] at hx
    exact Option.some.inj hx
  have hset : (L.flatMap f ++ rest).set (i * m + j) v = (L.set i y).flatMap f ++ rest := by
    rw [← flat_splat hm hi y rest, e1, ← l1, List.append_assoc, List.set_append_right _ _ (by omega), Nat.add_sub_cancel_left, List.append_assoc, splat_mid _ _ _ _ (by rw [hm, hm]), List.set_append_left _ _ (by rw [hm]; exact hj), hy, hxi]
  refine own_of_parts (cur := (L.set i y).flatMap f ++ rest) ?_ hb h1 h2 ?_ hfl2 ?_
  · rw [set_cell hh, ← hset]; simp
  · rw [List.length_append, hfl2]; rw [List.length_append, hfl] at h3; omega
  · rw [List.take_append_of_le_length (by omega), List.take_of_length_le (by omega)]
end
def EndE (M : List Tx9) (k : Nat) (x : Tx9) (st c : Int) : Nat → List Tx9
  | 0 => M
  | 1 => M.set k { x with state := st }
  | _ => M.set k (endT x st c)
theorem EndE_len (M : List Tx9) (k : Nat) (x : Tx9) (st c : Int) (j : Nat) : (EndE M k x st c j).length = M.length := by
  match j with
  | 0 => rfl
  | 1 => exact List.length_set
  | j + 2 => exact List.length_set
structure EndJ (base g n c1 : Nat) (M : List Tx9) (k : Nat) (x : Tx9) (st c : Int) (j : Nat) (us : Nat → Value) (w : World) : Prop where
  own : w.ownsRow base 76 4 (.slice (some ⟨g, 0, none⟩) n c1) n ((EndE M k x st c j).flatMap Tx9.cells)
theorem EndJ.keep (base g n c1 : Nat) (M : List Tx9) (k : Nat) (x : Tx9) (st c : Int) (j : Nat) (us us' : Nat → Value) (w' w'' : World) (h : EndJ base g n c1 M k x st c j us w') (hd : ∀ d ∈ ([] : List Nat), us' d = us d) (hf : Fr F0 w' w'') : EndJ base g n c1 M k x st c j us' w'' := ⟨own_keep0 h.own hf⟩
theorem EndJ.step0 {base g n c1 : Nat} {M : List Tx9} {k : Nat} {x : Tx9} {st c : Int} {us us' : Nat → Value} {w : World} (hM : M.length = n) (hk : k < n) (hx : M[k]? = some x) (h : EndJ base g n c1 M k x st c 0 us w) : EndJ base g n c1 M k x st c 1 us' (w.setCell ⟨g, k * 4 + 1, none⟩ (.int .i64 st)) :=
  ⟨own_put Tx9.len h.own hM hk (by decide) hx rfl⟩
theorem EndJ.step1 {base g n c1 : Nat} {M : List Tx9} {k : Nat} {x : Tx9} {st c : Int} {us us' : Nat → Value} {w : World} (hM : M.length = n) (hk : k < n) (hx : M[k]? = some x) (h : EndJ base g n c1 M k x st c 1 us w) : EndJ base g n c1 M k x st c 2 us' (w.setCell ⟨g, k * 4 + 3, none⟩ (.int .i64 c)) :=
  ⟨by
    have h0 : w.ownsRow base 76 4 (.slice (some ⟨g, 0, none⟩) n c1) n ((M.set k { x with state := st }).flatMap Tx9.cells) := h.own
    have h1 := own_put Tx9.len h0 (by rw [List.length_set]; exact hM) hk (show 3 < 4 by decide) (x := { x with state := st }) (y := endT x st c) (v := .int .i64 c) (by rw [List.getElem?_set_self (by omega)]) rfl
    rw [List.set_set] at h1
    exact h1⟩
theorem ints_beq (xs : List Int) (y : Int) : (xs == [y]) = decide (xs = [y]) := Bool.eq_iff_iff.2 (by simp)
section
variable {w : World} {v : Value} {L : List Tx9}
set_option maxRecDepth 100000 in
theorem eq1_c {A : Option Addr} {n c : Nat} {xs : List Int} {b : Nat} {y : Int} (hl : xs.length = n) (hA : ValsAt w A (xs.map (Value.int .i64))) (hn : n ≤ 1000) (hb : w.heap[b]? = some (.cells #[.int .i64 y] 3 (0, 0))) :
    Calls Tryz.prog 71 #[.slice A n c, .slice (some ⟨b, 0, none⟩) 1 1] w fun e w' => e = .returned (.bool (decide (xs = [y]))) ∧ Fr F0 w w' := by
  by_cases h0 : n = 0
  · subst h0
    refine (Tryz.slices_Equal_int_empty A (some ⟨b, 0, none⟩) c 1 1 w (by decide)).mono ?_
    rintro e w' ⟨rfl, rfl⟩
    refine ⟨?_, Fr.refl _ _⟩
    have : xs = [] := List.eq_nil_of_length_eq_zero hl
    subst this
    simp
  · obtain ⟨b1, o1, rfl, hc⟩ := hA.plain (by rw [List.length_map]; omega)
    refine (Tryz.slices_Equal_int b1 o1 n c b 0 1 1 xs [y] w (by omega) (by simp) (by omega) (by decide) (fun j hj => ?_) (fun j hj => ?_)).mono ?_
    · exact hc j _ (by rw [List.getElem?_map, List.getElem?_eq_getElem hj, List.getD_eq_getElem?_getD, List.getElem?_eq_getElem hj]; rfl)
    · have : j = 0 := by simp at hj; omega
      subst this
      rw [cell_of hb]; rfl
    · rintro e w' ⟨rfl, q, rfl⟩
      refine ⟨?_, (Fr.refl F0 w).drewN q⟩
      rw [← hl, List.take_length]
      show Ending.returned (.bool (xs == [y])) = _
      rw [ints_beq]
set_option maxRecDepth 100000 in
set_option maxHeartbeats 4000000 in
theorem end_c {A' : Option Addr} {m c' : Nat} {ids : List Int} (clk st : Int) (h : SlV 4 Tx9.cells w v L) (hn : L.length ≤ 1000) (c0 : 0 ≤ clk) (c1' : clk < 2 ^ 62) (hl : ids.length = m) (hA : ValsAt w A' (ids.map (Value.int .i64))) (hm : m ≤ 1000) (hid : ∀ k ∈ ids, isId L k = true) :
    Calls Tryz.prog 49 #[.agg #[v, .int .i64 clk], .slice A' m c', .int .i64 st] w fun e w' => ∃ v', e = .returned (.agg #[v', .int .i64 (clk + 1)]) ∧ SlV 4 Tx9.cells w' v' (endL L ids st (clk + 1)) ∧ Fr F0 w w' := by
  have HS := Lib.hid h
  have HV := Lib.hid hA
  have HLI := Lib.hid hl
  have HID := Lib.hid hid
  obtain ⟨A, c, rfl, -⟩ := h.ex
  obtain ⟨W, hW⟩ : ∃ W, W = ((w.alloc (.cells #[.slice A L.length c, .int .i64 clk] 31)).alloc (.cells #[.slice none 0 0, .int .i64 0] 31)) := ⟨_, rfl⟩
  have HT : Hid (W.heap[w.heap.size]? = some (.cells #[.slice A L.length c, .int .i64 clk] 31 (0, 0))) := Lib.hid (by rw [hW]; exact keep_alloc (alloc_at rfl _) _)
  have HR : Hid (W.heap[w.heap.size + 1]? = some (.cells #[.slice none 0 0, .int .i64 0] 31 (0, 0))) := Lib.hid (by rw [hW]; exact alloc_at (by simp) _)
  have HF0 : Hid (Fr F0 w W) := Lib.hid (by rw [hW]; exact ((Fr.refl F0 w).alloc _).alloc _)
  have HSZ : Hid (W.heap.size = w.heap.size + 2) := Lib.hid (by rw [hW]; simp)
  have HW := Lib.hid hW
  have m0 : (0 : Int) ≤ (m : Int) := Int.natCast_nonneg _
  clear h hA hl hid hW
  go_enter Tryz.func49, Tryz.ntmps49
  go_wp2_with fail
  rw [← HW.out]
  refine (tick_c (v := .slice A L.length c) (L := L) clk (HS.out.keep0 HF0.out) hn c0 c1').mono ?_
  rintro e w1 ⟨u, rfl, hown, hf1⟩
  obtain ⟨A1, c1, rfl, -⟩ := SrAt.of_own Tx9.len hown
  obtain ⟨n, hnn⟩ : ∃ n, n = L.length := ⟨_, rfl⟩
  have HN := Lib.hid hnn
  rw [← hnn] at hown HT ⊢
  obtain ⟨base, hbase⟩ : ∃ base, base = W.heap.size := ⟨_, rfl⟩
  rw [← hbase] at hown
  have hbw : w.heap.size + 2 = base := by rw [hbase, HSZ.out]
  have HT1 := Lib.hid (hf1.keep0 HT.out)
  have HR1 := Lib.hid (hf1.keep0 HR.out)
  have HO1 := Lib.hid hown
  have HF1 := Lib.hid (HF0.out.then0 hf1)
  clear hown hf1 hnn hbase HW
  go_wp2_with (refine wpList_store_at rfl 31 (.tmp 3) (.tmp 10) rfl w.heap.size 0 [.slice A1 n c1, .int .i64 (clk + 1)] (by rfl) (by rfl) 31 [.slice A n c, .int .i64 clk] HT1.out size_tree (Nat.le_refl 2) (tree_one _ _ _ _) ?_)
  obtain ⟨hb2, hf2⟩ := tree_box (v' := .slice A1 n c1) (clk' := clk + 1) rfl HT1.out
  have HB2 := Lib.hid hb2
  have HR2 := Lib.hid (hf2.keep HR1.out (by omega))
  have HO2 := Lib.hid (own_keep HO1.out hf2 (fun k hk e => by have := own_ge HO1.out hk; omega))
  have HF2 := Lib.hid (HF1.out.trans hf2 (fun k hk => .inr (by omega)))
  clear hb2 hf2 HT1 HO1 HF1 HR1
  generalize (w1.setRow w.heap.size (splat [.slice A n c, .int .i64 clk] 0 [.slice A1 n c1, .int .i64 (clk + 1)]).toArray) = w2 at *
  have HL0 : Hid (endL L (ids.take 0) st (clk + 1) = L) := Lib.hid (by rw [List.take_zero, endL_nil])
  go_loopg [8, 13] m (fun kq x8 x13 wr => ∃ j : Nat, j ≤ m ∧ kq = m - j ∧ x13 = .int .i64 (j : Int) ∧ wr.ownsRow base 76 4 (.slice A1 n c1) n ((endL L (ids.take j) st (clk + 1)).flatMap Tx9.cells) ∧ wr.heap[w.heap.size]? = some (.cells #[.slice A1 n c1, .int .i64 (clk + 1)] 31 (0, 0)) ∧ wr.heap[w.heap.size + 1]? = some (.cells #[.slice none 0 0, .int .i64 0] 31 (0, 0)) ∧ Fr F0 w wr)
  case atStart => exact ⟨0, by omega, rfl, rfl, by rw [HL0.out]; exact HO2.out, HB2.out, HR2.out, HF2.out⟩
  case round =>
    obtain ⟨j, hj, rfl, rfl, hown, hb, hr, hf⟩ := hrel
    have HO := Lib.hid hown
    have HB := Lib.hid hb
    have HR := Lib.hid hr
    have HF := Lib.hid hf
    clear hown hb hr hf HB2 HR2 HO2 HF2 HT HL0
    have j0 : (0 : Int) ≤ (j : Int) := Int.natCast_nonneg _
    by_cases hlt : j < m
    · have j1 : (j : Int) < (m : Int) := by omega
      obtain ⟨y, hy⟩ : ∃ y, ids[j]? = some y := ⟨ids[j]'(by rw [HLI.out]; exact hlt), List.getElem?_eq_getElem _⟩
      obtain ⟨ad, rfl, hc⟩ := (HV.out.keep0 HF.out).cells (by rw [List.length_map, HLI.out]; omega)
      have gx : wr.cell? (ad.add j) = some (.int .i64 y) := hc j _ (by simp [hy])
      have hyi := isId_iff.1 (HID.out y (List.mem_of_getElem? hy))
      obtain ⟨k, rfl⟩ : ∃ k : Nat, y = (k : Int) := ⟨y.toNat, by omega⟩
      have hkn : k < n := by have := HN.out; omega
      have k0 : (0 : Int) ≤ (k : Int) := Int.natCast_nonneg _
      have k1 : (k : Int) < (n : Int) := by omega
      have HY := Lib.hid hy
      obtain ⟨M, hM⟩ : ∃ M, M = endL L (ids.take j) st (clk + 1) := ⟨_, rfl⟩
      have HML := Lib.hid hM
      have HMN : Hid (M.length = n) := Lib.hid (by rw [hM, endL_len, HN.out])
      obtain ⟨x, hx⟩ : ∃ x, M[k]? = some x := ⟨M[k]'(by rw [HMN.out]; exact hkn), List.getElem?_eq_getElem _⟩
      have HX := Lib.hid hx
      have HSTEP : Hid (endL L (ids.take (j + 1)) st (clk + 1) = M.set k (endT x st (clk + 1))) := Lib.hid (by
        rw [List.take_add_one, hy]
        show endL L (ids.take j ++ [(k : Int)]) st (clk + 1) = _
        rw [hM]
        exact endL_step L (ids.take j) st (clk + 1) (by rw [← hM]; exact hx))
      rw [← hM] at HO
      obtain ⟨g, rfl⟩ : ∃ g, A1 = some ⟨g, 0, none⟩ := by
        rcases HO.out.2 with ⟨e, h0⟩ | ⟨g, cap, cur, e, -⟩
        · exfalso; omega
        · cases e; exact ⟨g, rfl⟩
      have HKN : Hid (k < n) := Lib.hid hkn
      have hgb := own_ge HO.out (k := g) rfl
      have HGB : Hid (w.heap.size ≠ g) := Lib.hid (by omega)
      have HGR : Hid (w.heap.size + 1 ≠ g) := Lib.hid (by omega)
      have HGW : Hid (w.heap.size ≤ g) := Lib.hid (by omega)
      have HJ0 : Hid (∀ us, EndJ base g n c1 M k x st (clk + 1) 0 us wr) := Lib.hid (fun us => ⟨HO.out⟩)
      clear hc hy hyi hM hx hgb hkn
      go_wp2_with fail
      refine wp_region_turn (S := (fun b => b = g)) [false, false, false, false, false, false, false, false, false, false, false, false, false, false, false, false, false, true, true, true, true, true, true, true, true, true, true, true, true, true, false, false] [.eq (.pointer (some ⟨w.heap.size, 0, none⟩)), .eq (.slice (some ⟨g, 0, none⟩) n c1), .eq (.int .i64 (k : Int)), .eq (.pointer (some ⟨w.heap.size, 0, none⟩)), .eq (.slice (some ⟨g, 0, none⟩) n c1), .eq (.int .i64 (k : Int)), .eq (.int .i64 st), .eq (.pointer (some ⟨w.heap.size, 1, none⟩)), .eq (.int .i64 (clk + 1)), .eq (.pointer (some ⟨g, k * 4, none⟩)), .eq (.pointer (some ⟨g, k * 4 + 1, none⟩)), .any, .eq (.pointer (some ⟨g, k * 4, none⟩)), .eq (.pointer (some ⟨g, k * 4 + 3, none⟩)), .any] (EndJ base g n c1 M k x st (clk + 1)) [none, none, none, none, none, none, none, none, none, none, none, some 0, none, none, some 1] [] 2 (by kernel_rfl) (by kernel_rfl) (by rfl) (by kernel_rfl) ?hJ ?hJ0 (fun us => ?steps) (fun us wz hG hJ hall => ?fin)
      case hJ =>
        exact EndJ.keep _ _ _ _ _ _ _ _ _
      case hJ0 =>
        exact HJ0.out _
      case steps =>
        simp only [fillL, Nat.reduceAdd]
        refine stepsTurn.cons (fun wx hG hd K hK => ?_) ?_
        · rw [if_pos (wanted_none rfl)]
          refine wp_value (w2 := wx) (v := .pointer (some ⟨w.heap.size, 0, none⟩)) ?_ (hK _ _ rfl (Fr.refl _ _))
          clear hd hG hK
          go_simp
        refine stepsTurn.cons (fun wx hG hd K hK => ?_) ?_
        · have h17 : us 17 = (.pointer (some ⟨w.heap.size, 0, none⟩)) := deps_get hd 0 rfl rfl rfl rfl rfl
          rw [if_pos (wanted_none rfl)]
          have hc : wx.cell? ⟨w.heap.size, 0, none⟩ = some (.slice (some ⟨g, 0, none⟩) n c1) := by rw [cell_of (hG.keep HB.out HGB.out)]; rfl
          refine wp_value (w2 := wx) (v := .slice (some ⟨g, 0, none⟩) n c1) ?_ (hK _ _ rfl (Fr.refl _ _))
          clear hd hK
          go_simp
        refine stepsTurn.cons (fun wx hG hd K hK => ?_) ?_
        · rw [if_pos (wanted_none rfl)]
          refine wp_value (w2 := wx) (v := .int .i64 (k : Int)) ?_ (hK _ _ rfl (Fr.refl _ _))
          clear hd hG hK
          go_simp
        refine stepsTurn.cons (fun wx hG hd K hK => ?_) ?_
        · rw [if_pos (wanted_none rfl)]
          refine wp_value (w2 := wx) (v := .pointer (some ⟨w.heap.size, 0, none⟩)) ?_ (hK _ _ rfl (Fr.refl _ _))
          clear hd hG hK
          go_simp
        refine stepsTurn.cons (fun wx hG hd K hK => ?_) ?_
        · have h20 : us 20 = (.pointer (some ⟨w.heap.size, 0, none⟩)) := deps_get hd 0 rfl rfl rfl rfl rfl
          rw [if_pos (wanted_none rfl)]
          have hc : wx.cell? ⟨w.heap.size, 0, none⟩ = some (.slice (some ⟨g, 0, none⟩) n c1) := by rw [cell_of (hG.keep HB.out HGB.out)]; rfl
          refine wp_value (w2 := wx) (v := .slice (some ⟨g, 0, none⟩) n c1) ?_ (hK _ _ rfl (Fr.refl _ _))
          clear hd hK
          go_simp
        refine stepsTurn.cons (fun wx hG hd K hK => ?_) ?_
        · rw [if_pos (wanted_none rfl)]
          refine wp_value (w2 := wx) (v := .int .i64 (k : Int)) ?_ (hK _ _ rfl (Fr.refl _ _))
          clear hd hG hK
          go_simp
        refine stepsTurn.cons (fun wx hG hd K hK => ?_) ?_
        · rw [if_pos (wanted_none rfl)]
          refine wp_value (w2 := wx) (v := .int .i64 st) ?_ (hK _ _ rfl (Fr.refl _ _))
          clear hd hG hK
          go_simp
        refine stepsTurn.cons (fun wx hG hd K hK => ?_) ?_
        · rw [if_pos (wanted_none rfl)]
          refine wp_value (w2 := wx) (v := .pointer (some ⟨w.heap.size, 1, none⟩)) ?_ (hK _ _ rfl (Fr.refl _ _))
          clear hd hG hK
          go_simp
        refine stepsTurn.cons (fun wx hG hd K hK => ?_) ?_
        · have h24 : us 24 = (.pointer (some ⟨w.heap.size, 1, none⟩)) := deps_get hd 0 rfl rfl rfl rfl rfl
          rw [if_pos (wanted_none rfl)]
          have hc : wx.cell? ⟨w.heap.size, 1, none⟩ = some (.int .i64 (clk + 1)) := by rw [cell_of (hG.keep HB.out HGB.out)]; rfl
          refine wp_value (w2 := wx) (v := .int .i64 (clk + 1)) ?_ (hK _ _ rfl (Fr.refl _ _))
          clear hd hK
          go_simp
        refine stepsTurn.cons (fun wx hG hd K hK => ?_) ?_
        · have h18 : us 18 = (.slice (some ⟨g, 0, none⟩) n c1) := deps_get hd 0 rfl rfl rfl rfl rfl
          have h19 : us 19 = (.int .i64 (k : Int)) := deps_get hd 1 rfl rfl rfl rfl rfl
          rw [if_pos (wanted_none rfl)]
          refine wp_value (w2 := wx) (v := .pointer (some ⟨g, k * 4, none⟩)) ?_ (hK _ _ rfl (Fr.refl _ _))
          clear hd hG hK
          go_simp
        refine stepsTurn.cons (fun wx hG hd K hK => ?_) ?_
        · have h26 : us 26 = (.pointer (some ⟨g, k * 4, none⟩)) := deps_get hd 0 rfl rfl rfl rfl rfl
          rw [if_pos (wanted_none rfl)]
          refine wp_value (w2 := wx) (v := .pointer (some ⟨g, k * 4 + 1, none⟩)) ?_ (hK _ _ rfl (Fr.refl _ _))
          clear hd hG hK
          go_simp
        refine stepsTurn.cons (fun wx hG hJ hd K hK => ?_) ?_
        · have h27 : us 27 = (.pointer (some ⟨g, k * 4 + 1, none⟩)) := deps_get hd 0 rfl rfl rfl rfl rfl
          have h23 : us 23 = (.int .i64 st) := deps_get hd 1 rfl rfl rfl rfl rfl
          rw [if_pos (wanted_none rfl)]
          have hown := hJ.own
          obtain ⟨old, e1, e2⟩ := own_cell Tx9.len hown (by rw [EndE_len]; exact HMN.out) HKN.out (show 1 < 4 by decide)
          refine wp_skip (w2 := wx.setCell ⟨g, k * 4 + 1, none⟩ (.int .i64 st)) ?_ (hK undef _ trivial ((Fr.refl _ _).setCell (by exact .inl rfl) _) (EndJ.step0 HMN.out HKN.out HX.out hJ))
          clear hd hG hK hJ hown
          go_simp
        refine stepsTurn.cons (fun wx hG hd K hK => ?_) ?_
        · have h21 : us 21 = (.slice (some ⟨g, 0, none⟩) n c1) := deps_get hd 0 rfl rfl rfl rfl rfl
          have h22 : us 22 = (.int .i64 (k : Int)) := deps_get hd 1 rfl rfl rfl rfl rfl
          rw [if_pos (wanted_none rfl)]
          refine wp_value (w2 := wx) (v := .pointer (some ⟨g, k * 4, none⟩)) ?_ (hK _ _ rfl (Fr.refl _ _))
          clear hd hG hK
          go_simp
        refine stepsTurn.cons (fun wx hG hd K hK => ?_) ?_
        · have h28 : us 28 = (.pointer (some ⟨g, k * 4, none⟩)) := deps_get hd 0 rfl rfl rfl rfl rfl
          rw [if_pos (wanted_none rfl)]
          refine wp_value (w2 := wx) (v := .pointer (some ⟨g, k * 4 + 3, none⟩)) ?_ (hK _ _ rfl (Fr.refl _ _))
          clear hd hG hK
          go_simp
        refine stepsTurn.cons (fun wx hG hJ hd K hK => ?_) ?_
        · have h29 : us 29 = (.pointer (some ⟨g, k * 4 + 3, none⟩)) := deps_get hd 0 rfl rfl rfl rfl rfl
          have h25 : us 25 = (.int .i64 (clk + 1)) := deps_get hd 1 rfl rfl rfl rfl rfl
          rw [if_pos (wanted_none rfl)]
          have hown := hJ.own
          obtain ⟨old, e1, e2⟩ := own_cell Tx9.len hown (by rw [EndE_len]; exact HMN.out) HKN.out (show 3 < 4 by decide)
          refine wp_skip (w2 := wx.setCell ⟨g, k * 4 + 3, none⟩ (.int .i64 (clk + 1))) ?_ (hK undef _ trivial ((Fr.refl _ _).setCell (by exact .inl rfl) _) (EndJ.step1 HMN.out HKN.out HX.out hJ))
          clear hd hG hK hJ hown
          go_simp
        exact stepsTurn.nil
      case fin =>
        have h17 : us 17 = (.pointer (some ⟨w.heap.size, 0, none⟩)) := all_get hall 0 rfl rfl rfl
        have h18 : us 18 = (.slice (some ⟨g, 0, none⟩) n c1) := all_get hall 1 rfl rfl rfl
        have h19 : us 19 = (.int .i64 (k : Int)) := all_get hall 2 rfl rfl rfl
        have h20 : us 20 = (.pointer (some ⟨w.heap.size, 0, none⟩)) := all_get hall 3 rfl rfl rfl
        have h21 : us 21 = (.slice (some ⟨g, 0, none⟩) n c1) := all_get hall 4 rfl rfl rfl
        have h22 : us 22 = (.int .i64 (k : Int)) := all_get hall 5 rfl rfl rfl
        have h23 : us 23 = (.int .i64 st) := all_get hall 6 rfl rfl rfl
        have h24 : us 24 = (.pointer (some ⟨w.heap.size, 1, none⟩)) := all_get hall 7 rfl rfl rfl
        have h25 : us 25 = (.int .i64 (clk + 1)) := all_get hall 8 rfl rfl rfl
        have h26 : us 26 = (.pointer (some ⟨g, k * 4, none⟩)) := all_get hall 9 rfl rfl rfl
        have h27 : us 27 = (.pointer (some ⟨g, k * 4 + 1, none⟩)) := all_get hall 10 rfl rfl rfl
        have h28 : us 28 = (.pointer (some ⟨g, k * 4, none⟩)) := all_get hall 12 rfl rfl rfl
        have h29 : us 29 = (.pointer (some ⟨g, k * 4 + 3, none⟩)) := all_get hall 13 rfl rfl rfl
        simp only [fillL, Nat.reduceAdd]
        clear hall
        simp only [h17, h18, h19, h20, h21, h22, h23, h24, h25, h26, h27, h28, h29]
        clear h17 h18 h19 h20 h21 h22 h23 h24 h25 h26 h27 h28 h29
        have hown2 := hJ.own
        have HO2 : Hid (wz.ownsRow base 76 4 (.slice (some ⟨g, 0, none⟩) n c1) n ((endL L (ids.take (j + 1)) st (clk + 1)).flatMap Tx9.cells)) := Lib.hid (by rw [HSTEP.out]; exact hown2)
        have HB2 := Lib.hid (hG.keep HB.out HGB.out)
        have HR2 := Lib.hid (hG.keep HR.out HGR.out)
        have HF2 := Lib.hid (HF.out.trans hG (fun q hq => .inr (by rw [hq]; exact HGW.out)))
        clear hJ hown2 hG
        go_wp2_with fail
        go_roundg (m - (j + 1))
        case measure => omega
        case rel => exact ⟨j + 1, by omega, rfl, by first | rfl | (go_num), HO2.out, HB2.out, HR2.out, HF2.out⟩
    · have hjm : j = m := by omega
      subst hjm
      have q0 : wr.cell? ⟨w.heap.size, 0, none⟩ = some (.slice A1 n c1) := by rw [cell_of HB.out]; rfl
      have q1 : wr.cell? ⟨w.heap.size, 1, none⟩ = some (.int .i64 (clk + 1)) := by rw [cell_of HB.out]; rfl
      have HO2 : Hid (wr.ownsRow base 76 4 (.slice A1 n c1) n ((endL L ids st (clk + 1)).flatMap Tx9.cells)) := Lib.hid (by have h := HO.out; rwa [← HLI.out, List.take_length] at h)
      go_wp2_with (refine wpList_store_at rfl 31 (.tmp 6) (.tmp 31) rfl (w.heap.size + 1) 0 [.slice A1 n c1, .int .i64 (clk + 1)] (by rfl) (by rfl) 31 [.slice none 0 0, .int .i64 0] HR.out size_tree (Nat.le_refl 2) (tree_one _ _ _ _) ?_)
      obtain ⟨hb3, hf3⟩ := tree_box (v' := .slice A1 n c1) (clk' := clk + 1) rfl HR.out
      refine tree_ret rfl (by rfl) rfl hb3 ⟨_, rfl, ?_, HF.out.trans hf3 (fun k hk => .inr (by omega))⟩
      have h9 := own_keep HO2.out hf3 (fun k hk e => by have := own_ge HO2.out hk; omega)
      have h10 : n = (endL L ids st (clk + 1)).length := by rw [endL_len, HN.out]
      rw [h10] at h9 ⊢
      exact SlV.of_own Tx9.len h9
end
end Go.Proofs.YtgbaijfgmeealaaGreat
