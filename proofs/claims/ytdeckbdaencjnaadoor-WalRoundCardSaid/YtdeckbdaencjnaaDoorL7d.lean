/-
  heronrylaw07: theirs; heronryref07: Same. Conditions: none.
-/
import Derived.Test.YtdeckbdaencjnaaDoorL7b
import Derived.Test.YtdeckbdaencjnaaDoorRowC
import Derived.Test.YtdeckbdaencjnaaDoorTurn
set_option linter.unusedVariables false
set_option linter.unusedSimpArgs false
namespace Go.Proofs.YtdeckbdaencjnaaDoor
open Go.RowKit
abbrev OwnRefs (w : World) (base : Nat) (v : Value) (l : List (Int × List Int)) : Prop := OwnRowC recHead (fun x => x.2) 1 134 w base v l
theorem und_rrecs : Tryd.prog.underlying 81 = some (.slice 134) := Tryd.underlying81
theorem info_rrec : (Tryd.prog.info? 134).map (fun i => (i.zero, i.size, i.bytes)) = some (some (.agg #[.int .i64 0, .slice none 0 0]), 2, 32) := by kernel_rfl
section
variable {w : World}
set_option maxRecDepth 100000 in
set_option maxHeartbeats 4000000 in
theorem theirs7_c (A : Option Addr) (n c : Nat) (l : List (Int × List Int)) (hA : RecsAt w A l) (hl : l.length = n) (hn : n ≤ 1000000) :
    Calls Tryd.prog 49 #[.slice A n c] w fun e w' => ∃ v, e = .returned v ∧ OwnRefs w' w.heap.size v l ∧ Fr F0 w w' := by
  have HA := Lib.hid hA
  have HL := Lib.hid hl
  clear hA hl
  have n0 : (0 : Int) ≤ (n : Int) := Int.natCast_nonneg _
  go_enter Tryd.func49, Tryd.ntmps49
  go_wp2_with fail
  go_loopg [3, 4] n (fun kq x3 x4 wr => ∃ j : Nat, j ≤ n ∧ kq = n - j ∧ x4 = .int .i64 (j : Int) ∧ OwnRefs wr w.heap.size x3 (l.take j) ∧ Fr F0 w wr)
  case atStart => exact ⟨0, by omega, rfl, rfl, OwnRowC.nil _ _, Fr.refl _ _⟩
  case round =>
    obtain ⟨j, hj, rfl, rfl, hown, hf⟩ := hrel
    by_cases hlt : j < n
    · have j0 : (0 : Int) ≤ (j : Int) := Int.natCast_nonneg _
      have j1 : (j : Int) < (n : Int) := by omega
      obtain ⟨x, hx⟩ : ∃ x, l[j]? = some x := ⟨l[j]'(by rw [HL.out]; exact hlt), List.getElem?_eq_getElem _⟩
      obtain ⟨b, off, B, cB, rfl, h1, h2, h3, h4⟩ := (HA.out.keep0 hf).row j x hx
      have k0 : wr.cell? ⟨b, off + j * 2, none⟩ = some (.int .i64 x.1) := h1 0 _ rfl
      have k1 : wr.cell? ⟨b, off + j * 2 + 1, none⟩ = some (.slice B x.2.length cB) := h2
      have hBb : ∀ ad, B = some ad → 0 < x.2.length → ad.block < w.heap.size := by
        intro ad e hp
        obtain ⟨b', off', B', cB', e', g1, g2, g3, g4⟩ := HA.out.row j x hx
        cases e'
        have g2' : w.cell? ⟨b, off + j * 2 + 1, none⟩ = some (.slice B' x.2.length cB') := g2
        have hk : wr.cell? ⟨b, off + j * 2 + 1, none⟩ = some (.slice B' x.2.length cB') := (World.cell?_of_block (w := w) (hf.block _ (World.block_lt_of_cell? w _ g2') (fun h => h))).trans g2'
        rw [k1] at hk
        cases hk
        subst e
        exact g3.at_.lt hp
      have hap : ∀ ad, B = some ad → 0 < x.2.length → u3.ownBlock ≠ some ad.block := by
        intro ad e hp h
        have h5 := hown.base_le _ h
        have h6 := hBb ad e hp
        omega
      have HX := Lib.hid hx
      have HO := Lib.hid hown
      have HF := Lib.hid hf
      have HB := Lib.hid h3
      have HY := Lib.hid h4
      have HAP := Lib.hid hap
      have hlen : (l.take j).length = j := by rw [List.length_take, HL.out]; omega
      have HLEN := Lib.hid hlen
      have hsz := hf.size
      have HS : Hid (∀ k, wr.heap.size ≤ k → ¬ u3.ownBlock = some k) := Lib.hid (fun k hk h => by have := hown.lt k h; omega)
      have hbs : ¬ u3.ownBlock = some b := fun h => by
        have h5 := hown.base_le _ h
        obtain ⟨b', off', B', cB', e', g1, g2, g3, g4⟩ := HA.out.row j x hx
        cases e'
        have := World.block_lt_of_cell? w _ (g1 0 _ rfl)
        have h6 : b < w.heap.size := this
        omega
      have kc : ∀ (q : Nat) (u : Value), wr.cell? ⟨b, q, none⟩ = some u → ∀ wx, Fr (fun k => u3.ownBlock = some k) wr wx → wx.cell? ⟨b, q, none⟩ = some u := fun q u h wx hG => (World.cell?_of_block (w := wr) (hG.block _ (World.block_lt_of_cell? wr _ h) hbs)).trans h
      have kc0 := kc _ _ k0
      have kc1 := kc _ _ k1
      clear hx hown hf h1 h2 h3 h4 hap hlen hBb k0 k1 kc hbs
      go_wp2_with fail
      refine wp_region_turn2 (S := (fun k => u3.ownBlock = some k)) [false, false, false, true, false, false, false, false, false, false, false, true, true, true, true, true, true, true, true, true, true, true, true, true, true, false] [.eq (u3), .eq (.slice (some ⟨b, off, none⟩) n c), .eq (.int .i64 (j : Int)), .eq (.pointer (some ⟨b, off + j * 2, none⟩)), .eq (.pointer (some ⟨b, off + j * 2, none⟩)), .eq (.int .i64 x.1), .eq (.slice (some ⟨b, off, none⟩) n c), .eq (.int .i64 (j : Int)), .eq (.pointer (some ⟨b, off + j * 2, none⟩)), .eq (.pointer (some ⟨b, off + j * 2 + 1, none⟩)), .eq (.slice B x.2.length cB), .eq (.agg #[.int .i64 x.1, .slice B x.2.length cB]), ⟨fun v w1 => ∃ g, v = .slice (some ⟨g, 0, none⟩) 1 1 ∧ wr.heap.size ≤ g ∧ w1.heap[g]? = some (.cells (elB recHead (fun x : Int × List Int => x.2) (x, (B, cB))).toArray 134 (0, 0)), fun v w1 w2 ⟨g, h1, h2, h3⟩ hf => ⟨g, h1, h2, hf.keep h3 (HS.out g h2)⟩⟩, .any, .any] (AppCJ recHead (fun x : Int × List Int => x.2) 1 134 w.heap.size u3 (l.take j) [x] 24 3) [none, none, none, none, none, none, none, none, none, none, none, none, none, some 0, some 1] [0, 0, 0, 0, 0, 0, 0, 0, 0, 0, 0, 0, 0, 1, 2] [24, 3] 2 (by kernel_rfl) (by kernel_rfl) (by rfl) (by kernel_rfl) (by kernel_rfl) ?hJ ?hJ0 (fun us => ?steps) (fun us wr hG hJ hall => ?fin)
      case hJ =>
        exact AppCJ.keep
      case hJ0 =>
        exact ⟨HO.out, rfl⟩
      case steps =>
        simp only [fillL, Nat.reduceAdd]
        refine stepsTurn2.cons (fun wx kk hG hkk hJ hd K hK => ?_) ?_
        · -- no edge to slot 3
          obtain rfl : kk = 0 := Nat.le_zero.1 hkk
          rw [if_pos (wanted_none rfl)]
          refine wp_value (w2 := wx) (v := u3) ?_ (hK _ _ rfl (Fr.refl _ _))
          have h3 : us 3 = u3 := hJ.2
          clear hd hK hG hJ
          go_simp
          try exact h3
        refine stepsTurn2.cons (fun wx kk hG hkk hJ hd K hK => ?_) ?_
        · obtain rfl : kk = 0 := Nat.le_zero.1 hkk
          rw [if_pos (wanted_none rfl)]
          refine wp_value (w2 := wx) (v := .slice (some ⟨b, off, none⟩) n c) ?_ (hK _ _ rfl (Fr.refl _ _))
          clear hd hG hK hJ
          go_simp
        refine stepsTurn2.cons (fun wx kk hG hkk hJ hd K hK => ?_) ?_
        · obtain rfl : kk = 0 := Nat.le_zero.1 hkk
          rw [if_pos (wanted_none rfl)]
          refine wp_value (w2 := wx) (v := .int .i64 (j : Int)) ?_ (hK _ _ rfl (Fr.refl _ _))
          clear hd hG hK hJ
          go_simp
        refine stepsTurn2.cons (fun wx kk hG hkk hJ hd K hK => ?_) ?_
        · have h12 : us 12 = (.slice (some ⟨b, off, none⟩) n c) := deps_get hd 0 rfl rfl rfl rfl rfl
          have h13 : us 13 = (.int .i64 (j : Int)) := deps_get hd 1 rfl rfl rfl rfl rfl
          obtain rfl : kk = 0 := Nat.le_zero.1 hkk
          rw [if_pos (wanted_none rfl)]
          refine wp_value (w2 := wx) (v := .pointer (some ⟨b, off + j * 2, none⟩)) ?_ (hK _ _ rfl (Fr.refl _ _))
          clear hd hG hK hJ
          go_simp
        refine stepsTurn2.cons (fun wx kk hG hkk hJ hd K hK => ?_) ?_
        · have h14 : us 14 = (.pointer (some ⟨b, off + j * 2, none⟩)) := deps_get hd 0 rfl rfl rfl rfl rfl
          obtain rfl : kk = 0 := Nat.le_zero.1 hkk
          rw [if_pos (wanted_none rfl)]
          refine wp_value (w2 := wx) (v := .pointer (some ⟨b, off + j * 2, none⟩)) ?_ (hK _ _ rfl (Fr.refl _ _))
          clear hd hG hK hJ
          go_simp
        refine stepsTurn2.cons (fun wx kk hG hkk hJ hd K hK => ?_) ?_
        · have h15 : us 15 = (.pointer (some ⟨b, off + j * 2, none⟩)) := deps_get hd 0 rfl rfl rfl rfl rfl
          obtain rfl : kk = 0 := Nat.le_zero.1 hkk
          rw [if_pos (wanted_none rfl)]
          have hc := kc0 wx hG
          clear hJ
          refine wp_value (w2 := wx) (v := .int .i64 x.1) ?_ (hK _ _ rfl (Fr.refl _ _))
          clear hd hK
          go_simp
        refine stepsTurn2.cons (fun wx kk hG hkk hJ hd K hK => ?_) ?_
        · obtain rfl : kk = 0 := Nat.le_zero.1 hkk
          rw [if_pos (wanted_none rfl)]
          refine wp_value (w2 := wx) (v := .slice (some ⟨b, off, none⟩) n c) ?_ (hK _ _ rfl (Fr.refl _ _))
          clear hd hG hK hJ
          go_simp
        refine stepsTurn2.cons (fun wx kk hG hkk hJ hd K hK => ?_) ?_
        · obtain rfl : kk = 0 := Nat.le_zero.1 hkk
          rw [if_pos (wanted_none rfl)]
          refine wp_value (w2 := wx) (v := .int .i64 (j : Int)) ?_ (hK _ _ rfl (Fr.refl _ _))
          clear hd hG hK hJ
          go_simp
        refine stepsTurn2.cons (fun wx kk hG hkk hJ hd K hK => ?_) ?_
        · have h17 : us 17 = (.slice (some ⟨b, off, none⟩) n c) := deps_get hd 0 rfl rfl rfl rfl rfl
          have h18 : us 18 = (.int .i64 (j : Int)) := deps_get hd 1 rfl rfl rfl rfl rfl
          obtain rfl : kk = 0 := Nat.le_zero.1 hkk
          rw [if_pos (wanted_none rfl)]
          refine wp_value (w2 := wx) (v := .pointer (some ⟨b, off + j * 2, none⟩)) ?_ (hK _ _ rfl (Fr.refl _ _))
          clear hd hG hK hJ
          go_simp
        refine stepsTurn2.cons (fun wx kk hG hkk hJ hd K hK => ?_) ?_
        · have h19 : us 19 = (.pointer (some ⟨b, off + j * 2, none⟩)) := deps_get hd 0 rfl rfl rfl rfl rfl
          obtain rfl : kk = 0 := Nat.le_zero.1 hkk
          rw [if_pos (wanted_none rfl)]
          refine wp_value (w2 := wx) (v := .pointer (some ⟨b, off + j * 2 + 1, none⟩)) ?_ (hK _ _ rfl (Fr.refl _ _))
          clear hd hG hK hJ
          go_simp
        refine stepsTurn2.cons (fun wx kk hG hkk hJ hd K hK => ?_) ?_
        · have h20 : us 20 = (.pointer (some ⟨b, off + j * 2 + 1, none⟩)) := deps_get hd 0 rfl rfl rfl rfl rfl
          obtain rfl : kk = 0 := Nat.le_zero.1 hkk
          rw [if_pos (wanted_none rfl)]
          have hc := kc1 wx hG
          clear hJ
          refine wp_value (w2 := wx) (v := .slice B x.2.length cB) ?_ (hK _ _ rfl (Fr.refl _ _))
          clear hd hK
          go_simp
        refine stepsTurn2.cons (fun wx kk hG hkk hJ hd K hK => ?_) ?_
        · have h16 : us 16 = (.int .i64 x.1) := deps_get hd 0 rfl rfl rfl rfl rfl
          have h21 : us 21 = (.slice B x.2.length cB) := deps_get hd 1 rfl rfl rfl rfl rfl
          obtain rfl : kk = 0 := Nat.le_zero.1 hkk
          rw [if_pos (wanted_none rfl)]
          refine wp_value (w2 := wx) (v := .agg #[.int .i64 x.1, .slice B x.2.length cB]) ?_ (hK _ _ rfl (Fr.refl _ _))
          clear hd hG hK hJ
          go_simp
        refine stepsTurn2.cons (fun wx kk hG hkk hJ hd K hK => ?_) ?_
        · have h22 : us 22 = (.agg #[.int .i64 x.1, .slice B x.2.length cB]) := deps_get hd 0 rfl rfl rfl rfl rfl
          obtain rfl : kk = 0 := Nat.le_zero.1 hkk
          rw [if_pos (wanted_none rfl)]
          refine wp_value (w2 := wx.alloc (.cells (elB recHead (fun x : Int × List Int => x.2) (x, (B, cB))).toArray 134)) (v := .slice (some ⟨wx.heap.size, 0, none⟩) 1 1) ?_ (hK _ _ ⟨_, rfl, hG.size, alloc_at rfl _⟩ ((Fr.refl _ _).alloc _))
          clear hd hK hG hJ
          go_simp
          try rfl
        refine stepsTurn2.cons (fun wx hG hJ hd K hK => ?_) ?_
        · have h11 : us 11 = (u3) := deps_get hd 0 rfl rfl rfl rfl rfl
          have h23 := deps_get hd 1 rfl rfl rfl rfl rfl
          rw [if_pos (wanted_none rfl)]
          have h11 : us 11 = u3 := h11
          obtain ⟨g, hg1, hg2, hg3⟩ := h23
          have hsz9 := hG.size
          refine wp_append_rowC (t := 134) (hd := 1) (head := recHead) (byt := fun x : Int × List Int => x.2) (.tmp 11) (.tmp 23) 81 32 (.agg #[.int .i64 0, .slice none 0 0]) rfl und_rrecs info_rrec rfl (by decide) (fun _ => rfl) (fun _ u hu => by simp at hu; subst hu; rfl) w.heap.size u3 (l.take j) x B cB g (by exact h11) (by exact hg1) hg3 hJ.1 (HB.out.keep hG (fun hp ad e h => HAP.out ad e hp h)) HY.out HAP.out (by omega) (by rw [HLEN.out]; omega) ?_
          intro v1 w1 hown1 hf1
          exact hK v1 w1 trivial hf1 (by simpa [AppCJ, updD] using hown1)
        refine stepsTurn2.cons (fun wx hG hJ hd K hK => ?_) ?_
        · have h24 := deps_get hd 0 rfl rfl rfl rfl rfl
          rw [if_pos (wanted_none rfl)]
          refine wp_value (w2 := wx) (v := us 24) ?_ (hK _ _ trivial (Fr.refl _ _) (by simpa [AppCJ, updD] using hJ))
          clear hd hK hG hJ
          go_simp
        exact stepsTurn2.nil
      case fin =>
        have h11 : us 11 = (u3) := all_get hall 0 rfl rfl rfl
        have h12 : us 12 = (.slice (some ⟨b, off, none⟩) n c) := all_get hall 1 rfl rfl rfl
        have h13 : us 13 = (.int .i64 (j : Int)) := all_get hall 2 rfl rfl rfl
        have h14 : us 14 = (.pointer (some ⟨b, off + j * 2, none⟩)) := all_get hall 3 rfl rfl rfl
        have h15 : us 15 = (.pointer (some ⟨b, off + j * 2, none⟩)) := all_get hall 4 rfl rfl rfl
        have h16 : us 16 = (.int .i64 x.1) := all_get hall 5 rfl rfl rfl
        have h17 : us 17 = (.slice (some ⟨b, off, none⟩) n c) := all_get hall 6 rfl rfl rfl
        have h18 : us 18 = (.int .i64 (j : Int)) := all_get hall 7 rfl rfl rfl
        have h19 : us 19 = (.pointer (some ⟨b, off + j * 2, none⟩)) := all_get hall 8 rfl rfl rfl
        have h20 : us 20 = (.pointer (some ⟨b, off + j * 2 + 1, none⟩)) := all_get hall 9 rfl rfl rfl
        have h21 : us 21 = (.slice B x.2.length cB) := all_get hall 10 rfl rfl rfl
        have h22 : us 22 = (.agg #[.int .i64 x.1, .slice B x.2.length cB]) := all_get hall 11 rfl rfl rfl
        have h23 := all_get hall 12 rfl rfl rfl
        have h24 := all_get hall 13 rfl rfl rfl
        have h3 := all_get hall 14 rfl rfl rfl
        simp only [fillL, Nat.reduceAdd]
        clear hall
        simp only [h11, h12, h13, h14, h15, h16, h17, h18, h19, h20, h21, h22]
        clear h11 h12 h13 h14 h15 h16 h17 h18 h19 h20 h21 h22
        have hown9 : OwnRefs wr w.heap.size (us 3) (l.take j ++ [x]) := hJ
        have HFZ := HF.out.trans hG (fun k hk => .inr (HO.out.base_le k hk))
        clear hJ hG
        go_wp2_with fail
        go_roundg (n - (j + 1))
        case measure => omega
        case rel =>
          have e : l.take (j + 1) = l.take j ++ [x] := by rw [List.take_add_one, HX.out]; rfl
          exact ⟨j + 1, by omega, rfl, by first | rfl | (go_num), by rw [e]; exact hown9, HFZ⟩
    · have hjn : j = n := by omega
      subst hjn
      go_wp2_with fail
      go_ret
      exact ⟨_, rfl, by rw [← HL.out, List.take_length] at hown; exact hown, hf⟩
set_option maxRecDepth 100000 in
set_option maxHeartbeats 4000000 in
/-- The same records are. -/
theorem same7_c (A B : Option Addr) (n c c2 : Nat) (l : List (Int × List Int)) (hA : RecsAt w A l) (hB : RecsAt w B l) (hl : l.length = n) (hn : n ≤ 1000000) :
    Calls Tryd.prog 48 #[.slice A n c, .slice B n c2] w fun e w' => e = .returned (.bool true) ∧ Fr F0 w w' := by
  have HA := Lib.hid hA
  have HB := Lib.hid hB
  have HL := Lib.hid hl
  clear hA hB hl
  have n0 : (0 : Int) ≤ (n : Int) := Int.natCast_nonneg _
  go_enter Tryd.func48, Tryd.ntmps48
  go_wp2_with fail
  go_loopg [5] n (fun kq x5 wr => ∃ j : Nat, j ≤ n ∧ kq = n - j ∧ x5 = .int .i64 (j : Int) ∧ Fr F0 w wr)
  case atStart => exact ⟨0, by omega, rfl, rfl, Fr.refl _ _⟩
  case round =>
    obtain ⟨j, hj, rfl, rfl, hF⟩ := hrel
    by_cases hlt : j < n
    · have j0 : (0 : Int) ≤ (j : Int) := Int.natCast_nonneg _
      have j1 : (j : Int) < (n : Int) := by omega
      obtain ⟨⟨x, ys⟩, hx⟩ : ∃ x, l[j]? = some x := ⟨l[j]'(by rw [HL.out]; exact hlt), List.getElem?_eq_getElem _⟩
      obtain ⟨b, off, B1, cB, rfl, h1, h2, h3, h4⟩ := (HA.out.keep0 hF).row j _ hx
      obtain ⟨b2, off2, B2, cB2, rfl, g1, g2, g3, g4⟩ := (HB.out.keep0 hF).row j _ hx
      have kc : ∀ (p : Addr) (u : Value), wr.cell? p = some u → ∀ wx, Fr F0 wr wx → wx.cell? p = some u := fun p u h wx hG => (World.cell?_of_block (w := wr) (hG.block _ (World.block_lt_of_cell? wr _ h) (fun h => h))).trans h
      have kc0 := kc ⟨b, off + j * 2, none⟩ (.int .i64 x) (h1 0 _ rfl)
      have kc1 := kc ⟨b, off + j * 2 + 1, none⟩ (.slice B1 ys.length cB) h2
      have kd0 := kc ⟨b2, off2 + j * 2, none⟩ (.int .i64 x) (g1 0 _ rfl)
      have kd1 := kc ⟨b2, off2 + j * 2 + 1, none⟩ (.slice B2 ys.length cB2) g2
      have HB1 := Lib.hid h3
      have HB2 := Lib.hid g3
      clear hx h1 h2 h3 h4 g1 g2 g3 g4 kc
      go_wp2_with fail
      refine wp_region_free (S := F0) [false, false, false, false, false, false, false, false, false, false, false, false, false, false, false, false, false, true, true, true, true, true, true, true, true, true, true, true, true, true, true, true, true, true, true, true, true, true, true, true, true, true, true] [.eq (.slice (some ⟨b, off, none⟩) n c), .eq (.int .i64 (j : Int)), .eq (.pointer (some ⟨b, off + j * 2, none⟩)), .eq (.pointer (some ⟨b, off + j * 2, none⟩)), .eq (.int .i64 x), .eq (.slice (some ⟨b2, off2, none⟩) n c2), .eq (.int .i64 (j : Int)), .eq (.pointer (some ⟨b2, off2 + j * 2, none⟩)), .eq (.pointer (some ⟨b2, off2 + j * 2, none⟩)), .eq (.int .i64 x), .eq (.bool false), .eq (.bool false), .eq (.slice (some ⟨b, off, none⟩) n c), .eq (.int .i64 (j : Int)), .eq (.pointer (some ⟨b, off + j * 2, none⟩)), .eq (.pointer (some ⟨b, off + j * 2 + 1, none⟩)), .eq (.slice B1 ys.length cB), .eq (.string (strOfNums ys)), .eq (.slice (some ⟨b2, off2, none⟩) n c2), .eq (.int .i64 (j : Int)), .eq (.pointer (some ⟨b2, off2 + j * 2, none⟩)), .eq (.pointer (some ⟨b2, off2 + j * 2 + 1, none⟩)), .eq (.slice B2 ys.length cB2), .eq (.string (strOfNums ys)), .eq (.bool false), .eq (.bool false)] (by kernel_rfl) (by kernel_rfl) (by rfl) (fun us => ?steps) (fun us wr hG hall => ?fin)
      case steps =>
        simp only [fillL, Nat.reduceAdd]
        refine stepsHold.cons (fun wx hG hd K hK => ?_) ?_
        · rw [if_pos (wanted_none rfl)]
          refine wp_value (w2 := wx) (v := .slice (some ⟨b, off, none⟩) n c) ?_ (hK _ _ rfl (Fr.refl _ _))
          clear hd hG hK
          go_simp
        refine stepsHold.cons (fun wx hG hd K hK => ?_) ?_
        · rw [if_pos (wanted_none rfl)]
          refine wp_value (w2 := wx) (v := .int .i64 (j : Int)) ?_ (hK _ _ rfl (Fr.refl _ _))
          clear hd hG hK
          go_simp
        refine stepsHold.cons (fun wx hG hd K hK => ?_) ?_
        · have h17 : us 17 = (.slice (some ⟨b, off, none⟩) n c) := deps_get hd 0 rfl rfl rfl rfl rfl
          have h18 : us 18 = (.int .i64 (j : Int)) := deps_get hd 1 rfl rfl rfl rfl rfl
          rw [if_pos (wanted_none rfl)]
          refine wp_value (w2 := wx) (v := .pointer (some ⟨b, off + j * 2, none⟩)) ?_ (hK _ _ rfl (Fr.refl _ _))
          clear hd hG hK
          go_simp
        refine stepsHold.cons (fun wx hG hd K hK => ?_) ?_
        · have h19 : us 19 = (.pointer (some ⟨b, off + j * 2, none⟩)) := deps_get hd 0 rfl rfl rfl rfl rfl
          rw [if_pos (wanted_none rfl)]
          refine wp_value (w2 := wx) (v := .pointer (some ⟨b, off + j * 2, none⟩)) ?_ (hK _ _ rfl (Fr.refl _ _))
          clear hd hG hK
          go_simp
        refine stepsHold.cons (fun wx hG hd K hK => ?_) ?_
        · have h20 : us 20 = (.pointer (some ⟨b, off + j * 2, none⟩)) := deps_get hd 0 rfl rfl rfl rfl rfl
          rw [if_pos (wanted_none rfl)]
          have hc := kc0 wx hG
          refine wp_value (w2 := wx) (v := .int .i64 x) ?_ (hK _ _ rfl (Fr.refl _ _))
          clear hd hK
          go_simp
        refine stepsHold.cons (fun wx hG hd K hK => ?_) ?_
        · rw [if_pos (wanted_none rfl)]
          refine wp_value (w2 := wx) (v := .slice (some ⟨b2, off2, none⟩) n c2) ?_ (hK _ _ rfl (Fr.refl _ _))
          clear hd hG hK
          go_simp
        refine stepsHold.cons (fun wx hG hd K hK => ?_) ?_
        · rw [if_pos (wanted_none rfl)]
          refine wp_value (w2 := wx) (v := .int .i64 (j : Int)) ?_ (hK _ _ rfl (Fr.refl _ _))
          clear hd hG hK
          go_simp
        refine stepsHold.cons (fun wx hG hd K hK => ?_) ?_
        · have h22 : us 22 = (.slice (some ⟨b2, off2, none⟩) n c2) := deps_get hd 0 rfl rfl rfl rfl rfl
          have h23 : us 23 = (.int .i64 (j : Int)) := deps_get hd 1 rfl rfl rfl rfl rfl
          rw [if_pos (wanted_none rfl)]
          refine wp_value (w2 := wx) (v := .pointer (some ⟨b2, off2 + j * 2, none⟩)) ?_ (hK _ _ rfl (Fr.refl _ _))
          clear hd hG hK
          go_simp
        refine stepsHold.cons (fun wx hG hd K hK => ?_) ?_
        · have h24 : us 24 = (.pointer (some ⟨b2, off2 + j * 2, none⟩)) := deps_get hd 0 rfl rfl rfl rfl rfl
          rw [if_pos (wanted_none rfl)]
          refine wp_value (w2 := wx) (v := .pointer (some ⟨b2, off2 + j * 2, none⟩)) ?_ (hK _ _ rfl (Fr.refl _ _))
          clear hd hG hK
          go_simp
        refine stepsHold.cons (fun wx hG hd K hK => ?_) ?_
        · have h25 : us 25 = (.pointer (some ⟨b2, off2 + j * 2, none⟩)) := deps_get hd 0 rfl rfl rfl rfl rfl
          rw [if_pos (wanted_none rfl)]
          have hc := kd0 wx hG
          refine wp_value (w2 := wx) (v := .int .i64 x) ?_ (hK _ _ rfl (Fr.refl _ _))
          clear hd hK
          go_simp
        refine stepsHold.cons (fun wx hG hd K hK => ?_) ?_
        · have h21 : us 21 = (.int .i64 x) := deps_get hd 0 rfl rfl rfl rfl rfl
          have h26 : us 26 = (.int .i64 x) := deps_get hd 1 rfl rfl rfl rfl rfl
          rw [if_pos (wanted_none rfl)]
          refine wp_value (w2 := wx) (v := .bool false) ?_ (hK _ _ rfl (Fr.refl _ _))
          clear hd hG hK
          go_simp
        refine stepsHold.cons (fun wx hG hd K hK => ?_) ?_
        · have h27 : us 27 = (.bool false) := deps_get hd 0 rfl rfl rfl rfl rfl
          rw [if_pos (wanted_none rfl)]
          refine wp_value (w2 := wx) (v := .bool false) ?_ (hK _ _ rfl (Fr.refl _ _))
          clear hd hG hK
          go_simp
        refine stepsHold.cons (fun wx hG hd K hK => ?_) ?_
        · have h28 : us 28 = (.bool false) := deps_get hd 0 rfl rfl rfl rfl rfl
          rw [if_pos (wanted_yes rfl rfl rfl rfl h28)]
          refine wp_value (w2 := wx) (v := .slice (some ⟨b, off, none⟩) n c) ?_ (hK _ _ rfl (Fr.refl _ _))
          clear hd hG hK
          go_simp
        refine stepsHold.cons (fun wx hG hd K hK => ?_) ?_
        · have h28 : us 28 = (.bool false) := deps_get hd 0 rfl rfl rfl rfl rfl
          rw [if_pos (wanted_yes rfl rfl rfl rfl h28)]
          refine wp_value (w2 := wx) (v := .int .i64 (j : Int)) ?_ (hK _ _ rfl (Fr.refl _ _))
          clear hd hG hK
          go_simp
        refine stepsHold.cons (fun wx hG hd K hK => ?_) ?_
        · have h29 : us 29 = (.slice (some ⟨b, off, none⟩) n c) := deps_get hd 0 rfl rfl rfl rfl rfl
          have h30 : us 30 = (.int .i64 (j : Int)) := deps_get hd 1 rfl rfl rfl rfl rfl
          have h28 : us 28 = (.bool false) := deps_get hd 2 rfl rfl rfl rfl rfl
          rw [if_pos (wanted_yes rfl rfl rfl rfl h28)]
          refine wp_value (w2 := wx) (v := .pointer (some ⟨b, off + j * 2, none⟩)) ?_ (hK _ _ rfl (Fr.refl _ _))
          clear hd hG hK
          go_simp
        refine stepsHold.cons (fun wx hG hd K hK => ?_) ?_
        · have h31 : us 31 = (.pointer (some ⟨b, off + j * 2, none⟩)) := deps_get hd 0 rfl rfl rfl rfl rfl
          have h28 : us 28 = (.bool false) := deps_get hd 1 rfl rfl rfl rfl rfl
          rw [if_pos (wanted_yes rfl rfl rfl rfl h28)]
          refine wp_value (w2 := wx) (v := .pointer (some ⟨b, off + j * 2 + 1, none⟩)) ?_ (hK _ _ rfl (Fr.refl _ _))
          clear hd hG hK
          go_simp
        refine stepsHold.cons (fun wx hG hd K hK => ?_) ?_
        · have h32 : us 32 = (.pointer (some ⟨b, off + j * 2 + 1, none⟩)) := deps_get hd 0 rfl rfl rfl rfl rfl
          have h28 : us 28 = (.bool false) := deps_get hd 1 rfl rfl rfl rfl rfl
          rw [if_pos (wanted_yes rfl rfl rfl rfl h28)]
          have hc := kc1 wx hG
          refine wp_value (w2 := wx) (v := .slice B1 ys.length cB) ?_ (hK _ _ rfl (Fr.refl _ _))
          clear hd hK
          go_simp
        refine stepsHold.cons (fun wx hG hd K hK => ?_) ?_
        · have h33 : us 33 = (.slice B1 ys.length cB) := deps_get hd 0 rfl rfl rfl rfl rfl
          have h28 : us 28 = (.bool false) := deps_get hd 1 rfl rfl rfl rfl rfl
          rw [if_pos (wanted_yes rfl rfl rfl rfl h28)]
          have hr := conv_at ((HB1.out.keep0 hG).at_) und_bytes und_u8 und7_string cB
          refine wp_value (w2 := wx) (v := .string (strOfNums ys)) ?_ (hK _ _ rfl (Fr.refl _ _))
          clear hd hK
          go_simp
        refine stepsHold.cons (fun wx hG hd K hK => ?_) ?_
        · have h28 : us 28 = (.bool false) := deps_get hd 0 rfl rfl rfl rfl rfl
          rw [if_pos (wanted_yes rfl rfl rfl rfl h28)]
          refine wp_value (w2 := wx) (v := .slice (some ⟨b2, off2, none⟩) n c2) ?_ (hK _ _ rfl (Fr.refl _ _))
          clear hd hG hK
          go_simp
        refine stepsHold.cons (fun wx hG hd K hK => ?_) ?_
        · have h28 : us 28 = (.bool false) := deps_get hd 0 rfl rfl rfl rfl rfl
          rw [if_pos (wanted_yes rfl rfl rfl rfl h28)]
          refine wp_value (w2 := wx) (v := .int .i64 (j : Int)) ?_ (hK _ _ rfl (Fr.refl _ _))
          clear hd hG hK
          go_simp
        refine stepsHold.cons (fun wx hG hd K hK => ?_) ?_
        · have h35 : us 35 = (.slice (some ⟨b2, off2, none⟩) n c2) := deps_get hd 0 rfl rfl rfl rfl rfl
          have h36 : us 36 = (.int .i64 (j : Int)) := deps_get hd 1 rfl rfl rfl rfl rfl
          have h28 : us 28 = (.bool false) := deps_get hd 2 rfl rfl rfl rfl rfl
          rw [if_pos (wanted_yes rfl rfl rfl rfl h28)]
          refine wp_value (w2 := wx) (v := .pointer (some ⟨b2, off2 + j * 2, none⟩)) ?_ (hK _ _ rfl (Fr.refl _ _))
          clear hd hG hK
          go_simp
        refine stepsHold.cons (fun wx hG hd K hK => ?_) ?_
        · have h37 : us 37 = (.pointer (some ⟨b2, off2 + j * 2, none⟩)) := deps_get hd 0 rfl rfl rfl rfl rfl
          have h28 : us 28 = (.bool false) := deps_get hd 1 rfl rfl rfl rfl rfl
          rw [if_pos (wanted_yes rfl rfl rfl rfl h28)]
          refine wp_value (w2 := wx) (v := .pointer (some ⟨b2, off2 + j * 2 + 1, none⟩)) ?_ (hK _ _ rfl (Fr.refl _ _))
          clear hd hG hK
          go_simp
        refine stepsHold.cons (fun wx hG hd K hK => ?_) ?_
        · have h38 : us 38 = (.pointer (some ⟨b2, off2 + j * 2 + 1, none⟩)) := deps_get hd 0 rfl rfl rfl rfl rfl
          have h28 : us 28 = (.bool false) := deps_get hd 1 rfl rfl rfl rfl rfl
          rw [if_pos (wanted_yes rfl rfl rfl rfl h28)]
          have hc := kd1 wx hG
          refine wp_value (w2 := wx) (v := .slice B2 ys.length cB2) ?_ (hK _ _ rfl (Fr.refl _ _))
          clear hd hK
          go_simp
        refine stepsHold.cons (fun wx hG hd K hK => ?_) ?_
        · have h39 : us 39 = (.slice B2 ys.length cB2) := deps_get hd 0 rfl rfl rfl rfl rfl
          have h28 : us 28 = (.bool false) := deps_get hd 1 rfl rfl rfl rfl rfl
          rw [if_pos (wanted_yes rfl rfl rfl rfl h28)]
          have hr := conv_at ((HB2.out.keep0 hG).at_) und_bytes und_u8 und7_string cB2
          refine wp_value (w2 := wx) (v := .string (strOfNums ys)) ?_ (hK _ _ rfl (Fr.refl _ _))
          clear hd hK
          go_simp
        refine stepsHold.cons (fun wx hG hd K hK => ?_) ?_
        · have h34 : us 34 = (.string (strOfNums ys)) := deps_get hd 0 rfl rfl rfl rfl rfl
          have h40 : us 40 = (.string (strOfNums ys)) := deps_get hd 1 rfl rfl rfl rfl rfl
          have h28 : us 28 = (.bool false) := deps_get hd 2 rfl rfl rfl rfl rfl
          rw [if_pos (wanted_yes rfl rfl rfl rfl h28)]
          refine wp_value (w2 := wx) (v := .bool false) ?_ (hK _ _ rfl (Fr.refl _ _))
          clear hd hG hK
          go_simp
        refine stepsHold.cons (fun wx hG hd K hK => ?_) ?_
        · have h28 : us 28 = (.bool false) := deps_get hd 0 rfl rfl rfl rfl rfl
          have h41 : us 41 = (.bool false) := deps_get hd 1 rfl rfl rfl rfl rfl
          rw [if_pos (wanted_none rfl)]
          refine wp_value (w2 := wx) (v := .bool false) ?_ (hK _ _ rfl (Fr.refl _ _))
          clear hd hG hK
          go_simp
        exact stepsHold.nil
      case fin =>
        have h17 : us 17 = (.slice (some ⟨b, off, none⟩) n c) := all_get hall 0 rfl rfl rfl
        have h18 : us 18 = (.int .i64 (j : Int)) := all_get hall 1 rfl rfl rfl
        have h19 : us 19 = (.pointer (some ⟨b, off + j * 2, none⟩)) := all_get hall 2 rfl rfl rfl
        have h20 : us 20 = (.pointer (some ⟨b, off + j * 2, none⟩)) := all_get hall 3 rfl rfl rfl
        have h21 : us 21 = (.int .i64 x) := all_get hall 4 rfl rfl rfl
        have h22 : us 22 = (.slice (some ⟨b2, off2, none⟩) n c2) := all_get hall 5 rfl rfl rfl
        have h23 : us 23 = (.int .i64 (j : Int)) := all_get hall 6 rfl rfl rfl
        have h24 : us 24 = (.pointer (some ⟨b2, off2 + j * 2, none⟩)) := all_get hall 7 rfl rfl rfl
        have h25 : us 25 = (.pointer (some ⟨b2, off2 + j * 2, none⟩)) := all_get hall 8 rfl rfl rfl
        have h26 : us 26 = (.int .i64 x) := all_get hall 9 rfl rfl rfl
        have h27 : us 27 = (.bool false) := all_get hall 10 rfl rfl rfl
        have h28 : us 28 = (.bool false) := all_get hall 11 rfl rfl rfl
        have h29 : us 29 = (.slice (some ⟨b, off, none⟩) n c) := all_get hall 12 rfl rfl rfl
        have h30 : us 30 = (.int .i64 (j : Int)) := all_get hall 13 rfl rfl rfl
        have h31 : us 31 = (.pointer (some ⟨b, off + j * 2, none⟩)) := all_get hall 14 rfl rfl rfl
        have h32 : us 32 = (.pointer (some ⟨b, off + j * 2 + 1, none⟩)) := all_get hall 15 rfl rfl rfl
        have h33 : us 33 = (.slice B1 ys.length cB) := all_get hall 16 rfl rfl rfl
        have h34 : us 34 = (.string (strOfNums ys)) := all_get hall 17 rfl rfl rfl
        have h35 : us 35 = (.slice (some ⟨b2, off2, none⟩) n c2) := all_get hall 18 rfl rfl rfl
        have h36 : us 36 = (.int .i64 (j : Int)) := all_get hall 19 rfl rfl rfl
        have h37 : us 37 = (.pointer (some ⟨b2, off2 + j * 2, none⟩)) := all_get hall 20 rfl rfl rfl
        have h38 : us 38 = (.pointer (some ⟨b2, off2 + j * 2 + 1, none⟩)) := all_get hall 21 rfl rfl rfl
        have h39 : us 39 = (.slice B2 ys.length cB2) := all_get hall 22 rfl rfl rfl
        have h40 : us 40 = (.string (strOfNums ys)) := all_get hall 23 rfl rfl rfl
        have h41 : us 41 = (.bool false) := all_get hall 24 rfl rfl rfl
        have h42 : us 42 = (.bool false) := all_get hall 25 rfl rfl rfl
        simp only [fillL, Nat.reduceAdd]
        clear hall
        simp only [h17, h18, h19, h20, h21, h22, h23, h24, h25, h26, h27, h28, h29, h30, h31, h32, h33, h34, h35, h36, h37, h38, h39, h40, h41, h42]
        clear h17 h18 h19 h20 h21 h22 h23 h24 h25 h26 h27 h28 h29 h30 h31 h32 h33 h34 h35 h36 h37 h38 h39 h40 h41 h42
        go_wp2_with fail
        go_roundg (n - (j + 1))
        case measure => omega
        case rel => exact ⟨j + 1, by omega, rfl, by first | rfl | (go_num), hF.then0 hG⟩
    · have hjn : j = n := by omega
      subst hjn
      go_wp2_with fail
      go_ret
      exact ⟨rfl, hF⟩
end
end Go.Proofs.YtdeckbdaencjnaaDoor
