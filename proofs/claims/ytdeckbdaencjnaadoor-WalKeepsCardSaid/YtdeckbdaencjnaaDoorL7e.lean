/-
  heronrylaw07: theirs; heronryref07: Same. heronrylaw07: WalAgain. Conditions: none.
-/
import Derived.Test.YtdeckbdaencjnaaDoorL7b
import Derived.Test.YtdeckbdaencjnaaDoorRowC
import Derived.Test.YtdeckbdaencjnaaDoorTurn
import Derived.Test.YtdeckbdaencjnaaDoorL7c
set_option linter.unusedVariables false
set_option linter.unusedSimpArgs false
namespace Go.Proofs.YtdeckbdaencjnaaDoor
open Go.RowKit
abbrev OwnRefs (w : World) (base : Nat) (v : Value) (l : List (Int × List Int)) : Prop := OwnRowC recHead (fun x => x.2) 1 134 w base v l
theorem und_rrecs : Tryd.prog.underlying 81 = some (.slice 134) := Tryd.underlying81
theorem info_rrec : (Tryd.prog.info? 134).map (fun i => (i.zero, i.size, i.bytes)) = some (some (.agg #[.int .i64 0, .slice none 0 0]), 2, 32) := by kernel_rfl
section
variable {w : World}
set_option maxRecDepth 100000 in
set_option maxHeartbeats 4000000 in
theorem theirs7_c (A : Option Addr) (n c : Nat) (l : List (Int × List Int)) (hA : RecsAt w A l) (hl : l.length = n) (hn : n ≤ 1000000) :
    Calls Tryd.prog 49 #[.slice A n c] w fun e w' => ∃ v, e = .returned v ∧ OwnRefs w' w.heap.size v l ∧ Fr F0 w w' := by
  have HA := Lib.hid hA
  have HL := Lib.hid hl
  clear hA hl
  have n0 : (0 : Int) ≤ (n : Int) := Int.natCast_nonneg _
  go_enter Tryd.func49, Tryd.ntmps49
  go_wp2_with fail
  go_loopg [3, 4] n (fun kq x3 x4 wr => ∃ j : Nat, j ≤ n ∧ kq = n - j ∧ x4 = .int .i64 (j : Int) ∧ OwnRefs wr w.heap.size x3 (l.take j) ∧ Fr F0 w wr)
  case atStart => exact ⟨0, by omega, rfl, rfl, OwnRowC.nil _ _, Fr.refl _ _⟩
  case round =>
    obtain ⟨j, hj, rfl, rfl, hown, hf⟩ := hrel
    by_cases hlt : j < n
    · have j0 : (0 : Int) ≤ (j : Int) := Int.natCast_nonneg _
      have j1 : (j : Int) < (n : Int) := by omega
      obtain ⟨x, hx⟩ : ∃ x, l[j]? = some x := ⟨l[j]'(by rw [HL.out]; exact hlt), List.getElem?_eq_getElem _⟩
      obtain ⟨b, off, B, cB, rfl, h1, h2, h3, h4⟩ := (HA.out.keep0 hf).row j x hx
      have k0 : wr.cell? ⟨b, off + j * 2, none⟩ = some (.int .i64 x.1) := h1 0 _ rfl
      have k1 : wr.cell? ⟨b, off + j * 2 + 1, none⟩ = some (.slice B x.2.length cB) := h2
      have hBb : ∀ ad, B = some ad → 0 < x.2.length → ad.block < w.heap.size := by
        intro ad e hp
        obtain ⟨b', off', B', cB', e', g1, g2, g3, g4⟩ := HA.out.row j x hx
        cases e'
        have g2' : w.cell? ⟨b, off + j * 2 + 1, none⟩ = some (.slice B' x.2.length cB') := g2
        have hk : wr.cell? ⟨b, off + j * 2 + 1, none⟩ = some (.slice B' x.2.length cB') := (World.cell?_of_block (w := w) (hf.block _ (World.block_lt_of_cell? w _ g2') (fun h => h))).trans g2'
        rw [k1] at hk
        cases hk
        subst e
        exact g3.at_.lt hp
      have hap : ∀ ad, B = some ad → 0 < x.2.length → u3.ownBlock ≠ some ad.block := by
        intro ad e hp h
        have h5 := hown.base_le _ h
        have h6 := hBb ad e hp
        omega
      have HX := Lib.hid hx
      have HO := Lib.hid hown
      have HF := Lib.hid hf
      have HB := Lib.hid h3
      have HY := Lib.hid h4
      have HAP := Lib.hid hap
      have hlen : (l.take j).length = j := by rw [List.length_take, HL.out]; omega
      have HLEN := Lib.hid hlen
      have hsz := hf.size
      have HS : Hid (∀ k, wr.heap.size ≤ k → ¬ u3.ownBlock = some k) := Lib.hid (fun k hk h => by have := hown.lt k h; omega)
      have hbs : ¬ u3.ownBlock = some b := fun h => by
        have h5 := hown.base_le _ h
        obtain ⟨b', off', B', cB', e', g1, g2, g3, g4⟩ := HA.out.row j x hx
        cases e'
        have := World.block_lt_of_cell? w _ (g1 0 _ rfl)
        have h6 : b < w.heap.size := this
        omega
      have kc : ∀ (q : Nat) (u : Value), wr.cell? ⟨b, q, none⟩ = some u → ∀ wx, Fr (fun k => u3.ownBlock = some k) wr wx → wx.cell? ⟨b, q, none⟩ = some u := fun q u h wx hG => (World.cell?_of_block (w := wr) (hG.block _ (World.block_lt_of_cell? wr _ h) hbs)).trans h
      have kc0 := kc _ _ k0
      have kc1 := kc _ _ k1
      clear hx hown hf h1 h2 h3 h4 hap hlen hBb k0 k1 kc hbs
      go_wp2_with fail
      refine wp_region_turn2 (S := (fun k => u3.ownBlock = some k)) [false, false, false, true, false, false, false, false, false, false, false, true, true, true, true, true, true, true, true, true, true, true, true, true, true, false] [.eq (u3), .eq (.slice (some ⟨b, off, none⟩) n c), .eq (.int .i64 (j : Int)), .eq (.pointer (some ⟨b, off + j * 2, none⟩)), .eq (.pointer (some ⟨b, off + j * 2, none⟩)), .eq (.int .i64 x.1), .eq (.slice (some ⟨b, off, none⟩) n c), .eq (.int .i64 (j : Int)), .eq (.pointer (some ⟨b, off + j * 2, none⟩)), .eq (.pointer (some ⟨b, off + j * 2 + 1, none⟩)), .eq (.slice B x.2.length cB), .eq (.agg #[.int .i64 x.1, .slice B x.2.length cB]), ⟨fun v w1 => ∃ g, v = .slice (some ⟨g, 0, none⟩) 1 1 ∧ wr.heap.size ≤ g ∧ w1.heap[g]? = some (.cells (elB recHead (fun x : Int × List Int => x.2) (x, (B, cB))).toArray 134 (0, 0)), fun v w1 w2 ⟨g, h1, h2, h3⟩ hf => ⟨g, h1, h2, hf.keep h3 (HS.out g h2)⟩⟩, .any, .any] (AppCJ recHead (fun x : Int × List Int => x.2) 1 134 w.heap.size u3 (l.take j) [x] 24 3) [none, none, none, none, none, none, none, none, none, none, none, none, none, some 0, some 1] [0, 0, 0, 0, 0, 0, 0, 0, 0, 0, 0, 0, 0, 1, 2] [24, 3] 2 (by kernel_rfl) (by kernel_rfl) (by rfl) (by kernel_rfl) (by kernel_rfl) ?hJ ?hJ0 (fun us => ?steps) (fun us wr hG hJ hall => ?fin)
      case hJ =>
        exact AppCJ.keep
      case hJ0 =>
        exact ⟨HO.out, rfl⟩
      case steps =>
        simp only [fillL, Nat.reduceAdd]
        refine stepsTurn2.cons (fun wx kk hG hkk hJ hd K hK => ?_) ?_
        · -- no edge to slot 3
          obtain rfl : kk = 0 := Nat.le_zero.1 hkk
          rw [if_pos (wanted_none rfl)]
          refine wp_value (w2 := wx) (v := u3) ?_ (hK _ _ rfl (Fr.refl _ _))
          have h3 : us 3 = u3 := hJ.2
          clear hd hK hG hJ
          go_simp
          try exact h3
        refine stepsTurn2.cons (fun wx kk hG hkk hJ hd K hK => ?_) ?_
        · obtain rfl : kk = 0 := Nat.le_zero.1 hkk
          rw [if_pos (wanted_none rfl)]
          refine wp_value (w2 := wx) (v := .slice (some ⟨b, off, none⟩) n c) ?_ (hK _ _ rfl (Fr.refl _ _))
          clear hd hG hK hJ
          go_simp
        refine stepsTurn2.cons (fun wx kk hG hkk hJ hd K hK => ?_) ?_
        · obtain rfl : kk = 0 := Nat.le_zero.1 hkk
          rw [if_pos (wanted_none rfl)]
          refine wp_value (w2 := wx) (v := .int .i64 (j : Int)) ?_ (hK _ _ rfl (Fr.refl _ _))
          clear hd hG hK hJ
          go_simp
        refine stepsTurn2.cons (fun wx kk hG hkk hJ hd K hK => ?_) ?_
        · have h12 : us 12 = (.slice (some ⟨b, off, none⟩) n c) := deps_get hd 0 rfl rfl rfl rfl rfl
          have h13 : us 13 = (.int .i64 (j : Int)) := deps_get hd 1 rfl rfl rfl rfl rfl
          obtain rfl : kk = 0 := Nat.le_zero.1 hkk
          rw [if_pos (wanted_none rfl)]
          refine wp_value (w2 := wx) (v := .pointer (some ⟨b, off + j * 2, none⟩)) ?_ (hK _ _ rfl (Fr.refl _ _))
          clear hd hG hK hJ
          go_simp
        refine stepsTurn2.cons (fun wx kk hG hkk hJ hd K hK => ?_) ?_
        · have h14 : us 14 = (.pointer (some ⟨b, off + j * 2, none⟩)) := deps_get hd 0 rfl rfl rfl rfl rfl
          obtain rfl : kk = 0 := Nat.le_zero.1 hkk
          rw [if_pos (wanted_none rfl)]
          refine wp_value (w2 := wx) (v := .pointer (some ⟨b, off + j * 2, none⟩)) ?_ (hK _ _ rfl (Fr.refl _ _))
          clear hd hG hK hJ
          go_simp
        refine stepsTurn2.cons (fun wx kk hG hkk hJ hd K hK => ?_) ?_
        · have h15 : us 15 = (.pointer (some ⟨b, off + j * 2, none⟩)) := deps_get hd 0 rfl rfl rfl rfl rfl
          obtain rfl : kk = 0 := Nat.le_zero.1 hkk
          rw [if_pos (wanted_none rfl)]
          have hc := kc0 wx hG
          clear hJ
          refine wp_value (w2 := wx) (v := .int .i64 x.1) ?_ (hK _ _ rfl (Fr.refl _ _))
          clear hd hK
          go_simp
        refine stepsTurn2.cons (fun wx kk hG hkk hJ hd K hK => ?_) ?_
        · obtain rfl : kk = 0 := Nat.le_zero.1 hkk
          rw [if_pos (wanted_none rfl)]
          refine wp_value (w2 := wx) (v := .slice (some ⟨b, off, none⟩) n c) ?_ (hK _ _ rfl (Fr.refl _ _))
          clear hd hG hK hJ
          go_simp
        refine stepsTurn2.cons (fun wx kk hG hkk hJ hd K hK => ?_) ?_
        · obtain rfl : kk = 0 := Nat.le_zero.1 hkk
          rw [if_pos (wanted_none rfl)]
          refine wp_value (w2 := wx) (v := .int .i64 (j : Int)) ?_ (hK _ _ rfl (Fr.refl _ _))
          clear hd hG hK hJ
          go_simp
        refine stepsTurn2.cons (fun wx kk hG hkk hJ hd K hK => ?_) ?_
        · have h17 : us 17 = (.slice (some ⟨b, off, none⟩) n c) := deps_get hd 0 rfl rfl rfl rfl rfl
          have h18 : us 18 = (.int .i64 (j : Int)) := deps_get hd 1 rfl rfl rfl rfl rfl
          obtain rfl : kk = 0 := Nat.le_zero.1 hkk
          rw [if_pos (wanted_none rfl)]
          refine wp_value (w2 := wx) (v := .pointer (some ⟨b, off + j * 2, none⟩)) ?_ (hK _ _ rfl (Fr.refl _ _))
          clear hd hG hK hJ
          go_simp
        refine stepsTurn2.cons (fun wx kk hG hkk hJ hd K hK => ?_) ?_
        · have h19 : us 19 = (.pointer (some ⟨b, off + j * 2, none⟩)) := deps_get hd 0 rfl rfl rfl rfl rfl
          obtain rfl : kk = 0 := Nat.le_zero.1 hkk
          rw [if_pos (wanted_none rfl)]
          refine wp_value (w2 := wx) (v := .pointer (some ⟨b, off + j * 2 + 1, none⟩)) ?_ (hK _ _ rfl (Fr.refl _ _))
          clear hd hG hK hJ
          go_simp
        refine stepsTurn2.cons (fun wx kk hG hkk hJ hd K hK => ?_) ?_
        · have h20 : us 20 = (.pointer (some ⟨b, off + j * 2 + 1, none⟩)) := deps_get hd 0 rfl rfl rfl rfl rfl
          obtain rfl : kk = 0 := Nat.le_zero.1 hkk
          rw [if_pos (wanted_none rfl)]
          have hc := kc1 wx hG
          clear hJ
          refine wp_value (w2 := wx) (v := .slice B x.2.length cB) ?_ (hK _ _ rfl (Fr.refl _ _))
          clear hd hK
          go_simp
        refine stepsTurn2.cons (fun wx kk hG hkk hJ hd K hK => ?_) ?_
        · have h16 : us 16 = (.int .i64 x.1) := deps_get hd 0 rfl rfl rfl rfl rfl
          have h21 : us 21 = (.slice B x.2.length cB) := deps_get hd 1 rfl rfl rfl rfl rfl
          obtain rfl : kk = 0 := Nat.le_zero.1 hkk
          rw [if_pos (wanted_none rfl)]
          refine wp_value (w2 := wx) (v := .agg #[.int .i64 x.1, .slice B x.2.length cB]) ?_ (hK _ _ rfl (Fr.refl _ _))
          clear hd hG hK hJ
          go_simp
        refine stepsTurn2.cons (fun wx kk hG hkk hJ hd K hK => ?_) ?_
        · have h22 : us 22 = (.agg #[.int .i64 x.1, .slice B x.2.length cB]) := deps_get hd 0 rfl rfl rfl rfl rfl
          obtain rfl : kk = 0 := Nat.le_zero.1 hkk
          rw [if_pos (wanted_none rfl)]
          refine wp_value (w2 := wx.alloc (.cells (elB recHead (fun x : Int × List Int => x.2) (x, (B, cB))).toArray 134)) (v := .slice (some ⟨wx.heap.size, 0, none⟩) 1 1) ?_ (hK _ _ ⟨_, rfl, hG.size, alloc_at rfl _⟩ ((Fr.refl _ _).alloc _))
          clear hd hK hG hJ
          go_simp
          try rfl
        refine stepsTurn2.cons (fun wx hG hJ hd K hK => ?_) ?_
        · have h11 : us 11 = (u3) := deps_get hd 0 rfl rfl rfl rfl rfl
          have h23 := deps_get hd 1 rfl rfl rfl rfl rfl
          rw [if_pos (wanted_none rfl)]
          have h11 : us 11 = u3 := h11
          obtain ⟨g, hg1, hg2, hg3⟩ := h23
          have hsz9 := hG.size
          refine wp_append_rowC (t := 134) (hd := 1) (head := recHead) (byt := fun x : Int × List Int => x.2) (.tmp 11) (.tmp 23) 81 32 (.agg #[.int .i64 0, .slice none 0 0]) rfl und_rrecs info_rrec rfl (by decide) (fun _ => rfl) (fun _ u hu => by simp at hu; subst hu; rfl) w.heap.size u3 (l.take j) x B cB g (by exact h11) (by exact hg1) hg3 hJ.1 (HB.out.keep hG (fun hp ad e h => HAP.out ad e hp h)) HY.out HAP.out (by omega) (by rw [HLEN.out]; omega) ?_
          intro v1 w1 hown1 hf1
          exact hK v1 w1 trivial hf1 (by simpa [AppCJ, updD] using hown1)
        refine stepsTurn2.cons (fun wx hG hJ hd K hK => ?_) ?_
        · have h24 := deps_get hd 0 rfl rfl rfl rfl rfl
          rw [if_pos (wanted_none rfl)]
          refine wp_value (w2 := wx) (v := us 24) ?_ (hK _ _ trivial (Fr.refl _ _) (by simpa [AppCJ, updD] using hJ))
          clear hd hK hG hJ
          go_simp
        exact stepsTurn2.nil
      case fin =>
        have h11 : us 11 = (u3) := all_get hall 0 rfl rfl rfl
        have h12 : us 12 = (.slice (some ⟨b, off, none⟩) n c) := all_get hall 1 rfl rfl rfl
        have h13 : us 13 = (.int .i64 (j : Int)) := all_get hall 2 rfl rfl rfl
        have h14 : us 14 = (.pointer (some ⟨b, off + j * 2, none⟩)) := all_get hall 3 rfl rfl rfl
        have h15 : us 15 = (.pointer (some ⟨b, off + j * 2, none⟩)) := all_get hall 4 rfl rfl rfl
        have h16 : us 16 = (.int .i64 x.1) := all_get hall 5 rfl rfl rfl
        have h17 : us 17 = (.slice (some ⟨b, off, none⟩) n c) := all_get hall 6 rfl rfl rfl
        have h18 : us 18 = (.int .i64 (j : Int)) := all_get hall 7 rfl rfl rfl
        have h19 : us 19 = (.pointer (some ⟨b, off + j * 2, none⟩)) := all_get hall 8 rfl rfl rfl
        have h20 : us 20 = (.pointer (some ⟨b, off + j * 2 + 1, none⟩)) := all_get hall 9 rfl rfl rfl
        have h21 : us 21 = (.slice B x.2.length cB) := all_get hall 10 rfl rfl rfl
        have h22 : us 22 = (.agg #[.int .i64 x.1, .slice B x.2.length cB]) := all_get hall 11 rfl rfl rfl
        have h23 := all_get hall 12 rfl rfl rfl
        have h24 := all_get hall 13 rfl rfl rfl
        have h3 := all_get hall 14 rfl rfl rfl
        simp only [fillL, Nat.reduceAdd]
        clear hall
        simp only [h11, h12, h13, h14, h15, h16, h17, h18, h19, h20, h21, h22]
        clear h11 h12 h13 h14 h15 h16 h17 h18 h19 h20 h21 h22
        have hown9 : OwnRefs wr w.heap.size (us 3) (l.take j ++ [x]) := hJ
        have HFZ := HF.out.trans hG (fun k hk => .inr (HO.out.base_le k hk))
        clear hJ hG
        go_wp2_with fail
        go_roundg (n - (j + 1))
        case measure => omega
        case rel =>
          have e : l.take (j + 1) = l.take j ++ [x] := by rw [List.take_add_one, HX.out]; rfl
          exact ⟨j + 1, by omega, rfl, by first | rfl | (go_num), by rw [e]; exact hown9, HFZ⟩
    · have hjn : j = n := by omega
      subst hjn
      go_wp2_with fail
      go_ret
      exact ⟨_, rfl, by rw [← HL.out, List.take_length] at hown; exact hown, hf⟩
set_option maxRecDepth 100000 in
set_option maxHeartbeats 4000000 in
/-- The same records are. -/
theorem same7_c (A B : Option Addr) (n c c2 : Nat) (l : List (Int × List Int)) (hA : RecsAt w A l) (hB : RecsAt w B l) (hl : l.length = n) (hn : n ≤ 1000000) :
    Calls Tryd.prog 48 #[.slice A n c, .slice B n c2] w fun e w' => e = .returned (.bool true) ∧ Fr F0 w w' := by
  have HA := Lib.hid hA
  have HB := Lib.hid hB
  have HL := Lib.hid hl
  clear hA hB hl
  have n0 : (0 : Int) ≤ (n : Int) := Int.natCast_nonneg _
  go_enter Tryd.func48, Tryd.ntmps48
  go_wp2_with fail
  go_loopg [5] n (fun kq x5 wr => ∃ j : Nat, j ≤ n ∧ kq = n - j ∧ x5 = .int .i64 (j : Int) ∧ Fr F0 w wr)
  case atStart => exact ⟨0, by omega, rfl, rfl, Fr.refl _ _⟩
  case round =>
    obtain ⟨j, hj, rfl, rfl, hF⟩ := hrel
    by_cases hlt : j < n
    · have j0 : (0 : Int) ≤ (j : Int) := Int.natCast_nonneg _
      have j1 : (j : Int) < (n : Int) := by omega
      obtain ⟨⟨x, ys⟩, hx⟩ : ∃ x, l[j]? = some x := ⟨l[j]'(by rw [HL.out]; exact hlt), List.getElem?_eq_getElem _⟩
      obtain ⟨b, off, B1, cB, rfl, h1, h2, h3, h4⟩ := (HA.out.keep0 hF).row j _ hx
      obtain ⟨b2, off2, B2, cB2, rfl, g1, g2, g3, g4⟩ := (HB.out.keep0 hF).row j _ hx
      have kc : ∀ (p : Addr) (u : Value), wr.cell? p = some u → ∀ wx, Fr F0 wr wx → wx.cell? p = some u := fun p u h wx hG => (World.cell?_of_block (w := wr) (hG.block _ (World.block_lt_of_cell? wr _ h) (fun h => h))).trans h
      have kc0 := kc ⟨b, off + j * 2, none⟩ (.int .i64 x) (h1 0 _ rfl)
      have kc1 := kc ⟨b, off + j * 2 + 1, none⟩ (.slice B1 ys.length cB) h2
      have kd0 := kc ⟨b2, off2 + j * 2, none⟩ (.int .i64 x) (g1 0 _ rfl)
      have kd1 := kc ⟨b2, off2 + j * 2 + 1, none⟩ (.slice B2 ys.length cB2) g2
      have HB1 := Lib.hid h3
      have HB2 := Lib.hid g3
      clear hx h1 h2 h3 h4 g1 g2 g3 g4 kc
      go_wp2_with fail
      refine wp_region_free (S := F0) [false, false, false, false, false, false, false, false, false, false, false, false, false, false, false, false, false, true, true, true, true, true, true, true, true, true, true, true, true, true, true, true, true, true, true, true, true, true, true, true, true, true, true] [.eq (.slice (some ⟨b, off, none⟩) n c), .eq (.int .i64 (j : Int)), .eq (.pointer (some ⟨b, off + j * 2, none⟩)), .eq (.pointer (some ⟨b, off + j * 2, none⟩)), .eq (.int .i64 x), .eq (.slice (some ⟨b2, off2, none⟩) n c2), .eq (.int .i64 (j : Int)), .eq (.pointer (some ⟨b2, off2 + j * 2, none⟩)), .eq (.pointer (some ⟨b2, off2 + j * 2, none⟩)), .eq (.int .i64 x), .eq (.bool false), .eq (.bool false), .eq (.slice (some ⟨b, off, none⟩) n c), .eq (.int .i64 (j : Int)), .eq (.pointer (some ⟨b, off + j * 2, none⟩)), .eq (.pointer (some ⟨b, off + j * 2 + 1, none⟩)), .eq (.slice B1 ys.length cB), .eq (.string (strOfNums ys)), .eq (.slice (some ⟨b2, off2, none⟩) n c2), .eq (.int .i64 (j : Int)), .eq (.pointer (some ⟨b2, off2 + j * 2, none⟩)), .eq (.pointer (some ⟨b2, off2 + j * 2 + 1, none⟩)), .eq (.slice B2 ys.length cB2), .eq (.string (strOfNums ys)), .eq (.bool false), .eq (.bool false)] (by kernel_rfl) (by kernel_rfl) (by rfl) (fun us => ?steps) (fun us wr hG hall => ?fin)
      case steps =>
        simp only [fillL, Nat.reduceAdd]
        refine stepsHold.cons (fun wx hG hd K hK => ?_) ?_
        · rw [if_pos (wanted_none rfl)]
          refine wp_value (w2 := wx) (v := .slice (some ⟨b, off, none⟩) n c) ?_ (hK _ _ rfl (Fr.refl _ _))
          clear hd hG hK
          go_simp
        refine stepsHold.cons (fun wx hG hd K hK => ?_) ?_
        · rw [if_pos (wanted_none rfl)]
          refine wp_value (w2 := wx) (v := .int .i64 (j : Int)) ?_ (hK _ _ rfl (Fr.refl _ _))
          clear hd hG hK
          go_simp
        refine stepsHold.cons (fun wx hG hd K hK => ?_) ?_
        · have h17 : us 17 = (.slice (some ⟨b, off, none⟩) n c) := deps_get hd 0 rfl rfl rfl rfl rfl
          have h18 : us 18 = (.int .i64 (j : Int)) := deps_get hd 1 rfl rfl rfl rfl rfl
          rw [if_pos (wanted_none rfl)]
          refine wp_value (w2 := wx) (v := .pointer (some ⟨b, off + j * 2, none⟩)) ?_ (hK _ _ rfl (Fr.refl _ _))
          clear hd hG hK
          go_simp
        refine stepsHold.cons (fun wx hG hd K hK => ?_) ?_
        · have h19 : us 19 = (.pointer (some ⟨b, off + j * 2, none⟩)) := deps_get hd 0 rfl rfl rfl rfl rfl
          rw [if_pos (wanted_none rfl)]
          refine wp_value (w2 := wx) (v := .pointer (some ⟨b, off + j * 2, none⟩)) ?_ (hK _ _ rfl (Fr.refl _ _))
          clear hd hG hK
          go_simp
        refine stepsHold.cons (fun wx hG hd K hK => ?_) ?_
        · have h20 : us 20 = (.pointer (some ⟨b, off + j * 2, none⟩)) := deps_get hd 0 rfl rfl rfl rfl rfl
          rw [if_pos (wanted_none rfl)]
          have hc := kc0 wx hG
          refine wp_value (w2 := wx) (v := .int .i64 x) ?_ (hK _ _ rfl (Fr.refl _ _))
          clear hd hK
          go_simp
        refine stepsHold.cons (fun wx hG hd K hK => ?_) ?_
        · rw [if_pos (wanted_none rfl)]
          refine wp_value (w2 := wx) (v := .slice (some ⟨b2, off2, none⟩) n c2) ?_ (hK _ _ rfl (Fr.refl _ _))
          clear hd hG hK
          go_simp
        refine stepsHold.cons (fun wx hG hd K hK => ?_) ?_
        · rw [if_pos (wanted_none rfl)]
          refine wp_value (w2 := wx) (v := .int .i64 (j : Int)) ?_ (hK _ _ rfl (Fr.refl _ _))
          clear hd hG hK
          go_simp
        refine stepsHold.cons (fun wx hG hd K hK => ?_) ?_
        · have h22 : us 22 = (.slice (some ⟨b2, off2, none⟩) n c2) := deps_get hd 0 rfl rfl rfl rfl rfl
          have h23 : us 23 = (.int .i64 (j : Int)) := deps_get hd 1 rfl rfl rfl rfl rfl
          rw [if_pos (wanted_none rfl)]
          refine wp_value (w2 := wx) (v := .pointer (some ⟨b2, off2 + j * 2, none⟩)) ?_ (hK _ _ rfl (Fr.refl _ _))
          clear hd hG hK
          go_simp
        refine stepsHold.cons (fun wx hG hd K hK => ?_) ?_
        · have h24 : us 24 = (.pointer (some ⟨b2, off2 + j * 2, none⟩)) := deps_get hd 0 rfl rfl rfl rfl rfl
          rw [if_pos (wanted_none rfl)]
          refine wp_value (w2 := wx) (v := .pointer (some ⟨b2, off2 + j * 2, none⟩)) ?_ (hK _ _ rfl (Fr.refl _ _))
          clear hd hG hK
          go_simp
        refine stepsHold.cons (fun wx hG hd K hK => ?_) ?_
        · have h25 : us 25 = (.pointer (some ⟨b2, off2 + j * 2, none⟩)) := deps_get hd 0 rfl rfl rfl rfl rfl
          rw [if_pos (wanted_none rfl)]
          have hc := kd0 wx hG
          refine wp_value (w2 := wx) (v := .int .i64 x) ?_ (hK _ _ rfl (Fr.refl _ _))
          clear hd hK
          go_simp
        refine stepsHold.cons (fun wx hG hd K hK => ?_) ?_
        · have h21 : us 21 = (.int .i64 x) := deps_get hd 0 rfl rfl rfl rfl rfl
          have h26 : us 26 = (.int .i64 x) := deps_get hd 1 rfl rfl rfl rfl rfl
          rw [if_pos (wanted_none rfl)]
          refine wp_value (w2 := wx) (v := .bool false) ?_ (hK _ _ rfl (Fr.refl _ _))
          clear hd hG hK
          go_simp
        refine stepsHold.cons (fun wx hG hd K hK => ?_) ?_
        · have h27 : us 27 = (.bool false) := deps_get hd 0 rfl rfl rfl rfl rfl
          rw [if_pos (wanted_none rfl)]
          refine wp_value (w2 := wx) (v := .bool false) ?_ (hK _ _ rfl (Fr.refl _ _))
          clear hd hG hK
          go_simp
        refine stepsHold.cons (fun wx hG hd K hK => ?_) ?_
        · have h28 : us 28 = (.bool false) := deps_get hd 0 rfl rfl rfl rfl rfl
          rw [if_pos (wanted_yes rfl rfl rfl rfl h28)]
          refine wp_value (w2 := wx) (v := .slice (some ⟨b, off, none⟩) n c) ?_ (hK _ _ rfl (Fr.refl _ _))
          clear hd hG hK
          go_simp
        refine stepsHold.cons (fun wx hG hd K hK => ?_) ?_
        · have h28 : us 28 = (.bool false) := deps_get hd 0 rfl rfl rfl rfl rfl
          rw [if_pos (wanted_yes rfl rfl rfl rfl h28)]
          refine wp_value (w2 := wx) (v := .int .i64 (j : Int)) ?_ (hK _ _ rfl (Fr.refl _ _))
          clear hd hG hK
          go_simp
        refine stepsHold.cons (fun wx hG hd K hK => ?_) ?_
        · have h29 : us 29 = (.slice (some ⟨b, off, none⟩) n c) := deps_get hd 0 rfl rfl rfl rfl rfl
          have h30 : us 30 = (.int .i64 (j : Int)) := deps_get hd 1 rfl rfl rfl rfl rfl
          have h28 : us 28 = (.bool false) := deps_get hd 2 rfl rfl rfl rfl rfl
          rw [if_pos (wanted_yes rfl rfl rfl rfl h28)]
          refine wp_value (w2 := wx) (v := .pointer (some ⟨b, off + j * 2, none⟩)) ?_ (hK _ _ rfl (Fr.refl _ _))
          clear hd hG hK
          go_simp
        refine stepsHold.cons (fun wx hG hd K hK => ?_) ?_
        · have h31 : us 31 = (.pointer (some ⟨b, off + j * 2, none⟩)) := deps_get hd 0 rfl rfl rfl rfl rfl
          have h28 : us 28 = (.bool false) := deps_get hd 1 rfl rfl rfl rfl rfl
          rw [if_pos (wanted_yes rfl rfl rfl rfl h28)]
          refine wp_value (w2 := wx) (v := .pointer (some ⟨b, off + j * 2 + 1, none⟩)) ?_ (hK _ _ rfl (Fr.refl _ _))
          clear hd hG hK
          go_simp
        refine stepsHold.cons (fun wx hG hd K hK => ?_) ?_
        · have h32 : us 32 = (.pointer (some ⟨b, off + j * 2 + 1, none⟩)) := deps_get hd 0 rfl rfl rfl rfl rfl
          have h28 : us 28 = (.bool false) := deps_get hd 1 rfl rfl rfl rfl rfl
          rw [if_pos (wanted_yes rfl rfl rfl rfl h28)]
          have hc := kc1 wx hG
          refine wp_value (w2 := wx) (v := .slice B1 ys.length cB) ?_ (hK _ _ rfl (Fr.refl _ _))
          clear hd hK
          go_simp
        refine stepsHold.cons (fun wx hG hd K hK => ?_) ?_
        · have h33 : us 33 = (.slice B1 ys.length cB) := deps_get hd 0 rfl rfl rfl rfl rfl
          have h28 : us 28 = (.bool false) := deps_get hd 1 rfl rfl rfl rfl rfl
          rw [if_pos (wanted_yes rfl rfl rfl rfl h28)]
          have hr := conv_at ((HB1.out.keep0 hG).at_) und_bytes und_u8 und7_string cB
          refine wp_value (w2 := wx) (v := .string (strOfNums ys)) ?_ (hK _ _ rfl (Fr.refl _ _))
          clear hd hK
          go_simp
        refine stepsHold.cons (fun wx hG hd K hK => ?_) ?_
        · have h28 : us 28 = (.bool false) := deps_get hd 0 rfl rfl rfl rfl rfl
          rw [if_pos (wanted_yes rfl rfl rfl rfl h28)]
          refine wp_value (w2 := wx) (v := .slice (some ⟨b2, off2, none⟩) n c2) ?_ (hK _ _ rfl (Fr.refl _ _))
          clear hd hG hK
          go_simp
        refine stepsHold.cons (fun wx hG hd K hK => ?_) ?_
        · have h28 : us 28 = (.bool false) := deps_get hd 0 rfl rfl rfl rfl rfl
          rw [if_pos (wanted_yes rfl rfl rfl rfl h28)]
          refine wp_value (w2 := wx) (v := .int .i64 (j : Int)) ?_ (hK _ _ rfl (Fr.refl _ _))
          clear hd hG hK
          go_simp
        refine stepsHold.cons (fun wx hG hd K hK => ?_) ?_
        · have h35 : us 35 = (.slice (some ⟨b2, off2, none⟩) n c2) := deps_get hd 0 rfl rfl rfl rfl rfl
          have h36 : us 36 = (.int .i64 (j : Int)) := deps_get hd 1 rfl rfl rfl rfl rfl
          have h28 : us 28 = (.bool false) := deps_get hd 2 rfl rfl rfl rfl rfl
          rw [if_pos (wanted_yes rfl rfl rfl rfl h28)]
          refine wp_value (w2 := wx) (v := .pointer (some ⟨b2, off2 + j * 2, none⟩)) ?_ (hK _ _ rfl (Fr.refl _ _))
          clear hd hG hK
          go_simp
        refine stepsHold.cons (fun wx hG hd K hK => ?_) ?_
        · have h37 : us 37 = (.pointer (some ⟨b2, off2 + j * 2, none⟩)) := deps_get hd 0 rfl rfl rfl rfl rfl
          have h28 : us 28 = (.bool false) := deps_get hd 1 rfl rfl rfl rfl rfl
          rw [if_pos (wanted_yes rfl rfl rfl rfl h28)]
          refine wp_value (w2 := wx) (v := .pointer (some ⟨b2, off2 + j * 2 + 1, none⟩)) ?_ (hK _ _ rfl (Fr.refl _ _))
          clear hd hG hK
          go_simp
        refine stepsHold.cons (fun wx hG hd K hK => ?_) ?_
        · have h38 : us 38 = (.pointer (some ⟨b2, off2 + j * 2 + 1, none⟩)) := deps_get hd 0 rfl rfl rfl rfl rfl
          have h28 : us 28 = (.bool false) := deps_get hd 1 rfl rfl rfl rfl rfl
          rw [if_pos (wanted_yes rfl rfl rfl rfl h28)]
          have hc := kd1 wx hG
          refine wp_value (w2 := wx) (v := .slice B2 ys.length cB2) ?_ (hK _ _ rfl (Fr.refl _ _))
          clear hd hK
          go_simp
        refine stepsHold.cons (fun wx hG hd K hK => ?_) ?_
        · have h39 : us 39 = (.slice B2 ys.length cB2) := deps_get hd 0 rfl rfl rfl rfl rfl
          have h28 : us 28 = (.bool false) := deps_get hd 1 rfl rfl rfl rfl rfl
          rw [if_pos (wanted_yes rfl rfl rfl rfl h28)]
          have hr := conv_at ((HB2.out.keep0 hG).at_) und_bytes und_u8 und7_string cB2
          refine wp_value (w2 := wx) (v := .string (strOfNums ys)) ?_ (hK _ _ rfl (Fr.refl _ _))
          clear hd hK
          go_simp
        refine stepsHold.cons (fun wx hG hd K hK => ?_) ?_
        · have h34 : us 34 = (.string (strOfNums ys)) := deps_get hd 0 rfl rfl rfl rfl rfl
          have h40 : us 40 = (.string (strOfNums ys)) := deps_get hd 1 rfl rfl rfl rfl rfl
          have h28 : us 28 = (.bool false) := deps_get hd 2 rfl rfl rfl rfl rfl
          rw [if_pos (wanted_yes rfl rfl rfl rfl h28)]
          refine wp_value (w2 := wx) (v := .bool false) ?_ (hK _ _ rfl (Fr.refl _ _))
          clear hd hG hK
          go_simp
        refine stepsHold.cons (fun wx hG hd K hK => ?_) ?_
        · have h28 : us 28 = (.bool false) := deps_get hd 0 rfl rfl rfl rfl rfl
          have h41 : us 41 = (.bool false) := deps_get hd 1 rfl rfl rfl rfl rfl
          rw [if_pos (wanted_none rfl)]
          refine wp_value (w2 := wx) (v := .bool false) ?_ (hK _ _ rfl (Fr.refl _ _))
          clear hd hG hK
          go_simp
        exact stepsHold.nil
      case fin =>
        have h17 : us 17 = (.slice (some ⟨b, off, none⟩) n c) := all_get hall 0 rfl rfl rfl
        have h18 : us 18 = (.int .i64 (j : Int)) := all_get hall 1 rfl rfl rfl
        have h19 : us 19 = (.pointer (some ⟨b, off + j * 2, none⟩)) := all_get hall 2 rfl rfl rfl
        have h20 : us 20 = (.pointer (some ⟨b, off + j * 2, none⟩)) := all_get hall 3 rfl rfl rfl
        have h21 : us 21 = (.int .i64 x) := all_get hall 4 rfl rfl rfl
        have h22 : us 22 = (.slice (some ⟨b2, off2, none⟩) n c2) := all_get hall 5 rfl rfl rfl
        have h23 : us 23 = (.int .i64 (j : Int)) := all_get hall 6 rfl rfl rfl
        have h24 : us 24 = (.pointer (some ⟨b2, off2 + j * 2, none⟩)) := all_get hall 7 rfl rfl rfl
        have h25 : us 25 = (.pointer (some ⟨b2, off2 + j * 2, none⟩)) := all_get hall 8 rfl rfl rfl
        have h26 : us 26 = (.int .i64 x) := all_get hall 9 rfl rfl rfl
        have h27 : us 27 = (.bool false) := all_get hall 10 rfl rfl rfl
        have h28 : us 28 = (.bool false) := all_get hall 11 rfl rfl rfl
        have h29 : us 29 = (.slice (some ⟨b, off, none⟩) n c) := all_get hall 12 rfl rfl rfl
        have h30 : us 30 = (.int .i64 (j : Int)) := all_get hall 13 rfl rfl rfl
        have h31 : us 31 = (.pointer (some ⟨b, off + j * 2, none⟩)) := all_get hall 14 rfl rfl rfl
        have h32 : us 32 = (.pointer (some ⟨b, off + j * 2 + 1, none⟩)) := all_get hall 15 rfl rfl rfl
        have h33 : us 33 = (.slice B1 ys.length cB) := all_get hall 16 rfl rfl rfl
        have h34 : us 34 = (.string (strOfNums ys)) := all_get hall 17 rfl rfl rfl
        have h35 : us 35 = (.slice (some ⟨b2, off2, none⟩) n c2) := all_get hall 18 rfl rfl rfl
        have h36 : us 36 = (.int .i64 (j : Int)) := all_get hall 19 rfl rfl rfl
        have h37 : us 37 = (.pointer (some ⟨b2, off2 + j * 2, none⟩)) := all_get hall 20 rfl rfl rfl
        have h38 : us 38 = (.pointer (some ⟨b2, off2 + j * 2 + 1, none⟩)) := all_get hall 21 rfl rfl rfl
        have h39 : us 39 = (.slice B2 ys.length cB2) := all_get hall 22 rfl rfl rfl
        have h40 : us 40 = (.string (strOfNums ys)) := all_get hall 23 rfl rfl rfl
        have h41 : us 41 = (.bool false) := all_get hall 24 rfl rfl rfl
        have h42 : us 42 = (.bool false) := all_get hall 25 rfl rfl rfl
        simp only [fillL, Nat.reduceAdd]
        clear hall
        simp only [h17, h18, h19, h20, h21, h22, h23, h24, h25, h26, h27, h28, h29, h30, h31, h32, h33, h34, h35, h36, h37, h38, h39, h40, h41, h42]
        clear h17 h18 h19 h20 h21 h22 h23 h24 h25 h26 h27 h28 h29 h30 h31 h32 h33 h34 h35 h36 h37 h38 h39 h40 h41 h42
        go_wp2_with fail
        go_roundg (n - (j + 1))
        case measure => omega
        case rel => exact ⟨j + 1, by omega, rfl, by first | rfl | (go_num), hF.then0 hG⟩
    · have hjn : j = n := by omega
      subst hjn
      go_wp2_with fail
      go_ret
      exact ⟨rfl, hF⟩
end
end Go.Proofs.YtdeckbdaencjnaaDoor
set_option linter.unusedVariables false
set_option linter.unusedSimpArgs false
namespace Go.Proofs.YtdeckbdaencjnaaDoor
open Go.RowKit
/-- Force, of a log that holds its records. -/
theorem LogIn.force {b : Nat} {w : World} {lg db lb mb : Nat} {L : Lg} {D : Dev} (h : LogIn b w lg db lb mb L D) {E : Int} {L' : Lg} {D' : Dev} (h1 : L.forceE D = E) (h2 : L.force D = L') (h3 : L.forceD D = D') :
    Calls Tryd.prog 47 #[.pointer (some ⟨lg, 0, none⟩)] w fun e w' => e = .returned (.int .i64 E) ∧ LogIn b w' lg db lb mb L' D' ∧ Fr (Lv lg db lb mb) w w' := by
  refine (force7_c h.log h.dev h.ap).mono ?_
  rintro e w' ⟨rfl, g1, g2, hf⟩
  rw [h1]
  rw [h2] at g1
  rw [h3] at g2
  exact ⟨rfl, h.step g1 g2, hf⟩
/-- What was forced is told, whatever the epoch. -/
theorem Laid.again {L : Lg} {D : Dev} {n : Nat} {R : List (List Int)} (h : Laid L D n R (fun _ => zsec)) {epoch : Int} (he : L.epoch < epoch) :
    opened D L.r.from_ L.r.size L.r.head epoch = (recsAt L.r.head R, L.r.tail) :=
  h.opens (fun hlt => by rw [h.rest _ (Int.le_refl _) hlt]; exact zsec_read) (fun _ _ _ => rfl) he
section
variable {w : World}
set_option maxRecDepth 100000 in
set_option maxHeartbeats 4000000 in
theorem again_walk (A0 : Option Addr) (n0 c0 : Nat) (xs : List Int) (kn : Int) (hl0 : xs.length = n0) (hV0 : ValsAt w A0 (xs.map (Value.int .i64))) (hn0 : n0 ≤ 9223372036854775807) :
    Calls Tryd.prog 12 #[.slice A0 n0 c0, .int .i64 kn] w fun e w' => e = .returned (.bool true) ∧ Fr F0 w w' := by
  have HL0 := Lib.hid hl0
  have HV0 := Lib.hid hV0
  clear hl0 hV0
  have a0 : (0 : Int) ≤ (n0 : Int) := Int.natCast_nonneg _
  by_cases hbig : 20 < n0
  · have hb0 : (20 : Int) < (n0 : Int) := by omega
    go_enter Tryd.func12, Tryd.ntmps12
    go_wp2_with fail
    refine (awake7_c).mono ?_
    rintro e w1 ⟨rfl, hf1⟩
    go_wp2_with fail
    go_ret
    exact ⟨rfl, hf1⟩
  have hb0 : ¬ (20 : Int) < (n0 : Int) := by omega
  obtain ⟨p1, p2, p3⟩ := Laid.new (n := 64) (from_ := 0) (size := 64) (head := 0) (epoch := 1) ⟨by decide, by decide, by decide, by decide, by decide, by decide, by decide, by decide⟩ (by decide) (by decide) (by decide)
  have P1 := Lib.hid p1
  have P3 := Lib.hid p3
  have PN : Hid (logMay (Dev.new 64) 0 64 0 1 = 0) := Lib.hid (logMay_new (n := 64) (by decide) (by decide) (by decide) (by decide) (by decide) (by decide) (by decide) rfl (by simp [Dev.new]))
  clear p1 p2 p3
  go_enter Tryd.func12, Tryd.ntmps12
  go_wp2_with fail
  refine (awake7_c).mono ?_
  rintro e w1 ⟨rfl, hf1⟩
  go_wp2_with fail
  refine (new_c 64 (by decide) (by decide) _).mono ?_
  rintro e w2 ⟨db, lb, mb, rfl, h1, n1, n2, n3, hf2⟩
  go_wp2_with fail
  refine (wopen_c h1 (SecBys.new 64) 0 64 0 1).mono ?_
  rintro e w3 ⟨-, hgood, hf3⟩
  obtain ⟨lg, v3, rfl, hlg, hlog, -⟩ := hgood PN.out
  rw [P1.out] at hlog
  have HIN : Hid (LogIn w.heap.size w3 lg db lb mb ⟨⟨0, 64, 0, 0⟩, 1, 0, false⟩ (Dev.new 64)) := Lib.hid (by
    have z1 := hf1.size
    have z2 := hf2.size
    refine ⟨hlog, h1.keep0 hf3, ?_, ?_⟩
    · have := h1.lt
      rintro (h | h | h) <;> omega
    · rintro k (h | h | h | h) <;> omega)
  have HF3 := Lib.hid ((hf1.then0 hf2).then0 hf3)
  clear hgood hlog h1 n1 n2 n3 hlg hf1 hf2 hf3
  go_wp2_with fail
  go_loopg [11, 12, 13, 14] n0 (fun kq x11 x12 x13 x14 wr => ∃ j : Nat, j ≤ n0 ∧ kq = n0 - j ∧ x12 = .int .i64 (j : Int) ∧ ∃ L D R, x11 = .int .i64 ((R.length : Nat) : Int) ∧ R.length ≤ j ∧ LogIn w.heap.size wr lg db lb mb L D ∧ Laid L D 64 R (fun _ => zsec) ∧ (L.epoch = 1 ∧ L.r.from_ = 0 ∧ L.r.size = 64 ∧ L.r.head = 0) ∧ Fr F0 w wr)
  case atStart => exact ⟨0, by omega, rfl, rfl, _, _, [], rfl, Nat.le_refl _, HIN.out, P3.out, ⟨rfl, rfl, rfl, rfl⟩, HF3.out⟩
  case round =>
    obtain ⟨j, hj, rfl, rfl, L, D, R, rfl, hRj, hin, hlaid, hnum, hfr⟩ := hrel
    obtain ⟨rl, hrl⟩ : ∃ rl, rl = R.length := ⟨_, rfl⟩
    have HRL := Lib.hid hrl
    rw [← hrl]
    rw [← hrl] at hRj
    have HI := Lib.hid hin
    have HLA := Lib.hid hlaid
    have HNU := Lib.hid hnum
    have HF := Lib.hid hfr
    clear hin hlaid hnum hfr hrl
    have rl0 : (0 : Int) ≤ (rl : Int) := Int.natCast_nonneg _
    by_cases hlt : j < n0
    · have j0 : (0 : Int) ≤ (j : Int) := Int.natCast_nonneg _
      have j1 : (j : Int) < (n0 : Int) := by omega
      obtain ⟨x, hx⟩ : ∃ x, xs[j]? = some x := ⟨xs[j]'(by rw [HL0.out]; exact hlt), List.getElem?_eq_getElem _⟩
      obtain ⟨ad, rfl, hc⟩ := (HV0.out.keep0 HF.out).cells (by rw [List.length_map, HL0.out]; omega)
      have gx : wr.cell? (ad.add j) = some (.int .i64 x) := hc j _ (by simp [hx])
      obtain ⟨m, hm⟩ : ∃ m : Nat, x % 128 = (m : Int) := ⟨(x % 128).toNat, by omega⟩
      have hm1 : m < 128 := by omega
      have hband : bits .and .i64 x 127 = (m : Int) := by rw [← hm]; exact i64_and x 7 (by decide)
      have hjb : IntKind.u8.wrap (j : Int) = (j : Int) := by rw [IntKind.wrap_u8]; omega
      clear hc hx hm
      go_wp2_with fail
      refine (some_c m (by omega) (j : Int) (by omega) (by omega)).mono ?_
      rintro e w4 ⟨v4, rfl, hov⟩
      obtain ⟨A4, c4, rfl, hby, -⟩ := hov.byt
      have HI4 := Lib.hid (HI.out.keep0 hov.fr)
      have HF4 := Lib.hid (HF.out.then0 hov.fr)
      have HBY := Lib.hid hby
      obtain ⟨ys, hys⟩ : ∃ ys, ys = someL m (j : Int) := ⟨_, rfl⟩
      rw [← hys] at HBY ⊢
      have HYB : Hid (Bys ys) := Lib.hid (by rw [hys]; exact someL_bys _ _)
      have HYL : Hid (ys.length ≤ 44000) := Lib.hid (by rw [hys, someL_len]; omega)
      clear hov hby hys
      go_wp2_with fail
      refine (HI4.out.append HLA.out A4 c4 ys HBY.out HYB.out HYL.out).mono ?_
      rintro e w5 ⟨rfl, hin5, hf5⟩
      have HI5 := Lib.hid hin5
      have HF5 := Lib.hid (HI4.out.fr HF4.out hf5)
      clear hin5 hf5
      obtain ⟨e1, e2, e3, e4⟩ := HNU.out
      rcases HLA.out.app HYB.out HYL.out with ⟨_, _, u2, u3, u4, u5, _⟩ | ⟨u2, u3, _, u5, _, hla7⟩
      · rw [u2, u3]
        rw [u4, u5] at HI5
        clear u2 u3 u4 u5 e1 e2 e3 e4
        go_wp2_with fail
        go_roundg (n0 - (j + 1))
        case measure => omega
        case rel => exact ⟨j + 1, by omega, rfl, by first | rfl | (go_num), _, _, R, by rw [← HRL.out], by rw [← HRL.out]; omega, HI5.out, HLA.out, HNU.out, HF5.out⟩
      · rw [u2, u3]
        rw [u5] at HI5
        have HLA7 := Lib.hid hla7
        obtain ⟨tl, htl⟩ : ∃ tl, tl = L.r.tail := ⟨_, rfl⟩
        rw [← htl]
        clear u2 u3 u5 hla7 htl e1 e2 e3 e4
        go_wp2_with fail
        go_roundg (n0 - (j + 1))
        case measure => omega
        case rel => exact ⟨j + 1, by omega, rfl, by first | rfl | (go_num), _, _, R ++ [ys], by rw [List.length_append, ← HRL.out]; rfl, by rw [List.length_append, ← HRL.out]; simp; omega, HI5.out, HLA7.out, HNU.out, HF5.out⟩
    · have hjn : j = n0 := by omega
      subst hjn
      obtain ⟨g1, g2, g3, g4, g5⟩ := HLA.out.force
      obtain ⟨L2, hL2⟩ : ∃ L2 : Lg, L2 = { L with safe := L.r.tail } := ⟨_, rfl⟩
      rw [← hL2] at g2 g4
      obtain ⟨tl, htl⟩ : ∃ tl, tl = L2.r.tail := ⟨_, rfl⟩
      have hs2 : L2.safe = tl := by rw [htl, hL2]
      have he2 : L2.epoch = 1 := by rw [hL2]; exact HNU.out.1
      have hop : ∀ epoch : Int, 1 < epoch → opened D.flush 0 64 0 epoch = (recsAt 0 R, tl) := by
        intro epoch he
        have := g4.again (epoch := epoch) (by rw [he2]; exact he)
        rw [show L2.r.from_ = 0 by rw [hL2]; exact HNU.out.2.1, show L2.r.size = 64 by rw [hL2]; exact HNU.out.2.2.1, show L2.r.head = 0 by rw [hL2]; exact HNU.out.2.2.2, ← htl] at this
        exact this
      have hmay : ∀ epoch : Int, 1 ≤ epoch → epoch ≤ 10 → logMay D.flush 0 64 0 epoch = 0 := fun epoch q1 q2 => logMay_new (n := 64) (by decide) (by decide) (by decide) (by decide) (by decide) q1 (by omega) g4.good.gone g4.good.laid
      have HOP := Lib.hid hop
      have HMAY := Lib.hid hmay
      have HTL := Lib.hid htl
      have HS2 := Lib.hid hs2
      have HSB := Lib.hid g4.bys
      have HGF : Hid (L.forceE D = 0 ∧ L.force D = L2 ∧ L.forceD D = D.flush) := Lib.hid ⟨g1, g2, g3⟩
      obtain ⟨D2, hD2⟩ : ∃ D2, D2 = D.flush := ⟨_, rfl⟩
      rw [← hD2] at HOP HMAY HSB HGF
      obtain ⟨m, hm⟩ : ∃ m : Nat, kn % 4 = (m : Int) := ⟨(kn % 4).toNat, by omega⟩
      have hm1 : m < 4 := by omega
      have hband : bits .and .i64 kn 3 = (m : Int) := by rw [← hm]; exact i64_and kn 2 (by decide)
      have m0 : (0 : Int) ≤ (m : Int) := Int.natCast_nonneg _
      clear g1 g2 g3 g4 g5 hop hmay htl hs2 he2 hL2 hD2 hm
      go_wp2_with fail
      refine (HI.out.force HGF.out.1 HGF.out.2.1 HGF.out.2.2).mono ?_
      rintro e w6 ⟨rfl, hin6, hf6⟩
      have HF6 := Lib.hid (HI.out.fr HF.out hf6)
      have HI6 := Lib.hid hin6
      clear hin6 hf6
      go_wp2_with fail
      go_loopg [15, 16, 17, 18, 19] (1 + m) (fun kq x15 x16 x17 x18 x19 wr => ∃ i : Nat, i ≤ 1 + m ∧ kq = 1 + m - i ∧ x16 = .int .i64 (i : Int) ∧ (0 < i → ∃ A c, x15 = .slice A rl c ∧ RecsAt wr A (recsAt 0 R)) ∧ LogIn w.heap.size wr lg db lb mb L2 D2 ∧ Fr F0 w wr)
      case atStart => exact ⟨0, by omega, rfl, rfl, fun h => absurd h (Nat.lt_irrefl 0), HI6.out, HF6.out⟩
      case round =>
        obtain ⟨i, hi, rfl, rfl, hfirst, hin7, hf7⟩ := hrel
        have HFI := Lib.hid hfirst
        have HI7 := Lib.hid hin7
        have HF7 := Lib.hid hf7
        clear hfirst hin7 hf7
        have i0 : (0 : Int) ≤ (i : Int) := Int.natCast_nonneg _
        by_cases hil : i < 1 + m
        · have i1 : (i : Int) < 1 + (m : Int) := by omega
          have i2 : (i : Int) ≤ 5 := by omega
          go_wp2_with fail
          refine (wopen_c HI7.out.dev HSB.out 0 64 0 (2 + (i : Int))).mono ?_
          rintro e w8 ⟨-, hgood, hf8⟩
          obtain ⟨lg2, v8, rfl, -, hlog8, hrecs8⟩ := hgood (HMAY.out _ (by omega) (by omega))
          have HL8 := Lib.hid hlog8
          obtain ⟨A8, c8, rfl, hra8, hrc8, -⟩ := OwnRowB.reads (head := recHead) (byt := fun x : Int × List Int => x.2) (hd := 1) (fun _ => rfl) hrecs8
          rw [HOP.out _ (by omega)] at hra8
          have hlen8 : (opened D2 0 64 0 (2 + (i : Int))).1.length = rl := by rw [HOP.out _ (by omega), recsAt_len, HRL.out]
          rw [hlen8]
          have HR8 := Lib.hid hra8
          have HI8 := Lib.hid (HI7.out.keep0 hf8)
          have HF8 := Lib.hid (HF7.out.then0 hf8)
          have HFR8 := Lib.hid hf8
          obtain ⟨L8, hL8⟩ : ∃ L8 : Lg, L8 = openL D2 0 64 0 (2 + (i : Int)) := ⟨_, rfl⟩
          rw [← hL8] at HL8
          have hT8 : L8.r.tail = tl := by rw [hL8]; show (opened D2 0 64 0 (2 + (i : Int))).2 = tl; rw [HOP.out _ (by omega)]
          have hS8 : L8.safe = tl := by rw [hL8]; show (opened D2 0 64 0 (2 + (i : Int))).2 = tl; rw [HOP.out _ (by omega)]
          have hH8 : L8.r.head = 0 := by rw [hL8]; rfl
          have HT8 := Lib.hid hT8
          have HS8 := Lib.hid hS8
          have HH8 := Lib.hid hH8
          clear hgood hf8 hlog8 hrecs8 hra8 hrc8 hlen8 hL8 hT8 hS8 hH8
          go_wp2_with fail
          refine (tail7_c HL8.out).mono ?_
          rintro e w9 ⟨rfl, rfl⟩
          rw [HT8.out]
          go_wp2_with fail
          refine (tail7_c HI8.out.log).mono ?_
          rintro e w9 ⟨rfl, rfl⟩
          rw [← HTL.out]
          go_wp2_with fail
          refine (safe7_c HL8.out).mono ?_
          rintro e w9 ⟨rfl, rfl⟩
          rw [HS8.out]
          go_wp2_with fail
          refine (tail7_c HI8.out.log).mono ?_
          rintro e w9 ⟨rfl, rfl⟩
          rw [← HTL.out]
          go_wp2_with fail
          refine (head7_c HL8.out).mono ?_
          rintro e w9 ⟨rfl, rfl⟩
          rw [HH8.out]
          by_cases hi0 : i = 0
          · subst hi0
            have zz : ¬ (0 : Int) < ((0 : Nat) : Int) := by decide
            go_wp2_with fail
            go_roundg (1 + m - (0 + 1))
            case measure => omega
            case rel => exact ⟨0 + 1, by omega, rfl, by first | rfl | (go_num), fun _ => ⟨_, _, rfl, HR8.out⟩, HI8.out, HF8.out⟩
          · have ip : (0 : Int) < (i : Int) := by omega
            obtain ⟨A7, c7, rfl, hra7⟩ := HFI.out (by omega)
            have HR7 := Lib.hid (hra7.keep0 HFR8.out)
            clear hra7
            have hrlen : (recsAt 0 R).length = rl := by rw [recsAt_len, HRL.out]
            have HRLEN := Lib.hid hrlen
            clear hrlen
            have hr20 : rl ≤ 20 := by omega
            go_wp2_with fail
            refine (theirs7_c A8 rl c8 (recsAt 0 R) HR8.out HRLEN.out (by omega)).mono ?_
            rintro e w9 ⟨v9, rfl, ho9, hf9⟩
            obtain ⟨A9, c9, hv9, hra9, -, -⟩ := OwnRowC.reads (head := recHead) (byt := fun x : Int × List Int => x.2) (hd := 1) (fun _ => rfl) ho9
            rw [HRLEN.out] at hv9
            subst hv9
            have HR9 := Lib.hid hra9
            have HF9 := Lib.hid hf9
            clear ho9 hra9 hf9
            go_wp2_with fail
            refine (theirs7_c A7 rl c7 (recsAt 0 R) (HR7.out.keep0 HF9.out) HRLEN.out (by omega)).mono ?_
            rintro e w10 ⟨v10, rfl, ho10, hf10⟩
            obtain ⟨A10, c10, hv10, hra10, -, -⟩ := OwnRowC.reads (head := recHead) (byt := fun x : Int × List Int => x.2) (hd := 1) (fun _ => rfl) ho10
            rw [HRLEN.out] at hv10
            subst hv10
            have HR10 := Lib.hid hra10
            have HF10 := Lib.hid hf10
            clear ho10 hra10 hf10
            go_wp2_with fail
            refine (same7_c A9 A10 rl c9 c10 (recsAt 0 R) (HR9.out.keep0 HF10.out) HR10.out HRLEN.out (by omega)).mono ?_
            rintro e w11 ⟨rfl, hf11⟩
            have HFF := Lib.hid ((HF9.out.then0 HF10.out).then0 hf11)
            clear hf11
            go_wp2_with fail
            go_roundg (1 + m - (i + 1))
            case measure => omega
            case rel => exact ⟨i + 1, by omega, rfl, by first | rfl | (go_num), fun _ => ⟨_, _, rfl, HR8.out.keep0 HFF.out⟩, HI8.out.keep0 HFF.out, HF8.out.then0 HFF.out⟩
        · have hin : i = 1 + m := by omega
          subst hin
          have i1 : ¬ ((1 + m : Nat) : Int) < 1 + (m : Int) := by omega
          go_wp2_with fail
          refine (safe7_c HI7.out.log).mono ?_
          rintro e w9 ⟨rfl, rfl⟩
          rw [HS2.out]
          go_wp2_with fail
          refine (tail7_c HI7.out.log).mono ?_
          rintro e w9 ⟨rfl, rfl⟩
          rw [← HTL.out]
          go_wp2_with fail
          go_ret
          exact ⟨rfl, HF7.out⟩
end
end Go.Proofs.YtdeckbdaencjnaaDoor
