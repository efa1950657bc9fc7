/-
  Locks as plain data; order, strong, mode, sound. heronry/locks: Sane, of a table that is. Conditions: none.
-/
import Derived.Test.YtgbaijfgmeealaaGreatT9e
set_option linter.unusedVariables false
set_option linter.unusedSimpArgs false
namespace Go.Proofs.YtgbaijfgmeealaaGreat
open Go.RowKit
structure Lk where
  block : Int
  tx : Int
  held : Int
  kept : Int
def Lk.cells (x : Lk) : List Value := [.int .i64 x.block, .int .i64 x.tx, .int .i64 x.held, .int .i64 x.kept]
def Lk.zero : Lk := ⟨0, 0, 0, 0⟩
theorem Lk.len (x : Lk) : x.cells.length = 4 := rfl
theorem Lk.pos (x : Lk) : 0 < x.cells.length := by rw [Lk.len]; decide
theorem Lk.one (x : Lk) : ∀ u ∈ x.cells, u.oneCell' = true := by
  intro v hv
  simp only [Lk.cells, List.mem_cons, List.not_mem_nil, or_false] at hv
  rcases hv with rfl | rfl | rfl | rfl <;> rfl
abbrev LksAt (w : World) (A : Option Addr) (L : List Lk) : Prop := SrAt 4 Lk.cells w A L
abbrev lkV (x : Lk) : Value := .agg #[.int .i64 x.block, .int .i64 x.tx, .int .i64 x.held, .int .i64 x.kept]
def cmpI (a b : Int) : Int := if a < b then -1 else if b < a then 1 else 0
def ordI (l m : Lk) : Int := if cmpI l.block m.block ≠ 0 then cmpI l.block m.block else cmpI l.tx m.tx
def Lk.strong (x : Lk) : Int := max x.held x.kept
def modeB (m : Int) : Bool := decide (0 ≤ m) && decide (m ≤ 2)
def Lk.sound (x : Lk) : Bool := decide (0 ≤ x.block) && decide (x.block < 256) && decide (0 ≤ x.tx) && decide (x.tx < 64) && modeB x.held && modeB x.kept && decide (0 < x.strong)
section
variable {w : World}
set_option maxRecDepth 100000 in
theorem isnan_c (a : Int) : Calls Tryz.prog 98 #[.int .i64 a] w fun e w' => e = .returned (.bool false) ∧ Fr F0 w w' := by
  go_enter Tryz.func98, Tryz.ntmps98
  go_wp2_with fail
  go_ret
  exact ⟨by first | rfl | simp, Fr.refl _ _⟩
set_option maxRecDepth 100000 in
theorem compare_c (a b : Int) : Calls Tryz.prog 80 #[.int .i64 a, .int .i64 b] w fun e w' => e = .returned (.int .i64 (cmpI a b)) ∧ Fr F0 w w' := by
  have hstep : ∀ (r : Int), cmpI a b = r → ∀ e w', e = Ending.returned (.int .i64 r) ∧ Fr F0 w w' → e = .returned (.int .i64 (cmpI a b)) ∧ Fr F0 w w' := fun r h e w' h2 => by rw [h]; exact h2
  by_cases h1 : a < b
  · have e1 : cmpI a b = -1 := by unfold cmpI; rw [if_pos h1]
    rw [e1]
    clear hstep e1
    go_enter Tryz.func80, Tryz.ntmps80
    go_wp2_with fail
    refine (isnan_c a).mono ?_
    rintro e w1 ⟨rfl, hf1⟩
    go_wp2_with fail
    refine (isnan_c b).mono ?_
    rintro e w2 ⟨rfl, hf2⟩
    go_wp2_with fail
    go_ret
    exact ⟨rfl, hf1.then0 hf2⟩
  · by_cases h2 : b < a
    · have e1 : cmpI a b = 1 := by unfold cmpI; rw [if_neg h1, if_pos h2]
      rw [e1]
      clear hstep e1
      go_enter Tryz.func80, Tryz.ntmps80
      go_wp2_with fail
      refine (isnan_c a).mono ?_
      rintro e w1 ⟨rfl, hf1⟩
      go_wp2_with fail
      refine (isnan_c b).mono ?_
      rintro e w2 ⟨rfl, hf2⟩
      go_wp2_with fail
      go_ret
      exact ⟨rfl, hf1.then0 hf2⟩
    · have e1 : cmpI a b = 0 := by unfold cmpI; rw [if_neg h1, if_neg h2]
      rw [e1]
      clear hstep e1
      go_enter Tryz.func80, Tryz.ntmps80
      go_wp2_with fail
      refine (isnan_c a).mono ?_
      rintro e w1 ⟨rfl, hf1⟩
      go_wp2_with fail
      refine (isnan_c b).mono ?_
      rintro e w2 ⟨rfl, hf2⟩
      go_wp2_with fail
      go_ret
      exact ⟨rfl, hf1.then0 hf2⟩
set_option maxRecDepth 100000 in
theorem or_c (g : Nat) (a b : Int) (hg : w.heap[g]? = some (.cells #[.int .i64 a, .int .i64 b] 3 (0, 0))) : Calls Tryz.prog 79 #[.slice (some ⟨g, 0, none⟩) 2 2] w fun e w' => e = .returned (.int .i64 (if a ≠ 0 then a else b)) ∧ Fr F0 w w' := by
  have c0 : w.cell? ⟨g, 0, none⟩ = some (.int .i64 a) := by rw [cell_of hg]; rfl
  have c1 : w.cell? ⟨g, 1, none⟩ = some (.int .i64 b) := by rw [cell_of hg]; rfl
  by_cases ha : a = 0
  · subst ha
    rw [if_neg (by simp)]
    by_cases hb : b = 0
    · subst hb
      go_enter Tryz.func79, Tryz.ntmps79
      go_wp2_with fail
      go_rounds 3
      go_wp2_with fail
      go_ret
      exact ⟨rfl, Fr.refl _ _⟩
    · have hb' : (b != 0) = true := by simp [hb]
      go_enter Tryz.func79, Tryz.ntmps79
      go_wp2_with fail
      go_rounds 3
      go_wp2_with fail
      go_ret
      exact ⟨rfl, Fr.refl _ _⟩
  · rw [if_pos ha]
    have ha' : (a != 0) = true := by simp [ha]
    go_enter Tryz.func79, Tryz.ntmps79
    go_wp2_with fail
    go_rounds 3
    go_wp2_with fail
    go_ret
    exact ⟨rfl, Fr.refl _ _⟩
set_option maxRecDepth 100000 in
theorem order_c (l m : Lk) : Calls Tryz.prog 59 #[lkV l, lkV m] w fun e w' => e = .returned (.int .i64 (ordI l m)) ∧ Fr F0 w w' := by
  have HL : Hid (((w.alloc (.cells l.cells.toArray 78)).alloc (.cells m.cells.toArray 78)).heap[w.heap.size]? = some (.cells l.cells.toArray 78 (0, 0))) := Lib.hid (keep_alloc (alloc_at rfl _) _)
  have HM : Hid (((w.alloc (.cells l.cells.toArray 78)).alloc (.cells m.cells.toArray 78)).heap[w.heap.size + 1]? = some (.cells m.cells.toArray 78 (0, 0))) := Lib.hid (alloc_at (by simp) _)
  have HF : Hid (Fr F0 w ((w.alloc (.cells l.cells.toArray 78)).alloc (.cells m.cells.toArray 78))) := Lib.hid (((Fr.refl F0 w).alloc _).alloc _)
  go_enter Tryz.func59, Tryz.ntmps59
  go_wp2_with fail
  refine wp_region_free (S := F0) [false, false, false, false, true, true, true, true, true, true, true, true, true, true, true, true, true] [.eq (.pointer (some ⟨w.heap.size, 0, none⟩)), .eq (.int .i64 l.block), .eq (.pointer (some ⟨w.heap.size + 1, 0, none⟩)), .eq (.int .i64 m.block), .eq (.int .i64 (cmpI l.block m.block)), .eq (.pointer (some ⟨w.heap.size, 1, none⟩)), .eq (.int .i64 l.tx), .eq (.pointer (some ⟨w.heap.size + 1, 1, none⟩)), .eq (.int .i64 m.tx), .eq (.int .i64 (cmpI l.tx m.tx)), ⟨fun v w' => ∃ b, v = .slice (some ⟨b, 0, none⟩) 2 2 ∧ w'.heap[b]? = some (.cells #[.int .i64 (cmpI l.block m.block), .int .i64 (cmpI l.tx m.tx)] 3 (0, 0)), fun v w' w'' ⟨b, h1, h2⟩ hf => ⟨b, h1, hf.keep0 h2⟩⟩, .eq (.int .i64 (ordI l m)), .eq (.int .i64 (ordI l m))] (by kernel_rfl) (by kernel_rfl) (by rfl) (fun us => ?steps) (fun us wz hG hall => ?fin)
  case steps =>
    simp only [fillL, Nat.reduceAdd]
    refine stepsHold.cons (fun wx hG hd K hK => ?_) ?_
    · rw [if_pos (wanted_none rfl)]
      refine wp_value (w2 := wx) (v := .pointer (some ⟨w.heap.size, 0, none⟩)) ?_ (hK _ _ rfl (Fr.refl _ _))
      clear hd hG hK
      go_simp
    refine stepsHold.cons (fun wx hG hd K hK => ?_) ?_
    · have h5 : us 5 = (.pointer (some ⟨w.heap.size, 0, none⟩)) := deps_get hd 0 rfl rfl rfl rfl rfl
      rw [if_pos (wanted_none rfl)]
      have hc : wx.cell? ⟨w.heap.size, 0, none⟩ = some (.int .i64 l.block) := by rw [cell_of (hG.keep0 HL.out)]; rfl
      refine wp_value (w2 := wx) (v := .int .i64 l.block) ?_ (hK _ _ rfl (Fr.refl _ _))
      clear hd hK
      go_simp
    refine stepsHold.cons (fun wx hG hd K hK => ?_) ?_
    · rw [if_pos (wanted_none rfl)]
      refine wp_value (w2 := wx) (v := .pointer (some ⟨w.heap.size + 1, 0, none⟩)) ?_ (hK _ _ rfl (Fr.refl _ _))
      clear hd hG hK
      go_simp
    refine stepsHold.cons (fun wx hG hd K hK => ?_) ?_
    · have h7 : us 7 = (.pointer (some ⟨w.heap.size + 1, 0, none⟩)) := deps_get hd 0 rfl rfl rfl rfl rfl
      rw [if_pos (wanted_none rfl)]
      have hc : wx.cell? ⟨w.heap.size + 1, 0, none⟩ = some (.int .i64 m.block) := by rw [cell_of (hG.keep0 HM.out)]; rfl
      refine wp_value (w2 := wx) (v := .int .i64 m.block) ?_ (hK _ _ rfl (Fr.refl _ _))
      clear hd hK
      go_simp
    refine stepsHold.cons (fun wx hG hd K hK => ?_) ?_
    · have h6 : us 6 = (.int .i64 l.block) := deps_get hd 0 rfl rfl rfl rfl rfl
      have h8 : us 8 = (.int .i64 m.block) := deps_get hd 1 rfl rfl rfl rfl rfl
      rw [if_pos (wanted_none rfl)]
      refine wp_call (w2 := wx) (f := 80) (args := #[.int .i64 l.block, .int .i64 m.block]) ?_ ?_
      · clear hd hK
        go_simp
      · refine ((compare_c (w := wx) l.block m.block)).mono ?_
        rintro e w9 ⟨rfl, hf⟩
        exact ⟨_, rfl, hK _ _ rfl hf⟩
    refine stepsHold.cons (fun wx hG hd K hK => ?_) ?_
    · rw [if_pos (wanted_none rfl)]
      refine wp_value (w2 := wx) (v := .pointer (some ⟨w.heap.size, 1, none⟩)) ?_ (hK _ _ rfl (Fr.refl _ _))
      clear hd hG hK
      go_simp
    refine stepsHold.cons (fun wx hG hd K hK => ?_) ?_
    · have h10 : us 10 = (.pointer (some ⟨w.heap.size, 1, none⟩)) := deps_get hd 0 rfl rfl rfl rfl rfl
      rw [if_pos (wanted_none rfl)]
      have hc : wx.cell? ⟨w.heap.size, 1, none⟩ = some (.int .i64 l.tx) := by rw [cell_of (hG.keep0 HL.out)]; rfl
      refine wp_value (w2 := wx) (v := .int .i64 l.tx) ?_ (hK _ _ rfl (Fr.refl _ _))
      clear hd hK
      go_simp
    refine stepsHold.cons (fun wx hG hd K hK => ?_) ?_
    · rw [if_pos (wanted_none rfl)]
      refine wp_value (w2 := wx) (v := .pointer (some ⟨w.heap.size + 1, 1, none⟩)) ?_ (hK _ _ rfl (Fr.refl _ _))
      clear hd hG hK
      go_simp
    refine stepsHold.cons (fun wx hG hd K hK => ?_) ?_
    · have h12 : us 12 = (.pointer (some ⟨w.heap.size + 1, 1, none⟩)) := deps_get hd 0 rfl rfl rfl rfl rfl
      rw [if_pos (wanted_none rfl)]
      have hc : wx.cell? ⟨w.heap.size + 1, 1, none⟩ = some (.int .i64 m.tx) := by rw [cell_of (hG.keep0 HM.out)]; rfl
      refine wp_value (w2 := wx) (v := .int .i64 m.tx) ?_ (hK _ _ rfl (Fr.refl _ _))
      clear hd hK
      go_simp
    refine stepsHold.cons (fun wx hG hd K hK => ?_) ?_
    · have h11 : us 11 = (.int .i64 l.tx) := deps_get hd 0 rfl rfl rfl rfl rfl
      have h13 : us 13 = (.int .i64 m.tx) := deps_get hd 1 rfl rfl rfl rfl rfl
      rw [if_pos (wanted_none rfl)]
      refine wp_call (w2 := wx) (f := 80) (args := #[.int .i64 l.tx, .int .i64 m.tx]) ?_ ?_
      · clear hd hK
        go_simp
      · refine ((compare_c (w := wx) l.tx m.tx)).mono ?_
        rintro e w9 ⟨rfl, hf⟩
        exact ⟨_, rfl, hK _ _ rfl hf⟩
    refine stepsHold.cons (fun wx hG hd K hK => ?_) ?_
    · have h9 : us 9 = (.int .i64 (cmpI l.block m.block)) := deps_get hd 0 rfl rfl rfl rfl rfl
      have h14 : us 14 = (.int .i64 (cmpI l.tx m.tx)) := deps_get hd 1 rfl rfl rfl rfl rfl
      rw [if_pos (wanted_none rfl)]
      refine wp_value (w2 := wx.alloc (.cells #[.int .i64 (cmpI l.block m.block), .int .i64 (cmpI l.tx m.tx)] 3)) (v := .slice (some ⟨wx.heap.size, 0, none⟩) 2 2) ?_ (hK _ _ ⟨_, rfl, alloc_at rfl _⟩ ((Fr.refl _ _).alloc _))
      clear hd hG hK
      go_simp
    refine stepsHold.cons (fun wx hG hd K hK => ?_) ?_
    · have h15 := deps_get hd 0 rfl rfl rfl rfl rfl
      rw [if_pos (wanted_none rfl)]
      obtain ⟨g, hg1, hg2⟩ := h15
      refine wp_call (w2 := wx) (f := 79) (args := #[.slice (some ⟨g, 0, none⟩) 2 2]) ?_ ?_
      · clear hd hK
        go_simp
      · refine (or_c (w := wx) g (cmpI l.block m.block) (cmpI l.tx m.tx) hg2).mono ?_
        rintro e w9 ⟨rfl, hf⟩
        exact ⟨_, rfl, hK _ _ rfl hf⟩
    refine stepsHold.cons (fun wx hG hd K hK => ?_) ?_
    · have h16 : us 16 = (.int .i64 (ordI l m)) := deps_get hd 0 rfl rfl rfl rfl rfl
      rw [if_pos (wanted_none rfl)]
      refine wp_value (w2 := wx) (v := .int .i64 (ordI l m)) ?_ (hK _ _ rfl (Fr.refl _ _))
      clear hd hG hK
      go_simp
    exact stepsHold.nil
  case fin =>
    have h5 : us 5 = (.pointer (some ⟨w.heap.size, 0, none⟩)) := all_get hall 0 rfl rfl rfl
    have h6 : us 6 = (.int .i64 l.block) := all_get hall 1 rfl rfl rfl
    have h7 : us 7 = (.pointer (some ⟨w.heap.size + 1, 0, none⟩)) := all_get hall 2 rfl rfl rfl
    have h8 : us 8 = (.int .i64 m.block) := all_get hall 3 rfl rfl rfl
    have h9 : us 9 = (.int .i64 (cmpI l.block m.block)) := all_get hall 4 rfl rfl rfl
    have h10 : us 10 = (.pointer (some ⟨w.heap.size, 1, none⟩)) := all_get hall 5 rfl rfl rfl
    have h11 : us 11 = (.int .i64 l.tx) := all_get hall 6 rfl rfl rfl
    have h12 : us 12 = (.pointer (some ⟨w.heap.size + 1, 1, none⟩)) := all_get hall 7 rfl rfl rfl
    have h13 : us 13 = (.int .i64 m.tx) := all_get hall 8 rfl rfl rfl
    have h14 : us 14 = (.int .i64 (cmpI l.tx m.tx)) := all_get hall 9 rfl rfl rfl
    have h15 := all_get hall 10 rfl rfl rfl
    have h16 : us 16 = (.int .i64 (ordI l m)) := all_get hall 11 rfl rfl rfl
    have h4 : us 4 = (.int .i64 (ordI l m)) := all_get hall 12 rfl rfl rfl
    simp only [fillL, Nat.reduceAdd]
    clear hall
    simp only [h5, h6, h7, h8, h9, h10, h11, h12, h13, h14, h16, h4]
    clear h5 h6 h7 h8 h9 h10 h11 h12 h13 h14 h16 h4
    go_wp2_with fail
    go_ret
    exact ⟨rfl, HF.out.then0 hG⟩
set_option maxRecDepth 100000 in
theorem strong_c (l : Lk) : Calls Tryz.prog 34 #[lkV l] w fun e w' => e = .returned (.int .i64 l.strong) ∧ Fr F0 w w' := by
  obtain ⟨b, x, h, k⟩ := l
  show Calls Tryz.prog 34 #[.agg #[.int .i64 b, .int .i64 x, .int .i64 h, .int .i64 k]] w fun e w' => e = .returned (.int .i64 (max h k)) ∧ Fr F0 w w'
  by_cases hle : h < k
  · have hm : max h k = k := Int.max_eq_right (by omega)
    rw [hm]
    clear hm
    go_enter Tryz.func34, Tryz.ntmps34
    go_wp2_with fail
    go_ret
    exact ⟨rfl, (Fr.refl _ _).alloc _⟩
  · have hm : max h k = h := Int.max_eq_left (by omega)
    rw [hm]
    clear hm
    go_enter Tryz.func34, Tryz.ntmps34
    go_wp2_with fail
    go_ret
    exact ⟨rfl, (Fr.refl _ _).alloc _⟩
set_option maxRecDepth 100000 in
theorem mode_c (m : Int) : Calls Tryz.prog 78 #[.int .i64 m] w fun e w' => e = .returned (.bool (modeB m)) ∧ Fr F0 w w' := by
  by_cases h0 : 0 ≤ m
  · go_enter Tryz.func78, Tryz.ntmps78
    go_wp2_with fail
    go_ret
    exact ⟨by simp [modeB, h0], Fr.refl _ _⟩
  · go_enter Tryz.func78, Tryz.ntmps78
    go_wp2_with fail
    go_ret
    exact ⟨by simp [modeB] <;> omega, Fr.refl _ _⟩
set_option maxRecDepth 100000 in
set_option maxHeartbeats 1000000 in
theorem sound_c (l : Lk) : Calls Tryz.prog 58 #[lkV l] w fun e w' => e = .returned (.bool l.sound) ∧ Fr F0 w w' := by
  obtain ⟨b, x, h, k⟩ := l
  show Calls Tryz.prog 58 #[.agg #[.int .i64 b, .int .i64 x, .int .i64 h, .int .i64 k]] w fun e w' => e = .returned (.bool (Lk.sound ⟨b, x, h, k⟩)) ∧ Fr F0 w w'
  have hso : Lk.sound ⟨b, x, h, k⟩ = (decide (0 ≤ b) && decide (b < 256) && decide (0 ≤ x) && decide (x < 64) && modeB h && modeB k && decide (0 < max h k)) := rfl
  rw [hso]
  have HF : Hid (Fr F0 w (w.alloc (.cells #[.int .i64 b, .int .i64 x, .int .i64 h, .int .i64 k] 78))) := Lib.hid ((Fr.refl F0 w).alloc _)
  have HB : Hid ((w.alloc (.cells #[.int .i64 b, .int .i64 x, .int .i64 h, .int .i64 k] 78)).heap[w.heap.size]? = some (.cells #[.int .i64 b, .int .i64 x, .int .i64 h, .int .i64 k] 78 (0, 0))) := Lib.hid (alloc_at rfl _)
  clear hso
  by_cases h1 : 0 ≤ b
  case neg =>
    go_enter Tryz.func58, Tryz.ntmps58
    go_wp2_with fail
    go_ret
    exact ⟨by simp; intros; omega, HF.out⟩
  by_cases h2 : b < 256
  case neg =>
    go_enter Tryz.func58, Tryz.ntmps58
    go_wp2_with fail
    go_ret
    exact ⟨by simp; intros; omega, HF.out⟩
  by_cases h3 : 0 ≤ x
  case neg =>
    go_enter Tryz.func58, Tryz.ntmps58
    go_wp2_with fail
    go_ret
    exact ⟨by simp; intros; omega, HF.out⟩
  by_cases h4 : x < 64
  case neg =>
    go_enter Tryz.func58, Tryz.ntmps58
    go_wp2_with fail
    go_ret
    exact ⟨by simp; intros; omega, HF.out⟩
  have hd : (decide (0 ≤ b) && decide (b < 256) && decide (0 ≤ x) && decide (x < 64)) = true := by simp [h1, h2, h3, h4]
  rw [hd, Bool.true_and]
  clear hd
  obtain ⟨mh, hmh⟩ : ∃ mh, mh = modeB h := ⟨_, rfl⟩
  obtain ⟨mk, hmk⟩ : ∃ mk, mk = modeB k := ⟨_, rfl⟩
  have HMH := Lib.hid hmh
  have HMK := Lib.hid hmk
  rw [← hmh, ← hmk]
  clear hmh hmk
  go_enter Tryz.func58, Tryz.ntmps58
  go_wp2_with fail
  refine (mode_c h).mono ?_
  rintro e w1 ⟨rfl, hf1⟩
  rw [← HMH.out]
  cases mh with
  | false =>
    go_wp2_with fail
    go_ret
    exact ⟨rfl, HF.out.then0 hf1⟩
  | true =>
    have HF1 := Lib.hid (HF.out.then0 hf1)
    have HB1 := Lib.hid (hf1.keep0 HB.out)
    have c3 : w1.cell? ⟨w.heap.size, 3, none⟩ = some (.int .i64 k) := by rw [cell_of HB1.out]; rfl
    clear hf1
    go_wp2_with fail
    refine (mode_c k).mono ?_
    rintro e w2 ⟨rfl, hf2⟩
    rw [← HMK.out]
    cases mk with
    | false =>
      go_wp2_with fail
      go_ret
      exact ⟨rfl, HF1.out.then0 hf2⟩
    | true =>
      have HF2 := Lib.hid (HF1.out.then0 hf2)
      have HB2 := Lib.hid (hf2.keep0 HB1.out)
      have d0 : w2.cell? ⟨w.heap.size, 0, none⟩ = some (.int .i64 b) := by rw [cell_of HB2.out]; rfl
      have d1 : w2.cell? ⟨w.heap.size, 1, none⟩ = some (.int .i64 x) := by rw [cell_of HB2.out]; rfl
      have d2 : w2.cell? ⟨w.heap.size, 2, none⟩ = some (.int .i64 h) := by rw [cell_of HB2.out]; rfl
      have d3 : w2.cell? ⟨w.heap.size, 3, none⟩ = some (.int .i64 k) := by rw [cell_of HB2.out]; rfl
      clear hf2 c3
      go_wp2_with fail
      refine (strong_c ⟨b, x, h, k⟩).mono ?_
      rintro e w3 ⟨rfl, hf3⟩
      obtain ⟨s, hs⟩ : ∃ s, s = max h k := ⟨_, rfl⟩
      have hs2 : Lk.strong ⟨b, x, h, k⟩ = s := by rw [hs]; rfl
      rw [hs2]
      have HS := Lib.hid hs
      clear hs hs2
      by_cases h5 : 0 < s
      · go_wp2_with fail
        go_ret
        exact ⟨by rw [← HS.out]; simp [h5], HF2.out.then0 hf3⟩
      · go_wp2_with fail
        go_ret
        exact ⟨by rw [← HS.out]; simp [h5], HF2.out.then0 hf3⟩
end
end Go.Proofs.YtgbaijfgmeealaaGreat
set_option linter.unusedVariables false
set_option linter.unusedSimpArgs false
namespace Go.Proofs.YtgbaijfgmeealaaGreat
open Go.RowKit
/-- A table that may be. -/
structure SaneL (L : List Lk) : Prop where
  sound : ∀ x ∈ L, x.sound = true
  rise : L.Pairwise fun x y => ordI x y < 0
theorem und_lock : ∃ d, Tryz.prog.underlying 78 = some d ∧ aggDesc d = true := ⟨_, Tryz.underlying78, rfl⟩
theorem size_lock : (Tryz.prog.info? 78).map (·.size) = some 4 := by kernel_rfl
theorem info_lock : (Tryz.prog.info? 78).map (fun i => (i.zero, i.size, i.bytes)) = some (some (.agg #[.int .i64 0, .int .i64 0, .int .i64 0, .int .i64 0]), 4, 32) := by kernel_rfl
section
variable {w : World} {v : Value} {L : List Lk}
set_option maxRecDepth 100000 in
set_option maxHeartbeats 2000000 in
theorem sane_c (h : SlV 4 Lk.cells w v L) (hn : L.length ≤ 1000000) (hs : SaneL L) : Calls Tryz.prog 31 #[.agg #[v]] w fun e w' => e = .returned (.bool true) ∧ Fr F0 w w' := by
  obtain ⟨A, c, rfl, hsr, hnil, hsp⟩ := h.ex
  have HL := Lib.hid hsr
  have HS := Lib.hid hs
  obtain ⟨n, hnn⟩ : ∃ n, n = L.length := ⟨_, rfl⟩
  have HN := Lib.hid hnn
  rw [← hnn]
  have n0 : (0 : Int) ≤ (n : Int) := Int.natCast_nonneg _
  have HB : Hid ((w.alloc (.cells #[.slice A n c] 34)).heap[w.heap.size]? = some (.cells #[.slice A n c] 34 (0, 0))) := Lib.hid (alloc_at rfl _)
  have HF0 : Hid (Fr F0 w (w.alloc (.cells #[.slice A n c] 34))) := Lib.hid ((Fr.refl F0 w).alloc _)
  obtain ⟨d, hu, hd⟩ := und_lock
  have HU := Lib.hid hu
  have HDD := Lib.hid hd
  clear h hsr hs hnil hsp hnn hu hd
  go_enter Tryz.func31, Tryz.ntmps31
  go_wp2_with fail
  go_loopg [3, 4, 8] n (fun kq x3 x4 x8 wr => ∃ j : Nat, j ≤ n ∧ kq = n - j ∧ x8 = .int .i64 (j : Int) ∧ Fr F0 w wr ∧ wr.heap[w.heap.size]? = some (.cells #[.slice A n c] 34 (0, 0)))
  case atStart => exact ⟨0, by omega, rfl, rfl, HF0.out, HB.out⟩
  case round =>
    obtain ⟨j, hj, rfl, rfl, hf, hb⟩ := hrel
    have HF := Lib.hid hf
    have HBR := Lib.hid hb
    clear hf hb
    have j0 : (0 : Int) ≤ (j : Int) := Int.natCast_nonneg _
    by_cases hlt : j < n
    · have j1 : (j : Int) < (n : Int) := by omega
      have hjl : j < L.length := by have := HN.out; omega
      obtain ⟨b, off, hA, hc⟩ := (HL.out.keep0 HF.out).get (List.getElem?_eq_getElem hjl) (Lk.pos _)
      subst hA
      have HLJ := Lib.hid (List.getElem?_eq_getElem hjl)
      have hsound := HS.out.sound L[j] (List.getElem_mem hjl)
      obtain ⟨x, hx⟩ : ∃ x, x = L[j] := ⟨_, rfl⟩
      rw [← hx] at hc HLJ hsound
      clear hx
      have HSO := Lib.hid hsound
      have HCS : Hid (∀ i v, x.cells[i]? = some v → wr.cell? ⟨b, off + j * 4 + i, none⟩ = some v) := Lib.hid hc
      have HFX : Hid (Fr F0 w (wr.alloc (.cells x.cells.toArray 78))) := Lib.hid (HF.out.alloc _)
      have HBX : Hid ((wr.alloc (.cells x.cells.toArray 78)).heap[w.heap.size]? = some (.cells #[.slice (some ⟨b, off, none⟩) n c] 34 (0, 0))) := Lib.hid (keep_alloc HBR.out _)
      have HXB : Hid ((wr.alloc (.cells x.cells.toArray 78)).heap[wr.heap.size]? = some (.cells x.cells.toArray 78 (0, 0))) := Lib.hid (alloc_at rfl _)
      clear hc hsound
      obtain ⟨x1, x2, x3, x4⟩ := x
      go_wp2_with (first | (refine wpList_load_at rfl 78 (.tmp 11) rfl b (off + j * 4) (by rfl) (Lk.cells ⟨x1, x2, x3, x4⟩) d HCS.out HU.out HDD.out size_lock ?_) | (refine wpList_store_fresh rfl 78 (.tmp 4) (.tmp 12) rfl (Lk.cells ⟨x1, x2, x3, x4⟩).toArray (by rfl) (by rfl) 78 #[.int .i64 0, .int .i64 0, .int .i64 0, .int .i64 0] size_lock rfl (by simp [Lk.cells, Value.oneCell']) ?_; simp only [Lk.cells, List.toArray]))
      obtain ⟨xb, hxb⟩ : ∃ xb, xb = wr.heap.size := ⟨_, rfl⟩
      rw [← hxb] at HXB ⊢
      clear hxb
      change Code.wp _ _ _ _ (wr.alloc (.cells (Lk.cells ⟨x1, x2, x3, x4⟩).toArray 78))
      generalize (wr.alloc (.cells (Lk.cells ⟨x1, x2, x3, x4⟩).toArray 78)) = wa at *
      by_cases hj0 : j = 0
      · subst hj0
        refine wp_region_free (S := F0) [false, false, false, false, false, false, false, false, false, false, false, false, false, true, true, true, true, true, true, true, true, true, true, true, true, true, true, true, true, true, true, false] [.eq (.agg #[.int .i64 x1, .int .i64 x2, .int .i64 x3, .int .i64 x4]), .eq (.bool true), .eq (.bool false), .eq (.bool false), .eq (.int .i64 0), .eq (.bool false), .eq (.bool false), .eq undef, .eq undef, .eq undef, .eq undef, .eq undef, .eq undef, .eq undef, .eq undef, .eq undef, .eq (.bool false), .eq (.bool false)] (by kernel_rfl) (by kernel_rfl) (by rfl) (fun us => ?steps) (fun us wa hG hall => ?fin)
        case steps =>
          simp only [fillL, Nat.reduceAdd]
          refine stepsHold.cons (fun wx hG hd K hK => ?_) ?_
          · rw [if_pos (wanted_none rfl)]
            have k0 : wx.cell? ⟨xb, 0, none⟩ = some (.int .i64 x1) := by rw [cell_of (hG.keep0 HXB.out)]; rfl
            have k1 : wx.cell? ⟨xb, 1, none⟩ = some (.int .i64 x2) := by rw [cell_of (hG.keep0 HXB.out)]; rfl
            have k2 : wx.cell? ⟨xb, 2, none⟩ = some (.int .i64 x3) := by rw [cell_of (hG.keep0 HXB.out)]; rfl
            have k3 : wx.cell? ⟨xb, 3, none⟩ = some (.int .i64 x4) := by rw [cell_of (hG.keep0 HXB.out)]; rfl
            refine wp_value (w2 := wx) (v := .agg #[.int .i64 x1, .int .i64 x2, .int .i64 x3, .int .i64 x4]) ?_ (hK _ _ rfl (Fr.refl _ _))
            clear hd hK
            go_simp
          refine stepsHold.cons (fun wx hG hd K hK => ?_) ?_
          · have h13 : us 13 = (.agg #[.int .i64 x1, .int .i64 x2, .int .i64 x3, .int .i64 x4]) := deps_get hd 0 rfl rfl rfl rfl rfl
            rw [if_pos (wanted_none rfl)]
            refine wp_call (w2 := wx) (f := 58) (args := #[.agg #[.int .i64 x1, .int .i64 x2, .int .i64 x3, .int .i64 x4]]) ?_ ?_
            · clear hd hK
              go_simp
            · refine ((sound_c (w := wx) ⟨x1, x2, x3, x4⟩)).mono ?_
              rintro e w9 ⟨rfl, hf⟩
              rw [HSO.out]
              exact ⟨_, rfl, hK _ _ rfl hf⟩
          refine stepsHold.cons (fun wx hG hd K hK => ?_) ?_
          · have h14 : us 14 = (.bool true) := deps_get hd 0 rfl rfl rfl rfl rfl
            rw [if_pos (wanted_none rfl)]
            refine wp_value (w2 := wx) (v := .bool false) ?_ (hK _ _ rfl (Fr.refl _ _))
            clear hd hG hK
            go_simp
          refine stepsHold.cons (fun wx hG hd K hK => ?_) ?_
          · have h15 : us 15 = (.bool false) := deps_get hd 0 rfl rfl rfl rfl rfl
            rw [if_pos (wanted_none rfl)]
            refine wp_value (w2 := wx) (v := .bool false) ?_ (hK _ _ rfl (Fr.refl _ _))
            clear hd hG hK
            go_simp
          refine stepsHold.cons (fun wx hG hd K hK => ?_) ?_
          · have h16 : us 16 = (.bool false) := deps_get hd 0 rfl rfl rfl rfl rfl
            rw [if_pos (wanted_yes rfl rfl rfl rfl h16)]
            refine wp_value (w2 := wx) (v := .int .i64 0) ?_ (hK _ _ rfl (Fr.refl _ _))
            clear hd hG hK
            go_simp
          refine stepsHold.cons (fun wx hG hd K hK => ?_) ?_
          · have h17 : us 17 = (.int .i64 0) := deps_get hd 0 rfl rfl rfl rfl rfl
            have h16 : us 16 = (.bool false) := deps_get hd 1 rfl rfl rfl rfl rfl
            rw [if_pos (wanted_yes rfl rfl rfl rfl h16)]
            refine wp_value (w2 := wx) (v := .bool false) ?_ (hK _ _ rfl (Fr.refl _ _))
            clear hd hG hK
            go_simp
          refine stepsHold.cons (fun wx hG hd K hK => ?_) ?_
          · have h18 : us 18 = (.bool false) := deps_get hd 0 rfl rfl rfl rfl rfl
            have h16 : us 16 = (.bool false) := deps_get hd 1 rfl rfl rfl rfl rfl
            rw [if_pos (wanted_yes rfl rfl rfl rfl h16)]
            refine wp_value (w2 := wx) (v := .bool false) ?_ (hK _ _ rfl (Fr.refl _ _))
            clear hd hG hK
            go_simp
          refine stepsHold.cons (fun wx hG hd K hK => ?_) ?_
          · have h19 : us 19 = (.bool false) := deps_get hd 0 rfl rfl rfl rfl rfl
            rw [if_neg (wanted_no rfl rfl rfl rfl h19)]
            exact hK _ _ rfl (Fr.refl _ _)
          refine stepsHold.cons (fun wx hG hd K hK => ?_) ?_
          · have h20 : us 20 = (undef) := deps_get hd 0 rfl rfl rfl rfl rfl
            have h19 : us 19 = (.bool false) := deps_get hd 1 rfl rfl rfl rfl rfl
            rw [if_neg (wanted_no rfl rfl rfl rfl h19)]
            exact hK _ _ rfl (Fr.refl _ _)
          refine stepsHold.cons (fun wx hG hd K hK => ?_) ?_
          · have h19 : us 19 = (.bool false) := deps_get hd 0 rfl rfl rfl rfl rfl
            rw [if_neg (wanted_no rfl rfl rfl rfl h19)]
            exact hK _ _ rfl (Fr.refl _ _)
          refine stepsHold.cons (fun wx hG hd K hK => ?_) ?_
          · have h22 : us 22 = (undef) := deps_get hd 0 rfl rfl rfl rfl rfl
            have h19 : us 19 = (.bool false) := deps_get hd 1 rfl rfl rfl rfl rfl
            rw [if_neg (wanted_no rfl rfl rfl rfl h19)]
            exact hK _ _ rfl (Fr.refl _ _)
          refine stepsHold.cons (fun wx hG hd K hK => ?_) ?_
          · have h21 : us 21 = (undef) := deps_get hd 0 rfl rfl rfl rfl rfl
            have h23 : us 23 = (undef) := deps_get hd 1 rfl rfl rfl rfl rfl
            have h19 : us 19 = (.bool false) := deps_get hd 2 rfl rfl rfl rfl rfl
            rw [if_neg (wanted_no rfl rfl rfl rfl h19)]
            exact hK _ _ rfl (Fr.refl _ _)
          refine stepsHold.cons (fun wx hG hd K hK => ?_) ?_
          · have h24 : us 24 = (undef) := deps_get hd 0 rfl rfl rfl rfl rfl
            have h19 : us 19 = (.bool false) := deps_get hd 1 rfl rfl rfl rfl rfl
            rw [if_neg (wanted_no rfl rfl rfl rfl h19)]
            exact hK _ _ rfl (Fr.refl _ _)
          refine stepsHold.cons (fun wx hG hd K hK => ?_) ?_
          · have h19 : us 19 = (.bool false) := deps_get hd 0 rfl rfl rfl rfl rfl
            rw [if_neg (wanted_no rfl rfl rfl rfl h19)]
            exact hK _ _ rfl (Fr.refl _ _)
          refine stepsHold.cons (fun wx hG hd K hK => ?_) ?_
          · have h25 : us 25 = (undef) := deps_get hd 0 rfl rfl rfl rfl rfl
            have h26 : us 26 = (undef) := deps_get hd 1 rfl rfl rfl rfl rfl
            have h19 : us 19 = (.bool false) := deps_get hd 2 rfl rfl rfl rfl rfl
            rw [if_neg (wanted_no rfl rfl rfl rfl h19)]
            exact hK _ _ rfl (Fr.refl _ _)
          refine stepsHold.cons (fun wx hG hd K hK => ?_) ?_
          · have h27 : us 27 = (undef) := deps_get hd 0 rfl rfl rfl rfl rfl
            have h19 : us 19 = (.bool false) := deps_get hd 1 rfl rfl rfl rfl rfl
            rw [if_neg (wanted_no rfl rfl rfl rfl h19)]
            exact hK _ _ rfl (Fr.refl _ _)
          refine stepsHold.cons (fun wx hG hd K hK => ?_) ?_
          · have h19 : us 19 = (.bool false) := deps_get hd 0 rfl rfl rfl rfl rfl
            have h28 : us 28 = (undef) := deps_get hd 1 rfl rfl rfl rfl rfl
            have h16 : us 16 = (.bool false) := deps_get hd 2 rfl rfl rfl rfl rfl
            rw [if_pos (wanted_yes rfl rfl rfl rfl h16)]
            refine wp_value (w2 := wx) (v := .bool false) ?_ (hK _ _ rfl (Fr.refl _ _))
            clear hd hG hK
            go_simp
          refine stepsHold.cons (fun wx hG hd K hK => ?_) ?_
          · have h16 : us 16 = (.bool false) := deps_get hd 0 rfl rfl rfl rfl rfl
            have h29 : us 29 = (.bool false) := deps_get hd 1 rfl rfl rfl rfl rfl
            rw [if_pos (wanted_none rfl)]
            refine wp_value (w2 := wx) (v := .bool false) ?_ (hK _ _ rfl (Fr.refl _ _))
            clear hd hG hK
            go_simp
          exact stepsHold.nil
        case fin =>
          have h13 : us 13 = (.agg #[.int .i64 x1, .int .i64 x2, .int .i64 x3, .int .i64 x4]) := all_get hall 0 rfl rfl rfl
          have h14 : us 14 = (.bool true) := all_get hall 1 rfl rfl rfl
          have h15 : us 15 = (.bool false) := all_get hall 2 rfl rfl rfl
          have h16 : us 16 = (.bool false) := all_get hall 3 rfl rfl rfl
          have h17 : us 17 = (.int .i64 0) := all_get hall 4 rfl rfl rfl
          have h18 : us 18 = (.bool false) := all_get hall 5 rfl rfl rfl
          have h19 : us 19 = (.bool false) := all_get hall 6 rfl rfl rfl
          have h20 : us 20 = (undef) := all_get hall 7 rfl rfl rfl
          have h21 : us 21 = (undef) := all_get hall 8 rfl rfl rfl
          have h22 : us 22 = (undef) := all_get hall 9 rfl rfl rfl
          have h23 : us 23 = (undef) := all_get hall 10 rfl rfl rfl
          have h24 : us 24 = (undef) := all_get hall 11 rfl rfl rfl
          have h25 : us 25 = (undef) := all_get hall 12 rfl rfl rfl
          have h26 : us 26 = (undef) := all_get hall 13 rfl rfl rfl
          have h27 : us 27 = (undef) := all_get hall 14 rfl rfl rfl
          have h28 : us 28 = (undef) := all_get hall 15 rfl rfl rfl
          have h29 : us 29 = (.bool false) := all_get hall 16 rfl rfl rfl
          have h30 : us 30 = (.bool false) := all_get hall 17 rfl rfl rfl
          simp only [fillL, Nat.reduceAdd]
          clear hall
          simp only [h13, h14, h15, h16, h17, h18, h19, h20, h21, h22, h23, h24, h25, h26, h27, h28, h29, h30]
          clear h13 h14 h15 h16 h17 h18 h19 h20 h21 h22 h23 h24 h25 h26 h27 h28 h29 h30
          go_wp2_with fail
          go_roundg (n - (0 + 1))
          case measure => omega
          case rel => exact ⟨0 + 1, by omega, rfl, by first | rfl | (go_num), HFX.out.then0 hG, hG.keep0 HBX.out⟩
      · obtain ⟨p, hp⟩ : ∃ p, j = p + 1 := ⟨j - 1, by omega⟩
        have HPW : Hid (IntKind.i64.wrap ((j : Int) - 1) = (p : Int)) := Lib.hid (by rw [IntKind.wrap_i64]; omega)
        have HPN : Hid ((p : Int) < (n : Int)) := Lib.hid (by omega)
        have hpl : p < L.length := by omega
        obtain ⟨b', off', hA', hcp⟩ := (HL.out.keep0 HFX.out).get (List.getElem?_eq_getElem hpl) (Lk.pos _)
        cases hA'
        have hor := List.pairwise_iff_getElem.1 HS.out.rise p j hpl hjl (by omega)
        have hxj : L[j] = ⟨x1, x2, x3, x4⟩ := by have := HLJ.out; rw [List.getElem?_eq_getElem hjl] at this; exact Option.some.inj this
        rw [hxj] at hor
        obtain ⟨y, hy⟩ : ∃ y, y = L[p] := ⟨_, rfl⟩
        rw [← hy] at hcp hor
        clear hy
        obtain ⟨y1, y2, y3, y4⟩ := y
        obtain ⟨od, hod⟩ : ∃ od, od = ordI ⟨y1, y2, y3, y4⟩ ⟨x1, x2, x3, x4⟩ := ⟨_, rfl⟩
        have HOR : Hid (ordI ⟨y1, y2, y3, y4⟩ ⟨x1, x2, x3, x4⟩ = od) := Lib.hid hod.symm
        have HOD : Hid (¬ (0 : Int) ≤ od) := Lib.hid (by rw [hod]; omega)
        have HPC : Hid (∀ wx, Fr F0 wa wx → wx.cell? ⟨b, off + p * 4, none⟩ = some (.int .i64 y1) ∧ wx.cell? ⟨b, off + p * 4 + 1, none⟩ = some (.int .i64 y2) ∧ wx.cell? ⟨b, off + p * 4 + 2, none⟩ = some (.int .i64 y3) ∧ wx.cell? ⟨b, off + p * 4 + 3, none⟩ = some (.int .i64 y4)) := Lib.hid (fun wx hx => by
          have hk : ∀ k v, (Lk.cells ⟨y1, y2, y3, y4⟩)[k]? = some v → wx.cell? ⟨b, off + p * 4 + k, none⟩ = some v := fun k v hv => by
            have h5 := hcp k v hv
            exact (World.cell?_of_block (w := wa) (hx.block _ (World.block_lt_of_cell? wa _ h5) (fun h => h))).trans h5
          exact ⟨hk 0 _ rfl, hk 1 _ rfl, hk 2 _ rfl, hk 3 _ rfl⟩)
        clear hor hxj hod hcp hp
        have hjpos : (0 : Int) < (j : Int) := by omega
        have hjpn : 0 < j := by omega
        refine wp_region_free (S := F0) [false, false, false, false, false, false, false, false, false, false, false, false, false, true, true, true, true, true, true, true, true, true, true, true, true, true, true, true, true, true, true, false] [.eq (.agg #[.int .i64 x1, .int .i64 x2, .int .i64 x3, .int .i64 x4]), .eq (.bool true), .eq (.bool false), .eq (.bool false), .eq (.int .i64 ((j : Nat) : Int)), .eq (.bool true), .eq (.bool true), .eq (.pointer (some ⟨w.heap.size, 0, none⟩)), .eq (.slice (some ⟨b, off, none⟩) n c), .eq (.int .i64 ((j : Nat) : Int)), .eq (.int .i64 ((p : Nat) : Int)), .eq (.pointer (some ⟨b, off + p * 4, none⟩)), .eq (.agg #[.int .i64 y1, .int .i64 y2, .int .i64 y3, .int .i64 y4]), .eq (.agg #[.int .i64 x1, .int .i64 x2, .int .i64 x3, .int .i64 x4]), .eq (.int .i64 od), .eq (.bool false), .eq (.bool false), .eq (.bool false)] (by kernel_rfl) (by kernel_rfl) (by rfl) (fun us => ?steps) (fun us wa hG hall => ?fin)
        case steps =>
          simp only [fillL, Nat.reduceAdd]
          refine stepsHold.cons (fun wx hG hd K hK => ?_) ?_
          · rw [if_pos (wanted_none rfl)]
            have k0 : wx.cell? ⟨xb, 0, none⟩ = some (.int .i64 x1) := by rw [cell_of (hG.keep0 HXB.out)]; rfl
            have k1 : wx.cell? ⟨xb, 1, none⟩ = some (.int .i64 x2) := by rw [cell_of (hG.keep0 HXB.out)]; rfl
            have k2 : wx.cell? ⟨xb, 2, none⟩ = some (.int .i64 x3) := by rw [cell_of (hG.keep0 HXB.out)]; rfl
            have k3 : wx.cell? ⟨xb, 3, none⟩ = some (.int .i64 x4) := by rw [cell_of (hG.keep0 HXB.out)]; rfl
            refine wp_value (w2 := wx) (v := .agg #[.int .i64 x1, .int .i64 x2, .int .i64 x3, .int .i64 x4]) ?_ (hK _ _ rfl (Fr.refl _ _))
            clear hd hK
            go_simp
          refine stepsHold.cons (fun wx hG hd K hK => ?_) ?_
          · have h13 : us 13 = (.agg #[.int .i64 x1, .int .i64 x2, .int .i64 x3, .int .i64 x4]) := deps_get hd 0 rfl rfl rfl rfl rfl
            rw [if_pos (wanted_none rfl)]
            refine wp_call (w2 := wx) (f := 58) (args := #[.agg #[.int .i64 x1, .int .i64 x2, .int .i64 x3, .int .i64 x4]]) ?_ ?_
            · clear hd hK
              go_simp
            · refine ((sound_c (w := wx) ⟨x1, x2, x3, x4⟩)).mono ?_
              rintro e w9 ⟨rfl, hf⟩
              rw [HSO.out]
              exact ⟨_, rfl, hK _ _ rfl hf⟩
          refine stepsHold.cons (fun wx hG hd K hK => ?_) ?_
          · have h14 : us 14 = (.bool true) := deps_get hd 0 rfl rfl rfl rfl rfl
            rw [if_pos (wanted_none rfl)]
            refine wp_value (w2 := wx) (v := .bool false) ?_ (hK _ _ rfl (Fr.refl _ _))
            clear hd hG hK
            go_simp
          refine stepsHold.cons (fun wx hG hd K hK => ?_) ?_
          · have h15 : us 15 = (.bool false) := deps_get hd 0 rfl rfl rfl rfl rfl
            rw [if_pos (wanted_none rfl)]
            refine wp_value (w2 := wx) (v := .bool false) ?_ (hK _ _ rfl (Fr.refl _ _))
            clear hd hG hK
            go_simp
          refine stepsHold.cons (fun wx hG hd K hK => ?_) ?_
          · have h16 : us 16 = (.bool false) := deps_get hd 0 rfl rfl rfl rfl rfl
            rw [if_pos (wanted_yes rfl rfl rfl rfl h16)]
            refine wp_value (w2 := wx) (v := .int .i64 ((j : Nat) : Int)) ?_ (hK _ _ rfl (Fr.refl _ _))
            clear hd hG hK
            go_simp
          refine stepsHold.cons (fun wx hG hd K hK => ?_) ?_
          · have h17 : us 17 = (.int .i64 ((j : Nat) : Int)) := deps_get hd 0 rfl rfl rfl rfl rfl
            have h16 : us 16 = (.bool false) := deps_get hd 1 rfl rfl rfl rfl rfl
            rw [if_pos (wanted_yes rfl rfl rfl rfl h16)]
            refine wp_value (w2 := wx) (v := .bool true) ?_ (hK _ _ rfl (Fr.refl _ _))
            clear hd hG hK
            go_simp
          refine stepsHold.cons (fun wx hG hd K hK => ?_) ?_
          · have h18 : us 18 = (.bool true) := deps_get hd 0 rfl rfl rfl rfl rfl
            have h16 : us 16 = (.bool false) := deps_get hd 1 rfl rfl rfl rfl rfl
            rw [if_pos (wanted_yes rfl rfl rfl rfl h16)]
            refine wp_value (w2 := wx) (v := .bool true) ?_ (hK _ _ rfl (Fr.refl _ _))
            clear hd hG hK
            go_simp
          refine stepsHold.cons (fun wx hG hd K hK => ?_) ?_
          · have h19 : us 19 = (.bool true) := deps_get hd 0 rfl rfl rfl rfl rfl
            rw [if_pos (wanted_yes rfl rfl rfl rfl h19)]
            refine wp_value (w2 := wx) (v := .pointer (some ⟨w.heap.size, 0, none⟩)) ?_ (hK _ _ rfl (Fr.refl _ _))
            clear hd hG hK
            go_simp
          refine stepsHold.cons (fun wx hG hd K hK => ?_) ?_
          · have h20 : us 20 = (.pointer (some ⟨w.heap.size, 0, none⟩)) := deps_get hd 0 rfl rfl rfl rfl rfl
            have h19 : us 19 = (.bool true) := deps_get hd 1 rfl rfl rfl rfl rfl
            rw [if_pos (wanted_yes rfl rfl rfl rfl h19)]
            have hc : wx.cell? ⟨w.heap.size, 0, none⟩ = some (.slice (some ⟨b, off, none⟩) n c) := by rw [cell_of (hG.keep0 HBX.out)]; rfl
            refine wp_value (w2 := wx) (v := .slice (some ⟨b, off, none⟩) n c) ?_ (hK _ _ rfl (Fr.refl _ _))
            clear hd hK
            go_simp
          refine stepsHold.cons (fun wx hG hd K hK => ?_) ?_
          · have h19 : us 19 = (.bool true) := deps_get hd 0 rfl rfl rfl rfl rfl
            rw [if_pos (wanted_yes rfl rfl rfl rfl h19)]
            refine wp_value (w2 := wx) (v := .int .i64 ((j : Nat) : Int)) ?_ (hK _ _ rfl (Fr.refl _ _))
            clear hd hG hK
            go_simp
          refine stepsHold.cons (fun wx hG hd K hK => ?_) ?_
          · have h22 : us 22 = (.int .i64 ((j : Nat) : Int)) := deps_get hd 0 rfl rfl rfl rfl rfl
            have h19 : us 19 = (.bool true) := deps_get hd 1 rfl rfl rfl rfl rfl
            rw [if_pos (wanted_yes rfl rfl rfl rfl h19)]
            have hw := HPW.out
            refine wp_value (w2 := wx) (v := .int .i64 ((p : Nat) : Int)) ?_ (hK _ _ rfl (Fr.refl _ _))
            clear hd hG hK
            go_simp
          refine stepsHold.cons (fun wx hG hd K hK => ?_) ?_
          · have h21 : us 21 = (.slice (some ⟨b, off, none⟩) n c) := deps_get hd 0 rfl rfl rfl rfl rfl
            have h23 : us 23 = (.int .i64 ((p : Nat) : Int)) := deps_get hd 1 rfl rfl rfl rfl rfl
            have h19 : us 19 = (.bool true) := deps_get hd 2 rfl rfl rfl rfl rfl
            rw [if_pos (wanted_yes rfl rfl rfl rfl h19)]
            have hp0 : (0 : Int) ≤ (p : Int) := Int.natCast_nonneg _
            have hp1 : (p : Int) < (n : Int) := HPN.out
            refine wp_value (w2 := wx) (v := .pointer (some ⟨b, off + p * 4, none⟩)) ?_ (hK _ _ rfl (Fr.refl _ _))
            clear hd hG hK
            go_simp
          refine stepsHold.cons (fun wx hG hd K hK => ?_) ?_
          · have h24 : us 24 = (.pointer (some ⟨b, off + p * 4, none⟩)) := deps_get hd 0 rfl rfl rfl rfl rfl
            have h19 : us 19 = (.bool true) := deps_get hd 1 rfl rfl rfl rfl rfl
            rw [if_pos (wanted_yes rfl rfl rfl rfl h19)]
            obtain ⟨y0, yy1, yy2, yy3⟩ := HPC.out wx hG
            refine wp_value (w2 := wx) (v := .agg #[.int .i64 y1, .int .i64 y2, .int .i64 y3, .int .i64 y4]) ?_ (hK _ _ rfl (Fr.refl _ _))
            clear hd hK
            go_simp
          refine stepsHold.cons (fun wx hG hd K hK => ?_) ?_
          · have h19 : us 19 = (.bool true) := deps_get hd 0 rfl rfl rfl rfl rfl
            rw [if_pos (wanted_yes rfl rfl rfl rfl h19)]
            have k0 : wx.cell? ⟨xb, 0, none⟩ = some (.int .i64 x1) := by rw [cell_of (hG.keep0 HXB.out)]; rfl
            have k1 : wx.cell? ⟨xb, 1, none⟩ = some (.int .i64 x2) := by rw [cell_of (hG.keep0 HXB.out)]; rfl
            have k2 : wx.cell? ⟨xb, 2, none⟩ = some (.int .i64 x3) := by rw [cell_of (hG.keep0 HXB.out)]; rfl
            have k3 : wx.cell? ⟨xb, 3, none⟩ = some (.int .i64 x4) := by rw [cell_of (hG.keep0 HXB.out)]; rfl
            refine wp_value (w2 := wx) (v := .agg #[.int .i64 x1, .int .i64 x2, .int .i64 x3, .int .i64 x4]) ?_ (hK _ _ rfl (Fr.refl _ _))
            clear hd hK
            go_simp
          refine stepsHold.cons (fun wx hG hd K hK => ?_) ?_
          · have h25 : us 25 = (.agg #[.int .i64 y1, .int .i64 y2, .int .i64 y3, .int .i64 y4]) := deps_get hd 0 rfl rfl rfl rfl rfl
            have h26 : us 26 = (.agg #[.int .i64 x1, .int .i64 x2, .int .i64 x3, .int .i64 x4]) := deps_get hd 1 rfl rfl rfl rfl rfl
            have h19 : us 19 = (.bool true) := deps_get hd 2 rfl rfl rfl rfl rfl
            rw [if_pos (wanted_yes rfl rfl rfl rfl h19)]
            refine wp_call (w2 := wx) (f := 59) (args := #[.agg #[.int .i64 y1, .int .i64 y2, .int .i64 y3, .int .i64 y4], .agg #[.int .i64 x1, .int .i64 x2, .int .i64 x3, .int .i64 x4]]) ?_ ?_
            · clear hd hK
              go_simp
            · refine ((order_c (w := wx) ⟨y1, y2, y3, y4⟩ ⟨x1, x2, x3, x4⟩)).mono ?_
              rintro e w9 ⟨rfl, hf⟩
              rw [HOR.out]
              exact ⟨_, rfl, hK _ _ rfl hf⟩
          refine stepsHold.cons (fun wx hG hd K hK => ?_) ?_
          · have h27 : us 27 = (.int .i64 od) := deps_get hd 0 rfl rfl rfl rfl rfl
            have h19 : us 19 = (.bool true) := deps_get hd 1 rfl rfl rfl rfl rfl
            rw [if_pos (wanted_yes rfl rfl rfl rfl h19)]
            have ho := HOD.out
            refine wp_value (w2 := wx) (v := .bool false) ?_ (hK _ _ rfl (Fr.refl _ _))
            clear hd hG hK
            go_simp
          refine stepsHold.cons (fun wx hG hd K hK => ?_) ?_
          · have h19 : us 19 = (.bool true) := deps_get hd 0 rfl rfl rfl rfl rfl
            have h28 : us 28 = (.bool false) := deps_get hd 1 rfl rfl rfl rfl rfl
            have h16 : us 16 = (.bool false) := deps_get hd 2 rfl rfl rfl rfl rfl
            rw [if_pos (wanted_yes rfl rfl rfl rfl h16)]
            refine wp_value (w2 := wx) (v := .bool false) ?_ (hK _ _ rfl (Fr.refl _ _))
            clear hd hG hK
            go_simp
          refine stepsHold.cons (fun wx hG hd K hK => ?_) ?_
          · have h16 : us 16 = (.bool false) := deps_get hd 0 rfl rfl rfl rfl rfl
            have h29 : us 29 = (.bool false) := deps_get hd 1 rfl rfl rfl rfl rfl
            rw [if_pos (wanted_none rfl)]
            refine wp_value (w2 := wx) (v := .bool false) ?_ (hK _ _ rfl (Fr.refl _ _))
            clear hd hG hK
            go_simp
          exact stepsHold.nil
        case fin =>
          have h13 : us 13 = (.agg #[.int .i64 x1, .int .i64 x2, .int .i64 x3, .int .i64 x4]) := all_get hall 0 rfl rfl rfl
          have h14 : us 14 = (.bool true) := all_get hall 1 rfl rfl rfl
          have h15 : us 15 = (.bool false) := all_get hall 2 rfl rfl rfl
          have h16 : us 16 = (.bool false) := all_get hall 3 rfl rfl rfl
          have h17 : us 17 = (.int .i64 ((j : Nat) : Int)) := all_get hall 4 rfl rfl rfl
          have h18 : us 18 = (.bool true) := all_get hall 5 rfl rfl rfl
          have h19 : us 19 = (.bool true) := all_get hall 6 rfl rfl rfl
          have h20 : us 20 = (.pointer (some ⟨w.heap.size, 0, none⟩)) := all_get hall 7 rfl rfl rfl
          have h21 : us 21 = (.slice (some ⟨b, off, none⟩) n c) := all_get hall 8 rfl rfl rfl
          have h22 : us 22 = (.int .i64 ((j : Nat) : Int)) := all_get hall 9 rfl rfl rfl
          have h23 : us 23 = (.int .i64 ((p : Nat) : Int)) := all_get hall 10 rfl rfl rfl
          have h24 : us 24 = (.pointer (some ⟨b, off + p * 4, none⟩)) := all_get hall 11 rfl rfl rfl
          have h25 : us 25 = (.agg #[.int .i64 y1, .int .i64 y2, .int .i64 y3, .int .i64 y4]) := all_get hall 12 rfl rfl rfl
          have h26 : us 26 = (.agg #[.int .i64 x1, .int .i64 x2, .int .i64 x3, .int .i64 x4]) := all_get hall 13 rfl rfl rfl
          have h27 : us 27 = (.int .i64 od) := all_get hall 14 rfl rfl rfl
          have h28 : us 28 = (.bool false) := all_get hall 15 rfl rfl rfl
          have h29 : us 29 = (.bool false) := all_get hall 16 rfl rfl rfl
          have h30 : us 30 = (.bool false) := all_get hall 17 rfl rfl rfl
          simp only [fillL, Nat.reduceAdd]
          clear hall
          simp only [h13, h14, h15, h16, h17, h18, h19, h20, h21, h22, h23, h24, h25, h26, h27, h28, h29, h30]
          clear h13 h14 h15 h16 h17 h18 h19 h20 h21 h22 h23 h24 h25 h26 h27 h28 h29 h30
          go_wp2_with fail
          go_roundg (n - (j + 1))
          case measure => omega
          case rel => exact ⟨j + 1, by omega, rfl, by first | rfl | (go_num), HFX.out.then0 hG, hG.keep0 HBX.out⟩
    · have hjn : j = n := by omega
      subst hjn
      go_wp2_with fail
      go_ret
      exact ⟨rfl, HF.out⟩
end
end Go.Proofs.YtgbaijfgmeealaaGreat
