/-
  Locks as plain data; order, strong, mode, sound. Conditions: none.
-/
import Derived.Test.YtgbaijfgmeealaaT9e
set_option linter.unusedVariables false
set_option linter.unusedSimpArgs false
namespace Go.Proofs.Ytgbaijfgmeealaa
open Go.RowKit
structure Lk where
  block : Int
  tx : Int
  held : Int
  kept : Int
def Lk.cells (x : Lk) : List Value := [.int .i64 x.block, .int .i64 x.tx, .int .i64 x.held, .int .i64 x.kept]
def Lk.zero : Lk := ⟨0, 0, 0, 0⟩
theorem Lk.len (x : Lk) : x.cells.length = 4 := rfl
theorem Lk.pos (x : Lk) : 0 < x.cells.length := by rw [Lk.len]; decide
theorem Lk.one (x : Lk) : ∀ u ∈ x.cells, u.oneCell' = true := by
  intro v hv
  simp only [Lk.cells, List.mem_cons, List.not_mem_nil, or_false] at hv
  rcases hv with rfl | rfl | rfl | rfl <;> rfl
abbrev LksAt (w : World) (A : Option Addr) (L : List Lk) : Prop := SrAt 4 Lk.cells w A L
abbrev lkV (x : Lk) : Value := .agg #[.int .i64 x.block, .int .i64 x.tx, .int .i64 x.held, .int .i64 x.kept]
def cmpI (a b : Int) : Int := if a < b then -1 else if b < a then 1 else 0
def ordI (l m : Lk) : Int := if cmpI l.block m.block ≠ 0 then cmpI l.block m.block else cmpI l.tx m.tx
def Lk.strong (x : Lk) : Int := max x.held x.kept
def modeB (m : Int) : Bool := decide (0 ≤ m) && decide (m ≤ 2)
def Lk.sound (x : Lk) : Bool := decide (0 ≤ x.block) && decide (x.block < 256) && decide (0 ≤ x.tx) && decide (x.tx < 64) && modeB x.held && modeB x.kept && decide (0 < x.strong)
section
variable {w : World}
set_option maxRecDepth 100000 in
theorem isnan_c (a : Int) : Calls Try.prog 85 #[.int .i64 a] w fun e w' => e = .returned (.bool false) ∧ Fr F0 w w' := by
  go_enter Try.func85, Try.ntmps85
  go_wp2_with fail
  go_ret
  exact ⟨by first | rfl | simp, Fr.refl _ _⟩
set_option maxRecDepth 100000 in
theorem compare_c (a b : Int) : Calls Try.prog 72 #[.int .i64 a, .int .i64 b] w fun e w' => e = .returned (.int .i64 (cmpI a b)) ∧ Fr F0 w w' := by
  have hstep : ∀ (r : Int), cmpI a b = r → ∀ e w', e = Ending.returned (.int .i64 r) ∧ Fr F0 w w' → e = .returned (.int .i64 (cmpI a b)) ∧ Fr F0 w w' := fun r h e w' h2 => by rw [h]; exact h2
  by_cases h1 : a < b
  · have e1 : cmpI a b = -1 := by unfold cmpI; rw [if_pos h1]
    rw [e1]
    clear hstep e1
    go_enter Try.func72, Try.ntmps72
    go_wp2_with fail
    refine (isnan_c a).mono ?_
    rintro e w1 ⟨rfl, hf1⟩
    go_wp2_with fail
    refine (isnan_c b).mono ?_
    rintro e w2 ⟨rfl, hf2⟩
    go_wp2_with fail
    go_ret
    exact ⟨rfl, hf1.then0 hf2⟩
  · by_cases h2 : b < a
    · have e1 : cmpI a b = 1 := by unfold cmpI; rw [if_neg h1, if_pos h2]
      rw [e1]
      clear hstep e1
      go_enter Try.func72, Try.ntmps72
      go_wp2_with fail
      refine (isnan_c a).mono ?_
      rintro e w1 ⟨rfl, hf1⟩
      go_wp2_with fail
      refine (isnan_c b).mono ?_
      rintro e w2 ⟨rfl, hf2⟩
      go_wp2_with fail
      go_ret
      exact ⟨rfl, hf1.then0 hf2⟩
    · have e1 : cmpI a b = 0 := by unfold cmpI; rw [if_neg h1, if_neg h2]
      rw [e1]
      clear hstep e1
      go_enter Try.func72, Try.ntmps72
      go_wp2_with fail
      refine (isnan_c a).mono ?_
      rintro e w1 ⟨rfl, hf1⟩
      go_wp2_with fail
      refine (isnan_c b).mono ?_
      rintro e w2 ⟨rfl, hf2⟩
      go_wp2_with fail
      go_ret
      exact ⟨rfl, hf1.then0 hf2⟩
set_option maxRecDepth 100000 in
theorem or_c (g : Nat) (a b : Int) (hg : w.heap[g]? = some (.cells #[.int .i64 a, .int .i64 b] 3 (0, 0))) : Calls Try.prog 71 #[.slice (some ⟨g, 0, none⟩) 2 2] w fun e w' => e = .returned (.int .i64 (if a ≠ 0 then a else b)) ∧ Fr F0 w w' := by
  have c0 : w.cell? ⟨g, 0, none⟩ = some (.int .i64 a) := by rw [cell_of hg]; rfl
  have c1 : w.cell? ⟨g, 1, none⟩ = some (.int .i64 b) := by rw [cell_of hg]; rfl
  by_cases ha : a = 0
  · subst ha
    rw [if_neg (by simp)]
    by_cases hb : b = 0
    · subst hb
      go_enter Try.func71, Try.ntmps71
      go_wp2_with fail
      go_rounds 3
      go_wp2_with fail
      go_ret
      exact ⟨rfl, Fr.refl _ _⟩
    · have hb' : (b != 0) = true := by simp [hb]
      go_enter Try.func71, Try.ntmps71
      go_wp2_with fail
      go_rounds 3
      go_wp2_with fail
      go_ret
      exact ⟨rfl, Fr.refl _ _⟩
  · rw [if_pos ha]
    have ha' : (a != 0) = true := by simp [ha]
    go_enter Try.func71, Try.ntmps71
    go_wp2_with fail
    go_rounds 3
    go_wp2_with fail
    go_ret
    exact ⟨rfl, Fr.refl _ _⟩
set_option maxRecDepth 100000 in
theorem order_c (l m : Lk) : Calls Try.prog 43 #[lkV l, lkV m] w fun e w' => e = .returned (.int .i64 (ordI l m)) ∧ Fr F0 w w' := by
  have HL : Hid (((w.alloc (.cells l.cells.toArray 45)).alloc (.cells m.cells.toArray 45)).heap[w.heap.size]? = some (.cells l.cells.toArray 45 (0, 0))) := Lib.hid (keep_alloc (alloc_at rfl _) _)
  have HM : Hid (((w.alloc (.cells l.cells.toArray 45)).alloc (.cells m.cells.toArray 45)).heap[w.heap.size + 1]? = some (.cells m.cells.toArray 45 (0, 0))) := Lib.hid (alloc_at (by simp) _)
  have HF : Hid (Fr F0 w ((w.alloc (.cells l.cells.toArray 45)).alloc (.cells m.cells.toArray 45))) := Lib.hid (((Fr.refl F0 w).alloc _).alloc _)
  go_enter Try.func43, Try.ntmps43
  go_wp2_with fail
  refine wp_region_free (S := F0) [false, false, false, false, true, true, true, true, true, true, true, true, true, true, true, true, true] [.eq (.pointer (some ⟨w.heap.size, 0, none⟩)), .eq (.int .i64 l.block), .eq (.pointer (some ⟨w.heap.size + 1, 0, none⟩)), .eq (.int .i64 m.block), .eq (.int .i64 (cmpI l.block m.block)), .eq (.pointer (some ⟨w.heap.size, 1, none⟩)), .eq (.int .i64 l.tx), .eq (.pointer (some ⟨w.heap.size + 1, 1, none⟩)), .eq (.int .i64 m.tx), .eq (.int .i64 (cmpI l.tx m.tx)), ⟨fun v w' => ∃ b, v = .slice (some ⟨b, 0, none⟩) 2 2 ∧ w'.heap[b]? = some (.cells #[.int .i64 (cmpI l.block m.block), .int .i64 (cmpI l.tx m.tx)] 3 (0, 0)), fun v w' w'' ⟨b, h1, h2⟩ hf => ⟨b, h1, hf.keep0 h2⟩⟩, .eq (.int .i64 (ordI l m)), .eq (.int .i64 (ordI l m))] (by kernel_rfl) (by kernel_rfl) (by rfl) (fun us => ?steps) (fun us wz hG hall => ?fin)
  case steps =>
    simp only [fillL, Nat.reduceAdd]
    refine stepsHold.cons (fun wx hG hd K hK => ?_) ?_
    · rw [if_pos (wanted_none rfl)]
      refine wp_value (w2 := wx) (v := .pointer (some ⟨w.heap.size, 0, none⟩)) ?_ (hK _ _ rfl (Fr.refl _ _))
      clear hd hG hK
      go_simp
    refine stepsHold.cons (fun wx hG hd K hK => ?_) ?_
    · have h5 : us 5 = (.pointer (some ⟨w.heap.size, 0, none⟩)) := deps_get hd 0 rfl rfl rfl rfl rfl
      rw [if_pos (wanted_none rfl)]
      have hc : wx.cell? ⟨w.heap.size, 0, none⟩ = some (.int .i64 l.block) := by rw [cell_of (hG.keep0 HL.out)]; rfl
      refine wp_value (w2 := wx) (v := .int .i64 l.block) ?_ (hK _ _ rfl (Fr.refl _ _))
      clear hd hK
      go_simp
    refine stepsHold.cons (fun wx hG hd K hK => ?_) ?_
    · rw [if_pos (wanted_none rfl)]
      refine wp_value (w2 := wx) (v := .pointer (some ⟨w.heap.size + 1, 0, none⟩)) ?_ (hK _ _ rfl (Fr.refl _ _))
      clear hd hG hK
      go_simp
    refine stepsHold.cons (fun wx hG hd K hK => ?_) ?_
    · have h7 : us 7 = (.pointer (some ⟨w.heap.size + 1, 0, none⟩)) := deps_get hd 0 rfl rfl rfl rfl rfl
      rw [if_pos (wanted_none rfl)]
      have hc : wx.cell? ⟨w.heap.size + 1, 0, none⟩ = some (.int .i64 m.block) := by rw [cell_of (hG.keep0 HM.out)]; rfl
      refine wp_value (w2 := wx) (v := .int .i64 m.block) ?_ (hK _ _ rfl (Fr.refl _ _))
      clear hd hK
      go_simp
    refine stepsHold.cons (fun wx hG hd K hK => ?_) ?_
    · have h6 : us 6 = (.int .i64 l.block) := deps_get hd 0 rfl rfl rfl rfl rfl
      have h8 : us 8 = (.int .i64 m.block) := deps_get hd 1 rfl rfl rfl rfl rfl
      rw [if_pos (wanted_none rfl)]
      refine wp_call (w2 := wx) (f := 72) (args := #[.int .i64 l.block, .int .i64 m.block]) ?_ ?_
      · clear hd hK
        go_simp
      · refine ((compare_c (w := wx) l.block m.block)).mono ?_
        rintro e w9 ⟨rfl, hf⟩
        exact ⟨_, rfl, hK _ _ rfl hf⟩
    refine stepsHold.cons (fun wx hG hd K hK => ?_) ?_
    · rw [if_pos (wanted_none rfl)]
      refine wp_value (w2 := wx) (v := .pointer (some ⟨w.heap.size, 1, none⟩)) ?_ (hK _ _ rfl (Fr.refl _ _))
      clear hd hG hK
      go_simp
    refine stepsHold.cons (fun wx hG hd K hK => ?_) ?_
    · have h10 : us 10 = (.pointer (some ⟨w.heap.size, 1, none⟩)) := deps_get hd 0 rfl rfl rfl rfl rfl
      rw [if_pos (wanted_none rfl)]
      have hc : wx.cell? ⟨w.heap.size, 1, none⟩ = some (.int .i64 l.tx) := by rw [cell_of (hG.keep0 HL.out)]; rfl
      refine wp_value (w2 := wx) (v := .int .i64 l.tx) ?_ (hK _ _ rfl (Fr.refl _ _))
      clear hd hK
      go_simp
    refine stepsHold.cons (fun wx hG hd K hK => ?_) ?_
    · rw [if_pos (wanted_none rfl)]
      refine wp_value (w2 := wx) (v := .pointer (some ⟨w.heap.size + 1, 1, none⟩)) ?_ (hK _ _ rfl (Fr.refl _ _))
      clear hd hG hK
      go_simp
    refine stepsHold.cons (fun wx hG hd K hK => ?_) ?_
    · have h12 : us 12 = (.pointer (some ⟨w.heap.size + 1, 1, none⟩)) := deps_get hd 0 rfl rfl rfl rfl rfl
      rw [if_pos (wanted_none rfl)]
      have hc : wx.cell? ⟨w.heap.size + 1, 1, none⟩ = some (.int .i64 m.tx) := by rw [cell_of (hG.keep0 HM.out)]; rfl
      refine wp_value (w2 := wx) (v := .int .i64 m.tx) ?_ (hK _ _ rfl (Fr.refl _ _))
      clear hd hK
      go_simp
    refine stepsHold.cons (fun wx hG hd K hK => ?_) ?_
    · have h11 : us 11 = (.int .i64 l.tx) := deps_get hd 0 rfl rfl rfl rfl rfl
      have h13 : us 13 = (.int .i64 m.tx) := deps_get hd 1 rfl rfl rfl rfl rfl
      rw [if_pos (wanted_none rfl)]
      refine wp_call (w2 := wx) (f := 72) (args := #[.int .i64 l.tx, .int .i64 m.tx]) ?_ ?_
      · clear hd hK
        go_simp
      · refine ((compare_c (w := wx) l.tx m.tx)).mono ?_
        rintro e w9 ⟨rfl, hf⟩
        exact ⟨_, rfl, hK _ _ rfl hf⟩
    refine stepsHold.cons (fun wx hG hd K hK => ?_) ?_
    · have h9 : us 9 = (.int .i64 (cmpI l.block m.block)) := deps_get hd 0 rfl rfl rfl rfl rfl
      have h14 : us 14 = (.int .i64 (cmpI l.tx m.tx)) := deps_get hd 1 rfl rfl rfl rfl rfl
      rw [if_pos (wanted_none rfl)]
      refine wp_value (w2 := wx.alloc (.cells #[.int .i64 (cmpI l.block m.block), .int .i64 (cmpI l.tx m.tx)] 3)) (v := .slice (some ⟨wx.heap.size, 0, none⟩) 2 2) ?_ (hK _ _ ⟨_, rfl, alloc_at rfl _⟩ ((Fr.refl _ _).alloc _))
      clear hd hG hK
      go_simp
    refine stepsHold.cons (fun wx hG hd K hK => ?_) ?_
    · have h15 := deps_get hd 0 rfl rfl rfl rfl rfl
      rw [if_pos (wanted_none rfl)]
      obtain ⟨g, hg1, hg2⟩ := h15
      refine wp_call (w2 := wx) (f := 71) (args := #[.slice (some ⟨g, 0, none⟩) 2 2]) ?_ ?_
      · clear hd hK
        go_simp
      · refine (or_c (w := wx) g (cmpI l.block m.block) (cmpI l.tx m.tx) hg2).mono ?_
        rintro e w9 ⟨rfl, hf⟩
        exact ⟨_, rfl, hK _ _ rfl hf⟩
    refine stepsHold.cons (fun wx hG hd K hK => ?_) ?_
    · have h16 : us 16 = (.int .i64 (ordI l m)) := deps_get hd 0 rfl rfl rfl rfl rfl
      rw [if_pos (wanted_none rfl)]
      refine wp_value (w2 := wx) (v := .int .i64 (ordI l m)) ?_ (hK _ _ rfl (Fr.refl _ _))
      clear hd hG hK
      go_simp
    exact stepsHold.nil
  case fin =>
    have h5 : us 5 = (.pointer (some ⟨w.heap.size, 0, none⟩)) := all_get hall 0 rfl rfl rfl
    have h6 : us 6 = (.int .i64 l.block) := all_get hall 1 rfl rfl rfl
    have h7 : us 7 = (.pointer (some ⟨w.heap.size + 1, 0, none⟩)) := all_get hall 2 rfl rfl rfl
    have h8 : us 8 = (.int .i64 m.block) := all_get hall 3 rfl rfl rfl
    have h9 : us 9 = (.int .i64 (cmpI l.block m.block)) := all_get hall 4 rfl rfl rfl
    have h10 : us 10 = (.pointer (some ⟨w.heap.size, 1, none⟩)) := all_get hall 5 rfl rfl rfl
    have h11 : us 11 = (.int .i64 l.tx) := all_get hall 6 rfl rfl rfl
    have h12 : us 12 = (.pointer (some ⟨w.heap.size + 1, 1, none⟩)) := all_get hall 7 rfl rfl rfl
    have h13 : us 13 = (.int .i64 m.tx) := all_get hall 8 rfl rfl rfl
    have h14 : us 14 = (.int .i64 (cmpI l.tx m.tx)) := all_get hall 9 rfl rfl rfl
    have h15 := all_get hall 10 rfl rfl rfl
    have h16 : us 16 = (.int .i64 (ordI l m)) := all_get hall 11 rfl rfl rfl
    have h4 : us 4 = (.int .i64 (ordI l m)) := all_get hall 12 rfl rfl rfl
    simp only [fillL, Nat.reduceAdd]
    clear hall
    simp only [h5, h6, h7, h8, h9, h10, h11, h12, h13, h14, h16, h4]
    clear h5 h6 h7 h8 h9 h10 h11 h12 h13 h14 h16 h4
    go_wp2_with fail
    go_ret
    exact ⟨rfl, HF.out.then0 hG⟩
set_option maxRecDepth 100000 in
theorem strong_c (l : Lk) : Calls Try.prog 38 #[lkV l] w fun e w' => e = .returned (.int .i64 l.strong) ∧ Fr F0 w w' := by
  obtain ⟨b, x, h, k⟩ := l
  show Calls Try.prog 38 #[.agg #[.int .i64 b, .int .i64 x, .int .i64 h, .int .i64 k]] w fun e w' => e = .returned (.int .i64 (max h k)) ∧ Fr F0 w w'
  by_cases hle : h < k
  · have hm : max h k = k := Int.max_eq_right (by omega)
    rw [hm]
    clear hm
    go_enter Try.func38, Try.ntmps38
    go_wp2_with fail
    go_ret
    exact ⟨rfl, (Fr.refl _ _).alloc _⟩
  · have hm : max h k = h := Int.max_eq_left (by omega)
    rw [hm]
    clear hm
    go_enter Try.func38, Try.ntmps38
    go_wp2_with fail
    go_ret
    exact ⟨rfl, (Fr.refl _ _).alloc _⟩
set_option maxRecDepth 100000 in
theorem mode_c (m : Int) : Calls Try.prog 70 #[.int .i64 m] w fun e w' => e = .returned (.bool (modeB m)) ∧ Fr F0 w w' := by
  by_cases h0 : 0 ≤ m
  · go_enter Try.func70, Try.ntmps70
    go_wp2_with fail
    go_ret
    exact ⟨by simp [modeB, h0], Fr.refl _ _⟩
  · go_enter Try.func70, Try.ntmps70
    go_wp2_with fail
    go_ret
    exact ⟨by simp [modeB] <;> omega, Fr.refl _ _⟩
set_option maxRecDepth 100000 in
set_option maxHeartbeats 1000000 in
theorem sound_c (l : Lk) : Calls Try.prog 42 #[lkV l] w fun e w' => e = .returned (.bool l.sound) ∧ Fr F0 w w' := by
  obtain ⟨b, x, h, k⟩ := l
  show Calls Try.prog 42 #[.agg #[.int .i64 b, .int .i64 x, .int .i64 h, .int .i64 k]] w fun e w' => e = .returned (.bool (Lk.sound ⟨b, x, h, k⟩)) ∧ Fr F0 w w'
  have hso : Lk.sound ⟨b, x, h, k⟩ = (decide (0 ≤ b) && decide (b < 256) && decide (0 ≤ x) && decide (x < 64) && modeB h && modeB k && decide (0 < max h k)) := rfl
  rw [hso]
  have HF : Hid (Fr F0 w (w.alloc (.cells #[.int .i64 b, .int .i64 x, .int .i64 h, .int .i64 k] 45))) := Lib.hid ((Fr.refl F0 w).alloc _)
  have HB : Hid ((w.alloc (.cells #[.int .i64 b, .int .i64 x, .int .i64 h, .int .i64 k] 45)).heap[w.heap.size]? = some (.cells #[.int .i64 b, .int .i64 x, .int .i64 h, .int .i64 k] 45 (0, 0))) := Lib.hid (alloc_at rfl _)
  clear hso
  by_cases h1 : 0 ≤ b
  case neg =>
    go_enter Try.func42, Try.ntmps42
    go_wp2_with fail
    go_ret
    exact ⟨by simp; intros; omega, HF.out⟩
  by_cases h2 : b < 256
  case neg =>
    go_enter Try.func42, Try.ntmps42
    go_wp2_with fail
    go_ret
    exact ⟨by simp; intros; omega, HF.out⟩
  by_cases h3 : 0 ≤ x
  case neg =>
    go_enter Try.func42, Try.ntmps42
    go_wp2_with fail
    go_ret
    exact ⟨by simp; intros; omega, HF.out⟩
  by_cases h4 : x < 64
  case neg =>
    go_enter Try.func42, Try.ntmps42
    go_wp2_with fail
    go_ret
    exact ⟨by simp; intros; omega, HF.out⟩
  have hd : (decide (0 ≤ b) && decide (b < 256) && decide (0 ≤ x) && decide (x < 64)) = true := by simp [h1, h2, h3, h4]
  rw [hd, Bool.true_and]
  clear hd
  obtain ⟨mh, hmh⟩ : ∃ mh, mh = modeB h := ⟨_, rfl⟩
  obtain ⟨mk, hmk⟩ : ∃ mk, mk = modeB k := ⟨_, rfl⟩
  have HMH := Lib.hid hmh
  have HMK := Lib.hid hmk
  rw [← hmh, ← hmk]
  clear hmh hmk
  go_enter Try.func42, Try.ntmps42
  go_wp2_with fail
  refine (mode_c h).mono ?_
  rintro e w1 ⟨rfl, hf1⟩
  rw [← HMH.out]
  cases mh with
  | false =>
    go_wp2_with fail
    go_ret
    exact ⟨rfl, HF.out.then0 hf1⟩
  | true =>
    have HF1 := Lib.hid (HF.out.then0 hf1)
    have HB1 := Lib.hid (hf1.keep0 HB.out)
    have c3 : w1.cell? ⟨w.heap.size, 3, none⟩ = some (.int .i64 k) := by rw [cell_of HB1.out]; rfl
    clear hf1
    go_wp2_with fail
    refine (mode_c k).mono ?_
    rintro e w2 ⟨rfl, hf2⟩
    rw [← HMK.out]
    cases mk with
    | false =>
      go_wp2_with fail
      go_ret
      exact ⟨rfl, HF1.out.then0 hf2⟩
    | true =>
      have HF2 := Lib.hid (HF1.out.then0 hf2)
      have HB2 := Lib.hid (hf2.keep0 HB1.out)
      have d0 : w2.cell? ⟨w.heap.size, 0, none⟩ = some (.int .i64 b) := by rw [cell_of HB2.out]; rfl
      have d1 : w2.cell? ⟨w.heap.size, 1, none⟩ = some (.int .i64 x) := by rw [cell_of HB2.out]; rfl
      have d2 : w2.cell? ⟨w.heap.size, 2, none⟩ = some (.int .i64 h) := by rw [cell_of HB2.out]; rfl
      have d3 : w2.cell? ⟨w.heap.size, 3, none⟩ = some (.int .i64 k) := by rw [cell_of HB2.out]; rfl
      clear hf2 c3
      go_wp2_with fail
      refine (strong_c ⟨b, x, h, k⟩).mono ?_
      rintro e w3 ⟨rfl, hf3⟩
      obtain ⟨s, hs⟩ : ∃ s, s = max h k := ⟨_, rfl⟩
      have hs2 : Lk.strong ⟨b, x, h, k⟩ = s := by rw [hs]; rfl
      rw [hs2]
      have HS := Lib.hid hs
      clear hs hs2
      by_cases h5 : 0 < s
      · go_wp2_with fail
        go_ret
        exact ⟨by rw [← HS.out]; simp [h5], HF2.out.then0 hf3⟩
      · go_wp2_with fail
        go_ret
        exact ⟨by rw [← HS.out]; simp [h5], HF2.out.then0 hf3⟩
end
end Go.Proofs.Ytgbaijfgmeealaa
