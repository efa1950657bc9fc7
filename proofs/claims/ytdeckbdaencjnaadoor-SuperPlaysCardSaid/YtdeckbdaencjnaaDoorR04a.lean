/-
  The document's device (layer 4): what it is in memory; spend, Budget, Write, Read. Conditions: none.
-/
import Derived.Test.YtdeckbdaencjnaaDoorDevX
import Derived.Test.YtdeckbdaencjnaaDoorTurn
import Derived.Laws.IdiomStrings
import Derived.Deep.OwnRows
set_option linter.unusedVariables false
set_option linter.unusedSimpArgs false
namespace Go.Proofs.YtdeckbdaencjnaaDoor
open Go.RowKit

theorem r_und_string : Tryd.prog.underlying 9 = some .string := by kernel_rfl
theorem r_und_bytes : Tryd.prog.underlying 24 = some (.slice 5) := by kernel_rfl
theorem r_und_u8 : Tryd.prog.underlying 5 = some (.int .u8) := by kernel_rfl

/-- A sector that is cached, as a string; nothing: the empty one. -/
def lateStr : Option (List Int) → Value
  | none => .string ⟨#[]⟩
  | some s => .string (strOfNums s)

structure RefAt (w : World) (rb lb tb : Nat) (D : Dev) : Prop where
  ok : D.Ok
  dev : ∃ t cap, w.heap[rb]? = some (.cells #[.slice (some ⟨lb, 0, none⟩) D.laid.length cap, .slice (some ⟨tb, 0, none⟩) D.laid.length D.laid.length, .int .i64 D.budget, .bool D.gone, .int .i64 D.spent] t (0, 0))
  laid : ∃ (t : TypeId) (cs : Array Value), w.heap[lb]? = some (.cells cs t (0, 0)) ∧ D.laid.length ≤ cs.size ∧ ∀ (i : Nat) (s : List Int), D.laid[i]? = some s → cs[i]? = some (Value.string (strOfNums s))
  late : ∃ t, w.heap[tb]? = some (.cells (D.late.map lateStr).toArray t (0, 0))
  ne1 : rb ≠ lb
  ne2 : rb ≠ tb
  ne3 : lb ≠ tb

section
variable {w w' : World} {rb lb tb : Nat} {D : Dev}
theorem RefAt.keep {S : Nat → Prop} (h : RefAt w rb lb tb D) (hf : Fr S w w') (h1 : ¬ S rb) (h2 : ¬ S lb) (h3 : ¬ S tb) : RefAt w' rb lb tb D := by
  obtain ⟨t1, c1, e1⟩ := h.dev
  obtain ⟨t2, cs, e2, l2⟩ := h.laid
  obtain ⟨t3, e3⟩ := h.late
  exact ⟨h.ok, ⟨t1, c1, hf.keep e1 h1⟩, ⟨t2, cs, hf.keep e2 h2, l2⟩, ⟨t3, hf.keep e3 h3⟩, h.ne1, h.ne2, h.ne3⟩
theorem RefAt.keep0 (h : RefAt w rb lb tb D) (hf : Fr F0 w w') : RefAt w' rb lb tb D := h.keep hf (fun h => h) (fun h => h) (fun h => h)
theorem RefAt.lt (h : RefAt w rb lb tb D) : rb < w.heap.size ∧ lb < w.heap.size ∧ tb < w.heap.size := by
  obtain ⟨t1, c1, e1⟩ := h.dev
  obtain ⟨t2, cs, e2, _⟩ := h.laid
  obtain ⟨t3, e3⟩ := h.late
  exact ⟨lt_of_block e1, lt_of_block e2, lt_of_block e3⟩
theorem RefAt.cells (h : RefAt w rb lb tb D) : ∃ cap, w.cell? ⟨rb, 0, none⟩ = some (.slice (some ⟨lb, 0, none⟩) D.laid.length cap) ∧ w.cell? ⟨rb, 1, none⟩ = some (.slice (some ⟨tb, 0, none⟩) D.laid.length D.laid.length) ∧
    w.cell? ⟨rb, 2, none⟩ = some (.int .i64 D.budget) ∧ w.cell? ⟨rb, 3, none⟩ = some (.bool D.gone) ∧ w.cell? ⟨rb, 4, none⟩ = some (.int .i64 D.spent) ∧
    w.frozen? ⟨rb, 2, none⟩ = false ∧ w.frozen? ⟨rb, 3, none⟩ = false ∧ w.frozen? ⟨rb, 4, none⟩ = false := by
  obtain ⟨t, cap, e⟩ := h.dev
  exact ⟨cap, by simp [World.cell?, World.frozen?, e]⟩
theorem RefAt.own (h : RefAt w rb lb tb D) {D' : Dev} (hf : Fr (fun k => k = rb) w w') (hl : D'.laid = D.laid) (hlate : D'.late = D.late) (hb : -1 ≤ D'.budget) (hb' : D'.budget ≤ 9223372036854775807)
    (hd : ∃ t cap, w'.heap[rb]? = some (.cells #[.slice (some ⟨lb, 0, none⟩) D.laid.length cap, .slice (some ⟨tb, 0, none⟩) D.laid.length D.laid.length, .int .i64 D'.budget, .bool D'.gone, .int .i64 D'.spent] t (0, 0))) : RefAt w' rb lb tb D' := by
  obtain ⟨t2, cs, e2, l2⟩ := h.laid
  obtain ⟨t3, e3⟩ := h.late
  refine ⟨⟨by rw [hl, hlate]; exact h.ok.len, by rw [hl]; exact h.ok.secs, by rw [hlate]; exact h.ok.lates, by rw [hl]; exact h.ok.pos, by rw [hl]; exact h.ok.most, hb, hb'⟩, by rw [hl]; exact hd, ⟨t2, cs, hf.keep e2 (fun e => h.ne1 e.symm), by rw [hl]; exact l2⟩, ⟨t3, by rw [hlate]; exact hf.keep e3 (fun e => h.ne2 e.symm)⟩, h.ne1, h.ne2, h.ne3⟩

/-- A sector's string is not the empty one. -/
theorem str64_ne {s : List Int} (h : s.length = 64) : strOfNums s ≠ (⟨#[]⟩ : ByteArray) := by
  intro e
  have h1 := strOfNums_size s
  rw [e, h] at h1
  simp [ByteArray.size] at h1

theorem str64_full {s : List Int} (h : s.length = 64) : (strOfNums s).toList.isEmpty = false := by
  rw [ByteArray.toList_eq, strOfNums_data]
  cases s with
  | nil => simp at h
  | cons => rfl

set_option maxRecDepth 100000 in
set_option maxHeartbeats 400000 in
theorem rspend_c (h : RefAt w rb lb tb D) : Calls Tryd.prog 73 #[.pointer (some ⟨rb, 0, none⟩)] w fun e w' => e = .returned (.bool (decide (D.spendE = 0))) ∧ RefAt w' rb lb tb D.spend ∧ Fr (fun k => k = rb) w w' := by
  obtain ⟨cap0, h0, h1, h2, h3, h4, f2, f3, f4⟩ := h.cells
  obtain ⟨t, cap, hd⟩ := h.dev
  have hb := h.ok.least
  have hb' := h.ok.fits
  by_cases hz : D.budget = 0
  · have hr : decide (D.spendE = 0) = false := by simp [Dev.spendE, hz]
    have hs : D.spend = { D with gone := true } := by simp [Dev.spend, hz]
    rw [hr, hs]
    have hz' : (D.budget == 0) = true := by simp [hz]
    have Hz := Lib.hid hz
    clear hz hs hr
    go_enter Tryd.func73, Tryd.ntmps73
    go_wp2
    go_ret
    have hf : Fr (fun k => k = rb) w (w.setCell ⟨rb, 3, none⟩ (.bool true)) := (Fr.refl _ _).setCell (by exact Or.inl rfl) _
    refine ⟨rfl, h.own (D' := { D with gone := true }) hf rfl rfl hb hb' ⟨t, cap, ?_⟩, hf⟩
    exact set_cell hd 3 (.bool true)
  · have hr : decide (D.spendE = 0) = true := by simp [Dev.spendE, hz]
    have hz' : (D.budget == 0) = false := by simp [hz]
    rw [hr]
    clear hr
    by_cases hp : 0 < D.budget
    · have hs : D.spend = { D with budget := D.budget - 1, spent := wrap64 (D.spent + 1) } := by simp [Dev.spend, hz, hp]
      rw [hs]
      clear hs
      have hm : max (D.budget - 1) (-1) = D.budget - 1 := Int.max_eq_left (by omega)
      go_enter Tryd.func73, Tryd.ntmps73
      go_wp2
      go_ret
      have hf : Fr (fun k => k = rb) w ((w.setCell ⟨rb, 2, none⟩ (.int .i64 (D.budget - 1))).setCell ⟨rb, 4, none⟩ (.int .i64 (wrap64 (D.spent + 1)))) := ((Fr.refl _ _).setCell (by exact Or.inl rfl) _).setCell (by exact Or.inl rfl) _
      refine ⟨rfl, h.own (D' := { D with budget := D.budget - 1, spent := wrap64 (D.spent + 1) }) hf rfl rfl (by simp; omega) (by simp; omega) ⟨t, cap, ?_⟩, hf⟩
      exact set_cell (set_cell hd 2 _) 4 _
    · have hs : D.spend = { D with budget := -1, spent := wrap64 (D.spent + 1) } := by
        have : D.budget = -1 := by omega
        simp [Dev.spend, hz, hp, this]
      rw [hs]
      clear hs
      have hm : max (D.budget - 1) (-1) = -1 := Int.max_eq_right (by omega)
      go_enter Tryd.func73, Tryd.ntmps73
      go_wp2
      go_ret
      have hf : Fr (fun k => k = rb) w ((w.setCell ⟨rb, 2, none⟩ (.int .i64 (-1))).setCell ⟨rb, 4, none⟩ (.int .i64 (wrap64 (D.spent + 1)))) := ((Fr.refl _ _).setCell (by exact Or.inl rfl) _).setCell (by exact Or.inl rfl) _
      refine ⟨rfl, h.own (D' := { D with budget := -1, spent := wrap64 (D.spent + 1) }) hf rfl rfl (by simp) (by simp) ⟨t, cap, ?_⟩, hf⟩
      exact set_cell (set_cell hd 2 _) 4 _

set_option maxRecDepth 100000 in
set_option maxHeartbeats 400000 in
theorem rbudget_c (h : RefAt w rb lb tb D) (k : Int) (hk : k ≤ 9223372036854775807) : Calls Tryd.prog 35 #[.pointer (some ⟨rb, 0, none⟩), .int .i64 k] w fun e w' => e = .returned (.tuple #[]) ∧ RefAt w' rb lb tb (D.budgeted k) ∧ Fr (fun k => k = rb) w w' := by
  obtain ⟨cap0, h0, h1, h2, h3, h4, f2, f3, f4⟩ := h.cells
  obtain ⟨t, cap, hd⟩ := h.dev
  have hf : ∀ v, Fr (fun k => k = rb) w (w.setCell ⟨rb, 2, none⟩ v) := fun v => (Fr.refl _ _).setCell (by exact Or.inl rfl) _
  have hown := h.own (D' := D.budgeted k) (hf (.int .i64 (max k (-1)))) rfl rfl (by simp only [Dev.budgeted]; omega) (by simp only [Dev.budgeted]; omega) ⟨t, cap, set_cell hd 2 _⟩
  by_cases hk1 : -1 ≤ k
  · have hm : max k (-1) = k := Int.max_eq_left hk1
    rw [hm] at hown
    go_enter Tryd.func35, Tryd.ntmps35
    go_wp2
    go_end0
    exact ⟨rfl, hown, hf _⟩
  · have hm : max k (-1) = -1 := Int.max_eq_right (by omega)
    rw [hm] at hown
    go_enter Tryd.func35, Tryd.ntmps35
    go_wp2
    go_end0
    exact ⟨rfl, hown, hf _⟩

/-! ### Write -/
theorem r_info_u8 : (Tryd.prog.info? 5).map (fun i => (i.zero, i.size, i.bytes)) = some (some (.int .u8 0), 1, 1) := by kernel_rfl
theorem r_made_zsec : madeCells #[Value.int .u8 0] 64 = cellsOf zsec := by
  apply Array.ext
  · simp [madeCells, cellsOf, zsec_len]
  · intro i h1 h2
    have hr : ∀ x ∈ cellsOf zsec, x = Value.int .u8 0 := by
      intro x hx
      simp only [cellsOf, List.mem_toArray, List.mem_map] at hx
      obtain ⟨y, hy, rfl⟩ := hx
      rw [zsec_mem hy]
    rw [hr _ (Array.getElem_mem h2)]
    simp [madeCells, Nat.mod_one]
theorem r_make_zsec (W : World) : (Instr.makeSlice 24 (.int .i64 64) (.int .i64 64)).run Tryd.prog W = .ok (.slice (some ⟨W.heap.size, 0, none⟩) 64 64) (W.alloc (.cells (cellsOf zsec) 5)) := by
  have := run_make_row' (P := Tryd.prog) 24 5 (.int .u8 0) 1 r_und_bytes r_info_u8 rfl .i64 .i64 64 (by decide) (by decide) W
  rw [r_made_zsec] at this
  exact this
theorem r_conv_sec {W : World} {b : Nat} {s : List Int} {t : TypeId} {fr : Nat × Nat} (h : W.heap[b]? = some (.cells (cellsOf s) t fr)) : (convert 24 9 (.slice (some ⟨b, 0, none⟩) s.length s.length)).run Tryd.prog W = .ok (.string (strOfNums s)) W := by
  exact conv_at (BytesAt.of_block (xs := s) h) r_und_bytes r_und_u8 r_und_string s.length
theorem r_conv_zsec {W : World} {b : Nat} {t : TypeId} {fr : Nat × Nat} (h : W.heap[b]? = some (.cells (cellsOf zsec) t fr)) : (convert 24 9 (.slice (some ⟨b, 0, none⟩) 64 64)).run Tryd.prog W = .ok (.string (strOfNums zsec)) W := by
  have := r_conv_sec h
  rwa [zsec_len] at this
theorem strOfNums_append (a b : List Int) : strOfNums (a ++ b) = strOfNums a ++ strOfNums b := by
  unfold strOfNums
  simp [ByteArray.ext_iff]
theorem strOfNums_take (l : List Int) (m : Nat) : (strOfNums l).extract 0 m = strOfNums (l.take m) := by
  apply ByteArray.ext
  rw [ByteArray.data_extract]
  simp [strOfNums, List.extract_eq_take_drop, List.map_take]
theorem pad64_take (xs : List Int) (h : xs.length ≤ 64) : (xs ++ zsec).take 64 = pad64 xs := by
  rw [List.take_append, List.take_of_length_le h, pad64, zsec, List.take_replicate]
  congr 2
  omega
def Rv (rb lb tb : Nat) : Nat → Prop := fun k => k = rb ∨ k = lb ∨ k = tb

set_option maxRecDepth 100000 in
set_option maxHeartbeats 1000000 in
theorem rwrite_yes (h : RefAt w rb lb tb D) (i : Nat) (hm : D.may i = 0) (A : Option Addr) (c : Nat) (xs : List Int) (n : Nat) (hA : BytesAt w A n xs) (hn : n ≤ 64) (hne : 0 < n → ∀ ad, A = some ad → ad.block ≠ rb) (hb : D.budget ≠ 0) :
    Calls Tryd.prog 38 #[.pointer (some ⟨rb, 0, none⟩), .int .i64 (i : Int), .slice A n c] w fun e w' => e = .returned (.int .i64 0) ∧ RefAt w' rb lb tb (D.spend.put i (pad64 xs)) ∧ Fr (Rv rb lb tb) w w' := by
  obtain ⟨cap0, h0, h1, h2, h3, h4, f2, f3, f4⟩ := h.cells
  have hg : D.gone = false := by
    cases hg : D.gone with
    | false => rfl
    | true => simp [Dev.may, hg] at hm
  have hi : (i : Int) < (D.laid.length : Int) := (Dev.may_nonneg hm).2
  have hi0 : (0 : Int) ≤ (i : Int) := Int.natCast_nonneg _
  have hn' : (n : Int) ≤ 64 := by omega
  have hsE : decide (D.spendE = 0) = true := by simp [Dev.spendE, hb]
  have HLEN := Lib.hid hA.len
  rw [hg] at h3
  clear h1 h2 h4 f2 f3 f4 hm
  go_enter Tryd.func38, Tryd.ntmps38
  go_wp2_with fail
  refine (rspend_c h).mono ?_
  rintro e w1 ⟨rfl, k1, hf1⟩
  rw [hsE]
  have HB := Lib.hid (hA.keep hf1 hne)
  go_wp2_with fail
  refine wp_region_free (S := F0) [false, false, false, false, false, false, false, true, false, false, false, false, false, false, false, false, false, false, false, false, false, false, false, false, false, false, false, false, false, false, false, true, true, true, true, true, false, false, false, false, false, false, false, false] [.eq (.slice A n c), .eq (.string (strOfNums xs)), ⟨fun v w' => ∃ b, v = .slice (some ⟨b, 0, none⟩) 64 64 ∧ w'.heap[b]? = some (.cells (cellsOf zsec) 5 (0, 0)), fun v w' w'' ⟨b, h1, h2⟩ hf => ⟨b, h1, hf.keep0 h2⟩⟩, .eq (.string (strOfNums zsec)), .eq (.string (strOfNums (xs ++ zsec))), .eq (.string (strOfNums (xs ++ zsec)))] (by kernel_rfl) (by kernel_rfl) (by rfl) (fun us => ?steps) (fun us wz hG hall => ?fin)
  case steps =>
    simp only [fillL, Nat.reduceAdd]
    refine stepsHold.cons (fun wx hG hd K hK => ?_) ?_
    · rw [if_pos (wanted_none rfl)]
      refine wp_value (w2 := wx) (v := .slice A n c) ?_ (hK _ _ rfl (Fr.refl _ _))
      clear hd hG hK
      go_simp
    refine stepsHold.cons (fun wx hG hd K hK => ?_) ?_
    · have h31 : us 31 = (.slice A n c) := deps_get hd 0 rfl rfl rfl rfl rfl
      rw [if_pos (wanted_none rfl)]
      have hr := conv_at (HB.out.keep0 hG) r_und_bytes r_und_u8 r_und_string c
      refine wp_value (w2 := wx) (v := .string (strOfNums xs)) ?_ (hK _ _ rfl (Fr.refl _ _))
      clear hd hK
      go_simp
    refine stepsHold.cons (fun wx hG hd K hK => ?_) ?_
    · rw [if_pos (wanted_none rfl)]
      have hr := r_make_zsec wx
      refine wp_value (w2 := wx.alloc (.cells (cellsOf zsec) 5)) (v := .slice (some ⟨wx.heap.size, 0, none⟩) 64 64) ?_ (hK _ _ ⟨_, rfl, alloc_at rfl _⟩ ((Fr.refl _ _).alloc _))
      clear hd hK
      go_simp
    refine stepsHold.cons (fun wx hG hd K hK => ?_) ?_
    · have h33 := deps_get hd 0 rfl rfl rfl rfl rfl
      rw [if_pos (wanted_none rfl)]
      obtain ⟨b, hb1, hb2⟩ := h33
      have hr := r_conv_zsec hb2
      refine wp_value (w2 := wx) (v := .string (strOfNums zsec)) ?_ (hK _ _ rfl (Fr.refl _ _))
      clear hd hK
      go_simp
    refine stepsHold.cons (fun wx hG hd K hK => ?_) ?_
    · have h32 : us 32 = (.string (strOfNums xs)) := deps_get hd 0 rfl rfl rfl rfl rfl
      have h34 : us 34 = (.string (strOfNums zsec)) := deps_get hd 1 rfl rfl rfl rfl rfl
      rw [if_pos (wanted_none rfl)]
      refine wp_value (w2 := wx) (v := .string (strOfNums (xs ++ zsec))) ?_ (hK _ _ rfl (Fr.refl _ _))
      clear hd hK
      rw [strOfNums_append]
      have hsz : (strOfNums xs).size + (strOfNums zsec).size ≤ 9223372036854775807 := by rw [strOfNums_size, strOfNums_size, zsec_len]; have := HLEN.out; omega
      go_simp
    refine stepsHold.cons (fun wx hG hd K hK => ?_) ?_
    · have h35 : us 35 = (.string (strOfNums (xs ++ zsec))) := deps_get hd 0 rfl rfl rfl rfl rfl
      rw [if_pos (wanted_none rfl)]
      refine wp_value (w2 := wx) (v := .string (strOfNums (xs ++ zsec))) ?_ (hK _ _ rfl (Fr.refl _ _))
      clear hd hG hK
      go_simp
    exact stepsHold.nil
  case fin =>
    have h31 : us 31 = (.slice A n c) := all_get hall 0 rfl rfl rfl
    have h32 : us 32 = (.string (strOfNums xs)) := all_get hall 1 rfl rfl rfl
    have h33 := all_get hall 2 rfl rfl rfl
    have h34 : us 34 = (.string (strOfNums zsec)) := all_get hall 3 rfl rfl rfl
    have h35 : us 35 = (.string (strOfNums (xs ++ zsec))) := all_get hall 4 rfl rfl rfl
    have h7 : us 7 = (.string (strOfNums (xs ++ zsec))) := all_get hall 5 rfl rfl rfl
    simp only [fillL, Nat.reduceAdd]
    clear hall
    simp only [h31, h32, h34, h35, h7]
    clear h31 h32 h34 h35 h7
    have k2 := k1.keep0 hG
    obtain ⟨cap1, g0, g1, g2, g3, g4, f2, f3, f4⟩ := k2.cells
    obtain ⟨t3, e3⟩ := k2.late
    have hfz := free_of e3 i
    obtain ⟨lt0, hlt0⟩ : ∃ v, wz.cell? ⟨tb, i, none⟩ = some v := by
      have hlt : i < D.spend.late.length := by rw [Dev.spend_late, h.ok.len]; omega
      exact ⟨lateStr (D.spend.late[i]), by rw [cell_of e3 i]; simp [hlt]⟩
    clear g0 g2 g3 g4 f2 f3 f4 h0 h3
    have hsl : D.spend.laid.length = D.laid.length := by rw [Dev.spend_laid]
    have hsz : (64 : Int) ≤ ((strOfNums (xs ++ zsec)).size : Int) := by rw [strOfNums_size, List.length_append, zsec_len]; omega
    go_wp2_with fail
    go_still_tail 8, (by kernel_rfl)
    rw [strOfNums_take, pad64_take xs (by have := HLEN.out; omega)]
    change wpList _ _ _ _ _ wz.drew
    have g1' : wz.drew.frozen? ⟨tb, i, none⟩ = false := hfz
    go_wp2
    go_ret
    have hlate : D.spend.late.length = D.laid.length := by rw [Dev.spend_late]; exact h.ok.len
    have hin : i < D.spend.late.length := by omega
    obtain ⟨t1, cp, e1⟩ := k2.dev
    obtain ⟨t2, cs, e2, l2⟩ := k2.laid
    have hset : (wz.drew.setCell ⟨tb, i, none⟩ (.string (strOfNums (pad64 xs)))).heap[tb]? = some (.cells ((D.spend.put i (pad64 xs)).late.map lateStr).toArray t3 (0, 0)) := by
      rw [set_cell (w := wz.drew) e3 i]
      simp [Dev.put, List.map_set, lateStr]
    exact ⟨rfl, ⟨Dev.put_ok k1.ok i _ (pad64_len xs (by have := HLEN.out; omega)), ⟨t1, cp, keep_setCell (w := wz.drew) e1 k2.ne2 _⟩, ⟨t2, cs, keep_setCell (w := wz.drew) e2 k2.ne3 _, l2⟩, ⟨t3, hset⟩, k2.ne1, k2.ne2, k2.ne3⟩,
      ((hf1.mono (fun _ e => .inl e)).then0 hG).drew.setCell (.inl (.inr (.inr rfl))) _⟩

set_option maxRecDepth 100000 in
set_option maxHeartbeats 1000000 in
/-- Write, whatever is written. -/
theorem rwrite_c (h : RefAt w rb lb tb D) (i : Int) (A : Option Addr) (c : Nat) (xs : List Int) (n : Nat) (hA : BytesAt w A n xs) (hne : 0 < n → ∀ ad, A = some ad → ad.block ≠ rb) :
    Calls Tryd.prog 38 #[.pointer (some ⟨rb, 0, none⟩), .int .i64 i, .slice A n c] w fun e w' => e = .returned (.int .i64 (D.writeE i xs)) ∧ RefAt w' rb lb tb (D.write i xs) ∧ Fr (Rv rb lb tb) w w' := by
  have hl := hA.len
  obtain ⟨cap0, h0, h1, h2, h3, h4, f2, f3, f4⟩ := h.cells
  by_cases hg : D.gone = true
  · have e1 : D.writeE i xs = 11 := by simp [Dev.writeE, Dev.may, hg]
    have e2 : D.write i xs = D := by simp [Dev.write, Dev.may, hg]
    rw [e1, e2]
    rw [hg] at h3
    clear e1 e2 h0 h1 h2 h4 f2 f3 f4
    go_enter Tryd.func38, Tryd.ntmps38
    go_wp2_with fail
    go_ret
    exact ⟨rfl, h, Fr.refl _ _⟩
  have hg' : D.gone = false := by simpa using hg
  rw [hg'] at h3
  by_cases h5 : i < 0
  · have e1 : D.writeE i xs = 1 := by simp [Dev.writeE, Dev.may, hg', h5]
    have e2 : D.write i xs = D := by simp [Dev.write, Dev.may, hg', h5]
    rw [e1, e2]
    clear e1 e2 h1 h2 h4 f2 f3 f4
    go_enter Tryd.func38, Tryd.ntmps38
    go_wp2_with fail
    go_ret
    exact ⟨rfl, h, Fr.refl _ _⟩
  by_cases h6 : (D.laid.length : Int) ≤ i
  · have e1 : D.writeE i xs = 1 := by simp [Dev.writeE, Dev.may, hg', h6]
    have e2 : D.write i xs = D := by simp [Dev.write, Dev.may, hg', h6]
    rw [e1, e2]
    clear e1 e2 h1 h2 h4 f2 f3 f4
    go_enter Tryd.func38, Tryd.ntmps38
    go_wp2_with fail
    go_ret
    exact ⟨rfl, h, Fr.refl _ _⟩
  have hm : D.may i = 0 := by simp [Dev.may, hg', h5, h6]
  by_cases h7 : 64 < n
  · have h7' : (64 : Int) < (n : Int) := by omega
    have h7x : 64 < xs.length := by omega
    have e1 : D.writeE i xs = 1 := by simp [Dev.writeE, hm, h7x]
    have e2 : D.write i xs = D := by simp [Dev.write, hm, h7x]
    rw [e1, e2]
    clear e1 e2 h1 h2 h4 f2 f3 f4
    go_enter Tryd.func38, Tryd.ntmps38
    go_wp2_with fail
    go_ret
    exact ⟨rfl, h, Fr.refl _ _⟩
  by_cases hb : D.budget = 0
  · have h7' : ¬ (64 : Int) < (n : Int) := by omega
    have h7x : ¬ 64 < xs.length := by omega
    have e1 : D.writeE i xs = 11 := by simp [Dev.writeE, hm, h7x, Dev.spendE, hb]
    have e2 : D.write i xs = D.spend := by simp [Dev.write, hm, h7x, hb]
    have hsE : decide (D.spendE = 0) = false := by simp [Dev.spendE, hb]
    rw [e1, e2]
    have HSE := Lib.hid hsE
    clear e1 e2 h1 h2 h4 f2 f3 f4 hsE hb
    go_enter Tryd.func38, Tryd.ntmps38
    go_wp2_with fail
    refine (rspend_c h).mono ?_
    rintro e w1 ⟨rfl, k1, hf1⟩
    rw [HSE.out]
    go_wp2_with fail
    go_ret
    exact ⟨rfl, k1, hf1.mono (fun _ e => .inl e)⟩
  · obtain ⟨j, rfl⟩ := Int.eq_ofNat_of_zero_le (Dev.may_nonneg hm).1
    have h7x : ¬ 64 < xs.length := by omega
    refine (rwrite_yes h j hm A c xs n hA (by omega) hne hb).mono ?_
    rintro e w' ⟨rfl, h1, hf⟩
    refine ⟨?_, ?_, hf⟩
    · simp [Dev.writeE, hm, Dev.spendE, hb]; omega
    · have : D.write (j : Int) xs = D.spend.put j (pad64 xs) := by simp [Dev.write, hm, hb]; intro; omega
      rw [this]; exact h1

/-! ### Read -/
def bytesOf (s : ByteArray) : List Int := s.data.toList.map fun b => (b.toNat : Int)
theorem bytesOf_str (s : ByteArray) : strOfNums (bytesOf s) = s := by
  apply ByteArray.ext
  apply Array.ext'
  rw [strOfNums_data, bytesOf, List.map_map]
  conv => rhs; rw [← List.map_id s.data.toList]
  refine List.map_congr_left fun b _ => ?_
  simp
/-- A slice of bytes of the call's own that are these, as a string. -/
structure StrRet (w w' : World) (e : Ending) (s : List Int) : Prop where
  ex : ∃ b c ys, e = .returned (.tuple #[.slice (some ⟨b, 0, none⟩) 64 c, .int .i64 0]) ∧ BytesAt w' (some ⟨b, 0, none⟩) 64 ys ∧ strOfNums ys = strOfNums s ∧ Fr F0 w w'
theorem bytesRow_at {W : World} {b : Nat} {s : ByteArray} {cap : Nat} {t : TypeId} {fr : Nat × Nat} (h : W.heap[b]? = some (.cells (bytesRow s cap) t fr)) : BytesAt W (some ⟨b, 0, none⟩) s.size (bytesOf s) := by
  refine ⟨by show (s.data.toList.map _).length = s.data.size; simp, fun _ => ⟨_, rfl, fun j v hv => ?_⟩⟩
  have hj : j < s.data.toList.length := by
    have := (List.getElem?_eq_some_iff.1 hv).1
    simpa [bytesOf] using this
  rw [add_at, Nat.zero_add]
  have : W.cell? ⟨b, j, none⟩ = (bytesRow s cap)[j]? := by simp [World.cell?, h]
  rw [this, bytesRow, Array.getElem?_append_left (by simpa using hj)]
  simp [bytesOf] at hv
  obtain ⟨x, hx, hv⟩ := hv
  simp [hx, hv]
theorem r_conv_str (W : World) (s : List Int) (hs : s.length = 64) : ∃ c, (convert 9 24 (.string (strOfNums s))).run Tryd.prog W = .ok (.slice (some ⟨W.heap.size, 0, none⟩) 64 c) (W.drew.alloc (.cells (bytesRow (strOfNums s) c) 5 ((bytesRow (strOfNums s) c).size, (bytesRow (strOfNums s) c).size + 1))) := by
  have hsz : (strOfNums s).size = 64 := by rw [strOfNums_size, hs]
  have := run_bytes_of_string (P := Tryd.prog) W 9 24 5 (strOfNums s) r_und_string r_und_bytes r_und_u8
  rw [hsz] at this
  exact ⟨_, this⟩

set_option maxRecDepth 100000 in
set_option maxHeartbeats 1000000 in
theorem rread_c (h : RefAt w rb lb tb D) (hg : D.gone = false) (i : Nat) (hi : i < D.laid.length) :
    Calls Tryd.prog 74 #[.pointer (some ⟨rb, 0, none⟩), .int .i64 (i : Int)] w fun e w' => StrRet w w' e (D.at i) := by
  obtain ⟨cap0, h0, h1, h2, h3, h4, f2, f3, f4⟩ := h.cells
  obtain ⟨t3, e3⟩ := h.late
  obtain ⟨t2, cs, e2, l2, l3⟩ := h.laid
  have hlt : i < D.late.length := by rw [h.ok.len]; exact hi
  have hi0 : (0 : Int) ≤ (i : Int) := Int.natCast_nonneg _
  have hi1 : (i : Int) < (D.laid.length : Int) := by omega
  rw [hg] at h3
  cases hs : D.late[i]? with
  | none => simp at hs; omega
  | some o =>
    cases o with
    | some s =>
      have h64 : s.length = 64 := h.ok.lates s (List.mem_of_getElem? hs)
      have hat : D.at i = s := Dev.at_late hs
      rw [hat]
      have hcl : w.cell? ⟨tb, i, none⟩ = some (.string (strOfNums s)) := by rw [cell_of e3 i]; simp [hs, lateStr]
      have hne := str64_full h64
      obtain ⟨c, hcv⟩ := r_conv_str w s h64
      have HS := Lib.hid h64
      clear hs hat h64 e3 e2 l2 l3 h2 h4 f2 f3 f4
      go_enter Tryd.func74, Tryd.ntmps74
      go_wp2_with fail
      go_ret2
      refine ⟨_, c, _, rfl, ?_, bytesOf_str _, (Fr.refl _ _).drew.alloc _⟩
      have := bytesRow_at (W := w.drew.alloc (.cells (bytesRow (strOfNums s) c) 5 ((bytesRow (strOfNums s) c).size, (bytesRow (strOfNums s) c).size + 1))) (b := w.heap.size) (alloc_at rfl _)
      rwa [strOfNums_size, HS.out] at this
    | none =>
      obtain ⟨s, hsl⟩ : ∃ s, D.laid[i]? = some s := ⟨D.laid[i], List.getElem?_eq_getElem hi⟩
      have h64 : s.length = 64 := h.ok.secs s (List.mem_of_getElem? hsl)
      have hat : D.at i = s := by rw [Dev.at_laid hs]; simp [List.getD, hsl]
      rw [hat]
      have hcl : w.cell? ⟨tb, i, none⟩ = some (.string ⟨#[]⟩) := by rw [cell_of e3 i]; simp [hs, lateStr]
      have hcl2 : w.cell? ⟨lb, i, none⟩ = some (.string (strOfNums s)) := by rw [cell_of e2 i]; exact l3 i s hsl
      obtain ⟨c, hcv⟩ := r_conv_str w s h64
      have HS := Lib.hid h64
      clear hs hat h64 hsl e3 e2 l2 l3 h2 h4 f2 f3 f4
      go_enter Tryd.func74, Tryd.ntmps74
      go_wp2_with fail
      go_ret2
      refine ⟨_, c, _, rfl, ?_, bytesOf_str _, (Fr.refl _ _).drew.alloc _⟩
      have := bytesRow_at (W := w.drew.alloc (.cells (bytesRow (strOfNums s) c) 5 ((bytesRow (strOfNums s) c).size, (bytesRow (strOfNums s) c).size + 1))) (b := w.heap.size) (alloc_at rfl _)
      rwa [strOfNums_size, HS.out] at this
set_option maxRecDepth 100000 in
set_option maxHeartbeats 400000 in
theorem rread_no (h : RefAt w rb lb tb D) (i : Int) (hm : D.may i ≠ 0) :
    Calls Tryd.prog 74 #[.pointer (some ⟨rb, 0, none⟩), .int .i64 i] w fun e w' => e = .returned (.tuple #[.slice none 0 0, .int .i64 (D.may i)]) ∧ w = w' := by
  obtain ⟨cap0, h0, h1, h2, h3, h4, f2, f3, f4⟩ := h.cells
  by_cases hg : D.gone = true
  · have e1 : D.may i = 11 := by simp [Dev.may, hg]
    rw [e1]
    rw [hg] at h3
    clear e1 hm h0 h1 h2 h4 f2 f3 f4
    go_enter Tryd.func74, Tryd.ntmps74
    go_wp2_with fail
    go_ret2
    exact ⟨rfl, rfl⟩
  have hg' : D.gone = false := by simpa using hg
  rw [hg'] at h3
  by_cases h5 : i < 0
  · have e1 : D.may i = 1 := by simp [Dev.may, hg', h5]
    rw [e1]
    clear e1 hm h1 h2 h4 f2 f3 f4
    go_enter Tryd.func74, Tryd.ntmps74
    go_wp2_with fail
    go_ret2
    exact ⟨rfl, rfl⟩
  by_cases h6 : (D.laid.length : Int) ≤ i
  · have e1 : D.may i = 1 := by simp [Dev.may, hg', h6]
    rw [e1]
    clear e1 hm h1 h2 h4 f2 f3 f4
    go_enter Tryd.func74, Tryd.ntmps74
    go_wp2_with fail
    go_ret2
    exact ⟨rfl, rfl⟩
  exact absurd (by simp [Dev.may, hg', h5, h6]) hm
end
end Go.Proofs.YtdeckbdaencjnaaDoor
