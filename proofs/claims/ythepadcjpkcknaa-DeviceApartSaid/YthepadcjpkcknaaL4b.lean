/-
  DeviceApart: the walk. Conditions: none.
-/
import Derived.Test.YthepadcjpkcknaaL4a
import Derived.Laws.BytesArg
import Derived.Test.YthepadcjpkcknaaFree
import Derived.Deep.OwnRows
set_option linter.unusedVariables false
set_option linter.unusedSimpArgs false
namespace Go.Proofs.Ythepadcjpkcknaa
open Go.RowKit

theorem und_string : Try.prog.underlying 9 = some .string := by kernel_rfl

/-- A device that was written to, once. -/
theorem new_write {n i : Nat} {xs : List Int} (hi : i < n) (hx : xs.length ≤ 64) : (Dev.new n).writeE i xs = 0 ∧ ((Dev.new n).write i xs).gone = false ∧ ((Dev.new n).write i xs).laid.length = n ∧ ((Dev.new n).write i xs).at i = pad64 xs := by
  have hl : (Dev.new n).laid.length = n := by simp [Dev.new]
  have hll : (Dev.new n).spend.late.length = n := by rw [Dev.spend_late]; simp [Dev.new]
  have hb : (Dev.new n).budget ≠ 0 := by simp [Dev.new]
  obtain ⟨h1, h2⟩ := Dev.write_ok (D := Dev.new n) rfl hb (i := i) (by rw [hl]; exact hi) hx
  refine ⟨h1, ?_, ?_, ?_⟩
  · rw [h2, Dev.spend_go hb]; rfl
  · rw [h2]; show ((Dev.new n).spend).laid.length = n; rw [Dev.spend_laid, hl]
  · rw [h2]; exact Dev.put_at _ _ _ (by rw [hll]; exact hi)

theorem info_u8 : (Try.prog.info? 5).map (fun i => (i.zero, i.size, i.bytes)) = some (some (.int .u8 0), 1, 1) := by kernel_rfl
theorem made_zsec : madeCells #[Value.int .u8 0] 64 = cellsOf zsec := by
  apply Array.ext
  · simp [madeCells, cellsOf, zsec_len]
  · intro i h1 h2
    have hr : ∀ x ∈ cellsOf zsec, x = Value.int .u8 0 := by
      intro x hx
      simp only [cellsOf, List.mem_toArray, List.mem_map] at hx
      obtain ⟨y, hy, rfl⟩ := hx
      rw [zsec_mem hy]
    rw [hr _ (Array.getElem_mem h2)]
    simp [madeCells, Nat.mod_one]
theorem make_zsec (W : World) : (Instr.makeSlice 22 (.int .i64 64) (.int .i64 64)).run Try.prog W = .ok (.slice (some ⟨W.heap.size, 0, none⟩) 64 64) (W.alloc (.cells (cellsOf zsec) 5)) := by
  have := run_make_row' (P := Try.prog) 22 5 (.int .u8 0) 1 und_bytes info_u8 rfl .i64 .i64 64 (by decide) (by decide) W
  rw [made_zsec] at this
  exact this
theorem conv_sec {W : World} {b : Nat} {s : List Int} {t : TypeId} {fr : Nat × Nat} (h : W.heap[b]? = some (.cells (cellsOf s) t fr)) : (convert 22 9 (.slice (some ⟨b, 0, none⟩) s.length s.length)).run Try.prog W = .ok (.string (strOfNums s)) W := by
  exact conv_at (BytesAt.of_block (xs := s) h) und_bytes und_u8 und_string s.length
theorem conv_zsec {W : World} {b : Nat} {t : TypeId} {fr : Nat × Nat} (h : W.heap[b]? = some (.cells (cellsOf zsec) t fr)) : (convert 22 9 (.slice (some ⟨b, 0, none⟩) 64 64)).run Try.prog W = .ok (.string (strOfNums zsec)) W := by
  have := conv_sec h
  rwa [zsec_len] at this

/-- The loop that changes what was read. -/
structure LoopB (b3 : Nat) (t3 : TypeId) (w3 wr : World) : Prop where
  ex : ∃ s : List Int, s.length = 64 ∧ wr.heap[b3]? = some (.cells (cellsOf s) t3 (0, 0))
  fr : Fr (fun k => k = b3) w3 wr

section
variable {w : World}
set_option maxRecDepth 100000 in
set_option maxHeartbeats 2000000 in
theorem apart_walk (A : Option Addr) (n c : Nat) (xs : List Int) (at_ : Int) (hA : BytesAt w A n xs) (hlo : -9223372036854775808 ≤ at_) (hhi : at_ ≤ 9223372036854775807) (hn : n ≤ 9223372036854775807) :
    Calls Try.prog 3 #[.slice A n c, .int .i64 at_] w fun e w' => e = .returned (.bool true) ∧ Fr F0 w w' := by
  by_cases hbig : 64 < n
  · have hbig' : (64 : Int) < (n : Int) := by omega
    go_enter Try.func3, Try.ntmps3
    go_wp2_with (go_at_call 9; refine (awake_c _).mono ?_; rintro e w1 ⟨rfl, hf1⟩)
    go_ret
    exact ⟨rfl, hf1⟩
  · have hbig' : ¬ (64 : Int) < (n : Int) := by omega
    obtain ⟨k, hk⟩ : ∃ k : Nat, at_ % 4 = (k : Int) := ⟨(at_ % 4).toNat, by omega⟩
    have hk4 : k < 4 := by omega
    have hband : bits BinOp.and IntKind.i64 at_ 3 = (k : Int) := by rw [← hk]; exact i64_and at_ 2 (by decide)
    have NW := Lib.hid (new_write (n := 4) (xs := xs) hk4 (by have := hA.len; omega))
    have HLEN := Lib.hid hA.len
    clear hk
    go_enter Try.func3, Try.ntmps3
    go_wp2_with fail
    refine (awake_c _).mono ?_
    rintro e w1 ⟨rfl, hf1⟩
    go_wp2_with fail
    refine (new_c 4 (by decide) (by decide) _).mono ?_
    rintro e w2 ⟨db, lb, mb, rfl, h2, n1, n2, n3, hf2⟩
    go_wp2_with fail
    refine (new_c 4 (by decide) (by decide) _).mono ?_
    rintro e w3 ⟨db', lb', mb', rfl, h3, n1', n2', n3', hf3⟩
    go_wp2_with fail
    have hlt2 := h2.lt
    have hlt3 := h3.lt
    have hA3 := ((hA.keep0 hf1).keep0 hf2).keep0 hf3
    refine (write_c (h2.keep0 hf3) k A c xs n hA3 (by intro hp ad e; subst e; have := hA.lt hp; have := hf1.size; omega)).mono ?_
    rintro e w4 ⟨rfl, h4, hf4⟩
    rw [NW.out.1]
    generalize hD1 : (Dev.new 4).write (k : Int) xs = D1 at *
    have HD1 := Lib.hid hD1
    clear hD1
    go_wp2_with fail
    refine (read_c h4 NW.out.2.1 k (by rw [NW.out.2.2.1]; exact hk4)).mono ?_
    rintro e w5 ⟨b5, t5, rfl, hn5, hb5, hf5⟩
    rw [NW.out.2.2.2] at hb5
    have HB5 := Lib.hid hb5
    have h5 := h4.keep0 hf5
    clear hb5
    go_wp2_with fail
    have hb5lt := lt_of_block HB5.out
    have z1 := hf1.size
    have z2 := hf2.size
    have z3 := hf3.size
    have z4 := hf4.size
    have z5 := hf5.size
    go_loopg [14] 64 (fun kq v wr => ∃ j : Nat, j ≤ 64 ∧ kq = 64 - j ∧ v = .int .i64 (j : Int) ∧ LoopB b5 t5 w5 wr)
    case atStart => exact ⟨0, by omega, rfl, rfl, ⟨⟨_, pad64_len xs (by have := HLEN.out; omega), HB5.out⟩, Fr.refl _ _⟩⟩
    case round =>
      obtain ⟨j, hj, rfl, rfl, ⟨s, hs, hbs⟩, hfr⟩ := hrel
      have HS := Lib.hid hs
      have HBS := Lib.hid hbs
      clear hs hbs
      by_cases hlt : j < 64
      · have hj0 : (0 : Int) ≤ (j : Int) := Int.natCast_nonneg _
        have hj1 : (j : Int) < 64 := by omega
        obtain ⟨x, hx⟩ : ∃ x, s[j]? = some x := ⟨s[j]'(by rw [HS.out]; exact hlt), List.getElem?_eq_getElem _⟩
        have hcell := sec_cell HBS.out j x hx
        have hfree := free_of HBS.out j
        clear hx
        go_wp2
        go_roundg (64 - (j + 1))
        case measure => omega
        case rel =>
          refine ⟨j + 1, by omega, rfl, by first | rfl | (go_num), ⟨⟨s.set j ((x + 1) % 256), by rw [List.length_set]; exact HS.out, (set_cell HBS.out j _).trans (by rw [cellsOf_set])⟩, hfr.setCell (by exact Or.inl rfl) _⟩⟩
      · have hj64 : j = 64 := by omega
        subst hj64
        go_wp2_with fail
        have h6 := h5.keep hfr (by omega) (by omega) (by omega)
        refine (read_c h6 NW.out.2.1 k (by rw [NW.out.2.2.1]; exact hk4)).mono ?_
        rintro e w6 ⟨b6, t6, rfl, hn6, hb6, hf6⟩
        rw [NW.out.2.2.2] at hb6
        have HB6 := Lib.hid hb6
        clear hb6
        have hz4 := h4.lt
        have h3' := h3.keep hf4 (by rintro (h' | h' | h') <;> omega) (by rintro (h' | h' | h') <;> omega) (by rintro (h' | h' | h') <;> omega)
        have h36 := (((h3'.keep0 hf5).keep hfr (by omega) (by omega) (by omega))).keep0 hf6
        go_wp2_with fail
        refine (read_c h36 rfl k (by simp [Dev.new]; exact hk4)).mono ?_
        rintro e w7 ⟨b7, t7, rfl, hn7, hb7, hf7⟩
        rw [Dev.new_at 4 k hk4] at hb7
        have HB7 := Lib.hid hb7
        have h37 := h36.keep0 hf7
        clear hb7
        have hlx := HLEN.out
        have hA7 : BytesAt w7 A n xs := (((hA3.keep hf4 (by rintro hp ad rfl (h' | h' | h') <;> (have := hA.lt hp; have := hf1.size; omega))).keep0 hf5).keep hfr (by intro hp ad e; subst e; have := hA.lt hp; have := hf1.size; have := hf2.size; have := hf3.size; have := hf4.size; omega)).keep0 hf6 |>.keep0 hf7
        have hC7 : BytesAt w7 (some ⟨b6, 0, none⟩) n xs := by
          have hh := (BytesAt.of_block (xs := pad64 xs) (hf7.keep0 HB6.out)).take n (by rw [pad64_len xs (by omega)]; omega)
          have : (pad64 xs).take n = xs := by rw [pad64, ← hlx, List.take_left']; rfl
          rwa [this] at hh
        have hZ7 : BytesAt w7 (some ⟨b7, 0, none⟩) 64 zsec := by
          have hh := BytesAt.of_block (xs := zsec) HB7.out
          rwa [zsec_len] at hh
        have hcached : (Dev.new 4).cachedI = [] := by decide +kernel
        have hspent : (Dev.new 4).spent = 0 := rfl
        have hfall : Fr F0 w w7 :=
          ((((((hf1.then0 hf2).then0 hf3).trans hf4 (by intro i hi; refine .inr ?_; rcases hi with h' | h' | h' <;> omega)).then0 hf5).trans hfr (by intro i hi; refine .inr ?_; omega)).then0 hf6).then0 hf7
        have HF := Lib.hid hfall
        have hn0 : (0 : Int) ≤ (n : Int) := Int.natCast_nonneg _
        clear hfall hA3 hA hlx
        go_wp2_with fail
        refine wp_region_free (S := F0) [false, false, false, false, true, false, false, false, false, false, false, false, false, false, false, false, false, false, false, false, false, false, false, false, false, false, false, false, false, false, false, false, false, false, false, false, false, false, false, false, false, false, false, false, false, false, false, false, false, false, false, false, false, false, false, false, false, false, false, false, false, false, false, false, false, false, false, false, false, false, true, true, true, true, true, true, true, true, true, true, true, true, true, true, true, true, true, true, true, true, true, true, true, true, true, true, true, true, true, true, true, true, true, true, true, true, true, true, true, true, true, true, true, true, true, true, true, true, true, true] [.eq (.bool true), .eq (.bool true), .eq (.int .i64 0), .eq (.bool true), .eq (.bool true), .eq (.bool true), .eq (.int .i64 0), .eq (.bool true), .eq (.bool true), .eq (.bool true), .eq (.int .i64 0), .eq (.bool true), .eq (.bool true), .eq (.bool true), .eq (.int .i64 0), .eq (.bool true), .eq (.bool true), .eq (.bool true), .eq (.slice (some ⟨b6, 0, none⟩) 64 64), .eq (.int .i64 64), .eq (.bool true), .eq (.bool true), .eq (.bool true), .eq (.slice (some ⟨b6, 0, none⟩) 64 64), .eq (.slice A n c), .eq (.int .i64 n), .eq (.slice (some ⟨b6, 0, none⟩) n 64), .eq (.string (strOfNums xs)), .eq (.slice A n c), .eq (.string (strOfNums xs)), .eq (.bool true), .eq (.bool true), .eq (.bool true), .eq (.slice (some ⟨b7, 0, none⟩) 64 64), .eq (.string (strOfNums zsec)), ⟨fun v w' => ∃ b, v = .slice (some ⟨b, 0, none⟩) 64 64 ∧ w'.heap[b]? = some (.cells (cellsOf zsec) 5 (0, 0)), fun v w' w'' ⟨b, h1, h2⟩ hf => ⟨b, h1, hf.keep0 h2⟩⟩, .eq (.string (strOfNums zsec)), .eq (.bool true), .eq (.bool true), .eq (.bool true), .eq (.pointer (some ⟨db', 0, none⟩)), ⟨fun v w' => ∃ B c, v = .slice B 0 c, fun v w' w'' h _ => h⟩, .eq (.int .i64 0), .eq (.bool true), .eq (.bool true), .eq (.bool true), .eq (.pointer (some ⟨db', 0, none⟩)), .eq (.int .i64 0), .eq (.bool true), .eq (.bool true), .eq (.bool true)] (by kernel_rfl) (by kernel_rfl) (by rfl) (fun us => ?steps) (fun us wz hG hall => ?fin)
        case steps =>
          simp only [fillL, Nat.reduceAdd]
          refine stepsHold.cons (fun wx hG hd K hK => ?_) ?_
          · rw [if_pos (wanted_none rfl)]
            refine wp_value (w2 := wx) (v := .bool true) ?_ (hK _ _ rfl (Fr.refl _ _))
            clear hd hG hK
            go_simp
          refine stepsHold.cons (fun wx hG hd K hK => ?_) ?_
          · have h70 : us 70 = (.bool true) := deps_get hd 0 rfl rfl rfl rfl rfl
            rw [if_pos (wanted_none rfl)]
            refine wp_value (w2 := wx) (v := .bool true) ?_ (hK _ _ rfl (Fr.refl _ _))
            clear hd hG hK
            go_simp
          refine stepsHold.cons (fun wx hG hd K hK => ?_) ?_
          · have h71 : us 71 = (.bool true) := deps_get hd 0 rfl rfl rfl rfl rfl
            rw [if_pos (wanted_yes rfl rfl rfl rfl h71)]
            refine wp_value (w2 := wx) (v := .int .i64 0) ?_ (hK _ _ rfl (Fr.refl _ _))
            clear hd hG hK
            go_simp
          refine stepsHold.cons (fun wx hG hd K hK => ?_) ?_
          · have h72 : us 72 = (.int .i64 0) := deps_get hd 0 rfl rfl rfl rfl rfl
            have h71 : us 71 = (.bool true) := deps_get hd 1 rfl rfl rfl rfl rfl
            rw [if_pos (wanted_yes rfl rfl rfl rfl h71)]
            refine wp_value (w2 := wx) (v := .bool true) ?_ (hK _ _ rfl (Fr.refl _ _))
            clear hd hG hK
            go_simp
          refine stepsHold.cons (fun wx hG hd K hK => ?_) ?_
          · have h71 : us 71 = (.bool true) := deps_get hd 0 rfl rfl rfl rfl rfl
            have h73 : us 73 = (.bool true) := deps_get hd 1 rfl rfl rfl rfl rfl
            rw [if_pos (wanted_none rfl)]
            refine wp_value (w2 := wx) (v := .bool true) ?_ (hK _ _ rfl (Fr.refl _ _))
            clear hd hG hK
            go_simp
          refine stepsHold.cons (fun wx hG hd K hK => ?_) ?_
          · have h74 : us 74 = (.bool true) := deps_get hd 0 rfl rfl rfl rfl rfl
            rw [if_pos (wanted_none rfl)]
            refine wp_value (w2 := wx) (v := .bool true) ?_ (hK _ _ rfl (Fr.refl _ _))
            clear hd hG hK
            go_simp
          refine stepsHold.cons (fun wx hG hd K hK => ?_) ?_
          · have h75 : us 75 = (.bool true) := deps_get hd 0 rfl rfl rfl rfl rfl
            rw [if_pos (wanted_yes rfl rfl rfl rfl h75)]
            refine wp_value (w2 := wx) (v := .int .i64 0) ?_ (hK _ _ rfl (Fr.refl _ _))
            clear hd hG hK
            go_simp
          refine stepsHold.cons (fun wx hG hd K hK => ?_) ?_
          · have h76 : us 76 = (.int .i64 0) := deps_get hd 0 rfl rfl rfl rfl rfl
            have h75 : us 75 = (.bool true) := deps_get hd 1 rfl rfl rfl rfl rfl
            rw [if_pos (wanted_yes rfl rfl rfl rfl h75)]
            refine wp_value (w2 := wx) (v := .bool true) ?_ (hK _ _ rfl (Fr.refl _ _))
            clear hd hG hK
            go_simp
          refine stepsHold.cons (fun wx hG hd K hK => ?_) ?_
          · have h75 : us 75 = (.bool true) := deps_get hd 0 rfl rfl rfl rfl rfl
            have h77 : us 77 = (.bool true) := deps_get hd 1 rfl rfl rfl rfl rfl
            rw [if_pos (wanted_none rfl)]
            refine wp_value (w2 := wx) (v := .bool true) ?_ (hK _ _ rfl (Fr.refl _ _))
            clear hd hG hK
            go_simp
          refine stepsHold.cons (fun wx hG hd K hK => ?_) ?_
          · have h78 : us 78 = (.bool true) := deps_get hd 0 rfl rfl rfl rfl rfl
            rw [if_pos (wanted_none rfl)]
            refine wp_value (w2 := wx) (v := .bool true) ?_ (hK _ _ rfl (Fr.refl _ _))
            clear hd hG hK
            go_simp
          refine stepsHold.cons (fun wx hG hd K hK => ?_) ?_
          · have h79 : us 79 = (.bool true) := deps_get hd 0 rfl rfl rfl rfl rfl
            rw [if_pos (wanted_yes rfl rfl rfl rfl h79)]
            refine wp_value (w2 := wx) (v := .int .i64 0) ?_ (hK _ _ rfl (Fr.refl _ _))
            clear hd hG hK
            go_simp
          refine stepsHold.cons (fun wx hG hd K hK => ?_) ?_
          · have h80 : us 80 = (.int .i64 0) := deps_get hd 0 rfl rfl rfl rfl rfl
            have h79 : us 79 = (.bool true) := deps_get hd 1 rfl rfl rfl rfl rfl
            rw [if_pos (wanted_yes rfl rfl rfl rfl h79)]
            refine wp_value (w2 := wx) (v := .bool true) ?_ (hK _ _ rfl (Fr.refl _ _))
            clear hd hG hK
            go_simp
          refine stepsHold.cons (fun wx hG hd K hK => ?_) ?_
          · have h79 : us 79 = (.bool true) := deps_get hd 0 rfl rfl rfl rfl rfl
            have h81 : us 81 = (.bool true) := deps_get hd 1 rfl rfl rfl rfl rfl
            rw [if_pos (wanted_none rfl)]
            refine wp_value (w2 := wx) (v := .bool true) ?_ (hK _ _ rfl (Fr.refl _ _))
            clear hd hG hK
            go_simp
          refine stepsHold.cons (fun wx hG hd K hK => ?_) ?_
          · have h82 : us 82 = (.bool true) := deps_get hd 0 rfl rfl rfl rfl rfl
            rw [if_pos (wanted_none rfl)]
            refine wp_value (w2 := wx) (v := .bool true) ?_ (hK _ _ rfl (Fr.refl _ _))
            clear hd hG hK
            go_simp
          refine stepsHold.cons (fun wx hG hd K hK => ?_) ?_
          · have h83 : us 83 = (.bool true) := deps_get hd 0 rfl rfl rfl rfl rfl
            rw [if_pos (wanted_yes rfl rfl rfl rfl h83)]
            refine wp_value (w2 := wx) (v := .int .i64 0) ?_ (hK _ _ rfl (Fr.refl _ _))
            clear hd hG hK
            go_simp
          refine stepsHold.cons (fun wx hG hd K hK => ?_) ?_
          · have h84 : us 84 = (.int .i64 0) := deps_get hd 0 rfl rfl rfl rfl rfl
            have h83 : us 83 = (.bool true) := deps_get hd 1 rfl rfl rfl rfl rfl
            rw [if_pos (wanted_yes rfl rfl rfl rfl h83)]
            refine wp_value (w2 := wx) (v := .bool true) ?_ (hK _ _ rfl (Fr.refl _ _))
            clear hd hG hK
            go_simp
          refine stepsHold.cons (fun wx hG hd K hK => ?_) ?_
          · have h83 : us 83 = (.bool true) := deps_get hd 0 rfl rfl rfl rfl rfl
            have h85 : us 85 = (.bool true) := deps_get hd 1 rfl rfl rfl rfl rfl
            rw [if_pos (wanted_none rfl)]
            refine wp_value (w2 := wx) (v := .bool true) ?_ (hK _ _ rfl (Fr.refl _ _))
            clear hd hG hK
            go_simp
          refine stepsHold.cons (fun wx hG hd K hK => ?_) ?_
          · have h86 : us 86 = (.bool true) := deps_get hd 0 rfl rfl rfl rfl rfl
            rw [if_pos (wanted_none rfl)]
            refine wp_value (w2 := wx) (v := .bool true) ?_ (hK _ _ rfl (Fr.refl _ _))
            clear hd hG hK
            go_simp
          refine stepsHold.cons (fun wx hG hd K hK => ?_) ?_
          · have h87 : us 87 = (.bool true) := deps_get hd 0 rfl rfl rfl rfl rfl
            rw [if_pos (wanted_yes rfl rfl rfl rfl h87)]
            refine wp_value (w2 := wx) (v := .slice (some ⟨b6, 0, none⟩) 64 64) ?_ (hK _ _ rfl (Fr.refl _ _))
            clear hd hG hK
            go_simp
          refine stepsHold.cons (fun wx hG hd K hK => ?_) ?_
          · have h88 : us 88 = (.slice (some ⟨b6, 0, none⟩) 64 64) := deps_get hd 0 rfl rfl rfl rfl rfl
            have h87 : us 87 = (.bool true) := deps_get hd 1 rfl rfl rfl rfl rfl
            rw [if_pos (wanted_yes rfl rfl rfl rfl h87)]
            refine wp_value (w2 := wx) (v := .int .i64 64) ?_ (hK _ _ rfl (Fr.refl _ _))
            clear hd hG hK
            go_simp
          refine stepsHold.cons (fun wx hG hd K hK => ?_) ?_
          · have h89 : us 89 = (.int .i64 64) := deps_get hd 0 rfl rfl rfl rfl rfl
            have h87 : us 87 = (.bool true) := deps_get hd 1 rfl rfl rfl rfl rfl
            rw [if_pos (wanted_yes rfl rfl rfl rfl h87)]
            refine wp_value (w2 := wx) (v := .bool true) ?_ (hK _ _ rfl (Fr.refl _ _))
            clear hd hG hK
            go_simp
          refine stepsHold.cons (fun wx hG hd K hK => ?_) ?_
          · have h87 : us 87 = (.bool true) := deps_get hd 0 rfl rfl rfl rfl rfl
            have h90 : us 90 = (.bool true) := deps_get hd 1 rfl rfl rfl rfl rfl
            rw [if_pos (wanted_none rfl)]
            refine wp_value (w2 := wx) (v := .bool true) ?_ (hK _ _ rfl (Fr.refl _ _))
            clear hd hG hK
            go_simp
          refine stepsHold.cons (fun wx hG hd K hK => ?_) ?_
          · have h91 : us 91 = (.bool true) := deps_get hd 0 rfl rfl rfl rfl rfl
            rw [if_pos (wanted_none rfl)]
            refine wp_value (w2 := wx) (v := .bool true) ?_ (hK _ _ rfl (Fr.refl _ _))
            clear hd hG hK
            go_simp
          refine stepsHold.cons (fun wx hG hd K hK => ?_) ?_
          · have h92 : us 92 = (.bool true) := deps_get hd 0 rfl rfl rfl rfl rfl
            rw [if_pos (wanted_yes rfl rfl rfl rfl h92)]
            refine wp_value (w2 := wx) (v := .slice (some ⟨b6, 0, none⟩) 64 64) ?_ (hK _ _ rfl (Fr.refl _ _))
            clear hd hG hK
            go_simp
          refine stepsHold.cons (fun wx hG hd K hK => ?_) ?_
          · have h92 : us 92 = (.bool true) := deps_get hd 0 rfl rfl rfl rfl rfl
            rw [if_pos (wanted_yes rfl rfl rfl rfl h92)]
            refine wp_value (w2 := wx) (v := .slice A n c) ?_ (hK _ _ rfl (Fr.refl _ _))
            clear hd hG hK
            go_simp
          refine stepsHold.cons (fun wx hG hd K hK => ?_) ?_
          · have h94 : us 94 = (.slice A n c) := deps_get hd 0 rfl rfl rfl rfl rfl
            have h92 : us 92 = (.bool true) := deps_get hd 1 rfl rfl rfl rfl rfl
            rw [if_pos (wanted_yes rfl rfl rfl rfl h92)]
            refine wp_value (w2 := wx) (v := .int .i64 n) ?_ (hK _ _ rfl (Fr.refl _ _))
            clear hd hG hK
            go_simp
          refine stepsHold.cons (fun wx hG hd K hK => ?_) ?_
          · have h93 : us 93 = (.slice (some ⟨b6, 0, none⟩) 64 64) := deps_get hd 0 rfl rfl rfl rfl rfl
            have h95 : us 95 = (.int .i64 n) := deps_get hd 1 rfl rfl rfl rfl rfl
            have h92 : us 92 = (.bool true) := deps_get hd 2 rfl rfl rfl rfl rfl
            rw [if_pos (wanted_yes rfl rfl rfl rfl h92)]
            refine wp_value (w2 := wx) (v := .slice (some ⟨b6, 0, none⟩) n 64) ?_ (hK _ _ rfl (Fr.refl _ _))
            clear hd hG hK
            go_simp
          refine stepsHold.cons (fun wx hG hd K hK => ?_) ?_
          · have h96 : us 96 = (.slice (some ⟨b6, 0, none⟩) n 64) := deps_get hd 0 rfl rfl rfl rfl rfl
            have h92 : us 92 = (.bool true) := deps_get hd 1 rfl rfl rfl rfl rfl
            rw [if_pos (wanted_yes rfl rfl rfl rfl h92)]
            have hr := conv_at (hC7.keep0 hG) und_bytes und_u8 und_string 64
            refine wp_value (w2 := wx) (v := .string (strOfNums xs)) ?_ (hK _ _ rfl (Fr.refl _ _))
            clear hd hK
            go_simp
          refine stepsHold.cons (fun wx hG hd K hK => ?_) ?_
          · have h92 : us 92 = (.bool true) := deps_get hd 0 rfl rfl rfl rfl rfl
            rw [if_pos (wanted_yes rfl rfl rfl rfl h92)]
            refine wp_value (w2 := wx) (v := .slice A n c) ?_ (hK _ _ rfl (Fr.refl _ _))
            clear hd hG hK
            go_simp
          refine stepsHold.cons (fun wx hG hd K hK => ?_) ?_
          · have h98 : us 98 = (.slice A n c) := deps_get hd 0 rfl rfl rfl rfl rfl
            have h92 : us 92 = (.bool true) := deps_get hd 1 rfl rfl rfl rfl rfl
            rw [if_pos (wanted_yes rfl rfl rfl rfl h92)]
            have hr := conv_at (hA7.keep0 hG) und_bytes und_u8 und_string c
            refine wp_value (w2 := wx) (v := .string (strOfNums xs)) ?_ (hK _ _ rfl (Fr.refl _ _))
            clear hd hK
            go_simp
          refine stepsHold.cons (fun wx hG hd K hK => ?_) ?_
          · have h97 : us 97 = (.string (strOfNums xs)) := deps_get hd 0 rfl rfl rfl rfl rfl
            have h99 : us 99 = (.string (strOfNums xs)) := deps_get hd 1 rfl rfl rfl rfl rfl
            have h92 : us 92 = (.bool true) := deps_get hd 2 rfl rfl rfl rfl rfl
            rw [if_pos (wanted_yes rfl rfl rfl rfl h92)]
            refine wp_value (w2 := wx) (v := .bool true) ?_ (hK _ _ rfl (Fr.refl _ _))
            clear hd hG hK
            go_simp
          refine stepsHold.cons (fun wx hG hd K hK => ?_) ?_
          · have h92 : us 92 = (.bool true) := deps_get hd 0 rfl rfl rfl rfl rfl
            have h100 : us 100 = (.bool true) := deps_get hd 1 rfl rfl rfl rfl rfl
            rw [if_pos (wanted_none rfl)]
            refine wp_value (w2 := wx) (v := .bool true) ?_ (hK _ _ rfl (Fr.refl _ _))
            clear hd hG hK
            go_simp
          refine stepsHold.cons (fun wx hG hd K hK => ?_) ?_
          · have h101 : us 101 = (.bool true) := deps_get hd 0 rfl rfl rfl rfl rfl
            rw [if_pos (wanted_none rfl)]
            refine wp_value (w2 := wx) (v := .bool true) ?_ (hK _ _ rfl (Fr.refl _ _))
            clear hd hG hK
            go_simp
          refine stepsHold.cons (fun wx hG hd K hK => ?_) ?_
          · have h102 : us 102 = (.bool true) := deps_get hd 0 rfl rfl rfl rfl rfl
            rw [if_pos (wanted_yes rfl rfl rfl rfl h102)]
            refine wp_value (w2 := wx) (v := .slice (some ⟨b7, 0, none⟩) 64 64) ?_ (hK _ _ rfl (Fr.refl _ _))
            clear hd hG hK
            go_simp
          refine stepsHold.cons (fun wx hG hd K hK => ?_) ?_
          · have h103 : us 103 = (.slice (some ⟨b7, 0, none⟩) 64 64) := deps_get hd 0 rfl rfl rfl rfl rfl
            have h102 : us 102 = (.bool true) := deps_get hd 1 rfl rfl rfl rfl rfl
            rw [if_pos (wanted_yes rfl rfl rfl rfl h102)]
            have hr := conv_at (hZ7.keep0 hG) und_bytes und_u8 und_string 64
            refine wp_value (w2 := wx) (v := .string (strOfNums zsec)) ?_ (hK _ _ rfl (Fr.refl _ _))
            clear hd hK
            go_simp
          refine stepsHold.cons (fun wx hG hd K hK => ?_) ?_
          · have h102 : us 102 = (.bool true) := deps_get hd 0 rfl rfl rfl rfl rfl
            rw [if_pos (wanted_yes rfl rfl rfl rfl h102)]
            have hr := make_zsec wx
            refine wp_value (w2 := wx.alloc (.cells (cellsOf zsec) 5)) (v := .slice (some ⟨wx.heap.size, 0, none⟩) 64 64) ?_ (hK _ _ ⟨_, rfl, alloc_at rfl _⟩ ((Fr.refl _ _).alloc _))
            clear hd hK
            go_simp
          refine stepsHold.cons (fun wx hG hd K hK => ?_) ?_
          · have h105 := deps_get hd 0 rfl rfl rfl rfl rfl
            have h102 : us 102 = (.bool true) := deps_get hd 1 rfl rfl rfl rfl rfl
            rw [if_pos (wanted_yes rfl rfl rfl rfl h102)]
            obtain ⟨b, hb1, hb2⟩ := h105
            have hr := conv_zsec hb2
            refine wp_value (w2 := wx) (v := .string (strOfNums zsec)) ?_ (hK _ _ rfl (Fr.refl _ _))
            clear hd hK
            go_simp
          refine stepsHold.cons (fun wx hG hd K hK => ?_) ?_
          · have h104 : us 104 = (.string (strOfNums zsec)) := deps_get hd 0 rfl rfl rfl rfl rfl
            have h106 : us 106 = (.string (strOfNums zsec)) := deps_get hd 1 rfl rfl rfl rfl rfl
            have h102 : us 102 = (.bool true) := deps_get hd 2 rfl rfl rfl rfl rfl
            rw [if_pos (wanted_yes rfl rfl rfl rfl h102)]
            refine wp_value (w2 := wx) (v := .bool true) ?_ (hK _ _ rfl (Fr.refl _ _))
            clear hd hG hK
            go_simp
          refine stepsHold.cons (fun wx hG hd K hK => ?_) ?_
          · have h102 : us 102 = (.bool true) := deps_get hd 0 rfl rfl rfl rfl rfl
            have h107 : us 107 = (.bool true) := deps_get hd 1 rfl rfl rfl rfl rfl
            rw [if_pos (wanted_none rfl)]
            refine wp_value (w2 := wx) (v := .bool true) ?_ (hK _ _ rfl (Fr.refl _ _))
            clear hd hG hK
            go_simp
          refine stepsHold.cons (fun wx hG hd K hK => ?_) ?_
          · have h108 : us 108 = (.bool true) := deps_get hd 0 rfl rfl rfl rfl rfl
            rw [if_pos (wanted_none rfl)]
            refine wp_value (w2 := wx) (v := .bool true) ?_ (hK _ _ rfl (Fr.refl _ _))
            clear hd hG hK
            go_simp
          refine stepsHold.cons (fun wx hG hd K hK => ?_) ?_
          · have h109 : us 109 = (.bool true) := deps_get hd 0 rfl rfl rfl rfl rfl
            rw [if_pos (wanted_yes rfl rfl rfl rfl h109)]
            refine wp_value (w2 := wx) (v := .pointer (some ⟨db', 0, none⟩)) ?_ (hK _ _ rfl (Fr.refl _ _))
            clear hd hG hK
            go_simp
          refine stepsHold.cons (fun wx hG hd K hK => ?_) ?_
          · have h110 : us 110 = (.pointer (some ⟨db', 0, none⟩)) := deps_get hd 0 rfl rfl rfl rfl rfl
            have h109 : us 109 = (.bool true) := deps_get hd 1 rfl rfl rfl rfl rfl
            rw [if_pos (wanted_yes rfl rfl rfl rfl h109)]
            refine wp_call (w2 := wx) (f := 13) (args := #[.pointer (some ⟨db', 0, none⟩)]) ?_ ?_
            · clear hd hK
              go_simp
            · refine (cached_c (h37.keep0 hG)).mono ?_
              rintro e w8 ⟨B8, c8, rfl, hV8, hc8, hB8, hf8⟩
              rw [hcached]
              exact ⟨_, rfl, hK _ _ ⟨_, _, rfl⟩ hf8⟩
          refine stepsHold.cons (fun wx hG hd K hK => ?_) ?_
          · have h111 := deps_get hd 0 rfl rfl rfl rfl rfl
            have h109 : us 109 = (.bool true) := deps_get hd 1 rfl rfl rfl rfl rfl
            rw [if_pos (wanted_yes rfl rfl rfl rfl h109)]
            obtain ⟨B, cB, hb1⟩ := h111
            refine wp_value (w2 := wx) (v := .int .i64 0) ?_ (hK _ _ rfl (Fr.refl _ _))
            clear hd hK
            go_simp
          refine stepsHold.cons (fun wx hG hd K hK => ?_) ?_
          · have h112 : us 112 = (.int .i64 0) := deps_get hd 0 rfl rfl rfl rfl rfl
            have h109 : us 109 = (.bool true) := deps_get hd 1 rfl rfl rfl rfl rfl
            rw [if_pos (wanted_yes rfl rfl rfl rfl h109)]
            refine wp_value (w2 := wx) (v := .bool true) ?_ (hK _ _ rfl (Fr.refl _ _))
            clear hd hG hK
            go_simp
          refine stepsHold.cons (fun wx hG hd K hK => ?_) ?_
          · have h109 : us 109 = (.bool true) := deps_get hd 0 rfl rfl rfl rfl rfl
            have h113 : us 113 = (.bool true) := deps_get hd 1 rfl rfl rfl rfl rfl
            rw [if_pos (wanted_none rfl)]
            refine wp_value (w2 := wx) (v := .bool true) ?_ (hK _ _ rfl (Fr.refl _ _))
            clear hd hG hK
            go_simp
          refine stepsHold.cons (fun wx hG hd K hK => ?_) ?_
          · have h114 : us 114 = (.bool true) := deps_get hd 0 rfl rfl rfl rfl rfl
            rw [if_pos (wanted_none rfl)]
            refine wp_value (w2 := wx) (v := .bool true) ?_ (hK _ _ rfl (Fr.refl _ _))
            clear hd hG hK
            go_simp
          refine stepsHold.cons (fun wx hG hd K hK => ?_) ?_
          · have h115 : us 115 = (.bool true) := deps_get hd 0 rfl rfl rfl rfl rfl
            rw [if_pos (wanted_yes rfl rfl rfl rfl h115)]
            refine wp_value (w2 := wx) (v := .pointer (some ⟨db', 0, none⟩)) ?_ (hK _ _ rfl (Fr.refl _ _))
            clear hd hG hK
            go_simp
          refine stepsHold.cons (fun wx hG hd K hK => ?_) ?_
          · have h116 : us 116 = (.pointer (some ⟨db', 0, none⟩)) := deps_get hd 0 rfl rfl rfl rfl rfl
            have h115 : us 115 = (.bool true) := deps_get hd 1 rfl rfl rfl rfl rfl
            rw [if_pos (wanted_yes rfl rfl rfl rfl h115)]
            refine wp_call (w2 := wx) (f := 14) (args := #[.pointer (some ⟨db', 0, none⟩)]) ?_ ?_
            · clear hd hK
              go_simp
            · refine (spent_c (h37.keep0 hG)).mono ?_
              rintro e w9 ⟨rfl, rfl⟩
              rw [hspent]
              exact ⟨_, rfl, hK _ _ rfl (Fr.refl _ _)⟩
          refine stepsHold.cons (fun wx hG hd K hK => ?_) ?_
          · have h117 : us 117 = (.int .i64 0) := deps_get hd 0 rfl rfl rfl rfl rfl
            have h115 : us 115 = (.bool true) := deps_get hd 1 rfl rfl rfl rfl rfl
            rw [if_pos (wanted_yes rfl rfl rfl rfl h115)]
            refine wp_value (w2 := wx) (v := .bool true) ?_ (hK _ _ rfl (Fr.refl _ _))
            clear hd hG hK
            go_simp
          refine stepsHold.cons (fun wx hG hd K hK => ?_) ?_
          · have h115 : us 115 = (.bool true) := deps_get hd 0 rfl rfl rfl rfl rfl
            have h118 : us 118 = (.bool true) := deps_get hd 1 rfl rfl rfl rfl rfl
            rw [if_pos (wanted_none rfl)]
            refine wp_value (w2 := wx) (v := .bool true) ?_ (hK _ _ rfl (Fr.refl _ _))
            clear hd hG hK
            go_simp
          refine stepsHold.cons (fun wx hG hd K hK => ?_) ?_
          · have h119 : us 119 = (.bool true) := deps_get hd 0 rfl rfl rfl rfl rfl
            rw [if_pos (wanted_none rfl)]
            refine wp_value (w2 := wx) (v := .bool true) ?_ (hK _ _ rfl (Fr.refl _ _))
            clear hd hG hK
            go_simp
          exact stepsHold.nil
        case fin =>
          have h70 : us 70 = (.bool true) := all_get hall 0 rfl rfl rfl
          have h71 : us 71 = (.bool true) := all_get hall 1 rfl rfl rfl
          have h72 : us 72 = (.int .i64 0) := all_get hall 2 rfl rfl rfl
          have h73 : us 73 = (.bool true) := all_get hall 3 rfl rfl rfl
          have h74 : us 74 = (.bool true) := all_get hall 4 rfl rfl rfl
          have h75 : us 75 = (.bool true) := all_get hall 5 rfl rfl rfl
          have h76 : us 76 = (.int .i64 0) := all_get hall 6 rfl rfl rfl
          have h77 : us 77 = (.bool true) := all_get hall 7 rfl rfl rfl
          have h78 : us 78 = (.bool true) := all_get hall 8 rfl rfl rfl
          have h79 : us 79 = (.bool true) := all_get hall 9 rfl rfl rfl
          have h80 : us 80 = (.int .i64 0) := all_get hall 10 rfl rfl rfl
          have h81 : us 81 = (.bool true) := all_get hall 11 rfl rfl rfl
          have h82 : us 82 = (.bool true) := all_get hall 12 rfl rfl rfl
          have h83 : us 83 = (.bool true) := all_get hall 13 rfl rfl rfl
          have h84 : us 84 = (.int .i64 0) := all_get hall 14 rfl rfl rfl
          have h85 : us 85 = (.bool true) := all_get hall 15 rfl rfl rfl
          have h86 : us 86 = (.bool true) := all_get hall 16 rfl rfl rfl
          have h87 : us 87 = (.bool true) := all_get hall 17 rfl rfl rfl
          have h88 : us 88 = (.slice (some ⟨b6, 0, none⟩) 64 64) := all_get hall 18 rfl rfl rfl
          have h89 : us 89 = (.int .i64 64) := all_get hall 19 rfl rfl rfl
          have h90 : us 90 = (.bool true) := all_get hall 20 rfl rfl rfl
          have h91 : us 91 = (.bool true) := all_get hall 21 rfl rfl rfl
          have h92 : us 92 = (.bool true) := all_get hall 22 rfl rfl rfl
          have h93 : us 93 = (.slice (some ⟨b6, 0, none⟩) 64 64) := all_get hall 23 rfl rfl rfl
          have h94 : us 94 = (.slice A n c) := all_get hall 24 rfl rfl rfl
          have h95 : us 95 = (.int .i64 n) := all_get hall 25 rfl rfl rfl
          have h96 : us 96 = (.slice (some ⟨b6, 0, none⟩) n 64) := all_get hall 26 rfl rfl rfl
          have h97 : us 97 = (.string (strOfNums xs)) := all_get hall 27 rfl rfl rfl
          have h98 : us 98 = (.slice A n c) := all_get hall 28 rfl rfl rfl
          have h99 : us 99 = (.string (strOfNums xs)) := all_get hall 29 rfl rfl rfl
          have h100 : us 100 = (.bool true) := all_get hall 30 rfl rfl rfl
          have h101 : us 101 = (.bool true) := all_get hall 31 rfl rfl rfl
          have h102 : us 102 = (.bool true) := all_get hall 32 rfl rfl rfl
          have h103 : us 103 = (.slice (some ⟨b7, 0, none⟩) 64 64) := all_get hall 33 rfl rfl rfl
          have h104 : us 104 = (.string (strOfNums zsec)) := all_get hall 34 rfl rfl rfl
          have h105 := all_get hall 35 rfl rfl rfl
          have h106 : us 106 = (.string (strOfNums zsec)) := all_get hall 36 rfl rfl rfl
          have h107 : us 107 = (.bool true) := all_get hall 37 rfl rfl rfl
          have h108 : us 108 = (.bool true) := all_get hall 38 rfl rfl rfl
          have h109 : us 109 = (.bool true) := all_get hall 39 rfl rfl rfl
          have h110 : us 110 = (.pointer (some ⟨db', 0, none⟩)) := all_get hall 40 rfl rfl rfl
          have h111 := all_get hall 41 rfl rfl rfl
          have h112 : us 112 = (.int .i64 0) := all_get hall 42 rfl rfl rfl
          have h113 : us 113 = (.bool true) := all_get hall 43 rfl rfl rfl
          have h114 : us 114 = (.bool true) := all_get hall 44 rfl rfl rfl
          have h115 : us 115 = (.bool true) := all_get hall 45 rfl rfl rfl
          have h116 : us 116 = (.pointer (some ⟨db', 0, none⟩)) := all_get hall 46 rfl rfl rfl
          have h117 : us 117 = (.int .i64 0) := all_get hall 47 rfl rfl rfl
          have h118 : us 118 = (.bool true) := all_get hall 48 rfl rfl rfl
          have h119 : us 119 = (.bool true) := all_get hall 49 rfl rfl rfl
          have h4 : us 4 = (.bool true) := all_get hall 50 rfl rfl rfl
          simp only [fillL, Nat.reduceAdd]
          clear hall
          simp only [h70, h71, h72, h73, h74, h75, h76, h77, h78, h79, h80, h81, h82, h83, h84, h85, h86, h87, h88, h89, h90, h91, h92, h93, h94, h95, h96, h97, h98, h99, h100, h101, h102, h103, h104, h106, h107, h108, h109, h110, h112, h113, h114, h115, h116, h117, h118, h119, h4]
          clear h70 h71 h72 h73 h74 h75 h76 h77 h78 h79 h80 h81 h82 h83 h84 h85 h86 h87 h88 h89 h90 h91 h92 h93 h94 h95 h96 h97 h98 h99 h100 h101 h102 h103 h104 h106 h107 h108 h109 h110 h112 h113 h114 h115 h116 h117 h118 h119 h4
          go_wp2
          go_ret
          exact ⟨rfl, HF.out.then0 hG⟩
end
end Go.Proofs.Ythepadcjpkcknaa
