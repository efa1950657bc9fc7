/-
  DeviceApart: the walk. Conditions: none.
-/
import Derived.Test.YthepadcjpkcknaaL4a
import Derived.Laws.BytesArg
import Derived.Deep.RegionHeld3
import Derived.Deep.OwnRows
set_option linter.unusedVariables false
set_option linter.unusedSimpArgs false
namespace Go.Proofs.Ythepadcjpkcknaa
open Go.RowKit

theorem und_string : Try.prog.underlying 9 = some .string := by kernel_rfl

/-- A device that was written to, once. -/
theorem new_write {n i : Nat} {xs : List Int} (hi : i < n) (hx : xs.length ≤ 64) : (Dev.new n).writeE i xs = 0 ∧ ((Dev.new n).write i xs).gone = false ∧ ((Dev.new n).write i xs).laid.length = n ∧ ((Dev.new n).write i xs).at i = pad64 xs := by
  have hl : (Dev.new n).laid.length = n := by simp [Dev.new]
  have hll : (Dev.new n).spend.late.length = n := by rw [Dev.spend_late]; simp [Dev.new]
  have hb : (Dev.new n).budget ≠ 0 := by simp [Dev.new]
  obtain ⟨h1, h2⟩ := Dev.write_ok (D := Dev.new n) rfl hb (i := i) (by rw [hl]; exact hi) hx
  refine ⟨h1, ?_, ?_, ?_⟩
  · rw [h2, Dev.spend_go hb]; rfl
  · rw [h2]; show ((Dev.new n).spend).laid.length = n; rw [Dev.spend_laid, hl]
  · rw [h2]; exact Dev.put_at _ _ _ (by rw [hll]; exact hi)

theorem info_u8 : (Try.prog.info? 5).map (fun i => (i.zero, i.size, i.bytes)) = some (some (.int .u8 0), 1, 1) := by kernel_rfl
theorem made_zsec : madeCells #[Value.int .u8 0] 64 = cellsOf zsec := by
  apply Array.ext
  · simp [madeCells, cellsOf, zsec_len]
  · intro i h1 h2
    have hr : ∀ x ∈ cellsOf zsec, x = Value.int .u8 0 := by
      intro x hx
      simp only [cellsOf, List.mem_toArray, List.mem_map] at hx
      obtain ⟨y, hy, rfl⟩ := hx
      rw [zsec_mem hy]
    rw [hr _ (Array.getElem_mem h2)]
    simp [madeCells, Nat.mod_one]
theorem make_zsec (W : World) : (Instr.makeSlice 22 (.int .i64 64) (.int .i64 64)).run Try.prog W = .ok (.slice (some ⟨W.heap.size, 0, none⟩) 64 64) (W.alloc (.cells (cellsOf zsec) 5)) := by
  have := run_make_row' (P := Try.prog) 22 5 (.int .u8 0) 1 und_bytes info_u8 rfl .i64 .i64 64 (by decide) (by decide) W
  rw [made_zsec] at this
  exact this
theorem conv_zsec (W : World) : (convert 22 9 (.slice (some ⟨W.heap.size, 0, none⟩) 64 64)).run Try.prog (W.alloc (.cells (cellsOf zsec) 5)) = .ok (.string (strOfNums zsec)) (W.alloc (.cells (cellsOf zsec) 5)) := by
  have hb := BytesAt.of_block (xs := zsec) (alloc_at (w := W) rfl (.cells (cellsOf zsec) 5))
  rw [zsec_len] at hb
  exact conv_at hb und_bytes und_u8 und_string 64

theorem conv_zsec2 (W : World) : (convert 22 9 (.slice (some ⟨W.heap.size, 0, none⟩) 64 64)).run Try.prog (W.alloc (.cells (cellsOf zsec) 5)).drew = .ok (.string (strOfNums zsec)) (W.alloc (.cells (cellsOf zsec) 5)).drew := by
  have hb := (BytesAt.of_block (xs := zsec) (alloc_at (w := W) rfl (.cells (cellsOf zsec) 5))).keep0 ((Fr.refl _ _).drew)
  rw [zsec_len] at hb
  exact conv_at hb und_bytes und_u8 und_string 64

/-- The loop that changes what was read. -/
structure LoopB (b3 : Nat) (t3 : TypeId) (w3 wr : World) : Prop where
  ex : ∃ s : List Int, s.length = 64 ∧ wr.heap[b3]? = some (.cells (cellsOf s) t3 (0, 0))
  fr : Fr (fun k => k = b3) w3 wr

section
variable {w : World}
set_option maxRecDepth 100000 in
set_option maxHeartbeats 2000000 in
theorem apart_walk (A : Option Addr) (n c : Nat) (xs : List Int) (at_ : Int) (hA : BytesAt w A n xs) (hlo : -9223372036854775808 ≤ at_) (hhi : at_ ≤ 9223372036854775807) (hn : n ≤ 9223372036854775807) :
    Calls Try.prog 3 #[.slice A n c, .int .i64 at_] w fun e w' => e = .returned (.bool true) ∧ Fr F0 w w' := by
  by_cases hbig : 64 < n
  · have hbig' : (64 : Int) < (n : Int) := by omega
    go_enter Try.func3, Try.ntmps3
    go_wp2_with (go_at_call 9; refine (awake_c _).mono ?_; rintro e w1 ⟨rfl, hf1⟩)
    go_ret
    exact ⟨rfl, hf1⟩
  · have hbig' : ¬ (64 : Int) < (n : Int) := by omega
    obtain ⟨k, hk⟩ : ∃ k : Nat, at_ % 4 = (k : Int) := ⟨(at_ % 4).toNat, by omega⟩
    have hk4 : k < 4 := by omega
    have hband : bits BinOp.and IntKind.i64 at_ 3 = (k : Int) := by rw [← hk]; exact i64_and at_ 2 (by decide)
    have NW := Lib.hid (new_write (n := 4) (xs := xs) hk4 (by have := hA.len; omega))
    have HLEN := Lib.hid hA.len
    clear hk
    go_enter Try.func3, Try.ntmps3
    go_wp2_with fail
    refine (awake_c _).mono ?_
    rintro e w1 ⟨rfl, hf1⟩
    go_wp2_with fail
    refine (new_c 4 (by decide) (by decide) _).mono ?_
    rintro e w2 ⟨db, lb, mb, rfl, h2, n1, n2, n3, hf2⟩
    go_wp2_with fail
    refine (new_c 4 (by decide) (by decide) _).mono ?_
    rintro e w3 ⟨db', lb', mb', rfl, h3, n1', n2', n3', hf3⟩
    go_wp2_with fail
    have hlt2 := h2.lt
    have hlt3 := h3.lt
    have hA3 := ((hA.keep0 hf1).keep0 hf2).keep0 hf3
    refine (write_c (h2.keep0 hf3) k A c xs n hA3 (by intro hp ad e; subst e; have := hA.lt hp; have := hf1.size; omega)).mono ?_
    rintro e w4 ⟨rfl, h4, hf4⟩
    rw [NW.out.1]
    generalize hD1 : (Dev.new 4).write (k : Int) xs = D1 at *
    have HD1 := Lib.hid hD1
    clear hD1
    go_wp2_with fail
    refine (read_c h4 NW.out.2.1 k (by rw [NW.out.2.2.1]; exact hk4)).mono ?_
    rintro e w5 ⟨b5, t5, rfl, hn5, hb5, hf5⟩
    rw [NW.out.2.2.2] at hb5
    have HB5 := Lib.hid hb5
    have h5 := h4.keep0 hf5
    clear hb5
    go_wp2_with fail
    have hb5lt := lt_of_block HB5.out
    have z1 := hf1.size
    have z2 := hf2.size
    have z3 := hf3.size
    have z4 := hf4.size
    have z5 := hf5.size
    go_loopg [14] 64 (fun kq v wr => ∃ j : Nat, j ≤ 64 ∧ kq = 64 - j ∧ v = .int .i64 (j : Int) ∧ LoopB b5 t5 w5 wr)
    case atStart => exact ⟨0, by omega, rfl, rfl, ⟨⟨_, pad64_len xs (by have := HLEN.out; omega), HB5.out⟩, Fr.refl _ _⟩⟩
    case round =>
      obtain ⟨j, hj, rfl, rfl, ⟨s, hs, hbs⟩, hfr⟩ := hrel
      have HS := Lib.hid hs
      have HBS := Lib.hid hbs
      clear hs hbs
      by_cases hlt : j < 64
      · have hj0 : (0 : Int) ≤ (j : Int) := Int.natCast_nonneg _
        have hj1 : (j : Int) < 64 := by omega
        obtain ⟨x, hx⟩ : ∃ x, s[j]? = some x := ⟨s[j]'(by rw [HS.out]; exact hlt), List.getElem?_eq_getElem _⟩
        have hcell := sec_cell HBS.out j x hx
        have hfree := free_of HBS.out j
        clear hx
        go_wp2
        go_roundg (64 - (j + 1))
        case measure => omega
        case rel =>
          refine ⟨j + 1, by omega, rfl, by first | rfl | (go_num), ⟨⟨s.set j ((x + 1) % 256), by rw [List.length_set]; exact HS.out, (set_cell HBS.out j _).trans (by rw [cellsOf_set])⟩, hfr.setCell (by exact Or.inl rfl) _⟩⟩
      · have hj64 : j = 64 := by omega
        subst hj64
        go_wp2_with fail
        have h6 := h5.keep hfr (by omega) (by omega) (by omega)
        refine (read_c h6 NW.out.2.1 k (by rw [NW.out.2.2.1]; exact hk4)).mono ?_
        rintro e w6 ⟨b6, t6, rfl, hn6, hb6, hf6⟩
        rw [NW.out.2.2.2] at hb6
        have HB6 := Lib.hid hb6
        clear hb6
        have hz4 := h4.lt
        have h3' := h3.keep hf4 (by rintro (h' | h' | h') <;> omega) (by rintro (h' | h' | h') <;> omega) (by rintro (h' | h' | h') <;> omega)
        have h36 := (((h3'.keep0 hf5).keep hfr (by omega) (by omega) (by omega))).keep0 hf6
        go_wp2_with fail
        refine (read_c h36 rfl k (by simp [Dev.new]; exact hk4)).mono ?_
        rintro e w7 ⟨b7, t7, rfl, hn7, hb7, hf7⟩
        rw [Dev.new_at 4 k hk4] at hb7
        have HB7 := Lib.hid hb7
        have h37 := h36.keep0 hf7
        clear hb7
        have hlx := HLEN.out
        have hA7 : BytesAt w7 A n xs := (((hA3.keep hf4 (by rintro hp ad rfl (h' | h' | h') <;> (have := hA.lt hp; have := hf1.size; omega))).keep0 hf5).keep hfr (by intro hp ad e; subst e; have := hA.lt hp; have := hf1.size; have := hf2.size; have := hf3.size; have := hf4.size; omega)).keep0 hf6 |>.keep0 hf7
        have hC7 : BytesAt w7 (some ⟨b6, 0, none⟩) n xs := by
          have hh := (BytesAt.of_block (xs := pad64 xs) (hf7.keep0 HB6.out)).take n (by rw [pad64_len xs (by omega)]; omega)
          have : (pad64 xs).take n = xs := by rw [pad64, ← hlx, List.take_left']; rfl
          rwa [this] at hh
        have hZ7 : BytesAt w7 (some ⟨b7, 0, none⟩) 64 zsec := by
          have hh := BytesAt.of_block (xs := zsec) HB7.out
          rwa [zsec_len] at hh
        have hS : ∀ w', Fr F0 w7 w' → Fr F0 w7 w' ∧ (convert 22 9 (.slice (some ⟨b6, 0, none⟩) n 64)).run Try.prog w' = .ok (.string (strOfNums xs)) w' ∧
            (convert 22 9 (.slice A n c)).run Try.prog w' = .ok (.string (strOfNums xs)) w' ∧ (convert 22 9 (.slice (some ⟨b7, 0, none⟩) 64 64)).run Try.prog w' = .ok (.string (strOfNums zsec)) w' :=
          fun w' hf => ⟨hf, conv_at (hC7.keep0 hf) und_bytes und_u8 und_string 64, conv_at (hA7.keep0 hf) und_bytes und_u8 und_string c, conv_at (hZ7.keep0 hf) und_bytes und_u8 und_string 64⟩
        have hmk := make_zsec
        have hcz := conv_zsec
        have hcz2 := conv_zsec2
        have HS := Lib.hid hS
        have hcached : (Dev.new 4).cachedI = [] := by decide +kernel
        have hspent : (Dev.new 4).spent = 0 := rfl
        have hfall : Fr F0 w w7 :=
          ((((((hf1.then0 hf2).then0 hf3).trans hf4 (by intro i hi; refine .inr ?_; rcases hi with h' | h' | h' <;> omega)).then0 hf5).trans hfr (by intro i hi; refine .inr ?_; omega)).then0 hf6).then0 hf7
        have HF := Lib.hid hfall
        have hn0 : (0 : Int) ≤ (n : Int) := Int.natCast_nonneg _
        clear hS hA7 hC7 hZ7 hfall hA3 hA hlx
        go_wp2_with fail
        go_region_held3 (fun w' => Fr F0 w7 w' ∧ (convert 22 9 (.slice (some ⟨b6, 0, none⟩) n 64)).run Try.prog w' = .ok (.string (strOfNums xs)) w' ∧
            (convert 22 9 (.slice A n c)).run Try.prog w' = .ok (.string (strOfNums xs)) w' ∧ (convert 22 9 (.slice (some ⟨b7, 0, none⟩) 64 64)).run Try.prog w' = .ok (.string (strOfNums zsec)) w')
          ((go_split_ands; refine HS.out _ ?_; repeat (first | exact Fr.refl _ _ | (refine Fr.drew ?_) | (refine Fr.alloc ?_ _) | assumption | (refine Fr.then0 ?_ (by assumption)))))
          (first
            | (go_at_call 13; go_split_ands; refine (cached_c (h37.keep0 (by assumption))).mono ?_; rintro e w8 ⟨B8, c8, rfl, hV8, hc8, hB8, hf8⟩; rw [hcached])
            | (go_at_call 14; go_split_ands; refine (spent_c (h37.keep0 (by assumption))).mono ?_; rintro e w9 ⟨rfl, rfl⟩; rw [hspent]))
        have hq : Fr F0 w7 w8 := by assumption
        go_wp2
        go_ret
        exact ⟨rfl, HF.out.then0 hq⟩
end
end Go.Proofs.Ythepadcjpkcknaa
