/-
  The device's Read. Conditions: none.
-/
import Derived.Test.YtjfdfjenodianaaDevB
import Derived.Test.YtjfdfjenodianaaLaws
import Derived.Outline
set_option linter.unusedVariables false
set_option linter.unusedSimpArgs false
namespace Go.Proofs.Ytjfdfjenodianaa
open Go.RowKit
open Go.ChangeMaps (setBlock)

/-- A sector's cells. -/
def cellsOf (s : List Int) : Array Value := (s.map (Value.int .u8)).toArray
theorem cellsOf_size (s : List Int) : (cellsOf s).size = s.length := by simp [cellsOf]
theorem cellsOf_set (s : List Int) (j : Nat) (y : Int) : (cellsOf s).setIfInBounds j (.int .u8 y) = cellsOf (s.set j y) := by simp [cellsOf, List.map_set]
theorem cellsOf_one (s : List Int) : (cellsOf s).all (·.oneCell') = true := by
  rw [Array.all_eq_true_iff_forall_mem]
  intro v hv
  simp only [cellsOf, List.mem_toArray, List.mem_map] at hv
  obtain ⟨x, _, rfl⟩ := hv
  rfl
theorem secVal_cells (s : List Int) : secVal s = .agg (cellsOf s) := rfl
theorem zero_sector (w : World) : (zeroValue 67).run Try.prog w = .ok (secVal zsec) w := by
  obtain ⟨i, hi, hzz⟩ := Option.map_eq_some_iff.1 info_sector
  simp only [Prod.mk.injEq] at hzz
  simp [zeroValue, typeInfo, hi, hzz.1]
theorem run_alloc_sector (w : World) : (Instr.alloc 67 true (.tuple #[])).run Try.prog w = .ok (.pointer (some ⟨w.heap.size, 0, none⟩)) (w.alloc (.cells (cellsOf zsec) 67)) := by
  refine run_alloc_of 67 (secVal zsec) ?_ w
  obtain ⟨i, hi, hzz⟩ := Option.map_eq_some_iff.1 info_sector
  simp only [Prod.mk.injEq] at hzz
  rw [hi]; simp [hzz.1]
theorem size_sector : (Try.prog.info? 67).map (·.size) = some 64 := by
  obtain ⟨i, hi, hzz⟩ := Option.map_eq_some_iff.1 info_sector
  simp only [Prod.mk.injEq] at hzz
  rw [hi]; simp [hzz.2.1]
theorem und_sector : ∃ d, Try.prog.underlying 67 = some d ∧ aggDesc d = true := ⟨.array 64 5, by kernel_rfl, rfl⟩
theorem key_int (i : Nat) (h : i < 4096) : keyOf Try.prog 3 (.int .i64 (i : Int)) = some (.int .i64 (i : Int)) := by
  refine Go.Maps.keyOf_int_mk und_int ?_
  simp only [Lit.wf, IntKind.min, IntKind.max, IntKind.signed, IntKind.bits, Bool.and_eq_true, decide_eq_true_eq, if_true]
  omega

/-- A sector's cells among all. -/
theorem flat_get : ∀ (l : List (List Int)) (i j : Nat) (v : Int), (∀ s ∈ l, s.length = 64) → i < l.length → (l.getD i [])[j]? = some v → l.flatten[i * 64 + j]? = some v
  | [], i, j, v, _, hi, _ => by simp at hi
  | s :: l, 0, j, v, h, _, hj => by
    have hs := h s (by simp)
    simp at hj
    have hjl : j < s.length := (List.getElem?_eq_some_iff.1 hj).1
    simp [List.getElem?_append, hjl]
    simpa [hjl] using hj
  | s :: l, i + 1, j, v, h, hi, hj => by
    have hs := h s (by simp)
    simp at hj hi
    have := flat_get l i j v (fun s hs => h s (by simp [hs])) hi (by simpa using hj)
    simp only [List.flatten_cons]
    rw [List.getElem?_append_right (by omega), ← this]
    congr 1
    omega
theorem laid_cells {w : World} {lb : Nat} {t : TypeId} {l : List (List Int)} (hl : w.heap[lb]? = some (.cells (l.flatten.map (Value.int .u8)).toArray t (0, 0))) (h : ∀ s ∈ l, s.length = 64) (i : Nat) (hi : i < l.length) :
    ∀ j v, ((l.getD i []).map (Value.int .u8))[j]? = some v → w.cell? ⟨lb, i * 64 + j, none⟩ = some v := by
  intro j v hv
  rw [cell_of hl]
  simp only [List.getElem?_map, Option.map_eq_some_iff] at hv
  obtain ⟨x, hx, rfl⟩ := hv
  rw [List.getElem?_toArray, List.getElem?_map, flat_get l i j x h hi hx]; rfl

section
variable {w : World} {db lb mb : Nat} {D : Dev}
/-- A slice of a sector's own bytes, new. -/
structure NewSec (w w' : World) (e : Ending) (s : List Int) : Prop where
  ex : ∃ b t, e = .returned (.tuple #[.slice (some ⟨b, 0, none⟩) 64 64, .int .i64 0]) ∧ w.heap.size ≤ b ∧ w'.heap[b]? = some (.cells (cellsOf s) t (0, 0)) ∧ Fr F0 w w'

set_option maxRecDepth 100000 in
set_option maxHeartbeats 400000 in
theorem read_late (h : DevAt Try.prog 3 w db lb mb D) (hg : D.gone = false) (i : Nat) (hi : i < D.laid.length) (s : List Int) (hs : D.late[i]? = some (some s)) :
    Calls Try.prog 17 #[.pointer (some ⟨db, 0, none⟩), .int .i64 (i : Int)] w fun e w' => NewSec w w' e s := by
  obtain ⟨h0, h1, h2, h3, h4, f2, f3, f4⟩ := h.cells
  obtain ⟨es, c, hm, hM⟩ := h.late
  have hl : D.look (.int .i64 i) = some (secVal s) := by simp [Dev.look, hs]
  have h64 : s.length = 64 := h.ok.lates s (List.mem_of_getElem? hs)
  have hlook := hM.look (e := 67) (t := 51) keyed_int und_map hm (key_int i (by have := h.ok.most; omega)) (zero_sector w) true
  rw [hl] at hlook
  simp only [Option.getD_some, Option.isSome_some, if_true] at hlook
  have hmay : D.may i = 0 := by simp [Dev.may, hg]; omega
  have H64 := Lib.hid h64
  have HG := Lib.hid hg
  clear hm hl hs hg h64
  have ha := run_alloc_sector
  go_enter Try.func17, Try.ntmps17
  go_wp2_with (first
    | (go_at_call 32; refine (may_c h _).mono ?_; rintro e w' ⟨rfl, rfl⟩; rw [hmay])
    | (refine wpList_store_fresh rfl 67 (.tmp 7) (.tmp 22) rfl (cellsOf s) (by rfl) (by rfl) 67 (cellsOf zsec) (by rw [size_sector, cellsOf_size, H64.out]) (by rw [cellsOf_size, cellsOf_size, H64.out, zsec_len]) (cellsOf_one s) ?_))
  go_ret2
  exact ⟨_, _, rfl, Nat.le_refl _, alloc_at rfl _, (Fr.refl _ _).alloc _⟩

set_option maxRecDepth 100000 in
set_option maxHeartbeats 400000 in
theorem read_laid (h : DevAt Try.prog 3 w db lb mb D) (hg : D.gone = false) (i : Nat) (hi : i < D.laid.length) (hs : D.late[i]? = some none) :
    Calls Try.prog 17 #[.pointer (some ⟨db, 0, none⟩), .int .i64 (i : Int)] w fun e w' => NewSec w w' e (D.laid.getD i []) := by
  obtain ⟨h0, h1, h2, h3, h4, f2, f3, f4⟩ := h.cells
  obtain ⟨es, c, hm, hM⟩ := h.late
  obtain ⟨tl, hlb⟩ := h.laid
  have hl : D.look (.int .i64 i) = none := by simp [Dev.look, hs]
  have h64 : (D.laid.getD i []).length = 64 := h.ok.secs _ (by simp [hi])
  have hlook := hM.look (e := 67) (t := 51) keyed_int und_map hm (key_int i (by have := h.ok.most; omega)) (zero_sector w) true
  rw [hl] at hlook
  simp only [Option.getD_none, Option.isSome_none, if_true] at hlook
  have hmay : D.may i = 0 := by simp [Dev.may, hg]; omega
  have hcells := laid_cells (keep_alloc hlb (.cells (cellsOf zsec) 67)) h.ok.secs i hi
  generalize hsv : D.laid.getD i [] = s at *
  have H64 := Lib.hid h64
  have HG := Lib.hid hg
  have HC := Lib.hid hcells
  have hi0 : (0 : Int) ≤ (i : Int) := Int.natCast_nonneg _
  have hi1 : (i : Int) < (D.laid.length : Int) := by omega
  obtain ⟨d, hu, hd⟩ := und_sector
  have HU := Lib.hid hu
  have HD := Lib.hid hd
  have hdb : db < w.heap.size := h.lt.1
  clear hm hl hs hg h64 hcells hsv hlb hu hd
  have ha := run_alloc_sector
  go_enter Try.func17, Try.ntmps17
  go_wp2_with (first
    | (go_at_call 32; refine (may_c h _).mono ?_; rintro e w' ⟨rfl, rfl⟩; rw [hmay])
    | (refine wpList_store_fresh rfl 67 (.tmp 7) (.tmp 22) rfl (cellsOf zsec) (by rfl) (by rfl) 67 (cellsOf zsec) (by rw [size_sector, cellsOf_size, zsec_len]) rfl (cellsOf_one zsec) ?_)
    | (refine wpList_load_at rfl 67 (.tmp 31) rfl lb (i * 64) (by rfl) (s.map (Value.int .u8)) d HC.out HU.out HD.out (by rw [size_sector, List.length_map, H64.out]) ?_)
    | (refine wpList_store_fresh rfl 67 (.tmp 7) (.tmp 32) rfl (cellsOf s) (by rfl) (by rfl) 67 (cellsOf zsec) (by rw [size_sector, cellsOf_size, H64.out]) (by rw [cellsOf_size, cellsOf_size, H64.out, zsec_len]) (cellsOf_one s) ?_))
  go_ret2
  exact ⟨_, _, rfl, Nat.le_refl _, alloc_at rfl _, (Fr.refl _ _).alloc _⟩

/-- Read, of a sector that is. -/
theorem read_c (h : DevAt Try.prog 3 w db lb mb D) (hg : D.gone = false) (i : Nat) (hi : i < D.laid.length) :
    Calls Try.prog 17 #[.pointer (some ⟨db, 0, none⟩), .int .i64 (i : Int)] w fun e w' => NewSec w w' e (D.at i) := by
  have hlt : i < D.late.length := by rw [h.ok.len]; exact hi
  cases hs : D.late[i]? with
  | none => simp at hs; omega
  | some o =>
    cases o with
    | none =>
      have := read_laid h hg i hi hs
      simpa [Dev.at, hs] using this
    | some s =>
      have := read_late h hg i hi s hs
      simpa [Dev.at, hs] using this

set_option maxRecDepth 100000 in
set_option maxHeartbeats 400000 in
/-- Read, refused. -/
theorem read_no (h : DevAt Try.prog 3 w db lb mb D) (i : Int) (hm : D.may i ≠ 0) :
    Calls Try.prog 17 #[.pointer (some ⟨db, 0, none⟩), .int .i64 i] w fun e w' => e = .returned (.tuple #[.slice none 0 0, .int .i64 (D.may i)]) ∧ w = w' := by
  have hb : (D.may i != 0) = true := by simpa using hm
  go_enter Try.func17, Try.ntmps17
  go_wp2_with (go_at_call 32; refine (may_c h _).mono ?_; rintro e w' ⟨rfl, rfl⟩)
  go_ret2
  exact ⟨rfl, rfl⟩

set_option maxRecDepth 100000 in
set_option maxHeartbeats 400000 in
theorem read_nil (i : Int) (w : World) :
    Calls Try.prog 17 #[.pointer none, .int .i64 i] w fun e w' => e = .returned (.tuple #[.slice none 0 0, .int .i64 11]) ∧ w = w' := by
  go_enter Try.func17, Try.ntmps17
  go_wp2_with (go_at_call 32; refine (may_nil _ _).mono ?_; rintro e w' ⟨rfl, rfl⟩)
  go_ret2
  exact ⟨rfl, rfl⟩
end
end Go.Proofs.Ytjfdfjenodianaa
