/-
  The device's New. Conditions: none.
-/
import Derived.Test.YtjfdfjenodianaaDevA
import Derived.Laws.MakeOwn
set_option linter.unusedVariables false
set_option linter.unusedSimpArgs false
namespace Go.Proofs.Ytjfdfjenodianaa
open Go.RowKit
open Go.ChangeMaps (setBlock)

theorem info_sector : (Try.prog.info? 67).map (fun i => (i.zero, i.size, i.bytes)) = some (some (secVal zsec), 64, 64) := by kernel_rfl
theorem und_sectors : Try.prog.underlying 50 = some (.slice 67) := by kernel_rfl
theorem und_map : Try.prog.underlying 51 = some (.map 3 67) := by kernel_rfl
theorem und_int : Try.prog.underlying 3 = some (.int .i64) := by kernel_rfl
theorem keyed_int : Go.Maps.Keyed Try.prog 3 := Go.Maps.int_keyed und_int

/-- n sectors of nothing. -/
def zrow (n : Nat) : Array Value := ((List.replicate n zsec).flatten.map (Value.int .u8)).toArray

theorem zrow_made (n : Nat) : madeCells (secVal zsec).cells (n * 64) = zrow n := by
  apply Array.ext
  · simp [madeCells, zrow, zsec_len]
  · intro i h1 h2
    have hz : (secVal zsec).cells.size = 64 := by simp [secVal, Value.cells, zsec_len]
    have hs : i % 64 < 64 := Nat.mod_lt _ (by omega)
    have hall : ∀ x ∈ (secVal zsec).cells, x = Value.int .u8 0 := by
      intro x hx
      simp only [secVal, Value.cells, List.mem_toArray, List.mem_map] at hx
      obtain ⟨y, hy, rfl⟩ := hx
      rw [zsec_mem hy]
    have hl : (madeCells (secVal zsec).cells (n * 64))[i] = .int .u8 0 := by
      simp only [madeCells, Array.getElem_map, Array.getElem_range, hz]
      rw [getElem!_pos (secVal zsec).cells (i % 64) (by rw [hz]; exact hs)]
      exact hall _ (Array.getElem_mem _)
    have hr : ∀ x ∈ (zrow n), x = Value.int .u8 0 := by
      intro x hx
      simp only [zrow, List.mem_toArray, List.mem_map, List.mem_flatten, List.mem_replicate] at hx
      obtain ⟨y, ⟨l, ⟨_, rfl⟩, hy⟩, rfl⟩ := hx
      rw [zsec_mem hy]
    rw [hl, hr _ (Array.getElem_mem h2)]

theorem run_make_sectors (n : Nat) (hn : n ≤ 4096) (w : World) : (Instr.makeSlice 50 (.int .i64 (n : Int)) (.int .i64 (n : Int))).run Try.prog w = .ok (.slice (some ⟨w.heap.size, 0, none⟩) n n) (w.alloc (.cells (zrow n) 67)) := by
  obtain ⟨i, hi, hzz⟩ := Option.map_eq_some_iff.1 info_sector
  simp only [Prod.mk.injEq] at hzz
  obtain ⟨hz, hs, hb⟩ := hzz
  have hr := run_make (P := Try.prog) w 50 67 i _ und_sectors hi hz .i64 .i64 n n (by omega) (Int.le_refl _) (by rw [hb]; omega) (by omega)
  simp only [Int.toNat_natCast, hs, zrow_made] at hr
  exact hr

theorem Dev.new_ok (n : Nat) (h1 : 1 ≤ n) (h2 : n ≤ 4096) : (Dev.new n).Ok :=
  ⟨by simp [Dev.new], by simp [Dev.new, zsec_len], by simp [Dev.new], by simpa [Dev.new] using h1, by simpa [Dev.new] using h2, by simp [Dev.new], by simp [Dev.new]⟩
theorem Dev.new_look (n : Nat) : (Dev.new n).look = fun _ => none := by
  funext x
  have : ∀ i : Nat, ((List.replicate n (none : Option (List Int)))[i]?).join = none := by
    intro i
    rw [List.getElem?_replicate]
    split <;> rfl
  unfold Dev.look
  split
  · split
    · simp [Dev.new, this]
    · rfl
  · rfl

set_option maxRecDepth 100000 in
set_option maxHeartbeats 400000 in
theorem new_c (n : Nat) (h1 : 1 ≤ n) (h2 : n ≤ 4096) (w : World) : Calls Try.prog 10 #[.int .i64 (n : Int)] w fun e w' => ∃ db lb mb, e = .returned (.tuple #[.pointer (some ⟨db, 0, none⟩), .int .i64 0]) ∧ DevAt Try.prog 3 w' db lb mb (Dev.new n) ∧
    w.heap.size ≤ db ∧ w.heap.size ≤ lb ∧ w.heap.size ≤ mb ∧ Fr F0 w w' := by
  have hmk := run_make_sectors n h2
  have hmm := @run_makeMap Try.prog
  have g1 : ¬ (n : Int) < 1 := by omega
  have g2 : ¬ 4096 < (n : Int) := by omega
  have g3 : ¬ 4096 < n := by omega
  have g4 : ¬ n < 1 := by omega
  go_enter Try.func10, Try.ntmps10
  go_wp2
  go_ret2
  have hl : (Dev.new n).laid.length = n := by simp [Dev.new]
  refine ⟨_, rfl, w.heap.size, w.heap.size + 1, ⟨Dev.new_ok n h1 h2, ⟨53, ?_⟩, ⟨67, keep_alloc (keep_alloc (alloc_at rfl _) _) _⟩, ⟨#[], 0, keep_alloc (alloc_at (by simp) _) _, ?_⟩, by omega, by omega, by omega⟩, by omega, by omega, by omega, (((Fr.refl _ _).alloc _).alloc _).alloc _⟩
  · rw [hl]; exact alloc_at (by simp) _
  · rw [Dev.new_look]; exact MapIs.empty _ _ _

set_option maxRecDepth 100000 in
set_option maxHeartbeats 400000 in
theorem new_no (n : Int) (h : n < 1 ∨ 4096 < n) (w : World) : Calls Try.prog 10 #[.int .i64 n] w fun e w' => e = .returned (.tuple #[.pointer none, .int .i64 1]) ∧ w = w' := by
  rcases h with h | h
  · go_enter Try.func10, Try.ntmps10
    go_wp2
    go_ret2
    exact ⟨rfl, rfl⟩
  · have h' : ¬ n < 1 := by omega
    have h'' : ¬ n ≤ 0 := by omega
    go_enter Try.func10, Try.ntmps10
    go_wp2
    go_ret2
    exact ⟨rfl, rfl⟩
end Go.Proofs.Ytjfdfjenodianaa
