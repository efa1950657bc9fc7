/-
  Strings of sectors: made, converted, cut. Conditions: none.
-/
import Derived.Test.YtjfdfjenodianaaP17f
import Derived.Test.YtjfdfjenodianaaTurn
import Derived.Laws.IdiomStrings
import Derived.Deep.OwnRows
set_option linter.unusedVariables false
set_option linter.unusedSimpArgs false
namespace Go.Proofs.Ytjfdfjenodianaa
open Go.RowKit
theorem und17_string : Try.prog.underlying 9 = some .string := by kernel_rfl
theorem und17_bytes : Try.prog.underlying 33 = some (.slice 5) := by kernel_rfl
theorem und17_u8 : Try.prog.underlying 5 = some (.int .u8) := by kernel_rfl
theorem und17_strs : Try.prog.underlying 32 = some (.slice 9) := by kernel_rfl
theorem info17_str : (Try.prog.info? 9).map (fun i => (i.zero, i.size, i.bytes)) = some (some (.string ⟨#[]⟩), 1, 16) := by kernel_rfl
theorem info17_u8 : (Try.prog.info? 5).map (fun i => (i.zero, i.size, i.bytes)) = some (some (.int .u8 0), 1, 1) := by kernel_rfl
theorem made17_zsec : madeCells #[Value.int .u8 0] 64 = cellsOf zsec := by
  apply Array.ext
  · simp [madeCells, cellsOf, zsec_len]
  · intro i h1 h2
    have hr : ∀ x ∈ cellsOf zsec, x = Value.int .u8 0 := by
      intro x hx
      simp only [cellsOf, List.mem_toArray, List.mem_map] at hx
      obtain ⟨y, hy, rfl⟩ := hx
      rw [zsec_mem hy]
    rw [hr _ (Array.getElem_mem h2)]
    simp [madeCells, Nat.mod_one]
theorem make17_zsec (W : World) : (Instr.makeSlice 33 (.int .i64 64) (.int .i64 64)).run Try.prog W = .ok (.slice (some ⟨W.heap.size, 0, none⟩) 64 64) (W.alloc (.cells (cellsOf zsec) 5)) := by
  have := run_make_row' (P := Try.prog) 33 5 (.int .u8 0) 1 und17_bytes info17_u8 rfl .i64 .i64 64 (by decide) (by decide) W
  rw [made17_zsec] at this
  exact this
theorem conv17_zsec {W : World} {b : Nat} {t : TypeId} {fr : Nat × Nat} (h : W.heap[b]? = some (.cells (cellsOf zsec) t fr)) : (convert 33 9 (.slice (some ⟨b, 0, none⟩) 64 64)).run Try.prog W = .ok (.string (strOfNums zsec)) W := by
  have := conv_at (P := Try.prog) (BytesAt.of_block (xs := zsec) h) und17_bytes und17_u8 und17_string zsec.length
  rwa [zsec_len] at this
theorem strOfNums_append (a b : List Int) : strOfNums (a ++ b) = strOfNums a ++ strOfNums b := by
  unfold strOfNums
  simp [ByteArray.ext_iff]
theorem strOfNums_take (l : List Int) (m : Nat) : (strOfNums l).extract 0 m = strOfNums (l.take m) := by
  apply ByteArray.ext
  rw [ByteArray.data_extract]
  simp [strOfNums, List.extract_eq_take_drop, List.map_take]
theorem pad64_take (xs : List Int) (h : xs.length ≤ 64) : (xs ++ zsec).take 64 = pad64 xs := by
  rw [List.take_append, List.take_of_length_le h, pad64, zsec, List.take_replicate]
  congr 2
  omega
def strV (s : List Int) : Value := .string (strOfNums s)
/-- So many strings in a row. -/
def wantA (W : List (List Int)) : Array Value := (W.map strV).toArray
def none12 : List (List Int) := List.replicate 12 []
theorem make17_strs (w : World) : (Instr.makeSlice 32 (.int .i64 12) (.int .i64 12)).run Try.prog w = .ok (.slice (some ⟨w.heap.size, 0, none⟩) 12 12) (w.alloc (.cells (wantA none12) 9)) := by
  obtain ⟨i, hi, hzz⟩ := Option.map_eq_some_iff.1 info17_str
  simp only [Prod.mk.injEq] at hzz
  obtain ⟨hz, hs, hb⟩ := hzz
  have hr := run_make (P := Try.prog) w 32 9 i _ und17_strs hi hz .i64 .i64 12 12 (by omega) (Int.le_refl _) (by rw [hb]; omega) (by omega)
  have hm : madeCells (Value.string ⟨#[]⟩).cells (12 * 1) = ((List.replicate 12 ([] : List Int)).map strV).toArray := by
    apply Array.ext
    · simp [madeCells]
    · intro i h1 h2
      have e0 : strV [] = Value.string ⟨#[]⟩ := rfl
      have hr : ∀ x ∈ ((List.replicate 12 ([] : List Int)).map strV).toArray, x = Value.string ⟨#[]⟩ := by
        intro x hx
        simp only [List.mem_toArray, List.mem_map, List.mem_replicate] at hx
        obtain ⟨y, ⟨_, rfl⟩, rfl⟩ := hx
        rfl
      rw [hr _ (Array.getElem_mem h2)]
      simp [madeCells, Value.cells, Nat.mod_one]
  have e12 : (12 : Int).toNat = 12 := rfl
  simp only [e12, hs, hm] at hr
  exact hr
theorem wantA_set (W : List (List Int)) (i : Nat) (s : List Int) : (wantA W).setIfInBounds i (strV s) = wantA (W.set i s) := by
  simp [wantA, List.map_set]
theorem wantA_get (W : List (List Int)) (i : Nat) : (wantA W)[i]? = (W[i]?).map strV := by simp [wantA]
end Go.Proofs.Ytjfdfjenodianaa
