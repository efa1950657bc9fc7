/-
  What the rows of laws over bytes, bools and integers want: an argument as it is read. Conditions: none.
-/
import Derived.Test.YtgbaijfgmeealaaGreatLaws
import Derived.WalkKit
import Derived.ProofKit
import Derived.OpenShut
import Derived.ChangeOld
import Derived.SizedLaws
import Derived.Deep.Grids
set_option linter.unusedVariables false
set_option linter.unusedSimpArgs false
namespace Go.Proofs.YtgbaijfgmeealaaGreat
open Go.ChangeShapes Go.WideShapes Go.ChangeAt Go.RowKit Go.Deep

theorem int_bounds {n : Int} (h : (Lit.int .i64 n).wf = true) : -9223372036854775808 ≤ n ∧ n ≤ 9223372036854775807 := by
  simp only [Lit.wf, IntKind.min, IntKind.max, IntKind.signed, IntKind.bits, Bool.and_eq_true, decide_eq_true_eq, if_true] at h
  omega
theorem byte_bounds {n : Int} (h : (Lit.int .u8 n).wf = true) : 0 ≤ n ∧ n ≤ 255 := by
  simp [Lit.wf, IntKind.min, IntKind.max, IntKind.signed, IntKind.bits] at h
  omega

section
variable {H : Type} {enc : TypeId × Value → H} {P : Program} {W : World} {base : Nat}
/-- A slice of bytes that came in. -/
theorem arg_bytes {t e : TypeId} {a : Option Addr} {len cap : Nat} {d : DataW H} {p : List MemPlace} (ht : P.underlying t = some (.slice e)) (he : P.underlying e = some (.int .u8)) (hc : P.cellsOf e = 1)
    (h : DataW.Trod enc P W base (fun _ => true) true t (.slice a len cap) d p) : ∃ xs, BytesAt W a len xs ∧ (∀ x ∈ xs, 0 ≤ x ∧ x ≤ 255) ∧ len ≤ 9223372036854775807 := by
  obtain ⟨fuel, hf⟩ := h
  rcases open_ints ht he hc hf with ⟨hcs, _⟩ | ⟨x, l, c, zs, hcs, _, hl, hm, hz, _, hcell, hwz⟩
  · simp [Value.cells] at hcs
    obtain ⟨rfl, rfl, rfl⟩ := hcs
    exact ⟨[], BytesAt.nil _ _, by simp, by omega⟩
  · simp [Value.cells] at hcs
    obtain ⟨rfl, rfl, rfl⟩ := hcs
    have hz' : zs.length = cap := by simpa using hz
    refine ⟨zs.take len, ⟨by simp; omega, fun hp => ⟨x, rfl, fun j v hv => ?_⟩⟩, fun y hy => byte_bounds (hwz y (List.mem_of_mem_take hy)), by simp only [maxLen] at hm; omega⟩
    rw [List.map_take] at hv
    have hj : j < len := by
      have := (List.getElem?_eq_some_iff.1 hv).1
      simp at this
      omega
    rw [List.getElem?_take_of_lt hj] at hv
    have hjz : j < zs.length := by omega
    rw [hcell j hjz]
    simp [hjz] at hv
    simp [List.getD, hjz, hv]
/-- A slice of bools that came in. -/
theorem arg_bools {t e : TypeId} {a : Option Addr} {len cap : Nat} {d : DataW H} {p : List MemPlace} (ht : P.underlying t = some (.slice e)) (he : P.underlying e = some .bool) (hc : P.cellsOf e = 1)
    (h : DataW.Trod enc P W base (fun _ => true) true t (.slice a len cap) d p) : ∃ bs : List Bool, bs.length = len ∧ ValsAt W a (bs.map Value.bool) ∧ len ≤ 9223372036854775807 := by
  obtain ⟨fuel, hf⟩ := h
  rcases open_bools ht he hc hf with ⟨hcs, _⟩ | ⟨x, l, c, B, hcs, _, hl, hm, hz, hcell⟩
  · simp [Value.cells] at hcs
    obtain ⟨rfl, rfl, rfl⟩ := hcs
    exact ⟨[], rfl, ⟨fun h => by simp at h⟩, by omega⟩
  · simp [Value.cells] at hcs
    obtain ⟨rfl, rfl, rfl⟩ := hcs
    refine ⟨(List.range len).map B, by simp, ⟨fun hp => ⟨x, rfl, fun j v hv => ?_⟩⟩, by simp only [maxLen] at hm; omega⟩
    have hj : j < len := by
      have := (List.getElem?_eq_some_iff.1 hv).1
      simpa using this
    rw [hcell j (by omega)]
    simp [hj] at hv
    rw [hv]
/-- A slice of integers that came in. -/
theorem arg_ints {t e : TypeId} {a : Option Addr} {len cap : Nat} {d : DataW H} {p : List MemPlace} (ht : P.underlying t = some (.slice e)) (he : P.underlying e = some (.int .i64)) (hc : P.cellsOf e = 1)
    (h : DataW.Trod enc P W base (fun _ => true) true t (.slice a len cap) d p) : ∃ xs : List Int, xs.length = len ∧ ValsAt W a (xs.map (Value.int .i64)) ∧ (∀ x ∈ xs, -9223372036854775808 ≤ x ∧ x ≤ 9223372036854775807) ∧ len ≤ 9223372036854775807 := by
  obtain ⟨fuel, hf⟩ := h
  rcases open_ints ht he hc hf with ⟨hcs, _⟩ | ⟨x, l, c, zs, hcs, _, hl, hm, hz, _, hcell, hwz⟩
  · simp [Value.cells] at hcs
    obtain ⟨rfl, rfl, rfl⟩ := hcs
    exact ⟨[], rfl, ⟨fun h => by simp at h⟩, by simp, by omega⟩
  · simp [Value.cells] at hcs
    obtain ⟨rfl, rfl, rfl⟩ := hcs
    have hz' : zs.length = cap := by simpa using hz
    refine ⟨zs.take len, by simp; omega, ⟨fun hp => ⟨x, rfl, fun j v hv => ?_⟩⟩, fun y hy => int_bounds (hwz y (List.mem_of_mem_take hy)), by simp only [maxLen] at hm; omega⟩
    rw [List.map_take] at hv
    have hj : j < len := by
      have := (List.getElem?_eq_some_iff.1 hv).1
      simp at this
      omega
    rw [List.getElem?_take_of_lt hj] at hv
    have hjz : j < zs.length := by omega
    rw [hcell j hjz]
    simp [hjz] at hv
    simp [List.getD, hjz, hv]
end
end Go.Proofs.YtgbaijfgmeealaaGreat
