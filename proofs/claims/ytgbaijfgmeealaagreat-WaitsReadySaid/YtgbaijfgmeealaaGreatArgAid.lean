/-
  Arguments of slices whose elements are structs, opened cell by cell. Conditions: none.
-/
import Derived.Test.YtgbaijfgmeealaaGreatRowAid
import Derived.Deep.SlicePairs
set_option linter.unusedVariables false
set_option linter.unusedSimpArgs false
namespace Go.Proofs.YtgbaijfgmeealaaGreat
open Go.ChangeShapes Go.WideShapes Go.ChangeAt Go.RowKit Go.Deep

section
variable {H : Type} {enc : TypeId × Value → H} {P : Program} {W : World} {base : Nat} {held : Bool}

/-- Cells that read as a slice of bytes. -/
theorem cells_bytes {t e : TypeId} {cs : List Value} {fuel : Nat} {x : DataW H × List MemPlace} (ht : P.underlying t = some (.slice e)) (he : P.underlying e = some (.int .u8)) (hc : P.cellsOf e = 1)
    (hf : DataW.trod enc P W base (fun _ => true) held fuel t cs = some x) :
    ∃ A len cap xs, cs = [.slice A len cap] ∧ BytesAt W A len xs ∧ (∀ x ∈ xs, 0 ≤ x ∧ x ≤ 255) ∧ len ≤ 9223372036854775807 := by
  rcases open_ints ht he hc hf with ⟨hcs, _⟩ | ⟨x, l, c, zs, hcs, _, hl, hm, hz, _, hcell, hwz⟩
  · exact ⟨none, 0, 0, [], hcs, BytesAt.nil _ _, by simp, by omega⟩
  · have hz' : zs.length = c := by simpa using hz
    refine ⟨some x, l, c, zs.take l, hcs, ⟨by simp; omega, fun hp => ⟨x, rfl, fun j v hv => ?_⟩⟩, fun y hy => byte_bounds (hwz y (List.mem_of_mem_take hy)), by simp only [maxLen] at hm; omega⟩
    rw [List.map_take] at hv
    have hj : j < l := by
      have := (List.getElem?_eq_some_iff.1 hv).1
      simp at this
      omega
    rw [List.getElem?_take_of_lt hj] at hv
    have hjz : j < zs.length := by omega
    rw [hcell j hjz]
    simp [hjz] at hv
    simp [List.getD, hjz, hv]
/-- Cells that read as a slice of bools. -/
theorem cells_bools {t e : TypeId} {cs : List Value} {fuel : Nat} {x : DataW H × List MemPlace} (ht : P.underlying t = some (.slice e)) (he : P.underlying e = some .bool) (hc : P.cellsOf e = 1)
    (hf : DataW.trod enc P W base (fun _ => true) held fuel t cs = some x) :
    ∃ A len cap, ∃ bs : List Bool, cs = [.slice A len cap] ∧ bs.length = len ∧ ValsAt W A (bs.map Value.bool) ∧ len ≤ 9223372036854775807 := by
  rcases open_bools ht he hc hf with ⟨hcs, _⟩ | ⟨x, l, c, B, hcs, _, hl, hm, hz, hcell⟩
  · exact ⟨none, 0, 0, [], hcs, rfl, ⟨fun h => by simp at h⟩, by omega⟩
  · refine ⟨some x, l, c, (List.range l).map B, hcs, by simp, ⟨fun hp => ⟨x, rfl, fun j v hv => ?_⟩⟩, by simp only [maxLen] at hm; omega⟩
    have hj : j < l := by
      have := (List.getElem?_eq_some_iff.1 hv).1
      simpa using this
    rw [hcell j (by omega)]
    simp [hj] at hv
    rw [hv]
/-- Cells that read as a slice of integers. -/
theorem cells_ints {k : IntKind} {t e : TypeId} {cs : List Value} {fuel : Nat} {x : DataW H × List MemPlace} (ht : P.underlying t = some (.slice e)) (he : P.underlying e = some (.int k)) (hc : P.cellsOf e = 1)
    (hf : DataW.trod enc P W base (fun _ => true) held fuel t cs = some x) :
    ∃ A len cap, ∃ xs : List Int, cs = [.slice A len cap] ∧ xs.length = len ∧ ValsAt W A (xs.map (Value.int k)) ∧ (∀ x ∈ xs, (Lit.int k x).wf = true) ∧ len ≤ 9223372036854775807 := by
  rcases open_ints ht he hc hf with ⟨hcs, _⟩ | ⟨x, l, c, zs, hcs, _, hl, hm, hz, _, hcell, hwz⟩
  · exact ⟨none, 0, 0, [], hcs, rfl, ⟨fun h => by simp at h⟩, by simp, by omega⟩
  · have hz' : zs.length = c := by simpa using hz
    refine ⟨some x, l, c, zs.take l, hcs, by simp; omega, ⟨fun hp => ⟨x, rfl, fun j v hv => ?_⟩⟩, fun y hy => hwz y (List.mem_of_mem_take hy), by simp only [maxLen] at hm; omega⟩
    rw [List.map_take] at hv
    have hj : j < l := by
      have := (List.getElem?_eq_some_iff.1 hv).1
      simp at this
      omega
    rw [List.getElem?_take_of_lt hj] at hv
    have hjz : j < zs.length := by omega
    rw [hcell j hjz]
    simp [hjz] at hv
    simp [List.getD, hjz, hv]

/-- Cells of elements of m cells each, one behind the other. -/
theorem cells_flat_at {α : Type} {m : Nat} (f : α → List Value) : ∀ (l : List α), (∀ x ∈ l, (f x).length = m) → ∀ i k (x : α) v, l[i]? = some x → (f x)[k]? = some v → (l.flatMap f)[i * m + k]? = some v
  | [], _, i, k, x, v, h, _ => by simp at h
  | y :: l, hl, 0, k, x, v, h, hv => by
    simp at h; subst h
    have hk : k < (f y).length := (List.getElem?_eq_some_iff.1 hv).1
    simp [List.getElem?_append_left hk, hv]
  | y :: l, hl, i + 1, k, x, v, h, hv => by
    have hy := hl y (by simp)
    rw [List.flatMap_cons, List.getElem?_append_right (by rw [hy, Nat.succ_mul]; omega), hy]
    have := cells_flat_at f l (fun z hz => hl z (by simp [hz])) i k x v (by simpa using h) hv
    rw [← this]
    congr 1
    rw [Nat.succ_mul]; omega
theorem cells_flat_of {α : Type} {m : Nat} (f : α → List Value) : ∀ (l : List α), (∀ x ∈ l, (f x).length = m) → ∀ j v, (l.flatMap f)[j]? = some v → ∃ i k x, j = i * m + k ∧ k < m ∧ l[i]? = some x ∧ (f x)[k]? = some v
  | [], _, j, v, h => by simp at h
  | y :: l, hl, j, v, h => by
    have hy := hl y (by simp)
    rw [List.flatMap_cons] at h
    by_cases hj : j < m
    · rw [List.getElem?_append_left (by omega)] at h
      exact ⟨0, j, y, by omega, hj, rfl, h⟩
    · rw [List.getElem?_append_right (by omega), hy] at h
      obtain ⟨i, k, x, e1, e2, e3, e4⟩ := cells_flat_of f l (fun z hz => hl z (by simp [hz])) (j - m) v h
      exact ⟨i + 1, k, x, by rw [Nat.succ_mul]; omega, e2, by simpa using e3, e4⟩
theorem cells_flat_len {α : Type} {m : Nat} (f : α → List Value) : ∀ (l : List α), (∀ x ∈ l, (f x).length = m) → (l.flatMap f).length = l.length * m
  | [], _ => by simp
  | y :: l, hl => by
    rw [List.flatMap_cons, List.length_append, hl y (by simp), cells_flat_len f l (fun z hz => hl z (by simp [hz])), List.length_cons, Nat.succ_mul]; omega

/-- Cells that read as a slice of elements of m cells each: each element's reading is handed to R. -/
theorem cells_structs {α : Type} {t e : TypeId} {m : Nat} {cs : List Value} {fuel : Nat} {x : DataW H × List MemPlace} (f : α → List Value) (R : α → Prop) (ht : P.underlying t = some (.slice e)) (hc : P.cellsOf e = m)
    (one : ∀ fuel cs y, cs.length = m → DataW.trod enc P W base (fun _ => true) held fuel e cs = some y → ∃ a : α, cs = f a ∧ R a)
    (hf : DataW.trod enc P W base (fun _ => true) held fuel t cs = some x) :
    ∃ A len cap, ∃ l : List α, cs = [.slice A len cap] ∧ l.length = len ∧ (∀ a ∈ l, (f a).length = m ∧ R a) ∧ ValsAt W A (l.flatMap f) ∧ len ≤ 9223372036854775807 := by
  rcases open_slice ht hf with ⟨hcs, _⟩ | ⟨a, len, cap, k, n, D, Pl, rfl, hb, hl, hm, hk, _, hx⟩
  · exact ⟨none, 0, 0, [], hcs, rfl, by simp, ⟨fun h => by simp at h⟩, by omega⟩
  simp only [if_true] at hk
  rw [hc] at hx
  have hkl : len ≤ k := by omega
  obtain ⟨g, hg⟩ := choose_lt (n := len) (α := Option α) (p := fun i o => ∃ y, o = some y ∧ (f y).length = m ∧ R y ∧ ∀ j, j < m → W.cell? ((a.add (i * m)).add j) = (f y)[j]?) (fun i hi => by
    obtain ⟨cs', h1, h2⟩ := hx i (by omega)
    obtain ⟨_, hlen, hcell⟩ := World.cells?_some h1
    obtain ⟨y, rfl, hr⟩ := one _ _ _ hlen h2
    exact ⟨some y, y, rfl, hlen, hr, hcell⟩)
  have hl' : ∀ i, i < len → ∃ y, g i = some y ∧ (f y).length = m ∧ R y ∧ ∀ j, j < m → W.cell? ((a.add (i * m)).add j) = (f y)[j]? := fun i hi => hg i (by omega)
  have hex : ∀ n, n ≤ len → ∃ l : List α, l.length = n ∧ ∀ i, i < n → l[i]? = g i := by
    intro n
    induction n with
    | zero => intro _; exact ⟨[], rfl, fun i hi => by omega⟩
    | succ n ih =>
      intro hn
      obtain ⟨l, hl1, hl2⟩ := ih (by omega)
      obtain ⟨y, hy, _⟩ := hl' n (by omega)
      refine ⟨l ++ [y], by simp [hl1], fun i hi => ?_⟩
      by_cases hin : i < n
      · rw [List.getElem?_append_left (by omega)]; exact hl2 i hin
      · have : i = n := by omega
        subst this
        rw [List.getElem?_append_right (by omega), hl1, hy]
        simp
  obtain ⟨l, hll, hlg⟩ := hex len (Nat.le_refl _)
  have hmem : ∀ y ∈ l, (f y).length = m ∧ R y := by
    intro y hy
    obtain ⟨i, hi⟩ := List.getElem?_of_mem hy
    have hil : i < len := by have := (List.getElem?_eq_some_iff.1 hi).1; omega
    obtain ⟨z, hz, h1, h2, _⟩ := hl' i hil
    rw [hlg i hil, hz] at hi
    simp at hi; subst hi
    exact ⟨h1, h2⟩
  refine ⟨some a, len, cap, l, rfl, hll, hmem, ⟨fun hp => ⟨a, rfl, fun j v hv => ?_⟩⟩, by simp only [maxLen] at hm; omega⟩
  obtain ⟨i, q, y, rfl, hq, hy, hv'⟩ := cells_flat_of f l (fun z hz => (hmem z hz).1) j v hv
  have hil : i < len := by have := (List.getElem?_eq_some_iff.1 hy).1; omega
  obtain ⟨z, hz, _, _, h3⟩ := hl' i hil
  rw [hlg i hil, hz] at hy
  simp at hy; subst hy
  have := h3 q hq
  rw [hv', add_add] at this
  exact this
end
end Go.Proofs.YtgbaijfgmeealaaGreat
