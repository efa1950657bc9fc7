/-
  Own rows of elements of several cells: one element anew, the last ones cleared, cut. Conditions: none.
-/
import Derived.Test.YtgbaijfgmeealaaRowS
set_option linter.unusedVariables false
set_option linter.unusedSimpArgs false
namespace Go.Proofs.Ytgbaijfgmeealaa
open Go.RowKit
section
variable {α : Type} {m : Nat} {f : α → List Value}
theorem own_parts {w : World} {base g n cap : Nat} {t : TypeId} {L : List α} (h : w.ownsRow base t m (.slice (some ⟨g, 0, none⟩) n cap) n (L.flatMap f)) :
    ∃ rest, w.heap[g]? = some (.cells ((L.flatMap f) ++ rest).toArray t (0, 0)) ∧ base ≤ g ∧ n ≤ cap ∧ cap ≤ maxLen ∧ ((L.flatMap f) ++ rest).length = cap * m := by
  rcases h.2 with ⟨hv, _⟩ | ⟨g', cap', cur, hv, hb, hh, h1, h2, h3, h4⟩
  · cases hv
  · cases hv
    have e : cur.toList = (L.flatMap f) ++ cur.toList.drop (n * m) := by rw [← h4, List.take_append_drop]
    refine ⟨cur.toList.drop (n * m), ?_, hb, h1, h2, ?_⟩
    · rw [← e]; simpa using hh
    · rw [← e]; simpa using h3
theorem own_of_parts {w : World} {base g n cap : Nat} {t : TypeId} {xs cur : List Value} (hh : w.heap[g]? = some (.cells cur.toArray t (0, 0))) (hb : base ≤ g) (h1 : n ≤ cap) (h2 : cap ≤ maxLen) (h3 : cur.length = cap * m) (hx : xs.length = n * m) (h4 : cur.take (n * m) = xs) :
    w.ownsRow base t m (.slice (some ⟨g, 0, none⟩) n cap) n xs := ⟨hx, .inr ⟨g, cap, cur.toArray, rfl, hb, hh, h1, h2, by simpa using h3, by simpa using h4⟩⟩
theorem flat_split (hm : ∀ x, (f x).length = m) {L : List α} {i : Nat} (hi : i < L.length) : L.flatMap f = (L.take i).flatMap f ++ (f L[i] ++ (L.drop (i + 1)).flatMap f) ∧ ((L.take i).flatMap f).length = i * m := by
  constructor
  · have h1 := List.take_append_drop i L
    conv => lhs; rw [← h1]
    rw [List.flatMap_append, List.drop_eq_getElem_cons hi, List.flatMap_cons]
  · rw [cells_flat_len f _ (fun x _ => hm x), List.length_take]
    congr 1
    omega
theorem splat_mid {β : Type} (F1 X F2 Y : List β) (h : Y.length = X.length) : splat (F1 ++ (X ++ F2)) F1.length Y = F1 ++ (Y ++ F2) := by
  unfold splat
  rw [h, List.take_left, ← List.append_assoc F1 X F2, ← List.length_append, List.drop_left, List.append_assoc]
theorem flat_splat (hm : ∀ x, (f x).length = m) {L : List α} {i : Nat} (hi : i < L.length) (y : α) (rest : List Value) : splat ((L.flatMap f) ++ rest) (i * m) (f y) = (L.set i y).flatMap f ++ rest := by
  obtain ⟨e1, l1⟩ := flat_split hm hi
  have hset : L.set i y = L.take i ++ y :: L.drop (i + 1) := List.set_eq_take_append_cons_drop .. |>.trans (by rw [if_pos hi])
  rw [hset, List.flatMap_append, List.flatMap_cons, e1]
  have h5 := splat_mid ((L.take i).flatMap f) (f L[i]) ((L.drop (i + 1)).flatMap f ++ rest) (f y) (by rw [hm, hm])
  rw [l1] at h5
  simpa [List.append_assoc] using h5
theorem flat_take (hm : ∀ x, (f x).length = m) (L : List α) (rest : List Value) {i : Nat} (hi : i ≤ L.length) : ((L.flatMap f) ++ rest).take (i * m) = (L.take i).flatMap f := by
  have h1 := List.take_append_drop i L
  have l1 : ((L.take i).flatMap f).length = i * m := by
    rw [cells_flat_len f _ (fun x _ => hm x), List.length_take]
    congr 1
    omega
  conv => lhs; rw [← h1]
  rw [List.flatMap_append, List.append_assoc, List.take_append_of_le_length (by omega), List.take_of_length_le (by omega)]
theorem splat_take {β : Type} (cur : List β) (off : Nat) (cs : List β) (h : off ≤ cur.length) : (splat cur off cs).take off = cur.take off := by
  unfold splat
  rw [List.append_assoc, List.take_append_of_le_length (by rw [List.length_take]; omega), List.take_of_length_le (by rw [List.length_take]; omega)]
/-- One element anew. -/
theorem own_set {w : World} {base g n cap : Nat} {t : TypeId} {L : List α} (hm : ∀ x, (f x).length = m) (h : w.ownsRow base t m (.slice (some ⟨g, 0, none⟩) n cap) n (L.flatMap f)) (hn : L.length = n) {i : Nat} (hi : i < n) (y : α) :
    ∃ cur : List Value, w.heap[g]? = some (.cells cur.toArray t (0, 0)) ∧ i * m + (f y).length ≤ cur.length ∧ (w.setRow g (splat cur (i * m) (f y)).toArray).ownsRow base t m (.slice (some ⟨g, 0, none⟩) n cap) n ((L.set i y).flatMap f) := by
  subst hn
  obtain ⟨rest, hh, hb, h1, h2, h3⟩ := own_parts h
  have hfl := cells_flat_len f L (fun x _ => hm x)
  have him : i * m + m ≤ L.length * m := by rw [← Nat.succ_mul]; exact Nat.mul_le_mul_right m hi
  refine ⟨_, hh, by rw [List.length_append, hfl, hm]; omega, ?_⟩
  rw [flat_splat hm hi]
  have hfl2 := cells_flat_len f (L.set i y) (fun x _ => hm x)
  rw [List.length_set] at hfl2
  refine own_of_parts (setRow_heap _ _ _ _ _ _ hh) hb h1 h2 ?_ hfl2 ?_
  · rw [List.length_append, hfl2]; rw [List.length_append, hfl] at h3; omega
  · rw [List.take_append_of_le_length (by omega), List.take_of_length_le (by omega)]
theorem zero_len (z : Value) (n : Nat) : (Builtin.zeroCells z.cells n).toList.length = n * z.cells.size := by simp [Builtin.zeroCells]
/-- clear(s[i:]), and what s[:i] holds then. -/
theorem own_clear {P : Program} {w : World} {base g n cap : Nat} {t ts : TypeId} {L : List α} (hm : ∀ x, (f x).length = m) (h : w.ownsRow base t m (.slice (some ⟨g, 0, none⟩) n cap) n (L.flatMap f)) (hn : L.length = n) {i : Nat} (hi : i < n) (c : Nat) (ty : TypeId)
    (ht : P.underlying ts = some (.slice t)) {z : Value} (hv : ∀ w, (zeroValue t).run P w = .ok z w) (hz : z.cells.size = m) (h1 : ∀ u ∈ z.cells, u.oneCell' = true) (hm0 : 0 < m) :
    ∃ w', (Builtin.clear_ #[ts] ty #[.slice (some ⟨g, i * m, none⟩) (n - i) c]).run P w = .ok (.tuple #[]) w' ∧ w'.ownsRow base t m (.slice (some ⟨g, 0, none⟩) i cap) i ((L.take i).flatMap f) ∧ Fr (fun k => k = g) w w' := by
  subst hn
  obtain ⟨rest, hh, hb, hc1, hc2, hc3⟩ := own_parts h
  have hfl := cells_flat_len f L (fun x _ => hm x)
  have hzl := zero_len z (L.length - i)
  have him : i * m + (L.length - i) * m = L.length * m := by rw [← Nat.add_mul]; congr 1; omega
  have hlc : L.length * m ≤ cap * m := Nat.mul_le_mul_right m hc1
  have hlen : i * m + (Builtin.zeroCells z.cells (L.length - i)).toList.length ≤ ((L.flatMap f) ++ rest).length := by rw [hzl, hz, hc3]; omega
  have hone : ∀ u ∈ (Builtin.zeroCells z.cells (L.length - i)).toList, u.oneCell' = true := by
    intro u hu
    simp only [Builtin.zeroCells, Array.toList_map, List.mem_map, Array.mem_toList_iff, Array.mem_range] at hu
    obtain ⟨q, hq, rfl⟩ := hu
    have hlt : q % z.cells.size < z.cells.size := Nat.mod_lt _ (by omega)
    rw [getElem!_pos z.cells _ hlt]
    exact h1 _ (Array.getElem_mem hlt)
  have hst := run_storeCells_mid (P := P) g t (Builtin.zeroCells z.cells (L.length - i)).toList (i * m) _ w hh hlen hone
  have hst2 : (storeCells ⟨g, i * m, none⟩ (Builtin.zeroCells z.cells (L.length - i)).toList).run P w = .ok () (w.setRow g (splat ((L.flatMap f) ++ rest) (i * m) (Builtin.zeroCells z.cells (L.length - i)).toList).toArray) := by
    rw [storeCells_shift, Nat.add_zero]; exact hst
  refine ⟨w.setRow g (splat ((L.flatMap f) ++ rest) (i * m) (Builtin.zeroCells z.cells (L.length - i)).toList).toArray, ?_, ?_, (Fr.refl _ _).setRow (by exact .inl rfl) _⟩
  · obtain ⟨q, hq⟩ : ∃ q, L.length - i = q + 1 := ⟨L.length - i - 1, by omega⟩
    rw [hq] at hst2 ⊢
    simp [Builtin.clear_, run_underlying ht, hv, hst2]
  · have hil : i * m ≤ ((L.flatMap f) ++ rest).length := by omega
    refine own_of_parts (setRow_heap _ _ _ _ _ _ hh) hb (by omega) hc2 (by rw [splat_length _ _ _ hlen]; exact hc3) ?_ ?_
    · rw [cells_flat_len f _ (fun x _ => hm x), List.length_take]; congr 1; omega
    · rw [splat_take _ _ _ hil, flat_take hm L rest (by omega)]
end
end Go.Proofs.Ytgbaijfgmeealaa
