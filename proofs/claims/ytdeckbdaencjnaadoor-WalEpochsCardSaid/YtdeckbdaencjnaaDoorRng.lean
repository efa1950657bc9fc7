/-
  Laws for 'for k, v := range m' over a map that stays as it is while it is ranged over. Conditions: none.
-/
import Derived.Test.YtdeckbdaencjnaaDoorLaws
import Derived.Maps.RangeWalk
set_option linter.unusedVariables false
set_option linter.unusedSimpArgs false
namespace Go.Proofs.YtdeckbdaencjnaaDoor
open Go.RowKit
open Go.ChangeMaps (setBlock)

theorem perm_step : ∀ (L : List MapEntry) (e : MapEntry), (L.map (·.born)).Nodup → e ∈ L → L.Perm (e :: L.filter fun x => !(x.born == e.born))
  | [], _, _, h => by simp at h
  | y :: L, e, hn, h => by
    simp only [List.map_cons, List.nodup_cons] at hn
    by_cases hy : y.born = e.born
    · have hye : y = e := by
        rcases List.mem_cons.1 h with rfl | h
        · rfl
        · exact absurd (List.mem_map.2 ⟨e, h, hy.symm⟩) hn.1
      subst hye
      have hall : L.filter (fun x => !(x.born == y.born)) = L := by
        rw [List.filter_eq_self]
        intro x hx
        have : x.born ≠ y.born := fun e1 => hn.1 (List.mem_map.2 ⟨x, hx, e1⟩)
        simp [this]
      simp [hall]
    · have hL : e ∈ L := by
        rcases List.mem_cons.1 h with rfl | h
        · exact absurd rfl hy
        · exact h
      have ih := perm_step L e hn.2 hL
      have : (y :: L).filter (fun x => !(x.born == e.born)) = y :: L.filter fun x => !(x.born == e.born) := by simp [hy]
      rw [this]
      exact (ih.cons y).trans (List.Perm.swap e y _)

/-- An iterator over a map: what is still to come. -/
structure Rng (w : World) (r b : Nat) (es : Array MapEntry) (clock : Nat) (left : List MapEntry) : Prop where
  ex : ∃ seen last, w.heap[r]? = some (.mapIter (some b) clock seen last) ∧ clock ≤ last ∧ left.Perm (es.toList.filter fun e => !seen.contains e.born)

theorem Rng.keep {S : Nat → Prop} {w w' : World} {r b : Nat} {es : Array MapEntry} {clock : Nat} {left : List MapEntry} (h : Rng w r b es clock left) (hf : Fr S w w') (hr : ¬ S r) : Rng w' r b es clock left := by
  obtain ⟨seen, last, h1, h2, h3⟩ := h.ex
  exact ⟨seen, last, hf.keep h1 hr, h2, h3⟩
theorem Rng.lt {w : World} {r b : Nat} {es : Array MapEntry} {clock : Nat} {left : List MapEntry} (h : Rng w r b es clock left) : r < w.heap.size := by
  obtain ⟨seen, last, h1, h2, h3⟩ := h.ex
  exact lt_of_block h1

section
variable {P : Program} {k e t : TypeId} {es : Array MapEntry} {clock : Nat} {f : Value → Option Value} {w : World} {b : Nat}
theorem run_range_is (ht : P.underlying t = some (.map k e)) (hb : w.heap[b]? = some (.map es clock)) :
    (Instr.range t (.map (some b))).run P w = .ok (.pointer (some ⟨w.heap.size, 0, none⟩)) (w.alloc (.mapIter (some b) clock #[] clock)) := by
  simp [Instr.range, run_underlying ht, MapKept.run_getObj_map hb, Result.andThen]
theorem Rng.start (hb : b < w.heap.size) : Rng (w.alloc (.mapIter (some b) clock #[] clock)) w.heap.size b es clock es.toList :=
  ⟨#[], clock, alloc_at rfl _, Nat.le_refl _, by
    rw [List.filter_eq_self.2 (by simp)]⟩

/-- One step. -/
theorem run_next_is (hM : MapIs P k es clock f) (hb : w.heap[b]? = some (.map es clock)) {r : Nat} {left : List MapEntry} (hr : Rng w r b es clock left) (ty : TypeId) :
    (left = [] ∧ (Instr.next (.pointer (some ⟨r, 0, none⟩)) false ty).run P w = .ok (.tuple #[.bool false]) w) ∨
    ∃ e left' o w1, (w1 = w ∨ w1 = w.drew) ∧ left.Perm (e :: left') ∧ e ∈ es.toList ∧ (Instr.next (.pointer (some ⟨r, 0, none⟩)) false ty).run P w = .ok (.tuple #[.bool true, e.key, e.val]) (setBlock w1 r o) ∧
      Rng (setBlock w1 r o) r b es clock left' ∧ (r ≠ b → (Instr.entry (.pointer (some ⟨r, 0, none⟩))).run P (setBlock w1 r o) = .ok (.tuple #[e.key, e.val]) (setBlock w1 r o)) := by
  obtain ⟨seen, last, h1, h2, h3⟩ := hr.ex
  have hleft : (leftOf es seen).toList = es.toList.filter fun e => !seen.contains e.born := by simp [leftOf]
  rcases run_next_at w ty r b clock last seen es clock h1 hb hM.born h2 with ⟨h0, hrun⟩ | ⟨e0, he0, w1, hw1, hrun⟩
  · refine .inl ⟨?_, hrun⟩
    have : (leftOf es seen).toList = [] := by
      apply List.eq_nil_of_length_eq_zero
      simpa using h0
    rw [hleft] at this
    rw [this] at h3
    exact List.Perm.eq_nil h3
  · refine .inr ?_
    have hmem : e0 ∈ es.toList.filter fun e => !seen.contains e.born := by rw [← hleft]; exact he0
    have hes : e0 ∈ es.toList := (List.mem_filter.1 hmem).1
    have hnd : ((es.toList.filter fun e => !seen.contains e.born).map (·.born)).Nodup := hM.once.sublist (List.filter_sublist.map _)
    have hp := perm_step _ e0 hnd hmem
    have hff : (es.toList.filter fun e => !seen.contains e.born).filter (fun x => !(x.born == e0.born)) = es.toList.filter fun e => !(seen.push e0.born).contains e.born := by
      rw [List.filter_filter]
      congr 1
      funext x
      simp only [Array.contains_push]
      cases seen.contains x.born <;> cases h : (x.born == e0.born) <;> simp_all
    have hr1 : w1.heap[r]? = some (.mapIter (some b) clock seen last) := by rcases hw1 with rfl | rfl <;> exact h1
    have hb1 : w1.heap[b]? = some (.map es clock) := by rcases hw1 with rfl | rfl <;> exact hb
    refine ⟨e0, _, _, w1, hw1, h3.trans hp, hes, hrun, ⟨seen.push e0.born, clock, set_block hr1 _, Nat.le_refl _, by rw [hff]⟩, fun hne => ?_⟩
    exact run_entry_at _ r b clock seen es clock e0 (set_block hr1 _) (keep_setBlock hb1 (Ne.symm hne) _) hes hM.once

/-- One step, for the walk. -/
theorem wpList_next_is {ops : Array Oper} {rest : List Oper} {o : Oper} {a : Act} {Q : Exit → Act → World → Prop} (hg : o.guard = none) (it : Operand) (hop : o.op = Op.next it false)
    {r : Nat} {left : List MapEntry} (hit : a.eval it = .pointer (some ⟨r, 0, none⟩)) (hM : MapIs P k es clock f) (hb : w.heap[b]? = some (.map es clock)) (hr : Rng w r b es clock left)
    (hDone : left = [] → wpList P ops Q rest (a.put o.dst (.tuple #[.bool false])) w)
    (hMore : ∀ e left' w1, Fr (fun k => k = r) w w1 → w.heap.size = w1.heap.size → left.Perm (e :: left') → e ∈ es.toList → Rng w1 r b es clock left' →
      (Instr.entry (.pointer (some ⟨r, 0, none⟩))).run P w1 = .ok (.tuple #[e.key, e.val]) w1 → wpList P ops Q rest (a.put o.dst (.tuple #[.bool true, e.key, e.val])) w1) :
    wpList P ops Q (o :: rest) a w := by
  refine wpList_plain hg fun K' hK' => ?_
  have hne : r ≠ b := by
    obtain ⟨seen, last, h1, _, _⟩ := hr.ex
    intro e
    subst e
    rw [h1] at hb
    cases hb
  unfold Oper.wp
  rcases run_next_is hM hb hr o.type with ⟨h0, hrun⟩ | ⟨e0, left', ob, w1, hw1, hp, hes, hrun, hrg, hen⟩
  · simp [execOp, hop, hit, hrun, Result.andThen]
    exact hK' _ _ (hDone h0)
  · simp [execOp, hop, hit, hrun, Result.andThen]
    refine hK' _ _ (hMore e0 left' _ ?_ ?_ hp hes hrg (hen hne))
    · rcases hw1 with rfl | rfl
      · exact (Fr.refl _ _).setBlock (by exact Or.inl rfl) _
      · exact ((Fr.refl _ _).drew).setBlock (by exact Or.inl rfl) _
    · rcases hw1 with rfl | rfl <;> simp [ChangeMaps.setBlock] <;> rfl
end
end Go.Proofs.YtdeckbdaencjnaaDoor
