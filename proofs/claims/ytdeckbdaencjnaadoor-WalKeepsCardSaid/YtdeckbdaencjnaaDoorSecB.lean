/-
  Devices whose sectors are bytes. Conditions: none.
-/
import Derived.Test.YtdeckbdaencjnaaDoorS8
import Derived.Test.YtdeckbdaencjnaaDoorT8b
import Derived.Test.YtdeckbdaencjnaaDoorDevX
set_option linter.unusedVariables false
set_option linter.unusedSimpArgs false
namespace Go.Proofs.YtdeckbdaencjnaaDoor
open Go.RowKit
/-- A device whose sectors are bytes. -/
structure SecBys (D : Dev) : Prop where
  laid : ∀ x ∈ D.laid, Bys x
  late : ∀ x, some x ∈ D.late → Bys x
theorem SecBys.at {D : Dev} (h : SecBys D) (i : Nat) : Bys (D.at i) := by
  unfold Dev.at
  cases h1 : (D.late[i]?).join with
  | none =>
    simp only [Option.getD_none]
    by_cases hi : i < D.laid.length
    · have : D.laid.getD i [] = D.laid[i] := by simp [hi]
      rw [this]
      exact h.laid _ (List.getElem_mem hi)
    · have : D.laid.getD i [] = [] := by simp [List.getD, List.getElem?_eq_none (show D.laid.length ≤ i by omega)]
      rw [this]; exact Bys.nil
  | some x =>
    simp only [Option.getD_some]
    refine h.late x ?_
    cases h2 : D.late[i]? with
    | none => rw [h2] at h1; cases h1
    | some o =>
      rw [h2] at h1
      simp at h1
      subst h1
      exact List.mem_of_getElem? h2
theorem SecBys.new (n : Nat) : SecBys (Dev.new n) := by
  refine ⟨fun x hx => ?_, fun x hx => ?_⟩
  · rw [(List.mem_replicate.1 hx).2]; exact Bys.zeros 64
  · have := (List.mem_replicate.1 hx).2; cases this
theorem SecBys.of {D D' : Dev} (h : SecBys D) (h1 : D'.laid = D.laid) (h2 : D'.late = D.late) : SecBys D' := ⟨by rw [h1]; exact h.laid, by rw [h2]; exact h.late⟩
theorem SecBys.spend {D : Dev} (h : SecBys D) : SecBys D.spend := h.of D.spend_laid D.spend_late
theorem SecBys.put {D : Dev} (h : SecBys D) (i : Nat) {s : List Int} (hs : Bys s) : SecBys (D.put i s) := by
  refine ⟨h.laid, fun x hx => ?_⟩
  have hx' : some x ∈ D.late.set i (some s) := hx
  rcases List.mem_or_eq_of_mem_set hx' with h1 | h1
  · exact h.late x h1
  · cases h1; exact hs
theorem SecBys.write {D : Dev} (h : SecBys D) (i : Int) {s : List Int} (hs : Bys s) : SecBys (D.write i s) := by
  unfold Dev.write
  repeat' split
  · exact h
  · exact h
  · exact h.spend
  · exact h.spend.put _ (hs.app (Bys.zeros _))
theorem SecBys.lay {D : Dev} (h : SecBys D) : SecBys D.lay := by
  refine ⟨fun x hx => ?_, fun x hx => ?_⟩
  · obtain ⟨i, _, rfl⟩ := List.mem_map.1 hx
    exact h.at i
  · obtain ⟨o, _, e⟩ := List.mem_map.1 hx
    cases e
theorem SecBys.flush {D : Dev} (h : SecBys D) : SecBys D.flush := by
  unfold Dev.flush
  repeat' split
  · exact h
  · exact h.spend
  · exact h.spend.lay
theorem SecBys.budgeted {D : Dev} (h : SecBys D) (k : Int) : SecBys (D.budgeted k) := h.of rfl rfl
theorem layKept_bys {D : Dev} (h : SecBys D) : ∀ (is : List Nat) (bs : List Bool) (l : List (List Int)), (∀ x ∈ l, Bys x) → ∀ x ∈ layKept D is bs l, Bys x
  | [], bs, l, hl => by cases bs <;> simpa [layKept] using hl
  | i :: is, [], l, hl => by simpa [layKept] using hl
  | i :: is, b :: bs, l, hl => by
    unfold layKept
    refine layKept_bys h is bs _ ?_
    split
    · intro x hx
      rcases List.mem_or_eq_of_mem_set hx with h1 | h1
      · exact hl x h1
      · rw [h1]; exact h.at i
    · exact hl
theorem SecBys.crash {D : Dev} (h : SecBys D) (keep : List Bool) : SecBys (D.crash keep) := by
  refine ⟨layKept_bys h _ _ _ h.laid, fun x hx => ?_⟩
  obtain ⟨o, _, e⟩ := List.mem_map.1 hx
  cases e
theorem SecBys.save {D : Dev} (h : SecBys D) (s : Sup) (hs : Bys s.next.enc) : SecBys (D.save s) := by
  unfold Dev.save Dev.saveW
  repeat' split
  · exact h
  · exact h.write _ hs
  · exact (h.write _ hs).flush
end Go.Proofs.YtdeckbdaencjnaaDoor
