/-
  Plain laws on devices. Conditions: none.
-/
import Derived.Test.YtdeckbdaencjnaaDoorDevG
set_option linter.unusedVariables false
set_option linter.unusedSimpArgs false
namespace Go.Proofs.YtdeckbdaencjnaaDoor
open Go.RowKit

theorem Dev.lay_laid (D : Dev) : D.lay.laid = (List.range D.laid.length).map D.at := rfl
theorem Dev.lay_len (D : Dev) : D.lay.laid.length = D.laid.length := by simp [Dev.lay]
theorem none_join {α : Type} (l : List (Option α)) (j : Nat) : ((l.map fun _ => (none : Option α))[j]?).join = none := by
  rw [List.getElem?_map]
  cases l[j]? <;> rfl
theorem Dev.lay_at {D : Dev} {i : Nat} (hi : i < D.laid.length) : D.lay.at i = D.at i := by
  have : ((D.lay.late)[i]?).join = none := none_join D.late i
  unfold Dev.at
  rw [this]
  simp [Dev.lay, hi, Dev.at]
theorem Dev.lay_cached (D : Dev) : D.lay.cachedI = [] := by
  unfold Dev.cachedI Dev.cached
  rw [List.filter_eq_nil_iff.2]
  · rfl
  · intro j _
    have : ((D.lay.late)[j]?).join = none := none_join D.late j
    rw [this]
    simp
theorem Dev.crash_cached (D : Dev) (keep : List Bool) : (D.crash keep).cachedI = [] := by
  unfold Dev.cachedI Dev.cached
  rw [List.filter_eq_nil_iff.2]
  · rfl
  · intro j _
    have : (((D.crash keep).late)[j]?).join = none := none_join D.late j
    rw [this]
    simp
theorem Dev.crash_at (D : Dev) (keep : List Bool) (i : Nat) : (D.crash keep).at i = (layKept D D.cached keep D.laid).getD i [] := by
  have : (((D.crash keep).late)[i]?).join = none := none_join D.late i
  unfold Dev.at
  rw [this]
  rfl
theorem Dev.crash_nil_at (D : Dev) (i : Nat) : (D.crash []).at i = D.laid.getD i [] := by rw [Dev.crash_at, layKept_nil]
theorem Dev.crash_nil_len (D : Dev) : (D.crash []).laid.length = D.laid.length := by
  show (layKept D D.cached [] D.laid).length = _
  rw [layKept_nil]
theorem layKept_len (D : Dev) : ∀ (is : List Nat) (bs : List Bool) (l : List (List Int)), (layKept D is bs l).length = l.length
  | [], bs, l => by cases bs <;> rfl
  | i :: is, [], l => rfl
  | i :: is, b :: bs, l => by
    simp only [layKept]
    rw [layKept_len D is bs]
    split <;> simp
theorem Dev.crash_len (D : Dev) (keep : List Bool) : (D.crash keep).laid.length = D.laid.length := layKept_len D D.cached keep D.laid
theorem Dev.spend_gone {D : Dev} (hg : D.gone = false) (hb : D.budget ≠ 0) : D.spend.gone = false := by rw [Dev.spend_go hb]; exact hg
theorem Dev.spend_neg {D : Dev} (hb : D.budget = -1) : D.spend.budget = -1 := by rw [Dev.spend_go (by omega)]; simp [hb]
theorem Dev.flush_ok {D : Dev} (hg : D.gone = false) (hb : D.budget ≠ 0) : D.flushE = 0 ∧ D.flush = D.spend.lay := by
  simp [Dev.flushE, Dev.flush, hg, hb, Dev.spendE]
theorem pad64_head (x : Int) : (pad64 [x])[0]? = some x := by simp [pad64]
theorem Dev.at_late {D : Dev} {i : Nat} {s : List Int} (h : D.late[i]? = some (some s)) : D.at i = s := by simp [Dev.at, h]
theorem Dev.at_laid {D : Dev} {i : Nat} (h : D.late[i]? = some none) : D.at i = D.laid.getD i [] := by simp [Dev.at, h]
end Go.Proofs.YtdeckbdaencjnaaDoor
