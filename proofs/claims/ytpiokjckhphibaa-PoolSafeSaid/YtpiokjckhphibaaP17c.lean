/-
  heronrylaw17.PoolSafe: plain laws. Conditions: none.
-/
import Derived.Test.YtpiokjckhphibaaL17c
set_option linter.unusedVariables false
set_option linter.unusedSimpArgs false
namespace Go.Proofs.Ytpiokjckhphibaa
open Go.RowKit
/-- Frames put, each once, in the order of their places. -/
def psFm (g : Nat → Int) (i : Nat) : Fm := ⟨(i : Int), pad64 [9], true, g i, 0, true⟩
def psF (g : Nat → Int) (n : Nat) : List Fm := (List.range n).map (psFm g)
def psP (g : Nat → Int) (n : Nat) : Pl := ⟨psF g n, 8, 0, 0, (n : Int)⟩
theorem psF_len (g : Nat → Int) (n : Nat) : (psF g n).length = n := by simp [psF]
theorem psF_succ (g : Nat → Int) (n : Nat) : psF g (n + 1) = psF g n ++ [psFm g n] := by simp [psF, List.range_succ]
theorem psF_ats (g : Nat → Int) (n : Nat) : (psF g n).map Fm.at_ = (List.range n).map fun i : Nat => (i : Int) := by
  simp [psF, psFm, Function.comp_def]
theorem ps_idx (g : Nat → Int) (n : Nat) : (psP g n).idx (n : Int) = none := by
  cases hx : (psP g n).idx (n : Int) with
  | none => rfl
  | some i =>
    obtain ⟨f, hf, ha⟩ := idx_some hx
    have hm : f.at_ ∈ (psF g n).map Fm.at_ := List.mem_map_of_mem (List.mem_of_getElem? hf)
    rw [psF_ats, List.mem_map] at hm
    obtain ⟨q, hq, he⟩ := hm
    rw [List.mem_range] at hq
    omega
theorem ps_hold (g : Nat → Int) (n : Nat) (D : Dev) (h : n < 8) : (psP g n).hold D n = (some n, ⟨psF g n ++ [newFm n (D.at n)], 8, 0, 0, (n : Int) + 1⟩, D) := by
  unfold Pl.hold
  rw [ps_idx]
  simp only
  have hr : (((psP g n).fs.length : Nat) : Int) < (psP g n).room := by
    show (((psF g n).length : Nat) : Int) < 8
    rw [psF_len]
    omega
  rw [if_pos hr]
  show (some (psF g n).length, _, _) = _
  rw [psF_len]
  rfl
theorem ps_at (g : Nat → Int) (n : Nat) (b : List Int) : (psF g n ++ [newFm n b])[n]? = some (newFm n b) := by
  have := psF_len g n
  rw [List.getElem?_append_right (by omega), this]
  simp
theorem ps_put (g : Nat → Int) (n : Nat) (b : List Int) : (psF g n ++ [newFm n b]).set n (putFm (newFm n b) [9] (g n)) = psF g (n + 1) := by
  have := psF_len g n
  rw [List.set_append_right _ _ (by omega), this, psF_succ]
  simp [putFm, newFm, psFm]
/-- How many of the first ones are above. -/
def psA (g : Nat → Int) (s : Int) (n : Nat) : List Nat := (List.range n).filter fun i => decide (s < g i)
theorem psA_succ (g : Nat → Int) (s : Int) (n : Nat) : psA g s (n + 1) = psA g s n ++ (if s < g n then [n] else []) := by
  unfold psA
  rw [List.range_succ, List.filter_append]
  by_cases h : s < g n <;> simp [h]
theorem psA_len (g : Nat → Int) (s : Int) (n : Nat) : (psA g s n).length ≤ n := by
  have := List.length_filter_le (fun i => decide (s < g i)) (List.range n)
  rw [List.length_range] at this
  exact this
theorem psA_at (g : Nat → Int) (s : Int) (i : Nat) (hi : s < g i) : ∀ n, i < n → (psA g s n)[(psA g s i).length]? = some i
  | 0, h => absurd h (Nat.not_lt_zero _)
  | n + 1, h => by
    rw [psA_succ]
    by_cases hin : i = n
    · subst hin
      rw [List.getElem?_append_right (Nat.le_refl _), if_pos hi]
      simp
    · have ih := psA_at g s i hi n (by omega)
      rw [List.getElem?_append_left (List.getElem?_eq_some_iff.1 ih).1]
      exact ih
/-- The pool once it is told how far. -/
def psS (g : Nat → Int) (n : Nat) (s : Int) : Pl := { psP g n with safe := s }
theorem psS_mem (g : Nat → Int) (n : Nat) (s : Int) {a : Int} : a ∈ (psS g n s).listed (fun f => f.dirty && (psS g n s).may f) ↔ ∃ i : Nat, i < n ∧ a = (i : Int) ∧ g i ≤ s := by
  rw [listed_mem]
  constructor
  · rintro ⟨f, hf, ht, rfl⟩
    have hf' : f ∈ psF g n := hf
    unfold psF at hf'
    obtain ⟨i, hi, rfl⟩ := List.mem_map.1 hf'
    refine ⟨i, List.mem_range.1 hi, rfl, ?_⟩
    have : decide (g i ≤ s) = true := ht
    simpa using this
  · rintro ⟨i, hi, rfl, hg⟩
    exact ⟨psFm g i, List.mem_map_of_mem (List.mem_range.2 hi), by show decide (g i ≤ s) = true; simpa using hg, rfl⟩
theorem ps_sorted (g : Nat → Int) (n : Nat) : ((psF g n).map Fm.at_).Pairwise (· ≤ ·) := by
  rw [psF_ats, List.pairwise_map]
  exact List.pairwise_lt_range.imp (fun h => by omega)
theorem ps_len2 (g : Nat → Int) (n : Nat) (s : Int) : ((psS g n s).listed (fun f => f.dirty && (psS g n s).may f)).length + (psA g s n).length = n := by
  have h1 : ((psS g n s).listed (fun f => f.dirty && (psS g n s).may f)).length = ((List.range n).filter fun i => decide (g i ≤ s)).length := by
    unfold Pl.listed Pl.ats
    rw [List.length_mergeSort, List.length_map]
    show ((psF g n).filter _).length = _
    unfold psF
    rw [List.filter_map, List.length_map]
    rfl
  rw [h1]
  clear h1
  induction n with
  | zero => rfl
  | succ n ih =>
    rw [psA_succ, List.range_succ, List.filter_append, List.length_append, List.length_append]
    by_cases h : s < g n
    · have h2 : ¬ g n ≤ s := by omega
      simp [h, h2]
      omega
    · have h2 : g n ≤ s := by omega
      simp [h, h2]
      omega
/-- What Clean leaves of it. -/
theorem ps_clean {g : Nat → Int} {n : Nat} {s : Int} {P' : Pl} {D D' : Dev} (hw : Washed ((psS g n s).listed (fun f => f.dirty && (psS g n s).may f)) (psS g n s) P' D D' 8) :
    (∀ i, i < n → D'.at i = if s < g i then D.at i else pad64 [9]) ∧ P'.listed (fun f => f.dirty) = (psA g s n).map (fun i : Nat => (i : Int)) ∧ D'.spent = D.spent + ((n : Int) - ((psA g s n).length : Int)) := by
  refine ⟨fun i hi => ?_, ?_, ?_⟩
  · by_cases h : s < g i
    · rw [if_pos h]
      refine hw.off i (fun hm => ?_)
      obtain ⟨q, _, e, hq⟩ := (psS_mem g n s).1 hm
      have : i = q := by omega
      subst this
      omega
    · rw [if_neg h]
      exact hw.on (psFm g i) (List.mem_map_of_mem (List.mem_range.2 hi)) ((psS_mem g n s).2 ⟨i, hi, rfl, by omega⟩)
  · have hs : (P'.fs.map Fm.at_).Pairwise (· ≤ ·) := by
      rw [hw.pool]
      show (((psF g n).map (washed _)).map Fm.at_).Pairwise (· ≤ ·)
      rw [List.map_map, show (Fm.at_ ∘ washed ((psS g n s).listed (fun f => f.dirty && (psS g n s).may f))) = Fm.at_ from funext fun f => washed_at _ f]
      exact ps_sorted g n
    rw [listed_sorted _ hs, hw.pool]
    show (((psF g n).map (washed _)).filter (fun f => f.dirty)).map Fm.at_ = _
    unfold psF psA
    rw [List.map_map, List.filter_map, List.map_map]
    have h1 : (List.range n).filter ((fun f : Fm => f.dirty) ∘ (washed ((psS g n s).listed (fun f => f.dirty && (psS g n s).may f)) ∘ psFm g)) = (List.range n).filter (fun i => decide (s < g i)) := by
      apply List.filter_congr
      intro i hi
      have hi' := List.mem_range.1 hi
      by_cases h : s < g i
      · have hn : ¬ (psFm g i).at_ ∈ (psS g n s).listed (fun f => f.dirty && (psS g n s).may f) := fun hm => by
          obtain ⟨q, _, e, hq⟩ := (psS_mem g n s).1 hm
          have e' : (i : Int) = (q : Int) := e
          have : i = q := by omega
          subst this
          omega
        show (washed _ (psFm g i)).dirty = _
        unfold washed
        rw [if_neg hn]
        simp [psFm, h]
      · have hp : (psFm g i).at_ ∈ (psS g n s).listed (fun f => f.dirty && (psS g n s).may f) := (psS_mem g n s).2 ⟨i, hi', rfl, by omega⟩
        show (washed _ (psFm g i)).dirty = _
        unfold washed
        rw [if_pos hp]
        simp [h]
    rw [h1]
    apply List.map_congr_left
    intro i _
    show (washed _ (psFm g i)).at_ = _
    rw [washed_at]
    rfl
  · rw [hw.spent]
    have := ps_len2 g n s
    omega
end Go.Proofs.Ytpiokjckhphibaa
