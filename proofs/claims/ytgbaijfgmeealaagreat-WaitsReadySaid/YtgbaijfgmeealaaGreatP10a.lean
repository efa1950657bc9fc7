/-
  Layer 10: LocksShare, the plain law. Conditions: none.
-/
import Derived.Test.YtgbaijfgmeealaaGreatK10q
set_option linter.unusedVariables false
set_option linter.unusedSimpArgs false
namespace Go.Proofs.YtgbaijfgmeealaaGreat
open Go.RowKit
deriving instance DecidableEq for Lk
def roots (j : Nat) : List Tx9 := (List.range j).map fun (i : Nat) => ⟨-1, 1, (i : Int) + 1, 0⟩
def reads (j : Nat) : List Lk := (List.range j).map fun (i : Nat) => ⟨9, (i : Int), 1, 0⟩
def othersL (k w : Nat) (j : Nat) : List Int := ((List.range j).filter fun i => decide (i ≠ w)).map fun (i : Nat) => (i : Int)
theorem roots_len (j : Nat) : (roots j).length = j := by simp [roots]
theorem reads_len (j : Nat) : (reads j).length = j := by simp [reads]
theorem roots_succ (j : Nat) : roots j ++ [⟨-1, 1, (j : Int) + 1, 0⟩] = roots (j + 1) := by simp [roots, List.range_succ]
theorem others_succ (k w j : Nat) : othersL k w (j + 1) = othersL k w j ++ (if j = w then [] else [(j : Int)]) := by
  unfold othersL
  rw [List.range_succ, List.filter_append, List.map_append]
  by_cases h : j = w <;> simp [h]
instance (L : List Lk) : Decidable (SaneL L) := decidable_of_iff ((∀ x ∈ L, x.sound = true) ∧ L.Pairwise fun x y => ordI x y < 0) ⟨fun h => ⟨h.1, h.2⟩, fun h => ⟨h.sound, h.rise⟩⟩
theorem share_begin : ∀ j, j < 8 → beginE (roots j) (-1) = 0 := by decide
theorem share_reads : ∀ j, j < 9 → SaneL (reads j) := by decide
theorem share_ask : ∀ k, k < 9 → ∀ j, j < k → askE (roots k) (reads j) j 9 1 = 0 ∧ askL (reads j) j 9 1 = reads (j + 1) := by decide
def own9 (w : Nat) (m : Int) : List Lk := [⟨9, (w : Int), m, 0⟩]
theorem share_after : ∀ k, k < 9 → ∀ w, w < k → askE (roots k) (reads k) w 9 2 = (if k = 1 then 0 else 9) ∧ freeL (reads k) (othersL k w k) = own9 w 1 ∧ SaneL (own9 w 1) ∧ SaneL (own9 w 2) ∧ askE (roots k) (own9 w 1) w 9 2 = 0 ∧ askL (own9 w 1) w 9 2 = own9 w 2 ∧
    beginE (roots k) w = 0 ∧ askE (roots k ++ [⟨(w : Int), 1, (k : Int) + 1, 0⟩]) (own9 w 2) k 9 2 = 0 ∧ (k = 1 ∨ askE (roots k ++ [⟨(w : Int), 1, (k : Int) + 1, 0⟩]) (own9 w 2) (((w + 1) % k : Nat) : Int) 9 1 = 9) := by decide
end Go.Proofs.YtgbaijfgmeealaaGreat
