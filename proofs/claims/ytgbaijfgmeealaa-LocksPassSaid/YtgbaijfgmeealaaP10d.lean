/-
  Layer 10: LocksPass, the plain law. Conditions: none.
-/
import Derived.Test.YtgbaijfgmeealaaP10c
set_option linter.unusedVariables false
set_option linter.unusedSimpArgs false
namespace Go.Proofs.Ytgbaijfgmeealaa
open Go.RowKit
def chain (j : Nat) : List Tx9 := (List.range j).map fun (i : Nat) => ⟨(i : Int) - 1, 1, (i : Int) + 1, 0⟩
theorem chain_len (j : Nat) : (chain j).length = j := by simp [chain]
theorem chain_succ (j : Nat) : chain j ++ [⟨(j : Int) - 1, 1, (j : Int) + 1, 0⟩] = chain (j + 1) := by simp [chain, List.range_succ]
theorem chain_begin : ∀ j, j < 8 → beginE (chain j) ((j : Int) - 1) = 0 := by decide
theorem chain_state {j i : Nat} (h : i < j) : stateOf (chain j) (i : Int) = 1 := stateOf_at (x := ⟨(i : Int) - 1, 1, (i : Int) + 1, 0⟩) (by simp [chain, h])
theorem ask_alone {X : List Tx9} {L : List Lk} (hF : Falls X) {tx b m : Int} (hi : isId X tx = true) (hs : stateOf X tx = 1) (ha : ∀ l ∈ L, l.tx = tx) : askE X L tx b m = 0 := by
  have h1 := isId_iff.1 hi
  unfold askE
  rw [if_neg (by omega), if_neg (by simp [hs]), if_neg ?_]
  have h0 : againstL X L tx b m = [] := by
    unfold againstL
    rw [List.map_eq_nil_iff, List.filter_eq_nil_iff]
    intro l hl
    have h2 : withinB X tx l.tx = true := by rw [ha l hl]; exact in_self hF hi
    unfold agB
    simp [h2]
  simp [h0]
theorem ask_all {L : List Lk} {tx b m : Int} (hr : Rise L) (ha : ∀ l ∈ L, l.tx = tx) : ∀ l ∈ askL L tx b m, l.tx = tx := by
  intro l hl
  rcases (withL_mem hr).1 hl with rfl | ⟨h1, -⟩
  · exact (askX_key L tx b m).1
  · exact ha l h1
theorem withL_len {y : Lk} : ∀ {L : List Lk}, Rise L → (∀ x ∈ L, ordI x y ≠ 0) → (withL L y).length = L.length + 1
  | [], _, _ => rfl
  | a :: l, hs, h => by
    have hl := (List.pairwise_cons.1 hs).2
    rcases Int.lt_trichotomy (ordI a y) 0 with h1 | h1 | h1
    · rw [withL_lt h1, List.length_cons, withL_len hl (fun x hx => h x (List.mem_cons_of_mem _ hx)), List.length_cons]
    · exact absurd h1 (h a List.mem_cons_self)
    · rw [withL_gt hs h1]; rfl
theorem passTo_len {p : Int} : ∀ (ls out : List Lk), Rise out → (∀ x ∈ out, x.tx = p → ∀ l ∈ ls, x.block ≠ l.block) → ls.Pairwise (fun a b => a.block ≠ b.block) → (passTo p ls out).length = out.length + ls.length
  | [], out, _, _, _ => rfl
  | l :: r, out, h, hd, hp => by
    have hpc := List.pairwise_cons.1 hp
    have hk := keepL_key out p l
    have e0 : passTo p (l :: r) out = passTo p r (withL out (keepL out p l)) := rfl
    rw [e0, passTo_len r _ (withL_rise h) ?_ hpc.2, withL_len h ?_, List.length_cons]
    · omega
    · intro x hx e
      have h1 := ordI_eq.1 e
      exact hd x hx (h1.2.trans hk.1) l List.mem_cons_self (h1.1.trans hk.2)
    · intro x hx ht m hm
      rcases (withL_mem h).1 hx with rfl | ⟨h1, -⟩
      · rw [hk.2]; exact hpc.1 m hm
      · exact hd x h1 ht m (List.mem_cons_of_mem _ hm)
theorem of_all {L : List Lk} {k : Int} (h : ∀ l ∈ L, l.tx = k) : ofL L k = L := by
  unfold ofL
  rw [List.filter_eq_self]
  intro l hl
  simp [h l hl]
theorem free_all {L : List Lk} {k : Int} (h : ∀ l ∈ L, l.tx = k) : freeL L [k] = [] := by
  unfold freeL
  rw [List.filter_eq_nil_iff]
  intro l hl
  simp [h l hl]
theorem pass_last {L : List Lk} {k p : Int} (h : ∀ l ∈ L, l.tx = k) (hp : p < 0) : passL L k p = [] := by
  unfold passL
  rw [if_pos hp, free_all h]
theorem pass_all {L : List Lk} {k p : Int} (hs : Rise L) (h : ∀ l ∈ L, l.tx = k) (hp : 0 ≤ p) (hne : p ≠ k) : (passL L k p).length = L.length ∧ ∀ l ∈ passL L k p, l.tx = p := by
  constructor
  · unfold passL
    rw [if_neg (by omega), of_all h, free_all h, passTo_len L [] List.Pairwise.nil (by simp) (by have := ofL_blocks hs k; rwa [of_all h] at this)]
    simp
  · intro l hl
    rcases (passL_mem hs hp hne).1 hl with ⟨h1, h2, -⟩ | ⟨m, -, -, rfl⟩
    · exact absurd (h l h1) h2
    · exact (keepL_key L p m).1
end Go.Proofs.Ytgbaijfgmeealaa
