/-
  Layer 11, plainly: what is reached, as a list; the ring and the queue of the laws. Conditions: none.
-/
import Derived.Test.YtgbaijfgmeealaaGreatW11p
import Derived.Test.YtgbaijfgmeealaaGreatP10a
set_option linter.unusedVariables false
set_option linter.unusedSimpArgs false
namespace Go.Proofs.YtgbaijfgmeealaaGreat
open Go.RowKit
deriving instance DecidableEq for Ed
deriving instance DecidableEq for Wn
/-- So many steps. -/
def clos (step : Int → List Int) : Nat → List Int → List Int
  | 0, S => S
  | n + 1, S => clos step n (S ++ (S.flatMap step).filter fun y => !S.contains y)
theorem clos_mono (step : Int → List Int) : ∀ (n : Nat) (S : List Int) (y : Int), y ∈ S → y ∈ clos step n S
  | 0, S, y, h => h
  | n + 1, S, y, h => clos_mono step n _ y (List.mem_append_left _ h)
theorem clos_sound (step : Int → List Int) (start : List Int) : ∀ (n : Nat) (S : List Int), (∀ y ∈ S, Reach step start y) → ∀ y ∈ clos step n S, Reach step start y
  | 0, S, h, y, hy => h y hy
  | n + 1, S, h, y, hy => clos_sound step start n _ (fun z hz => by
      rcases List.mem_append.1 hz with hz | hz
      · exact h z hz
      · obtain ⟨x, hx, hzx⟩ := List.mem_flatMap.1 (List.mem_filter.1 hz).1
        exact .go (h x hx) hzx) y hy
theorem reach_in {step : Int → List Int} {start M : List Int} (h0 : ∀ y ∈ start, y ∈ M) (h1 : ∀ x ∈ M, ∀ y ∈ step x, y ∈ M) {y : Int} (h : Reach step start y) : y ∈ M := by
  induction h with
  | here h => exact h0 _ h
  | go _ hy ih => exact h1 _ ih _ hy
def shutB (step : Int → List Int) (M : List Int) : Bool := M.all fun x => (step x).all fun y => M.contains y
/-- Those that are stuck, found by so many steps. -/
def stuckC (step fst : Int → List Int) (n j : Nat) : List Int := ((List.range j).filter fun (k : Nat) => (clos step n (fst (k : Int))).contains (k : Int)).map fun (k : Nat) => (k : Int)
def shutAll (step fst : Int → List Int) (n j : Nat) : Bool := (List.range j).all fun k => shutB step (clos step n (fst (k : Int)))
theorem dec_contains {p : Prop} [Decidable p] {l : List Int} {k : Int} : decide p = l.contains k ↔ (p ↔ k ∈ l) := by
  rw [← List.contains_iff_mem]
  by_cases hp : p <;> cases l.contains k <;> simp [hp]
theorem stuck_is {X : List Tx9} {E : List Ed} {step fst : Int → List Int} (n : Nat) (hs : ∀ x, step x = kidsL X x ++ toOf X E x) (ht : ∀ x, fst x = toOf X E x) (j : Nat) (h : shutAll step fst n j = true) : stuckTo X E j = stuckC step fst n j := by
  have es : step = fun x => kidsL X x ++ toOf X E x := funext hs
  have et : fst = toOf X E := funext ht
  subst es
  subst et
  unfold stuckTo stuckC
  congr 1
  refine List.filter_congr fun k hk => ?_
  have h1 := List.all_eq_true.1 h k hk
  unfold shutB at h1
  refine (@dec_contains _ (Classical.propDecidable _) _ _).2 ⟨?_, ?_⟩
  · intro hr
    refine reach_in (fun y hy => clos_mono _ n _ y hy) (fun x hx y hy => ?_) hr
    have h2 := List.all_eq_true.1 (List.all_eq_true.1 h1 x hx) y hy
    exact List.contains_iff_mem.1 h2
  · intro hm
    exact clos_sound _ _ n _ (fun y hy => .here hy) _ hm
/-! ### The document's example -/
def exW : List Lk := [⟨1, 0, 2, 0⟩, ⟨2, 1, 2, 0⟩]
def exQ1 : List Wn := [⟨0, 2, 1⟩]
def exQ2 : List Wn := [⟨0, 2, 1⟩, ⟨1, 1, 1⟩]
theorem ex11_begin : beginE [] (-1) = 0 ∧ beginE (roots 1) (-1) = 0 := by decide
theorem ex11_ask : askE (roots 2) [] 0 1 2 = 0 ∧ askL [] 0 1 2 = [⟨1, 0, 2, 0⟩] ∧ askE (roots 2) [⟨1, 0, 2, 0⟩] 1 2 2 = 0 ∧ askL [⟨1, 0, 2, 0⟩] 1 2 2 = exW := by decide
theorem ex11_edges : edL (roots 2) exW exQ2 = [⟨0, 1⟩, ⟨1, 0⟩] := by decide
theorem ex11_stuck : stuckTo (roots 2) (edL (roots 2) exW exQ2) 2 = [0, 1] := by
  rw [ex11_edges, stuck_is 3 (fun _ => rfl) (fun _ => rfl) 2 (by decide)]
  decide
/-! ### The ring -/
def writesR (j : Nat) : List Lk := (List.range j).map fun (i : Nat) => ⟨(i : Int), (i : Int), 2, 0⟩
def ringQ (k j : Nat) : List Wn := (List.range j).map fun (i : Nat) => ⟨(i : Int), (((i + 1) % k : Nat) : Int), 1⟩
def ringE (k : Nat) (o : Nat) : List Ed := ((List.range k).filter fun i => decide (i ≠ o)).map fun (i : Nat) => ⟨(i : Int), (((i + 1) % k : Nat) : Int)⟩
theorem writesR_len (j : Nat) : (writesR j).length = j := by simp [writesR]
theorem ringQ_len (k j : Nat) : (ringQ k j).length = j := by simp [ringQ]
theorem ringQ_succ (k j : Nat) : ringQ k j ++ [⟨(j : Int), (((j + 1) % k : Nat) : Int), 1⟩] = ringQ k (j + 1) := by simp [ringQ, List.range_succ]
theorem ring_begin : ∀ j, j < 9 → beginE (roots j) (-1) = 0 := by decide
theorem ring_writes : ∀ j, j < 10 → SaneL (writesR j) := by decide
theorem ring_ask : ∀ j, j < 9 → askE (roots (j + 1)) (writesR j) j j 2 = 0 ∧ askL (writesR j) j j 2 = writesR (j + 1) := by decide
def noneI (k : Nat) : Int → List Int := fun _ => []
theorem ring_edges : ∀ k, k < 10 → 2 ≤ k → edL (roots k) (writesR k) (ringQ k k) = ringE k k ∧ readyL (roots k) (writesR k) (ringQ k k) = [] := by decide
theorem ring_drop : ∀ k, k < 10 → 2 ≤ k → ∀ o, o < k → edL (roots k) (writesR k) (dropQ (ringQ k k) [(o : Int)]) = ringE k o := by decide
def kidsS (X : List Tx9) (E : List Ed) : Int → List Int := fun x => kidsL X x ++ toOf X E x
theorem ring_shut : ∀ k, k < 10 → 2 ≤ k → shutAll (kidsS (roots k) (ringE k k)) (toOf (roots k) (ringE k k)) 9 k = true ∧ stuckC (kidsS (roots k) (ringE k k)) (toOf (roots k) (ringE k k)) 9 k = (List.range k).map fun (i : Nat) => (i : Int) := by decide
theorem ring_stuck (k : Nat) (h : k < 10) (h2 : 2 ≤ k) : stuckTo (roots k) (edL (roots k) (writesR k) (ringQ k k)) k = (List.range k).map fun (i : Nat) => (i : Int) := by
  rw [(ring_edges k h h2).1, stuck_is 9 (step := kidsS (roots k) (ringE k k)) (fun _ => rfl) (fun _ => rfl) k (ring_shut k h h2).1, (ring_shut k h h2).2]
theorem ring_shut2 : ∀ k, k < 10 → 2 ≤ k → ∀ o, o < k → shutAll (kidsS (roots k) (ringE k o)) (toOf (roots k) (ringE k o)) 9 k = true ∧ stuckC (kidsS (roots k) (ringE k o)) (toOf (roots k) (ringE k o)) 9 k = [] := by decide
theorem ring_free (k : Nat) (h : k < 10) (h2 : 2 ≤ k) (o : Nat) (ho : o < k) : stuckTo (roots k) (edL (roots k) (writesR k) (dropQ (ringQ k k) [(o : Int)])) k = [] := by
  rw [ring_drop k h h2 o ho, stuck_is 9 (step := kidsS (roots k) (ringE k o)) (fun _ => rfl) (fun _ => rfl) k (ring_shut2 k h h2 o ho).1, (ring_shut2 k h h2 o ho).2]
theorem ring_max : ∀ k, k < 10 → 2 ≤ k → maxI ((List.range k).map fun (i : Nat) => (i : Int)) = (k : Int) - 1 := by decide
def saneQB (Q : List Wn) : Bool := decide (Q.Pairwise fun x y => x.tx ≠ y.tx) && (Q.all fun x => decide (0 ≤ x.tx) && decide (x.tx < 64) && decide (0 ≤ x.block) && decide (x.block < 256) && decide (x.mode = 1 ∨ x.mode = 2)) && decide (Q.length ≤ 64)
theorem saneQ_of {Q : List Wn} (h : saneQB Q = true) : SaneQ Q := by
  unfold saneQB at h
  simp only [Bool.and_eq_true, decide_eq_true_eq] at h
  refine ⟨fun x hx => ?_, h.1.1, h.2⟩
  have h1 := List.all_eq_true.1 h.1.2 x hx
  simp only [Bool.and_eq_true, decide_eq_true_eq] at h1
  exact ⟨h1.1.1.1.1, h1.1.1.1.2, h1.1.1.2, h1.1.2, h1.2⟩
theorem ring_sane : ∀ k, k < 10 → 2 ≤ k → ∀ j, j < k + 1 → saneQB (ringQ k j) = true := by decide
theorem ring_sane_drop : ∀ k, k < 10 → 2 ≤ k → ∀ o, o < k → saneQB (dropQ (ringQ k k) [(o : Int)]) = true := by decide
theorem ring_has : ∀ k, k < 10 → ∀ j, j < k → hasQ (ringQ k j) (j : Int) = false := by decide
/-! ### The queue -/
def lineT : List Lk := [⟨5, 0, 1, 0⟩]
def lineQ (j : Nat) : List Wn := ⟨1, 5, 2⟩ :: (List.range j).map fun (i : Nat) => ⟨(i : Int) + 2, 5, 1⟩
def lineR (j : Nat) : List Wn := (List.range j).map fun (i : Nat) => ⟨(i : Int) + 2, 5, 1⟩
theorem line_begin : ∀ j, j < 10 → beginE (roots j) (-1) = 0 := by decide
theorem line_ask : ∀ k, k < 11 → 3 ≤ k → askE (roots k) [] 0 5 1 = 0 ∧ askL [] 0 5 1 = lineT ∧ SaneL lineT := by decide
theorem line_drop : ∀ j, j < 9 → dropQ (lineQ j) [1] = lineR j := by decide
theorem line_has : ∀ j, j < 9 → hasQ (lineQ j) ((j : Int) + 2) = false := by decide
theorem line_sane : ∀ j, j < 9 → saneQB (lineQ j) = true ∧ saneQB (lineR j) = true := by decide
theorem line_ready : ∀ j, j < 9 → readyL (roots (j + 2)) lineT (lineQ j) = [] ∧ (readyL (roots (j + 2)) lineT (lineR j)).length = j := by decide
def lineE (j : Nat) : List Ed := ⟨1, 0⟩ :: (List.range j).map fun (i : Nat) => ⟨(i : Int) + 2, 1⟩
theorem line_edges : ∀ j, j < 9 → 1 ≤ j → edL (roots (j + 2)) lineT (lineQ j) = lineE j := by decide
theorem line_shut : ∀ j, j < 9 → 1 ≤ j → shutAll (kidsS (roots (j + 2)) (lineE j)) (toOf (roots (j + 2)) (lineE j)) 3 (j + 2) = true ∧ stuckC (kidsS (roots (j + 2)) (lineE j)) (toOf (roots (j + 2)) (lineE j)) 3 (j + 2) = [] := by decide
theorem line_stuck (j : Nat) (h : j < 9) (h1 : 1 ≤ j) : stuckTo (roots (j + 2)) (edL (roots (j + 2)) lineT (lineQ j)) (j + 2) = [] := by
  rw [line_edges j h h1, stuck_is 3 (step := kidsS (roots (j + 2)) (lineE j)) (fun _ => rfl) (fun _ => rfl) (j + 2) (line_shut j h h1).1, (line_shut j h h1).2]
end Go.Proofs.YtgbaijfgmeealaaGreat
