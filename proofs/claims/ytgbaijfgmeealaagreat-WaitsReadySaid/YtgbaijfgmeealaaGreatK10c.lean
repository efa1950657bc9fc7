/-
  Own integers sorted, and made one of each. Conditions: none.
-/
import Derived.Test.YtgbaijfgmeealaaGreatK10b
import Derived.Test.YtgbaijfgmeealaaGreatShelf
import Derived.Sort.OwnSortedInts
set_option linter.unusedVariables false
set_option linter.unusedSimpArgs false
namespace Go.Proofs.YtgbaijfgmeealaaGreat
open Go.RowKit Go.Sort
section
variable {w : World} {v : Value} {ks : List Int} {base : Nat}
theorem sort_own (h : w.ownsRow base 3 1 v ks.length (ks.map (Value.int .i64))) (hn : ks.length < 4611686018427387904) :
    Calls Tryz.prog 36 #[v] w fun e w' => e = .returned (.tuple #[]) ∧ w'.ownsRow base 3 1 v ks.length ((ks.mergeSort fun x y => decide (x ≤ y)).map (Value.int .i64)) ∧ Fr (fun k => v.ownBlock = some k) w w' := by
  rcases h.2 with ⟨hv, hn0⟩ | ⟨g, cap, cur, hv, hg, hh, hn1, hn2, hn3, hn4⟩
  · subst hv
    obtain rfl : ks = [] := List.eq_nil_of_length_eq_zero hn0
    refine (Tryz.slices_Sort_int_none none 0 w).mono ?_
    rintro e w1 ⟨rfl, rfl⟩
    exact ⟨rfl, by simpa using own_nil w1 base 3 1, Fr.refl _ _⟩
  · subst hv
    refine (Tryz.slices_Sort_int g 0 cap ks w (holds_of_blockI hh (by simpa using hn4)) (lt_of_block hh) hn).mono ?_
    rintro e w1 ⟨rfl, n1, os1, hw1⟩
    have hl2 : (ks.mergeSort fun x y => decide (x ≤ y)).length = ks.length := List.length_mergeSort _
    have hown := ownsRow_sortedI (w := w) (base := base) (n := n1) (os := os1) (ss := ks) (ts := ks.mergeSort fun x y => decide (x ≤ y)) hl2 hg hh hn1 hn2 (by simpa using hn3)
    rw [← hw1] at hown
    have hgr := grownBy_sortedI (w := w) (g := g) (n := n1) (os := os1) (ks.mergeSort fun x y => decide (x ≤ y)).toArray
    rw [← hw1] at hgr
    refine ⟨rfl, ?_, (Fr.refl _ w).grown hgr (fun k hk => .inl hk)⟩
    exact hown
theorem rising_compact (ks : List Int) (h : ks.Pairwise (· < ·)) : Lib.compact ks = ks := by
  refine Lib.compact_all ks (fun j hj => ?_)
  unfold Lib.keeps
  by_cases h0 : j = 0
  · subst h0; simp
  · have h1 := List.pairwise_iff_getElem.1 h (j - 1) j (by omega) hj (by omega)
    have e1 : ks.toArray[j]! = ks[j] := by simp [hj]
    have e2 : ks.toArray[j - 1]! = ks[j - 1] := by simp [show j - 1 < ks.length by omega]
    simp [e1, e2, h0]
    omega
theorem compact_own (h : w.ownsRow base 3 1 v ks.length (ks.map (Value.int .i64))) (hn : ks.length < 4611686018427387904) (hr : ks.Pairwise (· < ·)) :
    Calls Tryz.prog 37 #[v] w fun e w' => e = .returned v ∧ w'.ownsRow base 3 1 v ks.length (ks.map (Value.int .i64)) ∧ Fr (fun k => v.ownBlock = some k) w w' := by
  rcases h.2 with ⟨hv, hn0⟩ | ⟨g, cap, cur, hv, hg, hh, hn1, hn2, hn3, hn4⟩
  · subst hv
    obtain rfl : ks = [] := List.eq_nil_of_length_eq_zero hn0
    refine (Tryz.slices_Compact_int_empty none 0 w).mono ?_
    rintro e w1 ⟨rfl, rfl⟩
    exact ⟨rfl, by simpa using own_nil w1 base 3 1, Fr.refl _ _⟩
  · subst hv
    refine (Tryz.slices_Compact_int g 0 cap ks w (holds_of_blockI hh (by simpa using hn4)) (by omega) hn1).mono ?_
    rintro e w1 ⟨rfl, n1, hw1⟩
    rw [rising_compact ks hr] at hw1 ⊢
    rw [Nat.sub_self, List.replicate_zero, List.append_nil] at hw1
    have hown := ownsRow_sortedI (w := w) (base := base) (n := n1) (os := #[]) (ss := ks) (ts := ks) rfl hg hh hn1 hn2 (by simpa using hn3)
    rw [grow_empty, ← hw1] at hown
    have hgr := grownBy_sortedI (w := w) (g := g) (n := n1) (os := #[]) ks.toArray
    rw [grow_empty, ← hw1] at hgr
    exact ⟨rfl, hown, (Fr.refl _ w).grown hgr (fun k hk => .inl hk)⟩
end
end Go.Proofs.YtgbaijfgmeealaaGreat
