/-
  Layer 10: LocksAgain, the plain law. Conditions: none.
-/
import Derived.Test.YtgbaijfgmeealaaP10c
set_option linter.unusedVariables false
set_option linter.unusedSimpArgs false
namespace Go.Proofs.Ytgbaijfgmeealaa
open Go.RowKit
theorem again_find {L : List Lk} {tx b m : Int} (hr : Rise L) : findL (askL L tx b m) tx b = askX L tx b m :=
  findL_of (withL_rise hr) ((withL_mem hr).2 (.inl rfl)) (askX_key L tx b m).1 (askX_key L tx b m).2
theorem again_held (L : List Lk) (tx b m : Int) : m ≤ (askX L tx b m).held := by
  show m ≤ max (findL L tx b).held m
  omega
theorem again_ask {X : List Tx9} {L : List Lk} (hF : Falls X) (hs : SaneL L) {tx b m m' : Int} (hm : m = 1 ∨ m = 2) (hm' : m' = m ∨ m' = 1) (hE : askE X L tx b m = 0) : askE X (askL L tx b m) tx b m' = 0 ∧ askL (askL L tx b m) tx b m' = askL L tx b m := by
  obtain ⟨hi, hst, hag⟩ := askE_zero hE
  have h1 := isId_iff.1 hi
  constructor
  · unfold askE
    rw [if_neg (by omega), if_neg (by simp [hst]), if_neg ?_]
    have h0 : againstL X (askL L tx b m) tx b m' = [] := by
      unfold againstL
      rw [List.map_eq_nil_iff, List.filter_eq_nil_iff]
      intro l hl
      by_cases hb : l.block = b
      · by_cases hmo : mostOf m' < l.strong
        · have hin : withinB X tx l.tx = true := by
            rcases (withL_mem hs.rise).1 hl with rfl | ⟨h2, -⟩
            · rw [(askX_key L tx b m).1]; exact in_self hF hi
            · refine ask_in hag h2 hb ?_
              rcases hm' with rfl | rfl
              · exact hmo
              · have e1 : mostOf 1 = 1 := rfl
                rcases hm with rfl | rfl
                · exact hmo
                · have e2 : mostOf 2 = 0 := rfl
                  omega
          unfold agB
          simp [hin]
        · unfold agB
          simp [hmo]
      · unfold agB
        simp [hb]
    simp [h0]
  · have hx : askX (askL L tx b m) tx b m' = askX L tx b m := by
      have hh := again_held L tx b m
      have h2 : askX (askL L tx b m) tx b m' = { askX L tx b m with held := max (askX L tx b m).held m' } := by
        unfold askX at *
        show ({ findL (askL L tx b m) tx b with held := max (findL (askL L tx b m) tx b).held m' } : Lk) = _
        rw [again_find hs.rise]
        rfl
      rw [h2]
      have h3 : max (askX L tx b m).held m' = (askX L tx b m).held := by omega
      rw [h3]
    show withL (askL L tx b m) (askX (askL L tx b m) tx b m') = askL L tx b m
    rw [hx]
    exact withL_same (withL_rise hs.rise) ((withL_mem hs.rise).2 (.inl rfl))
theorem against_get {X : List Tx9} {L : List Lk} (hs : SaneL L) {tx b m z : Int} {i : Nat} (h : (againstL X L tx b m)[i]? = some z) : withinB X tx z = false ∧ max (findL L z b).held (findL L z b).kept ≠ 0 := by
  have hm := List.mem_of_getElem? h
  unfold againstL at hm
  obtain ⟨l, hl, rfl⟩ := List.mem_map.1 hm
  rw [List.mem_filter] at hl
  obtain ⟨h1, h2⟩ := hl
  unfold agB at h2
  simp only [Bool.and_eq_true, decide_eq_true_eq, Bool.not_eq_true'] at h2
  obtain ⟨⟨hb, -⟩, hw⟩ := h2
  have hf : findL L l.tx b = l := findL_of hs.rise h1 rfl hb
  refine ⟨hw, ?_⟩
  rw [hf]
  have := (strong_le (hs.sound l h1)).1
  unfold Lk.strong at this
  omega
theorem askE_cases {X : List Tx9} {L : List Lk} {tx b m : Int} (hi : isId X tx = true) : (askE X L tx b m = 0 ∧ againstL X L tx b m = []) ∨ (askE X L tx b m = 7 ∧ stateOf X tx ≠ 1) ∨ (askE X L tx b m = 9 ∧ againstL X L tx b m ≠ []) := by
  have h1 := isId_iff.1 hi
  unfold askE
  rw [if_neg (by omega)]
  by_cases hs : stateOf X tx = 1
  · rw [if_neg (by simp [hs])]
    by_cases ha : againstL X L tx b m = []
    · rw [if_neg (by simp [ha])]; exact .inl ⟨rfl, ha⟩
    · rw [if_pos ha]; exact .inr (.inr ⟨rfl, ha⟩)
  · rw [if_pos hs]; exact .inr (.inl ⟨rfl, hs⟩)
end Go.Proofs.Ytgbaijfgmeealaa
