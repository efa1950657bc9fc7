/-
  The document's device (layer 4): Flush, Crash, New. Conditions: none.
-/
import Derived.Test.YtdeckbdaencjnaaDoorR04b
set_option linter.unusedVariables false
set_option linter.unusedSimpArgs false
namespace Go.Proofs.YtdeckbdaencjnaaDoor
open Go.RowKit

theorem layF_kept (D : Dev) (keep : List Bool) : ∀ (is : List Nat) (k : Nat) (l : List (List Int)), layF D (keptF false keep) is k l = layKept D is (keep.drop k) l
  | [], k, l => by cases h : keep.drop k <;> rfl
  | i :: is, k, l => by
    simp only [layF]
    rw [layF_kept D keep is (k + 1)]
    by_cases hk : k < keep.length
    · rw [List.drop_eq_getElem_cons hk]
      simp [layKept, keptF, List.getD, hk]
    · rw [List.drop_eq_nil_of_le (show keep.length ≤ k + 1 by omega), List.drop_eq_nil_of_le (show keep.length ≤ k by omega), layKept_nil]
      have : keptF false keep k = false := by simp [keptF, List.getD, List.getElem?_eq_none (show keep.length ≤ k by omega)]
      rw [this, layKept_nil]
      rfl
theorem layF_all_get (D : Dev) (f : Nat → Bool) (hf : ∀ k, f k = true) : ∀ (is : List Nat) (k : Nat) (l : List (List Int)) (j : Nat), (layF D f is k l)[j]? = if j ∈ is ∧ j < l.length then some (D.at j) else l[j]?
  | [], k, l, j => by simp [layF]
  | i :: is, k, l, j => by
    simp only [layF, hf k, if_true]
    rw [layF_all_get D f hf is (k + 1)]
    by_cases h1 : j ∈ is
    · by_cases h2 : j < l.length
      · simp [h1, h2]
      · simp [h1, h2]
    · by_cases h3 : j = i
      · subst h3
        by_cases h2 : j < l.length
        · simp [h1, h2]
        · simp [h2]
      · simp [h1, h3, List.getElem?_set_ne (Ne.symm h3)]
theorem layF_len (D : Dev) (f : Nat → Bool) : ∀ (is : List Nat) (k : Nat) (l : List (List Int)), (layF D f is k l).length = l.length
  | [], _, _ => rfl
  | i :: is, k, l => by
    simp only [layF]
    rw [layF_len D f is]
    split <;> simp
theorem Dev.settled_all (D : Dev) (hl : D.late.length = D.laid.length) : D.settled (keptF true []) = D.lay := by
  have : layF D (keptF true []) D.cached 0 D.laid = (List.range D.laid.length).map D.at := by
    apply List.ext_getElem?
    intro j
    rw [layF_all_get D (keptF true []) (fun _ => rfl)]
    by_cases hj : j < D.laid.length
    · by_cases hc : j ∈ D.cached
      · simp [hc, hj]
      · have hjl : j < D.late.length := by omega
        have hn : D.late[j]? = some none := by
          cases hs : D.late[j]? with
          | none => simp at hs; omega
          | some o =>
            cases o with
            | none => rfl
            | some s => exact absurd (by simp [Dev.cached, hj, hs]) hc
        rw [if_neg (fun h => hc h.1)]
        simp [hj, Dev.at_laid hn, List.getD]
    · rw [if_neg (fun h => hj h.2), List.getElem?_eq_none (by omega), List.getElem?_eq_none (by simp; omega)]
  simp only [Dev.settled, Dev.lay, this]

section
variable {w w' : World} {rb lb tb : Nat} {D : Dev}
set_option maxRecDepth 100000 in
set_option maxHeartbeats 1000000 in
theorem rflush_c (h : RefAt w rb lb tb D) :
    Calls Tryd.prog 40 #[.pointer (some ⟨rb, 0, none⟩)] w fun e w' => e = .returned (.int .i64 D.flushE) ∧ RefAt w' rb lb tb D.flush ∧ Fr (Rv rb lb tb) w w' := by
  obtain ⟨cap0, h0, h1, h2, h3, h4, f2, f3, f4⟩ := h.cells
  clear h0 h1 h2 h4 f2 f3 f4
  by_cases hg : D.gone = true
  · have e1 : D.flushE = 11 := by simp [Dev.flushE, hg]
    have e2 : D.flush = D := by simp [Dev.flush, hg]
    rw [e1, e2]
    rw [hg] at h3
    clear e1 e2
    go_enter Tryd.func40, Tryd.ntmps40
    go_wp2_with fail
    go_ret
    exact ⟨rfl, h, Fr.refl _ _⟩
  have hg' : D.gone = false := by simpa using hg
  rw [hg'] at h3
  by_cases hb : D.budget = 0
  · have e1 : D.flushE = 11 := by simp [Dev.flushE, hg', Dev.spendE, hb]
    have e2 : D.flush = D.spend := by simp [Dev.flush, hg', hb]
    have HS := Lib.hid (show decide (D.spendE = 0) = false by simp [Dev.spendE, hb])
    rw [e1, e2]
    clear e1 e2 hb
    go_enter Tryd.func40, Tryd.ntmps40
    go_wp2_with fail
    refine (rspend_c h).mono ?_
    rintro e w1 ⟨rfl, k1, hf1⟩
    rw [HS.out]
    go_wp2_with fail
    go_ret
    exact ⟨rfl, k1, hf1.mono (fun _ e => .inl e)⟩
  · obtain ⟨e1, e2⟩ := Dev.flush_ok hg' hb
    have HS := Lib.hid (show decide (D.spendE = 0) = true by simp [Dev.spendE, hb])
    rw [e1, e2]
    clear e1 e2 hb
    go_enter Tryd.func40, Tryd.ntmps40
    go_wp2_with fail
    refine (rspend_c h).mono ?_
    rintro e w1 ⟨rfl, k1, hf1⟩
    rw [HS.out]
    go_wp2_with fail
    refine (rsettle_c k1 none 0 [] 0 rfl ⟨fun h => by simp at h⟩ (by intro ad e; cases e) (by decide) true).mono ?_
    rintro e w2 ⟨rfl, k2, hf2⟩
    go_wp2_with fail
    go_ret
    rw [Dev.settled_all _ k1.ok.len] at k2
    exact ⟨rfl, k2, (hf1.mono (fun _ e => .inl e)).trans hf2 (fun _ e => .inl e)⟩

set_option maxRecDepth 100000 in
set_option maxHeartbeats 1000000 in
theorem rcrash_c (h : RefAt w rb lb tb D) (A : Option Addr) (c : Nat) (keep : List Bool) (n : Nat) (hn : keep.length = n) (hK : ValsAt w A (keep.map Value.bool)) (hA : ∀ ad, A = some ad → 0 < keep.length → ¬ Rv rb lb tb ad.block) (hbig : n ≤ 4611686018427387904) :
    Calls Tryd.prog 37 #[.pointer (some ⟨rb, 0, none⟩), .slice A n c] w fun e w' => e = .returned (.tuple #[]) ∧ RefAt w' rb lb tb (D.crash keep) ∧ Fr (Rv rb lb tb) w w' := by
  go_enter Tryd.func37, Tryd.ntmps37
  go_wp2_with fail
  refine (rsettle_c h A c keep n hn hK hA hbig false).mono ?_
  rintro e w1 ⟨rfl, k1, hf1⟩
  obtain ⟨cap0, h0, h1, h2, h3, h4, f2, f3, f4⟩ := k1.cells
  obtain ⟨td, cd, ed⟩ := k1.dev
  have ED := Lib.hid ed
  clear ed h0 h1 h4 f4
  go_wp2_with fail
  go_end0
  have hf : Fr (fun k => k = rb) w1 ((w1.setCell ⟨rb, 3, none⟩ (.bool false)).setCell ⟨rb, 2, none⟩ (.int .i64 (-1))) := ((Fr.refl _ _).setCell (by exact Or.inl rfl) _).setCell (by exact Or.inl rfl) _
  have hD : D.crash keep = { D.settled (keptF false keep) with budget := -1, gone := false } := by
    simp only [Dev.crash, Dev.settled, layF_kept, List.drop_zero]
  rw [hD]
  refine ⟨rfl, k1.own hf rfl rfl (by simp) (by simp) ⟨td, cd, ?_⟩, hf1.trans (hf.mono (fun _ e => .inl e)) (fun _ e => .inl e)⟩
  exact set_cell (set_cell ED.out 3 (.bool false)) 2 (.int .i64 (-1))
end
end Go.Proofs.YtdeckbdaencjnaaDoor
