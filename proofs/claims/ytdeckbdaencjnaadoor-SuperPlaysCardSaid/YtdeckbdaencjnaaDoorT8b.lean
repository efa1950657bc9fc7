/-
  Plain laws on saving: a device without a cache, saved to. Conditions: none.
-/
import Derived.Test.YtdeckbdaencjnaaDoorT8
set_option linter.unusedVariables false
set_option linter.unusedSimpArgs false
namespace Go.Proofs.YtdeckbdaencjnaaDoor
open Go.RowKit

/-- A device that is there, with nothing cached, whose sectors are l. -/
structure Calm (D : Dev) (l : List (List Int)) : Prop where
  laid : D.laid = l
  late : D.late = List.replicate l.length none
  gone : D.gone = false
theorem Calm.at {D : Dev} {l : List (List Int)} (h : Calm D l) (i : Nat) : D.at i = l.getD i [] := by
  have : (D.late[i]?).join = none := by
    rw [h.late, List.getElem?_replicate]
    split <;> rfl
  unfold Dev.at
  rw [this, h.laid]; rfl
theorem Calm.may {D : Dev} {l : List (List Int)} (h : Calm D l) {i : Int} (h0 : 0 ≤ i) (h1 : i < l.length) : D.may i = 0 := by
  unfold Dev.may
  rw [h.gone, h.laid, if_neg (by decide), if_neg (by omega)]
theorem Dev.new_calm (n : Nat) : Calm (Dev.new n) (List.replicate n zsec) := ⟨rfl, by simp [Dev.new], rfl⟩
theorem Dev.may_len {D E : Dev} (hg : E.gone = D.gone) (hl : E.laid.length = D.laid.length) (i : Int) : E.may i = D.may i := by
  unfold Dev.may; rw [hg, hl]
/-- Laid down: each sector is what was read of it. -/
theorem lay_list {l : List (List Int)} {f : Nat → List Int} (h : ∀ j, j < l.length → f j = l.getD j []) : (List.range l.length).map f = l := by
  apply List.ext_getElem
  · simp
  · intro i h1 h2
    simp at h1
    simp [h i h1, h1]
theorem Dev.pad_enc (s : Sup) : pad64 s.enc = s.enc := by simp [pad64, Sup.enc_len]

section
variable {D : Dev} {l : List (List Int)} {s : Sup}
theorem place_lt (h : 2 ≤ l.length) (v : Int) : (v % 2).toNat < l.length ∧ v % 2 = ((v % 2).toNat : Int) := by omega
/-- One thing is borne no more: nothing is written. -/
theorem Calm.save_0 (h : Calm D l) (hl : 2 ≤ l.length) (hb : D.budget = 0) (hs : s.good = true) : D.saveE s = 11 ∧ D.save s = { D with gone := true } := by
  obtain ⟨p1, p2⟩ := place_lt hl s.next.version
  have hm : D.may (s.next.version % 2) = 0 := h.may (by omega) (by omega)
  have he : ¬ 64 < s.next.enc.length := by rw [Sup.enc_len]; decide
  have e1 : D.saveWE s = 11 := by simp [Dev.saveWE, Dev.writeE, hm, he, Dev.spendE, hb]
  have e2 : D.saveW s = { D with gone := true } := by simp [Dev.saveW, Dev.write, hm, he, Dev.spend, hb]
  exact ⟨by simp [Dev.saveE, hs, e1], by simp [Dev.save, hs, e1, e2]⟩
/-- The sector is written, and not flushed. -/
theorem Calm.save_1 (h : Calm D l) (hl : 2 ≤ l.length) (hb : D.budget = 1) (hs : s.good = true) :
    D.saveE s = 11 ∧ (D.save s).laid = l ∧ (D.save s).late = (List.replicate l.length none).set (s.next.version % 2).toNat (some s.next.enc) ∧ (D.save s).gone = true := by
  obtain ⟨p1, p2⟩ := place_lt hl s.next.version
  have hm : D.may (s.next.version % 2) = 0 := h.may (by omega) (by omega)
  have he : ¬ 64 < s.next.enc.length := by rw [Sup.enc_len]; decide
  have hsp : D.spend = { D with budget := 0, spent := wrap64 (D.spent + 1) } := by simp [Dev.spend, hb]
  have e1 : D.saveWE s = 0 := by simp [Dev.saveWE, Dev.writeE, hm, he, Dev.spendE, hb]
  have e2 : D.saveW s = D.spend.put (s.next.version % 2).toNat s.next.enc := by simp [Dev.saveW, Dev.write, hm, he, hb, Dev.pad_enc]
  have g2 : (D.saveW s).gone = false := by rw [e2, hsp]; exact h.gone
  have b2 : (D.saveW s).budget = 0 := by rw [e2, hsp]; rfl
  have e3 : (D.saveW s).flushE = 11 := by simp [Dev.flushE, g2, Dev.spendE, b2]
  have e4 : (D.saveW s).flush = { D.saveW s with gone := true } := by simp [Dev.flush, g2, b2, Dev.spend]
  have e5 : D.save s = { D.saveW s with gone := true } := by simp [Dev.save, hs, e1, e4]
  refine ⟨by simp [Dev.saveE, hs, e1, e3], ?_, ?_, by rw [e5]⟩
  · rw [e5, e2, hsp]; exact h.laid
  · rw [e5, e2, hsp]
    show D.late.set _ _ = _
    rw [h.late]
/-- It is written and flushed. -/
theorem Calm.save_2 (h : Calm D l) (hl : 2 ≤ l.length) (hb0 : D.budget ≠ 0) (hb1 : D.budget ≠ 1) (hs : s.good = true) :
    D.saveE s = 0 ∧ Calm (D.save s) (l.set (s.next.version % 2).toNat s.next.enc) ∧ (D.save s).budget = (if 0 < D.budget then D.budget - 2 else D.budget) ∧ (D.save s).spent = wrap64 (wrap64 (D.spent + 1) + 1) := by
  obtain ⟨p1, p2⟩ := place_lt hl s.next.version
  have hm : D.may (s.next.version % 2) = 0 := h.may (by omega) (by omega)
  have he : ¬ 64 < s.next.enc.length := by rw [Sup.enc_len]; decide
  have hsp := Dev.spend_go hb0
  have e1 : D.saveWE s = 0 := by simp [Dev.saveWE, Dev.writeE, hm, he, Dev.spendE, hb0]
  have e2 : D.saveW s = D.spend.put (s.next.version % 2).toNat s.next.enc := by simp [Dev.saveW, Dev.write, hm, he, hb0, Dev.pad_enc]
  have g2 : (D.saveW s).gone = false := by rw [e2, hsp]; exact h.gone
  have bb : (D.saveW s).budget = (if 0 < D.budget then D.budget - 1 else D.budget) := by rw [e2, hsp]; rfl
  have b2 : (D.saveW s).budget ≠ 0 := by rw [bb]; split <;> omega
  obtain ⟨e3, e4⟩ := Dev.flush_ok g2 b2
  have e5 : D.save s = (D.saveW s).spend.lay := by simp [Dev.save, hs, e1, e4]
  have hsp2 := Dev.spend_go b2
  have hlaid : (D.saveW s).laid = l := by rw [e2]; show D.spend.laid = l; rw [Dev.spend_laid]; exact h.laid
  have hlen : D.laid.length = l.length := by rw [h.laid]
  have hat : ∀ j, (D.saveW s).spend.at j = (l.set (s.next.version % 2).toNat s.next.enc).getD j [] := by
    intro j
    rw [Dev.spend_at, e2]
    by_cases hj : (s.next.version % 2).toNat = j
    · rw [hj, Dev.put_at _ _ _ (by rw [Dev.spend_late, h.late]; simp; omega)]
      rw [hj] at p1
      simp [List.getD, p1]
    · rw [Dev.put_at_ne _ _ hj, Dev.spend_at, h.at]
      simp [List.getD, List.getElem?_set_ne hj]
  refine ⟨by simp [Dev.saveE, hs, e1, e3], ⟨?_, ?_, ?_⟩, ?_, ?_⟩
  · rw [e5, Dev.lay_laid]
    have hl2 : (D.saveW s).spend.laid.length = (l.set (s.next.version % 2).toNat s.next.enc).length := by rw [Dev.spend_laid, hlaid]; simp
    rw [hl2]
    exact lay_list fun j _ => hat j
  · rw [e5]
    show (D.saveW s).spend.late.map _ = _
    rw [Dev.spend_late, e2]
    show ((D.spend.late).set _ _).map _ = _
    rw [Dev.spend_late, h.late]
    apply List.ext_getElem
    · simp
    · intro i h1 h2; simp
  · rw [e5]
    show (D.saveW s).spend.gone = false
    rw [hsp2]; exact g2
  · rw [e5]
    show (D.saveW s).spend.budget = _
    rw [hsp2]
    show (if 0 < (D.saveW s).budget then (D.saveW s).budget - 1 else (D.saveW s).budget) = _
    rw [bb]
    rw [bb] at b2
    split
    · rename_i hp
      rw [if_pos hp] at b2
      rw [if_pos (by omega)]; omega
    · rfl
  · rw [e5]
    show (D.saveW s).spend.spent = _
    rw [hsp2]
    show wrap64 ((D.saveW s).spent + 1) = _
    rw [e2, hsp]
    rfl
/-- What is loaded of it. -/
theorem Calm.load (h : Calm D l) (hl : 2 ≤ l.length) : D.loadE = pickE (l.getD 0 []) (l.getD 1 []) ∧ D.loadS = pickS (l.getD 0 []) (l.getD 1 []) := by
  have m0 := h.may (i := 0) (by omega) (by omega)
  have m1 := h.may (i := 1) (by omega) (by omega)
  unfold Dev.loadE Dev.loadS
  rw [m0, m1, h.at 0, h.at 1]
  simp
theorem Calm.load_two (h : Calm D l) (ht : Two l s) : D.loadE = 0 ∧ D.loadS = s := by
  obtain ⟨e1, e2⟩ := h.load ht.len
  rw [e1, e2]
  exact ht.pick
/-- Nothing cached: a crash loses nothing. -/
theorem Calm.crash (h : Calm D l) (keep : List Bool) (g : Bool) : Calm (({ D with gone := g } : Dev).crash keep) l := by
  have hc : ({ D with gone := g } : Dev).cached = [] := by
    unfold Dev.cached
    rw [List.filter_eq_nil_iff]
    intro j _
    show ¬ ((D.late[j]?).join).isSome = true
    rw [h.late, List.getElem?_replicate]
    split <;> simp
  refine ⟨?_, ?_, rfl⟩
  · show layKept _ ({ D with gone := g } : Dev).cached keep D.laid = l
    rw [hc]
    show layKept _ [] keep D.laid = l
    cases keep <;> exact h.laid
  · show D.late.map _ = _
    rw [h.late]; simp
theorem filter_one (n i : Nat) (hi : i < n) : (List.range n).filter (fun j => decide (j = i)) = [i] := by
  induction n with
  | zero => omega
  | succ n ih =>
    rw [List.range_succ, List.filter_append]
    by_cases h : i = n
    · subst h
      have : (List.range i).filter (fun j => decide (j = i)) = [] := by
        rw [List.filter_eq_nil_iff]
        intro j hj
        simp at hj
        simp; omega
      rw [this]; simp
    · rw [ih (by omega)]
      have : ¬ n = i := fun e => h e.symm
      simp [this]
/-- One sector cached: a crash keeps it, or not. -/
theorem crash_one {E : Dev} {i : Nat} {x : List Int} (hlaid : E.laid = l) (hlate : E.late = (List.replicate l.length none).set i (some x)) (hi : i < l.length) (keep : List Bool) :
    Calm (E.crash keep) l ∨ Calm (E.crash keep) (l.set i x) := by
  have hc : E.cached = [i] := by
    unfold Dev.cached
    rw [hlaid, ← filter_one l.length i hi]
    apply List.filter_congr
    intro j hj
    simp at hj
    rw [hlate]
    by_cases hji : j = i
    · subst hji
      simp [hj]
    · rw [List.getElem?_set_ne (fun e => hji e.symm), List.getElem?_replicate]
      simp [hji, hj]
  have hat : E.at i = x := by
    unfold Dev.at
    rw [hlate]
    simp [hi]
  have hl0 : (E.crash keep).laid = layKept E E.cached keep E.laid := rfl
  have hla : (E.crash keep).late = List.replicate l.length none := by
    show E.late.map _ = _
    rw [hlate]
    apply List.ext_getElem
    · simp
    · intro k h1 h2; simp
  rw [hc, hlaid] at hl0
  cases keep with
  | nil => exact .inl ⟨hl0, hla, rfl⟩
  | cons b r =>
    have h1 : layKept E [i] (b :: r) l = if b then l.set i x else l := by
      simp only [layKept, hat]
    rw [h1] at hl0
    cases b with
    | false => exact .inl ⟨by simpa using hl0, hla, rfl⟩
    | true => exact .inr ⟨hl0, by rw [hla]; simp, rfl⟩
end
end Go.Proofs.YtdeckbdaencjnaaDoor
