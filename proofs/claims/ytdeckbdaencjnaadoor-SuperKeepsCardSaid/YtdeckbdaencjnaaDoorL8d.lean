/-
  SuperKeeps: the plain law. Conditions: none.
-/
import Derived.Test.YtdeckbdaencjnaaDoorT8b
set_option linter.unusedVariables false
set_option linter.unusedSimpArgs false
namespace Go.Proofs.YtdeckbdaencjnaaDoor
open Go.RowKit

/-- Whatever is kept, the device tells the last one that was saved, or the one that was being saved. -/
def Kept (D : Dev) (last now : Sup) : Prop := ∀ keep, ∃ l, Calm (D.crash keep) l ∧ (Two l last ∨ Two l now)
/-- i of them saved, or tried. -/
structure KeepsRun (i : Nat) (D : Dev) (last now : Sup) : Prop where
  kept : Kept D last now
  live : D.gone = false → now = last ∧ ∃ l, Calm D l ∧ Two l last
  v0 : 0 ≤ last.version
  v1 : last.version ≤ 1 + i
  e : last.epoch = 0
  b : last.blocks = 0
  c : last.counters = 0
  l : last.log = 1
  h0 : 0 ≤ last.head
  h1 : last.head < 65536
  a : last.applied = 0
  nv : now = last ∨ now.version = last.version + 1
theorem Calm.kept {D : Dev} {l : List (List Int)} {s t : Sup} (h : Calm D l) (ht : Two l s) : Kept D s t := by
  intro keep
  refine ⟨l, ?_, .inl ht⟩
  have := h.crash keep false
  have e : ({ D with gone := false } : Dev) = D := by
    have := h.gone
    cases D
    simp_all
  rwa [e] at this
theorem KeepsRun.start {D : Dev} {l : List (List Int)} {s : Sup} (h : Calm D l) (ht : Two l s) (hs : s = ⟨1, 0, 0, 0, 1, 0, 0⟩) : KeepsRun 0 D s s := by
  subst hs
  exact ⟨h.kept ht, fun _ => ⟨rfl, l, h, ht⟩, by decide, by decide, rfl, rfl, rfl, rfl, by decide, by decide, rfl, .inl rfl⟩
def Sup.headed (s : Sup) (x : Int) : Sup := { s with head := x }
theorem headed_good {i : Nat} {D : Dev} {last now : Sup} (h : KeepsRun i D last now) (hi : i ≤ 20) {x : Int} (h0 : 0 ≤ x) (h1 : x < 65536) : (last.headed x).good = true := by
  obtain ⟨_, _, v0, v1, e, b, c, l, _, _, a, _⟩ := h
  have hs : (last.headed x).Sane := by
    simp only [Sup.Sane, Sup.headed, e, b, c, l, a]
    omega
  have hv : (last.headed x).version < 281474976710656 := by simp only [Sup.headed]; omega
  simp [Sup.good, Sup.sane, hs, hv]
/-- Another one saved: it was, or the device is gone. -/
theorem KeepsRun.step {i : Nat} {D : Dev} {last now : Sup} (h : KeepsRun i D last now) (hg : D.gone = false) (hi : i ≤ 20) {x : Int} (h0 : 0 ≤ x) (h1 : x < 65536) :
    (D.saveE (last.headed x) = 0 ∧ D.saveS (last.headed x) = (last.headed x).next ∧ KeepsRun (i + 1) (D.save (last.headed x)) (last.headed x).next (last.headed x).next) ∨
    (D.saveE (last.headed x) = 11 ∧ KeepsRun (i + 1) (D.save (last.headed x)) last (last.headed x).next) := by
  have good := headed_good h hi h0 h1
  obtain ⟨rfl, l, hC, hT⟩ := h.live hg
  have hs := ((Sup.good_iff _).1 good).2
  have hl := hT.len
  have hv : (now.headed x).next.version = now.version + 1 := rfl
  have hT2 : Two (l.set ((now.headed x).next.version % 2).toNat (now.headed x).next.enc) (now.headed x).next := hT.next hs hv
  have hv1 := h.v1
  have hv0 := h.v0
  by_cases b0 : D.budget = 0
  · right
    obtain ⟨e1, e2⟩ := hC.save_0 hl b0 good
    refine ⟨e1, ?_, fun hgn => ?_, hv0, by omega, h.e, h.b, h.c, h.l, h.h0, h.h1, h.a, .inr hv⟩
    · rw [e2]
      intro keep
      exact ⟨l, hC.crash keep true, .inl hT⟩
    · rw [e2] at hgn; exact absurd hgn (fun h => Bool.noConfusion h)
  · by_cases b1 : D.budget = 1
    · right
      obtain ⟨e1, e2, e3, e4⟩ := hC.save_1 hl b1 good
      refine ⟨e1, ?_, fun hgn => ?_, hv0, by omega, h.e, h.b, h.c, h.l, h.h0, h.h1, h.a, .inr hv⟩
      · intro keep
        rcases crash_one e2 e3 (place_lt hl _).1 keep with hc | hc
        · exact ⟨_, hc, .inl hT⟩
        · exact ⟨_, hc, .inr hT2⟩
      · rw [e4] at hgn; exact absurd hgn (fun h => Bool.noConfusion h)
    · left
      obtain ⟨e1, e2, e3, e4⟩ := hC.save_2 hl b0 b1 good
      refine ⟨e1, by simp [Dev.saveS, e1], e2.kept hT2, fun _ => ⟨rfl, _, e2, hT2⟩, ?_, ?_, h.e, h.b, h.c, h.l, h0, h1, h.a, .inl rfl⟩
      · rw [hv]; omega
      · rw [hv]; omega
/-- What is loaded at last. -/
theorem Kept.load {D : Dev} {last now : Sup} (h : Kept D last now) (keep : List Bool) : (D.crash keep).loadE = 0 ∧ ((D.crash keep).loadS = last ∨ (D.crash keep).loadS = now) := by
  obtain ⟨l, hC, hT | hT⟩ := h keep
  · obtain ⟨a, b⟩ := hC.load_two hT
    exact ⟨a, .inl b⟩
  · obtain ⟨a, b⟩ := hC.load_two hT
    exact ⟨a, .inr b⟩
theorem Kept.bys {D : Dev} {last now : Sup} (h : Kept D last now) (keep : List Bool) : ∀ i, i < 2 → Bys ((D.crash keep).at i) := by
  obtain ⟨l, hC, hT⟩ := h keep
  have hl : 2 ≤ l.length ∧ ∀ x ∈ l, Bys x := by
    rcases hT with hT | hT
    · exact ⟨hT.len, hT.bys⟩
    · exact ⟨hT.len, hT.bys⟩
  intro i hi
  rw [hC.at i]
  exact hl.2 _ (by simp [List.getD, show i < l.length by omega])
end Go.Proofs.YtdeckbdaencjnaaDoor
