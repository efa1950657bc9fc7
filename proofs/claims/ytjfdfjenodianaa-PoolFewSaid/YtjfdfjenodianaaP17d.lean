/-
  heronrylaw17.PoolPins: plain laws. Conditions: none.
-/
import Derived.Test.YtjfdfjenodianaaL17e
set_option linter.unusedVariables false
set_option linter.unusedSimpArgs false
namespace Go.Proofs.Ytjfdfjenodianaa
open Go.RowKit
/-- One place alone is pinned, so often; nothing is dirty. -/
structure Pinned (P : Pl) (at_ k room : Int) : Prop where
  k0 : 0 ≤ k
  room_ : P.room = room
  tidy : ∀ f ∈ P.fs, f.dirty = false
  other : ∀ f ∈ P.fs, f.at_ ≠ at_ → f.pins = 0
  this_ : ∀ f ∈ P.fs, f.at_ = at_ → f.pins = k
  held : 0 < k → at_ ∈ P.fs.map Fm.at_
theorem Pinned.bare {P Q : Pl} {at_ k room : Int} (h : Pinned P at_ k room) (hb : Q.fs.map Fm.bare = P.fs.map Fm.bare) (hr : Q.room = P.room) : Pinned Q at_ k room := by
  refine ⟨h.k0, hr.trans h.room_, fun f hf => ?_, fun f hf ha => ?_, fun f hf ha => ?_, fun hk => ?_⟩
  · obtain ⟨g, hg, he⟩ := bare_mem hb hf
    have e1 : f.dirty = g.dirty := (congrArg Fm.dirty he).symm
    rw [e1]; exact h.tidy g hg
  · obtain ⟨g, hg, he⟩ := bare_mem hb hf
    have e1 : f.pins = g.pins := (congrArg Fm.pins he).symm
    have e2 : f.at_ = g.at_ := (congrArg Fm.at_ he).symm
    rw [e1]; exact h.other g hg (e2 ▸ ha)
  · obtain ⟨g, hg, he⟩ := bare_mem hb hf
    have e1 : f.pins = g.pins := (congrArg Fm.pins he).symm
    have e2 : f.at_ = g.at_ := (congrArg Fm.at_ he).symm
    rw [e1]; exact h.this_ g hg (e2 ▸ ha)
  · rw [bare_at hb]; exact h.held hk
theorem Pinned.hold {P : Pl} {D : Dev} {n : Nat} {at_ k room : Int} (h : Pinned P at_ k room) (hw : PoolWf P D n) (a : Nat) : Pinned (P.hold D a).2.1 at_ k room := by
  have hc := hold_case P D a
  cases hc with
  | hit i f hx hi hfa he =>
    rw [he]
    refine h.bare ?_ rfl
    show (P.fs.set i { f with used := true }).map Fm.bare = P.fs.map Fm.bare
    apply List.ext_getElem?
    intro q
    rw [List.getElem?_map, List.getElem?_map]
    by_cases hq : i = q
    · subst hq
      rw [List.getElem?_set_self (List.getElem?_eq_some_iff.1 hi).1, hi]
      rfl
    · rw [List.getElem?_set_ne hq]
  | new hx hr he =>
    rw [he]
    have hnm := idx_none hx
    refine ⟨h.k0, h.room_, fun f hf => ?_, fun f hf ha => ?_, fun f hf ha => ?_, fun hk => ?_⟩
    · rcases List.mem_append.1 hf with hf | hf
      · exact h.tidy f hf
      · rw [List.mem_singleton.1 hf]; rfl
    · rcases List.mem_append.1 hf with hf | hf
      · exact h.other f hf ha
      · rw [List.mem_singleton.1 hf]; rfl
    · rcases List.mem_append.1 hf with hf | hf
      · exact h.this_ f hf ha
      · have e := List.mem_singleton.1 hf
        subst e
        have e2 : (a : Int) = at_ := ha
        have hk : ¬ 0 < k := fun hk => hnm (e2 ▸ h.held hk)
        have := h.k0
        show (0 : Int) = k
        omega
    · show at_ ∈ (P.fs ++ [newFm a (D.at a)]).map Fm.at_
      rw [List.map_append]
      exact List.mem_append_left _ (h.held hk)
  | full hx hr ho he =>
    rw [he]
    exact h.bare (Pl.round_bare _ P) (Pl.round_room _ P).1
  | old i f Q D' hx hr hQ hf hD' he =>
    rw [he]
    have hl : 0 < P.fs.length := by have := hw.ok.room0; omega
    have hh : P.hand < P.fs.length := by rcases hw.ok.hand with h1 | h1 <;> omega
    have hbQ : Pinned Q at_ k room := h.bare (by have := Pl.round_bare (2 * P.fs.length) P; rw [hQ] at this; exact this) (by have := (Pl.round_room (2 * P.fs.length) P).1; rw [hQ] at this; exact this)
    obtain ⟨f2, hf2, hg2⟩ := Pl.round_goes hh (k := 2 * P.fs.length) (i := i) (by rw [hQ])
    rw [hQ] at hf2
    have hf2' : Q.fs[i]? = some f2 := hf2
    rw [hf] at hf2'
    cases hf2'
    have hp : f.pins = 0 := by
      unfold Pl.goes at hg2
      rw [Bool.and_eq_true] at hg2
      simpa using hg2.1
    have hnm := idx_none hx
    refine ⟨h.k0, hbQ.room_, fun g hg => ?_, fun g hg ha => ?_, fun g hg ha => ?_, fun hk => ?_⟩
    · rcases mem_set hg with rfl | hg
      · rfl
      · exact hbQ.tidy g hg
    · rcases mem_set hg with rfl | hg
      · rfl
      · exact hbQ.other g hg ha
    · rcases mem_set hg with e | hg
      · subst e
        have e2 : (a : Int) = at_ := ha
        have hk : ¬ 0 < k := fun hk => hnm (e2 ▸ h.held hk)
        have := h.k0
        show (0 : Int) = k
        omega
      · exact hbQ.this_ g hg ha
    · obtain ⟨g, hg, hga⟩ := List.mem_map.1 (hbQ.held hk)
      obtain ⟨q, hq⟩ := List.mem_iff_getElem?.1 hg
      have hne : i ≠ q := by
        intro e
        subst e
        rw [hf] at hq
        cases hq
        have := hbQ.this_ _ hg hga
        omega
      show at_ ∈ (Q.fs.set i (newFm a (D'.at a))).map Fm.at_
      rw [← hga]
      exact List.mem_map_of_mem (List.mem_of_getElem? (by rw [List.getElem?_set_ne hne]; exact hq))
/-- Where another place fits or nothing is pinned, a place is found. -/
theorem Pinned.finds {P : Pl} {D : Dev} {n : Nat} {at_ k room : Int} (h : Pinned P at_ k room) (hw : PoolWf P D n) (a : Nat) (hc : 1 < room ∨ k = 0 ∨ (a : Int) = at_) : ∃ i, (P.hold D a).1 = some i := by
  have hcase := hold_case P D a
  cases hcase with
  | hit i f hx hi hfa he => exact ⟨i, by rw [he]⟩
  | new hx hr he => exact ⟨_, by rw [he]⟩
  | old i f Q D' hx hr hQ hf hD' he => exact ⟨i, by rw [he]⟩
  | full hx hr ho he =>
    exfalso
    have hl : 0 < P.fs.length := by have := hw.ok.room0; omega
    have hh : P.hand < P.fs.length := by rcases hw.ok.hand with h1 | h1 <;> omega
    have hnm := idx_none hx
    have hgoes : ∀ f ∈ P.fs, f.pins = 0 → P.goes f = true := fun f hf hp => by
      unfold Pl.goes
      rw [h.tidy f hf, hp]
      rfl
    have hex : ∃ f ∈ P.fs, f.pins = 0 := by
      by_cases hk : k = 0
      · refine ⟨P.fs[0], List.getElem_mem hl, ?_⟩
        by_cases ha : P.fs[0].at_ = at_
        · rw [h.this_ _ (List.getElem_mem hl) ha, hk]
        · exact h.other _ (List.getElem_mem hl) ha
      · have h0 := h.k0
        have hheld := h.held (by omega)
        have hroom : 1 < room := by
          rcases hc with hc | hc | hc
          · exact hc
          · exact absurd hc hk
          · exact absurd (hc ▸ hheld) hnm
        have hl2 : 1 < P.fs.length := by have := h.room_; omega
        by_cases ha : P.fs[0].at_ = at_
        · refine ⟨P.fs[1], List.getElem_mem hl2, h.other _ (List.getElem_mem hl2) (fun e => ?_)⟩
          have := List.pairwise_iff_getElem.1 hw.nd 0 1 (by simpa using hl) (by simpa using hl2) (by decide)
          simp [ha, e] at this
        · exact ⟨P.fs[0], List.getElem_mem hl, h.other _ (List.getElem_mem hl) ha⟩
    obtain ⟨f, hf, hp⟩ := hex
    obtain ⟨q, hq⟩ := List.mem_iff_getElem?.1 hf
    obtain ⟨i, hi⟩ := Pl.round_finds hh hq (hgoes f hf hp)
    rw [ho] at hi
    cases hi
theorem Pinned.new (at_ room : Int) : Pinned ⟨[], room, 0, 0, 0⟩ at_ 0 room :=
  ⟨Int.le_refl 0, rfl, fun f hf => by simp at hf, fun f hf => by simp at hf, fun f hf => by simp at hf, fun h => absurd h (Int.lt_irrefl 0)⟩
/-- Its frame's count set. -/
theorem Pinned.count {P : Pl} {at_ k room : Int} (h : Pinned P at_ k room) {i : Nat} {f : Fm} (hf : P.fs[i]? = some f) (ha : f.at_ = at_) (hnd : (P.fs.map Fm.at_).Nodup) (m : Int) (m0 : 0 ≤ m) : Pinned { P with fs := P.fs.set i { f with pins := m } } at_ m room := by
  have hfm := List.mem_of_getElem? hf
  have huniq : ∀ g ∈ P.fs.set i { f with pins := m }, g = { f with pins := m } ∨ (g ∈ P.fs ∧ g.at_ ≠ at_) := by
    intro g hg
    obtain ⟨q, hq⟩ := List.mem_iff_getElem?.1 hg
    by_cases hiq : i = q
    · subst hiq
      rw [List.getElem?_set_self (List.getElem?_eq_some_iff.1 hf).1] at hq
      exact .inl (Option.some.inj hq).symm
    · rw [List.getElem?_set_ne hiq] at hq
      refine .inr ⟨List.mem_of_getElem? hq, fun e => ?_⟩
      obtain ⟨h1, h2⟩ := List.getElem?_eq_some_iff.1 hf
      obtain ⟨h3, h4⟩ := List.getElem?_eq_some_iff.1 hq
      have hp := List.pairwise_iff_getElem.1 hnd
      rcases Nat.lt_or_gt_of_ne hiq with hlt | hlt
      · exact hp i q (by simpa using h1) (by simpa using h3) hlt (by simp [h2, h4, e, ha])
      · exact hp q i (by simpa using h3) (by simpa using h1) hlt (by simp [h2, h4, e, ha])
  refine ⟨m0, h.room_, fun g hg => ?_, fun g hg hga => ?_, fun g hg hga => ?_, fun hk => ?_⟩
  · rcases huniq g hg with e | ⟨hg, _⟩
    · rw [e]; exact h.tidy f hfm
    · exact h.tidy g hg
  · rcases huniq g hg with e | ⟨hg, _⟩
    · rw [e] at hga; exact absurd ha hga
    · exact h.other g hg hga
  · rcases huniq g hg with e | ⟨_, hne⟩
    · rw [e]
    · exact absurd hga hne
  · show at_ ∈ (P.fs.set i { f with pins := m }).map Fm.at_
    rw [set_map_at (f' := { f with pins := m }) hf rfl, ← ha]
    exact List.mem_map_of_mem hfm
/-- What is held lies where it was asked for. -/
theorem hold_at {P : Pl} {D : Dev} {a i : Nat} {f : Fm} (ho : (P.hold D a).1 = some i) (hi : (P.hold D a).2.1.fs[i]? = some f) : f.at_ = (a : Int) := by
  have hc := hold_case P D a
  cases hc with
  | hit q g hx hq hga he =>
    rw [he] at ho hi
    cases ho
    have hi' : (P.fs.set i { g with used := true })[i]? = some f := hi
    rw [List.getElem?_set_self (List.getElem?_eq_some_iff.1 hq).1] at hi'
    cases hi'
    exact hga
  | new hx hr he =>
    rw [he] at ho hi
    cases ho
    have hi' : (P.fs ++ [newFm a (D.at a)])[P.fs.length]? = some f := hi
    rw [List.getElem?_append_right (Nat.le_refl _)] at hi'
    simp at hi'
    rw [← hi']
    rfl
  | full hx hr h1 he => rw [he] at ho; cases ho
  | old q g Q D' hx hr hQ hq hD' he =>
    rw [he] at ho hi
    cases ho
    have hi' : (Q.fs.set i (newFm a (D'.at a)))[i]? = some f := hi
    rw [List.getElem?_set_self (List.getElem?_eq_some_iff.1 hq).1] at hi'
    cases hi'
    rfl
end Go.Proofs.Ytjfdfjenodianaa
