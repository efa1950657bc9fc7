/-
  Plain laws on pools. Conditions: none.
-/
import Derived.Test.YtjfdfjenodianaaK17i
set_option linter.unusedVariables false
set_option linter.unusedSimpArgs false
namespace Go.Proofs.Ytjfdfjenodianaa
open Go.RowKit
def Fm.bare (f : Fm) : Fm := { f with used := false }
/-- So many turns. -/
def Pl.turns : Nat → Pl → Pl
  | 0, P => P
  | k + 1, P => Pl.turns k P.turn
theorem Pl.turns_len : ∀ (k : Nat) (P : Pl), (P.turns k).fs.length = P.fs.length
  | 0, P => rfl
  | k + 1, P => by rw [Pl.turns, Pl.turns_len k, Pl.turn_len]
theorem Pl.turn_hand_eq {P : Pl} (h : P.hand < P.fs.length) : P.turn.hand = (P.hand + 1) % P.fs.length := by
  unfold Pl.turn
  rw [List.getElem?_eq_getElem h]
theorem Pl.turns_hand : ∀ (k : Nat) (P : Pl), P.hand < P.fs.length → (P.turns k).hand = (P.hand + k) % P.fs.length
  | 0, P, h => by rw [Pl.turns, Nat.add_zero, Nat.mod_eq_of_lt h]
  | k + 1, P, h => by
    have ht := Pl.turn_hand h
    rw [Pl.turns, Pl.turns_hand k P.turn ht, Pl.turn_len, Pl.turn_hand_eq h, Nat.mod_add_mod]
    congr 1
    omega
theorem Pl.turns_room : ∀ (k : Nat) (P : Pl), (P.turns k).room = P.room ∧ (P.turns k).safe = P.safe ∧ (P.turns k).reads = P.reads
  | 0, P => ⟨rfl, rfl, rfl⟩
  | k + 1, P => by
    have h1 := Pl.turns_room k P.turn
    have h2 := P.turn_room
    exact ⟨h1.1.trans h2.1, h1.2.1.trans h2.2.1, h1.2.2.trans h2.2.2⟩
theorem Pl.turns_succ : ∀ (k : Nat) (P : Pl), P.turns (k + 1) = (P.turns k).turn
  | 0, P => rfl
  | k + 1, P => by
    show Pl.turns (k + 1) P.turn = _
    rw [Pl.turns_succ k P.turn]
    rfl
/-- What a round comes to. -/
theorem Pl.round_is : ∀ (k : Nat) (P : Pl), ((P.round k).1 = none ∧ (P.round k).2 = P.turns k ∧ ∀ j, j < k → (P.turns j).stop = false) ∨
    ∃ j, j < k ∧ (P.turns j).stop = true ∧ (P.round k).1 = some (P.turns j).hand ∧ (P.round k).2 = P.turns (j + 1)
  | 0, P => .inl ⟨rfl, rfl, fun j h => by omega⟩
  | k + 1, P => by
    unfold Pl.round
    by_cases hs : P.stop = true
    · rw [if_pos hs]
      exact .inr ⟨0, by omega, hs, rfl, rfl⟩
    · rw [if_neg hs]
      rcases Pl.round_is k P.turn with ⟨h1, h2, h3⟩ | ⟨j, h1, h2, h3, h4⟩
      · refine .inl ⟨h1, h2, fun j hj => ?_⟩
        cases j with
        | zero =>
          show P.stop = false
          simpa using hs
        | succ j => exact h3 j (by omega)
      · exact .inr ⟨j + 1, by omega, h2, h3, h4⟩
theorem Pl.goes_used (P : Pl) (f : Fm) (u : Bool) : P.goes { f with used := u } = P.goes f := rfl
theorem Pl.turn_at {P : Pl} {i : Nat} {f : Fm} (hh : P.hand < P.fs.length) (h : P.fs[i]? = some f) : P.turn.fs[i]? = some (if P.hand = i then { f with used := f.used && !P.goes f } else f) := by
  have hg : P.fs[P.hand]? = some P.fs[P.hand] := List.getElem?_eq_getElem hh
  rw [Pl.turn_eq hg]
  by_cases hij : P.hand = i
  · subst hij
    rw [hg] at h
    cases h
    rw [if_pos rfl]
    show (P.fs.set P.hand _)[P.hand]? = _
    rw [List.getElem?_set_self hh]
  · rw [if_neg hij]
    show (P.fs.set P.hand _)[i]? = _
    rw [List.getElem?_set_ne hij, h]
/-- A frame through turns: its mark alone may go, and goes once the hand was there. -/
theorem Pl.turns_at : ∀ (k : Nat) (P : Pl) (i : Nat) (f : Fm), P.hand < P.fs.length → P.fs[i]? = some f → ∃ u, (P.turns k).fs[i]? = some { f with used := u } ∧ (f.used = false → u = false) ∧ (P.goes f = true → ∀ j, j < k → (P.hand + j) % P.fs.length = i → u = false)
  | 0, P, i, f, hh, h => ⟨f.used, h, fun h => h, fun _ j hj => by omega⟩
  | k + 1, P, i, f, hh, h => by
    have ht := Pl.turn_at hh h
    have hhh := Pl.turn_hand hh
    by_cases hij : P.hand = i
    · rw [if_pos hij] at ht
      obtain ⟨u, h1, h2, h3⟩ := Pl.turns_at k P.turn i _ hhh ht
      refine ⟨u, h1, fun hu => h2 (by simp [hu]), fun hg j hj _ => h2 (by simp [hg])⟩
    · rw [if_neg hij] at ht
      obtain ⟨u, h1, h2, h3⟩ := Pl.turns_at k P.turn i f hhh ht
      refine ⟨u, h1, h2, fun hg j hj hm => ?_⟩
      cases j with
      | zero => rw [Nat.add_zero, Nat.mod_eq_of_lt hh] at hm; exact absurd hm hij
      | succ j =>
        refine h3 ?_ j (by omega) ?_
        · show P.turn.goes f = true
          have := P.turn_room.2.1
          unfold Pl.goes Pl.may at hg ⊢
          rw [this]
          exact hg
        · rw [Pl.turn_len, Pl.turn_hand_eq hh, Nat.mod_add_mod, ← hm]
          congr 1
          omega
/-- Twice round a frame is found, if any may go. -/
theorem Pl.round_finds {P : Pl} (hh : P.hand < P.fs.length) {g : Nat} {f : Fm} (hg : P.fs[g]? = some f) (hgo : P.goes f = true) : ∃ i, (P.round (2 * P.fs.length)).1 = some i := by
  rcases Pl.round_is (2 * P.fs.length) P with ⟨h1, h2, h3⟩ | ⟨j, _, _, h3, _⟩
  · exfalso
    have hgl : g < P.fs.length := (List.getElem?_eq_some_iff.1 hg).1
    obtain ⟨d, hd, hdm⟩ : ∃ d, d < P.fs.length ∧ (P.hand + d) % P.fs.length = g := by
      by_cases hle : P.hand ≤ g
      · exact ⟨g - P.hand, by omega, by rw [show P.hand + (g - P.hand) = g by omega, Nat.mod_eq_of_lt hgl]⟩
      · exact ⟨g + P.fs.length - P.hand, by omega, by rw [show P.hand + (g + P.fs.length - P.hand) = g + P.fs.length by omega, Nat.add_mod_right, Nat.mod_eq_of_lt hgl]⟩
    have hs := h3 (d + P.fs.length) (by omega)
    obtain ⟨u, e1, _, e3⟩ := Pl.turns_at (d + P.fs.length) P g f hh hg
    have hu := e3 hgo d (by omega) hdm
    rw [hu] at e1
    have hhand : (P.turns (d + P.fs.length)).hand = g := by
      rw [Pl.turns_hand _ _ hh, ← Nat.add_assoc, Nat.add_mod_right, hdm]
    have hst := Pl.stop_eq (P := P.turns (d + P.fs.length)) (f := { f with used := false }) (by rw [hhand]; exact e1)
    rw [hst] at hs
    have hgo2 : (P.turns (d + P.fs.length)).goes { f with used := false } = true := by
      have := (P.turns_room (d + P.fs.length)).2.1
      unfold Pl.goes Pl.may at hgo ⊢
      rw [this]
      exact hgo
    rw [hgo2] at hs
    cases hs
  · exact ⟨_, h3⟩
/-- The frame that is found goes. -/
theorem Pl.round_goes {P : Pl} (hh : P.hand < P.fs.length) {k i : Nat} (h : (P.round k).1 = some i) : ∃ f, (P.round k).2.fs[i]? = some f ∧ P.goes f = true := by
  rcases Pl.round_is k P with ⟨h1, _⟩ | ⟨j, hj, hs, h3, h4⟩
  · rw [h1] at h; cases h
  · rw [h3] at h
    cases h
    have hhj : (P.turns j).hand < (P.turns j).fs.length := by
      rw [Pl.turns_hand _ _ hh, Pl.turns_len]
      exact Nat.mod_lt _ (by omega)
    obtain ⟨f, hf⟩ : ∃ f, (P.turns j).fs[(P.turns j).hand]? = some f := ⟨_, List.getElem?_eq_getElem hhj⟩
    rw [Pl.stop_eq hf] at hs
    have hgo : (P.turns j).goes f = true := by
      cases hg : (P.turns j).goes f with
      | true => rfl
      | false => rw [hg] at hs; cases hs
    rw [h4, Pl.turns_succ]
    have ht := Pl.turn_at hhj hf
    rw [if_pos rfl] at ht
    refine ⟨_, ht, ?_⟩
    have := (P.turns_room j).2.1
    unfold Pl.goes Pl.may at hgo ⊢
    rw [this] at hgo
    exact hgo
/-- Frames but for their marks. -/
theorem Pl.round_bare (k : Nat) (P : Pl) : (P.round k).2.fs.map Fm.bare = P.fs.map Fm.bare := by
  apply List.ext_getElem?
  intro i
  rw [List.getElem?_map, List.getElem?_map]
  cases hf : (P.round k).2.fs[i]? with
  | some f =>
    obtain ⟨u, hu⟩ := Pl.round_same k P i f hf
    rw [hu]
    rfl
  | none =>
    rw [List.getElem?_eq_none_iff, Pl.round_fs] at hf
    rw [List.getElem?_eq_none (by omega)]
/-- What a pool and its device are. -/
structure PoolWf (P : Pl) (D : Dev) (n : Nat) : Prop where
  ok : PoolOk P n
  good : GoodD D n
  dok : D.Ok
  lens : ∀ f ∈ P.fs, f.b.length = 64
  nd : (P.fs.map Fm.at_).Nodup
theorem bare_at {fs fs' : List Fm} (h : fs'.map Fm.bare = fs.map Fm.bare) : fs'.map Fm.at_ = fs.map Fm.at_ := by
  have := congrArg (List.map Fm.at_) h
  rw [List.map_map, List.map_map] at this
  exact this
theorem bare_mem {fs fs' : List Fm} (h : fs'.map Fm.bare = fs.map Fm.bare) {f : Fm} (hf : f ∈ fs') : ∃ g ∈ fs, g.bare = f.bare := by
  have : f.bare ∈ fs.map Fm.bare := by rw [← h]; exact List.mem_map_of_mem hf
  obtain ⟨g, h1, h2⟩ := List.mem_map.1 this
  exact ⟨g, h1, h2⟩
/-- The ways of hold. -/
inductive HoldCase (P : Pl) (D : Dev) (a : Nat) : Prop
  | hit (i : Nat) (f : Fm) (hx : P.idx (a : Int) = some i) (hi : P.fs[i]? = some f) (hfa : f.at_ = (a : Int)) (he : P.hold D a = (some i, { P with fs := P.fs.set i { f with used := true } }, D)) : HoldCase P D a
  | new (hx : P.idx (a : Int) = none) (hr : (P.fs.length : Int) < P.room) (he : P.hold D a = (some P.fs.length, { P with fs := P.fs ++ [newFm a (D.at a)], reads := P.reads + 1 }, D)) : HoldCase P D a
  | full (hx : P.idx (a : Int) = none) (hr : ¬ (P.fs.length : Int) < P.room) (ho : (P.round (2 * P.fs.length)).1 = none) (he : P.hold D a = (none, (P.round (2 * P.fs.length)).2, D)) : HoldCase P D a
  | old (i : Nat) (f : Fm) (Q : Pl) (D' : Dev) (hx : P.idx (a : Int) = none) (hr : ¬ (P.fs.length : Int) < P.room) (hQ : P.round (2 * P.fs.length) = (some i, Q)) (hf : Q.fs[i]? = some f) (hD' : D' = if f.dirty = true then D.write f.at_ f.b else D) (he : P.hold D a = (some i, { Q with fs := Q.fs.set i (newFm a (D'.at a)), reads := P.reads + 1 }, D')) : HoldCase P D a
theorem hold_case (P : Pl) (D : Dev) (a : Nat) : HoldCase P D a := by
  cases hx : P.idx (a : Int) with
  | some i =>
    obtain ⟨f, hf, hfa⟩ := idx_some hx
    refine .hit i f hx hf hfa ?_
    unfold Pl.hold
    rw [hx]
    simp only [getD_of hf]
  | none =>
    by_cases hr : (P.fs.length : Int) < P.room
    · refine .new hx hr ?_
      unfold Pl.hold
      rw [hx]
      simp only
      rw [if_pos hr]
    · cases hq : P.round (2 * P.fs.length) with
      | mk o Q =>
        cases o with
        | none =>
          refine .full hx hr (by rw [hq]) ?_
          unfold Pl.hold
          rw [hx]
          simp only
          rw [if_neg hr, hq]
        | some i =>
          have hil : i < Q.fs.length := by
            have h1 := Pl.round_idx P (k := 2 * P.fs.length) (i := i) (by rw [hq])
            rw [hq] at h1
            exact h1
          obtain ⟨f, hf⟩ : ∃ f, Q.fs[i]? = some f := ⟨_, List.getElem?_eq_getElem hil⟩
          refine .old i f Q _ hx hr hq hf rfl ?_
          unfold Pl.hold
          rw [hx]
          simp only
          rw [if_neg hr, hq]
          simp only [getD_of hf]
theorem Pl.round_ok {P : Pl} {n : Nat} (h : PoolOk P n) (k : Nat) : PoolOk (P.round k).2 n := by
  obtain ⟨r1, r2, r3⟩ := Pl.round_room k P
  refine ⟨by rw [r1]; exact h.room0, by rw [r1]; exact h.room1, by rw [r1, Pl.round_fs]; exact h.fit, ?_, fun f hf => ?_⟩
  · rw [Pl.round_fs]
    by_cases hl : P.hand < P.fs.length
    · exact .inr (Pl.round_hand k P hl)
    · left
      have h0 : P.hand = 0 := by rcases h.hand with h0 | h0 <;> omega
      have hnil : P.fs = [] := List.eq_nil_of_length_eq_zero (by omega)
      have ht : P.turn = P := by unfold Pl.turn; rw [hnil]; rfl
      have : ∀ j, P.turns j = P := by
        intro j
        induction j with
        | zero => rfl
        | succ j ih => rw [Pl.turns, ht, ih]
      rcases Pl.round_is k P with ⟨_, h2, _⟩ | ⟨j, _, _, _, h4⟩
      · rw [h2, this, h0]
      · rw [h4, this, h0]
  · obtain ⟨g, hg, he⟩ := bare_mem (Pl.round_bare k P) hf
    have := h.places g hg
    have e1 : f.at_ = g.at_ := by have := congrArg Fm.at_ he; exact this.symm
    rw [e1]
    exact this
theorem Pl.round_wf {P : Pl} {D : Dev} {n : Nat} (h : PoolWf P D n) (k : Nat) : PoolWf (P.round k).2 D n := by
  refine ⟨Pl.round_ok h.ok k, h.good, h.dok, fun f hf => ?_, by rw [bare_at (Pl.round_bare k P)]; exact h.nd⟩
  obtain ⟨g, hg, he⟩ := bare_mem (Pl.round_bare k P) hf
  have e1 : f.b = g.b := by have := congrArg Fm.b he; exact this.symm
  rw [e1]
  exact h.lens g hg
theorem nodup_set : ∀ (l : List Int) (i : Nat) (a : Int), l.Nodup → a ∉ l → (l.set i a).Nodup
  | [], i, a, h, _ => by simp
  | x :: l, 0, a, h, ha => by
    rw [List.nodup_cons] at h
    rw [List.set_cons_zero, List.nodup_cons]
    exact ⟨fun hm => ha (List.mem_cons_of_mem _ hm), h.2⟩
  | x :: l, i + 1, a, h, ha => by
    rw [List.nodup_cons] at h
    rw [List.set_cons_succ, List.nodup_cons]
    refine ⟨fun hm => ?_, nodup_set l i a h.2 (fun hm => ha (List.mem_cons_of_mem _ hm))⟩
    rcases List.mem_or_eq_of_mem_set hm with hm | hm
    · exact h.1 hm
    · exact ha (by rw [← hm]; exact List.mem_cons_self)
theorem getElem_of_mem_map {fs : List Fm} {a : Int} (h : a ∈ fs.map Fm.at_) : ∃ (i : Nat) (f : Fm), fs[i]? = some f ∧ f.at_ = a := by
  obtain ⟨f, hf, he⟩ := List.mem_map.1 h
  obtain ⟨i, hi⟩ := List.mem_iff_getElem?.1 hf
  exact ⟨i, f, hi, he⟩
theorem idx_none {P : Pl} {a : Int} (h : P.idx a = none) : a ∉ P.fs.map Fm.at_ := by
  intro hm
  obtain ⟨i, hi⟩ := idx_of_mem hm
  rw [h] at hi
  cases hi
/-- Frames with one anew. -/
theorem set_map_at {fs : List Fm} {i : Nat} {f f' : Fm} (h : fs[i]? = some f) (ha : f'.at_ = f.at_) : (fs.set i f').map Fm.at_ = fs.map Fm.at_ := by
  rw [List.map_set]
  apply List.ext_getElem?
  intro q
  by_cases hq : i = q
  · subst hq
    rw [List.getElem?_set_self (by rw [List.length_map]; exact (List.getElem?_eq_some_iff.1 h).1), List.getElem?_map, h, ha]
    rfl
  · rw [List.getElem?_set_ne hq]
theorem mem_set {fs : List Fm} {i : Nat} {f g : Fm} (h : g ∈ fs.set i f) : g = f ∨ g ∈ fs := (List.mem_or_eq_of_mem_set h).symm
/-- One frame anew, of the same place. -/
theorem PoolWf.set {P : Pl} {D : Dev} {n : Nat} (h : PoolWf P D n) {i : Nat} {f f' : Fm} (hi : P.fs[i]? = some f) (ha : f'.at_ = f.at_) (hl : f'.b.length = 64) : PoolWf { P with fs := P.fs.set i f' } D n := by
  refine ⟨⟨h.ok.room0, h.ok.room1, by simpa using h.ok.fit, by simpa using h.ok.hand, fun g hg => ?_⟩, h.good, h.dok, fun g hg => ?_, ?_⟩
  · rcases mem_set hg with rfl | hg
    · rw [ha]; exact h.ok.places f (List.mem_of_getElem? hi)
    · exact h.ok.places g hg
  · rcases mem_set hg with rfl | hg
    · exact hl
    · exact h.lens g hg
  · show ((P.fs.set i f').map Fm.at_).Nodup
    rw [set_map_at hi ha]
    exact h.nd
theorem PoolWf.write {P : Pl} {D : Dev} {n : Nat} (h : PoolWf P D n) {a : Int} (a0 : 0 ≤ a) (a1 : a < (n : Int)) {b : List Int} (hb : b.length = 64) : PoolWf P (D.write a b) n := by
  refine ⟨h.ok, (h.good.write a0 a1 (by omega)).2.1, ?_, h.lens, h.nd⟩
  obtain ⟨k, rfl⟩ : ∃ k : Nat, a = (k : Int) := ⟨a.toNat, by omega⟩
  obtain ⟨_, h2⟩ := Dev.write_ok h.good.gone (by rw [h.good.bud]; decide) (i := k) (by rw [h.good.laid]; omega) (xs := b) (by omega)
  rw [h2]
  exact Dev.put_ok (Dev.spend_ok h.dok) k (pad64 b) (pad64_len b (by omega))
/-- Held, all is as it should be. -/
theorem PoolWf.hold {P : Pl} {D : Dev} {n : Nat} (h : PoolWf P D n) {a : Nat} (a1 : a < n) : PoolWf (P.hold D a).2.1 (P.hold D a).2.2 n := by
  have hcase := hold_case P D a
  cases hcase with
  | hit i f hx hi hfa he =>
    rw [he]
    exact h.set hi rfl (h.lens f (List.mem_of_getElem? hi))
  | full hx hr ho he =>
    rw [he]
    exact Pl.round_wf h _
  | new hx hr he =>
    rw [he]
    refine ⟨⟨h.ok.room0, h.ok.room1, ?_, ?_, fun g hg => ?_⟩, h.good, h.dok, fun g hg => ?_, ?_⟩
    · show ((P.fs ++ [newFm a (D.at a)]).length : Int) ≤ P.room
      rw [List.length_append]
      simp only [List.length_cons, List.length_nil]
      omega
    · show P.hand = 0 ∨ P.hand < (P.fs ++ [newFm a (D.at a)]).length
      rw [List.length_append]
      rcases h.ok.hand with h0 | h0
      · exact .inl h0
      · right
        simp only [List.length_cons, List.length_nil]
        omega
    · rcases List.mem_append.1 hg with hg | hg
      · exact h.ok.places g hg
      · simp at hg
        subst hg
        exact ⟨Int.natCast_nonneg _, by show (a : Int) < _; omega⟩
    · rcases List.mem_append.1 hg with hg | hg
      · exact h.lens g hg
      · simp at hg
        subst hg
        exact Dev.at_len h.dok (by rw [h.good.laid]; exact a1)
    · show ((P.fs ++ [newFm a (D.at a)]).map Fm.at_).Nodup
      rw [List.map_append, List.nodup_append]
      refine ⟨h.nd, by simp, fun x hx' y hy => ?_⟩
      simp at hy
      subst hy
      intro e
      subst e
      exact idx_none hx hx'
  | old i f Q D' hx hr hQ hf hD' he =>
    rw [he]
    have hq := Pl.round_wf h (2 * P.fs.length)
    rw [hQ] at hq
    have hfm := List.mem_of_getElem? hf
    have hqd : PoolWf Q D' n := by
      rw [hD']
      split
      · exact hq.write (hq.ok.places f hfm).1 (hq.ok.places f hfm).2 (hq.lens f hfm)
      · exact hq
    have hqat : Q.fs.map Fm.at_ = P.fs.map Fm.at_ := by have := bare_at (Pl.round_bare (2 * P.fs.length) P); rw [hQ] at this; exact this
    refine ⟨⟨hq.ok.room0, hq.ok.room1, by simpa using hq.ok.fit, by simpa using hq.ok.hand, fun g hg => ?_⟩, hqd.good, hqd.dok, fun g hg => ?_, ?_⟩
    · rcases mem_set hg with rfl | hg
      · exact ⟨Int.natCast_nonneg _, by show (a : Int) < _; omega⟩
      · exact hq.ok.places g hg
    · rcases mem_set hg with rfl | hg
      · exact Dev.at_len hqd.dok (by rw [hqd.good.laid]; exact a1)
      · exact hq.lens g hg
    · show ((Q.fs.set i (newFm a (D'.at a))).map Fm.at_).Nodup
      rw [List.map_set]
      have hna : ((a : Int)) ∉ Q.fs.map Fm.at_ := by rw [hqat]; exact idx_none hx
      exact nodup_set _ _ _ hq.nd hna
end Go.Proofs.Ytjfdfjenodianaa
