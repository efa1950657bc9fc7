/-
  heronrylaw17.PoolWaits: plain laws, and Clean where nothing may be written. Conditions: none.
-/
import Derived.Test.YtjfdfjenodianaaP17d
import Derived.Test.YtjfdfjenodianaaActs17
set_option linter.unusedVariables false
set_option linter.unusedSimpArgs false
namespace Go.Proofs.Ytjfdfjenodianaa
open Go.RowKit
/-- Nothing is safe, what is dirty is late, and few are. -/
structure Waits (P : Pl) (m : Nat) : Prop where
  safe : P.safe = 0
  late : ∀ f ∈ P.fs, f.dirty = true → 1 ≤ f.lsn
  few : P.fs.countP (fun f => f.dirty) ≤ m
theorem countP_bare (fs : List Fm) : (fs.map Fm.bare).countP (fun f => f.dirty) = fs.countP (fun f => f.dirty) := by
  rw [List.countP_map]
  rfl
theorem Waits.bare {P Q : Pl} {m : Nat} (h : Waits P m) (hb : Q.fs.map Fm.bare = P.fs.map Fm.bare) (hs : Q.safe = P.safe) : Waits Q m := by
  refine ⟨hs.trans h.safe, fun f hf hd => ?_, ?_⟩
  · obtain ⟨g, hg, he⟩ := bare_mem hb hf
    have e1 : f.dirty = g.dirty := (congrArg Fm.dirty he).symm
    have e2 : f.lsn = g.lsn := (congrArg Fm.lsn he).symm
    rw [e2]; exact h.late g hg (by rw [← e1]; exact hd)
  · rw [← countP_bare, hb, countP_bare]; exact h.few
theorem Waits.clean {P : Pl} {m : Nat} (h : Waits P m) : P.listed (fun f => f.dirty && P.may f) = [] := by
  rw [List.eq_nil_iff_forall_not_mem]
  intro a ha
  obtain ⟨f, hf, ht, _⟩ := listed_mem.1 ha
  rw [Bool.and_eq_true] at ht
  have h1 := h.late f hf ht.1
  have h2 := ht.2
  unfold Pl.may at h2
  rw [h.safe, decide_eq_true_eq] at h2
  omega
theorem Waits.hold {P : Pl} {D : Dev} {n m : Nat} (h : Waits P m) (hw : PoolWf P D n) (a : Nat) : Waits (P.hold D a).2.1 m ∧ (P.hold D a).2.2 = D := by
  have hc := hold_case P D a
  cases hc with
  | hit i f hx hi hfa he =>
    rw [he]
    refine ⟨h.bare ?_ rfl, rfl⟩
    show (P.fs.set i { f with used := true }).map Fm.bare = P.fs.map Fm.bare
    apply List.ext_getElem?
    intro q
    rw [List.getElem?_map, List.getElem?_map]
    by_cases hq : i = q
    · subst hq
      rw [List.getElem?_set_self (List.getElem?_eq_some_iff.1 hi).1, hi]
      rfl
    · rw [List.getElem?_set_ne hq]
  | new hx hr he =>
    rw [he]
    refine ⟨⟨h.safe, fun f hf hd => ?_, ?_⟩, rfl⟩
    · rcases List.mem_append.1 hf with hf | hf
      · exact h.late f hf hd
      · rw [List.mem_singleton.1 hf] at hd; cases hd
    · show (P.fs ++ [newFm a (D.at a)]).countP _ ≤ m
      rw [List.countP_append]
      have h1 := h.few
      have h2 : [newFm a (D.at a)].countP (fun f => f.dirty) = 0 := rfl
      omega
  | full hx hr ho he =>
    rw [he]
    exact ⟨h.bare (Pl.round_bare _ P) (Pl.round_room _ P).2.1, rfl⟩
  | old i f Q D' hx hr hQ hf hD' he =>
    rw [he]
    have hl : 0 < P.fs.length := by have := hw.ok.room0; omega
    have hh : P.hand < P.fs.length := by rcases hw.ok.hand with h1 | h1 <;> omega
    have hbQ : Waits Q m := h.bare (by have := Pl.round_bare (2 * P.fs.length) P; rw [hQ] at this; exact this) (by have := (Pl.round_room (2 * P.fs.length) P).2.1; rw [hQ] at this; exact this)
    obtain ⟨f2, hf2, hg2⟩ := Pl.round_goes hh (k := 2 * P.fs.length) (i := i) (by rw [hQ])
    rw [hQ] at hf2
    have hf2' : Q.fs[i]? = some f2 := hf2
    rw [hf] at hf2'
    cases hf2'
    have hnd : f.dirty = false := by
      cases hd : f.dirty with
      | false => rfl
      | true =>
        unfold Pl.goes Pl.may at hg2
        rw [hd, h.safe] at hg2
        have h1 := hbQ.late f (List.mem_of_getElem? hf) hd
        simp at hg2
        omega
    rw [hnd] at hD'
    have hD2 : D' = D := hD'
    refine ⟨⟨hbQ.safe, fun g hg hd => ?_, ?_⟩, hD2⟩
    · rcases mem_set hg with rfl | hg
      · cases hd
      · exact hbQ.late g hg hd
    · show (Q.fs.set i (newFm a (D'.at a))).countP _ ≤ m
      have hil := (List.getElem?_eq_some_iff.1 hf).1
      rw [List.countP_set hil]
      have h1 := hbQ.few
      have h2 : (newFm a (D'.at a)).dirty = false := rfl
      simp only [h2]
      split <;> simp <;> omega
theorem Waits.put {P : Pl} {m : Nat} (h : Waits P m) {i : Nat} {f : Fm} (hf : P.fs[i]? = some f) (xs : List Int) (lsn : Int) (l1 : 1 ≤ lsn) : Waits { P with fs := P.fs.set i (putFm f xs lsn) } (m + 1) := by
  refine ⟨h.safe, fun g hg hd => ?_, ?_⟩
  · rcases mem_set hg with rfl | hg
    · show 1 ≤ (if f.dirty = true then max lsn f.lsn else lsn)
      split <;> omega
    · exact h.late g hg hd
  · show (P.fs.set i (putFm f xs lsn)).countP _ ≤ m + 1
    rw [List.countP_set (List.getElem?_eq_some_iff.1 hf).1]
    have h1 := h.few
    split <;> split <;> omega
theorem Waits.new (room : Int) : Waits ⟨[], room, 0, 0, 0⟩ 0 := ⟨rfl, fun f hf => by simp at hf, Nat.le_refl 0⟩
theorem Waits.dirty {P : Pl} {m : Nat} (h : Waits P m) : (P.listed fun f => f.dirty).length ≤ m := by
  unfold Pl.listed Pl.ats
  rw [List.length_mergeSort, List.length_map, ← List.countP_eq_length_filter]
  exact h.few
section
variable {w w' : World} {M : Nat → Prop} {pb db lb mb n N : Nat} {P : Pl} {D : Dev}
theorem PoolIn.clean0 (h : PoolIn M w pb db lb mb n N P D) (hl : P.listed (fun f => f.dirty && P.may f) = []) :
    Calls Try.prog 14 #[.pointer (some ⟨pb, 0, none⟩)] w fun e w' => e = .returned (.int .i64 0) ∧ PoolIn M w' pb db lb mb n N P D ∧ Fr (fun k => M k ∨ Dv db lb mb k) w w' := by
  obtain ⟨v, fbs, hp⟩ := h.ex
  refine (clean_c hp h.dev h.wf.good h.wf.ok h.apart).mono ?_
  intro e w' hc
  have h1 := hc.pool
  have h2 := hc.dev
  rw [hl] at h1 h2
  exact ⟨hc.he, ⟨⟨_, _, h1⟩, h2, h.apart, h.wf, h.r0, h.r1⟩, hc.fr⟩
end
end Go.Proofs.Ytjfdfjenodianaa
