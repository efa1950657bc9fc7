/-
  A pool and its device together: Clean, Held, Dirty. Conditions: none.
-/
import Derived.Test.YtjfdfjenodianaaP17b
import Derived.Test.YtjfdfjenodianaaL17b
set_option linter.unusedVariables false
set_option linter.unusedSimpArgs false
namespace Go.Proofs.Ytjfdfjenodianaa
open Go.RowKit
theorem listed_mem {P : Pl} {test : Fm → Bool} {a : Int} : a ∈ P.listed test ↔ ∃ f ∈ P.fs, test f = true ∧ f.at_ = a := by
  unfold Pl.listed Pl.ats
  rw [List.mem_mergeSort, List.mem_map]
  constructor
  · rintro ⟨f, hf, rfl⟩
    rw [List.mem_filter] at hf
    exact ⟨f, hf.1, hf.2, rfl⟩
  · rintro ⟨f, hf, ht, rfl⟩
    exact ⟨f, List.mem_filter.2 ⟨hf, ht⟩, rfl⟩
theorem listed_length (P : Pl) (test : Fm → Bool) : (P.listed test).length ≤ P.fs.length := by
  unfold Pl.listed Pl.ats
  rw [List.length_mergeSort, List.length_map]
  exact List.length_filter_le test P.fs
/-- Frames in the order of their places are listed in that order. -/
theorem listed_sorted {P : Pl} (test : Fm → Bool) (h : (P.fs.map Fm.at_).Pairwise (· ≤ ·)) : P.listed test = P.ats test := by
  unfold Pl.listed Pl.ats
  refine List.mergeSort_of_pairwise ?_
  have h1 : ((P.fs.filter test).map Fm.at_).Pairwise (· ≤ ·) := h.sublist (List.Sublist.map _ List.filter_sublist)
  exact h1.imp (fun h => by simpa using h)
section
variable {w w' : World} {M : Nat → Prop} {pb db lb mb n N : Nat} {P : Pl} {D : Dev}
/-- What Clean leaves, of a pool on a device. -/
structure CleanIn (w w' : World) (e : Ending) (M : Nat → Prop) (pb db lb mb n N : Nat) (l : List Int) (P P' : Pl) (D D' : Dev) : Prop where
  he : e = .returned (.int .i64 0)
  washed : Washed l P P' D D' n
  inn : PoolIn M w' pb db lb mb n N P' D'
  fr : Fr (fun k => M k ∨ Dv db lb mb k) w w'
theorem PoolIn.clean (h : PoolIn M w pb db lb mb n N P D) (s0 : 0 ≤ D.spent) (s1 : D.spent < 2 ^ 60) :
    Calls Try.prog 14 #[.pointer (some ⟨pb, 0, none⟩)] w fun e w' => ∃ P' D', CleanIn w w' e M pb db lb mb n N (P.listed fun f => f.dirty && P.may f) P P' D D' := by
  obtain ⟨v, fbs, hp⟩ := h.ex
  refine (clean_c hp h.dev h.wf.good h.wf.ok h.apart).mono ?_
  intro e w' hc
  have hl := listed_length P (fun f => f.dirty && P.may f)
  have h64 := h.wf.ok.room1
  have hfit := h.wf.ok.fit
  have hw := cleanF_is n (P.listed fun f => f.dirty && P.may f) P D h.wf (fun a ha => by
    obtain ⟨f, hf, _, rfl⟩ := listed_mem.1 ha
    exact List.mem_map_of_mem hf) s0 (by omega)
  refine ⟨_, _, hc.he, hw, ⟨⟨_, _, hc.pool⟩, hc.dev, h.apart, hw.wf, ?_, ?_⟩, hc.fr⟩
  · rw [hw.pool]; exact h.r0
  · rw [hw.pool]; exact h.r1
theorem PoolIn.len64 (h : PoolIn M w pb db lb mb n N P D) : P.fs.length ≤ 64 := by
  have h64 := h.wf.ok.room1
  have hfit := h.wf.ok.fit
  omega
theorem PoolIn.held (h : PoolIn M w pb db lb mb n N P D) : Calls Try.prog 19 #[.pointer (some ⟨pb, 0, none⟩)] w fun e w' => Listed w w' e (P.listed fun _ => true) := by
  obtain ⟨v, fbs, hp⟩ := h.ex
  exact held_c hp h.len64
theorem PoolIn.dirty (h : PoolIn M w pb db lb mb n N P D) : Calls Try.prog 16 #[.pointer (some ⟨pb, 0, none⟩)] w fun e w' => Listed w w' e (P.listed fun f => f.dirty) := by
  obtain ⟨v, fbs, hp⟩ := h.ex
  exact dirty_c hp h.len64
end
end Go.Proofs.Ytjfdfjenodianaa
