/-
  A pool and its device together; heronrylaw17: awake. Conditions: none.
-/
import Derived.Test.YtjfdfjenodianaaP17
set_option linter.unusedVariables false
set_option linter.unusedSimpArgs false
namespace Go.Proofs.Ytjfdfjenodianaa
open Go.RowKit
/-- A pool on a device, its blocks M; so many reads at most. -/
structure PoolIn (M : Nat → Prop) (w : World) (pb db lb mb n N : Nat) (P : Pl) (D : Dev) : Prop where
  ex : ∃ v fbs, PoolAt w pb db M P v fbs
  dev : DevAt Try.prog 3 w db lb mb D
  apart : ∀ k, Dv db lb mb k → ¬ M k
  wf : PoolWf P D n
  r0 : 0 ≤ P.reads
  r1 : P.reads ≤ (N : Int)
theorem DevAt.dv_lt {w : World} {db lb mb : Nat} {D : Dev} (h : DevAt Try.prog 3 w db lb mb D) (k : Nat) (hk : Dv db lb mb k) : k < w.heap.size := by
  obtain ⟨h2, h3, h4⟩ := h.lt
  rcases hk with h6 | h6 | h6 <;> omega
section
variable {w w' : World} {M : Nat → Prop} {pb db lb mb n N : Nat} {P : Pl} {D : Dev}
theorem PoolIn.keep {S : Nat → Prop} (h : PoolIn M w pb db lb mb n N P D) (hf : Fr S w w') (hS : ∀ k, S k → ¬ M k ∧ ¬ Dv db lb mb k) : PoolIn M w' pb db lb mb n N P D := by
  obtain ⟨v, fbs, hp⟩ := h.ex
  exact ⟨⟨v, fbs, hp.keep hf (fun k hk => (hS k hk).1)⟩, h.dev.keep hf (fun hk => (hS _ hk).2 (.inl rfl)) (fun hk => (hS _ hk).2 (.inr (.inl rfl))) (fun hk => (hS _ hk).2 (.inr (.inr rfl))), h.apart, h.wf, h.r0, h.r1⟩
theorem PoolIn.keep0 (h : PoolIn M w pb db lb mb n N P D) (hf : Fr F0 w w') : PoolIn M w' pb db lb mb n N P D := h.keep hf (fun _ h => h.elim)
theorem PoolIn.lt (h : PoolIn M w pb db lb mb n N P D) (k : Nat) (hk : M k ∨ Dv db lb mb k) : k < w.heap.size := by
  obtain ⟨v, fbs, hp⟩ := h.ex
  rcases hk with hk | hk
  · exact hp.mlt k hk
  · exact h.dev.dv_lt k hk
theorem hold_reads (P : Pl) (D : Dev) (a : Nat) : P.reads ≤ (P.hold D a).2.1.reads ∧ (P.hold D a).2.1.reads ≤ P.reads + 1 := by
  have hc := hold_case P D a
  cases hc with
  | hit i f hx hi hfa he => rw [he]; exact ⟨Int.le_refl _, by show P.reads ≤ P.reads + 1; omega⟩
  | new hx hr he => rw [he]; exact ⟨by show P.reads ≤ P.reads + 1; omega, Int.le_refl _⟩
  | full hx hr ho he =>
    rw [he]
    have := (Pl.round_room (2 * P.fs.length) P).2.2
    exact ⟨by show P.reads ≤ (P.round _).2.reads; omega, by show (P.round _).2.reads ≤ _; omega⟩
  | old i f Q D' hx hr hQ hf hD' he => rw [he]; exact ⟨by show P.reads ≤ P.reads + 1; omega, Int.le_refl _⟩
/-- An operation on a pool leaves a pool. -/
theorem PoolTo.inn {M' : Nat → Prop} {P' : Pl} {D' : Dev} {v' : Value} {fbs' : List Nat} (h : PoolIn M w pb db lb mb n N P D) (ht : PoolTo w w' M M' pb db lb mb P' D' v' fbs') (hwf : PoolWf P' D' n) (r0 : 0 ≤ P'.reads) (r1 : P'.reads ≤ ((N + 1 : Nat) : Int)) : PoolIn M' w' pb db lb mb n (N + 1) P' D' :=
  ⟨⟨v', fbs', ht.pool⟩, ht.dev, fun k hk hm => by
    rcases ht.sub k hm with h5 | h5
    · exact h.apart k hk h5
    · have := h.dev.dv_lt k hk; omega, hwf, r0, r1⟩
/-- What Get leaves, of a pool on a device. -/
inductive GetIn (w w' : World) (e : Ending) (M : Nat → Prop) (pb db lb mb n N : Nat) (H : Option Nat × Pl × Dev) : Prop
  | no (M' : Nat → Prop) (hs : ∀ k, M' k → M k ∨ w.heap.size ≤ k) (hin : PoolIn M' w' pb db lb mb n (N + 1) H.2.1 H.2.2) (ho : H.1 = none) (he : e = .returned (.tuple #[.slice none 0 0, .int .i64 5])) (hf : Fr (fun k => M k ∨ Dv db lb mb k) w w') : GetIn w w' e M pb db lb mb n N H
  | yes (M' : Nat → Prop) (hs : ∀ k, M' k → M k ∨ w.heap.size ≤ k) (hin : PoolIn M' w' pb db lb mb n (N + 1) H.2.1 H.2.2) (i : Nat) (f : Fm) (A : Option Addr) (c : Nat) (ho : H.1 = some i) (hi : H.2.1.fs[i]? = some f) (he : e = .returned (.tuple #[.slice A 64 c, .int .i64 0])) (hb : Byt w' A c f.b) (hl : f.b.length = 64) (hA : ∀ ad, A = some ad → w.heap.size ≤ ad.block ∧ ¬ M' ad.block) (hf : Fr (fun k => M k ∨ Dv db lb mb k) w w') : GetIn w w' e M pb db lb mb n N H
theorem PoolIn.get (h : PoolIn M w pb db lb mb n N P D) (hN : N ≤ 1000000) (a : Nat) (a1 : a < n) : Calls Try.prog 15 #[.pointer (some ⟨pb, 0, none⟩), .int .i64 (a : Int)] w fun e w' => GetIn w w' e M pb db lb mb n N (P.hold D a) := by
  obtain ⟨v, fbs, hp⟩ := h.ex
  have hr0 := h.r0
  have hr1 := h.r1
  have hrd := hold_reads P D a
  refine (pget_c hp h.dev h.wf.good h.wf.ok h.apart a a1 hr0 (by omega)).mono ?_
  intro e w' hg
  cases hg with
  | no M' v' fbs' ht ho he => exact .no M' ht.sub (ht.inn h (h.wf.hold a1) (by omega) (by omega)) ho he ht.fr
  | yes M' v' fbs' ht i f A c ho hf he hb hl hA => exact .yes M' ht.sub (ht.inn h (h.wf.hold a1) (by omega) (by omega)) i f A c ho hf he hb hl hA ht.fr
/-- What Put leaves. -/
inductive PutIn (w w' : World) (e : Ending) (M : Nat → Prop) (pb db lb mb n N : Nat) (H : Option Nat × Pl × Dev) (xs : List Int) (lsn : Int) : Prop
  | no (M' : Nat → Prop) (hs : ∀ k, M' k → M k ∨ w.heap.size ≤ k) (hin : PoolIn M' w' pb db lb mb n (N + 1) H.2.1 H.2.2) (ho : H.1 = none) (he : e = .returned (.int .i64 5)) (hf : Fr (fun k => M k ∨ Dv db lb mb k) w w') : PutIn w w' e M pb db lb mb n N H xs lsn
  | yes (M' : Nat → Prop) (hs : ∀ k, M' k → M k ∨ w.heap.size ≤ k) (i : Nat) (f : Fm) (ho : H.1 = some i) (hi : H.2.1.fs[i]? = some f) (hin : PoolIn M' w' pb db lb mb n (N + 1) { H.2.1 with fs := H.2.1.fs.set i (putFm f xs lsn) } H.2.2) (he : e = .returned (.int .i64 0)) (hf : Fr (fun k => M k ∨ Dv db lb mb k) w w') : PutIn w w' e M pb db lb mb n N H xs lsn
theorem PoolIn.put (h : PoolIn M w pb db lb mb n N P D) (hN : N ≤ 1000000) (a : Nat) (a1 : a < n) (A : Option Addr) (nx cx : Nat) (xs : List Int) (hA : BytesAt w A nx xs) (hnx : nx ≤ 64) (hAM : ∀ ad, A = some ad → 0 < nx → ¬ M ad.block ∧ ¬ Dv db lb mb ad.block) (lsn : Int) (l0 : 0 ≤ lsn) :
    Calls Try.prog 12 #[.pointer (some ⟨pb, 0, none⟩), .int .i64 (a : Int), .slice A nx cx, .int .i64 lsn] w fun e w' => PutIn w w' e M pb db lb mb n N (P.hold D a) xs lsn := by
  obtain ⟨v, fbs, hp⟩ := h.ex
  have hr0 := h.r0
  have hr1 := h.r1
  have hrd := hold_reads P D a
  refine (pput_c hp h.dev h.wf.good h.wf.ok h.apart a a1 hr0 (by omega) A nx cx xs hA hnx (fun ad e hp => ⟨by subst e; exact hA.lt hp, hAM ad e hp⟩) lsn l0).mono ?_
  intro e w' hg
  cases hg with
  | no M' v' fbs' ht ho he => exact .no M' ht.sub (ht.inn h (h.wf.hold a1) (by omega) (by omega)) ho he ht.fr
  | yes M' v' fbs' i f ho hf ht he =>
    refine .yes M' ht.sub i f ho hf (ht.inn h ((h.wf.hold a1).set hf rfl ?_) ?_ ?_) he ht.fr
    · show (pad64 xs).length = 64
      exact pad64_len xs (by rw [hA.len]; exact hnx)
    · show 0 ≤ (P.hold D a).2.1.reads
      omega
    · show (P.hold D a).2.1.reads ≤ _
      omega
/-- Safe. -/
theorem PoolIn.safe (h : PoolIn M w pb db lb mb n N P D) (l : Int) : Calls Try.prog 13 #[.pointer (some ⟨pb, 0, none⟩), .int .i64 l] w fun e w' => e = .returned (.tuple #[]) ∧ PoolIn M w' pb db lb mb n N { P with safe := max P.safe l } D ∧ Fr (fun k => M k ∨ Dv db lb mb k) w w' := by
  obtain ⟨v, fbs, hp⟩ := h.ex
  refine (psafe_c hp l).mono ?_
  rintro e w' ⟨rfl, h1, hf⟩
  have hd : ∀ k, Dv db lb mb k → k ≠ pb := fun k hk e => h.apart k hk (e ▸ hp.mp)
  exact ⟨rfl, ⟨⟨v, fbs, h1⟩, h.dev.keep hf (fun e => hd _ (.inl rfl) e) (fun e => hd _ (.inr (.inl rfl)) e) (fun e => hd _ (.inr (.inr rfl)) e), h.apart, ⟨⟨h.wf.ok.room0, h.wf.ok.room1, h.wf.ok.fit, h.wf.ok.hand, h.wf.ok.places⟩, h.wf.good, h.wf.dok, h.wf.lens, h.wf.nd⟩, h.r0, h.r1⟩, hf.mono (fun k hk => .inl (hk ▸ hp.mp))⟩
/-- A new pool on a device. -/
theorem PoolIn.new {db lb mb : Nat} {D : Dev} (hD : DevAt Try.prog 3 w db lb mb D) (hg : GoodD D n) (k : Int) (k0 : 1 ≤ k) (k1 : k ≤ 64) :
    Calls Try.prog 11 #[.pointer (some ⟨db, 0, none⟩), .int .i64 k] w fun e w' => ∃ pb, e = .returned (.tuple #[.pointer (some ⟨pb, 0, none⟩), .int .i64 0]) ∧ w.heap.size ≤ pb ∧ PoolIn (fun x => x = pb) w' pb db lb mb n 0 ⟨[], k, 0, 0, 0⟩ D ∧ Fr F0 w w' := by
  refine (pnew_c hD hg.gone k k0 k1).mono ?_
  rintro e w' ⟨pb, rfl, hpb, hp, hf⟩
  exact ⟨pb, rfl, hpb, ⟨⟨_, _, hp⟩, hD.keep0 hf, fun q hq e => by have := hD.dv_lt q hq; omega, ⟨⟨k0, k1, by show (0 : Int) ≤ k; omega, .inl rfl, fun f hf => by simp at hf⟩, hg, hD.ok, fun f hf => by simp at hf, by simp⟩, Int.le_refl 0, Int.le_refl 0⟩, hf⟩
end
end Go.Proofs.Ytjfdfjenodianaa
