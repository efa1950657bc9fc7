/-
  A pool and its device together: Pin, Unpin, Reads. Conditions: none.
-/
import Derived.Test.YtjfdfjenodianaaL17c
set_option linter.unusedVariables false
set_option linter.unusedSimpArgs false
namespace Go.Proofs.Ytjfdfjenodianaa
open Go.RowKit
section
variable {w w' : World} {M : Nat → Prop} {pb db lb mb n N : Nat} {P : Pl} {D : Dev}
/-- What Pin leaves, of a pool on a device. -/
inductive PinIn (w w' : World) (e : Ending) (M : Nat → Prop) (pb db lb mb n N : Nat) (H : Option Nat × Pl × Dev) : Prop
  | no (M' : Nat → Prop) (hs : ∀ k, M' k → M k ∨ w.heap.size ≤ k) (hin : PoolIn M' w' pb db lb mb n (N + 1) H.2.1 H.2.2) (ho : H.1 = none) (he : e = .returned (.int .i64 5)) (hf : Fr (fun k => M k ∨ Dv db lb mb k) w w') : PinIn w w' e M pb db lb mb n N H
  | yes (M' : Nat → Prop) (hs : ∀ k, M' k → M k ∨ w.heap.size ≤ k) (i : Nat) (f : Fm) (ho : H.1 = some i) (hi : H.2.1.fs[i]? = some f) (hin : PoolIn M' w' pb db lb mb n (N + 1) { H.2.1 with fs := H.2.1.fs.set i { f with pins := f.pins + 1 } } H.2.2) (he : e = .returned (.int .i64 0)) (hf : Fr (fun k => M k ∨ Dv db lb mb k) w w') : PinIn w w' e M pb db lb mb n N H
theorem PoolIn.pin (h : PoolIn M w pb db lb mb n N P D) (hN : N ≤ 1000000) (a : Nat) (a1 : a < n) (hpins : ∀ (i : Nat) (f : Fm), (P.hold D a).2.1.fs[i]? = some f → 0 ≤ f.pins ∧ f.pins ≤ 1000000) :
    Calls Try.prog 22 #[.pointer (some ⟨pb, 0, none⟩), .int .i64 (a : Int)] w fun e w' => PinIn w w' e M pb db lb mb n N (P.hold D a) := by
  obtain ⟨v, fbs, hp⟩ := h.ex
  have hr0 := h.r0
  have hr1 := h.r1
  have hrd := hold_reads P D a
  refine (pin_c hp h.dev h.wf.good h.wf.ok h.apart a a1 hr0 (by omega) hpins).mono ?_
  intro e w' hg
  cases hg with
  | no M' v' fbs' ht ho he => exact .no M' ht.sub (ht.inn h (h.wf.hold a1) (by omega) (by omega)) ho he ht.fr
  | yes M' v' fbs' i f ho hf ht he =>
    refine .yes M' ht.sub i f ho hf (ht.inn h ((h.wf.hold a1).set hf rfl ?_) ?_ ?_) he ht.fr
    · exact (h.wf.hold a1).lens f (List.mem_of_getElem? hf)
    · show 0 ≤ (P.hold D a).2.1.reads
      omega
    · show (P.hold D a).2.1.reads ≤ _
      omega
/-- What Unpin leaves. -/
inductive UnpinIn (w w' : World) (e : Ending) (M : Nat → Prop) (pb db lb mb n N : Nat) (P : Pl) (D : Dev) (a : Int) : Prop
  | no (h : ∀ i f, P.idx a = some i → P.fs[i]? = some f → f.pins = 0) (he : e = .returned (.int .i64 7)) (hin : PoolIn M w' pb db lb mb n N P D) (hf : Fr F0 w w') : UnpinIn w w' e M pb db lb mb n N P D a
  | yes (i : Nat) (f : Fm) (hi : P.idx a = some i) (hf : P.fs[i]? = some f) (hp : f.pins ≠ 0) (he : e = .returned (.int .i64 0)) (hin : PoolIn M w' pb db lb mb n N { P with fs := P.fs.set i { f with pins := f.pins - 1 } } D) (hfr : Fr M w w') : UnpinIn w w' e M pb db lb mb n N P D a
theorem PoolIn.unpin (h : PoolIn M w pb db lb mb n N P D) (a : Int) (hpins : ∀ (i : Nat) (f : Fm), P.fs[i]? = some f → 0 ≤ f.pins ∧ f.pins ≤ 1000000) :
    Calls Try.prog 23 #[.pointer (some ⟨pb, 0, none⟩), .int .i64 a] w fun e w' => UnpinIn w w' e M pb db lb mb n N P D a := by
  obtain ⟨v, fbs, hp⟩ := h.ex
  refine (unpin_c hp a h.len64 hpins).mono ?_
  intro e w' hg
  cases hg with
  | no h1 he hf => exact .no h1 he (h.keep0 hf) hf
  | yes i f hi hf hp he ht hfr =>
    have hd := h.apart
    exact .yes i f hi hf hp he ⟨⟨_, _, ht⟩, h.dev.keep hfr (hd _ (.inl rfl)) (hd _ (.inr (.inl rfl))) (hd _ (.inr (.inr rfl))), h.apart, h.wf.set hf rfl (h.wf.lens f (List.mem_of_getElem? hf)), h.r0, h.r1⟩ hfr
theorem PoolIn.reads (h : PoolIn M w pb db lb mb n N P D) : Calls Try.prog 20 #[.pointer (some ⟨pb, 0, none⟩)] w fun e w' => e = .returned (.int .i64 P.reads) ∧ w = w' := by
  obtain ⟨v, fbs, hp⟩ := h.ex
  exact preads_c hp
end
end Go.Proofs.Ytjfdfjenodianaa
