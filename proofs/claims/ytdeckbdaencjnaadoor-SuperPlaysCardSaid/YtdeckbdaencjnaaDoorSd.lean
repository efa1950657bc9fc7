/-
  super's Decode. Conditions: none.
-/
import Derived.Test.YtdeckbdaencjnaaDoorSe
import Derived.Test.YtdeckbdaencjnaaDoorShelf2
import Derived.Lib.SlBytesRowKit
set_option linter.unusedVariables false
set_option linter.unusedSimpArgs false
namespace Go.Proofs.YtdeckbdaencjnaaDoor
open Go.RowKit

theorem bytesOf_zero {xs : List Int} (h : Bys xs) : (∀ b ∈ Lib.bytesOf xs, ([0] : List UInt8).contains b = true) ↔ xs = List.replicate xs.length 0 := by
  unfold Lib.bytesOf
  constructor
  · intro hb
    refine List.eq_replicate_iff.2 ⟨rfl, fun x hx => ?_⟩
    have := hb (UInt8.ofNat x.toNat) (List.mem_map.2 ⟨x, hx, rfl⟩)
    simp at this
    have h2 := congrArg UInt8.toNat this
    have h3 := h x hx
    simp at h2
    omega
  · intro he b hb
    obtain ⟨x, hx, rfl⟩ := List.mem_map.1 hb
    rw [he] at hx
    rw [(List.mem_replicate.1 hx).2]
    decide
theorem dropWhile_nil {α : Type} (p : α → Bool) (l : List α) : l.dropWhile p = [] ↔ ∀ x ∈ l, p x = true := by
  induction l with
  | nil => simp
  | cons a l ih =>
    by_cases h : p a = true
    · rw [List.dropWhile_cons_of_pos h, ih]
      simp [h]
    · rw [List.dropWhile_cons_of_neg h]
      simp [h]
theorem trimS_nil {l : List UInt8} (p : List UInt8) : Lib.trimS l p = [] ↔ ∀ b ∈ l, p.contains b = true := by
  unfold Lib.trimS Lib.trimLeftS Lib.trimRightS
  rw [dropWhile_nil]
  constructor
  · intro h
    by_cases he : l.reverse.dropWhile (p.contains ·) = []
    · rw [dropWhile_nil] at he
      intro b hb
      exact he b (List.mem_reverse.2 hb)
    · exfalso
      have hne := List.head_dropWhile_not (p.contains ·) he
      have hm : (l.reverse.dropWhile (p.contains ·)).head he ∈ (l.reverse.dropWhile (p.contains ·)).reverse := by
        rw [List.mem_reverse]; exact List.head_mem he
      have := h _ hm
      rw [this] at hne
      cases hne
  · intro h b hb
    have hb2 : b ∈ l.reverse.dropWhile (p.contains ·) := List.mem_reverse.1 hb
    have := (List.dropWhile_suffix (p.contains ·) (l := l.reverse)).subset hb2
    exact h b (List.mem_reverse.1 this)
theorem bytesOf_take (xs : List Int) (n : Nat) : Lib.bytesOf (xs.take n) = (Lib.bytesOf xs).take n := by simp [Lib.bytesOf, List.map_take]
theorem hasPrefix_mark {xs : List Int} (h : Bys xs) (hl : 8 ≤ xs.length) : Lib.hasPrefix (Lib.bytesOf xs) (Lib.bytesOf mark8) = decide (xs.take 8 = mark8) := by
  rw [Bool.eq_iff_iff]
  simp only [Lib.hasPrefix, List.isPrefixOf_iff_prefix, decide_eq_true_eq]
  have hm : Bys mark8 := by
    intro x hx
    simp only [mark8, List.mem_cons, List.not_mem_nil, or_false] at hx
    omega
  constructor
  · intro hp
    have := List.prefix_iff_eq_take.1 hp
    have h8 : (Lib.bytesOf mark8).length = 8 := rfl
    rw [h8, ← bytesOf_take] at this
    exact (bytesOf_inj hm (h.take 8) this).symm
  · intro he
    rw [← he, bytesOf_take]
    exact List.take_prefix _ _

section
variable {w : World}
theorem cut_c (A B : Option Addr) (n c d : Nat) (xs : List Int) (hA : Byt w A c xs) (hn : xs.length = n) (hb : Bys xs) (hl : 8 ≤ n) (hB : BytesAt w B 8 mark8) :
    Calls Tryd.prog 59 #[.slice A n c, .slice B 8 d] w fun e w' => ∃ A' c' R, e = .returned (.tuple #[.slice A' R.length c', .bool (decide (xs.take 8 = mark8))]) ∧ Hid (R = if xs.take 8 = mark8 then xs.drop 8 else xs) ∧ Byt w A' c' R ∧ w = w' := by
  subst hn
  refine (Tryd.bytes_CutPrefix_all A B xs.length c 8 d xs mark8 w rfl rfl hA.cap hA.at_.bin hB.bin).mono ?_
  rintro e w' ⟨rfl, rfl⟩
  rw [trimPrefixV_eq rfl hA.at_.bin, hasPrefix_mark hb hl]
  by_cases h : xs.take 8 = mark8
  · simp only [h, decide_true, if_true]
    have h8 : mark8.length = 8 := rfl
    refine ⟨if c = 8 then A else A.map (·.add 8), c - 8, xs.drop 8, ?_, Lib.hid rfl, hA.drop 8 hl, trivial⟩
    rw [h8]
    unfold Lib.fromV
    simp
  · simp only [h, decide_false, Bool.false_eq_true, if_false]
    exact ⟨A, c, xs, rfl, Lib.hid rfl, hA, trivial⟩
theorem trim0_c (A : Option Addr) (n c : Nat) (xs : List Int) (hA : Byt w A c xs) (hn : xs.length = n) (hb : Bys xs) (hl : 0 < n) :
    Calls Tryd.prog 62 #[.slice A n c, .string ⟨#[0]⟩] w fun e w' => ∃ A' m c', e = .returned (.slice A' m c') ∧ (m = 0 ↔ xs = List.replicate n 0) ∧ Fr F0 w w' := by
  subst hn
  have h8 : Lib.BytesAt w A xs.length (Lib.bytesOf xs) := Lib.BytesIn.at8 hA.at_.bin rfl (fun x hx => by have := hb x hx; omega)
  refine (Tryd.bytes_Trim_one A xs.length c (Lib.bytesOf xs) 0 w (by simp [Lib.bytesOf]) hA.cap hA.big h8 hl (by decide)).mono ?_
  rintro e w' ⟨rfl, q, rfl⟩
  have hle : (Lib.trimS (Lib.bytesOf xs) [0]).length ≤ (Lib.trimRightS (Lib.bytesOf xs) [0]).length := by
    unfold Lib.trimS Lib.trimLeftS
    exact (List.dropWhile_suffix _).length_le
  have hz : Lib.trimS (Lib.bytesOf xs) [0] = [] ↔ xs = List.replicate xs.length 0 := by rw [trimS_nil, bytesOf_zero hb]
  unfold Lib.leftV Lib.fromV
  split
  · rename_i he
    refine ⟨none, 0, 0, rfl, ⟨fun _ => hz.1 (List.eq_nil_of_length_eq_zero (by omega)), fun _ => rfl⟩, (Fr.refl _ _).drewN _⟩
  · rename_i he
    refine ⟨_, _, _, rfl, ?_, (Fr.refl _ _).drewN _⟩
    rw [← hz]
    constructor
    · intro h0
      exact List.eq_nil_of_length_eq_zero (by omega)
    · intro h0
      rw [h0] at he ⊢
      simp at he ⊢
end
end Go.Proofs.YtdeckbdaencjnaaDoor
