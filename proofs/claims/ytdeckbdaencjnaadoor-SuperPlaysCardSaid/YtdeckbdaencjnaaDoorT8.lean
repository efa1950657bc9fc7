/-
  Plain laws on what a device tells of itself. Conditions: none.
-/
import Derived.Test.YtdeckbdaencjnaaDoorS8
set_option linter.unusedVariables false
set_option linter.unusedSimpArgs false
namespace Go.Proofs.YtdeckbdaencjnaaDoor
open Go.RowKit

theorem set_split (l : List Int) (i : Nat) (y : Int) (hi : i < l.length) : l.set i y = l.take i ++ y :: l.drop (i + 1) := by
  rw [List.set_eq_take_append_cons_drop, if_pos hi]
theorem get_split (l : List Int) (i : Nat) (hi : i < l.length) : l = l.take i ++ l[i] :: l.drop (i + 1) := by
  rw [List.getElem_cons_drop, List.take_append_drop]
/-- One byte turned, a sealed sector is sealed no more. -/
theorem flip_unsealed {b : List Int} (hb : Bys b) (hl : b.length = 64) (hs : sealed b = true) {i : Nat} (hi : i < 64) {y : Int} (hy : 0 ≤ y ∧ y ≤ 255) (hne : y ≠ b[i]) : sealed (b.set i y) = false := by
  cases h : sealed (b.set i y) with
  | false => rfl
  | true =>
    exfalso
    simp only [sealed, Bool.and_eq_true, decide_eq_true_eq, List.length_set, hl, Nat.reduceSub] at hs h
    obtain ⟨_, hs⟩ := hs
    obtain ⟨_, h⟩ := h
    have d1 : b.drop 60 = le 4 (sumOf (b.take 60)) := by
      have := congrArg (List.drop 60) hs
      rw [sealL, List.drop_append_of_le_length (by simp; omega)] at this
      rw [← this]; simp [hl]
    have d2 : (b.set i y).drop 60 = le 4 (sumOf ((b.set i y).take 60)) := by
      have := congrArg (List.drop 60) h
      rw [sealL, List.drop_append_of_le_length (by simp; omega)] at this
      rw [← this]; simp [hl]
    by_cases h6 : i < 60
    · have t1 : (b.set i y).take 60 = (b.take 60).set i y := by rw [List.take_set]
      have t2 : (b.set i y).drop 60 = b.drop 60 := by rw [List.drop_set, if_pos h6]
      rw [t1, t2, d1] at d2
      have s1 := sumOf_bd (b.take 60)
      have s2 := sumOf_bd ((b.take 60).set i y)
      have e := congrArg unle d2
      rw [unle_le_of s1.1 (by have : (256 : Int) ^ 4 = 4294967296 := by decide
                              omega), unle_le_of s2.1 (by have : (256 : Int) ^ 4 = 4294967296 := by decide
                                                          omega)] at e
      have hi' : i < (b.take 60).length := by simp; omega
      rw [set_split _ _ _ hi'] at e
      have e1 : sumOf (b.take 60) = sumOf ((b.take 60).take i ++ (b.take 60)[i] :: (b.take 60).drop (i + 1)) := congrArg sumOf (get_split _ _ hi')
      rw [e1] at e
      have hm : Bys ((b.take 60).drop (i + 1)) := (hb.take 60).drop _
      have hc : 0 ≤ (b.take 60)[i] ∧ (b.take 60)[i] ≤ 255 := hb.take 60 _ (List.getElem_mem _)
      have := sumOf_one hm hc hy e
      apply hne
      rw [← this]; simp
    · have t1 : (b.set i y).take 60 = b.take 60 := by rw [List.take_set_of_le (by omega)]
      rw [t1, ← d1, List.drop_set, if_neg h6] at d2
      have hi' : i - 60 < (b.drop 60).length := by simp; omega
      have e := congrArg (fun l => l[i - 60]?) d2
      simp only [List.getElem?_set_self hi', List.getElem?_drop] at e
      rw [show 60 + (i - 60) = i by omega, List.getElem?_eq_getElem (by omega)] at e
      exact hne (Option.some.inj e)
/-- A bit turned. -/
theorem xor_bit_ne (x j : Nat) : x ^^^ 2 ^ j ≠ x := by
  intro h
  have := congrArg (fun n => n.testBit j) h
  simp [Nat.testBit_xor, Nat.testBit_two_pow_self] at this

/-- A sector of nothing tells nothing. -/
theorem zsec_dec : decE zsec ≠ 0 := by decide +kernel
/-- Sectors, the first two of which tell s: the one of its turn has it, the other one nothing, or something elder. -/
structure Two (l : List (List Int)) (s : Sup) : Prop where
  sane : s.Sane
  len : 2 ≤ l.length
  bys : ∀ x ∈ l, Bys x
  has : l.getD (s.version % 2).toNat [] = s.enc
  elder : decE (l.getD ((s.version + 1) % 2).toNat []) ≠ 0 ∨ (decF (l.getD ((s.version + 1) % 2).toNat [])).version < s.version
theorem Sup.enc_bys (s : Sup) : Bys s.enc := by
  have h8 : Bys mark8 := by
    intro x hx
    simp only [mark8, List.mem_cons, List.not_mem_nil, or_false] at hx
    omega
  unfold Sup.enc sealL Sup.body Sup.nums
  refine Bys.app (h8.app (Bys.app ?_ (Bys.zeros _))) (le_bys _ _)
  exact (le_bys _ _).app ((le_bys _ _).app ((le_bys _ _).app ((le_bys _ _).app ((le_bys _ _).app ((le_bys _ _).app (le_bys _ _))))))
theorem two_cases (v : Int) : (v % 2).toNat = 0 ∧ ((v + 1) % 2).toNat = 1 ∨ (v % 2).toNat = 1 ∧ ((v + 1) % 2).toNat = 0 := by omega
theorem Two.pick {l : List (List Int)} {s : Sup} (h : Two l s) : pickE (l.getD 0 []) (l.getD 1 []) = 0 ∧ pickS (l.getD 0 []) (l.getD 1 []) = s := by
  have hd := s.dec_enc h.sane
  have hh := h.has
  have he := h.elder
  rcases two_cases s.version with ⟨e0, e1⟩ | ⟨e0, e1⟩
  · rw [e0] at hh
    rw [e1] at he
    unfold pickE pickS
    rw [hh, hd.1, hd.2]
    refine ⟨by simp, ?_⟩
    rw [if_neg]
    · simp
    · rintro ⟨h1, h2⟩
      rcases he with he | he
      · exact he h1
      · rcases h2 with h2 | h2
        · exact h2 rfl
        · omega
  · rw [e0] at hh
    rw [e1] at he
    unfold pickE pickS
    rw [hh, hd.1, hd.2]
    refine ⟨by simp, ?_⟩
    rw [if_pos]
    refine ⟨rfl, ?_⟩
    rcases he with he | he
    · exact .inl he
    · by_cases hz : decE (l.getD 0 []) = 0
      · exact .inr he
      · exact .inl hz
theorem Two.next {l : List (List Int)} {s t : Sup} (h : Two l s) (ht : t.Sane) (hv : t.version = s.version + 1) : Two (l.set (t.version % 2).toNat t.enc) t := by
  have hl := h.len
  refine ⟨ht, by simpa using hl, ?_, ?_, ?_⟩
  · intro x hx
    rcases List.mem_or_eq_of_mem_set hx with hx | rfl
    · exact h.bys x hx
    · exact Sup.enc_bys t
  · have : (t.version % 2).toNat < l.length := by omega
    simp [List.getD, this]
  · right
    have e : ((t.version + 1) % 2).toNat = (s.version % 2).toNat := by omega
    have ne : (t.version % 2).toNat ≠ (s.version % 2).toNat := by omega
    have := h.has
    rw [e]
    have hg : (l.set (t.version % 2).toNat t.enc).getD (s.version % 2).toNat [] = l.getD (s.version % 2).toNat [] := by
      simp [List.getD, List.getElem?_set_ne ne]
    rw [hg, this, (s.dec_enc h.sane).2]
    omega
theorem Two.first {n : Nat} (hn : 2 ≤ n) {t : Sup} (ht : t.Sane) : Two ((List.replicate n zsec).set (t.version % 2).toNat t.enc) t := by
  have p : (t.version % 2).toNat < n := by omega
  have q : ((t.version + 1) % 2).toNat < n := by omega
  refine ⟨ht, by simpa using hn, ?_, ?_, ?_⟩
  · intro x hx
    rcases List.mem_or_eq_of_mem_set hx with hx | rfl
    · rw [(List.mem_replicate.1 hx).2]; exact Bys.zeros 64
    · exact Sup.enc_bys t
  · simp [List.getD, p]
  · left
    have ne : (t.version % 2).toNat ≠ ((t.version + 1) % 2).toNat := by omega
    have : ((List.replicate n zsec).set (t.version % 2).toNat t.enc).getD ((t.version + 1) % 2).toNat [] = zsec := by
      rw [List.getD_eq_getElem?_getD, List.getElem?_set_ne ne, List.getElem?_replicate, if_pos q]; rfl
    rw [this]; exact zsec_dec
end Go.Proofs.YtdeckbdaencjnaaDoor
