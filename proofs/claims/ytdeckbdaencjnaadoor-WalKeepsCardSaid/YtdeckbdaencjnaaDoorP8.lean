/-
  Numbers in bytes, the sum of bytes, as plain functions. Conditions: none.
-/
import Derived.RowKit
set_option linter.unusedVariables false
set_option linter.unusedSimpArgs false
namespace Go.Proofs.YtdeckbdaencjnaaDoor

/-! ### Numbers in bytes, the lowest first -/
def le : Nat → Int → List Int
  | 0, _ => []
  | k + 1, v => v % 256 :: le k (v / 256)
def unle : List Int → Int
  | [] => 0
  | b :: bs => b + 256 * unle bs
/-- Bytes. -/
def Bys (l : List Int) : Prop := ∀ x ∈ l, 0 ≤ x ∧ x ≤ 255
theorem Bys.nil : Bys [] := by intro x h; simp at h
theorem Bys.cons {x : Int} {l : List Int} (h : Bys (x :: l)) : (0 ≤ x ∧ x ≤ 255) ∧ Bys l := ⟨h x (by simp), fun y hy => h y (by simp [hy])⟩
theorem Bys.app {l m : List Int} (h : Bys l) (k : Bys m) : Bys (l ++ m) := by
  intro x hx
  rcases List.mem_append.1 hx with hx | hx
  · exact h x hx
  · exact k x hx
theorem Bys.take {l : List Int} (h : Bys l) (n : Nat) : Bys (l.take n) := fun x hx => h x (List.mem_of_mem_take hx)
theorem Bys.drop {l : List Int} (h : Bys l) (n : Nat) : Bys (l.drop n) := fun x hx => h x (List.mem_of_mem_drop hx)
theorem Bys.zeros (n : Nat) : Bys (List.replicate n 0) := by
  intro x hx
  have := (List.mem_replicate.1 hx).2
  omega
theorem le_len (k : Nat) (v : Int) : (le k v).length = k := by
  induction k generalizing v with
  | zero => rfl
  | succ k ih => simp [le, ih]
theorem le_bys (k : Nat) (v : Int) : Bys (le k v) := by
  induction k generalizing v with
  | zero => exact Bys.nil
  | succ k ih =>
    intro x hx
    simp only [le, List.mem_cons] at hx
    rcases hx with rfl | hx
    · omega
    · exact ih _ x hx
theorem unle_nonneg {l : List Int} (h : Bys l) : 0 ≤ unle l := by
  induction l with
  | nil => simp [unle]
  | cons b l ih =>
    have := ih h.cons.2
    have := h.cons.1
    simp only [unle]; omega
theorem unle_lt {l : List Int} (h : Bys l) : unle l < 256 ^ l.length := by
  induction l with
  | nil => simp [unle]
  | cons b l ih =>
    have h1 := ih h.cons.2
    have h2 := h.cons.1
    simp only [unle, List.length_cons, Int.pow_succ]
    omega
theorem unle_le (k : Nat) (v : Int) : unle (le k v) = v % 256 ^ k := by
  induction k generalizing v with
  | zero => simp [le, unle]
  | succ k ih =>
    simp only [le, unle, ih]
    rw [Int.pow_succ, Int.mul_comm (256 ^ k) 256]
    rw [Int.emod_def v (256 * 256 ^ k), Int.emod_def (v / 256) (256 ^ k), Int.ediv_ediv_of_nonneg (by decide), Int.mul_sub, ← Int.mul_assoc]
    omega
theorem le_unle {l : List Int} (h : Bys l) : le l.length (unle l) = l := by
  induction l with
  | nil => rfl
  | cons b l ih =>
    have h1 := ih h.cons.2
    have h2 := h.cons.1
    simp only [List.length_cons, le, unle]
    have e1 : (b + 256 * unle l) % 256 = b := by omega
    have e2 : (b + 256 * unle l) / 256 = unle l := by omega
    rw [e1, e2, h1]
theorem unle_snoc (l : List Int) (b : Int) : unle (l ++ [b]) = unle l + 256 ^ l.length * b := by
  induction l with
  | nil => simp [unle]
  | cons c l ih =>
    simp only [List.cons_append, unle, ih, List.length_cons, Int.pow_succ]
    rw [Int.mul_add, ← Int.mul_assoc, Int.mul_comm 256 (256 ^ l.length)]
    omega
theorem le_add (j k : Nat) (v : Int) : le (j + k) v = le j v ++ le k (v / 256 ^ j) := by
  induction j generalizing v with
  | zero => simp [le]
  | succ j ih =>
    rw [Nat.succ_add]
    simp only [le, ih, List.cons_append, Int.pow_succ]
    rw [Int.mul_comm (256 ^ j) 256, Int.ediv_ediv_of_nonneg (by decide)]

/-! ### The sum -/
/-- Halved, with the polynomial, if the lowest bit was 1. -/
def half (v : BitVec 32) : BitVec 32 := (v >>> 1) ^^^ (if v.getLsbD 0 then 0xEDB88320#32 else 0#32)
def halves : Nat → BitVec 32 → BitVec 32
  | 0, v => v
  | n + 1, v => halves n (half v)
theorem halves_succ (n : Nat) (v : BitVec 32) : halves (n + 1) v = half (halves n v) := by
  induction n generalizing v with
  | zero => rfl
  | succ n ih => rw [halves, ih]; rfl
theorem half_xor (x y : BitVec 32) : half (x ^^^ y) = half x ^^^ half y := by
  unfold half
  rw [BitVec.ushiftRight_xor_distrib, BitVec.getLsbD_xor]
  generalize x >>> 1 = a
  generalize y >>> 1 = b
  cases x.getLsbD 0 <;> cases y.getLsbD 0 <;> simp only [Bool.xor_false, Bool.xor_true, Bool.not_false, Bool.not_true, Bool.false_eq_true, if_true, if_false, BitVec.xor_zero]
  · ac_rfl
  · ac_rfl
  · have : a ^^^ 0xEDB88320#32 ^^^ (b ^^^ 0xEDB88320#32) = (a ^^^ b) ^^^ (0xEDB88320#32 ^^^ 0xEDB88320#32) := by ac_rfl
    rw [this, BitVec.xor_self, BitVec.xor_zero]
theorem halves_xor (n : Nat) (x y : BitVec 32) : halves n (x ^^^ y) = halves n x ^^^ halves n y := by
  induction n generalizing x y with
  | zero => rfl
  | succ n ih => simp only [halves, half_xor, ih]
/-- What a byte turns in. -/
def tab (k : Nat) : BitVec 32 := halves 8 (BitVec.ofNat 32 k)
theorem half_even {v : BitVec 32} (h : v.toNat % 2 = 0) : half v = v >>> 1 := by
  have : v.getLsbD 0 = false := by
    rw [BitVec.getLsbD, Nat.testBit_zero]
    simp [h]
  unfold half
  rw [this]; simp
/-- A number whose low bits are nothing is shifted. -/
theorem halves_high : ∀ (n : Nat) (v : BitVec 32), v.toNat % 2 ^ n = 0 → halves n v = v >>> n
  | 0, v, _ => by simp [halves]
  | n + 1, v, h => by
    have h2 : v.toNat % 2 = 0 := by
      have : v.toNat % 2 ^ (n + 1) % 2 = v.toNat % 2 := Nat.mod_mod_of_dvd _ (Nat.dvd_of_mod_eq_zero (by rw [Nat.pow_succ]; simp))
      omega
    rw [halves, half_even h2, halves_high n]
    · rw [← BitVec.shiftRight_add, Nat.add_comm]
    · rw [BitVec.toNat_ushiftRight, Nat.shiftRight_eq_div_pow]
      have : v.toNat % (2 * 2 ^ n) = 0 := by rw [Nat.mul_comm, ← Nat.pow_succ]; exact h
      have hm := Nat.mod_mul_right_div_self v.toNat 2 (2 ^ n)
      rw [this] at hm
      simpa using hm.symm
/-- One byte goes in. -/
def sumStep (v : BitVec 32) (c : Nat) : BitVec 32 := (v >>> 8) ^^^ tab ((v.toNat % 256) ^^^ c)
theorem split_low (z : BitVec 32) : z = ((z >>> 8) <<< 8) ^^^ BitVec.ofNat 32 (z.toNat % 256) := by
  apply BitVec.eq_of_getLsbD_eq
  intro i hi
  rw [BitVec.getLsbD_xor, BitVec.getLsbD_shiftLeft, BitVec.getLsbD_ushiftRight, BitVec.getLsbD_ofNat]
  have h256 : (256 : Nat) = 2 ^ 8 := by decide
  rw [h256, Nat.testBit_mod_two_pow]
  by_cases h8 : i < 8
  · simp [hi, h8, BitVec.getLsbD]
  · have : 8 + (i - 8) = i := by omega
    simp [hi, h8, this]
theorem halves8 (z : BitVec 32) : halves 8 z = (z >>> 8) ^^^ tab (z.toNat % 256) := by
  have h := split_low z
  have h2 : halves 8 z = halves 8 ((z >>> 8) <<< 8) ^^^ halves 8 (BitVec.ofNat 32 (z.toNat % 256)) := by
    rw [← halves_xor, ← h]
  rw [h2, halves_high 8]
  · congr 1
    apply BitVec.eq_of_toNat_eq
    simp only [BitVec.toNat_ushiftRight, BitVec.toNat_shiftLeft, Nat.shiftRight_eq_div_pow, Nat.shiftLeft_eq]
    have := z.isLt
    omega
  · simp only [BitVec.toNat_ushiftRight, BitVec.toNat_shiftLeft, Nat.shiftRight_eq_div_pow, Nat.shiftLeft_eq]
    omega
/-- Bit by bit, or by the table: the same. -/
theorem sumStep_bits (v : BitVec 32) (c : Nat) (hc : c < 256) : halves 8 (v ^^^ BitVec.ofNat 32 c) = sumStep v c := by
  rw [halves8]
  unfold sumStep
  have h1 : (v ^^^ BitVec.ofNat 32 c) >>> 8 = v >>> 8 := by
    rw [BitVec.ushiftRight_xor_distrib]
    have : BitVec.ofNat 32 c >>> 8 = 0#32 := by
      apply BitVec.eq_of_toNat_eq
      simp only [BitVec.toNat_ushiftRight, BitVec.toNat_ofNat, Nat.shiftRight_eq_div_pow]
      omega
    rw [this]; simp
  have h2 : (v ^^^ BitVec.ofNat 32 c).toNat % 256 = (v.toNat % 256) ^^^ c := by
    rw [BitVec.toNat_xor, BitVec.toNat_ofNat]
    have h256 : (256 : Nat) = 2 ^ 8 := by decide
    rw [show c % 2 ^ 32 = c by omega]
    apply Nat.eq_of_testBit_eq
    intro i
    rw [h256, Nat.testBit_mod_two_pow, Nat.testBit_xor, Nat.testBit_xor, Nat.testBit_mod_two_pow]
    by_cases h8 : i < 8
    · simp [h8]
    · have : c.testBit i = false := Nat.testBit_lt_two_pow (Nat.lt_of_lt_of_le hc (by rw [h256]; exact Nat.pow_le_pow_right (by decide) (by omega)))
      simp [h8, this]
  rw [h1, h2]
def sumMore (v : BitVec 32) : List Int → BitVec 32
  | [] => v
  | c :: l => sumMore (sumStep v c.toNat) l
theorem sumMore_snoc (v : BitVec 32) (l : List Int) (c : Int) : sumMore v (l ++ [c]) = sumStep (sumMore v l) c.toNat := by
  induction l generalizing v with
  | nil => rfl
  | cons d l ih => simp only [List.cons_append, sumMore, ih]
/-- Bytes' sum, as a number. -/
def sumOf (l : List Int) : Int := ((sumMore 0xFFFFFFFF#32 l ^^^ 0xFFFFFFFF#32).toNat : Int)
theorem sumOf_bd (l : List Int) : 0 ≤ sumOf l ∧ sumOf l < 4294967296 := by
  unfold sumOf
  have := (sumMore 0xFFFFFFFF#32 l ^^^ 0xFFFFFFFF#32).isLt
  omega
/-- The highest byte of what a byte turns in tells it. -/
def tops : List Nat := (List.range 256).map fun k => (tab k).toNat / 16777216
theorem tops_apart : tops.Nodup := by decide +kernel
theorem tab_top {a b : Nat} (ha : a < 256) (hb : b < 256) (h : (tab a).toNat / 16777216 = (tab b).toNat / 16777216) : a = b := by
  have h1 : tops[a]? = some ((tab a).toNat / 16777216) := by simp [tops, ha]
  have h2 : tops[b]? = some ((tab b).toNat / 16777216) := by simp [tops, hb]
  rw [h] at h1
  exact (List.getElem?_inj (by simp [tops]; exact ha) tops_apart).1 (h1.trans h2.symm)
theorem high_xor (x y : BitVec 32) (h : x.toNat < 16777216) : (x ^^^ y).toNat / 16777216 = y.toNat / 16777216 := by
  rw [BitVec.toNat_xor]
  apply Nat.eq_of_testBit_eq
  intro i
  have e : (16777216 : Nat) = 2 ^ 24 := by decide
  rw [e, Nat.testBit_div_two_pow, Nat.testBit_div_two_pow, Nat.testBit_xor]
  have : x.toNat.testBit (i + 24) = false := Nat.testBit_lt_two_pow (Nat.lt_of_lt_of_le h (by rw [e]; exact Nat.pow_le_pow_right (by decide) (by omega)))
  rw [this]; simp
/-- A step tells what was ahead of it, and its byte. -/
theorem xor_lt_256 {a b : Nat} (ha : a < 256) (hb : b < 256) : a ^^^ b < 256 := Nat.xor_lt_two_pow (n := 8) ha hb
theorem sumStep_inj {v u : BitVec 32} {c d : Nat} (hc : c < 256) (hd : d < 256) (h : sumStep v c = sumStep u d) : (v.toNat % 256) ^^^ c = (u.toNat % 256) ^^^ d ∧ v.toNat / 256 = u.toNat / 256 := by
  have hv8 : (v >>> 8).toNat < 16777216 := by have := v.isLt; simp only [BitVec.toNat_ushiftRight, Nat.shiftRight_eq_div_pow]; omega
  have hu8 : (u >>> 8).toNat < 16777216 := by have := u.isLt; simp only [BitVec.toNat_ushiftRight, Nat.shiftRight_eq_div_pow]; omega
  have hx1 : (v.toNat % 256) ^^^ c < 256 := xor_lt_256 (Nat.mod_lt _ (by decide)) hc
  have hx2 : (u.toNat % 256) ^^^ d < 256 := xor_lt_256 (Nat.mod_lt _ (by decide)) hd
  have ht : (tab ((v.toNat % 256) ^^^ c)).toNat / 16777216 = (tab ((u.toNat % 256) ^^^ d)).toNat / 16777216 := by
    rw [← high_xor _ (tab ((v.toNat % 256) ^^^ c)) hv8, ← high_xor _ (tab ((u.toNat % 256) ^^^ d)) hu8]
    unfold sumStep at h
    rw [h]
  have he := tab_top hx1 hx2 ht
  refine ⟨he, ?_⟩
  unfold sumStep at h
  rw [he] at h
  have h3 : v >>> 8 = u >>> 8 := by
    have := congrArg (· ^^^ tab ((u.toNat % 256) ^^^ d)) h
    simpa [BitVec.xor_assoc] using this
  have := congrArg BitVec.toNat h3
  simpa only [BitVec.toNat_ushiftRight, Nat.shiftRight_eq_div_pow] using this
theorem xor_cancel_right {a b c : Nat} (h : a ^^^ c = b ^^^ c) : a = b := by
  have := congrArg (· ^^^ c) h
  simpa [Nat.xor_assoc] using this
theorem xor_cancel_left {a b c : Nat} (h : a ^^^ b = a ^^^ c) : b = c := by
  rw [Nat.xor_comm a b, Nat.xor_comm a c] at h
  exact xor_cancel_right h
theorem sumStep_inj_v {v u : BitVec 32} {c : Nat} (hc : c < 256) (h : sumStep v c = sumStep u c) : v = u := by
  obtain ⟨h1, h2⟩ := sumStep_inj hc hc h
  have := xor_cancel_right h1
  apply BitVec.eq_of_toNat_eq
  omega
theorem sumStep_inj_c {v : BitVec 32} {c d : Nat} (hc : c < 256) (hd : d < 256) (h : sumStep v c = sumStep v d) : c = d :=
  xor_cancel_left (sumStep_inj hc hd h).1
theorem sumMore_inj {l : List Int} (hl : Bys l) {v u : BitVec 32} (h : sumMore v l = sumMore u l) : v = u := by
  induction l generalizing v u with
  | nil => exact h
  | cons c l ih =>
    have hc := hl.cons.1
    exact sumStep_inj_v (c := c.toNat) (by omega) (ih hl.cons.2 h)
theorem sumMore_app (v : BitVec 32) (l m : List Int) : sumMore v (l ++ m) = sumMore (sumMore v l) m := by
  induction l generalizing v with
  | nil => rfl
  | cons c l ih => simp only [List.cons_append, sumMore, ih]
/-- One byte turned turns the sum. -/
theorem sumOf_one {l m : List Int} {c d : Int} (hm : Bys m) (hc : 0 ≤ c ∧ c ≤ 255) (hd : 0 ≤ d ∧ d ≤ 255) (h : sumOf (l ++ c :: m) = sumOf (l ++ d :: m)) : c = d := by
  unfold sumOf at h
  have h1 : sumMore 0xFFFFFFFF#32 (l ++ c :: m) ^^^ 0xFFFFFFFF#32 = sumMore 0xFFFFFFFF#32 (l ++ d :: m) ^^^ 0xFFFFFFFF#32 := BitVec.eq_of_toNat_eq (by exact_mod_cast h)
  have h2 : sumMore 0xFFFFFFFF#32 (l ++ c :: m) = sumMore 0xFFFFFFFF#32 (l ++ d :: m) := by
    have := congrArg (· ^^^ 0xFFFFFFFF#32) h1
    simpa only [BitVec.xor_assoc, BitVec.xor_self, BitVec.xor_zero] using this
  rw [sumMore_app, sumMore_app] at h2
  simp only [sumMore] at h2
  have h3 := sumMore_inj hm h2
  have := sumStep_inj_c (by omega) (by omega) h3
  omega

/-- Bytes with their sum. -/
def sealL (l : List Int) : List Int := l ++ le 4 (sumOf l)
/-- Are the last four bytes the sum of those ahead? -/
def sealed (l : List Int) : Bool := decide (4 ≤ l.length) && decide (sealL (l.take (l.length - 4)) = l)
theorem sealed_seal (l : List Int) : sealed (sealL l) = true := by
  have : (sealL l).length - 4 = l.length := by simp [sealL, le_len]
  simp only [sealed, this, Bool.and_eq_true, decide_eq_true_eq]
  refine ⟨by simp [sealL, le_len], ?_⟩
  simp [sealL]
end Go.Proofs.YtdeckbdaencjnaaDoor
