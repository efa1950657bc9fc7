/-
  What a device tells of itself, as plain functions. Conditions: none.
-/
import Derived.Test.YtdeckbdaencjnaaDoorP8
import Derived.Test.YtdeckbdaencjnaaDoorDevX
set_option linter.unusedVariables false
set_option linter.unusedSimpArgs false
namespace Go.Proofs.YtdeckbdaencjnaaDoor
open Go.RowKit

structure Sup where
  version : Int
  epoch : Int
  blocks : Int
  counters : Int
  log : Int
  head : Int
  applied : Int
deriving DecidableEq
def Sup.zero : Sup := ⟨0, 0, 0, 0, 0, 0, 0⟩
def Sup.cells (s : Sup) : List Value := [.int .i64 s.version, .int .i64 s.epoch, .int .i64 s.blocks, .int .i64 s.counters, .int .i64 s.log, .int .i64 s.head, .int .i64 s.applied]
def Sup.Sane (s : Sup) : Prop :=
  (0 ≤ s.version ∧ s.version ≤ 281474976710656) ∧ (0 ≤ s.epoch ∧ s.epoch ≤ 4294967295) ∧ (0 ≤ s.blocks ∧ s.blocks ≤ 256) ∧ (0 ≤ s.counters ∧ s.counters ≤ 64) ∧ (1 ≤ s.log ∧ s.log ≤ 4096) ∧ (0 ≤ s.head ∧ s.head ≤ 1099511627776) ∧ (0 ≤ s.applied ∧ s.applied ≤ 1099511627776)
instance (s : Sup) : Decidable s.Sane := by unfold Sup.Sane; infer_instance
def Sup.sane (s : Sup) : Bool := decide s.Sane
def mark8 : List Int := [72, 69, 82, 79, 78, 49, 0, 0]
def Sup.nums (s : Sup) : List Int := le 8 s.version ++ (le 4 s.epoch ++ (le 2 s.blocks ++ (le 2 s.counters ++ (le 2 s.log ++ (le 8 s.head ++ le 8 s.applied)))))
def Sup.body (s : Sup) : List Int := mark8 ++ (s.nums ++ List.replicate 18 0)
def Sup.enc (s : Sup) : List Int := sealL s.body
theorem Sup.nums_len (s : Sup) : s.nums.length = 34 := by simp [Sup.nums, le_len]
theorem Sup.body_len (s : Sup) : s.body.length = 60 := by simp [Sup.body, mark8, Sup.nums_len]
theorem Sup.enc_len (s : Sup) : s.enc.length = 64 := by simp [Sup.enc, sealL, le_len, Sup.body_len]
/-- The number that stands in so many bytes at a place. -/
def fieldAt (b : List Int) (i n : Nat) : Int := wrap64 (unle ((b.drop i).take n))
/-- What a sector's bytes tell. -/
def decF (b : List Int) : Sup := ⟨fieldAt b 8 8, fieldAt b 16 4, fieldAt b 20 2, fieldAt b 22 2, fieldAt b 24 2, fieldAt b 26 8, fieldAt b 34 8⟩
/-- Is it of the form? -/
def okForm (b : List Int) : Bool := decide (b.take 8 = mark8) && (decF b).sane && decide ((b.drop 42).take 18 = List.replicate 18 0)
def decE (b : List Int) : Int := if b.length < 64 then 2 else if 64 < b.length then 3 else if sealed b = false then 4 else if okForm b = true then 0 else 3
def decS (b : List Int) : Sup := if decE b = 0 then decF b else Sup.zero

theorem wrap64_id {v : Int} (h0 : 0 ≤ v) (h1 : v ≤ 281474976710656) : wrap64 v = v := by unfold wrap64; omega
theorem pow_small {n : Nat} (hn : n ≤ 8) : (256 : Int) ^ n ≤ 18446744073709551616 := by
  have h : n = 0 ∨ n = 1 ∨ n = 2 ∨ n = 3 ∨ n = 4 ∨ n = 5 ∨ n = 6 ∨ n = 7 ∨ n = 8 := by omega
  rcases h with rfl | rfl | rfl | rfl | rfl | rfl | rfl | rfl | rfl <;> decide
theorem wrap64_back {u : Int} (h0 : 0 ≤ u) (h1 : u < 18446744073709551616) (h2 : 0 ≤ wrap64 u) : wrap64 u = u := by unfold wrap64 at *; omega
theorem unle_le_of {k : Nat} {v : Int} (h0 : 0 ≤ v) (h1 : v < 256 ^ k) : unle (le k v) = v := by
  rw [unle_le, Int.emod_eq_of_lt h0 h1]
/-- A cut of lists one behind the other. -/
theorem cut_at {a b c : List Int} {i n : Nat} (h1 : a.length = i) (h2 : b.length = n) : ((a ++ (b ++ c)).drop i).take n = b := by
  subst h1; subst h2; simp
theorem Sup.enc_fields (s : Sup) (hs : s.Sane) (t : List Int) : decF (s.body ++ t) = s := by
  obtain ⟨a, b, c, d, e, f, g⟩ := hs
  have l8 : ∀ v, (le 8 v).length = 8 := le_len 8
  have l4 : ∀ v, (le 4 v).length = 4 := le_len 4
  have l2 : ∀ v, (le 2 v).length = 2 := le_len 2
  have key : ∀ (p q r : List Int) (i n : Nat) (v : Int), p.length = i → q = le n v → 0 ≤ v → v < 256 ^ n → v ≤ 281474976710656 → s.body ++ t = p ++ (q ++ r) → fieldAt (s.body ++ t) i n = v := by
    intro p q r i n v hp hq h0 h1 h2 he
    unfold fieldAt
    rw [he, cut_at hp (by rw [hq, le_len]), hq, unle_le_of h0 h1, wrap64_id h0 h2]
  have hb : s.body ++ t = mark8 ++ (s.nums ++ (List.replicate 18 0 ++ t)) := by simp [Sup.body]
  unfold decF
  have e1 := key mark8 _ (le 4 s.epoch ++ (le 2 s.blocks ++ (le 2 s.counters ++ (le 2 s.log ++ (le 8 s.head ++ (le 8 s.applied ++ (List.replicate 18 0 ++ t))))))) 8 8 s.version rfl rfl a.1 (by omega) a.2 (by rw [hb]; simp [Sup.nums])
  have e2 := key (mark8 ++ le 8 s.version) _ (le 2 s.blocks ++ (le 2 s.counters ++ (le 2 s.log ++ (le 8 s.head ++ (le 8 s.applied ++ (List.replicate 18 0 ++ t)))))) 16 4 s.epoch (by simp [mark8, le_len]) rfl b.1 (by omega) (by omega) (by rw [hb]; simp [Sup.nums])
  have e3 := key (mark8 ++ le 8 s.version ++ le 4 s.epoch) _ (le 2 s.counters ++ (le 2 s.log ++ (le 8 s.head ++ (le 8 s.applied ++ (List.replicate 18 0 ++ t))))) 20 2 s.blocks (by simp [mark8, le_len]) rfl c.1 (by omega) (by omega) (by rw [hb]; simp [Sup.nums])
  have e4 := key (mark8 ++ le 8 s.version ++ le 4 s.epoch ++ le 2 s.blocks) _ (le 2 s.log ++ (le 8 s.head ++ (le 8 s.applied ++ (List.replicate 18 0 ++ t)))) 22 2 s.counters (by simp [mark8, le_len]) rfl d.1 (by omega) (by omega) (by rw [hb]; simp [Sup.nums])
  have e5 := key (mark8 ++ le 8 s.version ++ le 4 s.epoch ++ le 2 s.blocks ++ le 2 s.counters) _ (le 8 s.head ++ (le 8 s.applied ++ (List.replicate 18 0 ++ t))) 24 2 s.log (by simp [mark8, le_len]) rfl (by omega) (by omega) (by omega) (by rw [hb]; simp [Sup.nums])
  have e6 := key (mark8 ++ le 8 s.version ++ le 4 s.epoch ++ le 2 s.blocks ++ le 2 s.counters ++ le 2 s.log) _ (le 8 s.applied ++ (List.replicate 18 0 ++ t)) 26 8 s.head (by simp [mark8, le_len]) rfl f.1 (by omega) (by omega) (by rw [hb]; simp [Sup.nums])
  have e7 := key (mark8 ++ le 8 s.version ++ le 4 s.epoch ++ le 2 s.blocks ++ le 2 s.counters ++ le 2 s.log ++ le 8 s.head) _ (List.replicate 18 0 ++ t) 34 8 s.applied (by simp [mark8, le_len]) rfl g.1 (by omega) (by omega) (by rw [hb]; simp [Sup.nums])
  rw [e1, e2, e3, e4, e5, e6, e7]
theorem Sup.dec_enc (s : Sup) (hs : s.Sane) : decE s.enc = 0 ∧ decF s.enc = s := by
  have hF : decF s.enc = s := Sup.enc_fields s hs _
  refine ⟨?_, hF⟩
  have hl := Sup.enc_len s
  have hse : sealed s.enc = true := sealed_seal _
  have hok : okForm s.enc = true := by
    unfold okForm
    rw [hF]
    have h1 : s.enc.take 8 = mark8 := by simp [Sup.enc, sealL, Sup.body, mark8]
    have h2 : (s.enc.drop 42).take 18 = List.replicate 18 0 := by
      have : s.enc = (mark8 ++ s.nums) ++ (List.replicate 18 0 ++ le 4 (sumOf s.body)) := by simp [Sup.enc, sealL, Sup.body]
      rw [this]
      exact cut_at (by simp [mark8, Sup.nums_len]) (by simp)
    simp [h1, h2, Sup.sane, hs]
  unfold decE
  rw [hse, hok, hl]; simp

/-- Cut into pieces. -/
theorem cut_take (b : List Int) (i n : Nat) : b.drop i = (b.drop i).take n ++ b.drop (i + n) := by
  rw [← List.drop_drop]; exact (List.take_append_drop n (b.drop i)).symm
theorem le_field {b : List Int} (hb : Bys b) {i n : Nat} (hl : i + n ≤ b.length) (h0 : 0 ≤ fieldAt b i n) (h1 : fieldAt b i n ≤ 281474976710656) (hn : n ≤ 8) : le n (fieldAt b i n) = (b.drop i).take n := by
  have hB : Bys ((b.drop i).take n) := (hb.drop i).take n
  have hlen : ((b.drop i).take n).length = n := by simp; omega
  have h2 := unle_nonneg hB
  have h3 := unle_lt hB
  rw [hlen] at h3
  have h4 : (256 : Int) ^ n ≤ 18446744073709551616 := pow_small hn
  have h5 : unle ((b.drop i).take n) < 18446744073709551616 := by omega
  have he : fieldAt b i n = unle ((b.drop i).take n) := wrap64_back h2 h5 h0
  rw [he]
  have := le_unle hB
  rwa [hlen] at this
/-- Of a sealed sector: what it tells is itself again, if it is of the form, and else not. -/
theorem enc_dec {b : List Int} (hb : Bys b) (hl : b.length = 64) (hs : sealed b = true) : okForm b = true ↔ ((decF b).Sane ∧ (decF b).enc = b) := by
  constructor
  · intro h
    simp only [okForm, Bool.and_eq_true, decide_eq_true_eq, Sup.sane] at h
    obtain ⟨⟨h1, h2⟩, h3⟩ := h
    refine ⟨h2, ?_⟩
    obtain ⟨a, c, d, e, f, g, k⟩ := h2
    have b1 := le_field hb (i := 8) (n := 8) (by omega) a.1 a.2 (by omega)
    have b2 := le_field hb (i := 16) (n := 4) (by omega) c.1 (by have := c.2; simp only [decF] at this; omega) (by omega)
    have b3 := le_field hb (i := 20) (n := 2) (by omega) d.1 (by have := d.2; simp only [decF] at this; omega) (by omega)
    have b4 := le_field hb (i := 22) (n := 2) (by omega) e.1 (by have := e.2; simp only [decF] at this; omega) (by omega)
    have b5 := le_field hb (i := 24) (n := 2) (by omega) (by have := f.1; simp only [decF] at this; omega) (by have := f.2; simp only [decF] at this; omega) (by omega)
    have b6 := le_field hb (i := 26) (n := 8) (by omega) g.1 (by have := g.2; simp only [decF] at this; omega) (by omega)
    have b7 := le_field hb (i := 34) (n := 8) (by omega) k.1 (by have := k.2; simp only [decF] at this; omega) (by omega)
    have hbody : (decF b).body = b.take 60 := by
      have e0 : b.take 60 = b.take 8 ++ ((b.drop 8).take 8 ++ ((b.drop 16).take 4 ++ ((b.drop 20).take 2 ++ ((b.drop 22).take 2 ++ ((b.drop 24).take 2 ++ ((b.drop 26).take 8 ++ ((b.drop 34).take 8 ++ (b.drop 42).take 18))))))) := by
        have t : ∀ i n m, (b.drop i).take (n + m) = (b.drop i).take n ++ (b.drop (i + n)).take m := by
          intro i n m
          rw [List.take_add, List.drop_drop]
        have t0 := t 0 8 52
        have t1 := t 8 8 44
        have t2 := t 16 4 40
        have t3 := t 20 2 38
        have t4 := t 22 2 36
        have t5 := t 24 2 34
        have t6 := t 26 8 26
        have t7 := t 34 8 18
        simp only [List.drop_zero, Nat.zero_add, Nat.reduceAdd] at t0 t1 t2 t3 t4 t5 t6 t7
        rw [t0, t1, t2, t3, t4, t5, t6, t7]
      rw [e0, h1, h3]
      simp only [Sup.body, Sup.nums, decF, b1, b2, b3, b4, b5, b6, b7, List.append_assoc]
    simp only [sealed, Bool.and_eq_true, decide_eq_true_eq] at hs
    have hs2 := hs.2
    rw [hl] at hs2
    unfold Sup.enc
    rw [hbody]; exact hs2
  · rintro ⟨h1, h2⟩
    have := Sup.dec_enc (decF b) h1
    rw [h2] at this
    have hE := this.1
    unfold decE at hE
    rw [hl, hs] at hE
    simp at hE
    by_cases h : okForm b = true
    · exact h
    · simp [h] at hE

/-! ### Loaded and saved -/
/-- The one of two sectors that counts. -/
def pickE (x y : List Int) : Int := if decE x = 0 ∨ decE y = 0 then 0 else 6
def pickS (x y : List Int) : Sup := if decE y = 0 ∧ (decE x ≠ 0 ∨ (decF x).version < (decF y).version) then decF y else if decE x = 0 then decF x else Sup.zero
def Dev.loadE (D : Dev) : Int := if D.may 0 ≠ 0 then D.may 0 else if D.may 1 ≠ 0 then D.may 1 else pickE (D.at 0) (D.at 1)
def Dev.loadS (D : Dev) : Sup := if D.may 0 ≠ 0 then Sup.zero else if D.may 1 ≠ 0 then Sup.zero else pickS (D.at 0) (D.at 1)
def Sup.next (s : Sup) : Sup := { s with version := s.version + 1 }
/-- May it be saved? -/
def Sup.good (s : Sup) : Bool := s.sane && decide (s.version < 281474976710656)
theorem Sup.good_iff (s : Sup) : s.good = true ↔ s.Sane ∧ s.next.Sane := by
  simp only [Sup.good, Sup.sane, Bool.and_eq_true, decide_eq_true_eq]
  constructor
  · rintro ⟨h, h2⟩
    refine ⟨h, ?_⟩
    obtain ⟨a, r⟩ := h
    exact ⟨by simp only [Sup.next]; omega, r⟩
  · rintro ⟨h, h2⟩
    refine ⟨h, ?_⟩
    have := h2.1.2
    simp only [Sup.next] at this
    omega
def Dev.saveW (D : Dev) (s : Sup) : Dev := D.write (s.next.version % 2) s.next.enc
def Dev.saveWE (D : Dev) (s : Sup) : Int := D.writeE (s.next.version % 2) s.next.enc
def Dev.saveE (D : Dev) (s : Sup) : Int := if s.good = false then 1 else if D.saveWE s ≠ 0 then D.saveWE s else (D.saveW s).flushE
def Dev.save (D : Dev) (s : Sup) : Dev := if s.good = false then D else if D.saveWE s ≠ 0 then D.saveW s else (D.saveW s).flush
def Dev.saveS (D : Dev) (s : Sup) : Sup := if D.saveE s = 0 then s.next else Sup.zero
end Go.Proofs.YtdeckbdaencjnaaDoor
