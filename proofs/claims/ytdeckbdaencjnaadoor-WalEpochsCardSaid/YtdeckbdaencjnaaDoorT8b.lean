/-
  Plain laws on what a device tells of itself. Plain laws on saving: a device without a cache, saved to. Conditions: none.
-/
import Derived.Test.YtdeckbdaencjnaaDoorS8

set_option linter.unusedVariables false
set_option linter.unusedSimpArgs false
namespace Go.Proofs.YtdeckbdaencjnaaDoor
open Go.RowKit

theorem set_split (l : List Int) (i : Nat) (y : Int) (hi : i < l.length) : l.set i y = l.take i ++ y :: l.drop (i + 1) := by
  rw [List.set_eq_take_append_cons_drop, if_pos hi]
theorem get_split (l : List Int) (i : Nat) (hi : i < l.length) : l = l.take i ++ l[i] :: l.drop (i + 1) := by
  rw [List.getElem_cons_drop, List.take_append_drop]
/-- One byte turned, a sealed sector is sealed no more. -/
theorem flip_unsealed {b : List Int} (hb : Bys b) (hl : b.length = 64) (hs : sealed b = true) {i : Nat} (hi : i < 64) {y : Int} (hy : 0 ≤ y ∧ y ≤ 255) (hne : y ≠ b[i]) : sealed (b.set i y) = false := by
  cases h : sealed (b.set i y) with
  | false => rfl
  | true =>
    exfalso
    simp only [sealed, Bool.and_eq_true, decide_eq_true_eq, List.length_set, hl, Nat.reduceSub] at hs h
    obtain ⟨_, hs⟩ := hs
    obtain ⟨_, h⟩ := h
    have d1 : b.drop 60 = le 4 (sumOf (b.take 60)) := by
      have := congrArg (List.drop 60) hs
      rw [sealL, List.drop_append_of_le_length (by simp; omega)] at this
      rw [← this]; simp [hl]
    have d2 : (b.set i y).drop 60 = le 4 (sumOf ((b.set i y).take 60)) := by
      have := congrArg (List.drop 60) h
      rw [sealL, List.drop_append_of_le_length (by simp; omega)] at this
      rw [← this]; simp [hl]
    by_cases h6 : i < 60
    · have t1 : (b.set i y).take 60 = (b.take 60).set i y := by rw [List.take_set]
      have t2 : (b.set i y).drop 60 = b.drop 60 := by rw [List.drop_set, if_pos h6]
      rw [t1, t2, d1] at d2
      have s1 := sumOf_bd (b.take 60)
      have s2 := sumOf_bd ((b.take 60).set i y)
      have e := congrArg unle d2
      rw [unle_le_of s1.1 (by have : (256 : Int) ^ 4 = 4294967296 := by decide
                              omega), unle_le_of s2.1 (by have : (256 : Int) ^ 4 = 4294967296 := by decide
                                                          omega)] at e
      have hi' : i < (b.take 60).length := by simp; omega
      rw [set_split _ _ _ hi'] at e
      have e1 : sumOf (b.take 60) = sumOf ((b.take 60).take i ++ (b.take 60)[i] :: (b.take 60).drop (i + 1)) := congrArg sumOf (get_split _ _ hi')
      rw [e1] at e
      have hm : Bys ((b.take 60).drop (i + 1)) := (hb.take 60).drop _
      have hc : 0 ≤ (b.take 60)[i] ∧ (b.take 60)[i] ≤ 255 := hb.take 60 _ (List.getElem_mem _)
      have := sumOf_one hm hc hy e
      apply hne
      rw [← this]; simp
    · have t1 : (b.set i y).take 60 = b.take 60 := by rw [List.take_set_of_le (by omega)]
      rw [t1, ← d1, List.drop_set, if_neg h6] at d2
      have hi' : i - 60 < (b.drop 60).length := by simp; omega
      have e := congrArg (fun l => l[i - 60]?) d2
      simp only [List.getElem?_set_self hi', List.getElem?_drop] at e
      rw [show 60 + (i - 60) = i by omega, List.getElem?_eq_getElem (by omega)] at e
      exact hne (Option.some.inj e)
/-- A bit turned. -/
theorem xor_bit_ne (x j : Nat) : x ^^^ 2 ^ j ≠ x := by
  intro h
  have := congrArg (fun n => n.testBit j) h
  simp [Nat.testBit_xor, Nat.testBit_two_pow_self] at this

/-- A sector of nothing tells nothing. -/
theorem zsec_dec : decE zsec ≠ 0 := by decide +kernel
/-- Sectors, the first two of which tell s: the one of its turn has it, the other one nothing, or something elder. -/
structure Two (l : List (List Int)) (s : Sup) : Prop where
  sane : s.Sane
  len : 2 ≤ l.length
  bys : ∀ x ∈ l, Bys x
  has : l.getD (s.version % 2).toNat [] = s.enc
  elder : decE (l.getD ((s.version + 1) % 2).toNat []) ≠ 0 ∨ (decF (l.getD ((s.version + 1) % 2).toNat [])).version < s.version
theorem Sup.enc_bys (s : Sup) : Bys s.enc := by
  have h8 : Bys mark8 := by
    intro x hx
    simp only [mark8, List.mem_cons, List.not_mem_nil, or_false] at hx
    omega
  unfold Sup.enc sealL Sup.body Sup.nums
  refine Bys.app (h8.app (Bys.app ?_ (Bys.zeros _))) (le_bys _ _)
  exact (le_bys _ _).app ((le_bys _ _).app ((le_bys _ _).app ((le_bys _ _).app ((le_bys _ _).app ((le_bys _ _).app (le_bys _ _))))))
theorem two_cases (v : Int) : (v % 2).toNat = 0 ∧ ((v + 1) % 2).toNat = 1 ∨ (v % 2).toNat = 1 ∧ ((v + 1) % 2).toNat = 0 := by omega
theorem Two.pick {l : List (List Int)} {s : Sup} (h : Two l s) : pickE (l.getD 0 []) (l.getD 1 []) = 0 ∧ pickS (l.getD 0 []) (l.getD 1 []) = s := by
  have hd := s.dec_enc h.sane
  have hh := h.has
  have he := h.elder
  rcases two_cases s.version with ⟨e0, e1⟩ | ⟨e0, e1⟩
  · rw [e0] at hh
    rw [e1] at he
    unfold pickE pickS
    rw [hh, hd.1, hd.2]
    refine ⟨by simp, ?_⟩
    rw [if_neg]
    · simp
    · rintro ⟨h1, h2⟩
      rcases he with he | he
      · exact he h1
      · rcases h2 with h2 | h2
        · exact h2 rfl
        · omega
  · rw [e0] at hh
    rw [e1] at he
    unfold pickE pickS
    rw [hh, hd.1, hd.2]
    refine ⟨by simp, ?_⟩
    rw [if_pos]
    refine ⟨rfl, ?_⟩
    rcases he with he | he
    · exact .inl he
    · by_cases hz : decE (l.getD 0 []) = 0
      · exact .inr he
      · exact .inl hz
theorem Two.next {l : List (List Int)} {s t : Sup} (h : Two l s) (ht : t.Sane) (hv : t.version = s.version + 1) : Two (l.set (t.version % 2).toNat t.enc) t := by
  have hl := h.len
  refine ⟨ht, by simpa using hl, ?_, ?_, ?_⟩
  · intro x hx
    rcases List.mem_or_eq_of_mem_set hx with hx | rfl
    · exact h.bys x hx
    · exact Sup.enc_bys t
  · have : (t.version % 2).toNat < l.length := by omega
    simp [List.getD, this]
  · right
    have e : ((t.version + 1) % 2).toNat = (s.version % 2).toNat := by omega
    have ne : (t.version % 2).toNat ≠ (s.version % 2).toNat := by omega
    have := h.has
    rw [e]
    have hg : (l.set (t.version % 2).toNat t.enc).getD (s.version % 2).toNat [] = l.getD (s.version % 2).toNat [] := by
      simp [List.getD, List.getElem?_set_ne ne]
    rw [hg, this, (s.dec_enc h.sane).2]
    omega
theorem Two.first {n : Nat} (hn : 2 ≤ n) {t : Sup} (ht : t.Sane) : Two ((List.replicate n zsec).set (t.version % 2).toNat t.enc) t := by
  have p : (t.version % 2).toNat < n := by omega
  have q : ((t.version + 1) % 2).toNat < n := by omega
  refine ⟨ht, by simpa using hn, ?_, ?_, ?_⟩
  · intro x hx
    rcases List.mem_or_eq_of_mem_set hx with hx | rfl
    · rw [(List.mem_replicate.1 hx).2]; exact Bys.zeros 64
    · exact Sup.enc_bys t
  · simp [List.getD, p]
  · left
    have ne : (t.version % 2).toNat ≠ ((t.version + 1) % 2).toNat := by omega
    have : ((List.replicate n zsec).set (t.version % 2).toNat t.enc).getD ((t.version + 1) % 2).toNat [] = zsec := by
      rw [List.getD_eq_getElem?_getD, List.getElem?_set_ne ne, List.getElem?_replicate, if_pos q]; rfl
    rw [this]; exact zsec_dec
end Go.Proofs.YtdeckbdaencjnaaDoor
set_option linter.unusedVariables false
set_option linter.unusedSimpArgs false
namespace Go.Proofs.YtdeckbdaencjnaaDoor
open Go.RowKit

/-- A device that is there, with nothing cached, whose sectors are l. -/
structure Calm (D : Dev) (l : List (List Int)) : Prop where
  laid : D.laid = l
  late : D.late = List.replicate l.length none
  gone : D.gone = false
theorem Calm.at {D : Dev} {l : List (List Int)} (h : Calm D l) (i : Nat) : D.at i = l.getD i [] := by
  have : (D.late[i]?).join = none := by
    rw [h.late, List.getElem?_replicate]
    split <;> rfl
  unfold Dev.at
  rw [this, h.laid]; rfl
theorem Calm.may {D : Dev} {l : List (List Int)} (h : Calm D l) {i : Int} (h0 : 0 ≤ i) (h1 : i < l.length) : D.may i = 0 := by
  unfold Dev.may
  rw [h.gone, h.laid, if_neg (by decide), if_neg (by omega)]
theorem Dev.new_calm (n : Nat) : Calm (Dev.new n) (List.replicate n zsec) := ⟨rfl, by simp [Dev.new], rfl⟩
theorem Dev.may_len {D E : Dev} (hg : E.gone = D.gone) (hl : E.laid.length = D.laid.length) (i : Int) : E.may i = D.may i := by
  unfold Dev.may; rw [hg, hl]
/-- Laid down: each sector is what was read of it. -/
theorem lay_list {l : List (List Int)} {f : Nat → List Int} (h : ∀ j, j < l.length → f j = l.getD j []) : (List.range l.length).map f = l := by
  apply List.ext_getElem
  · simp
  · intro i h1 h2
    simp at h1
    simp [h i h1, h1]
theorem Dev.pad_enc (s : Sup) : pad64 s.enc = s.enc := by simp [pad64, Sup.enc_len]

section
variable {D : Dev} {l : List (List Int)} {s : Sup}
theorem place_lt (h : 2 ≤ l.length) (v : Int) : (v % 2).toNat < l.length ∧ v % 2 = ((v % 2).toNat : Int) := by omega
/-- One thing is borne no more: nothing is written. -/
theorem Calm.save_0 (h : Calm D l) (hl : 2 ≤ l.length) (hb : D.budget = 0) (hs : s.good = true) : D.saveE s = 11 ∧ D.save s = { D with gone := true } := by
  obtain ⟨p1, p2⟩ := place_lt hl s.next.version
  have hm : D.may (s.next.version % 2) = 0 := h.may (by omega) (by omega)
  have he : ¬ 64 < s.next.enc.length := by rw [Sup.enc_len]; decide
  have e1 : D.saveWE s = 11 := by simp [Dev.saveWE, Dev.writeE, hm, he, Dev.spendE, hb]
  have e2 : D.saveW s = { D with gone := true } := by simp [Dev.saveW, Dev.write, hm, he, Dev.spend, hb]
  exact ⟨by simp [Dev.saveE, hs, e1], by simp [Dev.save, hs, e1, e2]⟩
/-- The sector is written, and not flushed. -/
theorem Calm.save_1 (h : Calm D l) (hl : 2 ≤ l.length) (hb : D.budget = 1) (hs : s.good = true) :
    D.saveE s = 11 ∧ (D.save s).laid = l ∧ (D.save s).late = (List.replicate l.length none).set (s.next.version % 2).toNat (some s.next.enc) ∧ (D.save s).gone = true := by
  obtain ⟨p1, p2⟩ := place_lt hl s.next.version
  have hm : D.may (s.next.version % 2) = 0 := h.may (by omega) (by omega)
  have he : ¬ 64 < s.next.enc.length := by rw [Sup.enc_len]; decide
  have hsp : D.spend = { D with budget := 0, spent := wrap64 (D.spent + 1) } := by simp [Dev.spend, hb]
  have e1 : D.saveWE s = 0 := by simp [Dev.saveWE, Dev.writeE, hm, he, Dev.spendE, hb]
  have e2 : D.saveW s = D.spend.put (s.next.version % 2).toNat s.next.enc := by simp [Dev.saveW, Dev.write, hm, he, hb, Dev.pad_enc]
  have g2 : (D.saveW s).gone = false := by rw [e2, hsp]; exact h.gone
  have b2 : (D.saveW s).budget = 0 := by rw [e2, hsp]; rfl
  have e3 : (D.saveW s).flushE = 11 := by simp [Dev.flushE, g2, Dev.spendE, b2]
  have e4 : (D.saveW s).flush = { D.saveW s with gone := true } := by simp [Dev.flush, g2, b2, Dev.spend]
  have e5 : D.save s = { D.saveW s with gone := true } := by simp [Dev.save, hs, e1, e4]
  refine ⟨by simp [Dev.saveE, hs, e1, e3], ?_, ?_, by rw [e5]⟩
  · rw [e5, e2, hsp]; exact h.laid
  · rw [e5, e2, hsp]
    show D.late.set _ _ = _
    rw [h.late]
/-- It is written and flushed. -/
theorem Calm.save_2 (h : Calm D l) (hl : 2 ≤ l.length) (hb0 : D.budget ≠ 0) (hb1 : D.budget ≠ 1) (hs : s.good = true) :
    D.saveE s = 0 ∧ Calm (D.save s) (l.set (s.next.version % 2).toNat s.next.enc) ∧ (D.save s).budget = (if 0 < D.budget then D.budget - 2 else D.budget) ∧ (D.save s).spent = wrap64 (wrap64 (D.spent + 1) + 1) := by
  obtain ⟨p1, p2⟩ := place_lt hl s.next.version
  have hm : D.may (s.next.version % 2) = 0 := h.may (by omega) (by omega)
  have he : ¬ 64 < s.next.enc.length := by rw [Sup.enc_len]; decide
  have hsp := Dev.spend_go hb0
  have e1 : D.saveWE s = 0 := by simp [Dev.saveWE, Dev.writeE, hm, he, Dev.spendE, hb0]
  have e2 : D.saveW s = D.spend.put (s.next.version % 2).toNat s.next.enc := by simp [Dev.saveW, Dev.write, hm, he, hb0, Dev.pad_enc]
  have g2 : (D.saveW s).gone = false := by rw [e2, hsp]; exact h.gone
  have bb : (D.saveW s).budget = (if 0 < D.budget then D.budget - 1 else D.budget) := by rw [e2, hsp]; rfl
  have b2 : (D.saveW s).budget ≠ 0 := by rw [bb]; split <;> omega
  obtain ⟨e3, e4⟩ := Dev.flush_ok g2 b2
  have e5 : D.save s = (D.saveW s).spend.lay := by simp [Dev.save, hs, e1, e4]
  have hsp2 := Dev.spend_go b2
  have hlaid : (D.saveW s).laid = l := by rw [e2]; show D.spend.laid = l; rw [Dev.spend_laid]; exact h.laid
  have hlen : D.laid.length = l.length := by rw [h.laid]
  have hat : ∀ j, (D.saveW s).spend.at j = (l.set (s.next.version % 2).toNat s.next.enc).getD j [] := by
    intro j
    rw [Dev.spend_at, e2]
    by_cases hj : (s.next.version % 2).toNat = j
    · rw [hj, Dev.put_at _ _ _ (by rw [Dev.spend_late, h.late]; simp; omega)]
      rw [hj] at p1
      simp [List.getD, p1]
    · rw [Dev.put_at_ne _ _ hj, Dev.spend_at, h.at]
      simp [List.getD, List.getElem?_set_ne hj]
  refine ⟨by simp [Dev.saveE, hs, e1, e3], ⟨?_, ?_, ?_⟩, ?_, ?_⟩
  · rw [e5, Dev.lay_laid]
    have hl2 : (D.saveW s).spend.laid.length = (l.set (s.next.version % 2).toNat s.next.enc).length := by rw [Dev.spend_laid, hlaid]; simp
    rw [hl2]
    exact lay_list fun j _ => hat j
  · rw [e5]
    show (D.saveW s).spend.late.map _ = _
    rw [Dev.spend_late, e2]
    show ((D.spend.late).set _ _).map _ = _
    rw [Dev.spend_late, h.late]
    apply List.ext_getElem
    · simp
    · intro i h1 h2; simp
  · rw [e5]
    show (D.saveW s).spend.gone = false
    rw [hsp2]; exact g2
  · rw [e5]
    show (D.saveW s).spend.budget = _
    rw [hsp2]
    show (if 0 < (D.saveW s).budget then (D.saveW s).budget - 1 else (D.saveW s).budget) = _
    rw [bb]
    rw [bb] at b2
    split
    · rename_i hp
      rw [if_pos hp] at b2
      rw [if_pos (by omega)]; omega
    · rfl
  · rw [e5]
    show (D.saveW s).spend.spent = _
    rw [hsp2]
    show wrap64 ((D.saveW s).spent + 1) = _
    rw [e2, hsp]
    rfl
/-- What is loaded of it. -/
theorem Calm.load (h : Calm D l) (hl : 2 ≤ l.length) : D.loadE = pickE (l.getD 0 []) (l.getD 1 []) ∧ D.loadS = pickS (l.getD 0 []) (l.getD 1 []) := by
  have m0 := h.may (i := 0) (by omega) (by omega)
  have m1 := h.may (i := 1) (by omega) (by omega)
  unfold Dev.loadE Dev.loadS
  rw [m0, m1, h.at 0, h.at 1]
  simp
theorem Calm.load_two (h : Calm D l) (ht : Two l s) : D.loadE = 0 ∧ D.loadS = s := by
  obtain ⟨e1, e2⟩ := h.load ht.len
  rw [e1, e2]
  exact ht.pick
/-- Nothing cached: a crash loses nothing. -/
theorem Calm.crash (h : Calm D l) (keep : List Bool) (g : Bool) : Calm (({ D with gone := g } : Dev).crash keep) l := by
  have hc : ({ D with gone := g } : Dev).cached = [] := by
    unfold Dev.cached
    rw [List.filter_eq_nil_iff]
    intro j _
    show ¬ ((D.late[j]?).join).isSome = true
    rw [h.late, List.getElem?_replicate]
    split <;> simp
  refine ⟨?_, ?_, rfl⟩
  · show layKept _ ({ D with gone := g } : Dev).cached keep D.laid = l
    rw [hc]
    show layKept _ [] keep D.laid = l
    cases keep <;> exact h.laid
  · show D.late.map _ = _
    rw [h.late]; simp
theorem filter_one (n i : Nat) (hi : i < n) : (List.range n).filter (fun j => decide (j = i)) = [i] := by
  induction n with
  | zero => omega
  | succ n ih =>
    rw [List.range_succ, List.filter_append]
    by_cases h : i = n
    · subst h
      have : (List.range i).filter (fun j => decide (j = i)) = [] := by
        rw [List.filter_eq_nil_iff]
        intro j hj
        simp at hj
        simp; omega
      rw [this]; simp
    · rw [ih (by omega)]
      have : ¬ n = i := fun e => h e.symm
      simp [this]
/-- One sector cached: a crash keeps it, or not. -/
theorem crash_one {E : Dev} {i : Nat} {x : List Int} (hlaid : E.laid = l) (hlate : E.late = (List.replicate l.length none).set i (some x)) (hi : i < l.length) (keep : List Bool) :
    Calm (E.crash keep) l ∨ Calm (E.crash keep) (l.set i x) := by
  have hc : E.cached = [i] := by
    unfold Dev.cached
    rw [hlaid, ← filter_one l.length i hi]
    apply List.filter_congr
    intro j hj
    simp at hj
    rw [hlate]
    by_cases hji : j = i
    · subst hji
      simp [hj]
    · rw [List.getElem?_set_ne (fun e => hji e.symm), List.getElem?_replicate]
      simp [hji, hj]
  have hat : E.at i = x := by
    unfold Dev.at
    rw [hlate]
    simp [hi]
  have hl0 : (E.crash keep).laid = layKept E E.cached keep E.laid := rfl
  have hla : (E.crash keep).late = List.replicate l.length none := by
    show E.late.map _ = _
    rw [hlate]
    apply List.ext_getElem
    · simp
    · intro k h1 h2; simp
  rw [hc, hlaid] at hl0
  cases keep with
  | nil => exact .inl ⟨hl0, hla, rfl⟩
  | cons b r =>
    have h1 : layKept E [i] (b :: r) l = if b then l.set i x else l := by
      simp only [layKept, hat]
    rw [h1] at hl0
    cases b with
    | false => exact .inl ⟨by simpa using hl0, hla, rfl⟩
    | true => exact .inr ⟨hl0, by rw [hla]; simp, rfl⟩
end
end Go.Proofs.YtdeckbdaencjnaaDoor
