/-
  A log that goes round: records of two sectors each. Conditions: none.
-/
import Derived.Test.YtdeckbdaencjnaaDoorP7j
import Derived.Test.YtdeckbdaencjnaaDoorL7b
set_option linter.unusedVariables false
set_option linter.unusedSimpArgs false
namespace Go.Proofs.YtdeckbdaencjnaaDoor
open Go.RowKit
/-- The records from the f-th to the i-th. -/
def recs60 (f n : Nat) : List (List Int) := (List.range n).map fun (t : Nat) => someL 60 ((f + t : Nat) : Int)
theorem recs60_len (f n : Nat) : (recs60 f n).length = n := by simp [recs60]
theorem recs60_snoc (f n : Nat) : recs60 f (n + 1) = recs60 f n ++ [someL 60 ((f + n : Nat) : Int)] := by
  unfold recs60
  rw [List.range_succ, List.map_append]
  rfl
theorem recs60_cons (f n : Nat) : recs60 f (n + 1) = someL 60 ((f : Nat) : Int) :: recs60 (f + 1) n := by
  unfold recs60
  rw [List.range_succ_eq_map, List.map_cons, List.map_map]
  congr 1
  apply List.map_congr_left
  intro t _
  simp only [Function.comp]
  congr 2
  omega
theorem need60 (c : Int) : need (someL 60 c).length = 2 := by rw [someL_len]; decide
theorem endAt60 : ∀ (n f : Nat) (a : Int), endAt a (recs60 f n) = a + 2 * n
  | 0, f, a => by simp [recs60, endAt]
  | n + 1, f, a => by
    rw [recs60_cons]
    simp only [endAt]
    rw [need60, endAt60 n (f + 1)]
    omega
theorem recsAt60 : ∀ (n f : Nat) (a : Int) (t : Nat), t < n → (recsAt a (recs60 f n))[t]? = some (a + 2 * t, someL 60 ((f + t : Nat) : Int))
  | 0, f, a, t, h => by omega
  | n + 1, f, a, t, h => by
    rw [recs60_cons]
    simp only [recsAt]
    rw [need60]
    cases t with
    | zero => simp
    | succ t =>
      rw [List.getElem?_cons_succ, recsAt60 n (f + 1) _ t (by omega)]
      congr 2
      · omega
      · congr 2
        omega
structure Rnd (L : Lg) (D : Dev) (k : Int) (f n : Nat) : Prop where
  from7 : From7 L D 16 (2 * (f : Int)) (recs60 f n)
  epoch : L.epoch = 1
  from_ : L.r.from_ = 1
  size : L.r.size = k
  head : L.r.head = 2 * (f : Int)
  stale : ∀ q, L.r.tail ≤ q → q < L.r.head + L.r.size → Stale (L.r.sc D q) q
  laid : ∀ q, D.laid.getD (L.r.sec q).toNat [] = L.r.sc D q
theorem Rnd.tail {L : Lg} {D : Dev} {k : Int} {f n : Nat} (h : Rnd L D k f n) : L.r.tail = 2 * ((f + n : Nat) : Int) := by
  rw [h.from7.tail, endAt60]
  omega
theorem ring_sane {k : Int} (h1 : 1 ≤ k) (h2 : k ≤ 4096) : (Rg.mk 1 k 0 0).Sane := ⟨by show (0 : Int) ≤ 1; decide, by show (1 : Int) ≤ 4096; decide, h1, h2, Int.le_refl 0, Int.le_refl 0, by show (0 : Int) ≤ 1099511627776; decide, by show (0 : Int) - 0 ≤ k; omega⟩
theorem Rnd.new {k : Int} (h1 : 4 ≤ k) (h2 : k ≤ 11) : Rnd ⟨⟨1, k, 0, 0⟩, 1, 0, false⟩ (Dev.new 16) k 0 0 := by
  have hs : (Rg.mk 1 k 0 0).Sane := ring_sane (by omega) (by omega)
  obtain ⟨_, _, h3⟩ := Laid.new (n := 16) (from_ := 1) (size := k) (head := 0) (epoch := 1) hs (by omega) (by decide) (by decide)
  refine ⟨h3.from7, rfl, rfl, rfl, rfl, fun q _ _ => .inl ?_, fun q => ?_⟩
  · have := Dev.new_sc (n := 16) hs (by show (1 : Int) + k ≤ 16; omega) q
    have e : (Lg.r ⟨⟨1, k, 0, 0⟩, 1, 0, false⟩).sc (Dev.new 16) q = zsec := this
    rw [e]
    exact zsec_read
  · have h4 := Rg.sec_in (n := 16) hs (by show (1 : Int) + k ≤ 16; omega) q
    have := Dev.new_sc (n := 16) hs (by show (1 : Int) + k ≤ 16; omega) q
    have e : (Lg.r ⟨⟨1, k, 0, 0⟩, 1, 0, false⟩).sc (Dev.new 16) q = zsec := this
    rw [e]
    show (List.replicate 16 zsec).getD (Rg.sec ⟨1, k, 0, 0⟩ q).toNat [] = zsec
    rw [List.getD_eq_getElem?_getD, List.getElem?_replicate_of_lt (by omega)]
    rfl
/-- There is room: appended and forced. -/
theorem Rnd.app {L : Lg} {D : Dev} {k : Int} {f n : Nat} (h : Rnd L D k f n) (hk : 4 ≤ k) (hn : f + n ≤ 1000) (hroom : 2 ≤ k - 2 * (n : Int)) :
    ∃ L1 D1, L.appE D (someL 60 ((f + n : Nat) : Int)) = 0 ∧ L.appP D (someL 60 ((f + n : Nat) : Int)) = 2 * ((f + n : Nat) : Int) ∧ L.app D (someL 60 ((f + n : Nat) : Int)) = L1 ∧ L.appD D (someL 60 ((f + n : Nat) : Int)) = D1 ∧ L1.forceE D1 = 0 ∧
      Rnd (L1.force D1) (L1.forceD D1) k f (n + 1) := by
  have ht := h.tail
  have hh := h.head
  have hz := h.size
  rcases h.from7.app (someL_bys 60 ((f + n : Nat) : Int)) (by rw [someL_len]; decide) with ⟨_, _, _, _, u⟩ | ⟨u1, u2, u3, u4, u5, u6, u7, u8⟩
  · rw [need60] at u
    rcases u with u | u <;> omega
  · rw [need60] at u3 u4 u6 u7
    obtain ⟨g1, g2, g3, g4, g5, g6⟩ := u6.force
    refine ⟨_, _, u1, by rw [u2, ht], u4, rfl, g1, ?_⟩
    rw [g2, g3]
    refine ⟨by rw [recs60_snoc]; exact g4, h.epoch, h.from_, h.size, h.head, fun q h1 h2 => ?_, fun q => ?_⟩
    · have h1' : L.r.tail + 2 ≤ q := h1
      have h2' : q < L.r.head + L.r.size := h2
      have e : L.r.sc (Dev.flush (L.appD D (someL 60 ((f + n : Nat) : Int)))) q = L.r.sc (L.appD D (someL 60 ((f + n : Nat) : Int))) q := g5 q
      show Stale (L.r.sc (Dev.flush (L.appD D (someL 60 ((f + n : Nat) : Int)))) q) q
      rw [e, u7 q (by omega) (by omega) (.inr h1')]
      exact h.stale q (by omega) h2'
    · have := g6 q
      show (Dev.flush (L.appD D (someL 60 ((f + n : Nat) : Int)))).laid.getD (L.r.sec q).toNat [] = L.r.sc (Dev.flush (L.appD D (someL 60 ((f + n : Nat) : Int)))) q
      have e : L.r.sc (Dev.flush (L.appD D (someL 60 ((f + n : Nat) : Int)))) q = L.r.sc (L.appD D (someL 60 ((f + n : Nat) : Int))) q := g5 q
      rw [e]
      exact this
/-- There is none: nothing is laid. -/
theorem Rnd.full {L : Lg} {D : Dev} {k : Int} {f n : Nat} (h : Rnd L D k f n) (hk : 4 ≤ k) (hn : f + n ≤ 1000) (hroom : k - 2 * (n : Int) < 2) (c : Int) :
    L.appE D (someL 60 c) = 5 ∧ L.appP D (someL 60 c) = 0 ∧ L.app D (someL 60 c) = L ∧ L.appD D (someL 60 c) = D := by
  have ht := h.tail
  have hh := h.head
  have hz := h.size
  rcases h.from7.app (someL_bys 60 c) (by rw [someL_len]; decide) with ⟨u1, u2, u3, u4, _⟩ | ⟨_, _, u3, _⟩
  · exact ⟨u1, u2, u3, u4⟩
  · rw [need60] at u3
    omega
theorem Rnd.drop {L : Lg} {D : Dev} {k : Int} {f n : Nat} (h : Rnd L D k f (n + 1)) (hk : 4 ≤ k) (hn : f + n ≤ 1000) :
    L.dropE (2 * ((f + 1 : Nat) : Int)) = 0 ∧ Rnd (L.drop (2 * ((f + 1 : Nat) : Int))) D k (f + 1) n := by
  have ht := h.tail
  have hh := h.head
  have hz := h.size
  have hf := h.from7
  rw [recs60_cons] at hf
  have hsk := hf.skip
  rw [need60] at hsk
  have ea : 2 * (f : Int) + ((2 : Nat) : Int) = 2 * ((f + 1 : Nat) : Int) := by omega
  rw [ea] at hsk
  obtain ⟨g1, g2, g3⟩ := hsk.dropTo (to := 2 * ((f + 1 : Nat) : Int)) (by omega) (Int.le_refl _)
  refine ⟨g1, ?_⟩
  rw [g2]
  refine ⟨g3, h.epoch, h.from_, h.size, rfl, fun q h1 h2 => ?_, h.laid⟩
  have h1' : L.r.tail ≤ q := h1
  have h2' : q < 2 * ((f + 1 : Nat) : Int) + L.r.size := h2
  show Stale (L.r.sc D q) q
  by_cases hlt : q < L.r.head + L.r.size
  · exact h.stale q h1' hlt
  · obtain ⟨j, hj⟩ : ∃ j : Nat, q - L.r.size = 2 * (f : Int) + j := ⟨(q - L.r.size - 2 * f).toNat, by omega⟩
    have hj2 : j < 2 := by omega
    have hsec : L.r.sec q = L.r.sec (q - L.r.size) := by
      unfold Rg.sec
      have : q % L.r.size = (q - L.r.size) % L.r.size := by rw [Int.sub_emod, Int.emod_self, Int.sub_zero, Int.emod_emod]
      rw [this]
    have hsc : L.r.sc D q = L.r.sc D (2 * (f : Int) + j) := by
      unfold Rg.sc
      rw [hsec, hj]
    have hr := hf.ok.1
    have hhas := hf.has j (by simp only [flat, List.length_append, cutL_len]; rw [need60]; omega)
    rw [need_flat _ _ _ _ _ (by rw [need60]; exact hj2)] at hhas
    have hx := Option.some.inj hhas
    obtain ⟨_, hp⟩ := hr.read (k := j) (by rw [need60]; exact hj2)
    rw [hsc, ← hx]
    refine .inr ?_
    rw [hp]
    show 2 * (f : Int) + (j : Int) ≠ q
    omega
theorem Rnd.opens {L : Lg} {D : Dev} {k : Int} {f n : Nat} (h : Rnd L D k f n) :
    opened (D.crash []) 1 k L.r.head 2 = (recsAt (2 * (f : Int)) (recs60 f n), L.r.tail) := by
  have hf := h.from7
  rw [← h.head] at hf ⊢
  have hat : ∀ q, L.r.sc (D.crash []) q = L.r.sc D q := by
    intro q
    have : L.r.sc (D.crash []) q = D.laid.getD (L.r.sec q).toNat [] := Dev.crash_nil_at D _
    rw [this, h.laid]
  have := hf.opens (D' := D.crash []) (epoch := 2) (fun hlt => by rw [hat]; exact h.stale _ (Int.le_refl _) hlt) (fun q _ _ => hat q) (by rw [h.epoch]; decide)
  rw [h.from_, h.size] at this
  exact this
end Go.Proofs.YtdeckbdaencjnaaDoor
