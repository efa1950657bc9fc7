/-
  SuperWorse: the plain law. Conditions: none.
-/
import Derived.Test.YtdeckbdaencjnaaDoorT8b
import Derived.Test.YtdeckbdaencjnaaDoorDevD
set_option linter.unusedVariables false
set_option linter.unusedSimpArgs false
namespace Go.Proofs.YtdeckbdaencjnaaDoor
open Go.RowKit

def wor (v : Int) : Sup := ⟨v, 0, 0, 0, 3, 0, 0⟩
def worD (v : Int) : Dev := ((Dev.new 4).save (wor v)).save (wor (v + 1))
theorem wor_good {v : Int} (h0 : 0 ≤ v) (h1 : v ≤ 65536) : (wor v).good = true := by
  have hs : (wor v).Sane := by
    simp only [Sup.Sane, wor]
    omega
  have hv : (wor v).version < 281474976710656 := by simp only [wor]; omega
  simp [Sup.good, Sup.sane, hs, hv]
theorem wor_first {v : Int} (h0 : 0 ≤ v) (h1 : v < 65536) : (Dev.new 4).saveE (wor v) = 0 ∧ (Dev.new 4).saveS (wor v) = wor (v + 1) ∧ ∃ l, Calm ((Dev.new 4).save (wor v)) l ∧ Two l (wor (v + 1)) ∧ l.length = 4 ∧ ((Dev.new 4).save (wor v)).budget = -1 := by
  have hg := wor_good h0 (by omega)
  obtain ⟨a, b, c, d⟩ := (Dev.new_calm 4).save_2 (by simp) (s := wor v) (by simp [Dev.new]) (by simp [Dev.new]) hg
  refine ⟨a, by simp [Dev.saveS, a]; rfl, _, b, Two.first (by decide) ((Sup.good_iff _).1 hg).2, by simp, ?_⟩
  rw [c]; rfl
theorem wor_second {v : Int} (h0 : 0 ≤ v) (h1 : v < 65536) : ((Dev.new 4).save (wor v)).saveE (wor (v + 1)) = 0 ∧ ((Dev.new 4).save (wor v)).saveS (wor (v + 1)) = wor (v + 1 + 1) ∧
    ∃ l, Calm (worD v) l ∧ l.length = 4 ∧ (∀ x ∈ l, Bys x) ∧ l.getD ((v + 1) % 2).toNat [] = (wor (v + 1)).enc ∧ (worD v).budget = -1 := by
  obtain ⟨-, -, l, hC, hT, hl, hb⟩ := wor_first h0 h1
  have hg := wor_good (v := v + 1) (by omega) (by omega)
  obtain ⟨a, b, c, d⟩ := hC.save_2 (by omega) (s := wor (v + 1)) (by rw [hb]; decide) (by rw [hb]; decide) hg
  have hT2 := hT.next ((Sup.good_iff _).1 hg).2 rfl
  refine ⟨a, by simp [Dev.saveS, a]; rfl, _, b, by simpa using hl, hT2.bys, ?_, by show Dev.budget (Dev.save _ _) = _; rw [c, hb]; rfl⟩
  have e : (wor (v + 1)).next.version = v + 1 + 1 := rfl
  have ne : ((wor (v + 1)).next.version % 2).toNat ≠ ((v + 1) % 2).toNat := by rw [e]; omega
  rw [List.getD_eq_getElem?_getD, List.getElem?_set_ne ne, ← List.getD_eq_getElem?_getD]
  exact hT.has
def worA (v : Int) (b : List Int) : Dev := (worD v).write ((v + 1 + 1) % 2) b
def worB (v : Int) (b : List Int) : Dev := (worA v b).write ((v + 1) % 2) b
theorem pad64_bys {b : List Int} (h : Bys b) : Bys (pad64 b) := h.app (Bys.zeros _)
/-- A device that two sectors were written to, no more. -/
theorem put_two {D : Dev} {i j : Nat} (hij : (i = 0 ∧ j = 1) ∨ (i = 1 ∧ j = 0)) {x y : List Int} (hi : D.at i = x) (hj : D.at j = y) (hg : D.gone = false) (hl : 2 ≤ D.laid.length) :
    D.loadE = (if decE x = 0 ∨ decE y = 0 then 0 else 6) ∧ (decE y ≠ 0 → decE x = 0 → D.loadS = decF x) := by
  have m0 : D.may 0 = 0 := Dev.may_zero (i := 0) hg (by omega)
  have m1 : D.may 1 = 0 := Dev.may_zero (i := 1) hg (by omega)
  unfold Dev.loadE Dev.loadS
  rw [m0, m1]
  simp only [ne_eq, not_true_eq_false, if_false]
  rcases hij with ⟨rfl, rfl⟩ | ⟨rfl, rfl⟩
  · rw [hi, hj]
    refine ⟨rfl, fun h1 h2 => ?_⟩
    unfold pickS
    rw [if_neg (by rintro ⟨h, _⟩; exact h1 h), if_pos h2]
  · rw [hi, hj]
    refine ⟨by unfold pickE; by_cases k1 : decE x = 0 <;> by_cases k2 : decE y = 0 <;> simp [k1, k2], fun h1 h2 => ?_⟩
    unfold pickS
    rw [if_pos ⟨h2, .inl h1⟩]
theorem wor_third {v : Int} (h0 : 0 ≤ v) (h1 : v < 65536) {b : List Int} (hb : Bys b) (hl : b.length ≤ 60) :
    (worD v).writeE ((v + 1 + 1) % 2) b = 0 ∧ (∀ i, i < 2 → Bys ((worA v b).at i)) ∧ (∀ i, i < 2 → Bys ((worB v b).at i)) ∧ (decE (pad64 b) ≠ 0 → (worA v b).loadE = 0 ∧ (worA v b).loadS = wor (v + 1) ∧ (worB v b).loadE = 6) := by
  obtain ⟨-, -, l, hC, hlen, hby, hx, hbu⟩ := wor_second h0 h1
  obtain ⟨i, hi⟩ : ∃ i : Nat, (i : Int) = (v + 1 + 1) % 2 := ⟨((v + 1 + 1) % 2).toNat, by omega⟩
  obtain ⟨j, hj⟩ : ∃ j : Nat, (j : Int) = (v + 1) % 2 := ⟨((v + 1) % 2).toNat, by omega⟩
  have hij : (i = 0 ∧ j = 1) ∨ (i = 1 ∧ j = 0) := by omega
  have hne : i ≠ j := by omega
  have hll : (worD v).laid.length = 4 := by rw [hC.laid, hlen]
  have hlt : (worD v).late.length = 4 := by rw [hC.late]; simp [hlen]
  have hb0 : (worD v).budget ≠ 0 := by rw [hbu]; decide
  obtain ⟨e1, e2⟩ := Dev.write_ok hC.gone hb0 (i := i) (by rw [hll]; omega) (xs := b) (by omega)
  have eA : worA v b = (worD v).spend.put i (pad64 b) := by unfold worA; rw [← hi]; exact e2
  have gA : (worA v b).gone = false := by
    rw [eA, Dev.spend_go hb0]; exact hC.gone
  have bA : (worA v b).budget ≠ 0 := by
    rw [eA, Dev.spend_go hb0]
    show (if 0 < (worD v).budget then (worD v).budget - 1 else (worD v).budget) ≠ 0
    rw [hbu]; decide
  have lA : (worA v b).laid.length = 4 := by
    rw [eA]; show ((worD v).spend).laid.length = 4; rw [Dev.spend_laid, hll]
  have tA : (worA v b).late.length = 4 := by
    rw [eA]; show (((worD v).spend).late.set _ _).length = 4; rw [List.length_set, Dev.spend_late, hlt]
  obtain ⟨f1, f2⟩ := Dev.write_ok gA bA (i := j) (by rw [lA]; omega) (xs := b) (by omega)
  have eB : worB v b = (worA v b).spend.put j (pad64 b) := by unfold worB; rw [← hj]; exact f2
  have gB : (worB v b).gone = false := by rw [eB, Dev.spend_go bA]; exact gA
  have lB : (worB v b).laid.length = 4 := by rw [eB]; show ((worA v b).spend).laid.length = 4; rw [Dev.spend_laid, lA]
  have ai : (worA v b).at i = pad64 b := by rw [eA]; exact Dev.put_at _ _ _ (by rw [Dev.spend_late, hlt]; omega)
  have aj : (worA v b).at j = (wor (v + 1)).enc := by
    rw [eA, Dev.put_at_ne _ _ hne, Dev.spend_at, hC.at j, ← hx]
    congr 1
    omega
  have bj : (worB v b).at j = pad64 b := by rw [eB]; exact Dev.put_at _ _ _ (by rw [Dev.spend_late, tA]; omega)
  have bi : (worB v b).at i = pad64 b := by rw [eB, Dev.put_at_ne _ _ (Ne.symm hne), Dev.spend_at, ai]
  have hpb := pad64_bys hb
  have hEn := (wor (v + 1)).dec_enc ((Sup.good_iff _).1 (wor_good (v := v + 1) (by omega) (by omega))).1
  refine ⟨by rw [← hi]; exact e1, ?_, ?_, fun hd => ?_⟩
  · intro k hk
    have : k = i ∨ k = j := by omega
    rcases this with rfl | rfl
    · rw [ai]; exact hpb
    · rw [aj]; exact Sup.enc_bys _
  · intro k hk
    have : k = i ∨ k = j := by omega
    rcases this with rfl | rfl
    · rw [bi]; exact hpb
    · rw [bj]; exact hpb
  · have hji : (j = 0 ∧ i = 1) ∨ (j = 1 ∧ i = 0) := by omega
    obtain ⟨p1, p2⟩ := put_two hji aj ai gA (by omega)
    obtain ⟨q1, -⟩ := put_two hji bj bi gB (by omega)
    rw [if_pos (.inl hEn.1)] at p1
    rw [if_neg (by rintro (h | h) <;> exact hd h)] at q1
    exact ⟨p1, (p2 hd hEn.1).trans hEn.2, q1⟩
end Go.Proofs.YtdeckbdaencjnaaDoor
