/-
  What a scan tells of sectors that were laid. A log's sectors on a device without a budget. Flush, crash, and where a scan ends. Records one behind the other as one row of sectors. A log that is opened, forced, opened again. Conditions: none.
-/
import Derived.Test.YtdeckbdaencjnaaDoorK7f
import Derived.Test.YtdeckbdaencjnaaDoorDevX

set_option linter.unusedVariables false
set_option linter.unusedSimpArgs false
namespace Go.Proofs.YtdeckbdaencjnaaDoor
open Go.RowKit
/-- The sectors of a record lie at the list's beginning. -/
def Has (l : List (List Int)) (E at_ : Int) (b : List Int) : Prop := ∀ k, k < need b.length → l[k]? = some (piece E at_ b k).sec
/-- Any bytes of a record. -/
structure RecOk (E at_ : Int) (b : List Int) : Prop where
  e0 : 0 ≤ E
  e1 : E ≤ 4294967295
  a0 : 0 ≤ at_
  a1 : at_ + need b.length ≤ 1099511627776
  n1 : need b.length ≤ 1024
  bys : Bys b
theorem RecOk.cutE {E at_ : Int} {b : List Int} (h : RecOk E at_ b) : cutE E at_ b = 0 := by
  have h0 := h.a0
  have h1 := h.a1
  have h2 := h.n1
  unfold Go.Proofs.YtdeckbdaencjnaaDoor.cutE
  rw [if_neg (by omega), if_neg (by omega)]
theorem RecOk.read {E at_ : Int} {b : List Int} (h : RecOk E at_ b) {k : Nat} (hk : k < need b.length) : readE (piece E at_ b k).sec = 0 ∧ pcOf (piece E at_ b k).sec = piece E at_ b k :=
  read_sec (piece_ok h.e0 h.e1 h.cutE hk) (piece_bys h.bys k)
theorem gatherOn_has {E at_ : Int} {b : List Int} (hr : RecOk E at_ b) : ∀ (m k : Nat) (l : List (List Int)), m = need b.length - k → k < need b.length → (∀ j, j < m → l[j]? = some (piece E at_ b (k + j)).sec) →
    gatherOn E (need b.length) l k (at_ + k) (b.take (44 * k)) = ⟨0, b, E, need b.length⟩
  | 0, k, l, hm, hk, _ => by omega
  | m + 1, k, l, hm, hk, h => by
    cases l with
    | nil => have := h 0 (by omega); simp at this
    | cons x l =>
      have hx : x = (piece E at_ b k).sec := by have := h 0 (by omega); simpa using this
      obtain ⟨h1, h2⟩ := hr.read hk
      unfold gatherOn
      rw [hx, h1, h2, if_neg (by simp), if_neg (by simp [Pc.Stamp, piece])]
      have hd : b.take (44 * k) ++ (piece E at_ b k).data = b.take (44 * (k + 1)) := by
        show b.take (44 * k) ++ (b.drop (44 * k)).take 44 = _
        rw [show 44 * (k + 1) = 44 * k + 44 by omega, List.take_add]
      rw [hd]
      by_cases hlast : (k : Int) = (need b.length : Int) - 1
      · rw [if_pos hlast]
        have hc := need_cover b.length
        have : b.take (44 * (k + 1)) = b := List.take_of_length_le (by
          have : k + 1 = need b.length := by omega
          rw [this]; exact hc)
        rw [this]
      · rw [if_neg hlast]
        have := gatherOn_has hr m (k + 1) l (by omega) (by omega) (fun j hj => by
          have := h (j + 1) (by omega)
          rw [show k + 1 + j = k + (j + 1) by omega]
          simpa using this)
        rw [show ((k : Int) + 1) = ((k + 1 : Nat) : Int) by omega, show at_ + (k : Int) + 1 = at_ + ((k + 1 : Nat) : Int) by omega]
        exact this
theorem gather_has {l : List (List Int)} {E at_ : Int} {b : List Int} (hr : RecOk E at_ b) (h : Has l E at_ b) : gather l at_ = ⟨0, b, E, need b.length⟩ := by
  have hp := need_pos b.length
  cases l with
  | nil => have := h 0 (by omega); simp at this
  | cons x l =>
    have hx : x = (piece E at_ b 0).sec := by have := h 0 (by omega); simpa using this
    obtain ⟨h1, h2⟩ := hr.read (k := 0) (by omega)
    have := gatherOn_has hr (need b.length) 0 (x :: l) (by omega) (by omega) (fun j hj => by rw [Nat.zero_add]; exact h j hj)
    unfold gather
    simp only
    rw [hx, h1, h2, if_neg (by simp)]
    rw [hx] at this
    simpa [piece] using this
/-- What is gathered was there. -/
theorem gatherOn_inv {E C : Int} : ∀ (l : List (List Int)) (k : Nat) (a : Int) (acc : List Int), (k : Int) ≤ C - 1 → (gatherOn E C l k a acc).e = 0 → ∀ j : Nat, (j : Int) < C - k → ∃ x, l[j]? = some x ∧ readE x = 0 ∧ (pcOf x).Stamp E C (a + j) (k + j)
  | [], k, a, acc, _, h => by simp [gatherOn, Gat.no] at h
  | x :: l, k, a, acc, hk, h => by
    intro j hj
    unfold gatherOn at h
    by_cases c1 : readE x ≠ 0
    · rw [if_pos c1] at h; exact absurd h c1
    rw [if_neg c1] at h
    by_cases c2 : ¬ (pcOf x).Stamp E C a k
    · rw [if_pos c2] at h; exact absurd h (by simp [Gat.no])
    rw [if_neg c2] at h
    have c1' : readE x = 0 := by simpa using c1
    have c2' : (pcOf x).Stamp E C a k := by simpa using c2
    cases j with
    | zero => exact ⟨x, rfl, c1', by simpa using c2'⟩
    | succ j =>
      have c3 : ¬ (k : Int) = C - 1 := by omega
      rw [if_neg c3, show ((k : Int) + 1) = ((k + 1 : Nat) : Int) by omega] at h
      obtain ⟨y, h1, h2, h3⟩ := gatherOn_inv l (k + 1) (a + 1) _ (by omega) h j (by omega)
      refine ⟨y, by simpa using h1, h2, ?_⟩
      have e1 : a + ((j + 1 : Nat) : Int) = a + 1 + (j : Int) := by omega
      have e2 : (k : Int) + ((j + 1 : Nat) : Int) = ((k + 1 : Nat) : Int) + (j : Int) := by omega
      rw [e1, e2]
      exact h3
theorem gather_inv {l : List (List Int)} {at_ : Int} (h : (gather l at_).e = 0) : ∀ j : Nat, (j : Int) < (gather l at_).count → ∃ x, l[j]? = some x ∧ readE x = 0 ∧ (pcOf x).Stamp (gather l at_).epoch (gather l at_).count (at_ + j) j := by
  cases l with
  | nil => simp [gather, Gat.no] at h
  | cons x l =>
    unfold gather at h ⊢
    simp only at h ⊢
    by_cases c1 : readE x ≠ 0
    · rw [if_pos c1] at h; exact absurd h c1
    rw [if_neg c1] at h ⊢
    have hok := (Pc.of_readE (b := x) (by simpa using c1)).1
    have hc := gatherOn_count (x :: l) 0 at_ [] (by omega) (by have := hok.c0; omega) h
    intro j hj
    rw [hc.1] at hj
    have := gatherOn_inv (x :: l) 0 at_ [] (by have := hok.c0; simp; omega) h j (by simpa using hj)
    rw [hc.1, hc.2.2]
    simpa using this
/-- Records behind one another, by their places. -/
def recsAt : Int → List (List Int) → List (Int × List Int)
  | _, [] => []
  | a, b :: R => (a, b) :: recsAt (a + need b.length) R
def endAt : Int → List (List Int) → Int
  | a, [] => a
  | a, b :: R => endAt (a + need b.length) R
def Ends (epoch : Int) (l : List (List Int)) (at_ last : Int) : Prop := Stops epoch (gather l at_) at_ last
/-- At each record's place: it is there, or all ends. -/
def Sure (E epoch : Int) : List (List Int) → List (List Int) → Int → Int → Prop
  | [], l, a, last => Ends epoch l a last
  | b :: R, l, a, last => (Has l E a b ∨ Ends epoch l a last) ∧ (Has l E a b → Sure E epoch R (l.drop (need b.length)) (a + need b.length) E)
def AllOk (E : Int) : Int → List (List Int) → Prop
  | _, [] => True
  | a, b :: R => RecOk E a b ∧ AllOk E (a + need b.length) R
/-- The first so many are there. -/
def HasAll (E : Int) : List (List Int) → List (List Int) → Int → Prop
  | [], _, _ => True
  | b :: R, l, a => Has l E a b ∧ HasAll E R (l.drop (need b.length)) (a + need b.length)
theorem Has.len {l : List (List Int)} {E at_ : Int} {b : List Int} (h : Has l E at_ b) : need b.length ≤ l.length := by
  have hp := need_pos b.length
  have := h (need b.length - 1) (by omega)
  have := (List.getElem?_eq_some_iff.1 this).1
  omega
theorem not_ends {epoch : Int} {l : List (List Int)} {E at_ last : Int} {b : List Int} (hr : RecOk E at_ b) (h : Has l E at_ b) (hE : E < epoch) (hlast : last ≤ E) : ¬ Ends epoch l at_ last := by
  unfold Ends Stops
  rw [gather_has hr h]
  have := hr.a1
  rintro (h | h | h | h) <;> simp at h <;> omega
theorem scan_sure {E epoch : Int} (hE : E < epoch) : ∀ (R : List (List Int)) (f : Nat) (l : List (List Int)) (a last : Int), l.length < f → last ≤ E → AllOk E a R → Sure E epoch R l a last →
    ∃ m, m ≤ R.length ∧ scan epoch f l a last = (recsAt a (R.take m), endAt a (R.take m)) ∧ ∀ s, s ≤ R.length → HasAll E (R.take s) l a → s ≤ m
  | [], f, l, a, last, hf, hl, hok, hs => by
    obtain ⟨f, rfl⟩ : ∃ f', f = f' + 1 := ⟨f - 1, by omega⟩
    exact ⟨0, Nat.le_refl _, by rw [scan_stop f hs]; rfl, fun s h _ => h⟩
  | b :: R, f, l, a, last, hf, hl, hok, hs => by
    obtain ⟨f, rfl⟩ : ∃ f', f = f' + 1 := ⟨f - 1, by omega⟩
    obtain ⟨h1, h2⟩ := hs
    obtain ⟨ho1, ho2⟩ := hok
    have hp := need_pos b.length
    by_cases hh : Has l E a b
    · have hlen := hh.len
      obtain ⟨m, hm, hsc, hall⟩ := scan_sure hE R f (l.drop (need b.length)) (a + need b.length) E (by rw [List.length_drop]; omega) (Int.le_refl _) ho2 (h2 hh)
      refine ⟨m + 1, by simpa using hm, ?_, fun s hs hha => ?_⟩
      · rw [scan_go f (not_ends ho1 hh hE hl), gather_has ho1 hh]
        simp only [Int.toNat_natCast, hsc, List.take_succ_cons, recsAt, endAt]
      · cases s with
        | zero => omega
        | succ s =>
          have := hall s (by simpa using hs) hha.2
          omega
    · rcases h1 with h1 | h1
      · exact absurd h1 hh
      · refine ⟨0, by omega, by rw [scan_stop f h1]; rfl, fun s hs hha => ?_⟩
        cases s with
        | zero => exact Nat.le_refl _
        | succ s => exact absurd hha.1 hh
end Go.Proofs.YtdeckbdaencjnaaDoor
set_option linter.unusedVariables false
set_option linter.unusedSimpArgs false
namespace Go.Proofs.YtdeckbdaencjnaaDoor
open Go.RowKit
/-- A device that is there, without a budget. -/
structure Good (D : Dev) (n : Nat) : Prop where
  gone : D.gone = false
  bud : D.budget = -1
  laid : D.laid.length = n
  late : D.late.length = n
theorem Good.new (n : Nat) : Good (Dev.new n) n := ⟨rfl, rfl, by simp [Dev.new], by simp [Dev.new]⟩
theorem pad64_full {s : List Int} (h : s.length = 64) : pad64 s = s := by simp [pad64, h]
theorem Good.write {D : Dev} {n : Nat} (h : Good D n) {i : Nat} (hi : i < n) {s : List Int} (hs : s.length = 64) : D.writeE i s = 0 ∧ Good (D.write i s) n ∧ (D.write i s).laid = D.laid ∧ (D.write i s).at i = s ∧ ∀ j, i ≠ j → (D.write i s).at j = D.at j := by
  obtain ⟨h1, h2⟩ := Dev.write_ok h.gone (by rw [h.bud]; decide) (by rw [h.laid]; exact hi) (xs := s) (by omega)
  rw [h2, pad64_full hs]
  refine ⟨h1, ⟨?_, ?_, ?_, ?_⟩, ?_, ?_, fun j hj => ?_⟩
  · exact Dev.spend_gone h.gone (by rw [h.bud]; decide)
  · exact Dev.spend_neg h.bud
  · show (D.spend.laid).length = n
    rw [Dev.spend_laid]; exact h.laid
  · show (D.spend.late.set i (some s)).length = n
    rw [List.length_set, Dev.spend_late]; exact h.late
  · show D.spend.laid = D.laid
    exact Dev.spend_laid D
  · rw [Dev.put_at _ _ _ (by rw [Dev.spend_late, h.late]; exact hi)]
  · rw [Dev.put_at_ne _ _ hj, Dev.spend_at]
theorem Good.wrs {n : Nat} : ∀ (l : List (Nat × List Int)) (D : Dev), Good D n → (∀ x ∈ l, x.1 < n ∧ x.2.length = 64) → (l.map (·.1)).Nodup →
    D.wrsE (l.map fun x => ((x.1 : Int), x.2)) = 0 ∧ Good (D.wrs (l.map fun x => ((x.1 : Int), x.2))) n ∧ (D.wrs (l.map fun x => ((x.1 : Int), x.2))).laid = D.laid ∧
    (∀ j, (∀ x ∈ l, x.1 ≠ j) → (D.wrs (l.map fun x => ((x.1 : Int), x.2))).at j = D.at j) ∧ (∀ x ∈ l, (D.wrs (l.map fun x => ((x.1 : Int), x.2))).at x.1 = x.2)
  | [], D, h, _, _ => ⟨rfl, h, rfl, fun _ _ => rfl, fun x hx => by simp at hx⟩
  | x :: l, D, h, hl, hn => by
    obtain ⟨hx1, hx2⟩ := hl x (by simp)
    obtain ⟨w1, w2, w3, w4, w5⟩ := h.write hx1 hx2
    rw [List.map_cons, List.nodup_cons] at hn
    obtain ⟨i1, i2, i3, i4, i5⟩ := Good.wrs l (D.write x.1 x.2) w2 (fun y hy => hl y (by simp [hy])) hn.2
    have hne : ∀ y ∈ l, y.1 ≠ x.1 := fun y hy e => hn.1 (by rw [← e]; exact List.mem_map_of_mem hy)
    simp only [List.map_cons, Dev.wrs, Dev.wrsE, w1]
    rw [if_neg (by simp), if_neg (by simp)]
    refine ⟨i1, i2, by rw [i3, w3], fun j hj => ?_, fun y hy => ?_⟩
    · rw [i4 j (fun y hy => hj y (by simp [hy])), w5 j (hj x (by simp))]
    · rcases List.mem_cons.1 hy with rfl | hy
      · rw [i4 _ (fun z hz => hne z hz), w4]
      · exact i5 y hy
theorem Rg.sec_inj {r : Rg} (h : r.Sane) {a b : Int} (h1 : a < b + r.size) (h2 : b < a + r.size) (e : r.sec a = r.sec b) : a = b := by
  unfold Rg.sec at e
  have hs := h.s0
  have e' : a % r.size = b % r.size := by omega
  have d1 := Int.emod_add_mul_ediv a r.size
  have d2 := Int.emod_add_mul_ediv b r.size
  have hk : r.size * (a / r.size) - r.size * (b / r.size) = a - b := by omega
  rw [← Int.mul_sub] at hk
  obtain ⟨k, hkk⟩ : ∃ k, k = a / r.size - b / r.size := ⟨_, rfl⟩
  rw [← hkk] at hk
  rcases Int.lt_trichotomy k 0 with hlt | h0 | hgt
  · have : r.size * k ≤ r.size * (-1) := Int.mul_le_mul_of_nonneg_left (by omega) (by omega)
    omega
  · rw [h0] at hk; omega
  · have : r.size * 1 ≤ r.size * k := Int.mul_le_mul_of_nonneg_left (by omega) (by omega)
    omega
theorem Rg.sec_in {r : Rg} (h : r.Sane) {n : Nat} (hf : r.from_ + r.size ≤ (n : Int)) (a : Int) : 0 ≤ r.sec a ∧ r.sec a < (n : Int) := by
  have hs := h.s0
  have h0 := h.f0
  have m0 := Int.emod_nonneg a (show r.size ≠ 0 by omega)
  have m1 := Int.emod_lt_of_pos a (show 0 < r.size by omega)
  unfold Rg.sec
  omega
/-- The sector of a place. -/
def Rg.sc (r : Rg) (D : Dev) (q : Int) : List Int := D.at (r.sec q).toNat
theorem Good.lay {D : Dev} {n : Nat} {L : Lg} (h : Good D n) (hs : L.r.Sane) (hf : L.r.from_ + L.r.size ≤ (n : Int)) {b : List Int} (hr : RecOk L.epoch L.r.tail b) (hroom : (need b.length : Int) ≤ L.r.size) :
    D.wrsE (L.lay b) = 0 ∧ Good (D.wrs (L.lay b)) n ∧ (D.wrs (L.lay b)).laid = D.laid ∧
    (∀ k : Nat, k < need b.length → L.r.sc (D.wrs (L.lay b)) (L.r.tail + k) = (piece L.epoch L.r.tail b k).sec) ∧
    (∀ q : Int, q < L.r.tail + L.r.size → L.r.tail + need b.length ≤ q + L.r.size → (q < L.r.tail ∨ L.r.tail + need b.length ≤ q) → L.r.sc (D.wrs (L.lay b)) q = L.r.sc D q) := by
  obtain ⟨l, hl⟩ : ∃ l : List (Nat × List Int), l = (List.range (need b.length)).map fun (k : Nat) => ((L.r.sec (L.r.tail + k)).toNat, (piece L.epoch L.r.tail b k).sec) := ⟨_, rfl⟩
  have hlay : L.lay b = l.map fun x => ((x.1 : Int), x.2) := by
    rw [hl]
    unfold Lg.lay
    rw [List.map_map]
    apply List.map_congr_left
    intro k _
    have := Rg.sec_in hs hf (L.r.tail + k)
    simp only [Function.comp]
    rw [Int.toNat_of_nonneg this.1]
  have hmem : ∀ x ∈ l, ∃ k, k < need b.length ∧ x = ((L.r.sec (L.r.tail + k)).toNat, (piece L.epoch L.r.tail b k).sec) := by
    intro x hx
    rw [hl] at hx
    obtain ⟨k, hk, rfl⟩ := List.mem_map.1 hx
    exact ⟨k, List.mem_range.1 hk, rfl⟩
  have hnat : ∀ a c : Int, a < c + L.r.size → c < a + L.r.size → (L.r.sec a).toNat = (L.r.sec c).toNat → a = c := by
    intro a c h1 h2 e
    have s1 := Rg.sec_in hs hf a
    have s2 := Rg.sec_in hs hf c
    exact Rg.sec_inj hs h1 h2 (by omega)
  have hnd : (l.map (·.1)).Nodup := by
    rw [hl, List.map_map]
    rw [List.nodup_iff_pairwise_ne, List.pairwise_map]
    refine List.Pairwise.imp_of_mem (fun {a c} ha hc hne e => ?_) (List.nodup_iff_pairwise_ne.1 List.nodup_range)
    have ha' := List.mem_range.1 ha
    have hc' := List.mem_range.1 hc
    simp only [Function.comp] at e
    have := hnat (L.r.tail + a) (L.r.tail + c) (by omega) (by omega) e
    exact hne (by omega)
  obtain ⟨g1, g2, g3, g4, g5⟩ := Good.wrs l D h (fun x hx => by
    obtain ⟨k, hk, rfl⟩ := hmem x hx
    have := Rg.sec_in hs hf (L.r.tail + k)
    exact ⟨by show (L.r.sec (L.r.tail + k)).toNat < n; omega, Pc.sec_len (piece_ok hr.e0 hr.e1 hr.cutE hk).d0⟩) hnd
  rw [hlay]
  refine ⟨g1, g2, g3, fun k hk => ?_, fun q h1 h2 h3 => ?_⟩
  · have := g5 ((L.r.sec (L.r.tail + k)).toNat, (piece L.epoch L.r.tail b k).sec) (by rw [hl]; exact List.mem_map.2 ⟨k, List.mem_range.2 hk, rfl⟩)
    exact this
  · refine g4 _ (fun x hx e => ?_)
    obtain ⟨k, hk, rfl⟩ := hmem x hx
    have := hnat (L.r.tail + k) q (by omega) (by omega) e
    omega
end Go.Proofs.YtdeckbdaencjnaaDoor
set_option linter.unusedVariables false
set_option linter.unusedSimpArgs false
namespace Go.Proofs.YtdeckbdaencjnaaDoor
open Go.RowKit
theorem Good.flush {D : Dev} {n : Nat} (h : Good D n) : D.flushE = 0 ∧ Good D.flush n ∧ (∀ j, j < n → D.flush.at j = D.at j) ∧ ∀ j, j < n → D.flush.laid.getD j [] = D.at j := by
  obtain ⟨h1, h2⟩ := Dev.flush_ok h.gone (by rw [h.bud]; decide)
  rw [h2]
  have hl : D.spend.laid.length = n := by rw [Dev.spend_laid]; exact h.laid
  refine ⟨h1, ⟨?_, ?_, ?_, ?_⟩, fun j hj => ?_, fun j hj => ?_⟩
  · exact Dev.spend_gone h.gone (by rw [h.bud]; decide)
  · exact Dev.spend_neg h.bud
  · rw [Dev.lay_len]; exact hl
  · show (D.spend.late.map fun _ => none).length = n
    rw [List.length_map, Dev.spend_late]; exact h.late
  · rw [Dev.lay_at (by rw [hl]; exact hj), Dev.spend_at]
  · rw [Dev.lay_laid]
    simp only [List.getD_eq_getElem?_getD, List.getElem?_map, List.getElem?_range (show j < D.spend.laid.length by rw [hl]; exact hj), Option.map_some, Option.getD_some]
    exact Dev.spend_at D j
theorem layKept_or (D : Dev) : ∀ (is : List Nat) (bs : List Bool) (l : List (List Int)) (j : Nat), (layKept D is bs l).getD j [] = l.getD j [] ∨ (j < l.length ∧ (layKept D is bs l).getD j [] = D.at j)
  | [], bs, l, j => by cases bs <;> exact .inl rfl
  | i :: is, [], l, j => .inl rfl
  | i :: is, b :: bs, l, j => by
    simp only [layKept]
    rcases layKept_or D is bs (if b then l.set i (D.at i) else l) j with h | ⟨h1, h2⟩
    · rw [h]
      cases b with
      | false => exact .inl rfl
      | true =>
        simp only [if_true, List.getD_eq_getElem?_getD]
        by_cases hij : i = j
        · subst hij
          by_cases hl : i < l.length
          · refine .inr ⟨hl, ?_⟩
            rw [List.getElem?_set_self hl]; rfl
          · left
            rw [List.set_eq_of_length_le (by omega)]
        · left; rw [List.getElem?_set_ne hij]
    · refine .inr ⟨?_, h2⟩
      cases b <;> simpa using h1
theorem Good.crash {D : Dev} {n : Nat} (h1 : D.laid.length = n) (h2 : D.late.length = n) (keep : List Bool) : Good (D.crash keep) n ∧ (∀ j, (D.crash keep).at j = (D.crash keep).laid.getD j []) ∧ ∀ j, (D.crash keep).at j = D.laid.getD j [] ∨ (D.crash keep).at j = D.at j := by
  refine ⟨⟨rfl, rfl, by rw [Dev.crash_len]; exact h1, by show (D.late.map fun _ => none).length = n; rw [List.length_map]; exact h2⟩, fun j => Dev.crash_at D keep j, fun j => ?_⟩
  rw [Dev.crash_at]
  rcases layKept_or D D.cached keep D.laid j with h | ⟨_, h⟩
  · exact .inl h
  · exact .inr h
theorem ends_of {epoch : Int} {l : List (List Int)} {a last : Int} (h : ∀ x, l[0]? = some x → readE x ≠ 0) : Ends epoch l a last := by
  left
  cases l with
  | nil => simp [gather, Gat.no]
  | cons x l =>
    have := h x rfl
    unfold gather
    simp only
    rw [if_pos this]
    exact this
theorem ringSecs_at (D : Dev) (r : Rg) (i : Nat) (hi : i < r.size.toNat) : (ringSecs D r)[i]? = some (r.sc D (r.head + i)) := by
  unfold ringSecs
  rw [List.getElem?_map, List.getElem?_range hi]
  rfl
theorem ringSecs_len (D : Dev) (r : Rg) : (ringSecs D r).length = r.size.toNat := by simp [ringSecs]
theorem zsec_read : readE zsec ≠ 0 := by
  have : zsec = List.replicate 64 0 := rfl
  rw [this, read_zero]; decide
theorem opened_zero {D : Dev} {from_ size head epoch : Int} (h : ∀ q, (Rg.mk from_ size head head).sc D q = zsec) : opened D from_ size head epoch = ([], head) := by
  unfold opened
  apply scan_stop
  apply ends_of
  intro x hx
  have hi := (List.getElem?_eq_some_iff.1 hx).1
  rw [ringSecs_len] at hi
  rw [ringSecs_at _ _ _ hi, h] at hx
  rw [← Option.some.inj hx]
  exact zsec_read
theorem Dev.new_sc {n : Nat} {r : Rg} (hs : r.Sane) (hf : r.from_ + r.size ≤ (n : Int)) (q : Int) : r.sc (Dev.new n) q = zsec := by
  have := Rg.sec_in hs hf q
  unfold Rg.sc
  exact Dev.new_at n _ (by omega)
end Go.Proofs.YtdeckbdaencjnaaDoor
set_option linter.unusedVariables false
set_option linter.unusedSimpArgs false
namespace Go.Proofs.YtdeckbdaencjnaaDoor
open Go.RowKit
def flat (E : Int) : Int → List (List Int) → List (List Int)
  | _, [] => []
  | a, b :: R => cutL E a b ++ flat E (a + need b.length) R
theorem flatE_len (E : Int) : ∀ (R : List (List Int)) (a : Int), ((flat E a R).length : Int) = endAt a R - a
  | [], a => by simp [flat, endAt]
  | b :: R, a => by
    have := flatE_len E R (a + need b.length)
    simp only [flat, endAt, List.length_append, cutL_len]
    omega
theorem endAt_ge : ∀ (R : List (List Int)) (a : Int), a + R.length ≤ endAt a R
  | [], a => by simp [endAt]
  | b :: R, a => by
    have := endAt_ge R (a + need b.length)
    have hp := need_pos b.length
    simp only [endAt, List.length_cons]
    omega
theorem endAt_snoc (b : List Int) : ∀ (R : List (List Int)) (a : Int), endAt a (R ++ [b]) = endAt a R + need b.length
  | [], a => rfl
  | x :: R, a => endAt_snoc b R (a + need x.length)
theorem recsAt_snoc (b : List Int) : ∀ (R : List (List Int)) (a : Int), recsAt a (R ++ [b]) = recsAt a R ++ [(endAt a R, b)]
  | [], a => rfl
  | x :: R, a => by
    have := recsAt_snoc b R (a + need x.length)
    simp only [List.cons_append, recsAt, endAt, this]
theorem recsAt_len : ∀ (R : List (List Int)) (a : Int), (recsAt a R).length = R.length
  | [], a => rfl
  | x :: R, a => by simp [recsAt, recsAt_len R]
theorem flat_snoc (E : Int) (b : List Int) : ∀ (R : List (List Int)) (a : Int), flat E a (R ++ [b]) = flat E a R ++ cutL E (endAt a R) b
  | [], a => by simp [flat, endAt]
  | x :: R, a => by
    have := flat_snoc E b R (a + need x.length)
    simp only [List.cons_append, flat, endAt, this, List.append_assoc]
theorem allOk_snoc (E : Int) (b : List Int) : ∀ (R : List (List Int)) (a : Int), AllOk E a R → RecOk E (endAt a R) b → AllOk E a (R ++ [b])
  | [], a, _, h => ⟨h, trivial⟩
  | x :: R, a, h, hb => ⟨h.1, allOk_snoc E b R _ h.2 hb⟩
theorem cutL_at (E a : Int) (b : List Int) (k : Nat) (hk : k < need b.length) : (cutL E a b)[k]? = some (piece E a b k).sec := by
  unfold cutL
  rw [List.getElem?_map, List.getElem?_range hk]; rfl
theorem hasAll_flat (E : Int) : ∀ (R : List (List Int)) (l : List (List Int)) (a : Int), (∀ i, i < (flat E a R).length → l[i]? = (flat E a R)[i]?) → HasAll E R l a
  | [], _, _, _ => trivial
  | b :: R, l, a, h => by
    refine ⟨fun k hk => ?_, hasAll_flat E R _ _ (fun i hi => ?_)⟩
    · rw [h k (by simp [flat, cutL_len]; omega)]
      simp only [flat]
      rw [List.getElem?_append_left (by rw [cutL_len]; exact hk), cutL_at _ _ _ _ hk]
    · have := h (need b.length + i) (by simp [flat, cutL_len]; exact hi)
      rw [List.getElem?_drop, this]
      simp only [flat]
      rw [List.getElem?_append_right (by rw [cutL_len]; omega), cutL_len]
      congr 1; omega
theorem sure_flat {E epoch : Int} : ∀ (R : List (List Int)) (l : List (List Int)) (a last : Int), (∀ i, i < (flat E a R).length → l[i]? = (flat E a R)[i]?) →
    (∀ z, (R = [] → z = last) → (R ≠ [] → z = E) → Ends epoch (l.drop (flat E a R).length) (endAt a R) z) → Sure E epoch R l a last
  | [], l, a, last, _, h => by
    have := h last (fun _ => rfl) (fun h => absurd rfl h)
    simp only [flat, endAt, List.length_nil, List.drop_zero] at this
    exact this
  | b :: R, l, a, last, h, he => by
    have hb := hasAll_flat E (b :: R) l a h
    refine ⟨.inl hb.1, fun _ => ?_⟩
    refine sure_flat R _ _ E (fun i hi => ?_) (fun z h1 h2 => ?_)
    · have := h (need b.length + i) (by simp [flat, cutL_len]; exact hi)
      rw [List.getElem?_drop, this]
      simp only [flat]
      rw [List.getElem?_append_right (by rw [cutL_len]; omega), cutL_len]
      congr 1; omega
    · have hz : z = E := by
        by_cases hR : R = []
        · exact h1 hR
        · exact h2 hR
      have := he z (fun h => by cases h) (fun _ => hz)
      simp only [flat, endAt, List.length_append, cutL_len] at this
      rw [List.drop_drop]
      exact this
/-- All of them are told. -/
theorem scan_all {E epoch : Int} (hE : E < epoch) (R : List (List Int)) (f : Nat) (l : List (List Int)) (a last : Int) (hf : l.length < f) (hl : last ≤ E) (hok : AllOk E a R)
    (h : ∀ i, i < (flat E a R).length → l[i]? = (flat E a R)[i]?) (he : ∀ z, (R = [] → z = last) → (R ≠ [] → z = E) → Ends epoch (l.drop (flat E a R).length) (endAt a R) z) : scan epoch f l a last = (recsAt a R, endAt a R) := by
  obtain ⟨m, hm, hsc, hall⟩ := scan_sure hE R f l a last hf hl hok (sure_flat R l a last h he)
  have := hall R.length (Nat.le_refl _) (by rw [List.take_length]; exact hasAll_flat E R l a h)
  have hmr : m = R.length := by omega
  rw [hsc, hmr, List.take_length]
/-- A log that was opened once, and its records. -/
structure Laid (L : Lg) (D : Dev) (n : Nat) (R : List (List Int)) (c : Int → List Int) : Prop where
  good : Good D n
  bys : SecBys D
  sane : L.r.Sane
  fit : L.r.from_ + L.r.size ≤ (n : Int)
  brk : L.broken = false
  e0 : 0 ≤ L.epoch
  e1 : L.epoch ≤ 4294967295
  tail : L.r.tail = endAt L.r.head R
  ok : AllOk L.epoch L.r.head R
  has : ∀ i, i < (flat L.epoch L.r.head R).length → (flat L.epoch L.r.head R)[i]? = some (L.r.sc D (L.r.head + i))
  rest : ∀ q, L.r.tail ≤ q → q < L.r.head + L.r.size → L.r.sc D q = c q
theorem Laid.app {L : Lg} {D : Dev} {n : Nat} {R : List (List Int)} {c : Int → List Int} (h : Laid L D n R c) {b : List Int} (hb : Bys b) (hn : b.length ≤ 44000) :
    (L.full b ≠ 0 ∧ L.full b = 5 ∧ L.appE D b = 5 ∧ L.appP D b = 0 ∧ L.app D b = L ∧ L.appD D b = D ∧ (L.r.size - (L.r.tail - L.r.head) < need b.length ∨ 1099511627776 - L.r.tail < need b.length)) ∨
    (L.appE D b = 0 ∧ L.appP D b = L.r.tail ∧ (need b.length : Int) ≤ L.r.size - (L.r.tail - L.r.head) ∧ L.app D b = { L with r := L.r.taken (need b.length) } ∧ (L.appD D b).laid = D.laid ∧ Laid { L with r := L.r.taken (need b.length) } (L.appD D b) n (R ++ [b]) c) := by
  have hnb : ¬ L.broken = true := by rw [h.brk]; decide
  by_cases hf : L.r.size - (L.r.tail - L.r.head) < need b.length ∨ 1099511627776 - L.r.tail < need b.length
  · have hfull : L.full b = 5 := by unfold Lg.full Rg.takeE; rw [if_pos hf]
    have hE : L.appE D b = 5 := by unfold Lg.appE; rw [if_neg hnb, if_pos (by rw [hfull]; decide), hfull]
    refine .inl ⟨by rw [hfull]; decide, hfull, hE, ?_, ?_, ?_, hf⟩
    · unfold Lg.appP; rw [hE, if_neg (by decide)]
    · unfold Lg.app; rw [if_neg hnb, if_pos (by rw [hfull]; decide)]
    · unfold Lg.appD; rw [if_neg hnb, if_pos (by rw [hfull]; decide)]
  · have hfull : L.full b = 0 := by unfold Lg.full Rg.takeE; rw [if_neg hf]
    have hs := h.sane
    obtain ⟨f0, f1, s0, s1, h0, ht, t1, ft⟩ := h.sane
    have hr : RecOk L.epoch L.r.tail b := ⟨h.e0, h.e1, by omega, by omega, by
      have := need_tight b.length
      omega, hb⟩
    obtain ⟨g1, g2, g3, g4, g5⟩ := h.good.lay hs h.fit hr (by omega)
    have hE : L.appE D b = 0 := by unfold Lg.appE; rw [if_neg hnb, if_neg (by rw [hfull]; simp), g1]
    have hD : L.appD D b = D.wrs (L.lay b) := by unfold Lg.appD; rw [if_neg hnb, if_neg (by rw [hfull]; simp)]
    have hp := need_pos b.length
    have hfl := flatE_len L.epoch R L.r.head
    rw [← h.tail] at hfl
    refine .inr ⟨hE, by unfold Lg.appP; rw [if_pos hE], by omega, by unfold Lg.app; rw [if_neg hnb, if_neg (by rw [hfull]; simp), if_neg (by rw [g1]; simp)], by rw [hD, g3], ?_⟩
    rw [hD]
    refine ⟨g2, ?_, ⟨f0, f1, s0, s1, h0, by show L.r.head ≤ L.r.tail + _; omega, by show L.r.tail + _ ≤ _; omega, by show L.r.tail + _ - L.r.head ≤ L.r.size; omega⟩, h.fit, h.brk, h.e0, h.e1, ?_, ?_, ?_, ?_⟩
    · have : ∀ (l : List (Int × List Int)) (D : Dev), SecBys D → (∀ x ∈ l, Bys x.2) → SecBys (D.wrs l) := by
        intro l
        induction l with
        | nil => intro D h _; exact h
        | cons x l ih =>
          intro D h hx
          unfold Dev.wrs
          split
          · exact h.write _ (hx x (by simp))
          · exact ih _ (h.write _ (hx x (by simp))) (fun y hy => hx y (by simp [hy]))
      refine this _ _ h.bys (fun x hx => ?_)
      unfold Lg.lay at hx
      obtain ⟨k, hk, rfl⟩ := List.mem_map.1 hx
      exact Pc.sec_bys (piece_bys hb k)
    · show L.r.tail + need b.length = endAt L.r.head (R ++ [b])
      rw [endAt_snoc, h.tail]
    · exact allOk_snoc L.epoch b R L.r.head h.ok (by rw [← h.tail]; exact hr)
    · intro i hi
      show (flat L.epoch L.r.head (R ++ [b]))[i]? = some (L.r.sc (D.wrs (L.lay b)) (L.r.head + i))
      have hi' : i < (flat L.epoch L.r.head (R ++ [b])).length := hi
      rw [flat_snoc, List.length_append, cutL_len] at hi'
      rw [flat_snoc]
      by_cases hlt : i < (flat L.epoch L.r.head R).length
      · rw [List.getElem?_append_left hlt, h.has i hlt, g5 _ (by omega) (by omega) (.inl (by omega))]
      · obtain ⟨k, hk⟩ : ∃ k, i = (flat L.epoch L.r.head R).length + k := ⟨i - (flat L.epoch L.r.head R).length, by omega⟩
        rw [List.getElem?_append_right (by omega), hk, Nat.add_sub_cancel_left, ← h.tail, cutL_at _ _ _ _ (by omega), ← g4 k (by omega)]
        congr 2; omega
    · intro q h1 h2
      have h1' : L.r.tail + need b.length ≤ q := h1
      have h2' : q < L.r.head + L.r.size := h2
      show L.r.sc (D.wrs (L.lay b)) q = c q
      rw [g5 q (by omega) (by omega) (.inr h1'), h.rest q (by omega) h2']
end Go.Proofs.YtdeckbdaencjnaaDoor
set_option linter.unusedVariables false
set_option linter.unusedSimpArgs false
namespace Go.Proofs.YtdeckbdaencjnaaDoor
open Go.RowKit
theorem opened_laid {D : Dev} {from_ size head epoch E : Int} (hE0 : 0 ≤ E) (hE : E < epoch) (R : List (List Int)) (hs : 0 ≤ size) (hok : AllOk E head R) (hfl : ((flat E head R).length : Int) ≤ size)
    (has : ∀ i, i < (flat E head R).length → (flat E head R)[i]? = some ((Rg.mk from_ size head head).sc D (head + i))) (he : ((flat E head R).length : Int) < size → readE ((Rg.mk from_ size head head).sc D (endAt head R)) ≠ 0) :
    opened D from_ size head epoch = (recsAt head R, endAt head R) := by
  unfold opened
  have hln := ringSecs_len D (Rg.mk from_ size head head)
  have hsz : (Rg.mk from_ size head head).size = size := rfl
  refine scan_all hE R _ _ _ _ (by rw [hln, hsz]; omega) hE0 hok (fun i hi => ?_) (fun z _ _ => ?_)
  · rw [ringSecs_at _ _ _ (by rw [hsz]; omega), has i hi]
  · apply ends_of
    intro x hx
    rw [List.getElem?_drop, Nat.add_zero] at hx
    have hi := (List.getElem?_eq_some_iff.1 hx).1
    rw [hln, hsz] at hi
    rw [ringSecs_at _ _ _ (by rw [hsz]; exact hi)] at hx
    have hx' := Option.some.inj hx
    have hfe := flatE_len E R head
    have e : (Rg.mk from_ size head head).head + ((flat E head R).length : Int) = endAt head R := by show head + _ = _; omega
    rw [e] at hx'
    rw [← hx']
    exact he (by omega)
theorem Laid.new {n : Nat} {from_ size head epoch : Int} (hs : (Rg.mk from_ size head head).Sane) (hf : from_ + size ≤ (n : Int)) (e0 : 1 ≤ epoch) (e1 : epoch ≤ 4294967295) :
    openL (Dev.new n) from_ size head epoch = ⟨⟨from_, size, head, head⟩, epoch, head, false⟩ ∧ (opened (Dev.new n) from_ size head epoch).1 = [] ∧ Laid ⟨⟨from_, size, head, head⟩, epoch, head, false⟩ (Dev.new n) n [] (fun _ => zsec) := by
  have ho : opened (Dev.new n) from_ size head epoch = ([], head) := opened_zero (fun q => Dev.new_sc hs hf q)
  refine ⟨by unfold openL; rw [ho], by rw [ho], ⟨Good.new n, SecBys.new n, hs, hf, rfl, by show 0 ≤ epoch; omega, e1, rfl, trivial, fun i hi => by simp [flat] at hi, fun q _ _ => Dev.new_sc hs hf q⟩⟩
theorem Rg.sc_congr {r r' : Rg} {D D' : Dev} (h1 : r.from_ = r'.from_) (h2 : r.size = r'.size) (q : Int) (h : D.at (r.sec q).toNat = D'.at (r.sec q).toNat) : r.sc D q = r'.sc D' q := by
  have : r'.sec q = r.sec q := by unfold Rg.sec; rw [h1, h2]
  unfold Rg.sc
  rw [this, h]
theorem Laid.force {L : Lg} {D : Dev} {n : Nat} {R : List (List Int)} {c : Int → List Int} (h : Laid L D n R c) :
    L.forceE D = 0 ∧ L.force D = { L with safe := L.r.tail } ∧ L.forceD D = D.flush ∧ Laid { L with safe := L.r.tail } D.flush n R c ∧ ∀ q, D.flush.laid.getD (L.r.sec q).toNat [] = L.r.sc D q := by
  have hnb : ¬ L.broken = true := by rw [h.brk]; decide
  obtain ⟨g1, g2, g3, g4⟩ := h.good.flush
  have hsec : ∀ q, (L.r.sec q).toNat < n := fun q => by have := Rg.sec_in h.sane h.fit q; omega
  have hsc : ∀ q, L.r.sc D.flush q = L.r.sc D q := fun q => g3 _ (hsec q)
  refine ⟨by unfold Lg.forceE; rw [if_neg hnb, g1], by unfold Lg.force; rw [if_neg hnb, if_neg (by rw [g1]; simp)], by unfold Lg.forceD; rw [if_neg hnb], ?_, fun q => g4 _ (hsec q)⟩
  refine ⟨g2, h.bys.flush, h.sane, h.fit, h.brk, h.e0, h.e1, h.tail, h.ok, fun i hi => ?_, fun q h1 h2 => ?_⟩
  · show _ = some (L.r.sc D.flush (L.r.head + i))
    rw [hsc]; exact h.has i hi
  · show L.r.sc D.flush q = c q
    rw [hsc]; exact h.rest q h1 h2
/-- Opened again, a log tells all its records, if nothing lies behind them. -/
theorem Laid.opens {L : Lg} {D D' : Dev} {n : Nat} {R : List (List Int)} {c : Int → List Int} (h : Laid L D n R c) (hc : L.r.tail < L.r.head + L.r.size → readE (L.r.sc D' L.r.tail) ≠ 0) (hsame : ∀ q, L.r.head ≤ q → q < L.r.tail → L.r.sc D' q = L.r.sc D q) {epoch : Int} (he : L.epoch < epoch) :
    opened D' L.r.from_ L.r.size L.r.head epoch = (recsAt L.r.head R, L.r.tail) := by
  have hs := h.sane
  have hfe := flatE_len L.epoch R L.r.head
  rw [← h.tail] at hfe
  have h1 := hs.s0
  have h2 := hs.fit
  rw [h.tail]
  refine opened_laid h.e0 he R (by omega) h.ok (by omega) (fun i hi => ?_) (fun hlt => ?_)
  · rw [h.has i hi, ← hsame _ (by omega) (by omega)]
    rfl
  · rw [← h.tail]
    exact hc (by omega)
end Go.Proofs.YtdeckbdaencjnaaDoor
