/-
  A log on a ring of sectors, as plain functions. Conditions: none.
-/
import Derived.Test.YtdeckbdaencjnaaDoorP6
import Derived.Test.YtdeckbdaencjnaaDoorG7
import Derived.Test.YtdeckbdaencjnaaDoorSecB
set_option linter.unusedVariables false
set_option linter.unusedSimpArgs false
namespace Go.Proofs.YtdeckbdaencjnaaDoor
open Go.RowKit
structure Lg where
  r : Rg
  epoch : Int
  safe : Int
  broken : Bool
/-- The sectors of lots. -/
def lotSecs (D : Dev) (l : List (Int × Int)) : List (List Int) := l.flatMap fun x => (List.range x.2.toNat).map fun k => D.at (x.1.toNat + k)
/-- The ring's sectors from its head on. -/
def ringSecs (D : Dev) (r : Rg) : List (List Int) := (List.range r.size.toNat).map fun (i : Nat) => D.at (r.sec (r.head + i)).toNat
theorem lotSecs_ring (D : Dev) (r : Rg) (h : r.Sane) : lotSecs D (r.spans r.head r.size) = ringSecs D r := by
  have hs := h.s0
  have m0 := Int.emod_nonneg r.head (show r.size ≠ 0 by omega)
  have m1 := Int.emod_lt_of_pos r.head (show 0 < r.size by omega)
  obtain ⟨f, hf⟩ : ∃ f, f = r.head % r.size := ⟨_, rfl⟩
  have hfirst : r.first r.head = f := by rw [hf]; rfl
  rw [← hf] at m0 m1
  have hah : r.ahead r.head r.size = r.size - f := by unfold Rg.ahead; rw [hfirst]; omega
  have hsec : ∀ i : Nat, (i : Int) < r.size → r.sec (r.head + i) = if (i : Int) < r.size - f then r.from_ + f + i else r.from_ + (i - (r.size - f)) := by
    intro i hi
    unfold Rg.sec
    have hd := Int.emod_def r.head r.size
    rw [← hf] at hd
    by_cases hlt : (i : Int) < r.size - f
    · rw [if_pos hlt]
      have : (r.head + i) % r.size = f + i := by
        have e : r.head + i = (f + i) + r.size * (r.head / r.size) := by omega
        rw [e, Int.add_mul_emod_self_left, Int.emod_eq_of_lt (by omega) (by omega)]
      omega
    · rw [if_neg hlt]
      have : (r.head + i) % r.size = i - (r.size - f) := by
        have e : r.head + i = (i - (r.size - f)) + r.size * (r.head / r.size + 1) := by rw [Int.mul_add, Int.mul_one]; omega
        rw [e, Int.add_mul_emod_self_left, Int.emod_eq_of_lt (by omega) (by omega)]
      omega
  have hsp : lotSecs D (r.spans r.head r.size) = ((List.range (r.size - f).toNat).map fun k => D.at ((r.from_ + f).toNat + k)) ++ ((List.range f.toNat).map fun k => D.at (r.from_.toNat + k)) := by
    unfold Rg.spans
    rw [hfirst, hah]
    unfold fullL
    have h1 : 0 < r.size - f := by omega
    by_cases hf0 : 0 < f
    · have h2 : 0 < r.size - (r.size - f) := by omega
      have h3 : r.size - (r.size - f) = f := by omega
      have e : [(r.from_ + f, r.size - f), (r.from_, r.size - (r.size - f))].filter (fun x : Int × Int => decide (0 < x.2)) = [(r.from_ + f, r.size - f), (r.from_, f)] := by
        simp only [List.filter_cons, h3, h1, hf0, decide_true, if_true, List.filter_nil]
      rw [e]
      simp [lotSecs]
    · have hz : f = 0 := by omega
      have e : [(r.from_ + f, r.size - f), (r.from_, r.size - (r.size - f))].filter (fun x : Int × Int => decide (0 < x.2)) = [(r.from_ + f, r.size - f)] := by
        have h2 : ¬ 0 < r.size - (r.size - f) := by omega
        simp only [List.filter_cons, h1, h2, decide_true, decide_false, if_true, List.filter_nil]
        rfl
      rw [e, hz]
      simp [lotSecs]
  rw [hsp]
  unfold ringSecs
  have hn : r.size.toNat = (r.size - f).toNat + f.toNat := by omega
  rw [hn, List.range_add, List.map_append, List.map_map]
  have hff := h.f0
  congr 1
  · apply List.map_congr_left
    intro k hk
    have hk' := List.mem_range.1 hk
    rw [hsec k (by omega), if_pos (by omega)]
    congr 1; omega
  · apply List.map_congr_left
    intro k hk
    have hk' := List.mem_range.1 hk
    show _ = D.at (r.sec (r.head + (((r.size - f).toNat + k : Nat) : Int))).toNat
    rw [hsec _ (by omega), if_neg (by omega)]
    congr 1; omega
/-- The records that are told, one behind the other, and where they end. -/
def scan (epoch : Int) : Nat → List (List Int) → Int → Int → List (Int × List Int) × Int
  | 0, _, at_, _ => ([], at_)
  | f + 1, l, at_, last =>
    let g := gather l at_
    if g.e ≠ 0 ∨ epoch ≤ g.epoch ∨ g.epoch < last ∨ 1099511627776 < at_ + g.count then ([], at_)
    else
      let t := scan epoch f (l.drop g.count.toNat) (at_ + g.count) g.epoch
      ((at_, g.data) :: t.1, t.2)
theorem gatherOn_count {E C : Int} : ∀ (l : List (List Int)) (k a : Int) (acc : List Int), 0 ≤ k → k ≤ C - 1 → (gatherOn E C l k a acc).e = 0 → (gatherOn E C l k a acc).count = C ∧ C - k ≤ (l.length : Int) ∧ (gatherOn E C l k a acc).epoch = E
  | [], k, a, acc, _, _, h => by simp [gatherOn, Gat.no] at h
  | b :: l, k, a, acc, h0, h1, h => by
    unfold gatherOn at h ⊢
    by_cases c1 : readE b ≠ 0
    · rw [if_pos c1] at h; exact absurd h c1
    rw [if_neg c1] at h ⊢
    by_cases c2 : ¬ (pcOf b).Stamp E C a k
    · rw [if_pos c2] at h; exact absurd h (by simp [Gat.no])
    rw [if_neg c2] at h ⊢
    by_cases c3 : k = C - 1
    · rw [if_pos c3]
      refine ⟨rfl, ?_, rfl⟩
      simp; omega
    · rw [if_neg c3] at h ⊢
      have := gatherOn_count l (k + 1) (a + 1) _ (by omega) (by omega) h
      refine ⟨this.1, ?_, this.2.2⟩
      have h2 := this.2.1
      simp; omega
theorem gather_count {l : List (List Int)} {at_ : Int} (h : (gather l at_).e = 0) (h64 : ∀ b ∈ l, True) : 1 ≤ (gather l at_).count ∧ (gather l at_).count ≤ (l.length : Int) ∧ (gather l at_).count ≤ 1024 ∧ 0 ≤ (gather l at_).epoch := by
  cases l with
  | nil => simp [gather, Gat.no] at h
  | cons b l =>
    unfold gather at h ⊢
    simp only at h ⊢
    by_cases c1 : readE b ≠ 0
    · rw [if_pos c1] at h; exact absurd h c1
    rw [if_neg c1] at h ⊢
    have hr : readE b = 0 := by simpa using c1
    have hok : (pcOf b).Ok := by
      unfold readE at hr
      split at hr
      · exact absurd hr (by decide)
      split at hr
      · exact absurd hr (by decide)
      split at hr
      · exact absurd hr (by decide)
      split at hr
      · exact absurd hr (by decide)
      split at hr
      · exact absurd hr (by decide)
      rename_i h1 h2 h3 h4 h5
      simpa [Pc.may] using h5
    have := gatherOn_count (b :: l) 0 at_ [] (by omega) (by have := hok.c0; omega) h
    have hc0 := hok.c0
    have hc1 := hok.c1
    have he0 := hok.e0
    omega
/-- Sectors that are written one behind the other, as long as there is no error. -/
def Dev.wrs (D : Dev) : List (Int × List Int) → Dev
  | [] => D
  | x :: l => if D.writeE x.1 x.2 ≠ 0 then D.write x.1 x.2 else (D.write x.1 x.2).wrs l
def Dev.wrsE (D : Dev) : List (Int × List Int) → Int
  | [] => 0
  | x :: l => if D.writeE x.1 x.2 ≠ 0 then D.writeE x.1 x.2 else (D.write x.1 x.2).wrsE l
/-- Where a record's sectors go. -/
def Lg.lay (L : Lg) (b : List Int) : List (Int × List Int) := (List.range (need b.length)).map fun (k : Nat) => (L.r.sec (L.r.tail + k), (piece L.epoch L.r.tail b k).sec)
def Lg.full (L : Lg) (b : List Int) : Int := L.r.takeE (need b.length)
def Lg.appE (L : Lg) (D : Dev) (b : List Int) : Int := if L.broken = true then 11 else if L.full b ≠ 0 then L.full b else D.wrsE (L.lay b)
def Lg.appD (L : Lg) (D : Dev) (b : List Int) : Dev := if L.broken = true then D else if L.full b ≠ 0 then D else D.wrs (L.lay b)
def Lg.appP (L : Lg) (D : Dev) (b : List Int) : Int := if L.appE D b = 0 then L.r.tail else 0
def Lg.app (L : Lg) (D : Dev) (b : List Int) : Lg :=
  if L.broken = true then L else if L.full b ≠ 0 then L else if D.wrsE (L.lay b) ≠ 0 then { L with broken := true } else { L with r := L.r.taken (need b.length) }
def Lg.forceE (L : Lg) (D : Dev) : Int := if L.broken = true then 11 else D.flushE
def Lg.forceD (L : Lg) (D : Dev) : Dev := if L.broken = true then D else D.flush
def Lg.force (L : Lg) (D : Dev) : Lg := if L.broken = true then L else if D.flushE ≠ 0 then { L with broken := true } else { L with safe := L.r.tail }
def Lg.dropE (L : Lg) (to : Int) : Int := if L.broken = true then 11 else L.r.dropE to
def Lg.drop (L : Lg) (to : Int) : Lg := if L.broken = true then L else if L.r.dropE to = 0 then { L with r := L.r.dropped to } else L
/-- A log may be. -/
structure Lg.Ok (L : Lg) (n : Nat) : Prop where
  sane : L.r.Sane
  e0 : 1 ≤ L.epoch
  e1 : L.epoch ≤ 4294967295
  fit : L.r.from_ + L.r.size ≤ (n : Int)
def opened (D : Dev) (from_ size head epoch : Int) : List (Int × List Int) × Int := scan epoch (size.toNat + 1) (ringSecs D ⟨from_, size, head, head⟩) head 0
end Go.Proofs.YtdeckbdaencjnaaDoor
