/-
  super's fields and Sane; sum's Open. Conditions: none.
-/
import Derived.Test.YtdeckbdaencjnaaDoorSu
import Derived.Test.YtdeckbdaencjnaaDoorAppZ
import Derived.Test.YtdeckbdaencjnaaDoorShelf
import Derived.Test.YtdeckbdaencjnaaDoorT8b
import Derived.StillTailTactics
import Derived.Deep.QuietTactic
import Derived.BigQuiet
import Derived.Outline
set_option linter.unusedVariables false
set_option linter.unusedSimpArgs false
namespace Go.Proofs.YtdeckbdaencjnaaDoor
open Go.RowKit

theorem BytesAt.bin {w : World} {A : Option Addr} {n : Nat} {xs : List Int} (h : BytesAt w A n xs) : Lib.BytesIn w A n xs := by
  cases A with
  | none => rw [h.len_none]; exact Lib.BytesIn.nil _ _ _
  | some ad => exact Lib.BytesIn.of_cells (fun i hi => h.getD i hi)
theorem bytesOf_inj {xs ys : List Int} (hx : Bys xs) (hy : Bys ys) (h : Lib.bytesOf xs = Lib.bytesOf ys) : xs = ys := by
  unfold Lib.bytesOf at h
  have hl : xs.length = ys.length := by
    have := congrArg List.length h
    simpa using this
  apply List.ext_getElem hl
  intro i h1 h2
  have hi : (xs.map fun n => UInt8.ofNat n.toNat)[i]? = (ys.map fun n => UInt8.ofNat n.toNat)[i]? := by rw [h]
  simp [h1, h2] at hi
  have b1 := hx _ (List.getElem_mem h1)
  have b2 := hy _ (List.getElem_mem h2)
  have := congrArg UInt8.toNat hi
  simp at this
  omega
theorem bytesOf_eq {xs ys : List Int} (hx : Bys xs) (hy : Bys ys) : (Lib.bytesOf xs == Lib.bytesOf ys) = decide (xs = ys) := by
  rw [Bool.eq_iff_iff]
  simp only [beq_iff_eq, decide_eq_true_eq]
  exact ⟨fun h => bytesOf_inj hx hy h, fun h => by rw [h]⟩
theorem sealL_bys {xs : List Int} (h : Bys xs) : Bys (sealL xs) := h.app (le_bys _ _)

def openE (xs : List Int) : Int := if xs.length < 4 then 2 else if sealed xs = true then 0 else 4
/-- Bytes of the call's own, and an error. -/
structure OpenRet (w w' : World) (e : Ending) (xs : List Int) : Prop where
  ex : ∃ v, e = .returned (.tuple #[v, .int .i64 (openE xs)]) ∧ (openE xs = 0 → OwnV w w' v (xs.take (xs.length - 4))) ∧ Fr F0 w w'

section
variable {w : World}
set_option maxRecDepth 100000 in
set_option maxHeartbeats 1000000 in
theorem open_c (A : Option Addr) (c : Nat) (xs : List Int) (hA : Byt w A c xs) (hn : xs.length ≤ 1099511627776) (hb : Bys xs) :
    Calls Tryd.prog 58 #[.slice A xs.length c] w fun e w' => OpenRet w w' e xs := by
  by_cases h4 : xs.length < 4
  · have hr : openE xs = 2 := by simp [openE, h4]
    have HR : OpenRet w w (.returned (.tuple #[.slice none 0 0, .int .i64 2])) xs := ⟨_, by rw [hr], fun h => by omega, Fr.refl _ _⟩
    have g1 : (xs.length : Int) < 4 := by omega
    go_enter Tryd.func58, Tryd.ntmps58
    go_wp2_with fail
    go_ret2
    exact HR
  · obtain ⟨m, hm⟩ : ∃ m, m = xs.length - 4 := ⟨_, rfl⟩
    have hml : xs.length = m + 4 := by omega
    have hat := hA.at_
    have hcap := hA.cap
    have hbig := hA.big
    have htk := hat.take m (by omega)
    have hbt := hb.take m
    have HM := Lib.hid hm
    have HML := Lib.hid hml
    rw [hml] at hcap hat ⊢
    clear hm hml
    have hsl := sealL_bys hbt
    have hsE := HML.out
    have hse : sealed xs = decide (sealL (xs.take m) = xs) := by
      unfold sealed
      rw [← HM.out]
      have : (4 ≤ xs.length) := by omega
      simp [this]
    have HSE := Lib.hid hse
    clear hse hsE
    have g0 : (0 : Int) ≤ (m : Int) := Int.natCast_nonneg _
    have g1 : (m : Int) ≤ 1099511627776 := by have := HML.out; omega
    have g2 : (m : Int) + 4 ≤ (c : Int) := by omega
    go_enter Tryd.func58, Tryd.ntmps58
    go_wp2_with fail
    refine (seal_c A m c (xs.take m) htk (by omega) hbt).mono ?_
    rintro e w1 ⟨v1, rfl, hown⟩
    obtain ⟨A1, c1, rfl, hb1, hn1⟩ := hown.byt
    have hf1 := hown.fr
    go_wp2_with fail
    refine (Tryd.bytes_Equal_all A1 A (sealL (xs.take m)).length c1 (m + 4) c (sealL (xs.take m)) xs w1 rfl HML.out hb1.at_.bin (by have := hat.keep0 hf1; exact this.bin)).mono ?_
    rintro e w2 ⟨rfl, rfl⟩
    rw [bytesOf_eq hsl hb, ← HSE.out]
    by_cases hs : sealed xs = true
    · have hr : openE xs = 0 := by simp [openE, h4, hs]
      have HR := Lib.hid hr
      rw [hs]
      clear hs hr
      go_wp2_with fail
      refine (clone_c A m c (xs.take m) (htk.keep0 hf1) (by omega)).mono ?_
      rintro e w3 ⟨v3, rfl, hown3⟩
      go_wp2_with fail
      go_ret2
      refine ⟨v3, by rw [HR.out]; rfl, fun _ => ?_, hf1.then0 hown3.fr⟩
      rw [← HM.out]
      exact ⟨own_base_le hown3.own hf1.size, hf1.then0 hown3.fr⟩
    · have hs' : sealed xs = false := by simpa using hs
      have hr : openE xs = 4 := by simp [openE, h4, hs]
      have HR := Lib.hid hr
      rw [hs']
      clear hs hs' hr
      go_wp2_with fail
      go_ret2
      exact ⟨_, by rw [HR.out]; rfl, fun h => by rw [HR.out] at h; omega, hf1⟩

/-! ### The fields -/
def Sup.fl (s : Sup) : List Int := [s.version, s.epoch, s.blocks, s.counters, s.log, s.head, s.applied]
def fwid : List Nat := [8, 4, 2, 2, 2, 8, 8]
def flo : List Int := [0, 0, 0, 0, 1, 0, 0]
def fhi : List Int := [281474976710656, 4294967295, 256, 64, 4096, 1099511627776, 1099511627776]
def fieldCell (sb j : Nat) : List Value := [.pointer (some ⟨sb, j, none⟩), .int .i64 (fwid.getD j 0 : Nat), .int .i64 (flo.getD j 0), .int .i64 (fhi.getD j 0)]
def fieldCells (sb : Nat) : List Value := (List.range 7).flatMap (fieldCell sb)
theorem Sup.sane_fl (s : Sup) : s.Sane ↔ ∀ j, j < 7 → flo.getD j 0 ≤ s.fl.getD j 0 ∧ s.fl.getD j 0 ≤ fhi.getD j 0 := by
  constructor
  · intro h j hj
    obtain ⟨a, b, c, d, e, f, g⟩ := h
    have : j = 0 ∨ j = 1 ∨ j = 2 ∨ j = 3 ∨ j = 4 ∨ j = 5 ∨ j = 6 := by omega
    rcases this with rfl | rfl | rfl | rfl | rfl | rfl | rfl
    · exact a
    · exact b
    · exact c
    · exact d
    · exact e
    · exact f
    · exact g
  · intro h
    exact ⟨h 0 (by decide), h 1 (by decide), h 2 (by decide), h 3 (by decide), h 4 (by decide), h 5 (by decide), h 6 (by decide)⟩
/-- The fields of the numbers in block sb. -/
structure FieldsAt (w : World) (fb sb : Nat) : Prop where
  ex : ∃ t, w.heap[fb]? = some (.cells (fieldCells sb).toArray t (0, 0))
theorem FieldsAt.keep0 {w w' : World} {fb sb : Nat} (h : FieldsAt w fb sb) (hf : Fr F0 w w') : FieldsAt w' fb sb := by
  obtain ⟨t, h⟩ := h.ex
  exact ⟨t, hf.keep0 h⟩
theorem FieldsAt.keep {S : Nat → Prop} {w w' : World} {fb sb : Nat} (h : FieldsAt w fb sb) (hf : Fr S w w') (hn : ¬ S fb) : FieldsAt w' fb sb := by
  obtain ⟨t, h⟩ := h.ex
  exact ⟨t, hf.keep h hn⟩
theorem FieldsAt.lt {w : World} {fb sb : Nat} (h : FieldsAt w fb sb) : fb < w.heap.size := by
  obtain ⟨t, h⟩ := h.ex
  exact lt_of_block h
theorem fieldCells_at (sb j k : Nat) (hj : j < 7) (hk : k < 4) : (fieldCells sb)[j * 4 + k]? = (fieldCell sb j)[k]? := by
  have h1 : j = 0 ∨ j = 1 ∨ j = 2 ∨ j = 3 ∨ j = 4 ∨ j = 5 ∨ j = 6 := by omega
  have h2 : k = 0 ∨ k = 1 ∨ k = 2 ∨ k = 3 := by omega
  rcases h1 with rfl | rfl | rfl | rfl | rfl | rfl | rfl <;> rcases h2 with rfl | rfl | rfl | rfl <;> rfl
theorem FieldsAt.cells {w : World} {fb sb j : Nat} (h : FieldsAt w fb sb) (hj : j < 7) :
    w.cell? ⟨fb, j * 4, none⟩ = some (.pointer (some ⟨sb, j, none⟩)) ∧ w.cell? ⟨fb, j * 4 + 1, none⟩ = some (.int .i64 (fwid.getD j 0 : Nat)) ∧
    w.cell? ⟨fb, j * 4 + 2, none⟩ = some (.int .i64 (flo.getD j 0)) ∧ w.cell? ⟨fb, j * 4 + 3, none⟩ = some (.int .i64 (fhi.getD j 0)) := by
  obtain ⟨t, h⟩ := h.ex
  have g : ∀ k, k < 4 → w.cell? ⟨fb, j * 4 + k, none⟩ = (fieldCell sb j)[k]? := fun k hk => by
    rw [cell_of h, List.getElem?_toArray, fieldCells_at sb j k hj hk]
  exact ⟨g 0 (by decide), g 1 (by decide), g 2 (by decide), g 3 (by decide)⟩
set_option maxRecDepth 100000 in
set_option maxHeartbeats 1000000 in
theorem fields_c (sb : Nat) : Calls Tryd.prog 55 #[.pointer (some ⟨sb, 0, none⟩)] w fun e w' => ∃ fb, e = .returned (.slice (some ⟨fb, 0, none⟩) 7 7) ∧ w.heap.size ≤ fb ∧ FieldsAt w' fb sb ∧ Fr F0 w w' := by
  go_enter Tryd.func55, Tryd.ntmps55
  go_wp2_with fail
  go_still_tail 28, (by kernel_rfl)
  go_wp2_with fail
  go_ret
  exact ⟨_, rfl, Nat.le_refl _, ⟨_, alloc_at rfl _⟩, ((Fr.refl _ _).alloc _).drew⟩
/-- The numbers, in a block of their own. -/
structure SupAt (w : World) (sb : Nat) (s : Sup) : Prop where
  ex : ∃ t, w.heap[sb]? = some (.cells s.cells.toArray t (0, 0))
theorem SupAt.keep0 {w w' : World} {sb : Nat} {s : Sup} (h : SupAt w sb s) (hf : Fr F0 w w') : SupAt w' sb s := by
  obtain ⟨t, h⟩ := h.ex
  exact ⟨t, hf.keep0 h⟩
theorem SupAt.cell {w : World} {sb : Nat} {s : Sup} (h : SupAt w sb s) (j : Nat) (hj : j < 7) : w.cell? ⟨sb, j, none⟩ = some (.int .i64 (s.fl.getD j 0)) := by
  obtain ⟨t, h⟩ := h.ex
  rw [cell_of h]
  have : j = 0 ∨ j = 1 ∨ j = 2 ∨ j = 3 ∨ j = 4 ∨ j = 5 ∨ j = 6 := by omega
  rcases this with rfl | rfl | rfl | rfl | rfl | rfl | rfl <;> rfl
set_option maxRecDepth 100000 in
set_option maxHeartbeats 2000000 in
theorem sane_c (s : Sup) : Calls Tryd.prog 29 #[.agg #[.int .i64 s.version, .int .i64 s.epoch, .int .i64 s.blocks, .int .i64 s.counters, .int .i64 s.log, .int .i64 s.head, .int .i64 s.applied]] w fun e w' => e = .returned (.bool s.sane) ∧ Fr F0 w w' := by
  go_enter Tryd.func29, Tryd.ntmps29
  go_wp2_with fail
  have hS : SupAt (w.alloc (.cells #[.int .i64 s.version, .int .i64 s.epoch, .int .i64 s.blocks, .int .i64 s.counters, .int .i64 s.log, .int .i64 s.head, .int .i64 s.applied] 29)) w.heap.size s := ⟨_, alloc_at rfl _⟩
  refine (fields_c w.heap.size).mono ?_
  rintro e w1 ⟨fb, rfl, hfb, hF, hf1⟩
  have hS1 := hS.keep0 hf1
  have hfr : Fr F0 w w1 := ((Fr.refl _ _).alloc _).then0 hf1
  have hsb := hf1.size
  simp at hsb hfb
  clear hS hf1
  go_wp2_with fail
  go_loopg [4, 7] 7 (fun kq x4 x7 wr => ∃ j : Nat, j ≤ 7 ∧ kq = 7 - j ∧ x7 = .int .i64 (j : Int) ∧ (∀ i, i < j → flo.getD i 0 ≤ s.fl.getD i 0 ∧ s.fl.getD i 0 ≤ fhi.getD i 0) ∧ Fr F0 w1 wr)
  case atStart => exact ⟨0, by omega, rfl, rfl, fun i hi => by omega, Fr.refl _ _⟩
  case round =>
    obtain ⟨j, hj, rfl, rfl, hall, hf⟩ := hrel
    have HALL := Lib.hid hall
    clear hall
    have hsz := hf.size
    by_cases hlt : j < 7
    · have hj0 : (0 : Int) ≤ (j : Int) := Int.natCast_nonneg _
      have hj1 : (j : Int) < 7 := by omega
      obtain ⟨c0, c1, c2, c3⟩ := (hF.keep0 hf).cells hlt
      have hv := (hS1.keep0 hf).cell j hlt
      obtain ⟨v, hvv⟩ : ∃ v, v = s.fl.getD j 0 := ⟨_, rfl⟩
      obtain ⟨lo, hlo⟩ : ∃ v, v = flo.getD j 0 := ⟨_, rfl⟩
      obtain ⟨hi, hhi⟩ : ∃ v, v = fhi.getD j 0 := ⟨_, rfl⟩
      rw [← hvv] at hv
      rw [← hlo] at c2
      rw [← hhi] at c3
      have HVV := Lib.hid hvv
      have HLO := Lib.hid hlo
      have HHI := Lib.hid hhi
      have hsb2 : w.heap.size < wr.heap.size := by omega
      clear hvv hlo hhi
      have bad : ¬ (lo ≤ v ∧ v ≤ hi) → s.sane = false := by
        intro hn
        rw [Sup.sane, decide_eq_false_iff_not, Sup.sane_fl]
        intro h
        have := h j hlt
        rw [← HVV.out, ← HLO.out, ← HHI.out] at this
        exact hn this
      by_cases h1 : v < lo
      · have HB := Lib.hid (bad (by omega))
        clear bad
        go_wp2_with fail
        go_quiet (fail)
        go_wp2_with fail
        go_ret
        exact ⟨by rw [HB.out]; rfl, ((hfr.then0 hf).alloc _).drewN _⟩
      · have h1' : decide (v < lo) = false := by simpa using h1
        by_cases h2 : hi < v
        · have HB := Lib.hid (bad (by omega))
          clear bad
          go_wp2_with fail
          go_quiet (fail)
          go_wp2_with fail
          go_ret
          exact ⟨by rw [HB.out]; rfl, ((hfr.then0 hf).alloc _).drewN _⟩
        · have h2' : decide (hi < v) = false := by simpa using h2
          go_wp2_with fail
          go_quiet (fail)
          go_wp2_with fail
          go_roundg (7 - (j + 1))
          case measure => omega
          case rel =>
            refine ⟨j + 1, by omega, rfl, by first | rfl | (go_num), fun i hi => ?_, (hf.alloc _).drewN _⟩
            by_cases hij : i < j
            · exact HALL.out i hij
            · have : i = j := by omega
              subst this
              rw [← HVV.out, ← HLO.out, ← HHI.out]
              simp at h1' h2'
              exact ⟨h1', h2'⟩
    · have hj7 : j = 7 := by omega
      subst hj7
      have hs : s.sane = true := by
        rw [Sup.sane, decide_eq_true_eq, Sup.sane_fl]
        exact HALL.out
      have HS := Lib.hid hs
      clear hs
      go_wp2_with fail
      go_ret
      exact ⟨by rw [HS.out]; rfl, hfr.then0 hf⟩
end
end Go.Proofs.YtdeckbdaencjnaaDoor
