/-
  Layer 10: boxes beside rows; awake. Conditions: none.
-/
import Derived.Test.YtgbaijfgmeealaaK10k
import Derived.Deep.CutBlock
set_option linter.unusedVariables false
set_option linter.unusedSimpArgs false
namespace Go.Proofs.Ytgbaijfgmeealaa
open Go.RowKit
theorem SrAt.notIn {α : Type} {m : Nat} {f : α → List Value} {w : World} {A : Option Addr} {L : List α} {tb : Nat} {cs : Array Value} {t : TypeId} (hm : ∀ x, (f x).length = m) (h : SrAt m f w A L) (hb : w.heap[tb]? = some (.cells cs t (0, 0))) (hcs : cs.size < m) (hL : 0 < L.length) : ∀ ad, A = some ad → ad.block ≠ tb := by
  rintro ad rfl rfl
  obtain ⟨b, off, e, hc⟩ := h.get (List.getElem?_eq_getElem hL) (by rw [hm]; omega)
  cases e
  have hlt : m - 1 < (f (L[0]'hL)).length := by rw [hm]; omega
  have hk : (f (L[0]'hL))[m - 1]? = some ((f (L[0]'hL))[m - 1]'hlt) := List.getElem?_eq_getElem hlt
  have h5 := hc (m - 1) _ hk
  rw [cell_of hb] at h5
  have := (Array.getElem?_eq_some_iff.1 h5).1
  omega
/-- A row stays where a small block beside it turns. -/
theorem SlV.box {α : Type} {m : Nat} {f : α → List Value} {w w' : World} {v : Value} {L : List α} {tb : Nat} {cs : Array Value} {t : TypeId} (hm : ∀ x, (f x).length = m) (h : SlV m f w v L) (hb : w.heap[tb]? = some (.cells cs t (0, 0))) (hcs : cs.size < m) (hf : Fr (fun k => k = tb) w w') : SlV m f w' v L := by
  obtain ⟨A, c, rfl, hs, h1, h2⟩ := h.ex
  exact ⟨A, c, rfl, hs.keep hf (fun ad e hL hk => hs.notIn hm hb hcs hL ad e hk), h1, h2⟩
theorem SlV.exn {α : Type} {m : Nat} {f : α → List Value} {w : World} {v : Value} {L : List α} (h : SlV m f w v L) {n : Nat} (hn : L.length = n) : ∃ A c, v = .slice A n c := by
  obtain ⟨A, c, e, -⟩ := h.ex
  exact ⟨A, c, by rw [e, hn]⟩
def exX1 : List Tx9 := [⟨-1, 1, 1, 0⟩]
def exX2 : List Tx9 := [⟨-1, 1, 1, 0⟩, ⟨0, 1, 2, 0⟩]
def exX3 : List Tx9 := [⟨-1, 1, 1, 0⟩, ⟨0, 1, 2, 0⟩, ⟨-1, 1, 3, 0⟩]
def exT : List Lk := askL [] 0 5 2
def exU : List Lk := askL exT 1 5 1
theorem ex_begin : beginE [] (-1) = 0 ∧ beginE exX1 0 = 0 ∧ beginE exX2 (-1) = 0 := by decide
theorem ex_ask : askE exX3 [] 0 5 2 = 0 ∧ askE exX3 exT 1 5 1 = 0 ∧ askE exX3 exU 2 5 1 = 9 := by decide
theorem ex_len : exT.length = 1 ∧ exU.length = 2 := by decide
theorem exT_sane : SaneL exT := ⟨by decide, by decide⟩
theorem exU_sane : SaneL exU := ⟨by decide, by decide⟩
theorem falls_of {L : List Tx9} (h : (List.range L.length).all (fun i => decide ((L.getD i Tx9.zero).parent < (i : Int))) = true) : Falls L := by
  intro i x hx
  rw [List.all_eq_true] at h
  have hi := (List.getElem?_eq_some_iff.1 hx).1
  have := h i (List.mem_range.2 hi)
  rw [List.getD_eq_getElem?_getD, hx] at this
  simpa using this
/-- The box of a tree: its two cells. -/
theorem tree_box {W : World} {tb : Nat} {v v' : Value} {clk clk' : Int} {A : Option Addr} {n c : Nat} (hv' : v' = .slice A n c) (h : W.heap[tb]? = some (.cells #[v, .int .i64 clk] 25 (0, 0))) :
    (W.setRow tb (splat [v, .int .i64 clk] 0 [v', .int .i64 clk']).toArray).heap[tb]? = some (.cells #[v', .int .i64 clk'] 25 (0, 0)) ∧ Fr (fun k => k = tb) W (W.setRow tb (splat [v, .int .i64 clk] 0 [v', .int .i64 clk']).toArray) :=
  ⟨by rw [setRow_heap _ _ _ _ _ _ h]; rfl, (Fr.refl _ _).setRow (by exact .inl rfl) _⟩
section
variable {w : World}
set_option maxRecDepth 100000 in
set_option maxHeartbeats 4000000 in
theorem awake10_c : Calls Try.prog 10 #[] w fun e w' => e = .returned (.bool true) ∧ Fr F0 w w' := by
  go_enter Try.func10, Try.ntmps10
  go_wp2_with fail
  refine (begin_c 0 (-1) (SlV.nil 4 Tx9.cells w) (by decide) (falls_of (by decide)) (.inl rfl) (by decide) (by decide)).mono ?_
  intro e w1 hbr
  cases hbr with
  | no h he hf => exact absurd ex_begin.1 h
  | yes h v1 he hs1 hf1 =>
  subst he
  have hs1' : SlV 4 Tx9.cells w1 v1 exX1 := hs1
  obtain ⟨A1, c1, rfl⟩ := hs1'.exn (n := 1) rfl
  have HS1 := Lib.hid hs1'
  have HF1 := Lib.hid hf1
  obtain ⟨W1, hW1⟩ : ∃ W1, W1 = w1.alloc (.cells #[.slice A1 1 c1, .int .i64 1] 25) := ⟨_, rfl⟩
  have HW1 := Lib.hid hW1
  have hb1 : W1.heap[w1.heap.size]? = some (.cells #[.slice A1 1 c1, .int .i64 1] 25 (0, 0)) := by rw [hW1]; exact alloc_at rfl _
  have HB1 := Lib.hid hb1
  have hf1b : Fr F0 w1 W1 := by rw [hW1]; exact (Fr.refl _ _).alloc _
  have HS1b := Lib.hid (hs1'.keep0 hf1b)
  have HFW1 : Hid (Fr F0 w W1) := Lib.hid (hf1.then0 hf1b)
  have hwt : w.heap.size ≤ w1.heap.size := hf1.size
  clear hs1 hs1' hf1 hb1 hf1b hW1 h
  go_wp2_with fail
  rw [← HW1.out]
  obtain ⟨tb, htb⟩ : ∃ tb, tb = w1.heap.size := ⟨_, rfl⟩
  rw [← htb] at HB1 hwt ⊢
  clear htb HW1
  refine (begin_c (L := exX1) 1 0 HS1b.out (by decide) (falls_of (by decide)) (.inr rfl) (by decide) (by decide)).mono ?_
  intro e w2 hbr
  cases hbr with
  | no h he hf => exact absurd ex_begin.2.1 h
  | yes h v2 he hs2 hf2 =>
  have he' : e = .returned (.tuple #[.agg #[v2, .int .i64 2], .int .i64 1, .int .i64 0]) := he
  subst he'
  clear he
  have hs2' : SlV 4 Tx9.cells w2 v2 exX2 := hs2
  obtain ⟨A2, c2, rfl⟩ := hs2'.exn (n := 2) rfl
  have HB2 := Lib.hid (hf2.keep0 HB1.out)
  have HFW2 := Lib.hid (HFW1.out.then0 hf2)
  obtain ⟨hb3, hf3⟩ := tree_box (v' := .slice A2 2 c2) (clk' := 2) rfl HB2.out
  have HB3 := Lib.hid hb3
  have HS3 := Lib.hid (hs2'.box Tx9.len HB2.out (by show 2 < 4; decide) hf3)
  have HF3 : Hid (Fr F0 w (w2.setRow tb (splat [.slice A1 1 c1, .int .i64 1] 0 [.slice A2 2 c2, .int .i64 2]).toArray)) := Lib.hid (HFW2.out.trans hf3 (fun k hk => .inr (by omega)))
  have kt : (w2.setRow tb (splat [.slice A1 1 c1, .int .i64 1] 0 [.slice A2 2 c2, .int .i64 2]).toArray).cell? ⟨tb, 0, none⟩ = some (.slice A2 2 c2) := by rw [cell_of hb3]; rfl
  have kt1 : (w2.setRow tb (splat [.slice A1 1 c1, .int .i64 1] 0 [.slice A2 2 c2, .int .i64 2]).toArray).cell? ⟨tb, 1, none⟩ = some (.int .i64 2) := by rw [cell_of hb3]; rfl
  clear hs2 hs2' hf2 hb3 hf3 h
  go_wp2_with (refine wpList_store_at rfl 25 (.tmp 1) (.tmp 24) rfl tb 0 [.slice A2 2 c2, .int .i64 2] (by rfl) (by rfl) 25 [.slice A1 1 c1, .int .i64 1] HB2.out size_tree (Nat.le_refl 2) (tree_one _ _ _ _) ?_)
  clear kt kt1
  generalize (w2.setRow tb (splat [.slice A1 1 c1, .int .i64 1] 0 [.slice A2 2 c2, .int .i64 2]).toArray) = W3 at *
  refine (begin_c (L := exX2) 2 (-1) HS3.out (by decide) (falls_of (by decide)) (.inl rfl) (by decide) (by decide)).mono ?_
  intro e w4 hbr
  cases hbr with
  | no h he hf => exact absurd ex_begin.2.2 h
  | yes h v3 he hs4 hf4 =>
  have he' : e = .returned (.tuple #[.agg #[v3, .int .i64 3], .int .i64 2, .int .i64 0]) := he
  subst he'
  clear he
  have hs4' : SlV 4 Tx9.cells w4 v3 exX3 := hs4
  obtain ⟨A3, c3, rfl⟩ := hs4'.exn (n := 3) rfl
  have HB4 := Lib.hid (hf4.keep0 HB3.out)
  have HFW4 := Lib.hid (HF3.out.then0 hf4)
  obtain ⟨hb5, hf5⟩ := tree_box (v' := .slice A3 3 c3) (clk' := 3) rfl HB4.out
  have HB5 := Lib.hid hb5
  have HS5 := Lib.hid (hs4'.box Tx9.len HB4.out (by show 2 < 4; decide) hf5)
  have HF5 : Hid (Fr F0 w (w4.setRow tb (splat [.slice A2 2 c2, .int .i64 2] 0 [.slice A3 3 c3, .int .i64 3]).toArray)) := Lib.hid (HFW4.out.trans hf5 (fun k hk => .inr (by omega)))
  have kt : (w4.setRow tb (splat [.slice A2 2 c2, .int .i64 2] 0 [.slice A3 3 c3, .int .i64 3]).toArray).cell? ⟨tb, 0, none⟩ = some (.slice A3 3 c3) := by rw [cell_of hb5]; rfl
  have kt1 : (w4.setRow tb (splat [.slice A2 2 c2, .int .i64 2] 0 [.slice A3 3 c3, .int .i64 3]).toArray).cell? ⟨tb, 1, none⟩ = some (.int .i64 3) := by rw [cell_of hb5]; rfl
  clear hs4 hs4' hf4 hb5 hf5 h
  go_wp2_with (refine wpList_store_at rfl 25 (.tmp 1) (.tmp 30) rfl tb 0 [.slice A3 3 c3, .int .i64 3] (by rfl) (by rfl) 25 [.slice A2 2 c2, .int .i64 2] HB4.out size_tree (Nat.le_refl 2) (tree_one _ _ _ _) ?_)
  clear kt kt1
  generalize (w4.setRow tb (splat [.slice A2 2 c2, .int .i64 2] 0 [.slice A3 3 c3, .int .i64 3]).toArray) = W5 at *
  refine (ask_c (X := exX3) (L := []) 3 0 5 2 (SlV.nil 4 Lk.cells W5) (by decide) ⟨by simp, by simp⟩ HS5.out (by decide) (by decide) (by decide) (.inr rfl)).mono ?_
  intro e w6 har
  cases har with
  | no h he hf => exact absurd ex_ask.1 h
  | yes h vt he hs6 hf6 =>
  subst he
  have hs6' : SlV 4 Lk.cells w6 vt exT := hs6
  obtain ⟨At, ct, rfl⟩ := hs6'.exn (n := 1) ex_len.1
  obtain ⟨W6, hW6⟩ : ∃ W6, W6 = w6.alloc (.cells #[.slice At 1 ct] 31) := ⟨_, rfl⟩
  have HW6 := Lib.hid hW6
  have hf6b : Fr F0 w6 W6 := by rw [hW6]; exact (Fr.refl _ _).alloc _
  have HT6 := Lib.hid (hs6'.keep0 hf6b)
  have HS6 := Lib.hid ((HS5.out.keep0 hf6).keep0 hf6b)
  have HB6 := Lib.hid (hf6b.keep0 (hf6.keep0 HB5.out))
  have HF6 : Hid (Fr F0 w W6) := Lib.hid ((HF5.out.then0 hf6).then0 hf6b)
  have kt : (w6.alloc (.cells #[.slice At 1 ct] 31)).cell? ⟨tb, 0, none⟩ = some (.slice A3 3 c3) := by rw [← hW6, cell_of HB6.out]; rfl
  have kt1 : (w6.alloc (.cells #[.slice At 1 ct] 31)).cell? ⟨tb, 1, none⟩ = some (.int .i64 3) := by rw [← hW6, cell_of HB6.out]; rfl
  clear hs6 hs6' hf6 hf6b hW6 h
  go_wp2_with fail
  rw [← HW6.out]
  obtain ⟨ta, hta⟩ : ∃ ta, ta = w6.heap.size := ⟨_, rfl⟩
  rw [← hta]
  have HTA : Hid (W6.heap[ta]? = some (.cells #[.slice At 1 ct] 31 (0, 0))) := Lib.hid (by rw [HW6.out]; exact alloc_at hta _)
  clear kt kt1 hta HW6
  refine (ask_c (X := exX3) (L := exT) 3 1 5 1 HT6.out (by rw [ex_len.1]; decide) exT_sane HS6.out (by decide) (by decide) (by decide) (.inl rfl)).mono ?_
  intro e w7 har
  cases har with
  | no h he hf => exact absurd ex_ask.2.1 h
  | yes h vu he hs7 hf7 =>
  subst he
  have hs7' : SlV 4 Lk.cells w7 vu exU := hs7
  obtain ⟨Au, cu, rfl⟩ := hs7'.exn (n := 2) ex_len.2
  obtain ⟨W7, hW7⟩ : ∃ W7, W7 = w7.alloc (.cells #[.slice Au 2 cu] 31) := ⟨_, rfl⟩
  have HW7 := Lib.hid hW7
  have hf7b : Fr F0 w7 W7 := by rw [hW7]; exact (Fr.refl _ _).alloc _
  have HT7 := Lib.hid (hs7'.keep0 hf7b)
  have HS7 := Lib.hid ((HS6.out.keep0 hf7).keep0 hf7b)
  have HB7 := Lib.hid (hf7b.keep0 (hf7.keep0 HB6.out))
  have HF7 : Hid (Fr F0 w W7) := Lib.hid ((HF6.out.then0 hf7).then0 hf7b)
  have kt : (w7.alloc (.cells #[.slice Au 2 cu] 31)).cell? ⟨tb, 0, none⟩ = some (.slice A3 3 c3) := by rw [← hW7, cell_of HB7.out]; rfl
  have kt1 : (w7.alloc (.cells #[.slice Au 2 cu] 31)).cell? ⟨tb, 1, none⟩ = some (.int .i64 3) := by rw [← hW7, cell_of HB7.out]; rfl
  clear hs7 hs7' hf7 hf7b hW7 h
  go_wp2_with fail
  rw [← HW7.out]
  obtain ⟨tu, htu⟩ : ∃ tu, tu = w7.heap.size := ⟨_, rfl⟩
  rw [← htu]
  have HTU : Hid (W7.heap[tu]? = some (.cells #[.slice Au 2 cu] 31 (0, 0))) := Lib.hid (by rw [HW7.out]; exact alloc_at htu _)
  clear kt kt1 htu HW7
  refine (ask_c (X := exX3) (L := exU) 3 2 5 1 HT7.out (by rw [ex_len.2]; decide) exU_sane HS7.out (by decide) (by decide) (by decide) (.inl rfl)).mono ?_
  intro e w8 har
  cases har with
  | yes h => exact absurd (ex_ask.2.2.symm.trans h) (by decide)
  | no h he hf8 =>
  have he' : e = .returned (.tuple #[.agg #[.slice none 0 0], .int .i64 9]) := by rw [he, ex_ask.2.2]
  subst he'
  have HF8 := Lib.hid ((HF7.out.then0 hf8).alloc (.cells #[.slice none 0 0] 31))
  have ku : (w8.alloc (.cells #[.slice none 0 0] 31)).cell? ⟨tu, 0, none⟩ = some (.slice Au 2 cu) := by rw [cell_of (keep_alloc (hf8.keep0 HTU.out) _)]; rfl
  clear h he hf8
  go_wp2_with fail
  go_ret
  exact ⟨rfl, HF8.out⟩
end
end Go.Proofs.Ytgbaijfgmeealaa
