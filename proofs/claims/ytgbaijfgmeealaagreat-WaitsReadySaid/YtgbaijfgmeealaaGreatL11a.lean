/-
  Layer 11: awake. Conditions: none.
-/
import Derived.Test.YtgbaijfgmeealaaGreatP11a
set_option linter.unusedVariables false
set_option linter.unusedSimpArgs false
namespace Go.Proofs.YtgbaijfgmeealaaGreat
open Go.RowKit
theorem falls_rootsQ (j : Nat) : Falls (roots j) := by
  intro i x hx
  unfold roots at hx
  rw [List.getElem?_map] at hx
  obtain ⟨y, -, rfl⟩ := Option.map_eq_some_iff.1 hx
  show (-1 : Int) < i
  omega
/-- A box of one cell turns. -/
theorem cell_box {W : World} {tb : Nat} {v : Value} {t : TypeId} (v' : Value) (h : W.heap[tb]? = some (.cells #[v] t (0, 0))) :
    (W.setCell ⟨tb, 0, none⟩ v').heap[tb]? = some (.cells #[v'] t (0, 0)) ∧ Fr (fun k => k = tb) W (W.setCell ⟨tb, 0, none⟩ v') :=
  ⟨by rw [set_cell h]; rfl, (Fr.refl _ _).setCell (by exact .inl rfl) _⟩
/-- What the laws' calls read: transactions, locks, wants, each behind its box. -/
structure Tri (w : World) (tb ta qb : Nat) (X : List Tx9) (L : List Lk) (Q : List Wn) (vx vt vq : Value) (clk : Int) : Prop where
  bx : w.heap[tb]? = some (.cells #[vx, .int .i64 clk] 31 (0, 0))
  bt : w.heap[ta]? = some (.cells #[vt] 34 (0, 0))
  bq : w.heap[qb]? = some (.cells #[vq] 28 (0, 0))
  sx : SlV 4 Tx9.cells w vx X
  st : SlV 4 Lk.cells w vt L
  sq : SlV 3 Wn.cells w vq Q
theorem Tri.keep0 {w w' : World} {tb ta qb : Nat} {X : List Tx9} {L : List Lk} {Q : List Wn} {vx vt vq : Value} {clk : Int} (h : Tri w tb ta qb X L Q vx vt vq clk) (hf : Fr F0 w w') : Tri w' tb ta qb X L Q vx vt vq clk :=
  ⟨hf.keep0 h.bx, hf.keep0 h.bt, hf.keep0 h.bq, h.sx.keep0 hf, h.st.keep0 hf, h.sq.keep0 hf⟩
theorem ex11_sane : SaneQ [] ∧ SaneQ exQ1 ∧ SaneQ exQ2 := ⟨saneQ_of (by decide), saneQ_of (by decide), saneQ_of (by decide)⟩
theorem ex11_lk : SaneL [⟨1, 0, 2, 0⟩] ∧ SaneL exW := by decide
section
variable {w : World}
set_option maxRecDepth 100000 in
set_option maxHeartbeats 4000000 in
theorem awake11_c : Calls Tryz.prog 6 #[] w fun e w' => e = .returned (.bool true) ∧ Fr F0 w w' := by
  go_enter Tryz.func6, Tryz.ntmps6
  go_wp2_with fail
  refine (begin_c 0 (-1) (SlV.nil 4 Tx9.cells w) (by decide) (falls_rootsQ 0) (.inl rfl) (by decide) (by decide)).mono ?_
  intro e w1 hbr
  cases hbr with
  | no h he hf => exact absurd ex11_begin.1 h
  | yes h v1 he hs1 hf1 =>
  subst he
  have hs1' : SlV 4 Tx9.cells w1 v1 (roots 1) := hs1
  obtain ⟨A1, c1, rfl⟩ := hs1'.exn (n := 1) rfl
  obtain ⟨W1, hW1⟩ : ∃ W1, W1 = w1.alloc (.cells #[.slice A1 1 c1, .int .i64 1] 31) := ⟨_, rfl⟩
  have HW1 := Lib.hid hW1
  obtain ⟨tb, htb⟩ : ∃ tb, tb = w1.heap.size := ⟨_, rfl⟩
  have HB1 : Hid (W1.heap[tb]? = some (.cells #[.slice A1 1 c1, .int .i64 1] 31 (0, 0))) := Lib.hid (by rw [hW1]; exact alloc_at htb _)
  have hf1b : Fr F0 w1 W1 := by rw [hW1]; exact (Fr.refl _ _).alloc _
  have HS1b := Lib.hid (hs1'.keep0 hf1b)
  have HFW1 : Hid (Fr F0 w W1) := Lib.hid (hf1.then0 hf1b)
  have hwt : w.heap.size ≤ tb := by rw [htb]; exact hf1.size
  have HTB := Lib.hid htb
  clear hs1 hs1' hf1 hf1b hW1 h htb
  go_wp2_with fail
  rw [← HW1.out, ← HTB.out]
  clear HW1 HTB
  refine (begin_c (L := roots 1) 1 (-1) HS1b.out (by decide) (falls_rootsQ 1) (.inl rfl) (by decide) (by decide)).mono ?_
  intro e w2 hbr
  cases hbr with
  | no h he hf => exact absurd ex11_begin.2 h
  | yes h v2 he hs2 hf2 =>
  have he' : e = .returned (.tuple #[.agg #[v2, .int .i64 2], .int .i64 1, .int .i64 0]) := he
  subst he'
  clear he
  have hs2' : SlV 4 Tx9.cells w2 v2 (roots 2) := hs2
  obtain ⟨A2, c2, rfl⟩ := hs2'.exn (n := 2) rfl
  have HB2 := Lib.hid (hf2.keep0 HB1.out)
  have HFW2 := Lib.hid (HFW1.out.then0 hf2)
  obtain ⟨hb3, hf3⟩ := tree_box (v' := .slice A2 2 c2) (clk' := 2) rfl HB2.out
  have HB3 := Lib.hid hb3
  have HS3 := Lib.hid (hs2'.box Tx9.len HB2.out (by show 2 < 4; decide) hf3)
  have HF3 : Hid (Fr F0 w (w2.setRow tb (splat [.slice A1 1 c1, .int .i64 1] 0 [.slice A2 2 c2, .int .i64 2]).toArray)) := Lib.hid (HFW2.out.trans hf3 (fun k hk => .inr (by omega)))
  have kt : (w2.setRow tb (splat [.slice A1 1 c1, .int .i64 1] 0 [.slice A2 2 c2, .int .i64 2]).toArray).cell? ⟨tb, 0, none⟩ = some (.slice A2 2 c2) := by rw [cell_of hb3]; rfl
  have kt1 : (w2.setRow tb (splat [.slice A1 1 c1, .int .i64 1] 0 [.slice A2 2 c2, .int .i64 2]).toArray).cell? ⟨tb, 1, none⟩ = some (.int .i64 2) := by rw [cell_of hb3]; rfl
  clear hs2 hs2' hf2 hb3 hf3 h
  go_wp2_with (refine wpList_store_at rfl 31 (.tmp 1) (.tmp 21) rfl tb 0 [.slice A2 2 c2, .int .i64 2] (by rfl) (by rfl) 31 [.slice A1 1 c1, .int .i64 1] HB2.out size_tree (Nat.le_refl 2) (tree_one _ _ _ _) ?_)
  clear kt kt1
  generalize (w2.setRow tb (splat [.slice A1 1 c1, .int .i64 1] 0 [.slice A2 2 c2, .int .i64 2]).toArray) = W3 at *
  refine (ask_c (X := roots 2) (L := []) 2 0 1 2 (SlV.nil 4 Lk.cells W3) (by decide) ⟨by simp, by simp⟩ HS3.out (by decide) (by decide) (by decide) (.inr rfl)).mono ?_
  intro e w6 har
  cases har with
  | no h he hf => exact absurd ex11_ask.1 h
  | yes h vt he hs6 hf6 =>
  subst he
  rw [ex11_ask.2.1] at hs6
  obtain ⟨At, ct, rfl⟩ := hs6.exn (n := 1) rfl
  obtain ⟨W6, hW6⟩ : ∃ W6, W6 = w6.alloc (.cells #[.slice At 1 ct] 34) := ⟨_, rfl⟩
  have HW6 := Lib.hid hW6
  have hf6b : Fr F0 w6 W6 := by rw [hW6]; exact (Fr.refl _ _).alloc _
  have HT6 := Lib.hid (hs6.keep0 hf6b)
  have HS6 := Lib.hid ((HS3.out.keep0 hf6).keep0 hf6b)
  have HB6 := Lib.hid (hf6b.keep0 (hf6.keep0 HB3.out))
  have HF6 : Hid (Fr F0 w W6) := Lib.hid ((HF3.out.then0 hf6).then0 hf6b)
  obtain ⟨ta, hta⟩ : ∃ ta, ta = w6.heap.size := ⟨_, rfl⟩
  have HTA : Hid (W6.heap[ta]? = some (.cells #[.slice At 1 ct] 34 (0, 0))) := Lib.hid (by rw [hW6]; exact alloc_at hta _)
  have HTAE := Lib.hid hta
  have HTL : Hid (tb < ta) := Lib.hid (by rw [hta]; exact lt_of_block (hf6.keep0 HB3.out))
  have kt : (w6.alloc (.cells #[.slice At 1 ct] 34)).cell? ⟨tb, 0, none⟩ = some (.slice A2 2 c2) := by rw [← hW6, cell_of HB6.out]; rfl
  have kt1 : (w6.alloc (.cells #[.slice At 1 ct] 34)).cell? ⟨tb, 1, none⟩ = some (.int .i64 2) := by rw [← hW6, cell_of HB6.out]; rfl
  clear hs6 hf6 hf6b hW6 h hta
  go_wp2_with fail
  rw [← HW6.out, ← HTAE.out]
  clear kt kt1 HW6 HTAE
  refine (ask_c (X := roots 2) (L := [⟨1, 0, 2, 0⟩]) 2 1 2 2 HT6.out (by decide) ex11_lk.1 HS6.out (by decide) (by decide) (by decide) (.inr rfl)).mono ?_
  intro e w7 har
  cases har with
  | no h he hf => exact absurd ex11_ask.2.2.1 h
  | yes h vu he hs7 hf7 =>
  subst he
  rw [ex11_ask.2.2.2] at hs7
  obtain ⟨Au, cu, rfl⟩ := hs7.exn (n := 2) rfl
  have HTA7 := Lib.hid (hf7.keep0 HTA.out)
  have HB7 := Lib.hid (hf7.keep0 HB6.out)
  have HS7 := Lib.hid (HS6.out.keep0 hf7)
  have q1 : w7.cell? ⟨ta, 0, none⟩ = some (.slice At 1 ct) := by rw [cell_of HTA7.out]; rfl
  have q2 : w7.frozen? ⟨ta, 0, none⟩ = false := free_of HTA7.out 0
  obtain ⟨ha8, hf8⟩ := cell_box (.slice Au 2 cu) HTA7.out
  obtain ⟨W8, hW8⟩ : ∃ W8, W8 = w7.setCell ⟨ta, 0, none⟩ (.slice Au 2 cu) := ⟨_, rfl⟩
  rw [← hW8] at ha8 hf8
  have HTA8 := Lib.hid ha8
  have HB8 := Lib.hid (hf8.keep HB7.out (by have := HTL.out; omega))
  have HT8 := Lib.hid (hs7.box Lk.len HTA7.out (by show 1 < 4; decide) hf8)
  have HS8 := Lib.hid (HS7.out.box Tx9.len HTA7.out (by show 1 < 4; decide) hf8)
  have HF8 : Hid (Fr F0 w W8) := Lib.hid ((HF6.out.then0 hf7).trans hf8 (fun k hk => .inr (by have := HTL.out; omega)))
  have HW8 := Lib.hid hW8
  clear hs7 hf7 ha8 hf8 hW8 h
  go_wp2_with fail
  rw [← HW8.out]
  clear q1 q2 HW8 HTA7 HB7 HS7
  refine (add_c (Q := []) (SlV.nil 3 Wn.cells W8) ex11_sane.1 ⟨0, 2, 1⟩ ⟨by decide, by decide, by decide, by decide, .inl rfl⟩ rfl (by decide)).mono ?_
  rintro e w9 ⟨vq, rfl, hq9, hf9⟩
  have hq9' : SlV 3 Wn.cells w9 vq exQ1 := hq9
  obtain ⟨Aq, cq, rfl⟩ := hq9'.exn (n := 1) rfl
  obtain ⟨W9, hW9⟩ : ∃ W9, W9 = w9.alloc (.cells #[.slice Aq 1 cq] 28) := ⟨_, rfl⟩
  have hfW : Fr F0 w9 W9 := by rw [hW9]; exact (Fr.refl _ _).alloc _
  obtain ⟨qb, hqb⟩ : ∃ qb, qb = w9.heap.size := ⟨_, rfl⟩
  have HTRI : Hid (Tri W9 tb ta qb (roots 2) exW exQ1 (.slice A2 2 c2) (.slice Au 2 cu) (.slice Aq 1 cq) 2) := Lib.hid ⟨hfW.keep0 (hf9.keep0 HB8.out), hfW.keep0 (hf9.keep0 HTA8.out), by rw [hW9]; exact alloc_at hqb _, (HS8.out.keep0 hf9).keep0 hfW, (HT8.out.keep0 hf9).keep0 hfW, hq9'.keep0 hfW⟩
  have HF9 : Hid (Fr F0 w W9) := Lib.hid ((HF8.out.then0 hf9).then0 hfW)
  have HAQ : Hid (ta < qb) := Lib.hid (by rw [hqb]; exact lt_of_block (hf9.keep0 HTA8.out))
  have HW9 := Lib.hid hW9
  have HQB := Lib.hid hqb
  clear hq9 hq9' hf9 hW9 hfW hqb
  go_wp2_with fail
  rw [← HW9.out, ← HQB.out]
  clear HW9 HQB
  refine (add_c (Q := exQ1) HTRI.out.sq ex11_sane.2.1 ⟨1, 1, 1⟩ ⟨by decide, by decide, by decide, by decide, .inl rfl⟩ rfl (by decide)).mono ?_
  rintro e w10 ⟨vr, rfl, hq10, hf10⟩
  have hq10' : SlV 3 Wn.cells w10 vr exQ2 := hq10
  obtain ⟨Ar, cr, rfl⟩ := hq10'.exn (n := 2) rfl
  have htr := HTRI.out.keep0 hf10
  have q1 : w10.cell? ⟨qb, 0, none⟩ = some (.slice Aq 1 cq) := by rw [cell_of htr.bq]; rfl
  have q2 : w10.frozen? ⟨qb, 0, none⟩ = false := free_of htr.bq 0
  obtain ⟨hb11, hf11⟩ := cell_box (.slice Ar 2 cr) htr.bq
  obtain ⟨W11, hW11⟩ : ∃ W11, W11 = w10.setCell ⟨qb, 0, none⟩ (.slice Ar 2 cr) := ⟨_, rfl⟩
  rw [← hW11] at hb11 hf11
  have HTRI2 : Hid (Tri W11 tb ta qb (roots 2) exW exQ2 (.slice A2 2 c2) (.slice Au 2 cu) (.slice Ar 2 cr) 2) := Lib.hid ⟨hf11.keep htr.bx (by have := HTL.out; have := HAQ.out; omega), hf11.keep htr.bt (by have := HAQ.out; omega), hb11, htr.sx.box Tx9.len htr.bq (by show 1 < 4; decide) hf11, htr.st.box Lk.len htr.bq (by show 1 < 4; decide) hf11, hq10'.box Wn.len htr.bq (by show 1 < 3; decide) hf11⟩
  have HF11 : Hid (Fr F0 w W11) := Lib.hid ((HF9.out.then0 hf10).trans hf11 (fun k hk => .inr (by have := HTL.out; have := HAQ.out; omega)))
  have HW11 := Lib.hid hW11
  have kq : (w10.setCell ⟨qb, 0, none⟩ (.slice Ar 2 cr)).cell? ⟨qb, 0, none⟩ = some (.slice Ar 2 cr) := by rw [← hW11, cell_of HTRI2.out.bq]; rfl
  have ka : (w10.setCell ⟨qb, 0, none⟩ (.slice Ar 2 cr)).cell? ⟨ta, 0, none⟩ = some (.slice Au 2 cu) := by rw [← hW11, cell_of HTRI2.out.bt]; rfl
  have kt : (w10.setCell ⟨qb, 0, none⟩ (.slice Ar 2 cr)).cell? ⟨tb, 0, none⟩ = some (.slice A2 2 c2) := by rw [← hW11, cell_of HTRI2.out.bx]; rfl
  have kt1 : (w10.setCell ⟨qb, 0, none⟩ (.slice Ar 2 cr)).cell? ⟨tb, 1, none⟩ = some (.int .i64 2) := by rw [← hW11, cell_of HTRI2.out.bx]; rfl
  clear hq10 hq10' hf10 htr hb11 hf11 hW11
  go_wp2_with fail
  rw [← HW11.out]
  clear q1 q2 kq ka kt kt1 HW11
  refine (stuck_c 2 HTRI2.out.sq ex11_sane.2.2.ok (by decide) HTRI2.out.st ex11_lk.2 HTRI2.out.sx (by decide)).mono ?_
  rintro e w12 ⟨v12, rfl, hown, hf12⟩
  rw [show stuckTo (roots 2) (edL (roots 2) exW exQ2) (roots 2).length = [0, 1] from ex11_stuck] at hown
  obtain ⟨A12, c12, rfl, -⟩ := ValsAt.of_own hown
  have HTRI3 := Lib.hid (HTRI2.out.keep0 hf12)
  have HF12 := Lib.hid (HF11.out.then0 hf12)
  have kq : w12.cell? ⟨qb, 0, none⟩ = some (.slice Ar 2 cr) := by rw [cell_of HTRI3.out.bq]; rfl
  have ka : w12.cell? ⟨ta, 0, none⟩ = some (.slice Au 2 cu) := by rw [cell_of HTRI3.out.bt]; rfl
  have kt : w12.cell? ⟨tb, 0, none⟩ = some (.slice A2 2 c2) := by rw [cell_of HTRI3.out.bx]; rfl
  have kt1 : w12.cell? ⟨tb, 1, none⟩ = some (.int .i64 2) := by rw [cell_of HTRI3.out.bx]; rfl
  clear hown hf12
  go_wp2_with fail
  clear kq ka kt kt1
  refine (victim_c 2 HTRI3.out.sq ex11_sane.2.2.ok (by decide) HTRI3.out.st ex11_lk.2 HTRI3.out.sx (by decide)).mono ?_
  rintro e w13 ⟨rfl, hf13⟩
  have hv : victimI (roots 2) exW exQ2 = 1 := by
    unfold victimI
    rw [show stuckTo (roots 2) (edL (roots 2) exW exQ2) (roots 2).length = [0, 1] from ex11_stuck]
    decide
  rw [hv]
  have HF13 := Lib.hid (HF12.out.then0 hf13)
  clear hv hf13
  go_wp2_with fail
  go_ret
  exact ⟨rfl, HF13.out⟩
end
end Go.Proofs.YtgbaijfgmeealaaGreat
