/-
  frame: Need, may. frame: Write. frame: fields. Conditions: none.
-/
import Derived.Test.YtdeckbdaencjnaaDoorP6
import Derived.Test.YtdeckbdaencjnaaDoorG7
set_option linter.unusedVariables false
set_option linter.unusedSimpArgs false
namespace Go.Proofs.YtdeckbdaencjnaaDoor
open Go.RowKit
theorem ret_boolEq7 {a b : Bool} (h : a = b) : Ending.returned (.bool a) = .returned (.bool b) := by rw [h]
theorem Pc.may_no {p : Pc} (h : ¬ p.Ok) : p.may = false := by simpa [Pc.may] using h
theorem Pc.may_yes {p : Pc} (h : p.Ok) : p.may = true := by simpa [Pc.may] using h
section
variable {w : World}
set_option maxRecDepth 100000 in
set_option maxHeartbeats 1000000 in
theorem need_c (n : Nat) (hn : n ≤ 1099511627776) : Calls Tryd.prog 106 #[.int .i64 (n : Int)] w fun e w' => e = .returned (.int .i64 (need n : Int)) ∧ w = w' := by
  have n0 : (0 : Int) ≤ (n : Int) := Int.natCast_nonneg _
  have n1 : (n : Int) ≤ 1099511627776 := by omega
  by_cases h : n ≤ 44
  · have hr : need n = 1 := by unfold need; rw [if_pos h]
    rw [hr]
    clear hr
    go_enter Tryd.func106, Tryd.ntmps106
    go_wp2_with fail
    go_ret
    exact ⟨rfl, rfl⟩
  · have hr : (need n : Int) = ((n : Int) - 1) / 44 + 1 := by unfold need; rw [if_neg h]; omega
    rw [hr]
    have h2 : ¬ (n : Int) ≤ 44 := by omega
    clear hr
    go_enter Tryd.func106, Tryd.ntmps106
    go_wp2_with fail
    go_ret
    exact ⟨rfl, rfl⟩
set_option maxRecDepth 100000 in
set_option maxHeartbeats 4000000 in
theorem may6_c (p : Pc) (A : Option Addr) (n c : Nat) (hn : p.data.length = n) (hm : n ≤ 1099511627776) : Calls Tryd.prog 122 #[(.agg #[.int .i64 p.epoch, .int .i64 p.at_, .int .i64 p.index, .int .i64 p.count, .slice A n c])] w fun e w' => e = .returned (.bool p.may) ∧ Fr F0 w w' := by
  obtain ⟨b, hb⟩ : ∃ b, b = p.may := ⟨_, rfl⟩
  rw [← hb]
  have HB := Lib.hid hb
  have HN := Lib.hid hn
  have n0 : (0 : Int) ≤ (n : Int) := Int.natCast_nonneg _
  have n1 : (n : Int) ≤ 1099511627776 := by omega
  clear hb hn
  go_enter Tryd.func122, Tryd.ntmps122
  go_wp2_with fail
  all_goals (go_ret; refine ⟨ret_boolEq7 ?_, (Fr.refl _ _).alloc _⟩; rw [HB.out]; have hn := HN.out; first | (refine (Pc.may_no ?_).symm; rw [Pc.ok_iff]; omega) | (rw [Bool.eq_iff_iff, Pc.may, decide_eq_true_eq, Pc.ok_iff]; first | omega | (simp only [decide_eq_true_eq, beq_iff_eq]; omega)) | (rw [Bool.eq_iff_iff, Pc.may, decide_eq_true_eq, decide_eq_true_eq, Pc.ok_iff]; exact ⟨fun h => ⟨by omega, by omega, by omega, by omega, by omega, by omega, by omega, by omega, by omega, fun hlt => by omega⟩, fun ⟨_, _, _, _, _, _, _, _, h9, _⟩ => by omega⟩))
end
end Go.Proofs.YtdeckbdaencjnaaDoor
set_option linter.unusedVariables false
set_option linter.unusedSimpArgs false
namespace Go.Proofs.YtdeckbdaencjnaaDoor
open Go.RowKit
/-- A piece, in a block of its own. -/
structure PcAt (w : World) (b : Nat) (p : Pc) (A : Option Addr) (n c : Nat) : Prop where
  ex : ∃ t, w.heap[b]? = some (.cells #[.int .i64 p.epoch, .int .i64 p.at_, .int .i64 p.index, .int .i64 p.count, .slice A n c] t (0, 0))
theorem PcAt.keep0 {w w' : World} {b : Nat} {p : Pc} {A : Option Addr} {n c : Nat} (h : PcAt w b p A n c) (hf : Fr F0 w w') : PcAt w' b p A n c := by
  obtain ⟨t, h⟩ := h.ex
  exact ⟨t, hf.keep0 h⟩
theorem PcAt.all {w : World} {b : Nat} {p : Pc} {A : Option Addr} {n c : Nat} (h : PcAt w b p A n c) : w.cell? ⟨b, 0, none⟩ = some (.int .i64 p.epoch) ∧ w.cell? ⟨b, 1, none⟩ = some (.int .i64 p.at_) ∧ w.cell? ⟨b, 2, none⟩ = some (.int .i64 p.index) ∧ w.cell? ⟨b, 3, none⟩ = some (.int .i64 p.count) ∧ w.cell? ⟨b, 4, none⟩ = some (.slice A n c) := by
  obtain ⟨t, e⟩ := h.ex
  refine ⟨?_, ?_, ?_, ?_, ?_⟩ <;> (rw [cell_of e]; rfl)
/-- A sector of the call's own, and no error. -/
structure SecRet (w w' : World) (e : Ending) (xs : List Int) : Prop where
  ex : ∃ v, e = .returned (.tuple #[v, .int .i64 0]) ∧ OwnV w w' v xs
section
variable {w : World}
set_option maxRecDepth 100000 in
set_option maxHeartbeats 4000000 in
theorem write6_c (p : Pc) (hp : p.Ok) (hb : Bys p.data) (A : Option Addr) (n c : Nat) (hA : BytesAt w A n p.data) : Calls Tryd.prog 107 #[(.agg #[.int .i64 p.epoch, .int .i64 p.at_, .int .i64 p.index, .int .i64 p.count, .slice A n c])] w fun e w' => SecRet w w' e p.sec := by
  have hn := hA.len
  have HN := Lib.hid hn
  have HOK := Lib.hid hp
  have HBY := Lib.hid hb
  obtain ⟨e0, e1, a0, a1, c0, c1, i0, i1, d0, d1⟩ := hp
  rw [hn] at d0
  have n0 : (0 : Int) ≤ (n : Int) := Int.natCast_nonneg _
  have n1 : (n : Int) ≤ 44 := by omega
  have HP : Hid (PcAt (w.alloc (.cells #[.int .i64 p.epoch, .int .i64 p.at_, .int .i64 p.index, .int .i64 p.count, .slice A n c] 160)) w.heap.size p A n c) := Lib.hid ⟨_, alloc_at rfl _⟩
  have HF : Hid (Fr F0 w (w.alloc (.cells #[.int .i64 p.epoch, .int .i64 p.at_, .int .i64 p.index, .int .i64 p.count, .slice A n c] 160))) := Lib.hid ((Fr.refl _ _).alloc _)
  have HD := Lib.hid (hA.keep0 HF.out)
  have HMY := Lib.hid (Pc.may_yes HOK.out)
  clear hn hb d1 hA
  go_enter Tryd.func107, Tryd.ntmps107
  go_wp2_with fail
  refine (may6_c p A n c HN.out (by omega)).mono ?_
  rintro e w1 ⟨rfl, hf⟩
  rw [HMY.out]
  have HF := Lib.hid (HF.out.then0 hf)
  have HP := Lib.hid (HP.out.keep0 hf)
  have HD := Lib.hid (HD.out.keep0 hf)
  have hsb : w.heap.size < w1.heap.size := by have := hf.size; simp at this; omega
  clear hf
  obtain ⟨q0, q1, q2, q3, q4⟩ := HP.out.all
  clear q1
  clear q2
  clear q3
  clear q4
  go_wp2_with fail
  refine (put_c none 0 0 [] (BytesAt.nil _ _) (by decide) p.epoch (by omega) (by omega) 4 (by decide)).mono ?_
  rintro e w2 ⟨v2, rfl, hown⟩
  have hf := hown.fr
  have HO : Hid (OwnV w w2 v2 (le 4 p.epoch)) := Lib.hid ⟨own_base_le hown.own (Nat.le_of_lt hsb), HF.out.then0 hf⟩
  have HP := Lib.hid (HP.out.keep0 hf)
  have HD := Lib.hid (HD.out.keep0 hf)
  have hsb : w.heap.size < w2.heap.size := by have := hf.size; omega
  obtain ⟨x1, hx⟩ : ∃ x, x = le 4 p.epoch := ⟨_, rfl⟩
  have HX1 := Lib.hid hx
  have HL1 : Hid (x1.length = 4) := Lib.hid (by rw [hx, le_len])
  rw [← hx] at HO
  clear hown hf hx q0
  obtain ⟨q0, q1, q2, q3, q4⟩ := HP.out.all
  clear q0
  clear q2
  clear q3
  clear q4
  obtain ⟨A1, c1, rfl, hb, hn1⟩ := HO.out.byt
  have HB := Lib.hid hb
  rw [HL1.out]
  clear hb hn1
  go_wp2_with fail
  refine (put_c A1 4 c1 x1 (by have := HB.out.at_; rwa [HL1.out] at this) (by decide) p.at_ (by omega) (by omega) 6 (by decide)).mono ?_
  rintro e w3 ⟨v3, rfl, hown⟩
  have hf := hown.fr
  have HO : Hid (OwnV w w3 v3 (x1 ++ le 6 p.at_)) := Lib.hid ⟨own_base_le hown.own (Nat.le_of_lt hsb), HO.out.fr.then0 hf⟩
  have HP := Lib.hid (HP.out.keep0 hf)
  have HD := Lib.hid (HD.out.keep0 hf)
  have hsb : w.heap.size < w3.heap.size := by have := hf.size; omega
  obtain ⟨x2, hx⟩ : ∃ x, x = x1 ++ le 6 p.at_ := ⟨_, rfl⟩
  have HX2 := Lib.hid hx
  have HL2 : Hid (x2.length = 10) := Lib.hid (by rw [hx, List.length_append, HL1.out, le_len])
  rw [← hx] at HO
  clear hown hf hx q1
  obtain ⟨q0, q1, q2, q3, q4⟩ := HP.out.all
  clear q0
  clear q1
  clear q3
  clear q4
  obtain ⟨A2, c2, rfl, hb, hn2⟩ := HO.out.byt
  have HB := Lib.hid hb
  rw [HL2.out]
  clear hb hn2
  go_wp2_with fail
  refine (put_c A2 10 c2 x2 (by have := HB.out.at_; rwa [HL2.out] at this) (by decide) p.index (by omega) (by omega) 2 (by decide)).mono ?_
  rintro e w4 ⟨v4, rfl, hown⟩
  have hf := hown.fr
  have HO : Hid (OwnV w w4 v4 (x2 ++ le 2 p.index)) := Lib.hid ⟨own_base_le hown.own (Nat.le_of_lt hsb), HO.out.fr.then0 hf⟩
  have HP := Lib.hid (HP.out.keep0 hf)
  have HD := Lib.hid (HD.out.keep0 hf)
  have hsb : w.heap.size < w4.heap.size := by have := hf.size; omega
  obtain ⟨x3, hx⟩ : ∃ x, x = x2 ++ le 2 p.index := ⟨_, rfl⟩
  have HX3 := Lib.hid hx
  have HL3 : Hid (x3.length = 12) := Lib.hid (by rw [hx, List.length_append, HL2.out, le_len])
  rw [← hx] at HO
  clear hown hf hx q2
  obtain ⟨q0, q1, q2, q3, q4⟩ := HP.out.all
  clear q0
  clear q1
  clear q2
  clear q4
  obtain ⟨A3, c3, rfl, hb, hn3⟩ := HO.out.byt
  have HB := Lib.hid hb
  rw [HL3.out]
  clear hb hn3
  go_wp2_with fail
  refine (put_c A3 12 c3 x3 (by have := HB.out.at_; rwa [HL3.out] at this) (by decide) p.count (by omega) (by omega) 2 (by decide)).mono ?_
  rintro e w5 ⟨v5, rfl, hown⟩
  have hf := hown.fr
  have HO : Hid (OwnV w w5 v5 (x3 ++ le 2 p.count)) := Lib.hid ⟨own_base_le hown.own (Nat.le_of_lt hsb), HO.out.fr.then0 hf⟩
  have HP := Lib.hid (HP.out.keep0 hf)
  have HD := Lib.hid (HD.out.keep0 hf)
  have hsb : w.heap.size < w5.heap.size := by have := hf.size; omega
  obtain ⟨x4, hx⟩ : ∃ x, x = x3 ++ le 2 p.count := ⟨_, rfl⟩
  have HX4 := Lib.hid hx
  have HL4 : Hid (x4.length = 14) := Lib.hid (by rw [hx, List.length_append, HL3.out, le_len])
  rw [← hx] at HO
  clear hown hf hx q3
  obtain ⟨q0, q1, q2, q3, q4⟩ := HP.out.all
  clear q0
  clear q1
  clear q2
  clear q3
  obtain ⟨A4, c4, rfl, hb, hn4⟩ := HO.out.byt
  have HB := Lib.hid hb
  rw [HL4.out]
  clear hb hn4
  go_wp2_with fail
  refine (put_c A4 14 c4 x4 (by have := HB.out.at_; rwa [HL4.out] at this) (by decide) (n : Int) (by omega) (by omega) 2 (by decide)).mono ?_
  rintro e w6 ⟨v6, rfl, hown⟩
  have hf := hown.fr
  have HO : Hid (OwnV w w6 v6 (x4 ++ le 2 (n : Int))) := Lib.hid ⟨own_base_le hown.own (Nat.le_of_lt hsb), HO.out.fr.then0 hf⟩
  have HP := Lib.hid (HP.out.keep0 hf)
  have HD := Lib.hid (HD.out.keep0 hf)
  have hsb : w.heap.size < w6.heap.size := by have := hf.size; omega
  obtain ⟨x5, hx⟩ : ∃ x, x = x4 ++ le 2 (n : Int) := ⟨_, rfl⟩
  have HX5 := Lib.hid hx
  have HL5 : Hid (x5.length = 16) := Lib.hid (by rw [hx, List.length_append, HL4.out, le_len])
  rw [← hx] at HO
  clear hown hf hx q4
  obtain ⟨q0, q1, q2, q3, q4⟩ := HP.out.all
  clear q0 q1 q2 q3
  obtain ⟨m, hm⟩ : ∃ m, m = 44 - n := ⟨_, rfl⟩
  have HMM := Lib.hid hm
  have hmn : m + n = 44 := by omega
  clear hm
  have hb0 := Nat.le_of_lt hsb
  have hval : ValsAt w6 A (p.data.map (Value.int .u8)) := HD.out.vals
  have HVAL := Lib.hid hval
  obtain ⟨x6, hx6⟩ : ∃ x, x = x5 ++ p.data := ⟨_, rfl⟩
  have HX6 := Lib.hid hx6
  obtain ⟨L, hL⟩ : ∃ L, L = 16 + n := ⟨_, rfl⟩
  have HLL := Lib.hid hL
  have hLm : (60 : Int) - (L : Int) = (m : Int) := by omega
  have L0 : (0 : Int) ≤ (L : Int) := Int.natCast_nonneg _
  have L1 : L + m = 60 := by omega
  have HL6 : Hid (x6.length = L) := Lib.hid (by rw [hx6, hL, List.length_append, HL5.out, HN.out])
  have hbl : p.body.length = 60 := Pc.body_len HOK.out.d0
  have HBL := Lib.hid hbl
  have hbody : x6 ++ List.replicate m 0 = p.body := by
    rw [hx6, HX5.out, HX4.out, HX3.out, HX2.out, HX1.out, HMM.out, ← HN.out]
    simp only [Pc.body, Pc.nums, List.append_assoc]
  have BODY : Hid (∀ (W : World) (v : Value), W.ownsRow w.heap.size 5 1 v (L + m) (x6.map (Value.int .u8) ++ List.replicate m (Value.int .u8 0)) → W.ownsRow w.heap.size 5 1 v p.body.length (p.body.map (Value.int .u8))) := Lib.hid (by
    intro W v h
    rw [hbl, ← hbody, List.map_append, List.map_replicate, ← L1]
    exact h)
  clear hx6 hL hbl hbody
  obtain ⟨A5, c5, rfl, hb5, hn5⟩ := HO.out.byt
  have ho := HO.out.own
  rw [HL5.out] at ho ⊢
  have HO5 := Lib.hid ho
  clear hval hb5 hn5 ho
  go_wp2_with (at_builtin; refine wpList_append_vals rfl (.tmp 33) (.tmp 35) 24 5 1 (.int .u8 0) rfl und_bytes info_u8 rfl (by decide) w.heap.size (.slice A5 16 c5) (x5.map (Value.int .u8)) (p.data.map (Value.int .u8)) A n c (by rfl) (by rfl) (by rw [List.length_map, HN.out]) (bytes_one _) (by rw [List.length_map, HL5.out]; exact HO5.out) HVAL.out hb0 (by rw [List.length_map, HL5.out]; omega) ?_; intro v7 w7 hown7 hf7; rw [List.length_map, HL5.out, ← List.map_append, ← HX6.out, ← HLL.out, ← HL6.out] at hown7; obtain ⟨A7, c7, rfl, hb7, -⟩ := vals_reads hown7; rw [HL6.out] at hown7 ⊢; have HO7 := Lib.hid hown7; have HF7 := Lib.hid hf7; clear hown7 hf7 hb7 q4; go_wp2_with (at_builtin; refine wpList_append_zeros rfl (.tmp 37) (.tmp 40) 24 3 5 1 (.int .u8 0) .i64 rfl und_bytes und_int info_u8 rfl rfl w.heap.size (.slice A7 L c7) (x6.map (Value.int .u8)) .i64 m (by rfl) (by rfl) (by rw [List.length_map, HL6.out]; exact HO7.out) (Nat.le_trans hb0 HF7.out.size) (by rw [List.length_map, HL6.out]; omega) (by rw [List.length_map, HL6.out]; omega) ?_; intro v8 w8 hown8 hf8; rw [List.length_map, HL6.out] at hown8; have hown9 := BODY.out w8 v8 hown8; obtain ⟨A8, c8, rfl, hb8, -⟩ := vals_reads hown9; rw [HBL.out] at hown9 hb8 ⊢; have HO8 := Lib.hid hown9; have HB8 := Lib.hid hb8; have HF8 := Lib.hid hf8; clear hown8 hown9 hf8 hb8))
  refine (of_c A8 60 c8 p.body HB8.out (by decide) (Pc.body_bys HBY.out)).mono ?_
  rintro e w9 ⟨rfl, hf9⟩
  have hs := sumOf_bd p.body
  have hs0 := hs.1
  have hs1 := hs.2
  obtain ⟨sm, hsm⟩ : ∃ s, s = sumOf p.body := ⟨_, rfl⟩
  rw [← hsm] at hs0 hs1 ⊢
  have HSM := Lib.hid hsm
  have HF9 := Lib.hid hf9
  clear hs hsm hf9
  go_wp2_with fail
  refine (put_c none 0 0 [] (BytesAt.nil _ _) (by decide) sm hs0 (by omega) 4 (by decide)).mono ?_
  rintro e w10 ⟨v10, rfl, hown⟩
  have hwb : Fr F0 w w10 := by
    have h6 : Fr F0 w w6 := HO.out.fr
    have h7 : Fr F0 w w7 := h6.trans HF7.out (fun i hi => .inr (own_base HO5.out i hi))
    have h8 : Fr F0 w w8 := h7.trans HF8.out (fun i hi => .inr (own_base HO7.out i hi))
    exact (h8.then0 HF9.out).then0 hown.fr
  have hb8' := (HB8.out.keep0 HF9.out).keep0 hown.fr
  have HB9 := Lib.hid hb8'
  have hz9 : w.heap.size ≤ w9.heap.size := by have h1 := HF9.out.size; have h2 := HF8.out.size; have h3 := HF7.out.size; omega
  have ho10 := own_base_le hown.own hz9
  have hl4 : (([] : List Int) ++ le 4 sm).length = 4 := by rw [List.nil_append, le_len]
  rw [hl4] at ho10
  have HO10 := Lib.hid ho10
  have HWB := Lib.hid hwb
  have hz10 := hwb.size
  have hm4 : (([] ++ le 4 sm).map (Value.int .u8)).length = 4 := by rw [List.length_map, List.nil_append, le_len]
  have HM4 := Lib.hid hm4
  clear hown hb8' ho10 hl4 hwb hm4 hz9
  go_wp2_with (at_builtin; refine wpList_append_vals rfl (.tmp 45) (.tmp 46) 24 5 1 (.int .u8 0) rfl und_bytes info_u8 rfl (by decide) w.heap.size v10 (([] ++ le 4 sm).map (Value.int .u8)) (p.body.map (Value.int .u8)) A8 60 c8 (by rfl) (by rfl) (by rw [List.length_map, HBL.out]) (bytes_one _) (by rw [HM4.out]; exact HO10.out) HB9.out.vals hz10 (by rw [HM4.out]; decide) ?_; intro v11 w11 hown11 hf11; rw [HM4.out, ← List.map_append, List.nil_append] at hown11; have HO11 := Lib.hid hown11; have HF11 := Lib.hid hf11; clear hown11 hf11)
  go_ret2
  refine ⟨_, rfl, ?_, HWB.out.trans HF11.out (fun i hi => .inr (own_base HO10.out i hi))⟩
  have e1 : p.sec = le 4 sm ++ p.body := by rw [HSM.out]; rfl
  rw [e1]
  have e2 : (le 4 sm ++ p.body).length = 64 := by rw [List.length_append, le_len, HBL.out]
  rw [e2]
  exact HO11.out
end
end Go.Proofs.YtdeckbdaencjnaaDoor
set_option linter.unusedVariables false
set_option linter.unusedSimpArgs false
namespace Go.Proofs.YtdeckbdaencjnaaDoor
open Go.RowKit
/-- Numbers of so many bytes each, one behind the other. -/
def fieldsL (b : List Int) : List Nat → List Int
  | [] => []
  | k :: ks => unle (b.take k) :: fieldsL (b.drop k) ks
theorem fieldsL_snoc (b : List Int) (ks : List Nat) (k : Nat) : fieldsL b (ks ++ [k]) = fieldsL b ks ++ [unle ((b.drop ks.sum).take k)] := by
  induction ks generalizing b with
  | nil => simp [fieldsL]
  | cons q ks ih => simp [fieldsL, ih, List.drop_drop]
theorem fieldsL_len (b : List Int) (ks : List Nat) : (fieldsL b ks).length = ks.length := by
  induction ks generalizing b with
  | nil => rfl
  | cons q ks ih => simp [fieldsL, ih]
theorem take_sum (ks : List Nat) {j : Nat} (hj : j < ks.length) : (ks.take (j + 1)).sum = (ks.take j).sum + ks.getD j 0 := by
  rw [List.take_succ_eq_append_getElem hj, List.sum_append]
  simp [List.getD, hj]
theorem take_sum_le (ks : List Nat) (j : Nat) : (ks.take j).sum ≤ ks.sum := by
  conv => rhs; rw [← List.take_append_drop j ks, List.sum_append]
  omega
section
variable {w : World}
set_option maxRecDepth 100000 in
set_option maxHeartbeats 2000000 in
theorem fields6_c (A : Option Addr) (n c : Nat) (xs : List Int) (hA : Byt w A c xs) (hl : xs.length = n) (hb : Bys xs) (B : Option Addr) (m d : Nat) (ks : List Nat) (hm : ks.length = m) (hm8 : m ≤ 100) (hB : ValsAt w B (ks.map fun k : Nat => Value.int .i64 (k : Int))) (hk : ∀ k ∈ ks, 1 ≤ k ∧ k ≤ 6) (hs : ks.sum ≤ n) :
    Calls Tryd.prog 121 #[.slice A n c, .slice B m d] w fun e w' => ∃ A' c', e = .returned (.slice A' m c') ∧ ValsAt w' A' ((fieldsL xs ks).map (Value.int .i64)) ∧ (0 < m → ∃ g, A' = some ⟨g, 0, none⟩) ∧ Fr F0 w w' := by
  have HL := Lib.hid hl
  have HM := Lib.hid hm
  have HK := Lib.hid hk
  have HS := Lib.hid hs
  have m0 : (0 : Int) ≤ (m : Int) := Int.natCast_nonneg _
  have m1 : (m : Int) ≤ 100 := by omega
  have HLIM : Hid (∀ ad, A = some ad → 0 < xs.length → ad.block < w.heap.size) := Lib.hid (fun ad e hp => by subst e; exact hA.at_.lt hp)
  subst hl
  clear hm hk hs
  go_enter Tryd.func121, Tryd.ntmps121
  go_wp2_with fail
  refine (wnew_c A c xs hA w.heap.size HLIM.out (Nat.le_refl _)).mono ?_
  rintro e w1 ⟨rb, rfl, hrb, hRd, hf1⟩
  have hrl := hRd.lt
  have HR := Lib.hid hRd
  have HF1 := Lib.hid hf1
  have hz1 := hf1.size
  clear hRd hf1
  go_wp2_with fail
  go_loopg [6, 8, 9, 10, 15] m (fun kq x6 x8 x9 x10 x15 wr => ∃ j : Nat, j ≤ m ∧ kq = m - j ∧ x15 = .int .i64 (j : Int) ∧ wr.ownsRow w1.heap.size 3 1 x6 j ((fieldsL xs (ks.take j)).map (Value.int .i64)) ∧ RdAt wr rb w.heap.size (xs.drop (ks.take j).sum) ∧ Fr (fun k => k = rb) w1 wr)
  case atStart => exact ⟨0, by omega, rfl, rfl, own_nil _ _ _ _, HR.out, Fr.refl _ _⟩
  case round =>
    obtain ⟨j, hj, rfl, rfl, hown, hRd, hf⟩ := hrel
    have HO := Lib.hid hown
    have HRD := Lib.hid hRd
    have HF := Lib.hid hf
    have hsz := hf.size
    have hw : Fr F0 w wr := HF1.out.trans hf (fun i hi => .inr (by omega))
    have HW := Lib.hid hw
    by_cases hlt : j < m
    · have j0 : (0 : Int) ≤ (j : Int) := Int.natCast_nonneg _
      have j1 : (j : Int) < (m : Int) := by omega
      have hjl : j < ks.length := by rw [HM.out]; exact hlt
      obtain ⟨ad, rfl, hc⟩ := (hB.keep0 hw).cells (by rw [List.length_map]; omega)
      obtain ⟨k, hkk⟩ : ∃ k, k = ks.getD j 0 := ⟨_, rfl⟩
      have hck : wr.cell? (ad.add j) = some (.int .i64 (k : Int)) := hc j _ (by rw [hkk, List.getElem?_map, List.getD, List.getElem?_eq_getElem hjl]; rfl)
      have hkb := HK.out k (by rw [hkk]; simp [List.getD, hjl])
      have hk1 := hkb.1
      have hk6 := hkb.2
      have hts := take_sum ks hjl
      have hle := take_sum_le ks (j + 1)
      rw [← hkk] at hts
      have hdl : k ≤ (xs.drop (ks.take j).sum).length := by
        rw [List.length_drop]
        have := HS.out
        omega
      have HTS := Lib.hid hts
      have HKK := Lib.hid hkk
      have HDL := Lib.hid hdl
      clear hc hkk hkb hts hle hdl hown hRd hf hw
      go_wp2_with fail
      refine (get_c HRD.out (hb.drop _) k hk1 (by omega) HDL.out).mono ?_
      rintro e w2 ⟨rfl, hRd2, hf2⟩
      have HRD2 := Lib.hid hRd2
      have HF2 := Lib.hid hf2
      have hz2 := hf2.size
      obtain ⟨u, hu⟩ : ∃ u, u = unle ((xs.drop (ks.take j).sum).take k) := ⟨_, rfl⟩
      rw [← hu]
      have hub : 0 ≤ u ∧ u < 281474976710656 := by
        have hbb : Bys ((xs.drop (ks.take j).sum).take k) := (hb.drop _).take _
        rw [hu]
        refine ⟨unle_nonneg hbb, Int.lt_of_lt_of_le (unle_lt hbb) ?_⟩
        have h1 : ((xs.drop (ks.take j).sum).take k).length ≤ 6 := Nat.le_trans (List.length_take_le _ _) hk6
        have h2 := Nat.pow_le_pow_right (show 0 < 256 by decide) h1
        have e6 : ∀ q : Nat, (256 : Int) ^ q = ((256 ^ q : Nat) : Int) := fun q => (Int.natCast_pow 256 q).symm
        rw [e6]
        exact Int.ofNat_le.2 h2
      have u0 := hub.1
      have u1 := hub.2
      have HU := Lib.hid hu
      have hwr : wrap64 u = u := wrap64_id u0 (by omega)
      have HO2 := Lib.hid (own_keep HO.out hf2 (fun i hi => by have := own_base HO.out i hi; omega))
      have hlen : ((fieldsL xs (ks.take j)).map (Value.int .i64)).length = j := by rw [List.length_map, fieldsL_len, List.length_take]; omega
      have HLEN := Lib.hid hlen
      clear hRd2 hf2 hub hu hlen
      go_wp2_with (at_builtin; refine wpList_append_one rfl (.tmp 25) (.tmp 28) 69 3 8 (.int .i64 0) rfl und_ints info_int rfl (by decide) w1.heap.size u6 ((fieldsL xs (ks.take j)).map (Value.int .i64)) (.int .i64 u) (by rfl) (by rfl) rfl (by rw [HLEN.out]; exact HO2.out) (by omega) (by rw [HLEN.out]; omega) ?_; intro v3 w3 hown3 hf3)
      go_roundg (m - (j + 1))
      case measure => omega
      case rel =>
        have hff : Fr (fun i => i = rb) w1 w2 := HF.out.trans HF2.out (fun _ h => .inl h)
        have htk : ks.take (j + 1) = ks.take j ++ [k] := by rw [List.take_succ_eq_append_getElem hjl, HKK.out]; simp [List.getD, hjl]
        refine ⟨j + 1, by omega, rfl, by first | rfl | (go_num), ?_, ?_, hff.trans hf3 (fun i hi => .inr (own_base HO.out i hi))⟩
        · rw [HLEN.out] at hown3
          rw [htk, fieldsL_snoc, ← HU.out, List.map_append]
          exact hown3
        · have := HRD2.out.keep hf3 (fun h => by have := own_base HO.out rb h; omega) (fun i hi h => by have := own_base HO.out i h; omega)
          rw [List.drop_drop] at this
          rw [HTS.out]
          exact this
    · have hjm : j = m := by omega
      subst hjm
      have htk : ks.take j = ks := List.take_of_length_le (by rw [HM.out]; exact Nat.le_refl _)
      rw [htk] at hown
      have hg : ∀ A' c', u6 = .slice A' j c' → 0 < j → ∃ g, A' = some ⟨g, 0, none⟩ := by
        intro A' c' e hp
        rcases hown.2 with ⟨e2, h0⟩ | ⟨g, cap, cur, e2, _⟩
        · omega
        · rw [e2] at e; cases e; exact ⟨g, rfl⟩
      obtain ⟨A', c', rfl, hV, -⟩ := ValsAt.of_own hown
      have HG := Lib.hid (hg A' c' rfl)
      clear hg
      have HV := Lib.hid hV
      clear hown hV htk hRd
      go_wp2_with fail
      go_ret
      exact ⟨A', c', rfl, HV.out, HG.out, HW.out⟩
end
end Go.Proofs.YtdeckbdaencjnaaDoor
