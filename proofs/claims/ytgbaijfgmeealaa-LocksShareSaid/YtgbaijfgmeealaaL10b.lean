/-
  Layer 10: LocksShare, the walk. Conditions: none.
-/
import Derived.Test.YtgbaijfgmeealaaP10a
import Derived.Test.YtgbaijfgmeealaaTurn
set_option linter.unusedVariables false
set_option linter.unusedSimpArgs false
namespace Go.Proofs.Ytgbaijfgmeealaa
open Go.RowKit
theorem falls_roots (j : Nat) : Falls (roots j) := by
  intro i x hx
  unfold roots at hx
  rw [List.getElem?_map] at hx
  obtain ⟨y, -, rfl⟩ := Option.map_eq_some_iff.1 hx
  show (-1 : Int) < i
  omega
theorem AskRet.any {w w' : World} {e : Ending} {X : List Tx9} {L : List Lk} {tx block m : Int} (h : AskRet w w' e X L tx block m) : ∃ A n c, e = .returned (.tuple #[.agg #[.slice A n c], .int .i64 (askE X L tx block m)]) ∧ Fr F0 w w' := by
  cases h with
  | no h he hf => exact ⟨_, _, _, he, hf⟩
  | yes h v he hs hf =>
    obtain ⟨A, c, rfl, -⟩ := hs.ex
    exact ⟨_, _, _, by rw [h]; exact he, hf⟩
def ShJ (lim : Nat) (k : Nat) (us : Nat → Value) (w : World) : Prop := k = 1 → ∃ b u, us 28 = .pointer (some ⟨b, 0, none⟩) ∧ lim ≤ b ∧ w.heap[b]? = some (.cells #[u] 31 (0, 0))
theorem ShJ.keep (lim : Nat) (k : Nat) (us us' : Nat → Value) (w' w'' : World) (h : ShJ lim k us w') (hd : ∀ d ∈ [28], us' d = us d) (hf : Fr F0 w' w'') : ShJ lim k us' w'' := fun hk => by
  obtain ⟨b, u, h1, h2, h3⟩ := h hk
  exact ⟨b, u, by rw [hd 28 (by simp)]; exact h1, h2, hf.keep0 h3⟩
section
variable {w : World}
set_option maxRecDepth 100000 in
set_option maxHeartbeats 8000000 in
theorem share_walk (nn wn : Int) : Calls Try.prog 3 #[.int .i64 nn, .int .i64 wn] w fun e w' => e = .returned (.bool true) ∧ Fr F0 w w' := by
  obtain ⟨r, hr⟩ : ∃ r : Nat, nn % 8 = (r : Int) := ⟨(nn % 8).toNat, by omega⟩
  have hr8 : r < 8 := by omega
  have hbandr : bits .and .i64 nn 7 = (r : Int) := by rw [← hr]; exact i64_and nn 3 (by decide)
  obtain ⟨s, hs⟩ : ∃ s : Nat, wn % 8 = (s : Int) := ⟨(wn % 8).toNat, by omega⟩
  have hs8 : s < 8 := by omega
  have hbands : bits .and .i64 wn 7 = (s : Int) := by rw [← hs]; exact i64_and wn 3 (by decide)
  obtain ⟨k, hk⟩ : ∃ k : Nat, k = 1 + r := ⟨_, rfl⟩
  have hk1 : 1 ≤ k := by omega
  have hk9 : k < 9 := by omega
  have hr1 : IntKind.i64.wrap (1 + (r : Int)) = (k : Int) := by rw [IntKind.wrap_i64]; omega
  obtain ⟨v, hv⟩ : ∃ v : Nat, v = s % k := ⟨_, rfl⟩
  have hvk : v < k := by rw [hv]; exact Nat.mod_lt _ hk1
  have hrem : Int.tmod (s : Int) (k : Int) = (v : Int) := by rw [Int.tmod_eq_emod_of_nonneg (by omega), hv]; simp
  have k0 : ((k : Int) == 0) = false := by simp; omega
  have k00 : ¬ (k : Int) = 0 := by omega
  have kp : (0 : Int) < (k : Int) := by omega
  clear hr hs hk hv
  go_enter Try.func3, Try.ntmps3
  go_wp2_with fail
  refine (awake10_c).mono ?_
  rintro e w1 ⟨rfl, hf1⟩
  have HF1 := Lib.hid hf1
  clear hf1
  go_wp2_with fail
  obtain ⟨tb, htb⟩ : ∃ tb, tb = w1.heap.size := ⟨_, rfl⟩
  have htw : w.heap.size ≤ tb := by rw [htb]; exact HF1.out.size
  have HW1 : Hid ((w1.alloc (.cells #[.slice none 0 0, .int .i64 0] 25)).heap[tb]? = some (.cells #[.slice none 0 0, .int .i64 0] 25 (0, 0))) := Lib.hid (alloc_at htb _)
  have HFA : Hid (Fr F0 w (w1.alloc (.cells #[.slice none 0 0, .int .i64 0] 25))) := Lib.hid (HF1.out.alloc _)
  rw [← htb]
  clear htb
  have kn : (0 : Int) ≤ (k : Int) := Int.natCast_nonneg _
  go_loopg [9, 10, 11, 12] k (fun kq x9 x10 x11 x12 wr => ∃ (j : Nat) (vj : Value), j ≤ k ∧ kq = k - j ∧ x9 = .int .i64 (j : Int) ∧ SlV 4 Tx9.cells wr vj (roots j) ∧ wr.heap[tb]? = some (.cells #[vj, .int .i64 (j : Int)] 25 (0, 0)) ∧ Fr F0 w wr)
  case atStart => exact ⟨0, .slice none 0 0, by omega, rfl, rfl, SlV.nil _ _ _, HW1.out, HFA.out⟩
  case round =>
    obtain ⟨j, vj, hj, rfl, rfl, hsj, hbj, hf⟩ := hrel
    have HS := Lib.hid hsj
    have HB := Lib.hid hbj
    have HF := Lib.hid hf
    obtain ⟨Aj, cj, rfl⟩ := hsj.exn (n := j) (roots_len j)
    have j0 : (0 : Int) ≤ (j : Int) := Int.natCast_nonneg _
    by_cases hlt : j < k
    · have j1 : (j : Int) < (k : Int) := by omega
      have kt : wr.cell? ⟨tb, 0, none⟩ = some (.slice Aj j cj) := by rw [cell_of hbj]; rfl
      have kt1 : wr.cell? ⟨tb, 1, none⟩ = some (.int .i64 (j : Int)) := by rw [cell_of hbj]; rfl
      clear hsj hbj hf
      go_wp2_with fail
      refine (begin_c (L := roots j) j (-1) HS.out (by rw [roots_len]; omega) (falls_roots j) (.inl rfl) (by omega) (by omega)).mono ?_
      intro e w2 hbr
      cases hbr with
      | no h he hf => exact absurd (share_begin j (by omega)) h
      | yes h v2 he hs2 hf2 =>
      subst he
      rw [roots_succ] at hs2
      obtain ⟨A2, c2, rfl⟩ := hs2.exn (n := j + 1) (roots_len _)
      obtain ⟨W2, hW2⟩ : ∃ W2, W2 = w2.alloc (.cells #[.slice A2 (j + 1) c2, .int .i64 ((j : Int) + 1)] 25) := ⟨_, rfl⟩
      have hfW : Fr F0 w2 W2 := by rw [hW2]; exact (Fr.refl _ _).alloc _
      have HS2 := Lib.hid (hs2.keep0 hfW)
      have HB2 := Lib.hid (hfW.keep0 (hf2.keep0 HB.out))
      have HF2 := Lib.hid ((HF.out.then0 hf2).then0 hfW)
      have HW2 := Lib.hid hW2
      clear hs2 hf2 hfW kt kt1 h hW2
      go_wp2_with (refine wpList_store_at rfl 25 (.tmp 8) (.tmp 52) rfl tb 0 [.slice A2 (j + 1) c2, .int .i64 ((j : Int) + 1)] (by rfl) (by rfl) 25 [.slice Aj j cj, .int .i64 (j : Int)] (by rw [← HW2.out]; exact HB2.out) size_tree (Nat.le_refl 2) (tree_one _ _ _ _) ?_; rw [← HW2.out])
      obtain ⟨hb3, hf3⟩ := tree_box (v' := .slice A2 (j + 1) c2) (clk' := (j : Int) + 1) rfl HB2.out
      have hs3 := HS2.out.box Tx9.len HB2.out (by show 2 < 4; decide) hf3
      have hf4 := HF2.out.trans hf3 (fun x hx => .inr (by omega))
      go_roundg (k - (j + 1))
      case measure => omega
      case rel => exact ⟨j + 1, .slice A2 (j + 1) c2, by omega, rfl, by first | rfl | (go_num), hs3, hb3, hf4⟩
    · have hjk : j = k := by omega
      subst hjk
      clear hsj hbj hf
      go_wp2_with fail
      obtain ⟨ta, hta⟩ : ∃ ta, ta = wr.heap.size := ⟨_, rfl⟩
      have hba : tb < ta := by rw [hta]; exact lt_of_block HB.out
      have HTA : Hid ((wr.alloc (.cells #[.slice none 0 0] 31)).heap[ta]? = some (.cells #[.slice none 0 0] 31 (0, 0))) := Lib.hid (alloc_at hta _)
      have HB1 : Hid ((wr.alloc (.cells #[.slice none 0 0] 31)).heap[tb]? = some (.cells #[.slice Aj j cj, .int .i64 (j : Int)] 25 (0, 0))) := Lib.hid (keep_alloc HB.out _)
      have HS1 : Hid (SlV 4 Tx9.cells (wr.alloc (.cells #[.slice none 0 0] 31)) (.slice Aj j cj) (roots j)) := Lib.hid (HS.out.keep0 ((Fr.refl _ _).alloc _))
      have HF2 : Hid (Fr F0 w (wr.alloc (.cells #[.slice none 0 0] 31))) := Lib.hid (HF.out.alloc _)
      rw [← hta]
      clear hta HS HB HF
      go_loopg [14, 15, 16] j (fun kq x14 x15 x16 wr => ∃ (i : Nat) (vi : Value), i ≤ j ∧ kq = j - i ∧ x14 = .int .i64 (i : Int) ∧ SlV 4 Lk.cells wr vi (reads i) ∧ wr.heap[ta]? = some (.cells #[vi] 31 (0, 0)) ∧ wr.heap[tb]? = some (.cells #[.slice Aj j cj, .int .i64 (j : Int)] 25 (0, 0)) ∧ SlV 4 Tx9.cells wr (.slice Aj j cj) (roots j) ∧ Fr F0 w wr)
      case atStart => exact ⟨0, .slice none 0 0, by omega, rfl, rfl, SlV.nil _ _ _, HTA.out, HB1.out, HS1.out, HF2.out⟩
      case round =>
        clear HTA HB1 HS1 HF2
        obtain ⟨i, vi, hi, rfl, rfl, hsi, hai, hbi, hxi, hf⟩ := hrel
        have HS := Lib.hid hsi
        have HA := Lib.hid hai
        have HB := Lib.hid hbi
        have HX := Lib.hid hxi
        have HF := Lib.hid hf
        obtain ⟨Ai, ci, rfl⟩ := hsi.exn (n := i) (reads_len i)
        have i0 : (0 : Int) ≤ (i : Int) := Int.natCast_nonneg _
        have kt : wr.cell? ⟨tb, 0, none⟩ = some (.slice Aj j cj) := by rw [cell_of hbi]; rfl
        have kt1 : wr.cell? ⟨tb, 1, none⟩ = some (.int .i64 (j : Int)) := by rw [cell_of hbi]; rfl
        have ka : wr.cell? ⟨ta, 0, none⟩ = some (.slice Ai i ci) := by rw [cell_of hai]; rfl
        clear hsi hai hbi hxi hf
        by_cases hlt2 : i < j
        · have i1 : (i : Int) < (j : Int) := by omega
          go_wp2_with fail
          refine (ask_c (X := roots j) (L := reads i) j i 9 1 HS.out (by rw [reads_len]; omega) (share_reads i (by omega)) HX.out (by rw [roots_len]; omega) (by decide) (by decide) (.inl rfl)).mono ?_
          intro e w2 har
          cases har with
          | no h he hf => exact absurd (share_ask j hk9 i hlt2).1 h
          | yes h v2 he hs2 hf2 =>
          subst he
          rw [(share_ask j hk9 i hlt2).2] at hs2
          obtain ⟨A2, c2, rfl⟩ := hs2.exn (n := i + 1) (reads_len _)
          obtain ⟨W2, hW2⟩ : ∃ W2, W2 = w2.alloc (.cells #[.slice A2 (i + 1) c2] 31) := ⟨_, rfl⟩
          have hfW : Fr F0 w2 W2 := by rw [hW2]; exact (Fr.refl _ _).alloc _
          have HS2 := Lib.hid (hs2.keep0 hfW)
          have HA2 := Lib.hid (hfW.keep0 (hf2.keep0 HA.out))
          have HB2 := Lib.hid (hfW.keep0 (hf2.keep0 HB.out))
          have HX2 := Lib.hid ((HX.out.keep0 hf2).keep0 hfW)
          have HF2 := Lib.hid ((HF.out.then0 hf2).then0 hfW)
          have ka2 : (w2.alloc (.cells #[.slice A2 (i + 1) c2] 31)).cell? ⟨ta, 0, none⟩ = some (.slice Ai i ci) := by rw [← hW2, cell_of HA2.out]; rfl
          have ka3 : (w2.alloc (.cells #[.slice A2 (i + 1) c2] 31)).frozen? ⟨ta, 0, none⟩ = false := by rw [← hW2]; exact free_of HA2.out 0
          have HW2 := Lib.hid hW2
          clear hs2 hf2 hfW kt kt1 ka h hW2
          go_wp2_with fail
          rw [← HW2.out]
          have hf3 : Fr (fun x => x = ta) W2 (W2.setCell ⟨ta, 0, none⟩ (.slice A2 (i + 1) c2)) := (Fr.refl _ _).setCell (by exact .inl rfl) _
          have hs3 := HS2.out.box Lk.len HA2.out (by show 1 < 4; decide) hf3
          have hx3 := HX2.out.box Tx9.len HA2.out (by show 1 < 4; decide) hf3
          have ha3 : (W2.setCell ⟨ta, 0, none⟩ (.slice A2 (i + 1) c2)).heap[ta]? = some (.cells #[.slice A2 (i + 1) c2] 31 (0, 0)) := by rw [set_cell HA2.out]; rfl
          have hb3 := hf3.keep HB2.out (by omega)
          have hf4 := HF2.out.trans hf3 (fun x hx => .inr (by omega))
          go_roundg (j - (i + 1))
          case measure => omega
          case rel => exact ⟨i + 1, .slice A2 (i + 1) c2, by omega, rfl, by first | rfl | (go_num), hs3, ha3, hb3, hx3, hf4⟩
        · have hij : i = j := by omega
          subst hij
          go_wp2_with fail
          obtain ⟨sa1, sa2, sa3, sa4, sa5, sa6, sa7, sa8, sa9⟩ := share_after i hk9 v hvk
          have H2 := Lib.hid sa2
          have H3 := Lib.hid sa3
          have H4 := Lib.hid sa4
          have H5 := Lib.hid sa5
          have H6 := Lib.hid sa6
          have H7 := Lib.hid sa7
          have H8 := Lib.hid sa8
          have H9 := Lib.hid sa9
          refine (ask_c (X := roots i) (L := reads i) i v 9 2 HS.out (by rw [reads_len]; omega) (share_reads i hk9) HX.out (by rw [roots_len]; omega) (by decide) (by decide) (.inr rfl)).mono ?_
          intro e w2 har
          obtain ⟨A2, n2, c2, rfl, hf2⟩ := har.any
          rw [sa1]
          obtain ⟨E2, hE2⟩ : ∃ E2 : Int, E2 = if i = 1 then 0 else 9 := ⟨_, rfl⟩
          rw [← hE2]
          have HE2 := Lib.hid hE2
          obtain ⟨W2, hW2⟩ : ∃ W2, W2 = w2.alloc (.cells #[.slice A2 n2 c2] 31) := ⟨_, rfl⟩
          have hfW : Fr F0 w2 W2 := by rw [hW2]; exact (Fr.refl _ _).alloc _
          have HS2 := Lib.hid ((HS.out.keep0 hf2).keep0 hfW)
          have HA2 := Lib.hid (hfW.keep0 (hf2.keep0 HA.out))
          have HB2 := Lib.hid (hfW.keep0 (hf2.keep0 HB.out))
          have HX2 := Lib.hid ((HX.out.keep0 hf2).keep0 hfW)
          have HF2 := Lib.hid ((HF.out.then0 hf2).then0 hfW)
          have HW2 := Lib.hid hW2
          clear sa1 sa2 sa3 sa4 sa5 sa6 sa7 sa8 sa9 hE2 kt kt1 ka hf2 hfW hW2 har
          go_wp2_with fail
          rw [← HW2.out]
          clear HW2 HS HA HB HX HF
          obtain ⟨ub, hub⟩ : ∃ ub, ub = W2.heap.size := ⟨_, rfl⟩
          have HUB := Lib.hid hub
          have hua : ta < ub := by rw [hub]; exact lt_of_block HA2.out
          clear hub
          go_loopg [19, 20] i (fun kq x19 x20 wr => ∃ (q : Nat), q ≤ i ∧ kq = i - q ∧ x20 = .int .i64 (q : Int) ∧ wr.ownsRow ub 3 1 x19 (othersL i v q).length ((othersL i v q).map (Value.int .i64)) ∧ Fr F0 W2 wr)
          case atStart => exact ⟨0, by omega, rfl, rfl, own_nil _ _ _ _, Fr.refl _ _⟩
          case round =>
            obtain ⟨q, hq, rfl, rfl, hown, hf⟩ := hrel
            have HO := Lib.hid hown
            have HF := Lib.hid hf
            have hz : ub ≤ wr.heap.size := by rw [HUB.out]; exact hf.size
            have HOT := Lib.hid (others_succ i v q)
            have hle : (othersL i v q).length ≤ 1000 := by
              unfold othersL
              rw [List.length_map]
              have := List.length_filter_le (fun x => decide (x ≠ v)) (List.range q)
              rw [List.length_range] at this
              omega
            clear hown hf
            have q0 : (0 : Int) ≤ (q : Int) := Int.natCast_nonneg _
            by_cases hlt3 : q < i
            · have q1 : (q : Int) < (i : Int) := by omega
              by_cases hqv : q = v
              · have hq2 : ((q : Int) != (v : Int)) = false := by simp [hqv]
                go_wp2_with fail
                go_roundg (i - (q + 1))
                case measure => omega
                case rel => exact ⟨q + 1, by omega, rfl, by first | rfl | (go_num), by rw [HOT.out, if_pos hqv, List.append_nil]; exact HO.out, HF.out⟩
              · have hq2 : ((q : Int) != (v : Int)) = true := by simp; omega
                go_wp2_with (at_builtin; refine wpList_append_one rfl (.tmp 84) (.tmp 86) 34 3 8 (.int .i64 0) rfl und_ints9 info_int9 rfl (by decide) ub u19 ((othersL i v q).map (Value.int .i64)) (.int .i64 (q : Int)) (by rfl) (by rfl) rfl (by rw [List.length_map]; exact HO.out) hz (by rw [List.length_map]; omega) ?_; intro v5 w5 hown5 hf5)
                go_roundg (i - (q + 1))
                case measure => omega
                case rel =>
                  refine ⟨q + 1, by omega, rfl, by first | rfl | (go_num), ?_, HF.out.trans hf5 (fun x hx => .inr (by have := own_base HO.out x hx; rw [← HUB.out]; exact this))⟩
                  rw [HOT.out, if_neg hqv, List.length_append, List.map_append]
                  rw [List.length_map] at hown5
                  exact hown5
            · have hqi : q = i := by omega
              subst hqi
              obtain ⟨A3, c3, rfl, hv3, -, -, -⟩ := ValsAt.of_own HO.out
              have HV3 := Lib.hid hv3
              have HS3 := Lib.hid (HS2.out.keep0 HF.out)
              have HX3 := Lib.hid (HX2.out.keep0 HF.out)
              have HA3 := Lib.hid (HF.out.keep0 HA2.out)
              have HB3 := Lib.hid (HF.out.keep0 HB2.out)
              have HF3 := Lib.hid (HF2.out.then0 HF.out)
              have ka : wr.cell? ⟨ta, 0, none⟩ = some (.slice Ai q ci) := by rw [cell_of HA3.out]; rfl
              obtain ⟨no, hno⟩ : ∃ no, no = (othersL q v q).length := ⟨_, rfl⟩
              have HNO := Lib.hid hno
              have HLE : Hid (no ≤ 1000000) := Lib.hid (by omega)
              rw [← hno]
              clear hv3 hno HS2 HX2 HA2 HB2 HF2 HF HUB HO hle
              go_wp2_with fail
              refine (free_c HNO.out.symm HV3.out HLE.out HS3.out (by rw [reads_len]; omega)).mono ?_
              rintro e w4 ⟨v4, rfl, hown4, hf4⟩
              rw [H2.out] at hown4
              have hs4 := SlV.of_own Lk.len hown4
              obtain ⟨A4, c4, rfl⟩ := hs4.exn (n := 1) rfl
              have HA4 := Lib.hid (hf4.keep0 HA3.out)
              obtain ⟨W4, hW4⟩ : ∃ W4, W4 = w4.setCell ⟨ta, 0, none⟩ (.slice A4 1 c4) := ⟨_, rfl⟩
              have hfW : Fr (fun x => x = ta) w4 W4 := by rw [hW4]; exact (Fr.refl _ _).setCell (by exact .inl rfl) _
              have HS4 := Lib.hid (hs4.box Lk.len HA4.out (by show 1 < 4; decide) hfW)
              have HX4 := Lib.hid ((HX3.out.keep0 hf4).box Tx9.len HA4.out (by show 1 < 4; decide) hfW)
              have HA5 : Hid (W4.heap[ta]? = some (.cells #[.slice A4 1 c4] 31 (0, 0))) := Lib.hid (by rw [hW4, set_cell HA4.out]; rfl)
              have HB4 := Lib.hid (hfW.keep (hf4.keep0 HB3.out) (by omega))
              have HF4 := Lib.hid ((HF3.out.then0 hf4).trans hfW (fun x hx => .inr (by omega)))
              have kf : w4.cell? ⟨ta, 0, none⟩ = some (.slice Ai q ci) := by rw [cell_of HA4.out]; rfl
              have kz : w4.frozen? ⟨ta, 0, none⟩ = false := free_of HA4.out 0
              have ka4 : (w4.setCell ⟨ta, 0, none⟩ (.slice A4 1 c4)).cell? ⟨ta, 0, none⟩ = some (.slice A4 1 c4) := by rw [← hW4, cell_of HA5.out]; rfl
              have kb4 : (w4.setCell ⟨ta, 0, none⟩ (.slice A4 1 c4)).cell? ⟨tb, 0, none⟩ = some (.slice Aj q cj) := by rw [← hW4, cell_of HB4.out]; rfl
              have kb5 : (w4.setCell ⟨ta, 0, none⟩ (.slice A4 1 c4)).cell? ⟨tb, 1, none⟩ = some (.int .i64 (q : Int)) := by rw [← hW4, cell_of HB4.out]; rfl
              have HW4 := Lib.hid hW4
              clear ka hown4 hs4 hf4 hfW hW4 HS3 HX3 HA3 HB3 HF3 HV3
              go_wp2_with fail
              rw [← HW4.out]
              clear kf kz ka4 kb4 kb5 HW4 HA4
              refine (ask_c (X := roots q) (L := own9 v 1) q v 9 2 HS4.out (by show 1 ≤ 100000; decide) H3.out HX4.out (by rw [roots_len]; omega) (by decide) (by decide) (.inr rfl)).mono ?_
              intro e w5 har
              cases har with
              | no h he hf => exact absurd H5.out h
              | yes h v5 he hs5 hf5 =>
              subst he
              rw [H6.out] at hs5
              obtain ⟨A5, c5, rfl⟩ := hs5.exn (n := 1) rfl
              obtain ⟨W5, hW5⟩ : ∃ W5, W5 = w5.alloc (.cells #[.slice A5 1 c5] 31) := ⟨_, rfl⟩
              obtain ⟨tu, htu⟩ : ∃ tu, tu = w5.heap.size := ⟨_, rfl⟩
              have hfW : Fr F0 w5 W5 := by rw [hW5]; exact (Fr.refl _ _).alloc _
              have HS5 := Lib.hid (hs5.keep0 hfW)
              have HX5 := Lib.hid ((HX4.out.keep0 hf5).keep0 hfW)
              have HB5 := Lib.hid (hfW.keep0 (hf5.keep0 HB4.out))
              have HF5 := Lib.hid ((HF4.out.then0 hf5).then0 hfW)
              have HU5 : Hid (W5.heap[tu]? = some (.cells #[.slice A5 1 c5] 31 (0, 0))) := Lib.hid (by rw [hW5]; exact alloc_at htu _)
              have kb4 : (w5.alloc (.cells #[.slice A5 1 c5] 31)).cell? ⟨tb, 0, none⟩ = some (.slice Aj q cj) := by rw [← hW5, cell_of HB5.out]; rfl
              have kb5 : (w5.alloc (.cells #[.slice A5 1 c5] 31)).cell? ⟨tb, 1, none⟩ = some (.int .i64 (q : Int)) := by rw [← hW5, cell_of HB5.out]; rfl
              have HW5 := Lib.hid hW5
              clear h hs5 hf5 hfW hW5 HS4 HX4 HB4 HF4 HA5
              go_wp2_with fail
              rw [← HW5.out, ← htu]
              clear kb4 kb5 HW5 htu
              refine (begin_c (L := roots q) q v HX5.out (by rw [roots_len]; omega) (falls_roots q) (.inr (by unfold isId; rw [roots_len]; simp; omega)) (by omega) (by omega)).mono ?_
              intro e w6 hbr
              cases hbr with
              | no h he hf => exact absurd H7.out h
              | yes h v6 he hs6 hf6 =>
              rw [roots_len] at he
              subst he
              obtain ⟨A6, c6, rfl⟩ := hs6.exn (n := q + 1) (by rw [List.length_append, roots_len]; rfl)
              obtain ⟨W6, hW6⟩ : ∃ W6, W6 = w6.alloc (.cells #[.slice A6 (q + 1) c6, .int .i64 ((q : Int) + 1)] 25) := ⟨_, rfl⟩
              obtain ⟨ty, hty⟩ : ∃ ty, ty = w6.heap.size := ⟨_, rfl⟩
              have hfW : Fr F0 w6 W6 := by rw [hW6]; exact (Fr.refl _ _).alloc _
              have HS6 := Lib.hid ((HS5.out.keep0 hf6).keep0 hfW)
              have HX6 := Lib.hid (hs6.keep0 hfW)
              have HF6 := Lib.hid ((HF5.out.then0 hf6).then0 hfW)
              have HU6 := Lib.hid (hfW.keep0 (hf6.keep0 HU5.out))
              have HY6 : Hid (W6.heap[ty]? = some (.cells #[.slice A6 (q + 1) c6, .int .i64 ((q : Int) + 1)] 25 (0, 0))) := Lib.hid (by rw [hW6]; exact alloc_at hty _)
              have ku : (w6.alloc (.cells #[.slice A6 (q + 1) c6, .int .i64 ((q : Int) + 1)] 25)).cell? ⟨tu, 0, none⟩ = some (.slice A5 1 c5) := by rw [← hW6, cell_of HU6.out]; rfl
              have HW6 := Lib.hid hW6
              clear h hs6 hf6 hfW hW6 HS5 HX5 HF5 HU5 HB5
              go_wp2_with fail
              rw [← HW6.out, ← hty]
              clear ku HW6 hty
              refine (ask_c (X := roots q ++ [⟨(v : Int), 1, (q : Int) + 1, 0⟩]) (L := own9 v 2) ((q : Int) + 1) q 9 2 HS6.out (by show 1 ≤ 100000; decide) H4.out HX6.out (by rw [List.length_append, roots_len]; show q + 1 ≤ 64; omega) (by decide) (by decide) (.inr rfl)).mono ?_
              intro e w7 har
              obtain ⟨A7, n7, c7, rfl, hf7⟩ := har.any
              rw [H8.out]
              obtain ⟨W7, hW7⟩ : ∃ W7, W7 = w7.alloc (.cells #[.slice A7 n7 c7] 31) := ⟨_, rfl⟩
              have hfW : Fr F0 w7 W7 := by rw [hW7]; exact (Fr.refl _ _).alloc _
              have HS7 := Lib.hid ((HS6.out.keep0 hf7).keep0 hfW)
              have HX7 := Lib.hid ((HX6.out.keep0 hf7).keep0 hfW)
              have HF7 := Lib.hid ((HF6.out.then0 hf7).then0 hfW)
              have HU7 := Lib.hid (hfW.keep0 (hf7.keep0 HU6.out))
              have HY7 := Lib.hid (hfW.keep0 (hf7.keep0 HY6.out))
              have HW7 := Lib.hid hW7
              clear hf7 hfW hW7 HS6 HX6 HF6 HU6 HY6 har
              go_wp2_with fail
              rw [← HW7.out]
              clear HW7
              obtain ⟨lim, hlim⟩ : ∃ lim, lim = W7.heap.size := ⟨_, rfl⟩
              have HLW := Lib.hid hlim
              have HLIM : Hid (∀ wx, Fr (fun b => lim ≤ b) W7 wx → Fr F0 W7 wx) := Lib.hid (fun wx h => (Fr.refl F0 W7).trans h (fun x hx => .inr (by rw [← hlim]; exact hx)))
              have HUL : Hid (¬ lim ≤ tu) := Lib.hid (by have := lt_of_block HU7.out; omega)
              have HYL : Hid (¬ lim ≤ ty) := Lib.hid (by have := lt_of_block HY7.out; omega)
              have HVW : Hid (IntKind.i64.wrap ((v : Int) + 1) = (v : Int) + 1) := Lib.hid (by rw [IntKind.wrap_i64]; omega)
              obtain ⟨z, hz⟩ : ∃ z : Nat, z = (v + 1) % q := ⟨_, rfl⟩
              have HZ : Hid (Int.tmod ((v : Int) + 1) (q : Int) = (z : Int)) := Lib.hid (by rw [Int.tmod_eq_emod_of_nonneg (by omega), hz]; simp)
              have HQ0 : Hid (¬ q = 0) := Lib.hid (by omega)
              obtain ⟨E9, hE9⟩ : ∃ E9, E9 = askE (roots q ++ [⟨(v : Int), 1, (q : Int) + 1, 0⟩]) (own9 v 2) (z : Int) 9 1 := ⟨_, rfl⟩
              have HE9 : Hid (askE (roots q ++ [⟨(v : Int), 1, (q : Int) + 1, 0⟩]) (own9 v 2) (z : Int) 9 1 = E9) := Lib.hid hE9.symm
              have HE99 : Hid (q = 1 ∨ E9 = 9) := Lib.hid (by rw [hE9, hz]; exact H9.out)
              clear hlim hz hE9
              refine wp_region_turn (S := (fun b => lim ≤ b)) [false, false, false, false, false, false, false, false, false, false, false, false, false, false, false, false, false, false, false, false, false, false, false, false, false, false, false, false, true, true, false, false, false, false, false, false, false, false, false, false, false, false, false, false, false, false, false, false, false, false, false, false, false, false, false, false, false, false, false, false, false, false, false, false, false, false, false, false, false, false, false, false, false, false, false, false, false, false, false, false, false, false, false, false, false, false, false, false, false, false, false, false, false, false, false, false, false, false, false, false, false, false, false, false, false, false, false, false, false, false, false, false, true, true, true, true, true, true, true, true, true, true, false, false, false, false, false, false, false, false, false, false, false, false, false, false, false, false, false, false, false, false, false, false, false, false, false, false, false, false] [.eq (.agg #[.slice A5 1 c5]), .eq (.agg #[.slice A6 (q + 1) c6, .int .i64 ((q : Int) + 1)]), .eq (.int .i64 ((v : Nat) : Int)), .eq (.int .i64 ((v : Int) + 1)), .eq (.int .i64 ((q : Nat) : Int)), .eq (.int .i64 ((z : Nat) : Int)), ⟨fun v w1 => ∃ A n c, v = .tuple #[.agg #[.slice A n c], .int .i64 E9], fun v w1 w2 h hf => h⟩, ⟨fun v w1 => ∃ A n c, v = .tuple #[.agg #[.slice A n c], .int .i64 E9], fun v w1 w2 h hf => h⟩, ⟨fun v w1 => ∃ A n c, v = .agg #[.slice A n c], fun v w1 w2 h hf => h⟩, .eq (.int .i64 E9), .any, .any, .eq (.int .i64 E9)] (ShJ lim) [none, none, none, none, none, none, none, none, none, none, some 0, some 1, none] [28] 2 (by kernel_rfl) (by kernel_rfl) (by rfl) (by kernel_rfl) ?hJ ?hJ0 (fun us => ?steps) (fun us W7 hG hJ hall => ?fin)
              case hJ =>
                exact ShJ.keep lim
              case hJ0 =>
                exact fun h => by cases h
              case steps =>
                simp only [fillL, Nat.reduceAdd]
                refine stepsTurn.cons (fun wx hG hd K hK => ?_) ?_
                · rw [if_pos (wanted_none rfl)]
                  have hc : wx.cell? ⟨tu, 0, none⟩ = some (.slice A5 1 c5) := by rw [cell_of (hG.keep HU7.out HUL.out)]; rfl
                  refine wp_value (w2 := wx) (v := .agg #[.slice A5 1 c5]) ?_ (hK _ _ rfl (Fr.refl _ _))
                  clear hd hK
                  go_simp
                refine stepsTurn.cons (fun wx hG hd K hK => ?_) ?_
                · rw [if_pos (wanted_none rfl)]
                  have hc : wx.cell? ⟨ty, 0, none⟩ = some (.slice A6 (q + 1) c6) := by rw [cell_of (hG.keep HY7.out HYL.out)]; rfl
                  have hc1 : wx.cell? ⟨ty, 1, none⟩ = some (.int .i64 ((q : Int) + 1)) := by rw [cell_of (hG.keep HY7.out HYL.out)]; rfl
                  refine wp_value (w2 := wx) (v := .agg #[.slice A6 (q + 1) c6, .int .i64 ((q : Int) + 1)]) ?_ (hK _ _ rfl (Fr.refl _ _))
                  clear hd hK
                  go_simp
                refine stepsTurn.cons (fun wx hG hd K hK => ?_) ?_
                · rw [if_pos (wanted_none rfl)]
                  refine wp_value (w2 := wx) (v := .int .i64 ((v : Nat) : Int)) ?_ (hK _ _ rfl (Fr.refl _ _))
                  clear hd hG hK
                  go_simp
                refine stepsTurn.cons (fun wx hG hd K hK => ?_) ?_
                · have h115 : us 115 = (.int .i64 ((v : Nat) : Int)) := deps_get hd 0 rfl rfl rfl rfl rfl
                  rw [if_pos (wanted_none rfl)]
                  have hw := HVW.out
                  refine wp_value (w2 := wx) (v := .int .i64 ((v : Int) + 1)) ?_ (hK _ _ rfl (Fr.refl _ _))
                  clear hd hG hK
                  go_simp
                refine stepsTurn.cons (fun wx hG hd K hK => ?_) ?_
                · rw [if_pos (wanted_none rfl)]
                  refine wp_value (w2 := wx) (v := .int .i64 ((q : Nat) : Int)) ?_ (hK _ _ rfl (Fr.refl _ _))
                  clear hd hG hK
                  go_simp
                refine stepsTurn.cons (fun wx hG hd K hK => ?_) ?_
                · have h116 : us 116 = (.int .i64 ((v : Int) + 1)) := deps_get hd 0 rfl rfl rfl rfl rfl
                  have h117 : us 117 = (.int .i64 ((q : Nat) : Int)) := deps_get hd 1 rfl rfl rfl rfl rfl
                  rw [if_pos (wanted_none rfl)]
                  have hw := HZ.out
                  have hw0 := HQ0.out
                  refine wp_value (w2 := wx) (v := .int .i64 ((z : Nat) : Int)) ?_ (hK _ _ rfl (Fr.refl _ _))
                  clear hd hG hK
                  go_simp
                refine stepsTurn.cons (fun wx hG hd K hK => ?_) ?_
                · have h113 : us 113 = (.agg #[.slice A5 1 c5]) := deps_get hd 0 rfl rfl rfl rfl rfl
                  have h114 : us 114 = (.agg #[.slice A6 (q + 1) c6, .int .i64 ((q : Int) + 1)]) := deps_get hd 1 rfl rfl rfl rfl rfl
                  have h118 : us 118 = (.int .i64 ((z : Nat) : Int)) := deps_get hd 2 rfl rfl rfl rfl rfl
                  rw [if_pos (wanted_none rfl)]
                  refine wp_call (w2 := wx) (f := 12) (args := #[.agg #[.slice A5 1 c5], .agg #[.slice A6 (q + 1) c6, .int .i64 ((q : Int) + 1)], .int .i64 ((z : Nat) : Int), .int .i64 9, .int .i64 1]) ?_ ?_
                  · clear hd hK
                    go_simp
                  · refine (ask_c (w := wx) (X := (roots q ++ [⟨(v : Int), 1, (q : Int) + 1, 0⟩])) (L := own9 v 2) ((q : Int) + 1) z 9 1 (HS7.out.keep0 (HLIM.out wx hG)) (by show 1 ≤ 100000; decide) H4.out (HX7.out.keep0 (HLIM.out wx hG)) (by rw [List.length_append, roots_len]; show q + 1 ≤ 64; omega) (by decide) (by decide) (.inl rfl)).mono ?_
                    intro e w9 har
                    obtain ⟨A, n, c, rfl, hf⟩ := har.any
                    rw [HE9.out]
                    exact ⟨_, rfl, hK _ _ ⟨_, _, _, rfl⟩ hf⟩
                refine stepsTurn.cons (fun wx hG hd K hK => ?_) ?_
                · have h119 := deps_get hd 0 rfl rfl rfl rfl rfl
                  rw [if_pos (wanted_none rfl)]
                  obtain ⟨A, n, c, h119'⟩ := h119
                  refine wp_value (w2 := wx) (v := .tuple #[.agg #[.slice A n c], .int .i64 E9]) ?_ (hK _ _ ⟨_, _, _, rfl⟩ (Fr.refl _ _))
                  clear hd hG hK
                  go_simp
                refine stepsTurn.cons (fun wx hG hd K hK => ?_) ?_
                · have h112 := deps_get hd 0 rfl rfl rfl rfl rfl
                  rw [if_pos (wanted_none rfl)]
                  obtain ⟨A, n, c, h112'⟩ := h112
                  refine wp_value (w2 := wx) (v := .agg #[.slice A n c]) ?_ (hK _ _ ⟨_, _, _, rfl⟩ (Fr.refl _ _))
                  clear hd hG hK
                  go_simp
                refine stepsTurn.cons (fun wx hG hd K hK => ?_) ?_
                · have h112 := deps_get hd 0 rfl rfl rfl rfl rfl
                  rw [if_pos (wanted_none rfl)]
                  obtain ⟨A, n, c, h112'⟩ := h112
                  refine wp_value (w2 := wx) (v := .int .i64 E9) ?_ (hK _ _ rfl (Fr.refl _ _))
                  clear hd hG hK
                  go_simp
                refine stepsTurn.cons (fun wx hG hJ hd K hK => ?_) ?_
                · rw [if_pos (wanted_none rfl)]
                  refine wp_value (w2 := wx.alloc (.cells #[.slice none 0 0] 31)) (v := .pointer (some ⟨wx.heap.size, 0, none⟩)) ?_ (hK _ _ trivial ((Fr.refl _ _).alloc _) (fun _ => ⟨wx.heap.size, _, by simp [updD], (HLIM.out wx hG).size |> fun h => by rw [HLW.out]; exact h, alloc_at rfl _⟩))
                  clear hd hG hK hJ
                  go_simp
                refine stepsTurn.cons (fun wx hG hJ hd K hK => ?_) ?_
                · have h28 := deps_get hd 0 rfl rfl rfl rfl rfl
                  have h120 := deps_get hd 1 rfl rfl rfl rfl rfl
                  rw [if_pos (wanted_none rfl)]
                  obtain ⟨bb, uu, hb1, hb2, hb3⟩ := hJ rfl
                  obtain ⟨A, n, c, h120'⟩ := h120
                  refine wp_store_at 31 (.tmp 28) (.tmp 120) rfl bb 0 [.slice A n c] (by exact hb1) (by exact h120') 31 [uu] hb3 size_table (Nat.le_refl 1) (by simp [Value.oneCell']) (hK undef _ trivial ((Fr.refl _ _).setRow (by exact .inl hb2) _) (fun h => by cases h))
                refine stepsTurn.cons (fun wx hG hd K hK => ?_) ?_
                · have h121 : us 121 = (.int .i64 E9) := deps_get hd 0 rfl rfl rfl rfl rfl
                  rw [if_pos (wanted_none rfl)]
                  refine wp_value (w2 := wx) (v := .int .i64 E9) ?_ (hK _ _ rfl (Fr.refl _ _))
                  clear hd hG hK
                  go_simp
                exact stepsTurn.nil
              case fin =>
                have h113 : us 113 = (.agg #[.slice A5 1 c5]) := all_get hall 0 rfl rfl rfl
                have h114 : us 114 = (.agg #[.slice A6 (q + 1) c6, .int .i64 ((q : Int) + 1)]) := all_get hall 1 rfl rfl rfl
                have h115 : us 115 = (.int .i64 ((v : Nat) : Int)) := all_get hall 2 rfl rfl rfl
                have h116 : us 116 = (.int .i64 ((v : Int) + 1)) := all_get hall 3 rfl rfl rfl
                have h117 : us 117 = (.int .i64 ((q : Nat) : Int)) := all_get hall 4 rfl rfl rfl
                have h118 : us 118 = (.int .i64 ((z : Nat) : Int)) := all_get hall 5 rfl rfl rfl
                have h119 := all_get hall 6 rfl rfl rfl
                have h112 := all_get hall 7 rfl rfl rfl
                have h120 := all_get hall 8 rfl rfl rfl
                have h121 : us 121 = (.int .i64 E9) := all_get hall 9 rfl rfl rfl
                have h28 := all_get hall 10 rfl rfl rfl
                have h29 : us 29 = (.int .i64 E9) := all_get hall 12 rfl rfl rfl
                simp only [fillL, Nat.reduceAdd]
                clear hall
                simp only [h113, h114, h115, h116, h117, h118, h121, h29]
                clear h113 h114 h115 h116 h117 h118 h121 h29
                have HFZ := Lib.hid (HF7.out.then0 (HLIM.out W7 hG))
                clear hJ hG
                have hq2 := HE2.out
                by_cases hq1 : q = 1
                · rw [if_pos hq1] at hq2
                  have g1 : (E2 == 0) = true := by simp [hq2]
                  have g2 : ((q : Int) == 1) = true := by simp [hq1]
                  clear hq2 hq1
                  go_wp2_with fail
                  go_ret
                  exact ⟨rfl, HFZ.out⟩
                · rw [if_neg hq1] at hq2
                  have g1 : (E2 == 0) = false := by simp [hq2]
                  have g2 : ((q : Int) == 1) = false := by simp; omega
                  have g3 : (E9 == 9) = true := by have := HE99.out.resolve_left hq1; simp [this]
                  clear hq2 hq1
                  go_wp2_with fail
                  go_ret
                  exact ⟨rfl, HFZ.out⟩
end
end Go.Proofs.Ytgbaijfgmeealaa
