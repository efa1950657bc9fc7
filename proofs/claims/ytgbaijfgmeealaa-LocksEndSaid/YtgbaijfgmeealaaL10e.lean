/-
  Layer 10: LocksEnd, the walk. Conditions: none.
-/
import Derived.Test.YtgbaijfgmeealaaL10d
import Derived.Test.YtgbaijfgmeealaaLast
import Derived.Test.YtgbaijfgmeealaaK10m
set_option linter.unusedVariables false
set_option linter.unusedSimpArgs false
namespace Go.Proofs.Ytgbaijfgmeealaa
open Go.RowKit
theorem free_of_none (L : List Lk) (k : Int) : ofL (freeL L [k]) k = [] := by
  refine List.eq_nil_iff_forall_not_mem.2 fun x hx => ?_
  rw [ofL_mem, freeL_mem] at hx
  exact hx.1.2 (by simp [hx.2])
theorem pass_of_none {L : List Lk} (h : Rise L) {k p : Int} (hne : p ≠ k) : ofL (passL L k p) k = [] := by
  by_cases hp : p < 0
  · unfold passL
    rw [if_pos hp]
    exact free_of_none L k
  · refine List.eq_nil_iff_forall_not_mem.2 fun x hx => ?_
    rw [ofL_mem, passL_mem h (by omega) hne] at hx
    rcases hx with ⟨⟨-, h2, -⟩ | ⟨l, -, -, rfl⟩, h3⟩
    · exact h2 h3
    · rw [(keepL_key L p l).1] at h3
      exact hne h3
theorem pass_find {L : List Lk} (h : SaneL L) {k p : Int} (p0 : 0 ≤ p) (p1 : p < 64) (hne : p ≠ k) {l : Lk} (hl : l ∈ ofL L k) : findL (passL L k p) p l.block = keepL L p l := by
  have h1 := ofL_mem.1 hl
  exact findL_of (passL_sane h p1).rise ((passL_mem h.rise p0 hne).2 (.inr ⟨l, h1.1, h1.2, rfl⟩)) (keepL_key L p l).1 (keepL_key L p l).2
theorem run_field2 {w : World} (g1 g2 g3 g4 : Int) : (Instr.field 45 (.agg #[.int .i64 g1, .int .i64 g2, .int .i64 g3, .int .i64 g4]) 2).run Try.prog w = .ok (.int .i64 g3) w := by
  unfold Instr.field
  simp [run_underlying Try.underlying45, part, asAgg]
section
variable {w : World}
set_option maxRecDepth 100000 in
set_option maxHeartbeats 8000000 in
theorem end_walk (A : Option Addr) (N cA : Nat) (l : List Act1) (idn : Int) (hA : ActsAt w A N l) (hN : N ≤ 9223372036854775807) : Calls Try.prog 6 #[.slice A N cA, .int .i64 idn] w fun e w' => e = .returned (.bool true) ∧ Fr F0 w w' := by
  have HACT := Lib.hid hA
  have N0 : (0 : Int) ≤ (N : Int) := Int.natCast_nonneg _
  clear hA
  go_enter Try.func6, Try.ntmps6
  go_wp2_with fail
  refine (awake10_c).mono ?_
  rintro e w1 ⟨rfl, hf1⟩
  have HF1 := Lib.hid hf1
  clear hf1
  by_cases hbig : 120 < N
  · have hb1 : (120 : Int) < (N : Int) := by omega
    go_wp2_with fail
    go_ret
    exact ⟨rfl, HF1.out⟩
  · have hb1 : ¬ (120 : Int) < (N : Int) := by omega
    go_wp2_with fail
    refine (grown_c (HACT.out.keep0 HF1.out) (by omega)).mono ?_
    intro e w2 hgr
    obtain ⟨X, L, vx, vt, clk, rfl, hsx, hst, hgn, hc0, hc1, hf2⟩ := hgr.ex
    obtain ⟨Ax, cx, rfl, hxr, -⟩ := hsx.ex
    obtain ⟨At, ct, rfl, htr, -⟩ := hst.ex
    obtain ⟨n, hn⟩ : ∃ n, n = X.length := ⟨_, rfl⟩
    obtain ⟨nt, hnt⟩ : ∃ nt, nt = L.length := ⟨_, rfl⟩
    rw [← hn] at hsx ⊢
    rw [← hnt] at hst ⊢
    obtain ⟨tb, htb⟩ : ∃ tb, tb = w2.heap.size := ⟨_, rfl⟩
    obtain ⟨W, hW⟩ : ∃ W, W = (w2.alloc (.cells #[.slice Ax n cx, .int .i64 clk] 25)).alloc (.cells #[.slice At nt ct] 31) := ⟨_, rfl⟩
    have hfW : Fr F0 w2 W := by rw [hW]; exact ((Fr.refl F0 w2).alloc _).alloc _
    have HTB : Hid (TwoB W tb (tb + 1) X L (.slice Ax n cx) (.slice At nt ct) clk) := Lib.hid ⟨by rw [hW, htb]; exact keep_alloc (alloc_at rfl _) _, by rw [hW, htb]; exact alloc_at (by simp) _, hsx.keep0 hfW, hst.keep0 hfW⟩
    have HF2 := Lib.hid ((HF1.out.then0 hf2).then0 hfW)
    have HXR := Lib.hid (hxr.keep0 hfW)
    have HGN := Lib.hid hgn
    have HN := Lib.hid hn
    have HNT := Lib.hid hnt
    have HW := Lib.hid hW
    have HTBE := Lib.hid htb
    have n0 : (0 : Int) ≤ (n : Int) := Int.natCast_nonneg _
    have nt0 : (0 : Int) ≤ (nt : Int) := Int.natCast_nonneg _
    have hn64 : n ≤ 64 := by rw [hn]; exact hgn.len
    have hnt1 : nt ≤ 16384 := by rw [hnt]; exact sane_len hgn.sane
    have HNT1 : Hid (L.length ≤ 1000000) := Lib.hid (by have := sane_len hgn.sane; omega)
    clear hgr hsx hst hxr htr hgn hf2 hfW hn hnt htb hW
    by_cases hn0 : n = 0
    · subst hn0
      go_wp2_with fail
      go_ret
      exact ⟨rfl, by rw [← HW.out]; exact HF2.out⟩
    · have hnz : ((n : Int) == 0) = false := by simp; omega
      have hnz2 : ¬ (n : Int) = 0 := by omega
      obtain ⟨r, hr⟩ : ∃ r : Nat, idn % 65536 = (r : Int) := ⟨(idn % 65536).toNat, by omega⟩
      have hband : bits .and .i64 idn 65535 = (r : Int) := by rw [← hr]; exact i64_and idn 16 (by decide)
      obtain ⟨k, hk⟩ : ∃ k : Nat, k = r % n := ⟨_, rfl⟩
      have hkn : k < n := by rw [hk]; exact Nat.mod_lt _ (by omega)
      have hrem : Int.tmod (r : Int) (n : Int) = (k : Int) := by rw [Int.tmod_eq_emod_of_nonneg (by omega), hk]; simp
      have hmod : (r : Int) % (n : Int) = (k : Int) := by rw [hk]; simp
      have hkw : IntKind.i64.wrap (k : Int) = (k : Int) := by rw [IntKind.wrap_i64]; omega
      have hnn : ¬ n = 0 := hn0
      clear hr hk hmod
      go_wp2_with fail
      rw [← HW.out, ← HTBE.out]
      have HKI : Hid (isId X (k : Int) = true) := Lib.hid (by rw [isId_iff]; have := HN.out; omega)
      have hkl : k < X.length := by have := HN.out; omega
      obtain ⟨xb, xo, rfl, hcx⟩ := HXR.out.get (List.getElem?_eq_getElem hkl) (Tx9.pos _)
      obtain ⟨p, hp⟩ : ∃ p, p = X[k].parent := ⟨_, rfl⟩
      have hup : upOf X (k : Int) = p := by rw [hp]; exact upOf_at (List.getElem?_eq_getElem hkl)
      have HPL : Hid (p < (k : Int)) := Lib.hid (by rw [← hup]; exact upOf_lt HGN.out.falls HKI.out)
      have hp64 : p < 64 := by have := HPL.out; omega
      have HPC : Hid (∀ wz, Fr F0 W wz → wz.cell? ⟨xb, xo + k * 4, none⟩ = some (.int .i64 p)) := Lib.hid (by
        have h0 : W.cell? ⟨xb, xo + k * 4, none⟩ = some (.int .i64 p) := by rw [hp]; exact hcx 0 _ rfl
        exact fun wz hf => (World.cell?_of_block (w := W) (hf.block _ (World.block_lt_of_cell? _ _ h0) (fun h => h))).trans h0)
      have k0 : (0 : Int) ≤ (k : Int) := Int.natCast_nonneg _
      have kn : (k : Int) < (n : Int) := by omega
      clear hcx hp hup
      refine (of_c (k : Int) HTB.out.st (by have := HNT1.out; omega)).mono ?_
      rintro e w3 ⟨v3, rfl, hown3, hf3⟩
      have hs3 := SlV.of_own Lk.len hown3
      obtain ⟨A3, c3, rfl, hr3, -⟩ := hs3.ex
      obtain ⟨m, hm⟩ : ∃ m, m = (ofL L (k : Int)).length := ⟨_, rfl⟩
      have HM := Lib.hid hm
      rw [← hm]
      have HMR := Lib.hid hr3
      have HTB2 := Lib.hid (HTB.out.keep0 hf3)
      have HFa := Lib.hid (HF2.out.then0 hf3)
      have hpc := HPC.out w3 hf3
      have HWa := Lib.hid hf3
      have q1 : w3.cell? ⟨tb, 0, none⟩ = some (.slice (some ⟨xb, xo, none⟩) n cx) := by rw [cell_of HTB2.out.bx]; rfl
      have q2 : w3.cell? ⟨tb + 1, 0, none⟩ = some (.slice At nt ct) := by rw [cell_of HTB2.out.bt]; rfl
      clear hown3 hs3 hr3 hm hf3
      go_wp2_with fail
      refine (pass_c (k : Int) p HTB2.out.st HGN.out.sane hp64).mono ?_
      rintro e w4 ⟨v4, rfl, hs4, hf4⟩
      obtain ⟨Au, cu, rfl, -⟩ := hs4.ex
      obtain ⟨nu, hnu⟩ : ∃ nu, nu = (passL L (k : Int) p).length := ⟨_, rfl⟩
      have HNU0 := Lib.hid hnu
      rw [← hnu] at hs4 ⊢
      obtain ⟨b11, hb11⟩ : ∃ b11, b11 = w4.heap.size := ⟨_, rfl⟩
      obtain ⟨W4, hW4⟩ : ∃ W4, W4 = w4.alloc (.cells #[.slice Au nu cu] 31) := ⟨_, rfl⟩
      have hfa : Fr F0 w4 W4 := by rw [hW4]; exact (Fr.refl _ _).alloc _
      have hf34 := hf4.then0 hfa
      have HSU4 := Lib.hid (hs4.keep0 hfa)
      have H114 : Hid (W4.heap[b11]? = some (.cells #[.slice Au nu cu] 31 (0, 0))) := Lib.hid (by rw [hW4]; exact alloc_at hb11 _)
      have HTB4 := Lib.hid (HTB2.out.keep0 hf34)
      have HMR4 := Lib.hid (HMR.out.keep0 hf34)
      have HF4 := Lib.hid (HFa.out.then0 hf34)
      have HUS : Hid (SaneL (passL L (k : Int) p)) := Lib.hid (passL_sane HGN.out.sane hp64)
      have HW4 := Lib.hid hW4
      have HB11 := Lib.hid hb11
      have HVS : Hid (SaneL (freeL L [(k : Int)])) := Lib.hid (freeL_sane HGN.out.sane _)
      obtain ⟨nv, hnv⟩ : ∃ nv, nv = (freeL L [(k : Int)]).length := ⟨_, rfl⟩
      have HNV := Lib.hid hnv
      have HNMT : Hid (nv + m = nt) := Lib.hid (by rw [hnv, HM.out, HNT.out]; exact ofL_free_len L (k : Int))
      clear hs4 hf4 hfa hf34 hW4 hb11 hnu hnv q1 q2 hpc
      go_wp2_with fail
      rw [← HW4.out, ← HB11.out]
      refine (of_c (k : Int) HSU4.out (by have := sane_len HUS.out; omega)).mono ?_
      rintro e w5 ⟨v5, rfl, hown5, hf5⟩
      rw [pass_of_none HGN.out.sane.rise (by have := HPL.out; omega)] at hown5
      obtain ⟨A5, c5, rfl, -⟩ := SrAt.of_own (f := Lk.cells) (L := []) Lk.len hown5
      have HSU := Lib.hid (HSU4.out.keep0 hf5)
      have H11 := Lib.hid (hf5.keep0 H114.out)
      have HTB3 := Lib.hid (HTB4.out.keep0 hf5)
      have HMR3 := Lib.hid (HMR4.out.keep0 hf5)
      have HF3 := Lib.hid (HF4.out.then0 hf5)
      have hm0 : (0 : Int) ≤ (m : Int) := Int.natCast_nonneg _
      have hnv0 : (0 : Int) ≤ (nv : Int) := Int.natCast_nonneg _
      have hnmt : nv + m = nt := HNMT.out
      have HWSUB : Hid (IntKind.i64.wrap ((nt : Int) - (m : Int)) = (nv : Int)) := Lib.hid (by rw [IntKind.wrap_i64]; omega)
      have hmb : m ≤ 16384 := by omega
      clear hown5 hf5 hnmt
      by_cases hp0 : p < 0
      · have hp1 : ¬ 0 ≤ p := by omega
        have HNU : Hid (nu = nv) := Lib.hid (by rw [HNU0.out, HNV.out]; unfold passL; rw [if_pos hp0])
        have hsub : IntKind.i64.wrap ((nt : Int) - (m : Int)) = (nv : Int) := HWSUB.out
        have hnu2 : ((nu : Int) != (nv : Int)) = false := by simp [HNU.out]
        go_wp2_with fail
        go_loopg [12, 13] m (fun kq x12 x13 wr => ∃ i : Nat, i ≤ m ∧ kq = m - i ∧ x12 = .int .i64 (i : Int) ∧ Fr F0 w5 wr)
        case atStart => exact ⟨0, by omega, rfl, rfl, Fr.refl _ _⟩
        case round =>
          obtain ⟨i, hi, rfl, rfl, hf⟩ := hrel
          have HF := Lib.hid hf
          clear hf
          have hsub : IntKind.i64.wrap ((nt : Int) - (m : Int)) = (nv : Int) := HWSUB.out
          have hnu2 : ((nu : Int) != (nv : Int)) = false := by simp [HNU.out]
          have i0 : (0 : Int) ≤ (i : Int) := Int.natCast_nonneg _
          by_cases hlt : i < m
          · have i1 : (i : Int) < (m : Int) := by omega
            have HF9 := Lib.hid (HF3.out.then0 HF.out)
            have HT9 := Lib.hid (HTB3.out.keep0 HF.out)
            have H119 := Lib.hid (HF.out.keep0 H11.out)
            have HSU9 := Lib.hid (HSU.out.keep0 HF.out)
            have q1 : wr.cell? ⟨tb + 1, 0, none⟩ = some (.slice At nt ct) := by rw [cell_of HT9.out.bt]; rfl
            have q2 : wr.cell? ⟨b11, 0, none⟩ = some (.slice Au nu cu) := by rw [cell_of H119.out]; rfl
            go_wp2_with fail
            obtain ⟨W5, hW5⟩ : ∃ W5, W5 = wr.alloc (.cells #[.int .i64 (k : Int)] 3) := ⟨_, rfl⟩
            have hf5 : Fr F0 wr W5 := by rw [hW5]; exact (Fr.refl _ _).alloc _
            have hb5 : W5.heap[wr.heap.size]? = some (.cells #[.int .i64 (k : Int)] 3 (0, 0)) := by rw [hW5]; exact alloc_at rfl _
            rw [← hW5]
            refine (free_c (ls := [(k : Int)]) (n := 1) rfl (ValsAt.one hb5) (by decide) (HT9.out.st.keep0 hf5) (by have := HNT1.out; omega)).mono ?_
            rintro e w6 ⟨v6, rfl, hown6, hf6⟩
            have hs6 := SlV.of_own Lk.len hown6
            obtain ⟨A6, c6, rfl⟩ := hs6.exn (n := nv) HNV.out.symm
            obtain ⟨b14, hb14⟩ : ∃ b14, b14 = w6.heap.size := ⟨_, rfl⟩
            obtain ⟨W7, hW7⟩ : ∃ W7, W7 = w6.alloc (.cells #[.slice A6 nv c6] 31) := ⟨_, rfl⟩
            have hf7 : Fr F0 w6 W7 := by rw [hW7]; exact (Fr.refl _ _).alloc _
            have hf97 := (hf5.then0 hf6).then0 hf7
            have HS7 := Lib.hid (hs6.keep0 hf7)
            have H14 : Hid (W7.heap[b14]? = some (.cells #[.slice A6 nv c6] 31 (0, 0))) := Lib.hid (by rw [hW7]; exact alloc_at hb14 _)
            have HT7 := Lib.hid (HT9.out.keep0 hf97)
            have H117 := Lib.hid (hf97.keep0 H119.out)
            have HSU7 := Lib.hid (HSU9.out.keep0 hf97)
            have HF7 := Lib.hid (HF9.out.then0 hf97)
            have q3 : (w6.alloc (.cells #[.slice A6 nv c6] 31)).cell? ⟨tb + 1, 0, none⟩ = some (.slice At nt ct) := by rw [← hW7, cell_of HT7.out.bt]; rfl
            have HW7 := Lib.hid hW7
            have HB14 := Lib.hid hb14
            clear q1 q2 hW5 hf5 hb5 hown6 hs6 hf6 hf7 hf97 hW7 hb14
            go_wp2_with fail
            rw [← HW7.out, ← HB14.out]
            refine (of_c (k : Int) HS7.out (by have h := sane_len HVS.out; omega)).mono ?_
            rintro e w8 ⟨v8, rfl, hown8, hf8⟩
            rw [free_of_none] at hown8
            obtain ⟨A8, c8, rfl, -⟩ := SrAt.of_own (f := Lk.cells) (L := []) Lk.len hown8
            have H148 := Lib.hid (hf8.keep0 H14.out)
            have H118 := Lib.hid (hf8.keep0 H117.out)
            have HSU8 := Lib.hid (HSU7.out.keep0 hf8)
            have HS8 := Lib.hid (HS7.out.keep0 hf8)
            have HF8 := Lib.hid (HF7.out.then0 hf8)
            have q4 : w8.cell? ⟨b11, 0, none⟩ = some (.slice Au nu cu) := by rw [cell_of H118.out]; rfl
            clear q3 hown8 hf8
            go_wp2_with fail
            refine (sane_c HSU8.out (by have := sane_len HUS.out; omega) HUS.out).mono ?_
            rintro e w10 ⟨rfl, hf10⟩
            have HS10 := Lib.hid (HS8.out.keep0 hf10)
            have HF10 := Lib.hid (HF8.out.then0 hf10)
            have q5 : w10.cell? ⟨b14, 0, none⟩ = some (.slice A6 nv c6) := by rw [cell_of (hf10.keep0 H148.out)]; rfl
            clear q4 hf10
            go_wp2_with fail
            refine (sane_c HS10.out (by have := sane_len HVS.out; omega) HVS.out).mono ?_
            rintro e w12 ⟨rfl, hf12⟩
            have HF12 := Lib.hid (HF10.out.then0 hf12)
            clear q5 hf12
            go_wp2_with fail
            go_ret
            exact ⟨rfl, HF12.out⟩
          · have i1 : ¬ (i : Int) < (m : Int) := by omega
            have HF9 := Lib.hid (HF3.out.then0 HF.out)
            have HT9 := Lib.hid (HTB3.out.keep0 HF.out)
            have H119 := Lib.hid (HF.out.keep0 H11.out)
            have HSU9 := Lib.hid (HSU.out.keep0 HF.out)
            have q1 : wr.cell? ⟨tb + 1, 0, none⟩ = some (.slice At nt ct) := by rw [cell_of HT9.out.bt]; rfl
            have q2 : wr.cell? ⟨b11, 0, none⟩ = some (.slice Au nu cu) := by rw [cell_of H119.out]; rfl
            go_wp2_with fail
            obtain ⟨W5, hW5⟩ : ∃ W5, W5 = wr.alloc (.cells #[.int .i64 (k : Int)] 3) := ⟨_, rfl⟩
            have hf5 : Fr F0 wr W5 := by rw [hW5]; exact (Fr.refl _ _).alloc _
            have hb5 : W5.heap[wr.heap.size]? = some (.cells #[.int .i64 (k : Int)] 3 (0, 0)) := by rw [hW5]; exact alloc_at rfl _
            rw [← hW5]
            refine (free_c (ls := [(k : Int)]) (n := 1) rfl (ValsAt.one hb5) (by decide) (HT9.out.st.keep0 hf5) (by have := HNT1.out; omega)).mono ?_
            rintro e w6 ⟨v6, rfl, hown6, hf6⟩
            have hs6 := SlV.of_own Lk.len hown6
            obtain ⟨A6, c6, rfl⟩ := hs6.exn (n := nv) HNV.out.symm
            obtain ⟨b14, hb14⟩ : ∃ b14, b14 = w6.heap.size := ⟨_, rfl⟩
            obtain ⟨W7, hW7⟩ : ∃ W7, W7 = w6.alloc (.cells #[.slice A6 nv c6] 31) := ⟨_, rfl⟩
            have hf7 : Fr F0 w6 W7 := by rw [hW7]; exact (Fr.refl _ _).alloc _
            have hf97 := (hf5.then0 hf6).then0 hf7
            have HS7 := Lib.hid (hs6.keep0 hf7)
            have H14 : Hid (W7.heap[b14]? = some (.cells #[.slice A6 nv c6] 31 (0, 0))) := Lib.hid (by rw [hW7]; exact alloc_at hb14 _)
            have HT7 := Lib.hid (HT9.out.keep0 hf97)
            have H117 := Lib.hid (hf97.keep0 H119.out)
            have HSU7 := Lib.hid (HSU9.out.keep0 hf97)
            have HF7 := Lib.hid (HF9.out.then0 hf97)
            have q3 : (w6.alloc (.cells #[.slice A6 nv c6] 31)).cell? ⟨tb + 1, 0, none⟩ = some (.slice At nt ct) := by rw [← hW7, cell_of HT7.out.bt]; rfl
            have HW7 := Lib.hid hW7
            have HB14 := Lib.hid hb14
            clear q1 q2 hW5 hf5 hb5 hown6 hs6 hf6 hf7 hf97 hW7 hb14
            go_wp2_with fail
            rw [← HW7.out, ← HB14.out]
            refine (of_c (k : Int) HS7.out (by have h := sane_len HVS.out; omega)).mono ?_
            rintro e w8 ⟨v8, rfl, hown8, hf8⟩
            rw [free_of_none] at hown8
            obtain ⟨A8, c8, rfl, -⟩ := SrAt.of_own (f := Lk.cells) (L := []) Lk.len hown8
            have H148 := Lib.hid (hf8.keep0 H14.out)
            have H118 := Lib.hid (hf8.keep0 H117.out)
            have HSU8 := Lib.hid (HSU7.out.keep0 hf8)
            have HS8 := Lib.hid (HS7.out.keep0 hf8)
            have HF8 := Lib.hid (HF7.out.then0 hf8)
            have q4 : w8.cell? ⟨b11, 0, none⟩ = some (.slice Au nu cu) := by rw [cell_of H118.out]; rfl
            clear q3 hown8 hf8
            go_wp2_with fail
            refine (sane_c HSU8.out (by have := sane_len HUS.out; omega) HUS.out).mono ?_
            rintro e w10 ⟨rfl, hf10⟩
            have HS10 := Lib.hid (HS8.out.keep0 hf10)
            have HF10 := Lib.hid (HF8.out.then0 hf10)
            have q5 : w10.cell? ⟨b14, 0, none⟩ = some (.slice A6 nv c6) := by rw [cell_of (hf10.keep0 H148.out)]; rfl
            clear q4 hf10
            go_wp2_with fail
            refine (sane_c HS10.out (by have := sane_len HVS.out; omega) HVS.out).mono ?_
            rintro e w12 ⟨rfl, hf12⟩
            have HF12 := Lib.hid (HF10.out.then0 hf12)
            clear q5 hf12
            go_wp2_with fail
            go_ret
            exact ⟨rfl, HF12.out⟩
      · have hp1 : 0 ≤ p := by omega
        go_wp2_with fail
        go_loopg [12, 13] m (fun kq x12 x13 wr => ∃ i : Nat, i ≤ m ∧ kq = m - i ∧ x12 = .int .i64 (i : Int) ∧ Fr F0 w5 wr)
        case atStart => exact ⟨0, by omega, rfl, rfl, Fr.refl _ _⟩
        case round =>
          obtain ⟨i, hi, rfl, rfl, hf⟩ := hrel
          have HF := Lib.hid hf
          clear hf
          have i0 : (0 : Int) ≤ (i : Int) := Int.natCast_nonneg _
          by_cases hlt : i < m
          · have i1 : (i : Int) < (m : Int) := by omega
            have hil : i < (ofL L (k : Int)).length := by have := HM.out; omega
            obtain ⟨mb, mo, rfl, -⟩ := (HMR3.out.keep0 HF.out).get (List.getElem?_eq_getElem hil) (Lk.pos _)
            have hx := List.getElem?_eq_getElem hil
            obtain ⟨x, hxe⟩ : ∃ x, x = (ofL L (k : Int))[i] := ⟨_, rfl⟩
            rw [← hxe] at hx
            have HFU0 := pass_find HGN.out.sane hp1 hp64 (by have := HPL.out; omega) (List.mem_of_getElem? hx)
            have HMC0 := SrAt.four (HMR3.out.keep0 HF.out) hx
            obtain ⟨x1, x2, x3, x4⟩ := x
            obtain ⟨fl, hfl⟩ : ∃ fl, fl = findL L p x1 := ⟨_, rfl⟩
            obtain ⟨g1, g2, g3, g4⟩ := fl
            obtain ⟨mk, hmk⟩ : ∃ mk, mk = max g4 (max x3 x4) := ⟨_, rfl⟩
            have HFL : Hid (findL L p x1 = ⟨g1, g2, g3, g4⟩) := Lib.hid hfl.symm
            have HFU : Hid (findL (passL L (k : Int) p) p x1 = ⟨g1, g2, g3, mk⟩) := Lib.hid (by
              have h1 : findL (passL L (k : Int) p) p x1 = keepF (findL L p x1) (max x3 x4) := HFU0
              rw [h1, ← hfl, hmk]; rfl)
            have HMC : Hid (∀ wz, Fr F0 wr wz → wz.cell? ⟨mb, mo + i * 4, none⟩ = some (.int .i64 x1) ∧ wz.cell? ⟨mb, mo + i * 4 + 1, none⟩ = some (.int .i64 x2) ∧ wz.cell? ⟨mb, mo + i * 4 + 2, none⟩ = some (.int .i64 x3) ∧ wz.cell? ⟨mb, mo + i * 4 + 3, none⟩ = some (.int .i64 x4)) := Lib.hid HMC0
            have HMK : Hid (¬ mk < max x3 x4) := Lib.hid (by omega)
            have HNU1 : Hid ((passL L (k : Int) p).length ≤ 1000000) := Lib.hid (by have := sane_len HUS.out; omega)
            have H11w := Lib.hid (HF.out.keep0 H11.out)
            have HSUw := Lib.hid (HSU.out.keep0 HF.out)
            clear hx hxe HFU0 HMC0 hfl hmk
            go_wp2_with fail
            refine wp_region_last (S := F0) [false, false, false, false, false, false, false, false, false, false, false, false, false, true, false, false, false, false, false, false, false, false, false, false, false, false, false, false, false, false, false, false, false, false, false, false, false, false, false, false, false, false, false, false, false, false, false, false, false, false, false, false, false, false, false, false, false, false, false, false, false, false, false, false, true, true, true, true, true, true, true, true, false, false, false, false, false, false, false, false, false, false, false, false, false, false, false, false, false, false, false, false, false, false, false, false, false, false, false, false, false, false, false, false, false, false, false, false, false, false, false, false, false, false, false, false, false, false, false, false, false, false, false, false, false, false, false, false, false, false, false, false, false, false, false, false, false, false, false, false, false, false, false, false, false, false] [.eq (.agg #[.slice Au nu cu]), .eq (.int .i64 p), .eq (.slice (some ⟨mb, mo, none⟩) m c3), .eq (.int .i64 (i : Int)), .eq (.pointer (some ⟨mb, mo + i * 4, none⟩)), .eq (.pointer (some ⟨mb, mo + i * 4, none⟩)), .eq (.int .i64 x1), .eq (.agg #[.int .i64 g1, .int .i64 g2, .int .i64 g3, .int .i64 mk]), ⟨fun v w1 => ∃ b, v = .pointer (some ⟨b, 0, none⟩) ∧ wr.heap.size ≤ b ∧ w1.heap[b]? = some (.cells #[.int .i64 0, .int .i64 0, .int .i64 0, .int .i64 0] 45 (0, 0)), fun v w1 w2 ⟨b, h1, h2, h3⟩ hf => ⟨b, h1, h2, hf.keep0 h3⟩⟩, .any] (by kernel_rfl) (by kernel_rfl) (by rfl) (by rfl) (by kernel_rfl) (fun us => ?steps) (fun us wz hG hall => ?fin)
            case steps =>
              simp only [fillL, Nat.reduceAdd]
              refine stepsHold.cons (fun wx hG hd K hK => ?_) ?_
              · rw [if_pos (wanted_none rfl)]
                have hc : wx.cell? ⟨b11, 0, none⟩ = some (.slice Au nu cu) := by rw [cell_of (hG.keep0 H11w.out)]; rfl
                refine wp_value (w2 := wx) (v := .agg #[.slice Au nu cu]) ?_ (hK _ _ rfl (Fr.refl _ _))
                clear hd hK
                go_simp
              refine stepsHold.cons (fun wx hG hd K hK => ?_) ?_
              · rw [if_pos (wanted_none rfl)]
                refine wp_value (w2 := wx) (v := .int .i64 p) ?_ (hK _ _ rfl (Fr.refl _ _))
                clear hd hG hK
                go_simp
              refine stepsHold.cons (fun wx hG hd K hK => ?_) ?_
              · rw [if_pos (wanted_none rfl)]
                refine wp_value (w2 := wx) (v := .slice (some ⟨mb, mo, none⟩) m c3) ?_ (hK _ _ rfl (Fr.refl _ _))
                clear hd hG hK
                go_simp
              refine stepsHold.cons (fun wx hG hd K hK => ?_) ?_
              · rw [if_pos (wanted_none rfl)]
                refine wp_value (w2 := wx) (v := .int .i64 (i : Int)) ?_ (hK _ _ rfl (Fr.refl _ _))
                clear hd hG hK
                go_simp
              refine stepsHold.cons (fun wx hG hd K hK => ?_) ?_
              · have h66 : us 66 = (.slice (some ⟨mb, mo, none⟩) m c3) := deps_get hd 0 rfl rfl rfl rfl rfl
                have h67 : us 67 = (.int .i64 (i : Int)) := deps_get hd 1 rfl rfl rfl rfl rfl
                rw [if_pos (wanted_none rfl)]
                refine wp_value (w2 := wx) (v := .pointer (some ⟨mb, mo + i * 4, none⟩)) ?_ (hK _ _ rfl (Fr.refl _ _))
                clear hd hG hK
                go_simp
              refine stepsHold.cons (fun wx hG hd K hK => ?_) ?_
              · have h68 : us 68 = (.pointer (some ⟨mb, mo + i * 4, none⟩)) := deps_get hd 0 rfl rfl rfl rfl rfl
                rw [if_pos (wanted_none rfl)]
                refine wp_value (w2 := wx) (v := .pointer (some ⟨mb, mo + i * 4, none⟩)) ?_ (hK _ _ rfl (Fr.refl _ _))
                clear hd hG hK
                go_simp
              refine stepsHold.cons (fun wx hG hd K hK => ?_) ?_
              · have h69 : us 69 = (.pointer (some ⟨mb, mo + i * 4, none⟩)) := deps_get hd 0 rfl rfl rfl rfl rfl
                rw [if_pos (wanted_none rfl)]
                have hc := (HMC.out wx hG).1
                refine wp_value (w2 := wx) (v := .int .i64 x1) ?_ (hK _ _ rfl (Fr.refl _ _))
                clear hd hK
                go_simp
              refine stepsHold.cons (fun wx hG hd K hK => ?_) ?_
              · have h64 : us 64 = (.agg #[.slice Au nu cu]) := deps_get hd 0 rfl rfl rfl rfl rfl
                have h65 : us 65 = (.int .i64 p) := deps_get hd 1 rfl rfl rfl rfl rfl
                have h70 : us 70 = (.int .i64 x1) := deps_get hd 2 rfl rfl rfl rfl rfl
                rw [if_pos (wanted_none rfl)]
                refine wp_call (w2 := wx) (f := 19) (args := #[.agg #[.slice Au nu cu], .int .i64 p, .int .i64 x1]) ?_ ?_
                · clear hd hK
                  go_simp
                · refine ((find_c (w := wx) p x1 (HSUw.out.keep0 hG) HNU1.out)).mono ?_
                  rintro e w9 ⟨rfl, hf⟩
                  rw [HFU.out]
                  exact ⟨_, rfl, hK _ _ rfl hf⟩
              refine stepsHold.cons (fun wx hG hd K hK => ?_) ?_
              · rw [if_pos (wanted_none rfl)]
                refine wp_value (w2 := wx.alloc (.cells #[.int .i64 0, .int .i64 0, .int .i64 0, .int .i64 0] 45)) (v := .pointer (some ⟨wx.heap.size, 0, none⟩)) ?_ (hK _ _ ⟨_, rfl, hG.size, alloc_at rfl _⟩ ((Fr.refl _ _).alloc _))
                clear hd hG hK
                go_simp
              exact stepsHold.nil
            case fin =>
              have h64 : us 64 = (.agg #[.slice Au nu cu]) := all_get hall 0 rfl rfl rfl
              have h65 : us 65 = (.int .i64 p) := all_get hall 1 rfl rfl rfl
              have h66 : us 66 = (.slice (some ⟨mb, mo, none⟩) m c3) := all_get hall 2 rfl rfl rfl
              have h67 : us 67 = (.int .i64 (i : Int)) := all_get hall 3 rfl rfl rfl
              have h68 : us 68 = (.pointer (some ⟨mb, mo + i * 4, none⟩)) := all_get hall 4 rfl rfl rfl
              have h69 : us 69 = (.pointer (some ⟨mb, mo + i * 4, none⟩)) := all_get hall 5 rfl rfl rfl
              have h70 : us 70 = (.int .i64 x1) := all_get hall 6 rfl rfl rfl
              have h71 : us 71 = (.agg #[.int .i64 g1, .int .i64 g2, .int .i64 g3, .int .i64 mk]) := all_get hall 7 rfl rfl rfl
              have h13 := all_get hall 8 rfl rfl rfl
              simp only [fillL, Nat.reduceAdd]
              clear hall
              simp only [h64, h65, h66, h67, h68, h69, h70, h71]
              clear h64 h65 h66 h67 h68 h69 h70 h71
              obtain ⟨b13, e13, hb13, hc13⟩ := h13
              refine wp_store_at 45 (.tmp 13) (.tmp 71) rfl b13 0 [.int .i64 g1, .int .i64 g2, .int .i64 g3, .int .i64 mk] (by exact e13) (by rfl) 45 [.int .i64 0, .int .i64 0, .int .i64 0, .int .i64 0] hc13 size_lock (Nat.le_refl 4) (by simp [Value.oneCell']) ?_
              obtain ⟨W6, hW6⟩ : ∃ W6, W6 = wz.setRow b13 (splat [.int .i64 0, .int .i64 0, .int .i64 0, .int .i64 0] 0 [.int .i64 g1, .int .i64 g2, .int .i64 g3, .int .i64 mk]).toArray := ⟨_, rfl⟩
              have hf6 : Fr (fun b => b = b13) wz W6 := by rw [hW6]; exact (Fr.refl _ _).setRow (by exact .inl rfl) _
              have hf06 : Fr F0 wr W6 := hG.trans hf6 (fun b hb => .inr (by rw [hb]; exact hb13))
              have H13 : Hid (W6.heap[b13]? = some (.cells #[.int .i64 g1, .int .i64 g2, .int .i64 g3, .int .i64 mk] 45 (0, 0))) := Lib.hid (by rw [hW6, setRow_heap _ _ _ _ _ _ hc13]; rfl)
              have HF6 := Lib.hid (HF.out.then0 hf06)
              have HTA4 := Lib.hid ((HTB3.out.keep0 HF6.out).bt)
              have HST4 := Lib.hid ((HTB3.out.keep0 HF6.out).st)
              have HMC4 : Hid (∀ wz, Fr F0 W6 wz → wz.cell? ⟨mb, mo + i * 4, none⟩ = some (.int .i64 x1) ∧ wz.cell? ⟨mb, mo + i * 4 + 2, none⟩ = some (.int .i64 x3) ∧ wz.cell? ⟨mb, mo + i * 4 + 3, none⟩ = some (.int .i64 x4)) := Lib.hid (fun wz hf => ⟨(HMC.out wz (hf06.then0 hf)).1, (HMC.out wz (hf06.then0 hf)).2.2⟩)
              rw [← hW6, e13]
              clear hW6 hf6 hf06 hG e13 hb13 hc13
              go_wp2_with fail
              refine wp_region_free (S := F0) [false, false, false, false, false, false, false, false, false, false, false, false, false, false, false, false, false, false, false, false, false, false, false, false, false, false, false, false, false, false, false, false, false, false, false, false, false, false, false, false, false, false, false, false, false, false, false, false, false, false, false, false, false, false, false, false, false, false, false, false, false, false, false, false, false, false, false, false, false, false, false, false, true, true, true, true, true, true, true, true, true, true, true, true, true, true, true, true, true, true, true, true, true, true, true, true, true, true, true, true, false, false, false, false, false, false, false, false, false, false, false, false, false, false, false, false, false, false, false, false, false, false, false, false, false, false, false, false, false, false, false, false, false, false, false, false, false, false, false, false, false, false, false, false, false, false] [.eq (.pointer (some ⟨b13, 3, none⟩)), .eq (.int .i64 mk), .eq (.slice (some ⟨mb, mo, none⟩) m c3), .eq (.int .i64 (i : Int)), .eq (.pointer (some ⟨mb, mo + i * 4, none⟩)), .eq (.pointer (some ⟨mb, mo + i * 4 + 2, none⟩)), .eq (.int .i64 x3), .eq (.slice (some ⟨mb, mo, none⟩) m c3), .eq (.int .i64 (i : Int)), .eq (.pointer (some ⟨mb, mo + i * 4, none⟩)), .eq (.pointer (some ⟨mb, mo + i * 4 + 3, none⟩)), .eq (.int .i64 x4), .eq (.int .i64 (max x3 x4)), .eq (.bool false), .eq (.bool false), .eq (.pointer (some ⟨b13, 2, none⟩)), .eq (.int .i64 g3), .eq (.agg #[.slice At nt ct]), .eq (.int .i64 p), .eq (.slice (some ⟨mb, mo, none⟩) m c3), .eq (.int .i64 (i : Int)), .eq (.pointer (some ⟨mb, mo + i * 4, none⟩)), .eq (.pointer (some ⟨mb, mo + i * 4, none⟩)), .eq (.int .i64 x1), .eq (.agg #[.int .i64 g1, .int .i64 g2, .int .i64 g3, .int .i64 g4]), .eq (.int .i64 g3), .eq (.bool false), .eq (.bool false)] (by kernel_rfl) (by kernel_rfl) (by rfl) (fun us => ?steps) (fun us wz hG hall => ?fin)
              case steps =>
                simp only [fillL, Nat.reduceAdd]
                refine stepsHold.cons (fun wx hG hd K hK => ?_) ?_
                · rw [if_pos (wanted_none rfl)]
                  refine wp_value (w2 := wx) (v := .pointer (some ⟨b13, 3, none⟩)) ?_ (hK _ _ rfl (Fr.refl _ _))
                  clear hd hG hK
                  go_simp
                refine stepsHold.cons (fun wx hG hd K hK => ?_) ?_
                · have h72 : us 72 = (.pointer (some ⟨b13, 3, none⟩)) := deps_get hd 0 rfl rfl rfl rfl rfl
                  rw [if_pos (wanted_none rfl)]
                  have hc : wx.cell? ⟨b13, 3, none⟩ = some (.int .i64 mk) := by rw [cell_of (hG.keep0 H13.out)]; rfl
                  refine wp_value (w2 := wx) (v := .int .i64 mk) ?_ (hK _ _ rfl (Fr.refl _ _))
                  clear hd hK
                  go_simp
                refine stepsHold.cons (fun wx hG hd K hK => ?_) ?_
                · rw [if_pos (wanted_none rfl)]
                  refine wp_value (w2 := wx) (v := .slice (some ⟨mb, mo, none⟩) m c3) ?_ (hK _ _ rfl (Fr.refl _ _))
                  clear hd hG hK
                  go_simp
                refine stepsHold.cons (fun wx hG hd K hK => ?_) ?_
                · rw [if_pos (wanted_none rfl)]
                  refine wp_value (w2 := wx) (v := .int .i64 (i : Int)) ?_ (hK _ _ rfl (Fr.refl _ _))
                  clear hd hG hK
                  go_simp
                refine stepsHold.cons (fun wx hG hd K hK => ?_) ?_
                · have h74 : us 74 = (.slice (some ⟨mb, mo, none⟩) m c3) := deps_get hd 0 rfl rfl rfl rfl rfl
                  have h75 : us 75 = (.int .i64 (i : Int)) := deps_get hd 1 rfl rfl rfl rfl rfl
                  rw [if_pos (wanted_none rfl)]
                  refine wp_value (w2 := wx) (v := .pointer (some ⟨mb, mo + i * 4, none⟩)) ?_ (hK _ _ rfl (Fr.refl _ _))
                  clear hd hG hK
                  go_simp
                refine stepsHold.cons (fun wx hG hd K hK => ?_) ?_
                · have h76 : us 76 = (.pointer (some ⟨mb, mo + i * 4, none⟩)) := deps_get hd 0 rfl rfl rfl rfl rfl
                  rw [if_pos (wanted_none rfl)]
                  refine wp_value (w2 := wx) (v := .pointer (some ⟨mb, mo + i * 4 + 2, none⟩)) ?_ (hK _ _ rfl (Fr.refl _ _))
                  clear hd hG hK
                  go_simp
                refine stepsHold.cons (fun wx hG hd K hK => ?_) ?_
                · have h77 : us 77 = (.pointer (some ⟨mb, mo + i * 4 + 2, none⟩)) := deps_get hd 0 rfl rfl rfl rfl rfl
                  rw [if_pos (wanted_none rfl)]
                  have hc := (HMC4.out wx hG).2.1
                  refine wp_value (w2 := wx) (v := .int .i64 x3) ?_ (hK _ _ rfl (Fr.refl _ _))
                  clear hd hK
                  go_simp
                refine stepsHold.cons (fun wx hG hd K hK => ?_) ?_
                · rw [if_pos (wanted_none rfl)]
                  refine wp_value (w2 := wx) (v := .slice (some ⟨mb, mo, none⟩) m c3) ?_ (hK _ _ rfl (Fr.refl _ _))
                  clear hd hG hK
                  go_simp
                refine stepsHold.cons (fun wx hG hd K hK => ?_) ?_
                · rw [if_pos (wanted_none rfl)]
                  refine wp_value (w2 := wx) (v := .int .i64 (i : Int)) ?_ (hK _ _ rfl (Fr.refl _ _))
                  clear hd hG hK
                  go_simp
                refine stepsHold.cons (fun wx hG hd K hK => ?_) ?_
                · have h79 : us 79 = (.slice (some ⟨mb, mo, none⟩) m c3) := deps_get hd 0 rfl rfl rfl rfl rfl
                  have h80 : us 80 = (.int .i64 (i : Int)) := deps_get hd 1 rfl rfl rfl rfl rfl
                  rw [if_pos (wanted_none rfl)]
                  refine wp_value (w2 := wx) (v := .pointer (some ⟨mb, mo + i * 4, none⟩)) ?_ (hK _ _ rfl (Fr.refl _ _))
                  clear hd hG hK
                  go_simp
                refine stepsHold.cons (fun wx hG hd K hK => ?_) ?_
                · have h81 : us 81 = (.pointer (some ⟨mb, mo + i * 4, none⟩)) := deps_get hd 0 rfl rfl rfl rfl rfl
                  rw [if_pos (wanted_none rfl)]
                  refine wp_value (w2 := wx) (v := .pointer (some ⟨mb, mo + i * 4 + 3, none⟩)) ?_ (hK _ _ rfl (Fr.refl _ _))
                  clear hd hG hK
                  go_simp
                refine stepsHold.cons (fun wx hG hd K hK => ?_) ?_
                · have h82 : us 82 = (.pointer (some ⟨mb, mo + i * 4 + 3, none⟩)) := deps_get hd 0 rfl rfl rfl rfl rfl
                  rw [if_pos (wanted_none rfl)]
                  have hc := (HMC4.out wx hG).2.2
                  refine wp_value (w2 := wx) (v := .int .i64 x4) ?_ (hK _ _ rfl (Fr.refl _ _))
                  clear hd hK
                  go_simp
                refine stepsHold.cons (fun wx hG hd K hK => ?_) ?_
                · have h78 : us 78 = (.int .i64 x3) := deps_get hd 0 rfl rfl rfl rfl rfl
                  have h83 : us 83 = (.int .i64 x4) := deps_get hd 1 rfl rfl rfl rfl rfl
                  rw [if_pos (wanted_none rfl)]
                  refine wp_value (w2 := wx) (v := .int .i64 (max x3 x4)) ?_ (hK _ _ rfl (Fr.refl _ _))
                  clear hd hG hK
                  go_simp
                refine stepsHold.cons (fun wx hG hd K hK => ?_) ?_
                · have h73 : us 73 = (.int .i64 mk) := deps_get hd 0 rfl rfl rfl rfl rfl
                  have h84 : us 84 = (.int .i64 (max x3 x4)) := deps_get hd 1 rfl rfl rfl rfl rfl
                  rw [if_pos (wanted_none rfl)]
                  have hw := HMK.out
                  refine wp_value (w2 := wx) (v := .bool false) ?_ (hK _ _ rfl (Fr.refl _ _))
                  clear hd hG hK
                  go_simp
                refine stepsHold.cons (fun wx hG hd K hK => ?_) ?_
                · have h85 : us 85 = (.bool false) := deps_get hd 0 rfl rfl rfl rfl rfl
                  rw [if_pos (wanted_none rfl)]
                  refine wp_value (w2 := wx) (v := .bool false) ?_ (hK _ _ rfl (Fr.refl _ _))
                  clear hd hG hK
                  go_simp
                refine stepsHold.cons (fun wx hG hd K hK => ?_) ?_
                · have h86 : us 86 = (.bool false) := deps_get hd 0 rfl rfl rfl rfl rfl
                  rw [if_pos (wanted_yes rfl rfl rfl rfl h86)]
                  refine wp_value (w2 := wx) (v := .pointer (some ⟨b13, 2, none⟩)) ?_ (hK _ _ rfl (Fr.refl _ _))
                  clear hd hG hK
                  go_simp
                refine stepsHold.cons (fun wx hG hd K hK => ?_) ?_
                · have h87 : us 87 = (.pointer (some ⟨b13, 2, none⟩)) := deps_get hd 0 rfl rfl rfl rfl rfl
                  have h86 : us 86 = (.bool false) := deps_get hd 1 rfl rfl rfl rfl rfl
                  rw [if_pos (wanted_yes rfl rfl rfl rfl h86)]
                  have hc : wx.cell? ⟨b13, 2, none⟩ = some (.int .i64 g3) := by rw [cell_of (hG.keep0 H13.out)]; rfl
                  refine wp_value (w2 := wx) (v := .int .i64 g3) ?_ (hK _ _ rfl (Fr.refl _ _))
                  clear hd hK
                  go_simp
                refine stepsHold.cons (fun wx hG hd K hK => ?_) ?_
                · have h86 : us 86 = (.bool false) := deps_get hd 0 rfl rfl rfl rfl rfl
                  rw [if_pos (wanted_yes rfl rfl rfl rfl h86)]
                  have hc : wx.cell? ⟨tb + 1, 0, none⟩ = some (.slice At nt ct) := by rw [cell_of (hG.keep0 HTA4.out)]; rfl
                  refine wp_value (w2 := wx) (v := .agg #[.slice At nt ct]) ?_ (hK _ _ rfl (Fr.refl _ _))
                  clear hd hK
                  go_simp
                refine stepsHold.cons (fun wx hG hd K hK => ?_) ?_
                · have h86 : us 86 = (.bool false) := deps_get hd 0 rfl rfl rfl rfl rfl
                  rw [if_pos (wanted_yes rfl rfl rfl rfl h86)]
                  refine wp_value (w2 := wx) (v := .int .i64 p) ?_ (hK _ _ rfl (Fr.refl _ _))
                  clear hd hG hK
                  go_simp
                refine stepsHold.cons (fun wx hG hd K hK => ?_) ?_
                · have h86 : us 86 = (.bool false) := deps_get hd 0 rfl rfl rfl rfl rfl
                  rw [if_pos (wanted_yes rfl rfl rfl rfl h86)]
                  refine wp_value (w2 := wx) (v := .slice (some ⟨mb, mo, none⟩) m c3) ?_ (hK _ _ rfl (Fr.refl _ _))
                  clear hd hG hK
                  go_simp
                refine stepsHold.cons (fun wx hG hd K hK => ?_) ?_
                · have h86 : us 86 = (.bool false) := deps_get hd 0 rfl rfl rfl rfl rfl
                  rw [if_pos (wanted_yes rfl rfl rfl rfl h86)]
                  refine wp_value (w2 := wx) (v := .int .i64 (i : Int)) ?_ (hK _ _ rfl (Fr.refl _ _))
                  clear hd hG hK
                  go_simp
                refine stepsHold.cons (fun wx hG hd K hK => ?_) ?_
                · have h91 : us 91 = (.slice (some ⟨mb, mo, none⟩) m c3) := deps_get hd 0 rfl rfl rfl rfl rfl
                  have h92 : us 92 = (.int .i64 (i : Int)) := deps_get hd 1 rfl rfl rfl rfl rfl
                  have h86 : us 86 = (.bool false) := deps_get hd 2 rfl rfl rfl rfl rfl
                  rw [if_pos (wanted_yes rfl rfl rfl rfl h86)]
                  refine wp_value (w2 := wx) (v := .pointer (some ⟨mb, mo + i * 4, none⟩)) ?_ (hK _ _ rfl (Fr.refl _ _))
                  clear hd hG hK
                  go_simp
                refine stepsHold.cons (fun wx hG hd K hK => ?_) ?_
                · have h93 : us 93 = (.pointer (some ⟨mb, mo + i * 4, none⟩)) := deps_get hd 0 rfl rfl rfl rfl rfl
                  have h86 : us 86 = (.bool false) := deps_get hd 1 rfl rfl rfl rfl rfl
                  rw [if_pos (wanted_yes rfl rfl rfl rfl h86)]
                  refine wp_value (w2 := wx) (v := .pointer (some ⟨mb, mo + i * 4, none⟩)) ?_ (hK _ _ rfl (Fr.refl _ _))
                  clear hd hG hK
                  go_simp
                refine stepsHold.cons (fun wx hG hd K hK => ?_) ?_
                · have h94 : us 94 = (.pointer (some ⟨mb, mo + i * 4, none⟩)) := deps_get hd 0 rfl rfl rfl rfl rfl
                  have h86 : us 86 = (.bool false) := deps_get hd 1 rfl rfl rfl rfl rfl
                  rw [if_pos (wanted_yes rfl rfl rfl rfl h86)]
                  have hc := (HMC4.out wx hG).1
                  refine wp_value (w2 := wx) (v := .int .i64 x1) ?_ (hK _ _ rfl (Fr.refl _ _))
                  clear hd hK
                  go_simp
                refine stepsHold.cons (fun wx hG hd K hK => ?_) ?_
                · have h89 : us 89 = (.agg #[.slice At nt ct]) := deps_get hd 0 rfl rfl rfl rfl rfl
                  have h90 : us 90 = (.int .i64 p) := deps_get hd 1 rfl rfl rfl rfl rfl
                  have h95 : us 95 = (.int .i64 x1) := deps_get hd 2 rfl rfl rfl rfl rfl
                  have h86 : us 86 = (.bool false) := deps_get hd 3 rfl rfl rfl rfl rfl
                  rw [if_pos (wanted_yes rfl rfl rfl rfl h86)]
                  refine wp_call (w2 := wx) (f := 19) (args := #[.agg #[.slice At nt ct], .int .i64 p, .int .i64 x1]) ?_ ?_
                  · clear hd hK
                    go_simp
                  · refine ((find_c (w := wx) p x1 (HST4.out.keep0 hG) HNT1.out)).mono ?_
                    rintro e w9 ⟨rfl, hf⟩
                    rw [HFL.out]
                    exact ⟨_, rfl, hK _ _ rfl hf⟩
                refine stepsHold.cons (fun wx hG hd K hK => ?_) ?_
                · have h96 : us 96 = (.agg #[.int .i64 g1, .int .i64 g2, .int .i64 g3, .int .i64 g4]) := deps_get hd 0 rfl rfl rfl rfl rfl
                  have h86 : us 86 = (.bool false) := deps_get hd 1 rfl rfl rfl rfl rfl
                  rw [if_pos (wanted_yes rfl rfl rfl rfl h86)]
                  refine wp_value (w2 := wx) (v := .int .i64 g3) ?_ (hK _ _ rfl (Fr.refl _ _))
                  clear hd hG hK
                  go_simp
                  rw [run_field2]
                  rfl
                refine stepsHold.cons (fun wx hG hd K hK => ?_) ?_
                · have h88 : us 88 = (.int .i64 g3) := deps_get hd 0 rfl rfl rfl rfl rfl
                  have h97 : us 97 = (.int .i64 g3) := deps_get hd 1 rfl rfl rfl rfl rfl
                  have h86 : us 86 = (.bool false) := deps_get hd 2 rfl rfl rfl rfl rfl
                  rw [if_pos (wanted_yes rfl rfl rfl rfl h86)]
                  refine wp_value (w2 := wx) (v := .bool false) ?_ (hK _ _ rfl (Fr.refl _ _))
                  clear hd hG hK
                  go_simp
                refine stepsHold.cons (fun wx hG hd K hK => ?_) ?_
                · have h86 : us 86 = (.bool false) := deps_get hd 0 rfl rfl rfl rfl rfl
                  have h98 : us 98 = (.bool false) := deps_get hd 1 rfl rfl rfl rfl rfl
                  rw [if_pos (wanted_none rfl)]
                  refine wp_value (w2 := wx) (v := .bool false) ?_ (hK _ _ rfl (Fr.refl _ _))
                  clear hd hG hK
                  go_simp
                exact stepsHold.nil
              case fin =>
                have h72 : us 72 = (.pointer (some ⟨b13, 3, none⟩)) := all_get hall 0 rfl rfl rfl
                have h73 : us 73 = (.int .i64 mk) := all_get hall 1 rfl rfl rfl
                have h74 : us 74 = (.slice (some ⟨mb, mo, none⟩) m c3) := all_get hall 2 rfl rfl rfl
                have h75 : us 75 = (.int .i64 (i : Int)) := all_get hall 3 rfl rfl rfl
                have h76 : us 76 = (.pointer (some ⟨mb, mo + i * 4, none⟩)) := all_get hall 4 rfl rfl rfl
                have h77 : us 77 = (.pointer (some ⟨mb, mo + i * 4 + 2, none⟩)) := all_get hall 5 rfl rfl rfl
                have h78 : us 78 = (.int .i64 x3) := all_get hall 6 rfl rfl rfl
                have h79 : us 79 = (.slice (some ⟨mb, mo, none⟩) m c3) := all_get hall 7 rfl rfl rfl
                have h80 : us 80 = (.int .i64 (i : Int)) := all_get hall 8 rfl rfl rfl
                have h81 : us 81 = (.pointer (some ⟨mb, mo + i * 4, none⟩)) := all_get hall 9 rfl rfl rfl
                have h82 : us 82 = (.pointer (some ⟨mb, mo + i * 4 + 3, none⟩)) := all_get hall 10 rfl rfl rfl
                have h83 : us 83 = (.int .i64 x4) := all_get hall 11 rfl rfl rfl
                have h84 : us 84 = (.int .i64 (max x3 x4)) := all_get hall 12 rfl rfl rfl
                have h85 : us 85 = (.bool false) := all_get hall 13 rfl rfl rfl
                have h86 : us 86 = (.bool false) := all_get hall 14 rfl rfl rfl
                have h87 : us 87 = (.pointer (some ⟨b13, 2, none⟩)) := all_get hall 15 rfl rfl rfl
                have h88 : us 88 = (.int .i64 g3) := all_get hall 16 rfl rfl rfl
                have h89 : us 89 = (.agg #[.slice At nt ct]) := all_get hall 17 rfl rfl rfl
                have h90 : us 90 = (.int .i64 p) := all_get hall 18 rfl rfl rfl
                have h91 : us 91 = (.slice (some ⟨mb, mo, none⟩) m c3) := all_get hall 19 rfl rfl rfl
                have h92 : us 92 = (.int .i64 (i : Int)) := all_get hall 20 rfl rfl rfl
                have h93 : us 93 = (.pointer (some ⟨mb, mo + i * 4, none⟩)) := all_get hall 21 rfl rfl rfl
                have h94 : us 94 = (.pointer (some ⟨mb, mo + i * 4, none⟩)) := all_get hall 22 rfl rfl rfl
                have h95 : us 95 = (.int .i64 x1) := all_get hall 23 rfl rfl rfl
                have h96 : us 96 = (.agg #[.int .i64 g1, .int .i64 g2, .int .i64 g3, .int .i64 g4]) := all_get hall 24 rfl rfl rfl
                have h97 : us 97 = (.int .i64 g3) := all_get hall 25 rfl rfl rfl
                have h98 : us 98 = (.bool false) := all_get hall 26 rfl rfl rfl
                have h99 : us 99 = (.bool false) := all_get hall 27 rfl rfl rfl
                simp only [fillL, Nat.reduceAdd]
                clear hall
                simp only [h72, h73, h74, h75, h76, h77, h78, h79, h80, h81, h82, h83, h84, h85, h86, h87, h88, h89, h90, h91, h92, h93, h94, h95, h96, h97, h98, h99]
                clear h72 h73 h74 h75 h76 h77 h78 h79 h80 h81 h82 h83 h84 h85 h86 h87 h88 h89 h90 h91 h92 h93 h94 h95 h96 h97 h98 h99
                have HFZ := Lib.hid (HF6.out.then0 hG)
                clear hG
                go_wp2_with fail
                go_roundg (m - (i + 1))
                case measure => omega
                case rel => exact ⟨i + 1, by omega, rfl, by first | rfl | (go_num), HFZ.out⟩
          · have i1 : ¬ (i : Int) < (m : Int) := by omega
            have hsub : IntKind.i64.wrap ((nt : Int) - (m : Int)) = (nv : Int) := HWSUB.out
            have HF9 := Lib.hid (HF3.out.then0 HF.out)
            have HT9 := Lib.hid (HTB3.out.keep0 HF.out)
            have H119 := Lib.hid (HF.out.keep0 H11.out)
            have HSU9 := Lib.hid (HSU.out.keep0 HF.out)
            have q1 : wr.cell? ⟨tb + 1, 0, none⟩ = some (.slice At nt ct) := by rw [cell_of HT9.out.bt]; rfl
            have q2 : wr.cell? ⟨b11, 0, none⟩ = some (.slice Au nu cu) := by rw [cell_of H119.out]; rfl
            go_wp2_with fail
            obtain ⟨W5, hW5⟩ : ∃ W5, W5 = wr.alloc (.cells #[.int .i64 (k : Int)] 3) := ⟨_, rfl⟩
            have hf5 : Fr F0 wr W5 := by rw [hW5]; exact (Fr.refl _ _).alloc _
            have hb5 : W5.heap[wr.heap.size]? = some (.cells #[.int .i64 (k : Int)] 3 (0, 0)) := by rw [hW5]; exact alloc_at rfl _
            rw [← hW5]
            refine (free_c (ls := [(k : Int)]) (n := 1) rfl (ValsAt.one hb5) (by decide) (HT9.out.st.keep0 hf5) (by have := HNT1.out; omega)).mono ?_
            rintro e w6 ⟨v6, rfl, hown6, hf6⟩
            have hs6 := SlV.of_own Lk.len hown6
            obtain ⟨A6, c6, rfl⟩ := hs6.exn (n := nv) HNV.out.symm
            obtain ⟨b14, hb14⟩ : ∃ b14, b14 = w6.heap.size := ⟨_, rfl⟩
            obtain ⟨W7, hW7⟩ : ∃ W7, W7 = w6.alloc (.cells #[.slice A6 nv c6] 31) := ⟨_, rfl⟩
            have hf7 : Fr F0 w6 W7 := by rw [hW7]; exact (Fr.refl _ _).alloc _
            have hf97 := (hf5.then0 hf6).then0 hf7
            have HS7 := Lib.hid (hs6.keep0 hf7)
            have H14 : Hid (W7.heap[b14]? = some (.cells #[.slice A6 nv c6] 31 (0, 0))) := Lib.hid (by rw [hW7]; exact alloc_at hb14 _)
            have HT7 := Lib.hid (HT9.out.keep0 hf97)
            have H117 := Lib.hid (hf97.keep0 H119.out)
            have HSU7 := Lib.hid (HSU9.out.keep0 hf97)
            have HF7 := Lib.hid (HF9.out.then0 hf97)
            have q3 : (w6.alloc (.cells #[.slice A6 nv c6] 31)).cell? ⟨tb + 1, 0, none⟩ = some (.slice At nt ct) := by rw [← hW7, cell_of HT7.out.bt]; rfl
            have HW7 := Lib.hid hW7
            have HB14 := Lib.hid hb14
            clear q1 q2 hW5 hf5 hb5 hown6 hs6 hf6 hf7 hf97 hW7 hb14
            go_wp2_with fail
            rw [← HW7.out, ← HB14.out]
            refine (of_c (k : Int) HS7.out (by have h := sane_len HVS.out; omega)).mono ?_
            rintro e w8 ⟨v8, rfl, hown8, hf8⟩
            rw [free_of_none] at hown8
            obtain ⟨A8, c8, rfl, -⟩ := SrAt.of_own (f := Lk.cells) (L := []) Lk.len hown8
            have H148 := Lib.hid (hf8.keep0 H14.out)
            have H118 := Lib.hid (hf8.keep0 H117.out)
            have HSU8 := Lib.hid (HSU7.out.keep0 hf8)
            have HS8 := Lib.hid (HS7.out.keep0 hf8)
            have HF8 := Lib.hid (HF7.out.then0 hf8)
            have q4 : w8.cell? ⟨b11, 0, none⟩ = some (.slice Au nu cu) := by rw [cell_of H118.out]; rfl
            clear q3 hown8 hf8
            go_wp2_with fail
            refine (sane_c HSU8.out (by have := sane_len HUS.out; omega) HUS.out).mono ?_
            rintro e w10 ⟨rfl, hf10⟩
            have HS10 := Lib.hid (HS8.out.keep0 hf10)
            have HF10 := Lib.hid (HF8.out.then0 hf10)
            have q5 : w10.cell? ⟨b14, 0, none⟩ = some (.slice A6 nv c6) := by rw [cell_of (hf10.keep0 H148.out)]; rfl
            clear q4 hf10
            go_wp2_with fail
            refine (sane_c HS10.out (by have := sane_len HVS.out; omega) HVS.out).mono ?_
            rintro e w12 ⟨rfl, hf12⟩
            have HF12 := Lib.hid (HF10.out.then0 hf12)
            clear q5 hf12
            go_wp2_with fail
            go_ret
            exact ⟨rfl, HF12.out⟩
end
end Go.Proofs.Ytgbaijfgmeealaa
