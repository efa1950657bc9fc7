/-
  Layer 10: LocksApart, the walk. Conditions: none.
-/
import Derived.Test.YtgbaijfgmeealaaL10c
set_option linter.unusedVariables false
set_option linter.unusedSimpArgs false
namespace Go.Proofs.Ytgbaijfgmeealaa
open Go.RowKit
/-- Transactions and their locks, each in its box. -/
structure TwoB (w : World) (tb ta : Nat) (X : List Tx9) (L : List Lk) (vx vt : Value) (clk : Int) : Prop where
  bx : w.heap[tb]? = some (.cells #[vx, .int .i64 clk] 25 (0, 0))
  bt : w.heap[ta]? = some (.cells #[vt] 31 (0, 0))
  sx : SlV 4 Tx9.cells w vx X
  st : SlV 4 Lk.cells w vt L
theorem TwoB.keep0 {w w' : World} {tb ta : Nat} {X : List Tx9} {L : List Lk} {vx vt : Value} {clk : Int} (h : TwoB w tb ta X L vx vt clk) (hf : Fr F0 w w') : TwoB w' tb ta X L vx vt clk := ⟨hf.keep0 h.bx, hf.keep0 h.bt, h.sx.keep0 hf, h.st.keep0 hf⟩
section
variable {w : World}
set_option maxRecDepth 100000 in
set_option maxHeartbeats 8000000 in
theorem apart_walk (A : Option Addr) (N cA : Nat) (l : List Act1) (hA : ActsAt w A N l) (hN : N ≤ 9223372036854775807) : Calls Try.prog 5 #[.slice A N cA] w fun e w' => e = .returned (.bool true) ∧ Fr F0 w w' := by
  have HACT := Lib.hid hA
  have N0 : (0 : Int) ≤ (N : Int) := Int.natCast_nonneg _
  clear hA
  go_enter Try.func5, Try.ntmps5
  go_wp2_with fail
  refine (awake10_c).mono ?_
  rintro e w1 ⟨rfl, hf1⟩
  have HF1 := Lib.hid hf1
  clear hf1
  by_cases hbig : 150 < N
  · have hb1 : (150 : Int) < (N : Int) := by omega
    go_wp2_with fail
    go_ret
    exact ⟨rfl, HF1.out⟩
  · have hb1 : ¬ (150 : Int) < (N : Int) := by omega
    go_wp2_with fail
    refine (grown_c (HACT.out.keep0 HF1.out) (by omega)).mono ?_
    intro e w2 hgr
    obtain ⟨X, L, vx, vt, clk, rfl, hsx, hst, hgn, hc0, hc1, hf2⟩ := hgr.ex
    obtain ⟨Ax, cx, rfl, hxr, -⟩ := hsx.ex
    obtain ⟨At, ct, rfl, htr, -⟩ := hst.ex
    obtain ⟨n, hn⟩ : ∃ n, n = X.length := ⟨_, rfl⟩
    obtain ⟨nt, hnt⟩ : ∃ nt, nt = L.length := ⟨_, rfl⟩
    rw [← hn] at hsx ⊢
    rw [← hnt] at hst ⊢
    obtain ⟨tb, htb⟩ : ∃ tb, tb = w2.heap.size := ⟨_, rfl⟩
    obtain ⟨W, hW⟩ : ∃ W, W = (w2.alloc (.cells #[.slice Ax n cx, .int .i64 clk] 25)).alloc (.cells #[.slice At nt ct] 31) := ⟨_, rfl⟩
    have hfW : Fr F0 w2 W := by rw [hW]; exact ((Fr.refl F0 w2).alloc _).alloc _
    have HTB : Hid (TwoB W tb (tb + 1) X L (.slice Ax n cx) (.slice At nt ct) clk) := Lib.hid ⟨by rw [hW, htb]; exact keep_alloc (alloc_at rfl _) _, by rw [hW, htb]; exact alloc_at (by simp) _, hsx.keep0 hfW, hst.keep0 hfW⟩
    have HF2 := Lib.hid ((HF1.out.then0 hf2).then0 hfW)
    have HXR := Lib.hid (hxr.keep0 hfW)
    have HTR := Lib.hid (htr.keep0 hfW)
    have HGN := Lib.hid hgn
    have HN := Lib.hid hn
    have HNT := Lib.hid hnt
    have HW := Lib.hid hW
    have HTBE := Lib.hid htb
    have n0 : (0 : Int) ≤ (n : Int) := Int.natCast_nonneg _
    have nt0 : (0 : Int) ≤ (nt : Int) := Int.natCast_nonneg _
    have hn64 : n ≤ 64 := by rw [hn]; exact hgn.len
    have hnt1 : nt ≤ 16384 := by rw [hnt]; exact sane_len hgn.sane
    obtain ⟨d, hu, hd⟩ := und_lock
    have HU := Lib.hid hu
    have HDD := Lib.hid hd
    clear hgr hsx hst hxr htr hgn hf2 hfW hn hnt htb hW hu hd
    go_wp2_with fail
    rw [← HW.out, ← HTBE.out]
    go_loopg [6, 7, 8, 9, 10] nt (fun kq x6 x7 x8 x9 x10 wr => ∃ i : Nat, i ≤ nt ∧ kq = nt - i ∧ x6 = .int .i64 (i : Int) ∧ Fr F0 W wr)
    case atStart => exact ⟨0, by omega, rfl, rfl, Fr.refl _ _⟩
    case round =>
      obtain ⟨i, hi, rfl, rfl, hf⟩ := hrel
      have HF := Lib.hid hf
      clear hf
      have i0 : (0 : Int) ≤ (i : Int) := Int.natCast_nonneg _
      have HTW := Lib.hid (HTB.out.keep0 HF.out)
      have k5 : wr.cell? ⟨tb + 1, 0, none⟩ = some (.slice At nt ct) := by rw [cell_of HTW.out.bt]; rfl
      by_cases hlt : i < nt
      · have i1 : (i : Int) < (nt : Int) := by omega
        have hil : i < L.length := by have := HNT.out; omega
        obtain ⟨b, off, rfl, hc⟩ := (HTR.out.keep0 HF.out).get (List.getElem?_eq_getElem hil) (Lk.pos _)
        have HLI := Lib.hid (List.getElem?_eq_getElem hil)
        obtain ⟨x, hx⟩ : ∃ x, x = L[i] := ⟨_, rfl⟩
        rw [← hx] at hc HLI
        clear hx
        have HLV := Lib.hid (HGN.out.live x (List.mem_of_getElem? HLI.out))
        obtain ⟨x1, x2, x3, x4⟩ := x
        have HCS : Hid (∀ i' v, (Lk.cells ⟨x1, x2, x3, x4⟩)[i']? = some v → wr.cell? ⟨b, off + i * 4 + i', none⟩ = some v) := Lib.hid hc
        have hx2i := isId_iff.1 HLV.out.1
        obtain ⟨t, rfl⟩ : ∃ t : Nat, x2 = (t : Int) := ⟨x2.toNat, by have h1 := hx2i.1; have h2 : (0 : Int) ≤ x2 := h1; omega⟩
        have htn : t < X.length := by have h2 : (t : Int) < (X.length : Int) := hx2i.2; omega
        have t0 : (0 : Int) ≤ (t : Int) := Int.natCast_nonneg _
        have t1 : (t : Int) < (n : Int) := by have := HN.out; omega
        have t2 : ¬ (t : Int) < 0 := by omega
        have t3 : ¬ (n : Int) ≤ (t : Int) := by omega
        obtain ⟨W3, hW3⟩ : ∃ W3, W3 = wr.alloc (.cells #[.int .i64 x1, .int .i64 (t : Int), .int .i64 x3, .int .i64 x4] 45) := ⟨_, rfl⟩
        have hf3 : Fr F0 wr W3 := by rw [hW3]; exact (Fr.refl _ _).alloc _
        obtain ⟨b7, hb7⟩ : ∃ b7, b7 = wr.heap.size := ⟨_, rfl⟩
        have H7 : Hid (W3.heap[b7]? = some (.cells #[.int .i64 x1, .int .i64 (t : Int), .int .i64 x3, .int .i64 x4] 45 (0, 0))) := Lib.hid (by rw [hW3]; exact alloc_at hb7 _)
        have HTW3 := Lib.hid (HTW.out.keep0 hf3)
        have HF3 := Lib.hid (HF.out.then0 hf3)
        obtain ⟨xb, xo, hAx, hcx⟩ := ((HXR.out.keep0 HF.out).keep0 hf3).get (List.getElem?_eq_getElem htn) (Tx9.pos _)
        subst hAx
        have HWI : Hid (∀ W (k of : Int), TxsAt W (some ⟨xb, xo, none⟩) X → Calls Try.prog 17 #[.agg #[.slice (some ⟨xb, xo, none⟩) n cx, .int .i64 clk], .int .i64 k, .int .i64 of] W fun e w' => e = .returned (.bool (withinB X k of)) ∧ Fr F0 W w') := Lib.hid (fun W k of hW => by
          have h5 := within_c (w := W) cx clk k of hW HGN.out.len
          rw [← HN.out] at h5
          exact h5)
        have hst1 : X[t].state = 1 := by have := HLV.out.2; rw [← stateOf_at (List.getElem?_eq_getElem htn)]; exact this
        have ks : (wr.alloc (.cells #[.int .i64 x1, .int .i64 (t : Int), .int .i64 x3, .int .i64 x4] 45)).cell? ⟨xb, xo + t * 4 + 1, none⟩ = some (.int .i64 1) := by rw [← hW3, ← hst1]; exact hcx 1 _ rfl
        have k4 : (wr.alloc (.cells #[.int .i64 x1, .int .i64 (t : Int), .int .i64 x3, .int .i64 x4] 45)).cell? ⟨tb, 0, none⟩ = some (.slice (some ⟨xb, xo, none⟩) n cx) := by rw [← hW3, cell_of HTW3.out.bx]; rfl
        have HW3 := Lib.hid hW3
        have HB7 := Lib.hid hb7
        clear hc hcx hst1 hf3 hW3 hb7 hx2i
        go_wp2_with (first | (refine wpList_load_at rfl 45 (.tmp 31) rfl b (off + i * 4) (by rfl) (Lk.cells ⟨x1, (t : Int), x3, x4⟩) d HCS.out HU.out HDD.out size_lock ?_) | (refine wpList_store_fresh rfl 45 (.tmp 7) (.tmp 32) rfl (Lk.cells ⟨x1, (t : Int), x3, x4⟩).toArray (by rfl) (by rfl) 45 #[.int .i64 0, .int .i64 0, .int .i64 0, .int .i64 0] size_lock rfl (by simp [Lk.cells, Value.oneCell']) ?_; simp only [Lk.cells, List.toArray]))
        rw [← HW3.out, ← HB7.out]
        clear ks k4 k5
        go_loopg [8, 9, 10] i (fun kq x8 x9 x10 wr => ∃ k : Nat, k ≤ i ∧ kq = i - k ∧ x8 = .int .i64 (k : Int) ∧ Fr F0 W3 wr)
        case atStart => exact ⟨0, by omega, rfl, rfl, Fr.refl _ _⟩
        case round =>
          obtain ⟨k, hk, rfl, rfl, hf⟩ := hrel
          have HFk := Lib.hid hf
          clear hf
          have k0 : (0 : Int) ≤ (k : Int) := Int.natCast_nonneg _
          by_cases hlt2 : k < i
          · have kk1 : (k : Int) < (i : Int) := by omega
            have kk2 : (k : Int) < (nt : Int) := by omega
            have hkl : k < L.length := by omega
            obtain ⟨b', off', hA', hc⟩ := ((HTR.out.keep0 HF3.out).keep0 HFk.out).get (List.getElem?_eq_getElem hkl) (Lk.pos _)
            have HLK := Lib.hid (List.getElem?_eq_getElem hkl)
            obtain ⟨y, hy⟩ : ∃ y, y = L[k] := ⟨_, rfl⟩
            rw [← hy] at hc HLK
            clear hy
            have HAP : Hid (x1 = y.block → max (max x3 x4) (max y.held y.kept) = 2 → withinB X (t : Int) y.tx = true ∨ withinB X y.tx (t : Int) = true) := Lib.hid (by
              intro hbl hmx
              have hxm := List.mem_of_getElem? HLI.out
              have hym := List.mem_of_getElem? HLK.out
              have s1 := strong_le (HGN.out.sane.sound _ hxm)
              have s2 := strong_le (HGN.out.sane.sound _ hym)
              unfold Lk.strong at s1 s2
              simp only at s1 s2
              by_cases h0 : max x3 x4 = 2
              · exact HGN.out.apart _ hxm _ hym hbl h0
              · exact (HGN.out.apart _ hym _ hxm hbl.symm (by show max y.held y.kept = 2; omega)).symm)
            obtain ⟨y1, y2, y3, y4⟩ := y
            cases hA'
            have HCS' : Hid (∀ i' v, (Lk.cells ⟨y1, y2, y3, y4⟩)[i']? = some v → wr.cell? ⟨b, off + k * 4 + i', none⟩ = some v) := Lib.hid hc
            obtain ⟨W4, hW4⟩ : ∃ W4, W4 = wr.alloc (.cells #[.int .i64 y1, .int .i64 y2, .int .i64 y3, .int .i64 y4] 45) := ⟨_, rfl⟩
            have hf4 : Fr F0 wr W4 := by rw [hW4]; exact (Fr.refl _ _).alloc _
            have HFk4 := Lib.hid (HFk.out.then0 hf4)
            have HTW4 := Lib.hid (HTW3.out.keep0 HFk4.out)
            have H74 := Lib.hid (HFk4.out.keep0 H7.out)
            have k5 : wr.cell? ⟨tb + 1, 0, none⟩ = some (.slice (some ⟨b, off, none⟩) nt ct) := by rw [cell_of (HTW3.out.keep0 HFk.out).bt]; rfl
            have p0 : (wr.alloc (.cells #[.int .i64 y1, .int .i64 y2, .int .i64 y3, .int .i64 y4] 45)).cell? ⟨b7, 0, none⟩ = some (.int .i64 x1) := by rw [← hW4, cell_of H74.out]; rfl
            have p1 : (wr.alloc (.cells #[.int .i64 y1, .int .i64 y2, .int .i64 y3, .int .i64 y4] 45)).cell? ⟨b7, 1, none⟩ = some (.int .i64 (t : Int)) := by rw [← hW4, cell_of H74.out]; rfl
            have p2 : (wr.alloc (.cells #[.int .i64 y1, .int .i64 y2, .int .i64 y3, .int .i64 y4] 45)).cell? ⟨b7, 2, none⟩ = some (.int .i64 x3) := by rw [← hW4, cell_of H74.out]; rfl
            have p3 : (wr.alloc (.cells #[.int .i64 y1, .int .i64 y2, .int .i64 y3, .int .i64 y4] 45)).cell? ⟨b7, 3, none⟩ = some (.int .i64 x4) := by rw [← hW4, cell_of H74.out]; rfl
            have p4 : (wr.alloc (.cells #[.int .i64 y1, .int .i64 y2, .int .i64 y3, .int .i64 y4] 45)).cell? ⟨tb, 0, none⟩ = some (.slice (some ⟨xb, xo, none⟩) n cx) := by rw [← hW4, cell_of HTW4.out.bx]; rfl
            have p5 : (wr.alloc (.cells #[.int .i64 y1, .int .i64 y2, .int .i64 y3, .int .i64 y4] 45)).cell? ⟨tb, 1, none⟩ = some (.int .i64 clk) := by rw [← hW4, cell_of HTW4.out.bx]; rfl
            have HW4 := Lib.hid hW4
            clear hc hf4 hW4
            go_upto_region 16 with (first | (refine wpList_load_at rfl 45 (.tmp 62) rfl b (off + k * 4) (by rfl) (Lk.cells ⟨y1, y2, y3, y4⟩) d HCS'.out HU.out HDD.out size_lock ?_) | (refine wpList_store_fresh rfl 45 (.tmp 9) (.tmp 63) rfl (Lk.cells ⟨y1, y2, y3, y4⟩).toArray (by rfl) (by rfl) 45 #[.int .i64 0, .int .i64 0, .int .i64 0, .int .i64 0] size_lock rfl (by simp [Lk.cells, Value.oneCell']) ?_; simp only [Lk.cells, List.toArray]))
            obtain ⟨mx, hmx0⟩ : ∃ mx, mx = max x3 (max x4 (max y3 y4)) := ⟨_, rfl⟩
            have HAP2 : Hid (x1 = y1 → mx = 2 → withinB X (t : Int) y2 = true ∨ withinB X y2 (t : Int) = true) := Lib.hid (fun h1 h2 => HAP.out h1 (by show max (max x3 x4) (max y3 y4) = 2; omega))
            rw [← hmx0]
            obtain ⟨ma, hma0⟩ : ∃ ma, ma = max x3 x4 := ⟨_, rfl⟩
            obtain ⟨mb, hmb0⟩ : ∃ mb, mb = max y3 y4 := ⟨_, rfl⟩
            rw [← hma0, ← hmb0]
            clear hmx0 hma0 hmb0
            rw [← HW4.out]
            have p0 : W4.cell? ⟨b7, 0, none⟩ = some (.int .i64 x1) := by rw [HW4.out]; exact p0
            have p1 : W4.cell? ⟨b7, 1, none⟩ = some (.int .i64 (t : Int)) := by rw [HW4.out]; exact p1
            have p4 : W4.cell? ⟨tb, 0, none⟩ = some (.slice (some ⟨xb, xo, none⟩) n cx) := by rw [HW4.out]; exact p4
            have p5 : W4.cell? ⟨tb, 1, none⟩ = some (.int .i64 clk) := by rw [HW4.out]; exact p5
            obtain ⟨b9, hb9⟩ : ∃ b9, b9 = wr.heap.size := ⟨_, rfl⟩
            rw [← hb9]
            have h9 : W4.heap[b9]? = some (.cells #[.int .i64 y1, .int .i64 y2, .int .i64 y3, .int .i64 y4] 45 (0, 0)) := by rw [HW4.out]; exact alloc_at hb9 _
            have q0 : W4.cell? ⟨b9, 0, none⟩ = some (.int .i64 y1) := by rw [cell_of h9]; rfl
            have q1 : W4.cell? ⟨b9, 1, none⟩ = some (.int .i64 y2) := by rw [cell_of h9]; rfl
            have H9 := Lib.hid h9
            clear HW4 hb9 h9 p2 p3 k5
            by_cases hbl : x1 = y1
            · by_cases hmx : mx = 2
              · have HOR := Lib.hid (HAP2.out hbl hmx)
                have g1 : (x1 == y1) = true := by simp [hbl]
                have g2 : (mx == 2) = true := by simp [hmx]
                clear hbl hmx
                go_wp2_with fail
                refine (HWI.out W4 (t : Int) y2 ((HXR.out.keep0 HF3.out).keep0 HFk4.out)).mono ?_
                rintro e w5 ⟨rfl, hf5⟩
                have HFk5 := Lib.hid (HFk4.out.then0 hf5)
                have p0' : w5.cell? ⟨b7, 1, none⟩ = some (.int .i64 (t : Int)) := by rw [cell_of (hf5.keep0 H74.out)]; rfl
                have p4' : w5.cell? ⟨tb, 0, none⟩ = some (.slice (some ⟨xb, xo, none⟩) n cx) := by rw [cell_of (hf5.keep0 HTW4.out.bx)]; rfl
                have p5' : w5.cell? ⟨tb, 1, none⟩ = some (.int .i64 clk) := by rw [cell_of (hf5.keep0 HTW4.out.bx)]; rfl
                have q1' : w5.cell? ⟨b9, 1, none⟩ = some (.int .i64 y2) := by rw [cell_of (hf5.keep0 H9.out)]; rfl
                clear hf5 p0 p1 p4 p5 q0 q1
                obtain ⟨wi, hwi⟩ : ∃ wi, wi = withinB X (t : Int) y2 := ⟨_, rfl⟩
                have HWIE := Lib.hid hwi
                rw [← hwi]
                clear hwi
                cases wi with
                | true =>
                  go_wp2_with fail
                  go_roundg (i - (k + 1))
                  case measure => omega
                  case rel => exact ⟨k + 1, by omega, rfl, by first | rfl | (go_num), HFk5.out⟩
                | false =>
                  have HB2 : Hid (withinB X y2 (t : Int) = true) := Lib.hid (HOR.out.resolve_left (by rw [← HWIE.out]; simp))
                  go_wp2_with fail
                  refine (HWI.out w5 y2 (t : Int) ((HXR.out.keep0 HF3.out).keep0 HFk5.out)).mono ?_
                  rintro e w6 ⟨rfl, hf6⟩
                  rw [HB2.out]
                  have HFk6 := Lib.hid (HFk5.out.then0 hf6)
                  clear hf6
                  go_wp2_with fail
                  go_roundg (i - (k + 1))
                  case measure => omega
                  case rel => exact ⟨k + 1, by omega, rfl, by first | rfl | (go_num), HFk6.out⟩
              · have g1 : (x1 == y1) = true := by simp [hbl]
                have g2 : (mx == 2) = false := by simp [hmx]
                clear hbl hmx
                go_wp2_with fail
                go_roundg (i - (k + 1))
                case measure => omega
                case rel => exact ⟨k + 1, by omega, rfl, by first | rfl | (go_num), HFk4.out⟩
            · have g1 : (x1 == y1) = false := by simp [hbl]
              clear hbl
              go_wp2_with fail
              go_roundg (i - (k + 1))
              case measure => omega
              case rel => exact ⟨k + 1, by omega, rfl, by first | rfl | (go_num), HFk4.out⟩
          · have hki : k = i := by omega
            subst hki
            go_wp2_with fail
            go_roundg (nt - (k + 1))
            case measure => omega
            case rel => exact ⟨k + 1, by omega, rfl, by first | rfl | (go_num), HF3.out.then0 HFk.out⟩
      · have hin : i = nt := by omega
        subst hin
        go_wp2_with fail
        refine (sane_c HTW.out.st (by have := sane_len HGN.out.sane; omega) HGN.out.sane).mono ?_
        rintro e w5 ⟨rfl, hf5⟩
        have HF5 := Lib.hid ((HF2.out.then0 HF.out).then0 hf5)
        clear hf5
        go_wp2_with fail
        go_ret
        exact ⟨rfl, HF5.out⟩
end
end Go.Proofs.Ytgbaijfgmeealaa
