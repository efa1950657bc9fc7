/-
  Layer 10: LocksAgain, the walk. Conditions: none.
-/
import Derived.Test.YtgbaijfgmeealaaP10e
import Derived.Test.YtgbaijfgmeealaaL10d
import Derived.Test.YtgbaijfgmeealaaK10m
import Derived.Test.YtgbaijfgmeealaaLast
set_option linter.unusedVariables false
set_option linter.unusedSimpArgs false
namespace Go.Proofs.Ytgbaijfgmeealaa
open Go.RowKit
theorem AskRet.any3 {w w' : World} {e : Ending} {X : List Tx9} {L : List Lk} {tx block m : Int} (h : AskRet w w' e X L tx block m) : ∃ A n c, e = .returned (.tuple #[.agg #[.slice A n c], .int .i64 (askE X L tx block m)]) ∧ (askE X L tx block m = 0 → SlV 4 Lk.cells w' (.slice A n c) (askL L tx block m)) ∧ (askE X L tx block m ≠ 0 → n = 0) ∧ Fr F0 w w' := by
  cases h with
  | no h he hf => exact ⟨_, _, _, he, fun e => absurd e h, fun _ => rfl, hf⟩
  | yes h v he hs hf =>
    obtain ⟨A, c, rfl, -⟩ := hs.ex
    exact ⟨_, _, _, by rw [h]; exact he, fun _ => hs, fun h0 => absurd h h0, hf⟩
theorem run_field2 {w : World} (g1 g2 g3 g4 : Int) : (Instr.field 45 (.agg #[.int .i64 g1, .int .i64 g2, .int .i64 g3, .int .i64 g4]) 2).run Try.prog w = .ok (.int .i64 g3) w := by
  unfold Instr.field
  simp [run_underlying Try.underlying45, part, asAgg]
section
variable {w : World}
set_option maxRecDepth 100000 in
set_option maxHeartbeats 8000000 in
theorem again_walk (A : Option Addr) (N cA : Nat) (l : List Act1) (idn bn mn : Int) (hA : ActsAt w A N l) (hN : N ≤ 9223372036854775807) : Calls Try.prog 7 #[.slice A N cA, .int .i64 idn, .int .i64 bn, .int .i64 mn] w fun e w' => e = .returned (.bool true) ∧ Fr F0 w w' := by
  have HACT := Lib.hid hA
  have N0 : (0 : Int) ≤ (N : Int) := Int.natCast_nonneg _
  clear hA
  go_enter Try.func7, Try.ntmps7
  go_wp2_with fail
  refine (awake10_c).mono ?_
  rintro e w1 ⟨rfl, hf1⟩
  have HF1 := Lib.hid hf1
  clear hf1
  by_cases hbig : 120 < N
  · have hb1 : (120 : Int) < (N : Int) := by omega
    go_wp2_with fail
    go_ret
    exact ⟨rfl, HF1.out⟩
  · have hb1 : ¬ (120 : Int) < (N : Int) := by omega
    go_wp2_with fail
    refine (grown_c (HACT.out.keep0 HF1.out) (by omega)).mono ?_
    intro e w2 hgr
    obtain ⟨X, L, vx, vt, clk, rfl, hsx, hst, hgn, hc0, hc1, hf2⟩ := hgr.ex
    obtain ⟨Ax, cx, rfl, hxr, -⟩ := hsx.ex
    obtain ⟨At, ct, rfl, htr, -⟩ := hst.ex
    obtain ⟨n, hn⟩ : ∃ n, n = X.length := ⟨_, rfl⟩
    obtain ⟨nt, hnt⟩ : ∃ nt, nt = L.length := ⟨_, rfl⟩
    rw [← hn] at hsx ⊢
    rw [← hnt] at hst ⊢
    obtain ⟨tb, htb⟩ : ∃ tb, tb = w2.heap.size := ⟨_, rfl⟩
    obtain ⟨W, hW⟩ : ∃ W, W = (w2.alloc (.cells #[.slice Ax n cx, .int .i64 clk] 25)).alloc (.cells #[.slice At nt ct] 31) := ⟨_, rfl⟩
    have hfW : Fr F0 w2 W := by rw [hW]; exact ((Fr.refl F0 w2).alloc _).alloc _
    have HTB : Hid (TwoB W tb (tb + 1) X L (.slice Ax n cx) (.slice At nt ct) clk) := Lib.hid ⟨by rw [hW, htb]; exact keep_alloc (alloc_at rfl _) _, by rw [hW, htb]; exact alloc_at (by simp) _, hsx.keep0 hfW, hst.keep0 hfW⟩
    have HF2 := Lib.hid ((HF1.out.then0 hf2).then0 hfW)
    have HXR := Lib.hid (hxr.keep0 hfW)
    have HGN := Lib.hid hgn
    have HN := Lib.hid hn
    have HNT := Lib.hid hnt
    have HW := Lib.hid hW
    have HTBE := Lib.hid htb
    have n0 : (0 : Int) ≤ (n : Int) := Int.natCast_nonneg _
    have nt0 : (0 : Int) ≤ (nt : Int) := Int.natCast_nonneg _
    have hn64 : n ≤ 64 := by rw [hn]; exact hgn.len
    have hnt1 : nt ≤ 16384 := by rw [hnt]; exact sane_len hgn.sane
    have HNT1 : Hid (L.length ≤ 1000000) := Lib.hid (by have := sane_len hgn.sane; omega)
    clear hgr hsx hst hxr htr hgn hf2 hfW hn hnt htb hW
    by_cases hn0 : n = 0
    · subst hn0
      go_wp2_with fail
      go_ret
      exact ⟨rfl, by rw [← HW.out]; exact HF2.out⟩
    · have hnz : ((n : Int) == 0) = false := by simp; omega
      have hnz2 : ¬ (n : Int) = 0 := by omega
      obtain ⟨r, hr⟩ : ∃ r : Nat, idn % 65536 = (r : Int) := ⟨(idn % 65536).toNat, by omega⟩
      have hband : bits .and .i64 idn 65535 = (r : Int) := by rw [← hr]; exact i64_and idn 16 (by decide)
      obtain ⟨k, hk⟩ : ∃ k : Nat, k = r % n := ⟨_, rfl⟩
      have hkn : k < n := by rw [hk]; exact Nat.mod_lt _ (by omega)
      have hrem : Int.tmod (r : Int) (n : Int) = (k : Int) := by rw [Int.tmod_eq_emod_of_nonneg (by omega), hk]; simp
      have hmod : (r : Int) % (n : Int) = (k : Int) := by rw [hk]; simp
      have hkw : IntKind.i64.wrap (k : Int) = (k : Int) := by rw [IntKind.wrap_i64]; omega
      have hnn : ¬ n = 0 := hn0
      obtain ⟨bq, hbq⟩ : ∃ bq : Nat, bn % 8 = (bq : Int) := ⟨(bn % 8).toNat, by omega⟩
      obtain ⟨mq, hmq⟩ : ∃ mq : Nat, mn % 2 = (mq : Int) := ⟨(mn % 2).toNat, by omega⟩
      have hband2 : bits .and .i64 bn 7 = (bq : Int) := by rw [← hbq]; exact i64_and bn 3 (by decide)
      have hband3 : bits .and .i64 mn 1 = (mq : Int) := by rw [← hmq]; exact i64_and mn 1 (by decide)
      obtain ⟨mm, hmm⟩ : ∃ mm : Int, mm = 1 + (mq : Int) := ⟨_, rfl⟩
      have hm1 : IntKind.i64.wrap (1 + (mq : Int)) = mm := by rw [IntKind.wrap_i64]; omega
      have HMM : Hid (mm = 1 ∨ mm = 2) := Lib.hid (by omega)
      have HB0 : Hid ((0 : Int) ≤ (bq : Int)) := Lib.hid (by omega)
      have HB1 : Hid ((bq : Int) < 256) := Lib.hid (by omega)
      have HKI : Hid (isId X (k : Int) = true) := Lib.hid (by rw [isId_iff]; have := HN.out; omega)
      clear hr hbq hmq hmm hk hmod
      go_wp2_with fail
      rw [← HW.out, ← HTBE.out]
      have hkl : k < X.length := by have := HN.out; omega
      obtain ⟨xb, xo, rfl, hcx⟩ := HXR.out.get (List.getElem?_eq_getElem hkl) (Tx9.pos _)
      obtain ⟨st, hst⟩ : ∃ st, st = X[k].state := ⟨_, rfl⟩
      have HST : Hid (stateOf X (k : Int) = st) := Lib.hid (by rw [hst]; exact stateOf_at (List.getElem?_eq_getElem hkl))
      have HSC : Hid (∀ wz, Fr F0 W wz → wz.cell? ⟨xb, xo + k * 4 + 1, none⟩ = some (.int .i64 st)) := Lib.hid (by
        have h0 : W.cell? ⟨xb, xo + k * 4 + 1, none⟩ = some (.int .i64 st) := by rw [hst]; exact hcx 1 _ rfl
        exact fun wz hf => (World.cell?_of_block (w := W) (hf.block _ (World.block_lt_of_cell? _ _ h0) (fun h => h))).trans h0)
      have k0 : (0 : Int) ≤ (k : Int) := Int.natCast_nonneg _
      have kn : (k : Int) < (n : Int) := by omega
      obtain ⟨E, hE⟩ : ∃ E, E = askE X L (k : Int) (bq : Int) mm := ⟨_, rfl⟩
      obtain ⟨G, hG⟩ : ∃ G, G = askL L (k : Int) (bq : Int) mm := ⟨_, rfl⟩
      have HE := Lib.hid hE
      have HGE0 := Lib.hid hG
      have HL100 : Hid (L.length ≤ 100000) := Lib.hid (by have := sane_len HGN.out.sane; omega)
      clear hcx hst hE hG
      refine (ask_c clk (k : Int) (bq : Int) mm HTB.out.st HL100.out HGN.out.sane HTB.out.sx HGN.out.len HB0.out HB1.out HMM.out).mono ?_
      intro e w3 har
      obtain ⟨Au, nu, cu, rfl, hsu, hnu, hf3⟩ := har.any3
      rw [← HE.out] at hsu hnu ⊢
      rw [← HGE0.out] at hsu
      obtain ⟨b15, hb15⟩ : ∃ b15, b15 = w3.heap.size := ⟨_, rfl⟩
      obtain ⟨W3, hW3⟩ : ∃ W3, W3 = w3.alloc (.cells #[.slice Au nu cu] 31) := ⟨_, rfl⟩
      have hfa : Fr F0 w3 W3 := by rw [hW3]; exact (Fr.refl _ _).alloc _
      have hfb := hf3.then0 hfa
      have HSU3 : Hid (E = 0 → SlV 4 Lk.cells W3 (.slice Au nu cu) G) := Lib.hid (fun h => (hsu h).keep0 hfa)
      have HNU := Lib.hid hnu
      have H153 : Hid (W3.heap[b15]? = some (.cells #[.slice Au nu cu] 31 (0, 0))) := Lib.hid (by rw [hW3]; exact alloc_at hb15 _)
      have HTB3 := Lib.hid (HTB.out.keep0 hfb)
      have HWW3 := Lib.hid hfb
      have HF3 := Lib.hid (HF2.out.then0 hfb)
      have q1 : (w3.alloc (.cells #[.slice Au nu cu] 31)).cell? ⟨tb, 0, none⟩ = some (.slice (some ⟨xb, xo, none⟩) n cx) := by rw [← hW3, cell_of HTB3.out.bx]; rfl
      have q2 : (w3.alloc (.cells #[.slice Au nu cu] 31)).cell? ⟨tb, 1, none⟩ = some (.int .i64 clk) := by rw [← hW3, cell_of HTB3.out.bx]; rfl
      have q3 : (w3.alloc (.cells #[.slice Au nu cu] 31)).cell? ⟨tb + 1, 0, none⟩ = some (.slice At nt ct) := by rw [← hW3, cell_of HTB3.out.bt]; rfl
      have HW3 := Lib.hid hW3
      have HB15 := Lib.hid hb15
      clear har hsu hnu hf3 hfa hfb hW3 hb15
      go_wp2_with fail
      rw [← HW3.out, ← HB15.out]
      refine (against_c clk (k : Int) (bq : Int) mm HTB3.out.st HNT1.out HGN.out.sane HTB3.out.sx HGN.out.len HMM.out).mono ?_
      intro e w4 hNI
      obtain ⟨Aw, cw, rfl, hv4, hf4⟩ := hNI.ex
      obtain ⟨who, hwho⟩ : ∃ who, who = againstL X L (k : Int) (bq : Int) mm := ⟨_, rfl⟩
      have HWHO := Lib.hid hwho
      rw [← hwho] at hv4 ⊢
      obtain ⟨m, hm⟩ : ∃ m, m = who.length := ⟨_, rfl⟩
      have HM := Lib.hid hm
      rw [← hm]
      have hm64 : m ≤ 16384 := by
        rw [hm, hwho]
        unfold againstL
        rw [List.length_map]
        have h1 := List.length_filter_le (agB X (k : Int) (bq : Int) mm) L
        have h2 := sane_len HGN.out.sane
        omega
      have m0 : (0 : Int) ≤ (m : Int) := Int.natCast_nonneg _
      have HV4 := Lib.hid hv4
      have HTB4 := Lib.hid (HTB3.out.keep0 hf4)
      have HSU4 : Hid (E = 0 → SlV 4 Lk.cells w4 (.slice Au nu cu) G) := Lib.hid (fun h => (HSU3.out h).keep0 hf4)
      have H154 := Lib.hid (hf4.keep0 H153.out)
      have HF4 := Lib.hid (HF3.out.then0 hf4)
      have HWW4 := Lib.hid (HWW3.out.then0 hf4)
      clear hNI hv4 hf4 hwho hm q1 q2 q3
      rcases askE_cases (L := L) (b := (bq : Int)) (m := mm) HKI.out with ⟨hE, hag⟩ | ⟨hE, hag⟩ | ⟨hE, hag⟩
      · have hE0 : E = 0 := by rw [HE.out]; exact hE
        have g1 : (E == 9) = false := by simp [hE0]
        have g2 : (E != 0) = false := by simp [hE0]
        have hmz : m = 0 := by rw [HM.out, HWHO.out, hag]; rfl
        subst m
        have HAG := again_ask HGN.out.falls HGN.out.sane HMM.out (Or.inl rfl) hE
        have HAG1 := again_ask HGN.out.falls HGN.out.sane HMM.out (Or.inr rfl) hE
        rw [← HGE0.out] at HAG HAG1
        have HAa := Lib.hid HAG
        have HAb := Lib.hid HAG1
        have hsu := HSU4.out hE0
        have HUS : Hid (SaneL G) := Lib.hid (by rw [HGE0.out]; exact withL_sane HGN.out.sane (askX_sound HGN.out.sane ⟨HB0.out, HB1.out⟩ ⟨k0, by omega⟩ HMM.out))
        obtain ⟨y, hy⟩ : ∃ y, y = askX L (k : Int) (bq : Int) mm := ⟨_, rfl⟩
        have HFU0 : findL G (k : Int) (bq : Int) = y := by rw [HGE0.out, hy]; exact again_find HGN.out.sane.rise
        have hge0 : mm ≤ y.held := by rw [hy]; exact again_held L (k : Int) (bq : Int) mm
        obtain ⟨y1, y2, y3, y4⟩ := y
        have HFU := Lib.hid HFU0
        have HGE : Hid (mm ≤ y3) := Lib.hid hge0
        obtain ⟨nG, hnG⟩ : ∃ nG, nG = G.length := ⟨_, rfl⟩
        have hnn2 : nu = nG := by
          obtain ⟨A', c', e', -⟩ := hsu.ex
          injection e' with e1 e2 e3
          rw [e2, hnG]
        subst hnn2
        have HUN0 := Lib.hid hnG
        have HUN : Hid (G.length ≤ 100000) := Lib.hid (by have := sane_len HUS.out; omega)
        have HUN1 : Hid (G.length ≤ 1000000) := Lib.hid (by have := sane_len HUS.out; omega)
        have HSU := Lib.hid hsu
        have q1 : w4.cell? ⟨tb, 0, none⟩ = some (.slice (some ⟨xb, xo, none⟩) n cx) := by rw [cell_of HTB4.out.bx]; rfl
        have q2 : w4.cell? ⟨tb, 1, none⟩ = some (.int .i64 clk) := by rw [cell_of HTB4.out.bx]; rfl
        have q3 : w4.cell? ⟨b15, 0, none⟩ = some (.slice Au nu cu) := by rw [cell_of H154.out]; rfl
        clear hE hag hE0 HAG HAG1 hsu hy HFU0 hge0 hnG
        go_wp2_with fail
        refine (ask_c clk (k : Int) (bq : Int) mm HSU.out HUN.out HUS.out HTB4.out.sx HGN.out.len HB0.out HB1.out HMM.out).mono ?_
        intro e w5 har
        cases har with
        | no h he hf => exact absurd HAa.out.1 h
        | yes h v5 he hs5 hf5 =>
        subst he
        rw [HAa.out.2] at hs5
        obtain ⟨A2, c2, rfl⟩ := hs5.exn (n := nu) HUN0.out.symm
        obtain ⟨b20, hb20⟩ : ∃ b20, b20 = w5.heap.size := ⟨_, rfl⟩
        obtain ⟨W5, hW5⟩ : ∃ W5, W5 = w5.alloc (.cells #[.slice A2 nu c2] 31) := ⟨_, rfl⟩
        have hfa : Fr F0 w5 W5 := by rw [hW5]; exact (Fr.refl _ _).alloc _
        have hfb := hf5.then0 hfa
        have HS25 := Lib.hid (hs5.keep0 hfa)
        have H205 : Hid (W5.heap[b20]? = some (.cells #[.slice A2 nu c2] 31 (0, 0))) := Lib.hid (by rw [hW5]; exact alloc_at hb20 _)
        have HTB5 := Lib.hid (HTB4.out.keep0 hfb)
        have HSU5 := Lib.hid (HSU.out.keep0 hfb)
        have H155 := Lib.hid (hfb.keep0 H154.out)
        have HF5 := Lib.hid (HF4.out.then0 hfb)
        have p1 : (w5.alloc (.cells #[.slice A2 nu c2] 31)).cell? ⟨tb, 0, none⟩ = some (.slice (some ⟨xb, xo, none⟩) n cx) := by rw [← hW5, cell_of HTB5.out.bx]; rfl
        have p2 : (w5.alloc (.cells #[.slice A2 nu c2] 31)).cell? ⟨tb, 1, none⟩ = some (.int .i64 clk) := by rw [← hW5, cell_of HTB5.out.bx]; rfl
        have p3 : (w5.alloc (.cells #[.slice A2 nu c2] 31)).cell? ⟨b15, 0, none⟩ = some (.slice Au nu cu) := by rw [← hW5, cell_of H155.out]; rfl
        have HW5 := Lib.hid hW5
        have HB20 := Lib.hid hb20
        clear q1 q2 q3 h hs5 hf5 hfa hfb hW5 hb20
        go_wp2_with fail
        rw [← HW5.out, ← HB20.out]
        refine (ask_c clk (k : Int) (bq : Int) 1 HSU5.out HUN.out HUS.out HTB5.out.sx HGN.out.len HB0.out HB1.out (.inl rfl)).mono ?_
        intro e w6 har
        cases har with
        | no h he hf => exact absurd HAb.out.1 h
        | yes h v6 he hs6 hf6 =>
        subst he
        rw [HAb.out.2] at hs6
        obtain ⟨A3, c3, rfl⟩ := hs6.exn (n := nu) HUN0.out.symm
        obtain ⟨b22, hb22⟩ : ∃ b22, b22 = w6.heap.size := ⟨_, rfl⟩
        obtain ⟨W6, hW6⟩ : ∃ W6, W6 = w6.alloc (.cells #[.slice A3 nu c3] 31) := ⟨_, rfl⟩
        have hfa : Fr F0 w6 W6 := by rw [hW6]; exact (Fr.refl _ _).alloc _
        have hfb := hf6.then0 hfa
        have HS3 := Lib.hid (hs6.keep0 hfa)
        have H22 : Hid (W6.heap[b22]? = some (.cells #[.slice A3 nu c3] 31 (0, 0))) := Lib.hid (by rw [hW6]; exact alloc_at hb22 _)
        have HSU := Lib.hid (HSU5.out.keep0 hfb)
        have HS2 := Lib.hid (HS25.out.keep0 hfb)
        have H15 := Lib.hid (hfb.keep0 H155.out)
        have H20 := Lib.hid (hfb.keep0 H205.out)
        have HF6 := Lib.hid (HF5.out.then0 hfb)
        have HW6 := Lib.hid hW6
        have HB22 := Lib.hid hb22
        clear p1 p2 p3 h hs6 hf6 hfa hfb hW6 hb22 g1 g2
        go_wp2_with fail
        rw [← HW6.out, ← HB22.out]
        clear HW6 HB22
        refine wp_region_free (S := F0) [false, false, false, false, false, false, false, false, true, false, false, false, false, false, false, false, false, false, false, false, false, false, false, false, false, false, false, false, false, false, false, false, false, false, false, false, false, false, false, false, false, false, false, false, false, false, false, false, false, false, false, false, false, false, false, false, false, false, false, false, false, false, false, false, false, false, false, false, false, false, false, false, false, false, false, false, false, false, false, false, false, false, false, false, false, false, false, false, false, false, false, false, false, false, false, false, false, false, false, false, false, false, false, false, false, false, false, false, false, false, false, false, false, false, false, false, false, false, false, false, false, false, false, false, false, false, false, false, false, false, false, false, false, false, false, false, false, false, false, false, true, true, true, true, true, true, true, true, true, true, true, true, true, true, true, true, true, true, true, true, true, true, true, true, true, true, true, true, true, true, true, true, true, true, true, true, true, true, true, true, true] [.eq (.bool true), .eq (.bool true), .eq (.int .i64 0), .eq (.bool true), .eq (.bool true), .eq (.bool true), .eq (.int .i64 0), .eq (.bool true), .eq (.bool true), .eq (.bool true), .eq (.pointer (some ⟨b15, 0, none⟩)), .eq (.slice Au nu cu), ⟨fun v w1 => SlV 4 Lk.cells w1 v G, fun v w1 w2 h hf => h.keep0 hf⟩, .eq (.pointer (some ⟨b20, 0, none⟩)), .eq (.slice A2 nu c2), ⟨fun v w1 => SlV 4 Lk.cells w1 v G, fun v w1 w2 h hf => h.keep0 hf⟩, .eq (.bool true), .eq (.bool true), .eq (.bool true), .eq (.pointer (some ⟨b15, 0, none⟩)), .eq (.slice Au nu cu), ⟨fun v w1 => SlV 4 Lk.cells w1 v G, fun v w1 w2 h hf => h.keep0 hf⟩, .eq (.pointer (some ⟨b22, 0, none⟩)), .eq (.slice A3 nu c3), ⟨fun v w1 => SlV 4 Lk.cells w1 v G, fun v w1 w2 h hf => h.keep0 hf⟩, .eq (.bool true), .eq (.bool true), .eq (.bool true), .eq (.agg #[.slice Au nu cu]), .eq (.int .i64 (k : Int)), .eq (.int .i64 (bq : Int)), .eq (.agg #[.int .i64 y1, .int .i64 y2, .int .i64 y3, .int .i64 y4]), .eq (.int .i64 y3), .eq (.int .i64 mm), .eq (.bool true), .eq (.bool true), .eq (.bool true), .eq (.slice Aw 0 cw), .eq (.int .i64 0), .eq (.bool true), .eq (.bool true), .eq (.bool true)] (by kernel_rfl) (by kernel_rfl) (by rfl) (fun us => ?steps) (fun us wz hG hall => ?fin)
        case steps =>
          simp only [fillL, Nat.reduceAdd]
          refine stepsHold.cons (fun wx hG hd K hK => ?_) ?_
          · rw [if_pos (wanted_none rfl)]
            refine wp_value (w2 := wx) (v := .bool true) ?_ (hK _ _ rfl (Fr.refl _ _))
            clear hd hG hK
            go_simp
          refine stepsHold.cons (fun wx hG hd K hK => ?_) ?_
          · have h140 : us 140 = (.bool true) := deps_get hd 0 rfl rfl rfl rfl rfl
            rw [if_pos (wanted_none rfl)]
            refine wp_value (w2 := wx) (v := .bool true) ?_ (hK _ _ rfl (Fr.refl _ _))
            clear hd hG hK
            go_simp
          refine stepsHold.cons (fun wx hG hd K hK => ?_) ?_
          · have h141 : us 141 = (.bool true) := deps_get hd 0 rfl rfl rfl rfl rfl
            rw [if_pos (wanted_yes rfl rfl rfl rfl h141)]
            refine wp_value (w2 := wx) (v := .int .i64 0) ?_ (hK _ _ rfl (Fr.refl _ _))
            clear hd hG hK
            go_simp
          refine stepsHold.cons (fun wx hG hd K hK => ?_) ?_
          · have h142 : us 142 = (.int .i64 0) := deps_get hd 0 rfl rfl rfl rfl rfl
            have h141 : us 141 = (.bool true) := deps_get hd 1 rfl rfl rfl rfl rfl
            rw [if_pos (wanted_yes rfl rfl rfl rfl h141)]
            refine wp_value (w2 := wx) (v := .bool true) ?_ (hK _ _ rfl (Fr.refl _ _))
            clear hd hG hK
            go_simp
          refine stepsHold.cons (fun wx hG hd K hK => ?_) ?_
          · have h141 : us 141 = (.bool true) := deps_get hd 0 rfl rfl rfl rfl rfl
            have h143 : us 143 = (.bool true) := deps_get hd 1 rfl rfl rfl rfl rfl
            rw [if_pos (wanted_none rfl)]
            refine wp_value (w2 := wx) (v := .bool true) ?_ (hK _ _ rfl (Fr.refl _ _))
            clear hd hG hK
            go_simp
          refine stepsHold.cons (fun wx hG hd K hK => ?_) ?_
          · have h144 : us 144 = (.bool true) := deps_get hd 0 rfl rfl rfl rfl rfl
            rw [if_pos (wanted_none rfl)]
            refine wp_value (w2 := wx) (v := .bool true) ?_ (hK _ _ rfl (Fr.refl _ _))
            clear hd hG hK
            go_simp
          refine stepsHold.cons (fun wx hG hd K hK => ?_) ?_
          · have h145 : us 145 = (.bool true) := deps_get hd 0 rfl rfl rfl rfl rfl
            rw [if_pos (wanted_yes rfl rfl rfl rfl h145)]
            refine wp_value (w2 := wx) (v := .int .i64 0) ?_ (hK _ _ rfl (Fr.refl _ _))
            clear hd hG hK
            go_simp
          refine stepsHold.cons (fun wx hG hd K hK => ?_) ?_
          · have h146 : us 146 = (.int .i64 0) := deps_get hd 0 rfl rfl rfl rfl rfl
            have h145 : us 145 = (.bool true) := deps_get hd 1 rfl rfl rfl rfl rfl
            rw [if_pos (wanted_yes rfl rfl rfl rfl h145)]
            refine wp_value (w2 := wx) (v := .bool true) ?_ (hK _ _ rfl (Fr.refl _ _))
            clear hd hG hK
            go_simp
          refine stepsHold.cons (fun wx hG hd K hK => ?_) ?_
          · have h145 : us 145 = (.bool true) := deps_get hd 0 rfl rfl rfl rfl rfl
            have h147 : us 147 = (.bool true) := deps_get hd 1 rfl rfl rfl rfl rfl
            rw [if_pos (wanted_none rfl)]
            refine wp_value (w2 := wx) (v := .bool true) ?_ (hK _ _ rfl (Fr.refl _ _))
            clear hd hG hK
            go_simp
          refine stepsHold.cons (fun wx hG hd K hK => ?_) ?_
          · have h148 : us 148 = (.bool true) := deps_get hd 0 rfl rfl rfl rfl rfl
            rw [if_pos (wanted_none rfl)]
            refine wp_value (w2 := wx) (v := .bool true) ?_ (hK _ _ rfl (Fr.refl _ _))
            clear hd hG hK
            go_simp
          refine stepsHold.cons (fun wx hG hd K hK => ?_) ?_
          · have h149 : us 149 = (.bool true) := deps_get hd 0 rfl rfl rfl rfl rfl
            rw [if_pos (wanted_yes rfl rfl rfl rfl h149)]
            refine wp_value (w2 := wx) (v := .pointer (some ⟨b15, 0, none⟩)) ?_ (hK _ _ rfl (Fr.refl _ _))
            clear hd hG hK
            go_simp
          refine stepsHold.cons (fun wx hG hd K hK => ?_) ?_
          · have h150 : us 150 = (.pointer (some ⟨b15, 0, none⟩)) := deps_get hd 0 rfl rfl rfl rfl rfl
            have h149 : us 149 = (.bool true) := deps_get hd 1 rfl rfl rfl rfl rfl
            rw [if_pos (wanted_yes rfl rfl rfl rfl h149)]
            have hc : wx.cell? ⟨b15, 0, none⟩ = some (.slice Au nu cu) := by rw [cell_of (hG.keep0 H15.out)]; rfl
            refine wp_value (w2 := wx) (v := .slice Au nu cu) ?_ (hK _ _ rfl (Fr.refl _ _))
            clear hd hK
            go_simp
          refine stepsHold.cons (fun wx hG hd K hK => ?_) ?_
          · have h151 : us 151 = (.slice Au nu cu) := deps_get hd 0 rfl rfl rfl rfl rfl
            have h149 : us 149 = (.bool true) := deps_get hd 1 rfl rfl rfl rfl rfl
            rw [if_pos (wanted_yes rfl rfl rfl rfl h149)]
            refine wp_call (w2 := wx) (f := 22) (args := #[.slice Au nu cu]) ?_ ?_
            · clear hd hK
              go_simp
            · refine ((theirs_c (w := wx) (HSU.out.keep0 hG) HUN.out)).mono ?_
              rintro e w9 ⟨v9, rfl, hs9, hf⟩
              exact ⟨_, rfl, hK _ _ hs9 hf⟩
          refine stepsHold.cons (fun wx hG hd K hK => ?_) ?_
          · have h149 : us 149 = (.bool true) := deps_get hd 0 rfl rfl rfl rfl rfl
            rw [if_pos (wanted_yes rfl rfl rfl rfl h149)]
            refine wp_value (w2 := wx) (v := .pointer (some ⟨b20, 0, none⟩)) ?_ (hK _ _ rfl (Fr.refl _ _))
            clear hd hG hK
            go_simp
          refine stepsHold.cons (fun wx hG hd K hK => ?_) ?_
          · have h153 : us 153 = (.pointer (some ⟨b20, 0, none⟩)) := deps_get hd 0 rfl rfl rfl rfl rfl
            have h149 : us 149 = (.bool true) := deps_get hd 1 rfl rfl rfl rfl rfl
            rw [if_pos (wanted_yes rfl rfl rfl rfl h149)]
            have hc : wx.cell? ⟨b20, 0, none⟩ = some (.slice A2 nu c2) := by rw [cell_of (hG.keep0 H20.out)]; rfl
            refine wp_value (w2 := wx) (v := .slice A2 nu c2) ?_ (hK _ _ rfl (Fr.refl _ _))
            clear hd hK
            go_simp
          refine stepsHold.cons (fun wx hG hd K hK => ?_) ?_
          · have h154 : us 154 = (.slice A2 nu c2) := deps_get hd 0 rfl rfl rfl rfl rfl
            have h149 : us 149 = (.bool true) := deps_get hd 2 rfl rfl rfl rfl rfl
            rw [if_pos (wanted_yes rfl rfl rfl rfl h149)]
            refine wp_call (w2 := wx) (f := 22) (args := #[.slice A2 nu c2]) ?_ ?_
            · clear hd hK
              go_simp
            · refine ((theirs_c (w := wx) (HS2.out.keep0 hG) HUN.out)).mono ?_
              rintro e w9 ⟨v9, rfl, hs9, hf⟩
              exact ⟨_, rfl, hK _ _ hs9 hf⟩
          refine stepsHold.cons (fun wx hG hd K hK => ?_) ?_
          · have h152 := deps_get hd 0 rfl rfl rfl rfl rfl
            have h155 := deps_get hd 1 rfl rfl rfl rfl rfl
            have h149 : us 149 = (.bool true) := deps_get hd 3 rfl rfl rfl rfl rfl
            rw [if_pos (wanted_yes rfl rfl rfl rfl h149)]
            refine wp_call (w2 := wx) (f := 21) (args := #[us 152, us 155]) ?_ ?_
            · clear hd hK
              go_simp
            · refine (same_c (w := wx) h152 h155 HUN.out).mono ?_
              rintro e w9 ⟨rfl, hf⟩
              exact ⟨_, rfl, hK _ _ rfl hf⟩
          refine stepsHold.cons (fun wx hG hd K hK => ?_) ?_
          · have h149 : us 149 = (.bool true) := deps_get hd 0 rfl rfl rfl rfl rfl
            have h156 : us 156 = (.bool true) := deps_get hd 1 rfl rfl rfl rfl rfl
            rw [if_pos (wanted_none rfl)]
            refine wp_value (w2 := wx) (v := .bool true) ?_ (hK _ _ rfl (Fr.refl _ _))
            clear hd hG hK
            go_simp
          refine stepsHold.cons (fun wx hG hd K hK => ?_) ?_
          · have h157 : us 157 = (.bool true) := deps_get hd 0 rfl rfl rfl rfl rfl
            rw [if_pos (wanted_none rfl)]
            refine wp_value (w2 := wx) (v := .bool true) ?_ (hK _ _ rfl (Fr.refl _ _))
            clear hd hG hK
            go_simp
          refine stepsHold.cons (fun wx hG hd K hK => ?_) ?_
          · have h158 : us 158 = (.bool true) := deps_get hd 0 rfl rfl rfl rfl rfl
            rw [if_pos (wanted_yes rfl rfl rfl rfl h158)]
            refine wp_value (w2 := wx) (v := .pointer (some ⟨b15, 0, none⟩)) ?_ (hK _ _ rfl (Fr.refl _ _))
            clear hd hG hK
            go_simp
          refine stepsHold.cons (fun wx hG hd K hK => ?_) ?_
          · have h159 : us 159 = (.pointer (some ⟨b15, 0, none⟩)) := deps_get hd 0 rfl rfl rfl rfl rfl
            have h158 : us 158 = (.bool true) := deps_get hd 1 rfl rfl rfl rfl rfl
            rw [if_pos (wanted_yes rfl rfl rfl rfl h158)]
            have hc : wx.cell? ⟨b15, 0, none⟩ = some (.slice Au nu cu) := by rw [cell_of (hG.keep0 H15.out)]; rfl
            refine wp_value (w2 := wx) (v := .slice Au nu cu) ?_ (hK _ _ rfl (Fr.refl _ _))
            clear hd hK
            go_simp
          refine stepsHold.cons (fun wx hG hd K hK => ?_) ?_
          · have h160 : us 160 = (.slice Au nu cu) := deps_get hd 0 rfl rfl rfl rfl rfl
            have h158 : us 158 = (.bool true) := deps_get hd 1 rfl rfl rfl rfl rfl
            rw [if_pos (wanted_yes rfl rfl rfl rfl h158)]
            refine wp_call (w2 := wx) (f := 22) (args := #[.slice Au nu cu]) ?_ ?_
            · clear hd hK
              go_simp
            · refine ((theirs_c (w := wx) (HSU.out.keep0 hG) HUN.out)).mono ?_
              rintro e w9 ⟨v9, rfl, hs9, hf⟩
              exact ⟨_, rfl, hK _ _ hs9 hf⟩
          refine stepsHold.cons (fun wx hG hd K hK => ?_) ?_
          · have h158 : us 158 = (.bool true) := deps_get hd 0 rfl rfl rfl rfl rfl
            rw [if_pos (wanted_yes rfl rfl rfl rfl h158)]
            refine wp_value (w2 := wx) (v := .pointer (some ⟨b22, 0, none⟩)) ?_ (hK _ _ rfl (Fr.refl _ _))
            clear hd hG hK
            go_simp
          refine stepsHold.cons (fun wx hG hd K hK => ?_) ?_
          · have h162 : us 162 = (.pointer (some ⟨b22, 0, none⟩)) := deps_get hd 0 rfl rfl rfl rfl rfl
            have h158 : us 158 = (.bool true) := deps_get hd 1 rfl rfl rfl rfl rfl
            rw [if_pos (wanted_yes rfl rfl rfl rfl h158)]
            have hc : wx.cell? ⟨b22, 0, none⟩ = some (.slice A3 nu c3) := by rw [cell_of (hG.keep0 H22.out)]; rfl
            refine wp_value (w2 := wx) (v := .slice A3 nu c3) ?_ (hK _ _ rfl (Fr.refl _ _))
            clear hd hK
            go_simp
          refine stepsHold.cons (fun wx hG hd K hK => ?_) ?_
          · have h163 : us 163 = (.slice A3 nu c3) := deps_get hd 0 rfl rfl rfl rfl rfl
            have h158 : us 158 = (.bool true) := deps_get hd 2 rfl rfl rfl rfl rfl
            rw [if_pos (wanted_yes rfl rfl rfl rfl h158)]
            refine wp_call (w2 := wx) (f := 22) (args := #[.slice A3 nu c3]) ?_ ?_
            · clear hd hK
              go_simp
            · refine ((theirs_c (w := wx) (HS3.out.keep0 hG) HUN.out)).mono ?_
              rintro e w9 ⟨v9, rfl, hs9, hf⟩
              exact ⟨_, rfl, hK _ _ hs9 hf⟩
          refine stepsHold.cons (fun wx hG hd K hK => ?_) ?_
          · have h161 := deps_get hd 0 rfl rfl rfl rfl rfl
            have h164 := deps_get hd 1 rfl rfl rfl rfl rfl
            have h158 : us 158 = (.bool true) := deps_get hd 3 rfl rfl rfl rfl rfl
            rw [if_pos (wanted_yes rfl rfl rfl rfl h158)]
            refine wp_call (w2 := wx) (f := 21) (args := #[us 161, us 164]) ?_ ?_
            · clear hd hK
              go_simp
            · refine (same_c (w := wx) h161 h164 HUN.out).mono ?_
              rintro e w9 ⟨rfl, hf⟩
              exact ⟨_, rfl, hK _ _ rfl hf⟩
          refine stepsHold.cons (fun wx hG hd K hK => ?_) ?_
          · have h158 : us 158 = (.bool true) := deps_get hd 0 rfl rfl rfl rfl rfl
            have h165 : us 165 = (.bool true) := deps_get hd 1 rfl rfl rfl rfl rfl
            rw [if_pos (wanted_none rfl)]
            refine wp_value (w2 := wx) (v := .bool true) ?_ (hK _ _ rfl (Fr.refl _ _))
            clear hd hG hK
            go_simp
          refine stepsHold.cons (fun wx hG hd K hK => ?_) ?_
          · have h166 : us 166 = (.bool true) := deps_get hd 0 rfl rfl rfl rfl rfl
            rw [if_pos (wanted_none rfl)]
            refine wp_value (w2 := wx) (v := .bool true) ?_ (hK _ _ rfl (Fr.refl _ _))
            clear hd hG hK
            go_simp
          refine stepsHold.cons (fun wx hG hd K hK => ?_) ?_
          · have h167 : us 167 = (.bool true) := deps_get hd 0 rfl rfl rfl rfl rfl
            rw [if_pos (wanted_yes rfl rfl rfl rfl h167)]
            have hc : wx.cell? ⟨b15, 0, none⟩ = some (.slice Au nu cu) := by rw [cell_of (hG.keep0 H15.out)]; rfl
            refine wp_value (w2 := wx) (v := .agg #[.slice Au nu cu]) ?_ (hK _ _ rfl (Fr.refl _ _))
            clear hd hK
            go_simp
          refine stepsHold.cons (fun wx hG hd K hK => ?_) ?_
          · have h167 : us 167 = (.bool true) := deps_get hd 0 rfl rfl rfl rfl rfl
            rw [if_pos (wanted_yes rfl rfl rfl rfl h167)]
            refine wp_value (w2 := wx) (v := .int .i64 (k : Int)) ?_ (hK _ _ rfl (Fr.refl _ _))
            clear hd hG hK
            go_simp
          refine stepsHold.cons (fun wx hG hd K hK => ?_) ?_
          · have h167 : us 167 = (.bool true) := deps_get hd 0 rfl rfl rfl rfl rfl
            rw [if_pos (wanted_yes rfl rfl rfl rfl h167)]
            refine wp_value (w2 := wx) (v := .int .i64 (bq : Int)) ?_ (hK _ _ rfl (Fr.refl _ _))
            clear hd hG hK
            go_simp
          refine stepsHold.cons (fun wx hG hd K hK => ?_) ?_
          · have h168 : us 168 = (.agg #[.slice Au nu cu]) := deps_get hd 0 rfl rfl rfl rfl rfl
            have h169 : us 169 = (.int .i64 (k : Int)) := deps_get hd 1 rfl rfl rfl rfl rfl
            have h170 : us 170 = (.int .i64 (bq : Int)) := deps_get hd 2 rfl rfl rfl rfl rfl
            have h167 : us 167 = (.bool true) := deps_get hd 3 rfl rfl rfl rfl rfl
            rw [if_pos (wanted_yes rfl rfl rfl rfl h167)]
            refine wp_call (w2 := wx) (f := 19) (args := #[.agg #[.slice Au nu cu], .int .i64 (k : Int), .int .i64 (bq : Int)]) ?_ ?_
            · clear hd hK
              go_simp
            · refine ((find_c (w := wx) (k : Int) (bq : Int) (HSU.out.keep0 hG) HUN1.out)).mono ?_
              rintro e w9 ⟨rfl, hf⟩
              rw [HFU.out]
              exact ⟨_, rfl, hK _ _ rfl hf⟩
          refine stepsHold.cons (fun wx hG hd K hK => ?_) ?_
          · have h171 : us 171 = (.agg #[.int .i64 y1, .int .i64 y2, .int .i64 y3, .int .i64 y4]) := deps_get hd 0 rfl rfl rfl rfl rfl
            have h167 : us 167 = (.bool true) := deps_get hd 1 rfl rfl rfl rfl rfl
            rw [if_pos (wanted_yes rfl rfl rfl rfl h167)]
            refine wp_value (w2 := wx) (v := .int .i64 y3) ?_ (hK _ _ rfl (Fr.refl _ _))
            clear hd hG hK
            go_simp
            rw [run_field2]
            rfl
          refine stepsHold.cons (fun wx hG hd K hK => ?_) ?_
          · have h167 : us 167 = (.bool true) := deps_get hd 0 rfl rfl rfl rfl rfl
            rw [if_pos (wanted_yes rfl rfl rfl rfl h167)]
            refine wp_value (w2 := wx) (v := .int .i64 mm) ?_ (hK _ _ rfl (Fr.refl _ _))
            clear hd hG hK
            go_simp
          refine stepsHold.cons (fun wx hG hd K hK => ?_) ?_
          · have h172 : us 172 = (.int .i64 y3) := deps_get hd 0 rfl rfl rfl rfl rfl
            have h173 : us 173 = (.int .i64 mm) := deps_get hd 1 rfl rfl rfl rfl rfl
            have h167 : us 167 = (.bool true) := deps_get hd 2 rfl rfl rfl rfl rfl
            rw [if_pos (wanted_yes rfl rfl rfl rfl h167)]
            have hw := HGE.out
            refine wp_value (w2 := wx) (v := .bool true) ?_ (hK _ _ rfl (Fr.refl _ _))
            clear hd hG hK
            go_simp
          refine stepsHold.cons (fun wx hG hd K hK => ?_) ?_
          · have h167 : us 167 = (.bool true) := deps_get hd 0 rfl rfl rfl rfl rfl
            have h174 : us 174 = (.bool true) := deps_get hd 1 rfl rfl rfl rfl rfl
            rw [if_pos (wanted_none rfl)]
            refine wp_value (w2 := wx) (v := .bool true) ?_ (hK _ _ rfl (Fr.refl _ _))
            clear hd hG hK
            go_simp
          refine stepsHold.cons (fun wx hG hd K hK => ?_) ?_
          · have h175 : us 175 = (.bool true) := deps_get hd 0 rfl rfl rfl rfl rfl
            rw [if_pos (wanted_none rfl)]
            refine wp_value (w2 := wx) (v := .bool true) ?_ (hK _ _ rfl (Fr.refl _ _))
            clear hd hG hK
            go_simp
          refine stepsHold.cons (fun wx hG hd K hK => ?_) ?_
          · have h176 : us 176 = (.bool true) := deps_get hd 0 rfl rfl rfl rfl rfl
            rw [if_pos (wanted_yes rfl rfl rfl rfl h176)]
            refine wp_value (w2 := wx) (v := .slice Aw 0 cw) ?_ (hK _ _ rfl (Fr.refl _ _))
            clear hd hG hK
            go_simp
          refine stepsHold.cons (fun wx hG hd K hK => ?_) ?_
          · have h177 : us 177 = (.slice Aw 0 cw) := deps_get hd 0 rfl rfl rfl rfl rfl
            have h176 : us 176 = (.bool true) := deps_get hd 1 rfl rfl rfl rfl rfl
            rw [if_pos (wanted_yes rfl rfl rfl rfl h176)]
            refine wp_value (w2 := wx) (v := .int .i64 0) ?_ (hK _ _ rfl (Fr.refl _ _))
            clear hd hG hK
            go_simp
          refine stepsHold.cons (fun wx hG hd K hK => ?_) ?_
          · have h178 : us 178 = (.int .i64 0) := deps_get hd 0 rfl rfl rfl rfl rfl
            have h176 : us 176 = (.bool true) := deps_get hd 1 rfl rfl rfl rfl rfl
            rw [if_pos (wanted_yes rfl rfl rfl rfl h176)]
            refine wp_value (w2 := wx) (v := .bool true) ?_ (hK _ _ rfl (Fr.refl _ _))
            clear hd hG hK
            go_simp
          refine stepsHold.cons (fun wx hG hd K hK => ?_) ?_
          · have h176 : us 176 = (.bool true) := deps_get hd 0 rfl rfl rfl rfl rfl
            have h179 : us 179 = (.bool true) := deps_get hd 1 rfl rfl rfl rfl rfl
            rw [if_pos (wanted_none rfl)]
            refine wp_value (w2 := wx) (v := .bool true) ?_ (hK _ _ rfl (Fr.refl _ _))
            clear hd hG hK
            go_simp
          refine stepsHold.cons (fun wx hG hd K hK => ?_) ?_
          · have h180 : us 180 = (.bool true) := deps_get hd 0 rfl rfl rfl rfl rfl
            rw [if_pos (wanted_none rfl)]
            refine wp_value (w2 := wx) (v := .bool true) ?_ (hK _ _ rfl (Fr.refl _ _))
            clear hd hG hK
            go_simp
          exact stepsHold.nil
        case fin =>
          have h140 : us 140 = (.bool true) := all_get hall 0 rfl rfl rfl
          have h141 : us 141 = (.bool true) := all_get hall 1 rfl rfl rfl
          have h142 : us 142 = (.int .i64 0) := all_get hall 2 rfl rfl rfl
          have h143 : us 143 = (.bool true) := all_get hall 3 rfl rfl rfl
          have h144 : us 144 = (.bool true) := all_get hall 4 rfl rfl rfl
          have h145 : us 145 = (.bool true) := all_get hall 5 rfl rfl rfl
          have h146 : us 146 = (.int .i64 0) := all_get hall 6 rfl rfl rfl
          have h147 : us 147 = (.bool true) := all_get hall 7 rfl rfl rfl
          have h148 : us 148 = (.bool true) := all_get hall 8 rfl rfl rfl
          have h149 : us 149 = (.bool true) := all_get hall 9 rfl rfl rfl
          have h150 : us 150 = (.pointer (some ⟨b15, 0, none⟩)) := all_get hall 10 rfl rfl rfl
          have h151 : us 151 = (.slice Au nu cu) := all_get hall 11 rfl rfl rfl
          have h152 := all_get hall 12 rfl rfl rfl
          have h153 : us 153 = (.pointer (some ⟨b20, 0, none⟩)) := all_get hall 13 rfl rfl rfl
          have h154 : us 154 = (.slice A2 nu c2) := all_get hall 14 rfl rfl rfl
          have h155 := all_get hall 15 rfl rfl rfl
          have h156 : us 156 = (.bool true) := all_get hall 16 rfl rfl rfl
          have h157 : us 157 = (.bool true) := all_get hall 17 rfl rfl rfl
          have h158 : us 158 = (.bool true) := all_get hall 18 rfl rfl rfl
          have h159 : us 159 = (.pointer (some ⟨b15, 0, none⟩)) := all_get hall 19 rfl rfl rfl
          have h160 : us 160 = (.slice Au nu cu) := all_get hall 20 rfl rfl rfl
          have h161 := all_get hall 21 rfl rfl rfl
          have h162 : us 162 = (.pointer (some ⟨b22, 0, none⟩)) := all_get hall 22 rfl rfl rfl
          have h163 : us 163 = (.slice A3 nu c3) := all_get hall 23 rfl rfl rfl
          have h164 := all_get hall 24 rfl rfl rfl
          have h165 : us 165 = (.bool true) := all_get hall 25 rfl rfl rfl
          have h166 : us 166 = (.bool true) := all_get hall 26 rfl rfl rfl
          have h167 : us 167 = (.bool true) := all_get hall 27 rfl rfl rfl
          have h168 : us 168 = (.agg #[.slice Au nu cu]) := all_get hall 28 rfl rfl rfl
          have h169 : us 169 = (.int .i64 (k : Int)) := all_get hall 29 rfl rfl rfl
          have h170 : us 170 = (.int .i64 (bq : Int)) := all_get hall 30 rfl rfl rfl
          have h171 : us 171 = (.agg #[.int .i64 y1, .int .i64 y2, .int .i64 y3, .int .i64 y4]) := all_get hall 31 rfl rfl rfl
          have h172 : us 172 = (.int .i64 y3) := all_get hall 32 rfl rfl rfl
          have h173 : us 173 = (.int .i64 mm) := all_get hall 33 rfl rfl rfl
          have h174 : us 174 = (.bool true) := all_get hall 34 rfl rfl rfl
          have h175 : us 175 = (.bool true) := all_get hall 35 rfl rfl rfl
          have h176 : us 176 = (.bool true) := all_get hall 36 rfl rfl rfl
          have h177 : us 177 = (.slice Aw 0 cw) := all_get hall 37 rfl rfl rfl
          have h178 : us 178 = (.int .i64 0) := all_get hall 38 rfl rfl rfl
          have h179 : us 179 = (.bool true) := all_get hall 39 rfl rfl rfl
          have h180 : us 180 = (.bool true) := all_get hall 40 rfl rfl rfl
          have h8 : us 8 = (.bool true) := all_get hall 41 rfl rfl rfl
          simp only [fillL, Nat.reduceAdd]
          clear hall
          simp only [h140, h141, h142, h143, h144, h145, h146, h147, h148, h149, h150, h151, h153, h154, h156, h157, h158, h159, h160, h162, h163, h165, h166, h167, h168, h169, h170, h171, h172, h173, h174, h175, h176, h177, h178, h179, h180, h8]
          clear h140 h141 h142 h143 h144 h145 h146 h147 h148 h149 h150 h151 h153 h154 h156 h157 h158 h159 h160 h162 h163 h165 h166 h167 h168 h169 h170 h171 h172 h173 h174 h175 h176 h177 h178 h179 h180 h8
          have HFZ := Lib.hid (HF6.out.then0 hG)
          clear hG
          go_wp2_with fail
          go_ret
          exact ⟨rfl, HFZ.out⟩
      · have hE0 : E = 7 := by rw [HE.out]; exact hE
        have g1 : (E == 9) = false := by simp [hE0]
        have g2 : (E != 0) = true := by simp [hE0]
        have g3 : (E == 7) = true := by simp [hE0]
        have g4 : (st != 1) = true := by have h := hag; rw [HST.out] at h; simp [h]
        have q1 : w4.cell? ⟨tb, 0, none⟩ = some (.slice (some ⟨xb, xo, none⟩) n cx) := by rw [cell_of HTB4.out.bx]; rfl
        have q2 := HSC.out w4 HWW4.out
        clear hE hag hE0
        go_wp2_with fail
        go_ret
        exact ⟨rfl, HF4.out⟩
      · have hE0 : E = 9 := by rw [HE.out]; exact hE
        have g1 : (E == 9) = true := by simp [hE0]
        have hmp : 0 < m := by
          rw [HM.out, HWHO.out]
          exact List.length_pos_iff.2 hag
        have hnu0 : nu = 0 := HNU.out (by rw [hE0]; decide)
        subst hnu0
        have HWI : Hid (∀ W (k of : Int), TxsAt W (some ⟨xb, xo, none⟩) X → Calls Try.prog 17 #[.agg #[.slice (some ⟨xb, xo, none⟩) n cx, .int .i64 clk], .int .i64 k, .int .i64 of] W fun e w' => e = .returned (.bool (withinB X k of)) ∧ Fr F0 W w') := Lib.hid (fun W k of hW => by
          have h5 := within_c (w := W) cx clk k of hW HGN.out.len
          rw [← HN.out] at h5
          exact h5)
        clear hE hag hE0
        go_wp2_with fail
        go_loopg [18, 19] m (fun kq x18 x19 wr => ∃ i : Nat, i ≤ m ∧ kq = m - i ∧ x18 = .int .i64 (i : Int) ∧ Fr F0 w4 wr)
        case atStart => exact ⟨0, by omega, rfl, rfl, Fr.refl _ _⟩
        case round =>
          obtain ⟨i, hi, rfl, rfl, hf⟩ := hrel
          have HF := Lib.hid hf
          clear hf
          have i0 : (0 : Int) ≤ (i : Int) := Int.natCast_nonneg _
          by_cases hlt : i < m
          · have i1 : (i : Int) < (m : Int) := by omega
            obtain ⟨z, hz⟩ : ∃ z, who[i]? = some z := ⟨who[i]'(by rw [← HM.out]; exact hlt), List.getElem?_eq_getElem _⟩
            obtain ⟨wb, wo, rfl, hc⟩ := (HV4.out.keep0 HF.out).plain (by rw [List.length_map, ← HM.out]; omega)
            have gx : wr.cell? ⟨wb, wo + i, none⟩ = some (.int .i64 z) := hc i _ (by simp [hz])
            have HZC : Hid (∀ wz, Fr F0 wr wz → wz.cell? ⟨wb, wo + i, none⟩ = some (.int .i64 z)) := Lib.hid (fun wz hf => (World.cell?_of_block (w := wr) (hf.block _ (World.block_lt_of_cell? _ _ gx) (fun h => h))).trans gx)
            have hget := against_get HGN.out.sane (by rw [← HWHO.out]; exact hz)
            have HNW := Lib.hid hget.1
            obtain ⟨fl, hfl⟩ : ∃ fl, fl = findL L z (bq : Int) := ⟨_, rfl⟩
            have hmx := hget.2
            rw [← hfl] at hmx
            obtain ⟨f1, f2, g3, g4⟩ := fl
            have HFL : Hid (findL L z (bq : Int) = ⟨f1, f2, g3, g4⟩) := Lib.hid hfl.symm
            have HMX : Hid ((max g3 g4 == 0) = false) := Lib.hid (by simpa using hmx)
            have HTW := Lib.hid (HTB4.out.keep0 HF.out)
            clear hz hc gx hget hfl hmx
            go_wp2_with fail
            refine wp_region_last (S := F0) [false, false, false, false, false, false, false, false, false, false, false, false, false, false, false, false, false, false, false, true, false, false, false, false, false, false, false, false, false, false, false, false, false, false, false, false, false, false, false, false, false, false, false, false, false, false, false, false, false, false, false, false, false, false, false, false, false, false, false, false, false, false, false, false, false, false, false, false, false, false, false, false, false, true, true, true, true, true, true, true, false, false, false, false, false, false, false, false, false, false, false, false, false, false, false, false, false, false, false, false, false, false, false, false, false, false, false, false, false, false, false, false, false, false, false, false, false, false, false, false, false, false, false, false, false, false, false, false, false, false, false, false, false, false, false, false, false, false, false, false, false, false, false, false, false, false, false, false, false, false, false, false, false, false, false, false, false, false, false, false, false, false, false, false, false, false, false, false, false, false, false, false, false, false, false, false, false, false, false, false, false] [.eq (.agg #[.slice At nt ct]), .eq (.slice (some ⟨wb, wo, none⟩) m cw), .eq (.int .i64 (i : Int)), .eq (.pointer (some ⟨wb, wo + i, none⟩)), .eq (.int .i64 z), .eq (.int .i64 (bq : Int)), .eq (.agg #[.int .i64 f1, .int .i64 f2, .int .i64 g3, .int .i64 g4]), ⟨fun v w1 => ∃ b, v = .pointer (some ⟨b, 0, none⟩) ∧ wr.heap.size ≤ b ∧ w1.heap[b]? = some (.cells #[.int .i64 0, .int .i64 0, .int .i64 0, .int .i64 0] 45 (0, 0)), fun v w1 w2 ⟨b, h1, h2, h3⟩ hf => ⟨b, h1, h2, hf.keep0 h3⟩⟩, .any] (by kernel_rfl) (by kernel_rfl) (by rfl) (by rfl) (by kernel_rfl) (fun us => ?steps) (fun us wz hG hall => ?fin)
            case steps =>
              simp only [fillL, Nat.reduceAdd]
              refine stepsHold.cons (fun wx hG hd K hK => ?_) ?_
              · rw [if_pos (wanted_none rfl)]
                have hc : wx.cell? ⟨tb + 1, 0, none⟩ = some (.slice At nt ct) := by rw [cell_of (hG.keep0 HTW.out.bt)]; rfl
                refine wp_value (w2 := wx) (v := .agg #[.slice At nt ct]) ?_ (hK _ _ rfl (Fr.refl _ _))
                clear hd hK
                go_simp
              refine stepsHold.cons (fun wx hG hd K hK => ?_) ?_
              · rw [if_pos (wanted_none rfl)]
                refine wp_value (w2 := wx) (v := .slice (some ⟨wb, wo, none⟩) m cw) ?_ (hK _ _ rfl (Fr.refl _ _))
                clear hd hG hK
                go_simp
              refine stepsHold.cons (fun wx hG hd K hK => ?_) ?_
              · rw [if_pos (wanted_none rfl)]
                refine wp_value (w2 := wx) (v := .int .i64 (i : Int)) ?_ (hK _ _ rfl (Fr.refl _ _))
                clear hd hG hK
                go_simp
              refine stepsHold.cons (fun wx hG hd K hK => ?_) ?_
              · have h74 : us 74 = (.slice (some ⟨wb, wo, none⟩) m cw) := deps_get hd 0 rfl rfl rfl rfl rfl
                have h75 : us 75 = (.int .i64 (i : Int)) := deps_get hd 1 rfl rfl rfl rfl rfl
                rw [if_pos (wanted_none rfl)]
                refine wp_value (w2 := wx) (v := .pointer (some ⟨wb, wo + i, none⟩)) ?_ (hK _ _ rfl (Fr.refl _ _))
                clear hd hG hK
                go_simp
              refine stepsHold.cons (fun wx hG hd K hK => ?_) ?_
              · have h76 : us 76 = (.pointer (some ⟨wb, wo + i, none⟩)) := deps_get hd 0 rfl rfl rfl rfl rfl
                rw [if_pos (wanted_none rfl)]
                have hc := HZC.out wx hG
                refine wp_value (w2 := wx) (v := .int .i64 z) ?_ (hK _ _ rfl (Fr.refl _ _))
                clear hd hK
                go_simp
              refine stepsHold.cons (fun wx hG hd K hK => ?_) ?_
              · rw [if_pos (wanted_none rfl)]
                refine wp_value (w2 := wx) (v := .int .i64 (bq : Int)) ?_ (hK _ _ rfl (Fr.refl _ _))
                clear hd hG hK
                go_simp
              refine stepsHold.cons (fun wx hG hd K hK => ?_) ?_
              · have h73 : us 73 = (.agg #[.slice At nt ct]) := deps_get hd 0 rfl rfl rfl rfl rfl
                have h77 : us 77 = (.int .i64 z) := deps_get hd 1 rfl rfl rfl rfl rfl
                have h78 : us 78 = (.int .i64 (bq : Int)) := deps_get hd 2 rfl rfl rfl rfl rfl
                rw [if_pos (wanted_none rfl)]
                refine wp_call (w2 := wx) (f := 19) (args := #[.agg #[.slice At nt ct], .int .i64 z, .int .i64 (bq : Int)]) ?_ ?_
                · clear hd hK
                  go_simp
                · refine ((find_c (w := wx) z (bq : Int) (HTW.out.st.keep0 hG) HNT1.out)).mono ?_
                  rintro e w9 ⟨rfl, hf⟩
                  rw [HFL.out]
                  exact ⟨_, rfl, hK _ _ rfl hf⟩
              refine stepsHold.cons (fun wx hG hd K hK => ?_) ?_
              · rw [if_pos (wanted_none rfl)]
                refine wp_value (w2 := wx.alloc (.cells #[.int .i64 0, .int .i64 0, .int .i64 0, .int .i64 0] 45)) (v := .pointer (some ⟨wx.heap.size, 0, none⟩)) ?_ (hK _ _ ⟨_, rfl, hG.size, alloc_at rfl _⟩ ((Fr.refl _ _).alloc _))
                clear hd hG hK
                go_simp
              exact stepsHold.nil
            case fin =>
              have h73 : us 73 = (.agg #[.slice At nt ct]) := all_get hall 0 rfl rfl rfl
              have h74 : us 74 = (.slice (some ⟨wb, wo, none⟩) m cw) := all_get hall 1 rfl rfl rfl
              have h75 : us 75 = (.int .i64 (i : Int)) := all_get hall 2 rfl rfl rfl
              have h76 : us 76 = (.pointer (some ⟨wb, wo + i, none⟩)) := all_get hall 3 rfl rfl rfl
              have h77 : us 77 = (.int .i64 z) := all_get hall 4 rfl rfl rfl
              have h78 : us 78 = (.int .i64 (bq : Int)) := all_get hall 5 rfl rfl rfl
              have h79 : us 79 = (.agg #[.int .i64 f1, .int .i64 f2, .int .i64 g3, .int .i64 g4]) := all_get hall 6 rfl rfl rfl
              have h19 := all_get hall 7 rfl rfl rfl
              simp only [fillL, Nat.reduceAdd]
              clear hall
              simp only [h73, h74, h75, h76, h77, h78, h79]
              clear h73 h74 h75 h76 h77 h78 h79
              obtain ⟨b19, e19, hb19, hc19⟩ := h19
              refine wp_store_at 45 (.tmp 19) (.tmp 79) rfl b19 0 [.int .i64 f1, .int .i64 f2, .int .i64 g3, .int .i64 g4] (by exact e19) (by rfl) 45 [.int .i64 0, .int .i64 0, .int .i64 0, .int .i64 0] hc19 size_lock (Nat.le_refl 4) (by simp [Value.oneCell']) ?_
              obtain ⟨W6, hW6⟩ : ∃ W6, W6 = wz.setRow b19 (splat [.int .i64 0, .int .i64 0, .int .i64 0, .int .i64 0] 0 [.int .i64 f1, .int .i64 f2, .int .i64 g3, .int .i64 g4]).toArray := ⟨_, rfl⟩
              have hf6 : Fr (fun b => b = b19) wz W6 := by rw [hW6]; exact (Fr.refl _ _).setRow (by exact .inl rfl) _
              have hf06 : Fr F0 wr W6 := hG.trans hf6 (fun b hb => .inr (by rw [hb]; exact hb19))
              have H19 : Hid (W6.heap[b19]? = some (.cells #[.int .i64 f1, .int .i64 f2, .int .i64 g3, .int .i64 g4] 45 (0, 0))) := Lib.hid (by rw [hW6, setRow_heap _ _ _ _ _ _ hc19]; rfl)
              have HF6 := Lib.hid (HF.out.then0 hf06)
              have HTZ := Lib.hid (HTW.out.keep0 hf06)
              have HXZ := Lib.hid (HXR.out.keep0 ((HWW4.out.then0 HF.out).then0 hf06))
              have HZC4 : Hid (∀ wz, Fr F0 W6 wz → wz.cell? ⟨wb, wo + i, none⟩ = some (.int .i64 z)) := Lib.hid (fun wz hf => HZC.out wz (hf06.then0 hf))
              rw [← hW6, e19]
              clear hW6 hf6 hf06 hG e19 hb19 hc19
              go_wp2_with fail
              refine wp_region_free (S := F0) [false, false, false, false, false, false, false, false, false, false, false, false, false, false, false, false, false, false, false, false, false, false, false, false, false, false, false, false, false, false, false, false, false, false, false, false, false, false, false, false, false, false, false, false, false, false, false, false, false, false, false, false, false, false, false, false, false, false, false, false, false, false, false, false, false, false, false, false, false, false, false, false, false, false, false, false, false, false, false, false, true, true, true, true, true, true, true, true, true, true, true, true, true, true, true, false, false, false, false, false, false, false, false, false, false, false, false, false, false, false, false, false, false, false, false, false, false, false, false, false, false, false, false, false, false, false, false, false, false, false, false, false, false, false, false, false, false, false, false, false, false, false, false, false, false, false, false, false, false, false, false, false, false, false, false, false, false, false, false, false, false, false, false, false, false, false, false, false, false, false, false, false, false, false, false, false, false, false, false, false, false] [.eq (.pointer (some ⟨b19, 2, none⟩)), .eq (.int .i64 g3), .eq (.pointer (some ⟨b19, 3, none⟩)), .eq (.int .i64 g4), .eq (.int .i64 (max g3 g4)), .eq (.bool false), .eq (.bool false), .eq (.agg #[.slice (some ⟨xb, xo, none⟩) n cx, .int .i64 clk]), .eq (.int .i64 (k : Int)), .eq (.slice (some ⟨wb, wo, none⟩) m cw), .eq (.int .i64 (i : Int)), .eq (.pointer (some ⟨wb, wo + i, none⟩)), .eq (.int .i64 z), .eq (.bool false), .eq (.bool false)] (by kernel_rfl) (by kernel_rfl) (by rfl) (fun us => ?steps) (fun us wz hG hall => ?fin)
              case steps =>
                simp only [fillL, Nat.reduceAdd]
                refine stepsHold.cons (fun wx hG hd K hK => ?_) ?_
                · rw [if_pos (wanted_none rfl)]
                  refine wp_value (w2 := wx) (v := .pointer (some ⟨b19, 2, none⟩)) ?_ (hK _ _ rfl (Fr.refl _ _))
                  clear hd hG hK
                  go_simp
                refine stepsHold.cons (fun wx hG hd K hK => ?_) ?_
                · have h80 : us 80 = (.pointer (some ⟨b19, 2, none⟩)) := deps_get hd 0 rfl rfl rfl rfl rfl
                  rw [if_pos (wanted_none rfl)]
                  have hc : wx.cell? ⟨b19, 2, none⟩ = some (.int .i64 g3) := by rw [cell_of (hG.keep0 H19.out)]; rfl
                  refine wp_value (w2 := wx) (v := .int .i64 g3) ?_ (hK _ _ rfl (Fr.refl _ _))
                  clear hd hK
                  go_simp
                refine stepsHold.cons (fun wx hG hd K hK => ?_) ?_
                · rw [if_pos (wanted_none rfl)]
                  refine wp_value (w2 := wx) (v := .pointer (some ⟨b19, 3, none⟩)) ?_ (hK _ _ rfl (Fr.refl _ _))
                  clear hd hG hK
                  go_simp
                refine stepsHold.cons (fun wx hG hd K hK => ?_) ?_
                · have h82 : us 82 = (.pointer (some ⟨b19, 3, none⟩)) := deps_get hd 0 rfl rfl rfl rfl rfl
                  rw [if_pos (wanted_none rfl)]
                  have hc : wx.cell? ⟨b19, 3, none⟩ = some (.int .i64 g4) := by rw [cell_of (hG.keep0 H19.out)]; rfl
                  refine wp_value (w2 := wx) (v := .int .i64 g4) ?_ (hK _ _ rfl (Fr.refl _ _))
                  clear hd hK
                  go_simp
                refine stepsHold.cons (fun wx hG hd K hK => ?_) ?_
                · have h81 : us 81 = (.int .i64 g3) := deps_get hd 0 rfl rfl rfl rfl rfl
                  have h83 : us 83 = (.int .i64 g4) := deps_get hd 1 rfl rfl rfl rfl rfl
                  rw [if_pos (wanted_none rfl)]
                  refine wp_value (w2 := wx) (v := .int .i64 (max g3 g4)) ?_ (hK _ _ rfl (Fr.refl _ _))
                  clear hd hG hK
                  go_simp
                refine stepsHold.cons (fun wx hG hd K hK => ?_) ?_
                · have h84 : us 84 = (.int .i64 (max g3 g4)) := deps_get hd 0 rfl rfl rfl rfl rfl
                  rw [if_pos (wanted_none rfl)]
                  have hw := HMX.out
                  refine wp_value (w2 := wx) (v := .bool false) ?_ (hK _ _ rfl (Fr.refl _ _))
                  clear hd hG hK
                  go_simp
                refine stepsHold.cons (fun wx hG hd K hK => ?_) ?_
                · have h85 : us 85 = (.bool false) := deps_get hd 0 rfl rfl rfl rfl rfl
                  rw [if_pos (wanted_none rfl)]
                  refine wp_value (w2 := wx) (v := .bool false) ?_ (hK _ _ rfl (Fr.refl _ _))
                  clear hd hG hK
                  go_simp
                refine stepsHold.cons (fun wx hG hd K hK => ?_) ?_
                · have h86 : us 86 = (.bool false) := deps_get hd 0 rfl rfl rfl rfl rfl
                  rw [if_pos (wanted_yes rfl rfl rfl rfl h86)]
                  have hc : wx.cell? ⟨tb, 0, none⟩ = some (.slice (some ⟨xb, xo, none⟩) n cx) := by rw [cell_of (hG.keep0 HTZ.out.bx)]; rfl
                  have hc1 : wx.cell? ⟨tb, 1, none⟩ = some (.int .i64 clk) := by rw [cell_of (hG.keep0 HTZ.out.bx)]; rfl
                  refine wp_value (w2 := wx) (v := .agg #[.slice (some ⟨xb, xo, none⟩) n cx, .int .i64 clk]) ?_ (hK _ _ rfl (Fr.refl _ _))
                  clear hd hK
                  go_simp
                refine stepsHold.cons (fun wx hG hd K hK => ?_) ?_
                · have h86 : us 86 = (.bool false) := deps_get hd 0 rfl rfl rfl rfl rfl
                  rw [if_pos (wanted_yes rfl rfl rfl rfl h86)]
                  refine wp_value (w2 := wx) (v := .int .i64 (k : Int)) ?_ (hK _ _ rfl (Fr.refl _ _))
                  clear hd hG hK
                  go_simp
                refine stepsHold.cons (fun wx hG hd K hK => ?_) ?_
                · have h86 : us 86 = (.bool false) := deps_get hd 0 rfl rfl rfl rfl rfl
                  rw [if_pos (wanted_yes rfl rfl rfl rfl h86)]
                  refine wp_value (w2 := wx) (v := .slice (some ⟨wb, wo, none⟩) m cw) ?_ (hK _ _ rfl (Fr.refl _ _))
                  clear hd hG hK
                  go_simp
                refine stepsHold.cons (fun wx hG hd K hK => ?_) ?_
                · have h86 : us 86 = (.bool false) := deps_get hd 0 rfl rfl rfl rfl rfl
                  rw [if_pos (wanted_yes rfl rfl rfl rfl h86)]
                  refine wp_value (w2 := wx) (v := .int .i64 (i : Int)) ?_ (hK _ _ rfl (Fr.refl _ _))
                  clear hd hG hK
                  go_simp
                refine stepsHold.cons (fun wx hG hd K hK => ?_) ?_
                · have h89 : us 89 = (.slice (some ⟨wb, wo, none⟩) m cw) := deps_get hd 0 rfl rfl rfl rfl rfl
                  have h90 : us 90 = (.int .i64 (i : Int)) := deps_get hd 1 rfl rfl rfl rfl rfl
                  have h86 : us 86 = (.bool false) := deps_get hd 2 rfl rfl rfl rfl rfl
                  rw [if_pos (wanted_yes rfl rfl rfl rfl h86)]
                  refine wp_value (w2 := wx) (v := .pointer (some ⟨wb, wo + i, none⟩)) ?_ (hK _ _ rfl (Fr.refl _ _))
                  clear hd hG hK
                  go_simp
                refine stepsHold.cons (fun wx hG hd K hK => ?_) ?_
                · have h91 : us 91 = (.pointer (some ⟨wb, wo + i, none⟩)) := deps_get hd 0 rfl rfl rfl rfl rfl
                  have h86 : us 86 = (.bool false) := deps_get hd 1 rfl rfl rfl rfl rfl
                  rw [if_pos (wanted_yes rfl rfl rfl rfl h86)]
                  have hc := HZC4.out wx hG
                  refine wp_value (w2 := wx) (v := .int .i64 z) ?_ (hK _ _ rfl (Fr.refl _ _))
                  clear hd hK
                  go_simp
                refine stepsHold.cons (fun wx hG hd K hK => ?_) ?_
                · have h87 : us 87 = (.agg #[.slice (some ⟨xb, xo, none⟩) n cx, .int .i64 clk]) := deps_get hd 0 rfl rfl rfl rfl rfl
                  have h88 : us 88 = (.int .i64 (k : Int)) := deps_get hd 1 rfl rfl rfl rfl rfl
                  have h92 : us 92 = (.int .i64 z) := deps_get hd 2 rfl rfl rfl rfl rfl
                  have h86 : us 86 = (.bool false) := deps_get hd 3 rfl rfl rfl rfl rfl
                  rw [if_pos (wanted_yes rfl rfl rfl rfl h86)]
                  refine wp_call (w2 := wx) (f := 17) (args := #[.agg #[.slice (some ⟨xb, xo, none⟩) n cx, .int .i64 clk], .int .i64 (k : Int), .int .i64 z]) ?_ ?_
                  · clear hd hK
                    go_simp
                  · refine ((HWI.out wx (k : Int) z (HXZ.out.keep0 hG))).mono ?_
                    rintro e w9 ⟨rfl, hf⟩
                    rw [HNW.out]
                    exact ⟨_, rfl, hK _ _ rfl hf⟩
                refine stepsHold.cons (fun wx hG hd K hK => ?_) ?_
                · have h86 : us 86 = (.bool false) := deps_get hd 0 rfl rfl rfl rfl rfl
                  have h93 : us 93 = (.bool false) := deps_get hd 1 rfl rfl rfl rfl rfl
                  rw [if_pos (wanted_none rfl)]
                  refine wp_value (w2 := wx) (v := .bool false) ?_ (hK _ _ rfl (Fr.refl _ _))
                  clear hd hG hK
                  go_simp
                exact stepsHold.nil
              case fin =>
                have h80 : us 80 = (.pointer (some ⟨b19, 2, none⟩)) := all_get hall 0 rfl rfl rfl
                have h81 : us 81 = (.int .i64 g3) := all_get hall 1 rfl rfl rfl
                have h82 : us 82 = (.pointer (some ⟨b19, 3, none⟩)) := all_get hall 2 rfl rfl rfl
                have h83 : us 83 = (.int .i64 g4) := all_get hall 3 rfl rfl rfl
                have h84 : us 84 = (.int .i64 (max g3 g4)) := all_get hall 4 rfl rfl rfl
                have h85 : us 85 = (.bool false) := all_get hall 5 rfl rfl rfl
                have h86 : us 86 = (.bool false) := all_get hall 6 rfl rfl rfl
                have h87 : us 87 = (.agg #[.slice (some ⟨xb, xo, none⟩) n cx, .int .i64 clk]) := all_get hall 7 rfl rfl rfl
                have h88 : us 88 = (.int .i64 (k : Int)) := all_get hall 8 rfl rfl rfl
                have h89 : us 89 = (.slice (some ⟨wb, wo, none⟩) m cw) := all_get hall 9 rfl rfl rfl
                have h90 : us 90 = (.int .i64 (i : Int)) := all_get hall 10 rfl rfl rfl
                have h91 : us 91 = (.pointer (some ⟨wb, wo + i, none⟩)) := all_get hall 11 rfl rfl rfl
                have h92 : us 92 = (.int .i64 z) := all_get hall 12 rfl rfl rfl
                have h93 : us 93 = (.bool false) := all_get hall 13 rfl rfl rfl
                have h94 : us 94 = (.bool false) := all_get hall 14 rfl rfl rfl
                simp only [fillL, Nat.reduceAdd]
                clear hall
                simp only [h80, h81, h82, h83, h84, h85, h86, h87, h88, h89, h90, h91, h92, h93, h94]
                clear h80 h81 h82 h83 h84 h85 h86 h87 h88 h89 h90 h91 h92 h93 h94
                have HFZ := Lib.hid (HF6.out.then0 hG)
                clear hG
                go_wp2_with fail
                go_roundg (m - (i + 1))
                case measure => omega
                case rel => exact ⟨i + 1, by omega, rfl, by first | rfl | (go_num), HFZ.out⟩
          · have hin : i = m := by omega
            subst hin
            have i1 : (0 : Int) < (i : Int) := by omega
            have q3 : wr.cell? ⟨b15, 0, none⟩ = some (.slice Au 0 cu) := by rw [cell_of (HF.out.keep0 H154.out)]; rfl
            have HF9 := Lib.hid (HF4.out.then0 HF.out)
            go_wp2_with fail
            go_ret
            exact ⟨rfl, HF9.out⟩
end
end Go.Proofs.Ytgbaijfgmeealaa
