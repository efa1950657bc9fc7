/-
  Layer 10: LocksPass, the walk. Conditions: none.
-/
import Derived.Test.YtgbaijfgmeealaaP10d
import Derived.Test.YtgbaijfgmeealaaL10c
set_option linter.unusedVariables false
set_option linter.unusedSimpArgs false
namespace Go.Proofs.Ytgbaijfgmeealaa
open Go.RowKit
theorem chain_in (k : Nat) (hk : 1 ≤ k) : isId (chain k) ((k : Int) - 1) = true := by rw [isId_iff, chain_len]; omega
theorem chain_live (k : Nat) (hk : 1 ≤ k) : stateOf (chain k) ((k : Int) - 1) = 1 := by
  have h := chain_state (j := k) (i := k - 1) (by omega)
  have e : ((k - 1 : Nat) : Int) = (k : Int) - 1 := by omega
  rwa [e] at h
section
variable {w : World}
set_option maxRecDepth 100000 in
set_option maxHeartbeats 8000000 in
theorem pass_walk (nn : Int) (A1 : Option Addr) (N cA : Nat) (zs : List Int) (hl : zs.length = N) (hA : ValsAt w A1 (zs.map (Value.int .i64))) (hN : N ≤ 9223372036854775807) : Calls Try.prog 4 #[.int .i64 nn, .slice A1 N cA] w fun e w' => e = .returned (.bool true) ∧ Fr F0 w w' := by
  have HV := Lib.hid hA
  have HZL := Lib.hid hl
  have N0 : (0 : Int) ≤ (N : Int) := Int.natCast_nonneg _
  obtain ⟨r, hr⟩ : ∃ r : Nat, nn % 8 = (r : Int) := ⟨(nn % 8).toNat, by omega⟩
  have hr8 : r < 8 := by omega
  have hbandr : bits .and .i64 nn 7 = (r : Int) := by rw [← hr]; exact i64_and nn 3 (by decide)
  obtain ⟨k, hk⟩ : ∃ k : Nat, k = 1 + r := ⟨_, rfl⟩
  have hk1 : 1 ≤ k := by omega
  have hk9 : k < 9 := by omega
  have hr1 : IntKind.i64.wrap (1 + (r : Int)) = (k : Int) := by rw [IntKind.wrap_i64]; omega
  clear hr hk hA hl
  go_enter Try.func4, Try.ntmps4
  go_wp2_with fail
  refine (awake10_c).mono ?_
  rintro e w1 ⟨rfl, hf1⟩
  have HF1 := Lib.hid hf1
  clear hf1
  by_cases hbig : 30 < N
  · have hb1 : (30 : Int) < (N : Int) := by omega
    go_wp2_with fail
    go_ret
    exact ⟨rfl, HF1.out⟩
  have hb1 : ¬ (30 : Int) < (N : Int) := by omega
  go_wp2_with fail
  obtain ⟨tb, htb⟩ : ∃ tb, tb = w1.heap.size := ⟨_, rfl⟩
  have htw : w.heap.size ≤ tb := by rw [htb]; exact HF1.out.size
  have HW1 : Hid ((w1.alloc (.cells #[.slice none 0 0, .int .i64 0] 25)).heap[tb]? = some (.cells #[.slice none 0 0, .int .i64 0] 25 (0, 0))) := Lib.hid (alloc_at htb _)
  have HFA : Hid (Fr F0 w (w1.alloc (.cells #[.slice none 0 0, .int .i64 0] 25))) := Lib.hid (HF1.out.alloc _)
  rw [← htb]
  clear htb
  have kn : (0 : Int) ≤ (k : Int) := Int.natCast_nonneg _
  go_loopg [8, 9, 10, 11] k (fun kq x8 x9 x10 x11 wr => ∃ (j : Nat) (vj : Value), j ≤ k ∧ kq = k - j ∧ x8 = .int .i64 (j : Int) ∧ SlV 4 Tx9.cells wr vj (chain j) ∧ wr.heap[tb]? = some (.cells #[vj, .int .i64 (j : Int)] 25 (0, 0)) ∧ Grn (chain j) [] ∧ Fr F0 w wr)
  case atStart => exact ⟨0, .slice none 0 0, by omega, rfl, rfl, SlV.nil _ _ _, HW1.out, Grn.nil, HFA.out⟩
  case round =>
    obtain ⟨j, vj, hj, rfl, rfl, hsj, hbj, hgj, hf⟩ := hrel
    have HS := Lib.hid hsj
    have HB := Lib.hid hbj
    have HGN := Lib.hid hgj
    have HF := Lib.hid hf
    obtain ⟨Aj, cj, rfl⟩ := hsj.exn (n := j) (chain_len j)
    have j0 : (0 : Int) ≤ (j : Int) := Int.natCast_nonneg _
    by_cases hlt : j < k
    · have j1 : (j : Int) < (k : Int) := by omega
      have kt : wr.cell? ⟨tb, 0, none⟩ = some (.slice Aj j cj) := by rw [cell_of hbj]; rfl
      have kt1 : wr.cell? ⟨tb, 1, none⟩ = some (.int .i64 (j : Int)) := by rw [cell_of hbj]; rfl
      have hjw : IntKind.i64.wrap ((j : Int) - 1) = (j : Int) - 1 := by rw [IntKind.wrap_i64]; omega
      have HP : Hid ((j : Int) - 1 = -1 ∨ isId (chain j) ((j : Int) - 1) = true) := Lib.hid (by
        rcases Nat.eq_zero_or_pos j with h | h
        · left; omega
        · right; exact chain_in j h)
      clear hsj hbj hf hgj
      go_wp2_with fail
      refine (begin_c (L := chain j) j ((j : Int) - 1) HS.out (by rw [chain_len]; omega) HGN.out.falls HP.out (by omega) (by omega)).mono ?_
      intro e w2 hbr
      cases hbr with
      | no h he hf => exact absurd (chain_begin j (by omega)) h
      | yes h v2 he hs2 hf2 =>
      subst he
      rw [chain_succ] at hs2
      have HGN2 : Hid (Grn (chain (j + 1)) []) := Lib.hid (by rw [← chain_succ]; exact HGN.out.begin HP.out h)
      obtain ⟨A2, c2, rfl⟩ := hs2.exn (n := j + 1) (chain_len _)
      obtain ⟨W2, hW2⟩ : ∃ W2, W2 = w2.alloc (.cells #[.slice A2 (j + 1) c2, .int .i64 ((j : Int) + 1)] 25) := ⟨_, rfl⟩
      have hfW : Fr F0 w2 W2 := by rw [hW2]; exact (Fr.refl _ _).alloc _
      have HS2 := Lib.hid (hs2.keep0 hfW)
      have HB2 := Lib.hid (hfW.keep0 (hf2.keep0 HB.out))
      have HF2 := Lib.hid ((HF.out.then0 hf2).then0 hfW)
      have HW2 := Lib.hid hW2
      clear hs2 hf2 hfW kt kt1 h hW2
      go_wp2_with (refine wpList_store_at rfl 25 (.tmp 7) (.tmp 42) rfl tb 0 [.slice A2 (j + 1) c2, .int .i64 ((j : Int) + 1)] (by rfl) (by rfl) 25 [.slice Aj j cj, .int .i64 (j : Int)] (by rw [← HW2.out]; exact HB2.out) size_tree (Nat.le_refl 2) (tree_one _ _ _ _) ?_; rw [← HW2.out])
      obtain ⟨hb3, hf3⟩ := tree_box (v' := .slice A2 (j + 1) c2) (clk' := (j : Int) + 1) rfl HB2.out
      have hs3 := HS2.out.box Tx9.len HB2.out (by show 2 < 4; decide) hf3
      have hf4 := HF2.out.trans hf3 (fun x hx => .inr (by omega))
      go_roundg (k - (j + 1))
      case measure => omega
      case rel => exact ⟨j + 1, .slice A2 (j + 1) c2, by omega, rfl, by first | rfl | (go_num), hs3, hb3, HGN2.out, hf4⟩
    · have hjk : j = k := by omega
      subst hjk
      clear hsj hbj hf hgj
      go_wp2_with fail
      obtain ⟨ta, hta⟩ : ∃ ta, ta = wr.heap.size := ⟨_, rfl⟩
      have hba : tb < ta := by rw [hta]; exact lt_of_block HB.out
      have HTA0 : Hid ((wr.alloc (.cells #[.slice none 0 0] 31)).heap[ta]? = some (.cells #[.slice none 0 0] 31 (0, 0))) := Lib.hid (alloc_at hta _)
      have HB1 : Hid ((wr.alloc (.cells #[.slice none 0 0] 31)).heap[tb]? = some (.cells #[.slice Aj j cj, .int .i64 (j : Int)] 25 (0, 0))) := Lib.hid (keep_alloc HB.out _)
      have HS1 : Hid (SlV 4 Tx9.cells (wr.alloc (.cells #[.slice none 0 0] 31)) (.slice Aj j cj) (chain j)) := Lib.hid (HS.out.keep0 ((Fr.refl _ _).alloc _))
      have HF2 : Hid (Fr F0 w (wr.alloc (.cells #[.slice none 0 0] 31))) := Lib.hid (HF.out.alloc _)
      rw [← hta]
      clear hta HS HB HF
      have HX64 : Hid ((chain j).length ≤ 64) := Lib.hid (by rw [chain_len]; omega)
      have HK1 : Hid (IntKind.i64.wrap ((j : Int) - 1) = (j : Int) - 1) := Lib.hid (by rw [IntKind.wrap_i64]; omega)
      go_loopg [13, 14, 15] N (fun kq x13 x14 x15 wr => ∃ (i : Nat) (vt : Value) (L : List Lk), i ≤ N ∧ kq = N - i ∧ x13 = .int .i64 (i : Int) ∧ SlV 4 Lk.cells wr vt L ∧ wr.heap[ta]? = some (.cells #[vt] 31 (0, 0)) ∧ wr.heap[tb]? = some (.cells #[.slice Aj j cj, .int .i64 (j : Int)] 25 (0, 0)) ∧ SlV 4 Tx9.cells wr (.slice Aj j cj) (chain j) ∧ Grn (chain j) L ∧ (∀ l ∈ L, l.tx = (j : Int) - 1) ∧ Fr F0 w wr)
      case atStart => exact ⟨0, .slice none 0 0, [], by omega, rfl, rfl, SlV.nil _ _ _, HTA0.out, HB1.out, HS1.out, HGN.out, by simp, HF2.out⟩
      case round =>
        clear HTA0 HB1 HS1 HF2 HGN
        obtain ⟨i, vt, L, hi, rfl, rfl, hsi, hai, hbi, hxi, hgi, hall, hf⟩ := hrel
        have HSL := Lib.hid hsi
        have HTA := Lib.hid hai
        have HTX := Lib.hid hbi
        have HSX := Lib.hid hxi
        have HGN := Lib.hid hgi
        have HALL := Lib.hid hall
        have HF := Lib.hid hf
        obtain ⟨At, ct, rfl, -⟩ := hsi.ex
        obtain ⟨nt, hnt⟩ : ∃ nt, nt = L.length := ⟨_, rfl⟩
        have HNT := Lib.hid hnt
        rw [← hnt] at HSL HTA
        have i0 : (0 : Int) ≤ (i : Int) := Int.natCast_nonneg _
        have nt0 : (0 : Int) ≤ (nt : Int) := Int.natCast_nonneg _
        have hnt1 : nt ≤ 16384 := by rw [hnt]; exact sane_len hgi.sane
        clear hsi hai hbi hxi hgi hall hf hnt
        by_cases hlt2 : i < N
        · have i1 : (i : Int) < (N : Int) := by omega
          obtain ⟨z, hz⟩ : ∃ z, zs[i]? = some z := ⟨zs[i]'(by rw [HZL.out]; exact hlt2), List.getElem?_eq_getElem _⟩
          obtain ⟨zb, zo, rfl, hc⟩ := (HV.out.keep0 HF.out).plain (by rw [List.length_map, HZL.out]; omega)
          have gx : wr.cell? ⟨zb, zo + i, none⟩ = some (.int .i64 z) := hc i _ (by simp [hz])
          have HZC : Hid (∀ wz, Fr F0 wr wz → wz.cell? ⟨zb, zo + i, none⟩ = some (.int .i64 z)) := Lib.hid (fun wz hf => (World.cell?_of_block (w := wr) (hf.block _ (World.block_lt_of_cell? _ _ gx) (fun h => h))).trans gx)
          obtain ⟨bq, hbq⟩ : ∃ bq : Nat, z % 8 = (bq : Int) := ⟨(z % 8).toNat, by omega⟩
          obtain ⟨mq, hmq⟩ : ∃ mq : Nat, z / 8 % 2 = (mq : Int) := ⟨(z / 8 % 2).toNat, by omega⟩
          have HBQ : Hid (bits .and .i64 z 7 = (bq : Int)) := Lib.hid (by rw [← hbq]; exact i64_and z 3 (by decide))
          have HSH : Hid (True) := Lib.hid trivial
          have HMQ : Hid (bits .and .i64 (z / 8) 1 = (mq : Int)) := Lib.hid (by rw [← hmq]; exact i64_and (z / 8) 1 (by decide))
          have HM1 : Hid (IntKind.i64.wrap (1 + (mq : Int)) = 1 + (mq : Int)) := Lib.hid (by rw [IntKind.wrap_i64]; omega)
          have HB0 : Hid ((0 : Int) ≤ (bq : Int)) := Lib.hid (by omega)
          have HB1 : Hid ((bq : Int) < 256) := Lib.hid (by omega)
          have HMM : Hid (1 + (mq : Int) = 1 ∨ 1 + (mq : Int) = 2) := Lib.hid (by omega)
          obtain ⟨lim, hlim⟩ : ∃ lim, lim = wr.heap.size := ⟨_, rfl⟩
          have HLW := Lib.hid hlim
          have HLIM : Hid (∀ wx, Fr (fun k => lim ≤ k) wr wx → Fr F0 wr wx) := Lib.hid (fun wx h => (Fr.refl F0 wr).trans h (fun x hx => .inr (by rw [← hlim]; exact hx)))
          have HLA : Hid (¬ lim ≤ ta) := Lib.hid (by have := lt_of_block HTA.out; omega)
          have HLB : Hid (¬ lim ≤ tb) := Lib.hid (by have := lt_of_block HTX.out; omega)
          have HSA := Lib.hid HGN.out.sane
          have HL100 : Hid (L.length ≤ 100000) := Lib.hid (by have := sane_len HGN.out.sane; omega)
          have he0 : askE (chain j) L ((j : Int) - 1) (bq : Int) (1 + (mq : Int)) = 0 := ask_alone HGN.out.falls (chain_in j hk1) (chain_live j hk1) HALL.out
          obtain ⟨E, hE⟩ : ∃ E, E = askE (chain j) L ((j : Int) - 1) (bq : Int) (1 + (mq : Int)) := ⟨_, rfl⟩
          obtain ⟨X, hX⟩ : ∃ X, X = chain j := ⟨_, rfl⟩
          have HXE := Lib.hid hX
          have HE0 : Hid (E = 0) := Lib.hid (by rw [hE, he0])
          obtain ⟨G, hGG⟩ : ∃ G, G = askL L ((j : Int) - 1) (bq : Int) (1 + (mq : Int)) := ⟨_, rfl⟩
          have HE : Hid (askE X L ((j : Int) - 1) (bq : Int) (1 + (mq : Int)) = E) := Lib.hid (by rw [hX]; exact hE.symm)
          have HX64 : Hid (X.length ≤ 64) := Lib.hid (by rw [hX]; exact HX64.out)
          rw [← hX] at HSX
          have HGG : Hid (askL L ((j : Int) - 1) (bq : Int) (1 + (mq : Int)) = G) := Lib.hid hGG.symm
          have HGN2 : Hid (Grn (chain j) G) := Lib.hid (by rw [hGG]; exact HGN.out.ask ⟨HB0.out, HB1.out⟩ HMM.out he0)
          have HALL2 : Hid (∀ l ∈ G, l.tx = (j : Int) - 1) := Lib.hid (by rw [hGG]; exact ask_all HGN.out.sane.rise HALL.out)
          clear hz hc gx hbq hmq hlim hGG he0 hE hX
          go_wp2_with fail
          refine wp_region_turnB (lim := lim) (sz := 4) [false, false, false, false, false, false, false, false, false, false, false, false, false, false, true, true, false, false, false, false, false, false, false, false, false, false, false, false, false, false, false, false, false, false, false, false, false, false, false, false, false, false, false, false, false, false, false, false, false, false, true, true, true, true, true, true, true, true, true, true, true, true, true, true, true, true, true, true, true, true, false, false, false, false, false, false, false, false, false, false, false, false, false, false, false, false, false, false, false, false, false, false, false, false, false, false, false, false, false, false, false, false, false, false, false, false, false] [.eq (.agg #[.slice At nt ct]), .eq (.agg #[.slice Aj j cj, .int .i64 (j : Int)]), .eq (.int .i64 (j : Int)), .eq (.int .i64 ((j : Int) - 1)), .eq (.slice (some ⟨zb, zo, none⟩) N cA), .eq (.int .i64 (i : Int)), .eq (.pointer (some ⟨zb, zo + i, none⟩)), .eq (.int .i64 z), .eq (.int .i64 (bq : Int)), .eq (.slice (some ⟨zb, zo, none⟩) N cA), .eq (.int .i64 (i : Int)), .eq (.pointer (some ⟨zb, zo + i, none⟩)), .eq (.int .i64 z), .eq (.int .i64 (z / 8)), .eq (.int .i64 (mq : Int)), .eq (.int .i64 (1 + (mq : Int))), ⟨fun v w1 => ∃ A n c, v = .tuple #[.agg #[.slice A n c], .int .i64 E] ∧ (E = 0 → SlV 4 Lk.cells w1 (.slice A n c) G), fun v w1 w2 ⟨A, n, c, h1, h2⟩ hf => ⟨A, n, c, h1, fun e => (h2 e).keepB Lk.len (by decide) hf⟩⟩, ⟨fun v w1 => ∃ A n c, v = .tuple #[.agg #[.slice A n c], .int .i64 E] ∧ (E = 0 → SlV 4 Lk.cells w1 (.slice A n c) G), fun v w1 w2 ⟨A, n, c, h1, h2⟩ hf => ⟨A, n, c, h1, fun e => (h2 e).keepB Lk.len (by decide) hf⟩⟩, ⟨fun v w1 => ∃ A n c, v = .agg #[.slice A n c] ∧ (E = 0 → SlV 4 Lk.cells w1 (.slice A n c) G), fun v w1 w2 ⟨A, n, c, h1, h2⟩ hf => ⟨A, n, c, h1, fun e => (h2 e).keepB Lk.len (by decide) hf⟩⟩, .eq (.int .i64 E), .any, .any, .eq (.int .i64 E)] (BoxJ 14 lim E G) [none, none, none, none, none, none, none, none, none, none, none, none, none, none, none, none, none, none, none, none, some 0, some 1, none] [14] 2 (by kernel_rfl) (by kernel_rfl) (by rfl) (by kernel_rfl) ?hJ ?hJ0 (fun us => ?steps) (fun us wz hG hJ hall => ?fin)
          case hJ =>
            exact BoxJ.keep 14 lim E G
          case hJ0 =>
            exact fun h => by cases h
          case steps =>
            simp only [fillL, Nat.reduceAdd]
            refine stepsTurnB.cons (fun wx hG hd K hK => ?_) ?_
            · rw [if_pos (wanted_none rfl)]
              have hc : wx.cell? ⟨ta, 0, none⟩ = some (.slice At nt ct) := by rw [cell_of (hG.fr.keep HTA.out HLA.out)]; rfl
              refine wp_value (w2 := wx) (v := .agg #[.slice At nt ct]) ?_ (hK _ _ rfl (Fr.refl _ _))
              clear hd hK
              go_simp
            refine stepsTurnB.cons (fun wx hG hd K hK => ?_) ?_
            · rw [if_pos (wanted_none rfl)]
              have hc : wx.cell? ⟨tb, 0, none⟩ = some (.slice Aj j cj) := by rw [cell_of (hG.fr.keep HTX.out HLB.out)]; rfl
              have hc1 : wx.cell? ⟨tb, 1, none⟩ = some (.int .i64 (j : Int)) := by rw [cell_of (hG.fr.keep HTX.out HLB.out)]; rfl
              refine wp_value (w2 := wx) (v := .agg #[.slice Aj j cj, .int .i64 (j : Int)]) ?_ (hK _ _ rfl (Fr.refl _ _))
              clear hd hK
              go_simp
            refine stepsTurnB.cons (fun wx hG hd K hK => ?_) ?_
            · rw [if_pos (wanted_none rfl)]
              refine wp_value (w2 := wx) (v := .int .i64 (j : Int)) ?_ (hK _ _ rfl (Fr.refl _ _))
              clear hd hG hK
              go_simp
            refine stepsTurnB.cons (fun wx hG hd K hK => ?_) ?_
            · have h53 : us 53 = (.int .i64 (j : Int)) := deps_getB hd 0 rfl rfl rfl rfl rfl
              rw [if_pos (wanted_none rfl)]
              have hw := HK1.out
              refine wp_value (w2 := wx) (v := .int .i64 ((j : Int) - 1)) ?_ (hK _ _ rfl (Fr.refl _ _))
              clear hd hG hK
              go_simp
            refine stepsTurnB.cons (fun wx hG hd K hK => ?_) ?_
            · rw [if_pos (wanted_none rfl)]
              refine wp_value (w2 := wx) (v := .slice (some ⟨zb, zo, none⟩) N cA) ?_ (hK _ _ rfl (Fr.refl _ _))
              clear hd hG hK
              go_simp
            refine stepsTurnB.cons (fun wx hG hd K hK => ?_) ?_
            · rw [if_pos (wanted_none rfl)]
              refine wp_value (w2 := wx) (v := .int .i64 (i : Int)) ?_ (hK _ _ rfl (Fr.refl _ _))
              clear hd hG hK
              go_simp
            refine stepsTurnB.cons (fun wx hG hd K hK => ?_) ?_
            · have h55 : us 55 = (.slice (some ⟨zb, zo, none⟩) N cA) := deps_getB hd 0 rfl rfl rfl rfl rfl
              have h56 : us 56 = (.int .i64 (i : Int)) := deps_getB hd 1 rfl rfl rfl rfl rfl
              rw [if_pos (wanted_none rfl)]
              refine wp_value (w2 := wx) (v := .pointer (some ⟨zb, zo + i, none⟩)) ?_ (hK _ _ rfl (Fr.refl _ _))
              clear hd hG hK
              go_simp
            refine stepsTurnB.cons (fun wx hG hd K hK => ?_) ?_
            · have h57 : us 57 = (.pointer (some ⟨zb, zo + i, none⟩)) := deps_getB hd 0 rfl rfl rfl rfl rfl
              rw [if_pos (wanted_none rfl)]
              have hc := HZC.out wx (HLIM.out wx hG.fr)
              refine wp_value (w2 := wx) (v := .int .i64 z) ?_ (hK _ _ rfl (Fr.refl _ _))
              clear hd hK
              go_simp
            refine stepsTurnB.cons (fun wx hG hd K hK => ?_) ?_
            · have h58 : us 58 = (.int .i64 z) := deps_getB hd 0 rfl rfl rfl rfl rfl
              rw [if_pos (wanted_none rfl)]
              have hw := HBQ.out
              refine wp_value (w2 := wx) (v := .int .i64 (bq : Int)) ?_ (hK _ _ rfl (Fr.refl _ _))
              clear hd hG hK
              go_simp
            refine stepsTurnB.cons (fun wx hG hd K hK => ?_) ?_
            · rw [if_pos (wanted_none rfl)]
              refine wp_value (w2 := wx) (v := .slice (some ⟨zb, zo, none⟩) N cA) ?_ (hK _ _ rfl (Fr.refl _ _))
              clear hd hG hK
              go_simp
            refine stepsTurnB.cons (fun wx hG hd K hK => ?_) ?_
            · rw [if_pos (wanted_none rfl)]
              refine wp_value (w2 := wx) (v := .int .i64 (i : Int)) ?_ (hK _ _ rfl (Fr.refl _ _))
              clear hd hG hK
              go_simp
            refine stepsTurnB.cons (fun wx hG hd K hK => ?_) ?_
            · have h60 : us 60 = (.slice (some ⟨zb, zo, none⟩) N cA) := deps_getB hd 0 rfl rfl rfl rfl rfl
              have h61 : us 61 = (.int .i64 (i : Int)) := deps_getB hd 1 rfl rfl rfl rfl rfl
              rw [if_pos (wanted_none rfl)]
              refine wp_value (w2 := wx) (v := .pointer (some ⟨zb, zo + i, none⟩)) ?_ (hK _ _ rfl (Fr.refl _ _))
              clear hd hG hK
              go_simp
            refine stepsTurnB.cons (fun wx hG hd K hK => ?_) ?_
            · have h62 : us 62 = (.pointer (some ⟨zb, zo + i, none⟩)) := deps_getB hd 0 rfl rfl rfl rfl rfl
              rw [if_pos (wanted_none rfl)]
              have hc := HZC.out wx (HLIM.out wx hG.fr)
              refine wp_value (w2 := wx) (v := .int .i64 z) ?_ (hK _ _ rfl (Fr.refl _ _))
              clear hd hK
              go_simp
            refine stepsTurnB.cons (fun wx hG hd K hK => ?_) ?_
            · have h63 : us 63 = (.int .i64 z) := deps_getB hd 0 rfl rfl rfl rfl rfl
              rw [if_pos (wanted_none rfl)]
              have hw := HSH.out
              refine wp_value (w2 := wx) (v := .int .i64 (z / 8)) ?_ (hK _ _ rfl (Fr.refl _ _))
              clear hd hG hK
              go_simp
            refine stepsTurnB.cons (fun wx hG hd K hK => ?_) ?_
            · have h64 : us 64 = (.int .i64 (z / 8)) := deps_getB hd 0 rfl rfl rfl rfl rfl
              rw [if_pos (wanted_none rfl)]
              have hw := HMQ.out
              refine wp_value (w2 := wx) (v := .int .i64 (mq : Int)) ?_ (hK _ _ rfl (Fr.refl _ _))
              clear hd hG hK
              go_simp
            refine stepsTurnB.cons (fun wx hG hd K hK => ?_) ?_
            · have h65 : us 65 = (.int .i64 (mq : Int)) := deps_getB hd 0 rfl rfl rfl rfl rfl
              rw [if_pos (wanted_none rfl)]
              have hw := HM1.out
              refine wp_value (w2 := wx) (v := .int .i64 (1 + (mq : Int))) ?_ (hK _ _ rfl (Fr.refl _ _))
              clear hd hG hK
              go_simp
            refine stepsTurnB.cons (fun wx hG hd K hK => ?_) ?_
            · have h51 : us 51 = (.agg #[.slice At nt ct]) := deps_getB hd 0 rfl rfl rfl rfl rfl
              have h52 : us 52 = (.agg #[.slice Aj j cj, .int .i64 (j : Int)]) := deps_getB hd 1 rfl rfl rfl rfl rfl
              have h54 : us 54 = (.int .i64 ((j : Int) - 1)) := deps_getB hd 2 rfl rfl rfl rfl rfl
              have h59 : us 59 = (.int .i64 (bq : Int)) := deps_getB hd 3 rfl rfl rfl rfl rfl
              have h66 : us 66 = (.int .i64 (1 + (mq : Int))) := deps_getB hd 4 rfl rfl rfl rfl rfl
              rw [if_pos (wanted_none rfl)]
              refine wp_call (w2 := wx) (f := 12) (args := #[.agg #[.slice At nt ct], .agg #[.slice Aj j cj, .int .i64 (j : Int)], .int .i64 ((j : Int) - 1), .int .i64 (bq : Int), .int .i64 (1 + (mq : Int))]) ?_ ?_
              · clear hd hK
                go_simp
              · refine (ask_c (w := wx) (X := X) (L := L) (j : Int) ((j : Int) - 1) (bq : Int) (1 + (mq : Int)) (HSL.out.keepB Lk.len (by decide) hG) HL100.out HSA.out (HSX.out.keepB Tx9.len (by decide) hG) HX64.out HB0.out HB1.out HMM.out).mono ?_
                intro e w9 har
                obtain ⟨A, n, c, rfl, hs, hf⟩ := har.any2
                rw [HE.out] at hs ⊢
                rw [HGG.out] at hs
                exact ⟨_, rfl, hK _ _ ⟨A, n, c, rfl, hs⟩ hf⟩
            refine stepsTurnB.cons (fun wx hG hd K hK => ?_) ?_
            · have h67 := deps_getB hd 0 rfl rfl rfl rfl rfl
              rw [if_pos (wanted_none rfl)]
              obtain ⟨A, n, c, h67', hs⟩ := h67
              refine wp_value (w2 := wx) (v := .tuple #[.agg #[.slice A n c], .int .i64 E]) ?_ (hK _ _ ⟨_, _, _, rfl, hs⟩ (Fr.refl _ _))
              clear hd hG hK hs
              go_simp
            refine stepsTurnB.cons (fun wx hG hd K hK => ?_) ?_
            · have h50 := deps_getB hd 0 rfl rfl rfl rfl rfl
              rw [if_pos (wanted_none rfl)]
              obtain ⟨A, n, c, h50', hs⟩ := h50
              refine wp_value (w2 := wx) (v := .agg #[.slice A n c]) ?_ (hK _ _ ⟨_, _, _, rfl, hs⟩ (Fr.refl _ _))
              clear hd hG hK hs
              go_simp
            refine stepsTurnB.cons (fun wx hG hd K hK => ?_) ?_
            · have h50 := deps_getB hd 0 rfl rfl rfl rfl rfl
              rw [if_pos (wanted_none rfl)]
              obtain ⟨A, n, c, h50', hs⟩ := h50
              refine wp_value (w2 := wx) (v := .int .i64 E) ?_ (hK _ _ rfl (Fr.refl _ _))
              clear hd hG hK hs
              go_simp
            refine stepsTurnB.cons (fun wx hG hJ hd K hK => ?_) ?_
            · rw [if_pos (wanted_none rfl)]
              refine wp_value (w2 := wx.alloc (.cells #[.slice none 0 0] 31)) (v := .pointer (some ⟨wx.heap.size, 0, none⟩)) ?_ (hK _ _ trivial (FrB.of0 ((Fr.refl _ _).alloc _)) (fun _ => ⟨wx.heap.size, _, by simp [updD], hG.fr.size |> fun h => by rw [HLW.out]; exact h, alloc_at rfl _, fun h => by cases h⟩))
              clear hd hG hK hJ
              go_simp
            refine stepsTurnB.cons (fun wx hG hJ hd K hK => ?_) ?_
            · have h14 := deps_getB hd 0 rfl rfl rfl rfl rfl
              have h68 := deps_getB hd 1 rfl rfl rfl rfl rfl
              rw [if_pos (wanted_none rfl)]
              obtain ⟨bb, uu, hb1, hb2, hb3, -⟩ := hJ (Nat.le_refl 1)
              obtain ⟨A, n, c, h68', hs⟩ := h68
              have hf9 := FrB.small (sz := 4) (lim := lim) hb3 (by show 1 < 4; decide) hb2 ((Fr.refl (fun k => k = bb) wx).setRow (by exact .inl rfl) (splat [uu] 0 [.slice A n c]).toArray)
              refine wp_store_at 31 (.tmp 14) (.tmp 68) rfl bb 0 [.slice A n c] (by exact hb1) (by exact h68') 31 [uu] hb3 size_table (Nat.le_refl 1) (by simp [Value.oneCell']) (hK undef _ trivial hf9 (fun _ => ⟨bb, .slice A n c, by first | exact hb1 | simpa [updD] using hb1, hb2, by rw [setRow_heap _ _ _ _ _ _ hb3]; rfl, fun _ => ⟨A, n, c, rfl, fun e => (hs e).keepB Lk.len (by decide) hf9⟩⟩))
            refine stepsTurnB.cons (fun wx hG hd K hK => ?_) ?_
            · have h69 : us 69 = (.int .i64 E) := deps_getB hd 0 rfl rfl rfl rfl rfl
              rw [if_pos (wanted_none rfl)]
              refine wp_value (w2 := wx) (v := .int .i64 E) ?_ (hK _ _ rfl (Fr.refl _ _))
              clear hd hG hK
              go_simp
            exact stepsTurnB.nil
          case fin =>
            have h51 : us 51 = (.agg #[.slice At nt ct]) := all_getB hall 0 rfl rfl rfl
            have h52 : us 52 = (.agg #[.slice Aj j cj, .int .i64 (j : Int)]) := all_getB hall 1 rfl rfl rfl
            have h53 : us 53 = (.int .i64 (j : Int)) := all_getB hall 2 rfl rfl rfl
            have h54 : us 54 = (.int .i64 ((j : Int) - 1)) := all_getB hall 3 rfl rfl rfl
            have h55 : us 55 = (.slice (some ⟨zb, zo, none⟩) N cA) := all_getB hall 4 rfl rfl rfl
            have h56 : us 56 = (.int .i64 (i : Int)) := all_getB hall 5 rfl rfl rfl
            have h57 : us 57 = (.pointer (some ⟨zb, zo + i, none⟩)) := all_getB hall 6 rfl rfl rfl
            have h58 : us 58 = (.int .i64 z) := all_getB hall 7 rfl rfl rfl
            have h59 : us 59 = (.int .i64 (bq : Int)) := all_getB hall 8 rfl rfl rfl
            have h60 : us 60 = (.slice (some ⟨zb, zo, none⟩) N cA) := all_getB hall 9 rfl rfl rfl
            have h61 : us 61 = (.int .i64 (i : Int)) := all_getB hall 10 rfl rfl rfl
            have h62 : us 62 = (.pointer (some ⟨zb, zo + i, none⟩)) := all_getB hall 11 rfl rfl rfl
            have h63 : us 63 = (.int .i64 z) := all_getB hall 12 rfl rfl rfl
            have h64 : us 64 = (.int .i64 (z / 8)) := all_getB hall 13 rfl rfl rfl
            have h65 : us 65 = (.int .i64 (mq : Int)) := all_getB hall 14 rfl rfl rfl
            have h66 : us 66 = (.int .i64 (1 + (mq : Int))) := all_getB hall 15 rfl rfl rfl
            have h67 := all_getB hall 16 rfl rfl rfl
            have h50 := all_getB hall 17 rfl rfl rfl
            have h68 := all_getB hall 18 rfl rfl rfl
            have h69 : us 69 = (.int .i64 E) := all_getB hall 19 rfl rfl rfl
            have h14 := all_getB hall 20 rfl rfl rfl
            have h15 : us 15 = (.int .i64 E) := all_getB hall 22 rfl rfl rfl
            simp only [fillL, Nat.reduceAdd]
            clear hall
            simp only [h51, h52, h53, h54, h55, h56, h57, h58, h59, h60, h61, h62, h63, h64, h65, h66, h69, h15]
            clear h51 h52 h53 h54 h55 h56 h57 h58 h59 h60 h61 h62 h63 h64 h65 h66 h69 h15
            obtain ⟨b14, u14, e14, hlb, hb14, hb4⟩ := hJ (by decide)
            obtain ⟨A14, n14, c14, rfl, hs14⟩ := hb4 rfl
            have hfz := HLIM.out wz hG.fr
            have HTAz := Lib.hid (hfz.keep0 HTA.out)
            have HTXz := Lib.hid (hfz.keep0 HTX.out)
            have HSXz0 := HSX.out.keep0 hfz
            rw [HXE.out] at HSXz0
            have HSXz := Lib.hid HSXz0
            have HFz := Lib.hid (HF.out.then0 hfz)
            have H14 := Lib.hid hb14
            have HS14 := Lib.hid (hs14 HE0.out)
            have g14 : (E != 0) = false := by simp [HE0.out]
            rw [e14]
            clear hJ hG hb4 hb14 hs14 hfz HSXz0
            have q1 : wz.cell? ⟨b14, 0, none⟩ = some (.slice A14 n14 c14) := by rw [cell_of H14.out]; rfl
            have q2 : wz.cell? ⟨ta, 0, none⟩ = some (.slice At nt ct) := by rw [cell_of HTAz.out]; rfl
            have q3 : wz.frozen? ⟨ta, 0, none⟩ = false := free_of HTAz.out 0
            go_wp2_with fail
            have hf3 : Fr (fun x => x = ta) wz (wz.setCell ⟨ta, 0, none⟩ (.slice A14 n14 c14)) := (Fr.refl _ _).setCell (by exact .inl rfl) _
            go_roundg (N - (i + 1))
            case measure => omega
            case rel => exact ⟨i + 1, .slice A14 n14 c14, G, by omega, rfl, by first | rfl | (go_num), HS14.out.box Lk.len HTAz.out (by show 1 < 4; decide) hf3, by rw [set_cell HTAz.out]; rfl, hf3.keep HTXz.out (by omega), HSXz.out.box Tx9.len HTAz.out (by show 1 < 4; decide) hf3, HGN2.out, HALL2.out, HFz.out.trans hf3 (fun x hx => .inr (by omega))⟩
        · have hiN : i = N := by omega
          subst hiN
          have q2 : wr.cell? ⟨ta, 0, none⟩ = some (.slice At nt ct) := by rw [cell_of HTA.out]; rfl
          have HSA := Lib.hid HGN.out.sane
          have hkw : IntKind.i64.wrap ((j : Int) - 1) = (j : Int) - 1 := HK1.out
          go_wp2_with fail
          clear q2
          go_loopg [17] j (fun kq x17 wr => ∃ (q : Nat) (vm : Value) (M : List Lk), q ≤ j ∧ q = kq ∧ x17 = .int .i64 ((q : Int) - 1) ∧ SlV 4 Lk.cells wr vm M ∧ wr.heap[ta]? = some (.cells #[vm] 31 (0, 0)) ∧ SaneL M ∧ (q = 0 → M = []) ∧ (0 < q → M.length = nt) ∧ (0 < q → ∀ l ∈ M, l.tx = (q : Int) - 1) ∧ Fr F0 w wr)
          case atStart => exact ⟨j, .slice At nt ct, L, Nat.le_refl _, rfl, rfl, HSL.out, HTA.out, HSA.out, fun h => absurd h (by omega), fun _ => HNT.out.symm, fun _ => HALL.out, HF.out⟩
          case round =>
            obtain ⟨q, vm, M, hq, rfl, rfl, hsm, ham, hsa, h0, hlen, hall, hf⟩ := hrel
            have HSM := Lib.hid hsm
            have HAM := Lib.hid ham
            have HSAM := Lib.hid hsa
            have HFM := Lib.hid hf
            have HM0 := Lib.hid h0
            have HML := Lib.hid hlen
            have HMA := Lib.hid hall
            obtain ⟨Am, cm, rfl, -⟩ := hsm.ex
            clear hsm ham hsa hf h0 hlen hall
            rcases Nat.eq_zero_or_pos q with hq0 | hq0
            · subst hq0
              have hM := HM0.out rfl
              subst hM
              have q2 : wr.cell? ⟨ta, 0, none⟩ = some (.slice Am 0 cm) := by rw [cell_of HAM.out]; rfl
              go_wp2_with fail
              go_ret
              exact ⟨rfl, HFM.out⟩
            · have hMl := HML.out hq0
              rw [hMl] at HAM HSM
              have q1 : (0 : Int) ≤ (q : Int) - 1 := by omega
              have q2 : wr.cell? ⟨ta, 0, none⟩ = some (.slice Am nt cm) := by rw [cell_of HAM.out]; rfl
              have HTQ := Lib.hid (HMA.out hq0)
              have hqw : IntKind.i64.wrap ((q : Int) - 1 - 1) = (q : Int) - 1 - 1 := by rw [IntKind.wrap_i64]; omega
              have HSMl := Lib.hid HSM.out
              clear hMl
              go_wp2_with fail
              refine (of_c ((q : Int) - 1) HSM.out (by have := sane_len HSAM.out; omega)).mono ?_
              rintro e w5 ⟨v5, rfl, hown5, hf5⟩
              obtain ⟨A5, c5, rfl, -⟩ := SrAt.of_own Lk.len hown5
              have e5 : (ofL M ((q : Int) - 1)).length = nt := by rw [of_all HTQ.out]; exact HML.out hq0
              rw [e5]
              have HAM5 := Lib.hid (hf5.keep0 HAM.out)
              have HSM5 := Lib.hid (HSM.out.keep0 hf5)
              have HFM5 := Lib.hid (HFM.out.then0 hf5)
              clear hown5 hf5 e5 q2
              have q2 : w5.cell? ⟨ta, 0, none⟩ = some (.slice Am nt cm) := by rw [cell_of HAM5.out]; rfl
              go_wp2_with fail
              refine (pass_c ((q : Int) - 1) ((q : Int) - 1 - 1) HSM5.out HSAM.out (by omega)).mono ?_
              rintro e w6 ⟨v6, rfl, hs6, hf6⟩
              obtain ⟨A6, c6, rfl, -⟩ := hs6.ex
              obtain ⟨n6, hn6⟩ : ∃ n6, n6 = (passL M ((q : Int) - 1) ((q : Int) - 1 - 1)).length := ⟨_, rfl⟩
              rw [← hn6] at hs6 ⊢
              have HS6 := Lib.hid hs6
              have HAM6 := Lib.hid (hf6.keep0 HAM5.out)
              have HFM6 := Lib.hid (HFM5.out.then0 hf6)
              clear hs6 hf6 q2 hn6
              have q2 : w6.cell? ⟨ta, 0, none⟩ = some (.slice Am nt cm) := by rw [cell_of HAM6.out]; rfl
              have q3 : w6.frozen? ⟨ta, 0, none⟩ = false := free_of HAM6.out 0
              go_wp2_with fail
              have hf3 : Fr (fun x => x = ta) w6 (w6.setCell ⟨ta, 0, none⟩ (.slice A6 n6 c6)) := (Fr.refl _ _).setCell (by exact .inl rfl) _
              go_roundg (q - 1)
              case measure => omega
              case rel =>
                have eq1 : ((q - 1 : Nat) : Int) - 1 = (q : Int) - 1 - 1 := by omega
                refine ⟨q - 1, .slice A6 n6 c6, _, by omega, rfl, by rw [eq1], HS6.out.box Lk.len HAM6.out (by show 1 < 4; decide) hf3, by rw [set_cell HAM6.out]; rfl, passL_sane HSAM.out (by omega), fun h => pass_last HTQ.out (by omega), fun h => ?_, fun h => ?_, HFM6.out.trans hf3 (fun x hx => .inr (by omega))⟩
                · rw [(pass_all HSAM.out.rise HTQ.out (by omega) (by omega)).1]
                  exact HML.out hq0
                · rw [eq1]
                  exact (pass_all HSAM.out.rise HTQ.out (by omega) (by omega)).2
end
end Go.Proofs.Ytgbaijfgmeealaa
