/-
  Layer 11: WaitsRing, the walk. Conditions: none.
-/
import Derived.Test.YtgbaijfgmeealaaL11a
set_option linter.unusedVariables false
set_option linter.unusedSimpArgs false
namespace Go.Proofs.Ytgbaijfgmeealaa
open Go.RowKit
def BoxQ (slot lim : Nat) (G : List Wn) (k : Nat) (us : Nat → Value) (w : World) : Prop := 1 ≤ k → ∃ b u, us slot = .pointer (some ⟨b, 0, none⟩) ∧ lim ≤ b ∧ w.heap[b]? = some (.cells #[u] 60 (0, 0)) ∧ (k = 2 → ∃ A n c, u = .slice A n c ∧ SlV 3 Wn.cells w u G)
theorem BoxQ.keep (slot lim : Nat) (G : List Wn) (k : Nat) (us us' : Nat → Value) (w' w'' : World) (h : BoxQ slot lim G k us w') (hd : ∀ d ∈ [slot], us' d = us d) (hf : Fr F0 w' w'') : BoxQ slot lim G k us' w'' := fun hk => by
  obtain ⟨b, u, h1, h2, h3, h4⟩ := h hk
  refine ⟨b, u, by rw [hd slot (by simp)]; exact h1, h2, hf.keep0 h3, fun e => ?_⟩
  obtain ⟨A, n, c, e1, e2⟩ := h4 e
  exact ⟨A, n, c, e1, e2.keep0 hf⟩
section
variable {w : World}
set_option maxRecDepth 100000 in
set_option maxHeartbeats 8000000 in
theorem ring_walk (nn on : Int) : Calls Try.prog 8 #[.int .i64 nn, .int .i64 on] w fun e w' => e = .returned (.bool true) ∧ Fr F0 w w' := by
  obtain ⟨r, hr⟩ : ∃ r : Nat, nn % 8 = (r : Int) := ⟨(nn % 8).toNat, by omega⟩
  have hr8 : r < 8 := by omega
  have hbandr : bits .and .i64 nn 7 = (r : Int) := by rw [← hr]; exact i64_and nn 3 (by decide)
  obtain ⟨s, hs⟩ : ∃ s : Nat, on % 65536 = (s : Int) := ⟨(on % 65536).toNat, by omega⟩
  have HBS : Hid (bits .and .i64 on 65535 = (s : Int)) := Lib.hid (by rw [← hs]; exact i64_and on 16 (by decide))
  obtain ⟨k, hk⟩ : ∃ k : Nat, k = 2 + r := ⟨_, rfl⟩
  have hk2 : 2 ≤ k := by omega
  have hk10 : k < 10 := by omega
  have hr1 : IntKind.i64.wrap (2 + (r : Int)) = (k : Int) := by rw [IntKind.wrap_i64]; omega
  obtain ⟨v, hv⟩ : ∃ v : Nat, v = s % k := ⟨_, rfl⟩
  have hvk : v < k := by rw [hv]; exact Nat.mod_lt _ (by omega)
  have HREM : Hid (Int.tmod (s : Int) (k : Int) = (v : Int)) := Lib.hid (by rw [Int.tmod_eq_emod_of_nonneg (by omega), hv]; simp)
  have HQ0 : Hid (¬ k = 0) := Lib.hid (by omega)
  have HK10 := Lib.hid hk10
  have kn : (0 : Int) ≤ (k : Int) := Int.natCast_nonneg _
  clear hr hs hk hv
  go_enter Try.func8, Try.ntmps8
  go_wp2_with fail
  refine (awake11_c).mono ?_
  rintro e w1 ⟨rfl, hf1⟩
  have HF1 := Lib.hid hf1
  clear hf1
  go_wp2_with fail
  obtain ⟨tb, htb⟩ : ∃ tb, tb = w1.heap.size := ⟨_, rfl⟩
  have htw : w.heap.size ≤ tb := by rw [htb]; exact HF1.out.size
  obtain ⟨W, hW⟩ : ∃ W, W = (w1.alloc (.cells #[.slice none 0 0, .int .i64 0] 25)).alloc (.cells #[.slice none 0 0] 31) := ⟨_, rfl⟩
  have HBX : Hid (W.heap[tb]? = some (.cells #[.slice none 0 0, .int .i64 0] 25 (0, 0))) := Lib.hid (by rw [hW]; exact keep_alloc (alloc_at htb _) _)
  have HBT : Hid (W.heap[tb + 1]? = some (.cells #[.slice none 0 0] 31 (0, 0))) := Lib.hid (by rw [hW]; exact alloc_at (by rw [htb]; simp) _)
  have HFW : Hid (Fr F0 w W) := Lib.hid (by rw [hW]; exact (HF1.out.alloc _).alloc _)
  rw [← hW, ← htb]
  clear htb hW
  go_loopg [9, 10, 11, 12, 13, 14] k (fun kq x9 x10 x11 x12 x13 x14 wr => ∃ (j : Nat) (vj vt : Value), j ≤ k ∧ kq = k - j ∧ x9 = .int .i64 (j : Int) ∧ wr.heap[tb]? = some (.cells #[vj, .int .i64 (j : Int)] 25 (0, 0)) ∧ wr.heap[tb + 1]? = some (.cells #[vt] 31 (0, 0)) ∧ SlV 4 Tx9.cells wr vj (roots j) ∧ SlV 4 Lk.cells wr vt (writesR j) ∧ Fr F0 w wr)
  case atStart => exact ⟨0, .slice none 0 0, .slice none 0 0, by omega, rfl, rfl, HBX.out, HBT.out, SlV.nil _ _ _, SlV.nil _ _ _, HFW.out⟩
  case round =>
    clear HBX HBT HFW HF1
    obtain ⟨j, vj, vt, hj, rfl, rfl, hbx, hbt, hsx, hst, hf⟩ := hrel
    obtain ⟨Aj, cj, rfl⟩ := hsx.exn (n := j) (roots_len j)
    obtain ⟨At, ct, rfl⟩ := hst.exn (n := j) (writesR_len j)
    have HBX := Lib.hid hbx
    have HBT := Lib.hid hbt
    have HSX := Lib.hid hsx
    have HST := Lib.hid hst
    have HF := Lib.hid hf
    have j0 : (0 : Int) ≤ (j : Int) := Int.natCast_nonneg _
    by_cases hlt : j < k
    · have j1 : (j : Int) < (k : Int) := by omega
      have kt : wr.cell? ⟨tb, 0, none⟩ = some (.slice Aj j cj) := by rw [cell_of hbx]; rfl
      have kt1 : wr.cell? ⟨tb, 1, none⟩ = some (.int .i64 (j : Int)) := by rw [cell_of hbx]; rfl
      clear hbx hbt hsx hst hf
      go_wp2_with fail
      clear kt kt1
      refine (begin_c (L := roots j) j (-1) HSX.out (by rw [roots_len]; omega) (falls_rootsQ j) (.inl rfl) (by omega) (by omega)).mono ?_
      intro e w2 hbr
      cases hbr with
      | no h he hf => exact absurd (ring_begin j (by omega)) h
      | yes h v2 he hs2 hf2 =>
      rw [roots_len] at he
      subst he
      rw [roots_succ] at hs2
      obtain ⟨A2, c2, rfl⟩ := hs2.exn (n := j + 1) (roots_len _)
      obtain ⟨W2, hW2⟩ : ∃ W2, W2 = w2.alloc (.cells #[.slice A2 (j + 1) c2, .int .i64 ((j : Int) + 1)] 25) := ⟨_, rfl⟩
      have hfW : Fr F0 w2 W2 := by rw [hW2]; exact (Fr.refl _ _).alloc _
      have HBX2 := Lib.hid (hfW.keep0 (hf2.keep0 HBX.out))
      have HBT2 := Lib.hid (hfW.keep0 (hf2.keep0 HBT.out))
      obtain ⟨hb3, hf3⟩ := tree_box (v' := .slice A2 (j + 1) c2) (clk' := (j : Int) + 1) rfl HBX2.out
      obtain ⟨W3, hW3⟩ : ∃ W3, W3 = W2.setRow tb (splat [.slice Aj j cj, .int .i64 (j : Int)] 0 [.slice A2 (j + 1) c2, .int .i64 ((j : Int) + 1)]).toArray := ⟨_, rfl⟩
      rw [← hW3] at hb3 hf3
      have HBX3 := Lib.hid hb3
      have HBT3 := Lib.hid (hf3.keep HBT2.out (by omega))
      have HSX3 := Lib.hid ((hs2.keep0 hfW).box Tx9.len HBX2.out (by show 2 < 4; decide) hf3)
      have HST3 := Lib.hid (((HST.out.keep0 hf2).keep0 hfW).box Lk.len HBX2.out (by show 2 < 4; decide) hf3)
      have HF3 := Lib.hid (((HF.out.then0 hf2).then0 hfW).trans hf3 (fun x hx => .inr (by omega)))
      have HW2 := Lib.hid hW2
      have HW3 := Lib.hid hW3
      have kt : W3.cell? ⟨tb, 0, none⟩ = some (.slice A2 (j + 1) c2) := by rw [cell_of hb3]; rfl
      have kt1 : W3.cell? ⟨tb, 1, none⟩ = some (.int .i64 ((j : Int) + 1)) := by rw [cell_of hb3]; rfl
      have ka : W3.cell? ⟨tb + 1, 0, none⟩ = some (.slice At j ct) := by rw [cell_of HBT3.out]; rfl
      have gne : ((j : Int) != (j : Int)) = false := by simp
      clear hs2 hf2 hfW h hW2 hW3 hb3 hf3
      go_wp2_with (refine wpList_store_at rfl 25 (.tmp 7) (.tmp 46) rfl tb 0 [.slice A2 (j + 1) c2, .int .i64 ((j : Int) + 1)] (by rfl) (by rfl) 25 [.slice Aj j cj, .int .i64 (j : Int)] (by rw [← HW2.out]; exact HBX2.out) size_tree (Nat.le_refl 2) (tree_one _ _ _ _) ?_; rw [← HW2.out, ← HW3.out])
      clear kt kt1 ka
      refine (ask_c (X := roots (j + 1)) (L := writesR j) ((j : Int) + 1) j j 2 HST3.out (by rw [writesR_len]; omega) (ring_writes j (by omega)) HSX3.out (by rw [roots_len]; omega) (by omega) (by omega) (.inr rfl)).mono ?_
      intro e w4 har
      cases har with
      | no h he hf => exact absurd (ring_ask j (by omega)).1 h
      | yes h v4 he hs4 hf4 =>
      subst he
      rw [(ring_ask j (by omega)).2] at hs4
      obtain ⟨A4, c4, rfl⟩ := hs4.exn (n := j + 1) (writesR_len _)
      obtain ⟨W4, hW4⟩ : ∃ W4, W4 = w4.alloc (.cells #[.slice A4 (j + 1) c4] 31) := ⟨_, rfl⟩
      have hfW : Fr F0 w4 W4 := by rw [hW4]; exact (Fr.refl _ _).alloc _
      have HBX4 := Lib.hid (hfW.keep0 (hf4.keep0 HBX3.out))
      have HBT4 := Lib.hid (hfW.keep0 (hf4.keep0 HBT3.out))
      obtain ⟨ha5, hf5⟩ := cell_box (.slice A4 (j + 1) c4) HBT4.out
      obtain ⟨W5, hW5⟩ : ∃ W5, W5 = W4.setCell ⟨tb + 1, 0, none⟩ (.slice A4 (j + 1) c4) := ⟨_, rfl⟩
      rw [← hW5] at ha5 hf5
      have HBX5 := Lib.hid (hf5.keep HBX4.out (by omega))
      have HBT5 := Lib.hid ha5
      have HSX5 := Lib.hid (((HSX3.out.keep0 hf4).keep0 hfW).box Tx9.len HBT4.out (by show 1 < 4; decide) hf5)
      have HST5 := Lib.hid ((hs4.keep0 hfW).box Lk.len HBT4.out (by show 1 < 4; decide) hf5)
      have HF5 := Lib.hid (((HF3.out.then0 hf4).then0 hfW).trans hf5 (fun x hx => .inr (by omega)))
      have q1 : (w4.alloc (.cells #[.slice A4 (j + 1) c4] 31)).cell? ⟨tb + 1, 0, none⟩ = some (.slice At j ct) := by rw [← hW4, cell_of HBT4.out]; rfl
      have q2 : (w4.alloc (.cells #[.slice A4 (j + 1) c4] 31)).frozen? ⟨tb + 1, 0, none⟩ = false := by rw [← hW4]; exact free_of HBT4.out 0
      have HW4 := Lib.hid hW4
      have HW5 := Lib.hid hW5
      clear hs4 hf4 hfW h hW4 hW5 ha5 hf5
      go_wp2_with fail
      rw [← HW4.out, ← HW5.out]
      go_roundg (k - (j + 1))
      case measure => omega
      case rel => exact ⟨j + 1, .slice A2 (j + 1) c2, .slice A4 (j + 1) c4, by omega, rfl, by first | rfl | (go_num), HBX5.out, HBT5.out, HSX5.out, HST5.out, HF5.out⟩
    · have hjk : j = k := by omega
      subst hjk
      clear hbx hbt hsx hst hf
      have j1 : ¬ (j : Int) < (j : Int) := by omega
      go_wp2_with fail
      obtain ⟨w5, hw5⟩ : ∃ w5, w5 = wr := ⟨wr, rfl⟩
      subst hw5
      obtain ⟨qb, hqb⟩ : ∃ qb, qb = w5.heap.size := ⟨_, rfl⟩
      obtain ⟨W, hW⟩ : ∃ W, W = w5.alloc (.cells #[.slice none 0 0] 60) := ⟨_, rfl⟩
      have hfW : Fr F0 w5 W := by rw [hW]; exact (Fr.refl _ _).alloc _
      have hqt : tb + 1 < qb := by rw [hqb]; exact lt_of_block HBT.out
      have HT0 : Hid (Tri W tb (tb + 1) qb (roots j) (writesR j) (ringQ j 0) (.slice Aj j cj) (.slice At j ct) (.slice none 0 0) (j : Int)) := Lib.hid ⟨hfW.keep0 HBX.out, hfW.keep0 HBT.out, by rw [hW]; exact alloc_at hqb _, HSX.out.keep0 hfW, HST.out.keep0 hfW, SlV.nil _ _ _⟩
      have HFW := Lib.hid (HF.out.then0 hfW)
      rw [← hW, ← hqb]
      clear hW hfW hqb HBX HBT HSX HST HF
      obtain ⟨k, hkj⟩ : ∃ k, k = j := ⟨j, rfl⟩
      subst hkj
      go_loopg [16, 17, 18] k (fun kq x16 x17 x18 wr => ∃ (j : Nat) (vq : Value), j ≤ k ∧ kq = k - j ∧ x16 = .int .i64 (j : Int) ∧ Tri wr tb (tb + 1) qb (roots k) (writesR k) (ringQ k j) (.slice Aj k cj) (.slice At k ct) vq (k : Int) ∧ Fr F0 w wr)
      case atStart => exact ⟨0, .slice none 0 0, by omega, rfl, rfl, HT0.out, HFW.out⟩
      case round =>
        clear HT0 HFW
        obtain ⟨j, vq, hj, rfl, rfl, htri, hf⟩ := hrel
        obtain ⟨Aq, cq, rfl⟩ := htri.sq.exn (n := j) (ringQ_len k j)
        have HTRI := Lib.hid htri
        have HF := Lib.hid hf
        clear htri hf
        have j0 : (0 : Int) ≤ (j : Int) := Int.natCast_nonneg _
        by_cases hlt : j < k
        · have j1 : (j : Int) < (k : Int) := by omega
          have HJ1 : Hid (IntKind.i64.wrap ((j : Int) + 1) = (j : Int) + 1) := Lib.hid (by rw [IntKind.wrap_i64]; omega)
          obtain ⟨z, hz⟩ : ∃ z : Nat, z = (j + 1) % k := ⟨_, rfl⟩
          have HZ : Hid (Int.tmod ((j : Int) + 1) (k : Int) = (z : Int)) := Lib.hid (by rw [Int.tmod_eq_emod_of_nonneg (by omega), hz]; simp)
          have hzk : z < k := by rw [hz]; exact Nat.mod_lt _ (by omega)
          obtain ⟨G, hGG⟩ : ∃ G, G = ringQ k (j + 1) := ⟨_, rfl⟩
          have HGG : Hid (ringQ k j ++ [⟨(j : Int), (z : Int), 1⟩] = G) := Lib.hid (by rw [hGG, hz]; exact ringQ_succ k j)
          have HSQ := Lib.hid (saneQ_of (ring_sane k hk10 hk2 j (by omega)))
          have HOK : Hid (Wn.Ok ⟨(j : Int), (z : Int), 1⟩) := Lib.hid ⟨by show (0 : Int) ≤ j; omega, by show (j : Int) < 64; omega, by show (0 : Int) ≤ z; omega, by show (z : Int) < 256; omega, .inl rfl⟩
          have HHAS := Lib.hid (ring_has k hk10 j hlt)
          have HL64 : Hid ((ringQ k j).length < 64) := Lib.hid (by rw [ringQ_len]; omega)
          obtain ⟨lim, hlim⟩ : ∃ lim, lim = wr.heap.size := ⟨_, rfl⟩
          have HLW := Lib.hid hlim
          have HLIM : Hid (∀ wx, Fr (fun b => lim ≤ b) wr wx → Fr F0 wr wx) := Lib.hid (fun wx h => (Fr.refl F0 wr).trans h (fun x hx => .inr (by rw [← hlim]; exact hx)))
          have HQLT : Hid (qb < lim) := Lib.hid (by rw [hlim]; exact lt_of_block HTRI.out.bq)
          have HGQ := Lib.hid hGG
          have HZZ : Hid (0 ≤ (z : Int)) := Lib.hid (by omega)
          clear hz hzk hGG hlim
          go_wp2_with fail
          refine wp_region_turnB (lim := lim) (sz := 3) [false, false, false, false, false, false, false, false, false, false, false, false, false, false, false, false, false, true, true, false, false, false, false, false, false, false, false, false, false, false, false, false, false, false, false, false, false, false, false, false, false, false, false, false, false, false, false, false, false, false, false, false, false, false, false, false, false, false, false, false, false, false, false, false, true, true, true, true, true, true, true, true, true, true, true, false, false, false, false, false, false, false, false, false, false, false, false, false, false, false, false, false, false, false, false, false, false, false, false, false, false, false, false, false, false, false, false, false, false, false, false, false, false, false, false, false, false, false, false, false, false, false, false, false, false, false, false, false, false, false, false, false, false, false, false, false, false, false, false, false] [.eq (.agg #[.slice Aq j cq]), .eq (.int .i64 (j : Int)), .eq (.int .i64 (j : Int)), .eq (.int .i64 ((j : Int) + 1)), .eq (.int .i64 (k : Int)), .eq (.int .i64 (z : Int)), .eq (.agg #[.int .i64 (j : Int), .int .i64 (z : Int), .int .i64 1]), ⟨fun v w1 => ∃ A n c, v = .tuple #[.agg #[.slice A n c], .int .i64 0] ∧ SlV 3 Wn.cells w1 (.slice A n c) G, fun v w1 w2 ⟨A, n, c, h1, h2⟩ hf => ⟨A, n, c, h1, h2.keepB Wn.len (by decide) hf⟩⟩, ⟨fun v w1 => ∃ A n c, v = .tuple #[.agg #[.slice A n c], .int .i64 0] ∧ SlV 3 Wn.cells w1 (.slice A n c) G, fun v w1 w2 ⟨A, n, c, h1, h2⟩ hf => ⟨A, n, c, h1, h2.keepB Wn.len (by decide) hf⟩⟩, ⟨fun v w1 => ∃ A n c, v = .agg #[.slice A n c] ∧ SlV 3 Wn.cells w1 (.slice A n c) G, fun v w1 w2 ⟨A, n, c, h1, h2⟩ hf => ⟨A, n, c, h1, h2.keepB Wn.len (by decide) hf⟩⟩, .eq (.int .i64 0), .any, .any, .eq (.int .i64 0)] (BoxQ 17 lim G) [none, none, none, none, none, none, none, none, none, none, none, some 0, some 1, none] [17] 2 (by kernel_rfl) (by kernel_rfl) (by rfl) (by kernel_rfl) ?hJ ?hJ0 (fun us => ?steps) (fun us wz hG hJ hall => ?fin)
          case hJ =>
            exact BoxQ.keep 17 lim G
          case hJ0 =>
            exact fun h => by cases h
          case steps =>
            simp only [fillL, Nat.reduceAdd]
            refine stepsTurnB.cons (fun wx hG hd K hK => ?_) ?_
            · rw [if_pos (wanted_none rfl)]
              have hc : wx.cell? ⟨qb, 0, none⟩ = some (.slice Aq j cq) := by rw [cell_of ((HLIM.out wx hG.fr).keep0 HTRI.out.bq)]; rfl
              refine wp_value (w2 := wx) (v := .agg #[.slice Aq j cq]) ?_ (hK _ _ rfl (Fr.refl _ _))
              clear hd hK
              go_simp
            refine stepsTurnB.cons (fun wx hG hd K hK => ?_) ?_
            · rw [if_pos (wanted_none rfl)]
              refine wp_value (w2 := wx) (v := .int .i64 (j : Int)) ?_ (hK _ _ rfl (Fr.refl _ _))
              clear hd hG hK
              go_simp
            refine stepsTurnB.cons (fun wx hG hd K hK => ?_) ?_
            · rw [if_pos (wanted_none rfl)]
              refine wp_value (w2 := wx) (v := .int .i64 (j : Int)) ?_ (hK _ _ rfl (Fr.refl _ _))
              clear hd hG hK
              go_simp
            refine stepsTurnB.cons (fun wx hG hd K hK => ?_) ?_
            · have h67 : us 67 = (.int .i64 (j : Int)) := deps_getB hd 0 rfl rfl rfl rfl rfl
              rw [if_pos (wanted_none rfl)]
              have hw := HJ1.out
              refine wp_value (w2 := wx) (v := .int .i64 ((j : Int) + 1)) ?_ (hK _ _ rfl (Fr.refl _ _))
              clear hd hG hK
              go_simp
            refine stepsTurnB.cons (fun wx hG hd K hK => ?_) ?_
            · rw [if_pos (wanted_none rfl)]
              refine wp_value (w2 := wx) (v := .int .i64 (k : Int)) ?_ (hK _ _ rfl (Fr.refl _ _))
              clear hd hG hK
              go_simp
            refine stepsTurnB.cons (fun wx hG hd K hK => ?_) ?_
            · have h68 : us 68 = (.int .i64 ((j : Int) + 1)) := deps_getB hd 0 rfl rfl rfl rfl rfl
              have h69 : us 69 = (.int .i64 (k : Int)) := deps_getB hd 1 rfl rfl rfl rfl rfl
              rw [if_pos (wanted_none rfl)]
              have hw := HZ.out
              have hw0 := HQ0.out
              refine wp_value (w2 := wx) (v := .int .i64 (z : Int)) ?_ (hK _ _ rfl (Fr.refl _ _))
              clear hd hG hK
              go_simp
            refine stepsTurnB.cons (fun wx hG hd K hK => ?_) ?_
            · have h66 : us 66 = (.int .i64 (j : Int)) := deps_getB hd 0 rfl rfl rfl rfl rfl
              have h70 : us 70 = (.int .i64 (z : Int)) := deps_getB hd 1 rfl rfl rfl rfl rfl
              rw [if_pos (wanted_none rfl)]
              refine wp_value (w2 := wx) (v := .agg #[.int .i64 (j : Int), .int .i64 (z : Int), .int .i64 1]) ?_ (hK _ _ rfl (Fr.refl _ _))
              clear hd hG hK
              go_simp
            refine stepsTurnB.cons (fun wx hG hd K hK => ?_) ?_
            · have h65 : us 65 = (.agg #[.slice Aq j cq]) := deps_getB hd 0 rfl rfl rfl rfl rfl
              have h71 : us 71 = (.agg #[.int .i64 (j : Int), .int .i64 (z : Int), .int .i64 1]) := deps_getB hd 1 rfl rfl rfl rfl rfl
              rw [if_pos (wanted_none rfl)]
              refine wp_call (w2 := wx) (f := 24) (args := #[.agg #[.slice Aq j cq], .agg #[.int .i64 (j : Int), .int .i64 (z : Int), .int .i64 1]]) ?_ ?_
              · clear hd hK
                go_simp
              · refine (add_c (w := wx) (HTRI.out.sq.keep0 (HLIM.out wx hG.fr)) HSQ.out ⟨(j : Int), (z : Int), 1⟩ HOK.out HHAS.out HL64.out).mono ?_
                rintro e w9 ⟨v9, rfl, hs, hf⟩
                rw [HGG.out] at hs
                obtain ⟨A, c, rfl, -⟩ := hs.ex
                exact ⟨_, rfl, hK _ _ ⟨A, _, c, rfl, hs⟩ hf⟩
            refine stepsTurnB.cons (fun wx hG hd K hK => ?_) ?_
            · have h72 := deps_getB hd 0 rfl rfl rfl rfl rfl
              rw [if_pos (wanted_none rfl)]
              obtain ⟨A, n, c, h72', hs⟩ := h72
              refine wp_value (w2 := wx) (v := .tuple #[.agg #[.slice A n c], .int .i64 0]) ?_ (hK _ _ ⟨_, _, _, rfl, hs⟩ (Fr.refl _ _))
              clear hd hG hK hs
              go_simp
            refine stepsTurnB.cons (fun wx hG hd K hK => ?_) ?_
            · have h64 := deps_getB hd 0 rfl rfl rfl rfl rfl
              rw [if_pos (wanted_none rfl)]
              obtain ⟨A, n, c, h64', hs⟩ := h64
              refine wp_value (w2 := wx) (v := .agg #[.slice A n c]) ?_ (hK _ _ ⟨_, _, _, rfl, hs⟩ (Fr.refl _ _))
              clear hd hG hK hs
              go_simp
            refine stepsTurnB.cons (fun wx hG hd K hK => ?_) ?_
            · have h64 := deps_getB hd 0 rfl rfl rfl rfl rfl
              rw [if_pos (wanted_none rfl)]
              obtain ⟨A, n, c, h64', hs⟩ := h64
              refine wp_value (w2 := wx) (v := .int .i64 0) ?_ (hK _ _ rfl (Fr.refl _ _))
              clear hd hG hK hs
              go_simp
            refine stepsTurnB.cons (fun wx hG hJ hd K hK => ?_) ?_
            · rw [if_pos (wanted_none rfl)]
              refine wp_value (w2 := wx.alloc (.cells #[.slice none 0 0] 60)) (v := .pointer (some ⟨wx.heap.size, 0, none⟩)) ?_ (hK _ _ trivial (FrB.of0 ((Fr.refl _ _).alloc _)) (fun _ => ⟨wx.heap.size, _, by simp [updD], hG.fr.size |> fun h => by rw [HLW.out]; exact h, alloc_at rfl _, fun h => by cases h⟩))
              clear hd hG hK hJ
              go_simp
            refine stepsTurnB.cons (fun wx hG hJ hd K hK => ?_) ?_
            · have h17 := deps_getB hd 0 rfl rfl rfl rfl rfl
              have h73 := deps_getB hd 1 rfl rfl rfl rfl rfl
              rw [if_pos (wanted_none rfl)]
              obtain ⟨bb, uu, hb1, hb2, hb3, -⟩ := hJ (Nat.le_refl 1)
              obtain ⟨A, n, c, h73', hs⟩ := h73
              have hf9 := FrB.small (sz := 3) (lim := lim) hb3 (by show 1 < 3; decide) hb2 ((Fr.refl (fun k => k = bb) wx).setRow (by exact .inl rfl) (splat [uu] 0 [.slice A n c]).toArray)
              refine wp_store_at 60 (.tmp 17) (.tmp 73) rfl bb 0 [.slice A n c] (by exact hb1) (by exact h73') 60 [uu] hb3 size_queue (Nat.le_refl 1) (by simp [Value.oneCell']) (hK undef _ trivial hf9 (fun _ => ⟨bb, .slice A n c, by first | exact hb1 | simpa [updD] using hb1, hb2, by rw [setRow_heap _ _ _ _ _ _ hb3]; rfl, fun _ => ⟨A, n, c, rfl, hs.keepB Wn.len (by decide) hf9⟩⟩))
            refine stepsTurnB.cons (fun wx hG hd K hK => ?_) ?_
            · have h74 : us 74 = (.int .i64 0) := deps_getB hd 0 rfl rfl rfl rfl rfl
              rw [if_pos (wanted_none rfl)]
              refine wp_value (w2 := wx) (v := .int .i64 0) ?_ (hK _ _ rfl (Fr.refl _ _))
              clear hd hG hK
              go_simp
            exact stepsTurnB.nil
          case fin =>
            have h65 : us 65 = (.agg #[.slice Aq j cq]) := all_getB hall 0 rfl rfl rfl
            have h66 : us 66 = (.int .i64 (j : Int)) := all_getB hall 1 rfl rfl rfl
            have h67 : us 67 = (.int .i64 (j : Int)) := all_getB hall 2 rfl rfl rfl
            have h68 : us 68 = (.int .i64 ((j : Int) + 1)) := all_getB hall 3 rfl rfl rfl
            have h69 : us 69 = (.int .i64 (k : Int)) := all_getB hall 4 rfl rfl rfl
            have h70 : us 70 = (.int .i64 (z : Int)) := all_getB hall 5 rfl rfl rfl
            have h71 : us 71 = (.agg #[.int .i64 (j : Int), .int .i64 (z : Int), .int .i64 1]) := all_getB hall 6 rfl rfl rfl
            have h72 := all_getB hall 7 rfl rfl rfl
            have h64 := all_getB hall 8 rfl rfl rfl
            have h73 := all_getB hall 9 rfl rfl rfl
            have h74 : us 74 = (.int .i64 0) := all_getB hall 10 rfl rfl rfl
            have h17 := all_getB hall 11 rfl rfl rfl
            have h18 : us 18 = (.int .i64 0) := all_getB hall 13 rfl rfl rfl
            simp only [fillL, Nat.reduceAdd]
            clear hall
            simp only [h65, h66, h67, h68, h69, h70, h71, h74, h18]
            clear h65 h66 h67 h68 h69 h70 h71 h74 h18
            obtain ⟨b17, u17, e17, hlb, hb17, hb4⟩ := hJ (by decide)
            obtain ⟨A17, n17, c17, rfl, hs17⟩ := hb4 rfl
            have hG0 := HLIM.out wz hG.fr
            have htz := HTRI.out.keep0 hG0
            have H17 := Lib.hid hb17
            have q1 : wz.cell? ⟨b17, 0, none⟩ = some (.slice A17 n17 c17) := by rw [cell_of H17.out]; rfl
            have q2 : wz.cell? ⟨qb, 0, none⟩ = some (.slice Aq j cq) := by rw [cell_of htz.bq]; rfl
            have q3 : wz.frozen? ⟨qb, 0, none⟩ = false := free_of htz.bq 0
            obtain ⟨hq5, hf5⟩ := cell_box (.slice A17 n17 c17) htz.bq
            obtain ⟨W5, hW5⟩ : ∃ W5, W5 = wz.setCell ⟨qb, 0, none⟩ (.slice A17 n17 c17) := ⟨_, rfl⟩
            rw [← hW5] at hq5 hf5
            have HT5 : Hid (Tri W5 tb (tb + 1) qb (roots k) (writesR k) (ringQ k (j + 1)) (.slice Aj k cj) (.slice At k ct) (.slice A17 n17 c17) (k : Int)) := Lib.hid ⟨hf5.keep htz.bx (by omega), hf5.keep htz.bt (by omega), hq5, htz.sx.box Tx9.len htz.bq (by show 1 < 4; decide) hf5, htz.st.box Lk.len htz.bq (by show 1 < 4; decide) hf5, by rw [← HGQ.out]; exact hs17.box Wn.len htz.bq (by show 1 < 3; decide) hf5⟩
            have HF5 := Lib.hid ((HF.out.then0 hG0).trans hf5 (fun x hx => .inr (by omega)))
            have HW5 := Lib.hid hW5
            rw [e17]
            clear hJ hG hG0 hb4 hb17 hs17 htz hq5 hf5 hW5 e17
            go_wp2_with fail
            rw [← HW5.out]
            go_roundg (k - (j + 1))
            case measure => omega
            case rel => exact ⟨j + 1, _, by omega, rfl, by first | rfl | (go_num), HT5.out, HF5.out⟩
        · have hjk : j = k := by omega
          subst hjk
          have j1 : ¬ (j : Int) < (j : Int) := by omega
          have kq : wr.cell? ⟨qb, 0, none⟩ = some (.slice Aq j cq) := by rw [cell_of HTRI.out.bq]; rfl
          have ka : wr.cell? ⟨tb + 1, 0, none⟩ = some (.slice At j ct) := by rw [cell_of HTRI.out.bt]; rfl
          have kt : wr.cell? ⟨tb, 0, none⟩ = some (.slice Aj j cj) := by rw [cell_of HTRI.out.bx]; rfl
          have kt1 : wr.cell? ⟨tb, 1, none⟩ = some (.int .i64 (j : Int)) := by rw [cell_of HTRI.out.bx]; rfl
          obtain ⟨k, hkj⟩ : ∃ k, k = j := ⟨j, rfl⟩
          subst hkj
          go_wp2_with fail
          clear kq ka kt kt1
          have HSQ := Lib.hid (saneQ_of (ring_sane k hk10 hk2 k (by omega)))
          refine (stuck_c k HTRI.out.sq HSQ.out.ok (by rw [ringQ_len]; omega) HTRI.out.st (ring_writes k hk10) HTRI.out.sx (by rw [roots_len]; omega)).mono ?_
          rintro e w6 ⟨v6, rfl, hown, hf6⟩
          have hstk := ring_stuck k hk10 hk2
          rw [roots_len, hstk] at hown
          obtain ⟨A6, c6, rfl, hv6, -⟩ := ValsAt.of_own hown
          have hl6 : ((List.range k).map fun (i : Nat) => (i : Int)).length = k := by simp
          rw [hl6]
          obtain ⟨b6, o6, rfl, hc6⟩ := hv6.plain (by simp; omega)
          have HC6 : Hid (∀ wx, Fr F0 w6 wx → ∀ i : Nat, i < k → wx.cell? ⟨b6, o6 + i, none⟩ = some (.int .i64 (i : Int))) := Lib.hid (fun wx hf i hi => by
            have h1 := hc6 i (.int .i64 (i : Int)) (by simp [hi])
            exact (World.cell?_of_block (w := w6) (hf.block _ (World.block_lt_of_cell? _ _ h1) (fun h => h))).trans h1)
          have HT6 := Lib.hid (HTRI.out.keep0 hf6)
          have HF6 := Lib.hid (HF.out.then0 hf6)
          clear hown hv6 hl6 hc6 hf6 hstk
          go_wp2_with fail
          go_loopg [20] k (fun kq x20 wr => ∃ i : Nat, i ≤ k ∧ kq = k - i ∧ x20 = .int .i64 (i : Int) ∧ Fr F0 w6 wr)
          case atStart => exact ⟨0, by omega, rfl, rfl, Fr.refl _ _⟩
          case round =>
            obtain ⟨i, hi, rfl, rfl, hf⟩ := hrel
            have HFi := Lib.hid hf
            clear hf
            have i0 : (0 : Int) ≤ (i : Int) := Int.natCast_nonneg _
            by_cases hlt : i < k
            · have i1 : (i : Int) < (k : Int) := by omega
              have hc := HC6.out wr HFi.out i hlt
              have gne : ((i : Int) != (i : Int)) = false := by simp
              go_wp2_with fail
              go_roundg (k - (i + 1))
              case measure => omega
              case rel => exact ⟨i + 1, by omega, rfl, by first | rfl | (go_num), HFi.out⟩
            · have i1 : ¬ (i : Int) < (k : Int) := by omega
              have HTS := Lib.hid (HT6.out.keep0 HFi.out)
              have HFS := Lib.hid (HF6.out.then0 HFi.out)
              go_wp2_with fail
              refine wp_region_last (S := F0) [false, false, false, false, false, false, false, false, false, false, false, false, false, false, false, false, false, false, false, false, false, true, false, false, false, false, false, false, false, false, false, false, false, false, false, false, false, false, false, false, false, false, false, false, false, false, false, false, false, false, false, false, false, false, false, false, false, false, false, false, false, false, false, false, false, false, false, false, false, false, false, false, false, false, false, false, false, false, false, false, false, false, false, false, false, false, false, false, false, false, false, false, false, false, true, true, true, true, true, true, true, false, false, false, false, false, false, false, false, false, false, false, false, false, false, false, false, false, false, false, false, false, false, false, false, false, false, false, false, false, false, false, false, false, false, false, false, false, false, false] [.eq (.agg #[.slice Aq k cq]), .eq (.int .i64 on), .eq (.int .i64 (s : Int)), .eq (.int .i64 (k : Int)), .eq (.int .i64 (v : Int)), ⟨fun u w1 => ∃ q, u = .slice (some ⟨q, 0, none⟩) 1 1 ∧ w1.heap[q]? = some (.cells #[.int .i64 (v : Int)] 3 (0, 0)), fun u w1 w2 ⟨q, h1, h3⟩ hf => ⟨q, h1, hf.keep0 h3⟩⟩, ⟨fun u w1 => ∃ v9, u = .agg #[v9] ∧ SlV 3 Wn.cells w1 v9 (dropQ (ringQ k k) [(v : Int)]), fun u w1 w2 ⟨v9, h1, h2⟩ hf => ⟨v9, h1, h2.keep0 hf⟩⟩, ⟨fun u w1 => ∃ b, u = .pointer (some ⟨b, 0, none⟩) ∧ wr.heap.size ≤ b ∧ w1.heap[b]? = some (.cells #[.slice none 0 0] 60 (0, 0)), fun u w1 w2 ⟨b, h1, h2, h3⟩ hf => ⟨b, h1, h2, hf.keep0 h3⟩⟩, .any] (by kernel_rfl) (by kernel_rfl) (by rfl) (by rfl) (by kernel_rfl) (fun us => ?steps) (fun us wz hG hall => ?fin)
              case steps =>
                simp only [fillL, Nat.reduceAdd]
                refine stepsHold.cons (fun wx hG hd K hK => ?_) ?_
                · rw [if_pos (wanted_none rfl)]
                  have hc : wx.cell? ⟨qb, 0, none⟩ = some (.slice Aq k cq) := by rw [cell_of (hG.keep0 HTS.out.bq)]; rfl
                  refine wp_value (w2 := wx) (v := .agg #[.slice Aq k cq]) ?_ (hK _ _ rfl (Fr.refl _ _))
                  clear hd hK
                  go_simp
                refine stepsHold.cons (fun wx hG hd K hK => ?_) ?_
                · rw [if_pos (wanted_none rfl)]
                  refine wp_value (w2 := wx) (v := .int .i64 on) ?_ (hK _ _ rfl (Fr.refl _ _))
                  clear hd hG hK
                  go_simp
                refine stepsHold.cons (fun wx hG hd K hK => ?_) ?_
                · have h95 : us 95 = (.int .i64 on) := deps_get hd 0 rfl rfl rfl rfl rfl
                  rw [if_pos (wanted_none rfl)]
                  have hw := HBS.out
                  refine wp_value (w2 := wx) (v := .int .i64 (s : Int)) ?_ (hK _ _ rfl (Fr.refl _ _))
                  clear hd hG hK
                  go_simp
                refine stepsHold.cons (fun wx hG hd K hK => ?_) ?_
                · rw [if_pos (wanted_none rfl)]
                  refine wp_value (w2 := wx) (v := .int .i64 (k : Int)) ?_ (hK _ _ rfl (Fr.refl _ _))
                  clear hd hG hK
                  go_simp
                refine stepsHold.cons (fun wx hG hd K hK => ?_) ?_
                · have h96 : us 96 = (.int .i64 (s : Int)) := deps_get hd 0 rfl rfl rfl rfl rfl
                  have h97 : us 97 = (.int .i64 (k : Int)) := deps_get hd 1 rfl rfl rfl rfl rfl
                  rw [if_pos (wanted_none rfl)]
                  have hw := HREM.out
                  have hw0 := HQ0.out
                  refine wp_value (w2 := wx) (v := .int .i64 (v : Int)) ?_ (hK _ _ rfl (Fr.refl _ _))
                  clear hd hG hK
                  go_simp
                refine stepsHold.cons (fun wx hG hd K hK => ?_) ?_
                · have h98 : us 98 = (.int .i64 (v : Int)) := deps_get hd 0 rfl rfl rfl rfl rfl
                  rw [if_pos (wanted_none rfl)]
                  refine wp_value (w2 := wx.alloc (.cells #[.int .i64 (v : Int)] 3)) (v := .slice (some ⟨wx.heap.size, 0, none⟩) 1 1) ?_ (hK _ _ ⟨_, rfl, alloc_at rfl _⟩ ((Fr.refl _ _).alloc _))
                  clear hd hK hG
                  go_simp
                refine stepsHold.cons (fun wx hG hd K hK => ?_) ?_
                · have h94 : us 94 = (.agg #[.slice Aq k cq]) := deps_get hd 0 rfl rfl rfl rfl rfl
                  have h99 := deps_get hd 1 rfl rfl rfl rfl rfl
                  rw [if_pos (wanted_none rfl)]
                  obtain ⟨q99, h99', hq99⟩ := h99
                  refine wp_call (w2 := wx) (f := 26) (args := #[.agg #[.slice Aq k cq], .slice (some ⟨q99, 0, none⟩) 1 1]) ?_ ?_
                  · clear hd hK
                    go_simp
                  · refine (drop_c (ls := [(v : Int)]) (n := 1) rfl (ValsAt.one hq99) (by decide) (HTS.out.sq.keep0 hG) (by rw [ringQ_len]; have := HK10.out; omega)).mono ?_
                    rintro e w9 ⟨v9, rfl, hs9, hf9⟩
                    exact ⟨_, rfl, hK _ _ ⟨v9, rfl, hs9⟩ hf9⟩
                refine stepsHold.cons (fun wx hG hd K hK => ?_) ?_
                · rw [if_pos (wanted_none rfl)]
                  refine wp_value (w2 := wx.alloc (.cells #[.slice none 0 0] 60)) (v := .pointer (some ⟨wx.heap.size, 0, none⟩)) ?_ (hK _ _ ⟨_, rfl, hG.size, alloc_at rfl _⟩ ((Fr.refl _ _).alloc _))
                  clear hd hG hK
                  go_simp
                exact stepsHold.nil
              case fin =>
                have h94 : us 94 = (.agg #[.slice Aq k cq]) := all_get hall 0 rfl rfl rfl
                have h95 : us 95 = (.int .i64 on) := all_get hall 1 rfl rfl rfl
                have h96 : us 96 = (.int .i64 (s : Int)) := all_get hall 2 rfl rfl rfl
                have h97 : us 97 = (.int .i64 (k : Int)) := all_get hall 3 rfl rfl rfl
                have h98 : us 98 = (.int .i64 (v : Int)) := all_get hall 4 rfl rfl rfl
                have h99 := all_get hall 5 rfl rfl rfl
                have h100 := all_get hall 6 rfl rfl rfl
                have h21 := all_get hall 7 rfl rfl rfl
                simp only [fillL, Nat.reduceAdd]
                clear hall
                simp only [h94, h95, h96, h97, h98]
                clear h94 h95 h96 h97 h98
                obtain ⟨rb, e21, hrb, hrc⟩ := h21
                obtain ⟨v9, e100, hs9⟩ := h100
                refine wp_store_at 60 (.tmp 21) (.tmp 100) rfl rb 0 [v9] (by exact e21) (by exact e100) 60 [.slice none 0 0] hrc size_queue (Nat.le_refl 1) (by obtain ⟨A9, c9, rfl, -⟩ := hs9.ex; simp [Value.oneCell']) ?_
                obtain ⟨W7, hW7⟩ : ∃ W7, W7 = wz.setRow rb (splat [.slice none 0 0] 0 [v9]).toArray := ⟨_, rfl⟩
                have hf7 : Fr (fun b => b = rb) wz W7 := by rw [hW7]; exact (Fr.refl _ _).setRow (by exact .inl rfl) _
                have hf07 : Fr F0 wr W7 := hG.trans hf7 (fun b hb => .inr (by rw [hb]; exact hrb))
                have HRB : Hid (W7.heap[rb]? = some (.cells #[v9] 60 (0, 0))) := Lib.hid (by rw [hW7, setRow_heap _ _ _ _ _ _ hrc]; rfl)
                have HSR := Lib.hid (hs9.box Wn.len hrc (by show 1 < 3; decide) hf7)
                have HT7 := Lib.hid (HTS.out.keep0 hf07)
                have HF7 := Lib.hid (HFS.out.then0 hf07)
                obtain ⟨A9, c9, rfl, -⟩ := hs9.ex
                obtain ⟨n9, hn9⟩ : ∃ n9, n9 = (dropQ (ringQ k k) [(v : Int)]).length := ⟨_, rfl⟩
                rw [← hn9] at HRB HSR
                rw [← hW7, e21]
                have HRSQ := Lib.hid (ring_sane_drop k hk10 hk2 v hvk)
                have kq : W7.cell? ⟨qb, 0, none⟩ = some (.slice Aq k cq) := by rw [cell_of HT7.out.bq]; rfl
                have ka : W7.cell? ⟨tb + 1, 0, none⟩ = some (.slice At k ct) := by rw [cell_of HT7.out.bt]; rfl
                have kt : W7.cell? ⟨tb, 0, none⟩ = some (.slice Aj k cj) := by rw [cell_of HT7.out.bx]; rfl
                have kt1 : W7.cell? ⟨tb, 1, none⟩ = some (.int .i64 (k : Int)) := by rw [cell_of HT7.out.bx]; rfl
                clear hW7 hf7 hf07 hG hs9 e21 hrb hrc e100 hn9
                go_wp2_with fail
                clear kq ka kt kt1
                have HRB7 := HRB
                refine (victim_c k HT7.out.sq HSQ.out.ok (by rw [ringQ_len]; omega) HT7.out.st (ring_writes k hk10) HT7.out.sx (by rw [roots_len]; omega)).mono ?_
                rintro e w8 ⟨rfl, hf8⟩
                have hvi : victimI (roots k) (writesR k) (ringQ k k) = (k : Int) - 1 := by
                  unfold victimI
                  rw [roots_len, ring_stuck k hk10 hk2, if_neg (by simp; omega), ring_max k hk10 hk2]
                rw [hvi]
                have hw1 : IntKind.i64.wrap ((k : Int) - 1) = (k : Int) - 1 := by rw [IntKind.wrap_i64]; omega
                have geq : ((k : Int) - 1 == (k : Int) - 1) = true := by simp
                have HT8 := Lib.hid (HT7.out.keep0 hf8)
                have HRB8 := Lib.hid (hf8.keep0 HRB7.out)
                have HF8 := Lib.hid (HF7.out.then0 hf8)
                have kq : w8.cell? ⟨qb, 0, none⟩ = some (.slice Aq k cq) := by rw [cell_of HT8.out.bq]; rfl
                have kr : w8.cell? ⟨rb, 0, none⟩ = some (.slice A9 n9 c9) := by rw [cell_of HRB8.out]; rfl
                have ka : w8.cell? ⟨tb + 1, 0, none⟩ = some (.slice At k ct) := by rw [cell_of HT8.out.bt]; rfl
                have kt : w8.cell? ⟨tb, 0, none⟩ = some (.slice Aj k cj) := by rw [cell_of HT8.out.bx]; rfl
                have kt1 : w8.cell? ⟨tb, 1, none⟩ = some (.int .i64 (k : Int)) := by rw [cell_of HT8.out.bx]; rfl
                have HX8 := Lib.hid hf8
                clear hvi hf8
                go_wp2_with fail
                clear hw1 geq
                clear kq kr ka kt kt1
                refine (ready_c k HT8.out.sq HSQ.out.ok (by rw [ringQ_len]; omega) HT8.out.st (ring_writes k hk10) HT8.out.sx (by rw [roots_len]; omega)).mono ?_
                rintro e w10 ⟨v10, rfl, hown10, hf10⟩
                rw [(ring_edges k hk10 hk2).2] at hown10
                obtain ⟨A10, c10, rfl⟩ := hown10.exn (n := 0) rfl
                have HT10 := Lib.hid (HT8.out.keep0 hf10)
                have HRB10 := Lib.hid (hf10.keep0 HRB8.out)
                have HF10 := Lib.hid (HF8.out.then0 hf10)
                have kq : w10.cell? ⟨qb, 0, none⟩ = some (.slice Aq k cq) := by rw [cell_of HT10.out.bq]; rfl
                have kr : w10.cell? ⟨rb, 0, none⟩ = some (.slice A9 n9 c9) := by rw [cell_of HRB10.out]; rfl
                have ka : w10.cell? ⟨tb + 1, 0, none⟩ = some (.slice At k ct) := by rw [cell_of HT10.out.bt]; rfl
                have kt : w10.cell? ⟨tb, 0, none⟩ = some (.slice Aj k cj) := by rw [cell_of HT10.out.bx]; rfl
                have kt1 : w10.cell? ⟨tb, 1, none⟩ = some (.int .i64 (k : Int)) := by rw [cell_of HT10.out.bx]; rfl
                have HX10 := Lib.hid hf10
                clear hown10 hf10
                go_wp2_with fail
                clear kq kr ka kt kt1
                have HS10 : Hid (SlV 3 Wn.cells w10 (.slice A9 n9 c9) (dropQ (ringQ k k) [(v : Int)])) := Lib.hid ((HSR.out.keep0 HX8.out).keep0 HX10.out)
                have hdl : (dropQ (ringQ k k) [(v : Int)]).length ≤ 64 := Nat.le_trans (List.length_filter_le _ _) (by rw [ringQ_len]; omega)
                have hfree := ring_free k hk10 hk2 v hvk
                refine (stuck_c k HS10.out (saneQ_of HRSQ.out).ok hdl HT10.out.st (ring_writes k hk10) HT10.out.sx (by rw [roots_len]; omega)).mono ?_
                rintro e w11 ⟨v11, rfl, hown11, hf11⟩
                rw [roots_len, hfree] at hown11
                obtain ⟨A11, c11, rfl, -⟩ := ValsAt.of_own hown11
                have HT11 := Lib.hid (HT10.out.keep0 hf11)
                have HRB11 := Lib.hid (hf11.keep0 HRB10.out)
                have HF11 := Lib.hid (HF10.out.then0 hf11)
                have HS11 := Lib.hid (HS10.out.keep0 hf11)
                have kq : w11.cell? ⟨qb, 0, none⟩ = some (.slice Aq k cq) := by rw [cell_of HT11.out.bq]; rfl
                have kr : w11.cell? ⟨rb, 0, none⟩ = some (.slice A9 n9 c9) := by rw [cell_of HRB11.out]; rfl
                have ka : w11.cell? ⟨tb + 1, 0, none⟩ = some (.slice At k ct) := by rw [cell_of HT11.out.bt]; rfl
                have kt : w11.cell? ⟨tb, 0, none⟩ = some (.slice Aj k cj) := by rw [cell_of HT11.out.bx]; rfl
                have kt1 : w11.cell? ⟨tb, 1, none⟩ = some (.int .i64 (k : Int)) := by rw [cell_of HT11.out.bx]; rfl
                clear hown11 hf11
                go_wp2_with fail
                clear kq kr ka kt kt1
                refine (victim_c k HS11.out (saneQ_of HRSQ.out).ok hdl HT11.out.st (ring_writes k hk10) HT11.out.sx (by rw [roots_len]; omega)).mono ?_
                rintro e w12 ⟨rfl, hf12⟩
                have hvi : victimI (roots k) (writesR k) (dropQ (ringQ k k) [(v : Int)]) = -1 := by
                  unfold victimI
                  rw [roots_len, hfree]
                  rfl
                rw [hvi]
                have HF12 := Lib.hid (HF11.out.then0 hf12)
                clear hf12 hvi
                go_wp2_with fail
                go_ret
                exact ⟨rfl, HF12.out⟩
end
end Go.Proofs.Ytgbaijfgmeealaa
