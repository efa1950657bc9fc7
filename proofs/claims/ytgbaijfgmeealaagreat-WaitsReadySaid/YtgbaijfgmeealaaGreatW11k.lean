/-
  heronry/waits: Ready. heronry/waits: slices.Grow of none, slices.Concat of edges, Edges. heronry/waits: Edges, one behind the other. heronry/waits: what is reached by steps, plainly; slices.Clone of integers, an own row that is popped. Conditions: none.
-/
import Derived.Test.YtgbaijfgmeealaaGreatW11g
import Derived.Lib.AppendZeros
set_option linter.unusedVariables false
set_option linter.unusedSimpArgs false
namespace Go.Proofs.YtgbaijfgmeealaaGreat
open Go.RowKit
def readyTo (X : List Tx9) (L : List Lk) (Q : List Wn) (j : Nat) : List Wn := (List.range j).flatMap fun k => if (edgesOf X (wtL X L Q) k).length = 0 then (Q[k]?).toList else []
/-- The wants that wait for nobody. -/
def readyL (X : List Tx9) (L : List Lk) (Q : List Wn) : List Wn := readyTo X L Q Q.length
theorem readyTo_succ (X : List Tx9) (L : List Lk) (Q : List Wn) {j : Nat} {x : Wn} (h : Q[j]? = some x) : readyTo X L Q (j + 1) = readyTo X L Q j ++ (if (edgesOf X (wtL X L Q) j).length = 0 then [x] else []) := by
  unfold readyTo
  rw [List.range_succ, List.flatMap_append]
  congr 1
  simp [h]
theorem readyTo_len (X : List Tx9) (L : List Lk) (Q : List Wn) : ∀ j, (readyTo X L Q j).length ≤ j
  | 0 => Nat.le_refl 0
  | j + 1 => by
    have ih := readyTo_len X L Q j
    unfold readyTo at ih ⊢
    rw [List.range_succ, List.flatMap_append, List.length_append]
    have h1 : ((if (edgesOf X (wtL X L Q) j).length = 0 then (Q[j]?).toList else []) : List Wn).length ≤ 1 := by
      split
      · cases Q[j]? <;> simp
      · simp
    have h2 : ([j].flatMap fun k => if (edgesOf X (wtL X L Q) k).length = 0 then (Q[k]?).toList else []) = (if (edgesOf X (wtL X L Q) j).length = 0 then (Q[j]?).toList else []) := by simp
    rw [h2]
    omega
section
variable {w : World} {v vt u : Value} {Q : List Wn} {L : List Lk} {X : List Tx9}
set_option maxRecDepth 100000 in
set_option maxHeartbeats 4000000 in
theorem ready_c (clk : Int) (h : SlV 3 Wn.cells w v Q) (hq : ∀ x ∈ Q, x.Ok) (hn : Q.length ≤ 64) (hL : SlV 4 Lk.cells w vt L) (hLs : SaneL L) (hX : SlV 4 Tx9.cells w u X) (hXn : X.length ≤ 64) :
    Calls Tryz.prog 14 #[.agg #[v], .agg #[vt], .agg #[u, .int .i64 clk]] w fun e w' => ∃ v', e = .returned v' ∧ SlV 3 Wn.cells w' v' (readyL X L Q) ∧ Fr F0 w w' := by
  have HLV := Lib.hid hL
  have HXV := Lib.hid hX
  have HQ := Lib.hid h
  have HOK := Lib.hid hq
  have HLS := Lib.hid hLs
  have HXN := Lib.hid hXn
  obtain ⟨A, c, rfl, hsr, -⟩ := h.ex
  have HSR := Lib.hid hsr
  obtain ⟨At, ct, rfl, -⟩ := hL.ex
  obtain ⟨Ax, cx, rfl, -⟩ := hX.ex
  obtain ⟨n, hnn⟩ : ∃ n, n = Q.length := ⟨_, rfl⟩
  obtain ⟨nt, hnt⟩ : ∃ nt, nt = L.length := ⟨_, rfl⟩
  obtain ⟨nx, hnx⟩ : ∃ nx, nx = X.length := ⟨_, rfl⟩
  have HN := Lib.hid hnn
  rw [← hnn] at HQ
  rw [← hnt] at HLV
  rw [← hnx] at HXV
  rw [← hnn, ← hnt, ← hnx]
  have n0 : (0 : Int) ≤ (n : Int) := Int.natCast_nonneg _
  have hn64 : n ≤ 64 := by omega
  obtain ⟨W, hW⟩ : ∃ W, W = ((w.alloc (.cells #[.slice A n c] 28)).alloc (.cells #[.slice At nt ct] 34)).alloc (.cells #[.slice Ax nx cx, .int .i64 clk] 31) := ⟨_, rfl⟩
  have HF0 : Hid (Fr F0 w W) := Lib.hid (by rw [hW]; exact (((Fr.refl F0 w).alloc _).alloc _).alloc _)
  have H30 : Hid (W.heap[w.heap.size]? = some (.cells #[.slice A n c] 28 (0, 0))) := Lib.hid (by rw [hW]; exact keep_alloc (keep_alloc (alloc_at rfl _) _) _)
  have HW := Lib.hid hW
  obtain ⟨d, hu, hd⟩ := und_want
  have HU := Lib.hid hu
  have HDD := Lib.hid hd
  clear h hq hL hLs hX hXn hnn hnt hnx hW hu hd hn hsr
  go_enter Tryz.func14, Tryz.ntmps14
  go_wp2_with fail
  rw [← HW.out]
  refine (edges_c clk (HQ.out.keep0 HF0.out) HOK.out (by have := HN.out; omega) (HLV.out.keep0 HF0.out) HLS.out (HXV.out.keep0 HF0.out) HXN.out).mono ?_
  rintro e w1 ⟨g, cs, rfl, hgh, hcl, hed, -, hf1⟩
  rw [← HN.out] at hcl hed ⊢
  have HGH := Lib.hid hgh
  have HCL := Lib.hid hcl
  have HED := Lib.hid hed
  have HF1 := Lib.hid (HF0.out.then0 hf1)
  have H31 := Lib.hid (hf1.keep0 H30.out)
  clear hgh hcl hed hf1
  go_wp2_with fail
  go_loopg [7, 8, 9, 15] n (fun kq x7 x8 x9 x15 wr => ∃ j : Nat, j ≤ n ∧ kq = n - j ∧ x15 = .int .i64 (j : Int) ∧ wr.ownsRow w1.heap.size 46 3 x7 (readyTo X L Q j).length ((readyTo X L Q j).flatMap Wn.cells) ∧ Fr F0 w1 wr)
  case atStart => exact ⟨0, by omega, rfl, rfl, own_nil _ _ _ _, Fr.refl _ _⟩
  case round =>
    obtain ⟨j, hj, rfl, rfl, hown, hf⟩ := hrel
    have HO := Lib.hid hown
    have HF := Lib.hid hf
    clear hown hf
    have j0 : (0 : Int) ≤ (j : Int) := Int.natCast_nonneg _
    by_cases hlt : j < n
    · have j1 : (j : Int) < (n : Int) := by omega
      have hjl : j < Q.length := by have := HN.out; omega
      obtain ⟨E, hE⟩ : ∃ E, E = edgesOf X (wtL X L Q) j := ⟨_, rfl⟩
      obtain ⟨u9', hcu, hou⟩ := HED.out.get j E (by rw [List.getElem?_map, List.getElem?_range hlt, hE]; rfl)
      obtain ⟨AE, cE, rfl, -⟩ := SrAt.of_own Ed.len hou
      obtain ⟨mE, hmE⟩ : ∃ mE, mE = E.length := ⟨_, rfl⟩
      rw [← hmE] at hcu
      have kE : wr.cell? ⟨g, j, none⟩ = some (.slice AE mE cE) := by rw [cell_of (HF.out.keep0 HGH.out), List.getElem?_toArray]; exact hcu
      obtain ⟨b, off, rfl, hc⟩ := (HSR.out.keep0 (HF1.out.then0 HF.out)).get (List.getElem?_eq_getElem hjl) (Wn.pos _)
      have hx := List.getElem?_eq_getElem hjl
      obtain ⟨x, hxe⟩ : ∃ x, x = Q[j] := ⟨_, rfl⟩
      rw [← hxe] at hc hx
      have HST := Lib.hid (readyTo_succ X L Q hx)
      have HME : Hid (mE = (edgesOf X (wtL X L Q) j).length) := Lib.hid (by rw [hmE, hE])
      have hlen := readyTo_len X L Q j
      have k3 : wr.cell? ⟨w.heap.size, 0, none⟩ = some (.slice (some ⟨b, off, none⟩) n c) := by rw [cell_of (HF.out.keep0 H31.out)]; rfl
      have hz : w1.heap.size ≤ wr.heap.size := HF.out.size
      obtain ⟨x1, x2, x3⟩ := x
      have HCS : Hid (∀ i v, (Wn.cells ⟨x1, x2, x3⟩)[i]? = some v → wr.cell? ⟨b, off + j * 3 + i, none⟩ = some v) := Lib.hid hc
      clear hcu hou hE hmE hc hx hxe
      by_cases hm0 : mE = 0
      · have HS2 : Hid (readyTo X L Q (j + 1) = readyTo X L Q j ++ [⟨x1, x2, x3⟩]) := Lib.hid (by rw [HST.out, if_pos (by rw [← HME.out]; exact hm0)])
        have g1 : ((mE : Int) == 0) = true := by simp [hm0]
        clear hm0
        go_wp2_with (first | (refine wpList_load_at rfl 46 (.tmp 27) rfl b (off + j * 3) (by rfl) (Wn.cells ⟨x1, x2, x3⟩) d HCS.out HU.out HDD.out size_want ?_; simp only [Wn.cells, List.toArray]) | (at_builtin; refine wpList_append_oneS (f := Wn.cells) rfl (.tmp 23) (.tmp 29) 26 24 (.agg #[.int .i64 0, .int .i64 0, .int .i64 0]) rfl Tryz.underlying26 info_want (by rfl) (by decide) (by decide) Wn.len Wn.one w1.heap.size u7 (readyTo X L Q j) ⟨x1, x2, x3⟩ wr.heap.size rfl (by rfl) (by rfl) HO.out hz (by omega) ?_; intro v5 w5 hown5 hf5 _))
        go_roundg (n - (j + 1))
        case measure => omega
        case rel => exact ⟨j + 1, by omega, rfl, by first | rfl | (go_num), by rw [HS2.out]; exact hown5, HF.out.trans hf5 (fun k hk => .inr (own_ge HO.out hk))⟩
      · have HS2 : Hid (readyTo X L Q (j + 1) = readyTo X L Q j) := Lib.hid (by rw [HST.out, if_neg (by rw [← HME.out]; exact hm0), List.append_nil])
        have g1 : ((mE : Int) == 0) = false := by simp; omega
        clear hm0
        go_wp2_with fail
        go_roundg (n - (j + 1))
        case measure => omega
        case rel => exact ⟨j + 1, by omega, rfl, by first | rfl | (go_num), by rw [HS2.out]; exact HO.out, HF.out⟩
    · have hjn : j = n := by omega
      subst hjn
      go_wp2_with fail
      go_ret
      have h1 : readyL X L Q = readyTo X L Q j := by unfold readyL; rw [← HN.out]
      exact ⟨_, rfl, by rw [h1]; exact SlV.of_own Wn.len HO.out, HF1.out.then0 HF.out⟩
end
end Go.Proofs.YtgbaijfgmeealaaGreat
set_option linter.unusedVariables false
set_option linter.unusedSimpArgs false
namespace Go.Proofs.YtgbaijfgmeealaaGreat
open Go.RowKit
theorem app_zeros_ed (w : World) (n : Nat) (h0 : 0 < n) (hn : n ≤ 10000000) : ∃ (C : Nat) (W : World), W.ownsRow w.heap.size 62 2 (.slice (some ⟨w.heap.size, 0, none⟩) 0 C) 0 [] ∧ n ≤ C ∧ Fr F0 w W ∧ ∀ ty, (Builtin.append_ #[59, 3] ty #[.slice none 0 0, .int .i64 (n : Int)]).run Tryz.prog w = .ok (.slice (some ⟨w.heap.size, 0, none⟩) n C) W := by
  obtain ⟨i0, hi0, hzz⟩ := Option.map_eq_some_iff.1 info_edge
  simp only [Prod.mk.injEq] at hzz
  obtain ⟨hz0, hz1, hz2⟩ := hzz
  have hr := fun ty => Lib.run_append_nil_zeros (P := Tryz.prog) w 59 3 ty 62 i0 _ .i64 .i64 Tryz.underlying59 und9_int hi0 hz0 n h0 (by rw [hz1]; decide) (by omega) (by rw [hz2]; omega)
  have hC := grownCap_ge w n 0 62
  have hC2 := grownCap_le_maxLen w n 0 62 (by simp only [maxLen]; omega)
  refine ⟨grownCap w n 0 62, _, ?_, hC, ((Fr.refl F0 w).drew).alloc _, hr⟩
  refine own_of_parts (cur := (Builtin.zeroCells (Value.agg #[.int .i64 0, .int .i64 0]).cells n).toList ++ (Builtin.zeroCells (Value.agg #[.int .i64 0, .int .i64 0]).cells (grownCap w n 0 62 - n)).toList) ?_ (Nat.le_refl _) (Nat.zero_le _) hC2 ?_ rfl (by simp)
  · rw [alloc_at (w := w.drew) (b := w.heap.size) rfl]
    have e : ∀ (z1 z2 : Array Value), z1 ++ z2 = (z1.toList ++ z2.toList).toArray := fun z1 z2 => by apply Array.ext'; simp
    rw [e]
  · rw [List.length_append]
    simp only [Array.length_toList, size_zeroCells]
    show n * 2 + (grownCap w n 0 62 - n) * 2 = _
    omega
section
variable {w : World}
set_option maxRecDepth 100000 in
set_option maxHeartbeats 1000000 in
theorem grow_c (n : Nat) (hn : n ≤ 10000000) : Calls Tryz.prog 73 #[.slice none 0 0, .int .i64 (n : Int)] w fun e w' => ∃ v', e = .returned v' ∧ w'.ownsRow w.heap.size 62 2 v' 0 [] ∧ Fr F0 w w' := by
  have n0 : (0 : Int) ≤ (n : Int) := Int.natCast_nonneg _
  have hw : IntKind.i64.wrap (n : Int) = (n : Int) := by rw [IntKind.wrap_i64]; omega
  rcases Nat.eq_zero_or_pos n with h0 | h0
  · subst h0
    go_enter Tryz.func73, Tryz.ntmps73
    go_wp2_with fail
    go_ret
    exact ⟨_, rfl, own_nil _ _ _ _, Fr.refl _ _⟩
  · have n1 : (0 : Int) < (n : Int) := by omega
    obtain ⟨C, W, hown, hC, hf, hr⟩ := app_zeros_ed w n h0 hn
    have HO := Lib.hid hown
    have HF := Lib.hid hf
    have HR := Lib.hid hr
    clear hown hf hr
    go_enter Tryz.func73, Tryz.ntmps73
    go_wp2_with (at_builtin; refine Lib.wpList_append_run _ rfl (.tmp 20) (.tmp 21) _ _ rfl (.slice none 0 0) (.int .i64 (n : Int)) (by rfl) (by rfl) _ _ (HR.out _) ?_)
    go_ret
    exact ⟨_, rfl, HO.out, HF.out⟩
theorem flat_le : ∀ (EE : List (List Ed)), (∀ E ∈ EE, E.length ≤ 100000) → EE.flatten.length ≤ EE.length * 100000
  | [], _ => by simp
  | E :: l, h => by
    have h1 := flat_le l (fun x hx => h x (List.mem_cons_of_mem _ hx))
    have h2 := h E List.mem_cons_self
    rw [List.flatten_cons, List.length_append, List.length_cons]
    omega
theorem flat_step {EE : List (List Ed)} {j : Nat} {E : List Ed} (h : EE[j]? = some E) : (EE.take (j + 1)).flatten = (EE.take j).flatten ++ E := by
  rw [List.take_add_one, h, List.flatten_append]
  simp
theorem app_none_ed (w : World) (v : Value) (hv : v = .slice none 0 0 ∨ ∃ b n c, n ≤ c ∧ v = .slice (some ⟨b, 0, none⟩) n c) : ∀ ty, (Builtin.append_ #[59, 59] ty #[v, .slice none 0 0]).run Tryz.prog w = .ok v w := by
  obtain ⟨i0, hi0, hzz⟩ := Option.map_eq_some_iff.1 info_edge
  intro ty
  rcases hv with rfl | ⟨b, n, c, hnc, rfl⟩
  · simp [Builtin.append_, run_underlying Tryz.underlying59, sizeOf, typeInfo, hi0, Builtin.lenOf, Builtin.firstCells, storeCells]
  · simp [Builtin.append_, run_underlying Tryz.underlying59, sizeOf, typeInfo, hi0, Builtin.lenOf, Builtin.firstCells, storeCells, hnc]
set_option maxRecDepth 100000 in
set_option maxHeartbeats 2000000 in
theorem concat_c {g n : Nat} {cs : List Value} {EE : List (List Ed)} (hgh : w.heap[g]? = some (.cells cs.toArray 59 (0, 0))) (hcl : cs.length = n) (hel : EE.length = n) (hed : EdsAt w g cs EE) (hn : n ≤ 64) (hE : ∀ E ∈ EE, E.length ≤ 100000) :
    Calls Tryz.prog 45 #[.slice (some ⟨g, 0, none⟩) n n] w fun e w' => ∃ v', e = .returned v' ∧ SlV 2 Ed.cells w' v' EE.flatten ∧ Fr F0 w w' := by
  have HGH := Lib.hid hgh
  have HCL := Lib.hid hcl
  have HEL := Lib.hid hel
  have HED := Lib.hid hed
  have HE := Lib.hid hE
  have HB : Hid (∀ j, (EE.take j).flatten.length ≤ 6400000) := Lib.hid (fun j => by
    have h1 := flat_le (EE.take j) (fun E hx => hE E (List.mem_of_mem_take hx))
    rw [List.length_take] at h1
    have : min j EE.length * 100000 ≤ 64 * 100000 := Nat.mul_le_mul_right _ (by omega)
    omega)
  have n0 : (0 : Int) ≤ (n : Int) := Int.natCast_nonneg _
  clear hgh hcl hel hed hE
  go_enter Tryz.func45, Tryz.ntmps45
  go_wp2_with fail
  go_loopg [3, 5, 11] n (fun kq x3 x5 x11 wr => ∃ (j s : Nat), j ≤ n ∧ kq = n - j ∧ x11 = .int .i64 (j : Int) ∧ x3 = .int .i64 (s : Int) ∧ s = (EE.take j).flatten.length ∧ Fr F0 w wr)
  case atStart => exact ⟨0, 0, by omega, rfl, rfl, rfl, by simp, Fr.refl _ _⟩
  case round =>
    obtain ⟨j, s, hj, rfl, rfl, rfl, hs, hf⟩ := hrel
    have HF := Lib.hid hf
    have HS := Lib.hid hs
    have hs1 : s ≤ 6400000 := by rw [hs]; exact HB.out j
    clear hf hs
    have j0 : (0 : Int) ≤ (j : Int) := Int.natCast_nonneg _
    have s0 : (0 : Int) ≤ (s : Int) := Int.natCast_nonneg _
    by_cases hlt : j < n
    · have j1 : (j : Int) < (n : Int) := by omega
      have hjl : j < EE.length := by rw [HEL.out]; exact hlt
      obtain ⟨u5', hcu, hou⟩ := HED.out.get j _ (List.getElem?_eq_getElem hjl)
      obtain ⟨E, hEE⟩ : ∃ E, E = EE[j] := ⟨_, rfl⟩
      have HST : Hid ((EE.take (j + 1)).flatten = (EE.take j).flatten ++ E) := Lib.hid (by rw [hEE]; exact flat_step (List.getElem?_eq_getElem hjl))
      have hle : E.length ≤ 100000 := by rw [hEE]; exact HE.out _ (List.getElem_mem hjl)
      rw [← hEE] at hou
      obtain ⟨AE, cE, rfl, -⟩ := SrAt.of_own Ed.len hou
      obtain ⟨mE, hmE⟩ : ∃ mE, mE = E.length := ⟨_, rfl⟩
      have HME := Lib.hid hmE
      rw [← hmE] at hcu
      have hmE1 : mE ≤ 100000 := by rw [hmE]; exact hle
      have kE : wr.cell? ⟨g, j, none⟩ = some (.slice AE mE cE) := by rw [cell_of (HF.out.keep0 HGH.out), List.getElem?_toArray]; exact hcu
      have hw : IntKind.i64.wrap ((s : Int) + (mE : Int)) = ((s + mE : Nat) : Int) := by rw [IntKind.wrap_i64]; omega
      have hw2 : ¬ ((s + mE : Nat) : Int) < 0 := by omega
      clear hcu hou hEE hmE hle
      go_wp2_with fail
      go_roundg (n - (j + 1))
      case measure => omega
      case rel => exact ⟨j + 1, s + mE, by omega, rfl, by first | rfl | (go_num), by first | rfl | (go_num), by rw [HST.out, List.length_append, HS.out, HME.out], HF.out⟩
    · have hjn : j = n := by omega
      subst hjn
      go_wp2_with fail
      refine (grow_c s (by omega)).mono ?_
      rintro e w2 ⟨v2, rfl, hown2, hf2⟩
      have HO2 := Lib.hid hown2
      have HF2 := Lib.hid (HF.out.then0 hf2)
      obtain ⟨base, hbase⟩ : ∃ base, base = wr.heap.size := ⟨_, rfl⟩
      rw [← hbase] at HO2
      have HBW : Hid (w.heap.size ≤ base) := Lib.hid (by rw [hbase]; exact HF.out.size)
      have HBZ : Hid (base ≤ w2.heap.size) := Lib.hid (by rw [hbase]; exact hf2.size)
      clear hown2 hf2 hbase HS
      go_wp2_with fail
      go_loopg [6, 8, 27] j (fun kq x6 x8 x27 wr => ∃ (q : Nat), q ≤ j ∧ kq = j - q ∧ x27 = .int .i64 (q : Int) ∧ wr.ownsRow base 62 2 x6 (EE.take q).flatten.length ((EE.take q).flatten.flatMap Ed.cells) ∧ Fr F0 w wr ∧ base ≤ wr.heap.size)
      case atStart => exact ⟨0, by omega, rfl, rfl, by simpa using HO2.out, HF2.out, HBZ.out⟩
      case round =>
        obtain ⟨q, hq, rfl, rfl, hown, hf, hz⟩ := hrel
        have HO := Lib.hid hown
        have HF3 := Lib.hid hf
        have HZ := Lib.hid hz
        clear hown hf hz
        have q0 : (0 : Int) ≤ (q : Int) := Int.natCast_nonneg _
        by_cases hlt2 : q < j
        · have q1 : (q : Int) < (j : Int) := by omega
          have hql : q < EE.length := by rw [HEL.out]; exact hlt2
          obtain ⟨u5', hcu, hou⟩ := HED.out.get q _ (List.getElem?_eq_getElem hql)
          obtain ⟨E, hEE⟩ : ∃ E, E = EE[q] := ⟨_, rfl⟩
          have HST : Hid ((EE.take (q + 1)).flatten = (EE.take q).flatten ++ E) := Lib.hid (by rw [hEE]; exact flat_step (List.getElem?_eq_getElem hql))
          have hle : E.length ≤ 100000 := by rw [hEE]; exact HE.out _ (List.getElem_mem hql)
          rw [← hEE] at hou
          have kE0 : wr.cell? ⟨g, q, none⟩ = some u5' := by rw [cell_of (HF3.out.keep0 HGH.out), List.getElem?_toArray]; exact hcu
          have HLEN : Hid (((EE.take q).flatten.length + E.length) * 16 ≤ 140737488355328) := Lib.hid (by have := HB.out q; omega)
          have hsr := SrAt.of_own Ed.len (own_keep0 hou HF3.out)
          rcases hou.2 with ⟨rfl, h0⟩ | ⟨gE, capE, curE, rfl, -⟩
          · have hE0 : E = [] := List.eq_nil_of_length_eq_zero h0
            have HE0 : Hid ((EE.take (q + 1)).flatten = (EE.take q).flatten) := Lib.hid (by rw [HST.out, hE0, List.append_nil])
            have hv6 : u6 = .slice none 0 0 ∨ ∃ b n c, n ≤ c ∧ u6 = .slice (some ⟨b, 0, none⟩) n c := by
              rcases HO.out.2 with ⟨h, _⟩ | ⟨b, c, _, h, _, _, hnc, _⟩
              · exact .inl h
              · exact .inr ⟨b, _, c, hnc, h⟩
            have HAPN := Lib.hid (app_none_ed wr u6 hv6)
            clear hcu hou hEE hle hsr hE0 hv6
            go_wp2_with (at_builtin; refine Lib.wpList_append_run _ rfl (.tmp 31) (.tmp 32) _ _ rfl u6 (.slice none 0 0) (by rfl) (by rfl) _ _ (HAPN.out _) ?_)
            go_roundg (j - (q + 1))
            case measure => omega
            case rel => exact ⟨q + 1, by omega, rfl, by first | rfl | (go_num), by rw [HE0.out]; exact HO.out, HF3.out, HZ.out⟩
          · obtain ⟨A', c', e', hsr', -⟩ := hsr
            cases e'
            have HSR := Lib.hid hsr'
            clear hcu hou hEE hle hsr'
            go_wp2_with (at_builtin; refine wpList_append_rowS (f := Ed.cells) rfl (.tmp 31) (.tmp 32) 59 16 (.agg #[.int .i64 0, .int .i64 0]) rfl Tryz.underlying59 info_edge (by rfl) (by decide) (by decide) Ed.len Ed.one base u6 (EE.take q).flatten E gE 0 capE (by rfl) (by rfl) HO.out HSR.out HZ.out HLEN.out ?_; intro v5 w5 hown5 hf5 _)
            go_roundg (j - (q + 1))
            case measure => omega
            case rel => exact ⟨q + 1, by omega, rfl, by first | rfl | (go_num), by rw [HST.out]; exact hown5, HF3.out.trans hf5 (fun k hk => .inr (Nat.le_trans HBW.out (own_ge HO.out hk))), Nat.le_trans HZ.out hf5.size⟩
        · have hqj : q = j := by omega
          subst hqj
          go_wp2_with fail
          go_ret
          have h1 : EE.take q = EE := by rw [← HEL.out, List.take_length]
          have h2 := SlV.of_own Ed.len HO.out
          rw [h1] at h2
          exact ⟨_, rfl, h2, HF3.out⟩
end
end Go.Proofs.YtgbaijfgmeealaaGreat
set_option linter.unusedVariables false
set_option linter.unusedSimpArgs false
namespace Go.Proofs.YtgbaijfgmeealaaGreat
open Go.RowKit
/-- Who waits for whom. -/
def edL (X : List Tx9) (L : List Lk) (Q : List Wn) : List Ed := ((List.range Q.length).map (edgesOf X (wtL X L Q))).flatten
theorem edgesOf_len {X : List Tx9} {L : List Lk} {Q : List Wn} (hL : SaneL L) (hn : Q.length ≤ 64) (k : Nat) : (edgesOf X (wtL X L Q) k).length ≤ 100000 := by
  unfold edgesOf
  cases h : (wtL X L Q)[k]? with
  | none => simp
  | some a =>
    have ha := List.mem_of_getElem? h
    have h1 : a.ag.length ≤ 16384 := by
      unfold wtL at ha
      obtain ⟨x, -, rfl⟩ := List.mem_map.1 ha
      show (againstL X L x.tx x.block x.mode).length ≤ 16384
      unfold againstL
      rw [List.length_map]
      have h1 := List.length_filter_le (agB X x.tx x.block x.mode) L
      have h2 := sane_len hL
      omega
    have h2 : (edAhead X a ((wtL X L Q).take k)).length ≤ 64 := by
      unfold edAhead
      rw [List.length_map]
      have h3 := List.length_filter_le (fun b : Wt => holdsB X b.w b.ag a.w) ((wtL X L Q).take k)
      rw [List.length_take] at h3
      have h4 : (wtL X L Q).length = Q.length := by unfold wtL; rw [List.length_map]
      omega
    show (edAg a a.ag.length ++ edAhead X a ((wtL X L Q).take k)).length ≤ 100000
    rw [List.length_append]
    have h5 : (edAg a a.ag.length).length ≤ a.ag.length := by
      unfold edAg
      rw [List.length_map, List.length_take]
      omega
    omega
section
variable {w : World} {v vt u : Value} {Q : List Wn} {L : List Lk} {X : List Tx9}
set_option maxRecDepth 100000 in
set_option maxHeartbeats 2000000 in
theorem edges2_c (clk : Int) (h : SlV 3 Wn.cells w v Q) (hq : ∀ x ∈ Q, x.Ok) (hn : Q.length ≤ 64) (hL : SlV 4 Lk.cells w vt L) (hLs : SaneL L) (hX : SlV 4 Tx9.cells w u X) (hXn : X.length ≤ 64) :
    Calls Tryz.prog 20 #[.agg #[v], .agg #[vt], .agg #[u, .int .i64 clk]] w fun e w' => ∃ v', e = .returned v' ∧ SlV 2 Ed.cells w' v' (edL X L Q) ∧ Fr F0 w w' := by
  have HLV := Lib.hid hL
  have HXV := Lib.hid hX
  have HQ := Lib.hid h
  have HOK := Lib.hid hq
  have HLS := Lib.hid hLs
  have HXN := Lib.hid hXn
  have HQN := Lib.hid hn
  obtain ⟨A, c, rfl, -⟩ := h.ex
  obtain ⟨At, ct, rfl, -⟩ := hL.ex
  obtain ⟨Ax, cx, rfl, -⟩ := hX.ex
  obtain ⟨n, hnn⟩ : ∃ n, n = Q.length := ⟨_, rfl⟩
  obtain ⟨nt, hnt⟩ : ∃ nt, nt = L.length := ⟨_, rfl⟩
  obtain ⟨nx, hnx⟩ : ∃ nx, nx = X.length := ⟨_, rfl⟩
  have HN := Lib.hid hnn
  rw [← hnn] at HQ
  rw [← hnt] at HLV
  rw [← hnx] at HXV
  rw [← hnn, ← hnt, ← hnx]
  obtain ⟨W, hW⟩ : ∃ W, W = ((w.alloc (.cells #[.slice A n c] 28)).alloc (.cells #[.slice At nt ct] 34)).alloc (.cells #[.slice Ax nx cx, .int .i64 clk] 31) := ⟨_, rfl⟩
  have HF0 : Hid (Fr F0 w W) := Lib.hid (by rw [hW]; exact (((Fr.refl F0 w).alloc _).alloc _).alloc _)
  have HW := Lib.hid hW
  clear h hq hL hLs hX hXn hnn hnt hnx hW hn
  go_enter Tryz.func20, Tryz.ntmps20
  go_wp2_with fail
  rw [← HW.out]
  refine (edges_c clk (HQ.out.keep0 HF0.out) HOK.out HQN.out (HLV.out.keep0 HF0.out) HLS.out (HXV.out.keep0 HF0.out) HXN.out).mono ?_
  rintro e w1 ⟨g, cs, rfl, hgh, hcl, hed, -, hf1⟩
  have HGH := Lib.hid hgh
  have HCL := Lib.hid hcl
  have HED := Lib.hid hed
  have HF1 := Lib.hid (HF0.out.then0 hf1)
  clear hgh hcl hed hf1
  go_wp2_with fail
  refine (concat_c (n := Q.length) HGH.out HCL.out (by rw [List.length_map, List.length_range]) HED.out HQN.out (fun E hE => ?_)).mono ?_
  · obtain ⟨k, -, rfl⟩ := List.mem_map.1 hE
    exact edgesOf_len HLS.out HQN.out k
  rintro e w2 ⟨v2, rfl, hs2, hf2⟩
  have HS2 := Lib.hid hs2
  have HF2 := Lib.hid (HF1.out.then0 hf2)
  clear hs2 hf2
  go_wp2_with fail
  go_ret
  exact ⟨_, rfl, HS2.out, HF2.out⟩
end
end Go.Proofs.YtgbaijfgmeealaaGreat
set_option linter.unusedVariables false
set_option linter.unusedSimpArgs false
namespace Go.Proofs.YtgbaijfgmeealaaGreat
open Go.RowKit
/-- What one comes to from some, by steps. -/
inductive Reach (step : Int → List Int) (start : List Int) : Int → Prop
  | here {y : Int} (h : y ∈ start) : Reach step start y
  | go {x y : Int} (h : Reach step start x) (hy : y ∈ step x) : Reach step start y
/-- The worklist's law: what is met and what waits. -/
structure Work (step : Int → List Int) (start wait met : List Int) : Prop where
  ok : ∀ y, y ∈ wait ∨ y ∈ met → Reach step start y
  first : ∀ y ∈ start, y ∈ wait ∨ y ∈ met
  next : ∀ x ∈ met, ∀ y ∈ step x, y ∈ wait ∨ y ∈ met
theorem Work.start {step : Int → List Int} {start : List Int} : Work step start start [] := ⟨fun y h => .here (h.resolve_right (by simp)), fun y h => .inl h, fun x h => by simp at h⟩
theorem Work.done {step : Int → List Int} {start met : List Int} (h : Work step start [] met) (y : Int) : y ∈ met ↔ Reach step start y := by
  constructor
  · exact fun hy => h.ok y (.inr hy)
  · intro hr
    induction hr with
    | here h0 => exact (h.first _ h0).resolve_left (by simp)
    | go _ hy ih => exact (h.next _ ih _ hy).resolve_left (by simp)
theorem Work.old {step : Int → List Int} {start wait met : List Int} {a : Int} (h : Work step start (wait ++ [a]) met) (ha : a ∈ met) : Work step start wait met := by
  have key : ∀ y, y ∈ wait ++ [a] ∨ y ∈ met → y ∈ wait ∨ y ∈ met := fun y hy => by
    rcases hy with hy | hy
    · rcases List.mem_append.1 hy with hy | hy
      · exact .inl hy
      · simp at hy; subst hy; exact .inr ha
    · exact .inr hy
  exact ⟨fun y hy => h.ok y (hy.imp (fun h => List.mem_append_left _ h) id), fun y hy => key y (h.first y hy), fun x hx y hy => key y (h.next x hx y hy)⟩
theorem Work.new {step : Int → List Int} {start wait met : List Int} {a : Int} (h : Work step start (wait ++ [a]) met) : Work step start (wait ++ step a) (met ++ [a]) := by
  have hra : Reach step start a := h.ok a (.inl (by simp))
  have key : ∀ y, y ∈ wait ++ [a] ∨ y ∈ met → y ∈ wait ++ step a ∨ y ∈ met ++ [a] := fun y hy => by
    rcases hy with hy | hy
    · rcases List.mem_append.1 hy with hy | hy
      · exact .inl (List.mem_append_left _ hy)
      · exact .inr (List.mem_append_right _ hy)
    · exact .inr (List.mem_append_left _ hy)
  refine ⟨fun y hy => ?_, fun y hy => key y (h.first y hy), fun x hx y hy => ?_⟩
  · rcases hy with hy | hy
    · rcases List.mem_append.1 hy with hy | hy
      · exact h.ok y (.inl (List.mem_append_left _ hy))
      · exact .go hra hy
    · rcases List.mem_append.1 hy with hy | hy
      · exact h.ok y (.inr hy)
      · simp at hy; subst hy; exact hra
  · rcases List.mem_append.1 hx with hx | hx
    · exact key y (h.next x hx y hy)
    · simp at hx; subst hx; exact .inl (List.mem_append_right _ hy)
/-- An own row, its last one left out. -/
theorem own_pop {α : Type} {m : Nat} {f : α → List Value} {w : World} {base n cap g : Nat} {t : TypeId} {l : List α} {x : α} (hm : ∀ x, (f x).length = m) (h : w.ownsRow base t m (.slice (some ⟨g, 0, none⟩) n cap) n ((l ++ [x]).flatMap f)) (hn : n = l.length + 1) : w.ownsRow base t m (.slice (some ⟨g, 0, none⟩) l.length cap) l.length (l.flatMap f) := by
  subst hn
  have h' : w.ownsRow base t m (.slice (some ⟨g, 0, none⟩) (l ++ [x]).length cap) (l ++ [x]).length ((l ++ [x]).flatMap f) := by rw [List.length_append]; exact h
  have h2 : w.ownsRow base t m (.slice (some ⟨g, 0, none⟩) (l.length + 1) cap) (l.length + 1) ((l ++ [x]).flatMap f) := h
  obtain ⟨rest, hh, hb, h1, h3, h4⟩ := own_parts h2
  have hfl := cells_flat_len f l (fun x _ => hm x)
  refine own_of_parts (cur := l.flatMap f ++ (f x ++ rest)) ?_ hb (by omega) h3 ?_ hfl ?_
  · rw [hh, List.flatMap_append]
    simp
  · rw [← h4, List.flatMap_append]
    simp
  · rw [← hfl, List.take_left]
theorem map_flat : ∀ ls : List Int, ls.map (Value.int .i64) = ls.flatMap fun x => [Value.int .i64 x]
  | [] => rfl
  | a :: l => by rw [List.map_cons, List.flatMap_cons, map_flat l]; rfl
section
variable {w : World} {ls : List Int}
set_option maxRecDepth 100000 in
set_option maxHeartbeats 1000000 in
theorem clone_ints {A : Option Addr} {n c : Nat} (hl : ls.length = n) (hA : ValsAt w A (ls.map (Value.int .i64))) (hn : n ≤ 10000000) (hnil : A = none → c = 0) (hsp : ∀ ad, A = some ad → ad.spot = none) :
    Calls Tryz.prog 46 #[.slice A n c] w fun e w' => ∃ v', e = .returned v' ∧ w'.ownsRow w.heap.size 3 1 v' ls.length (ls.map (Value.int .i64)) ∧ Fr F0 w w' := by
  have hmap := map_flat ls
  cases A with
  | none =>
    have hn0 : n = 0 := by
      rcases Nat.eq_zero_or_pos n with h | h
      · exact h
      · obtain ⟨ad, e, -⟩ := hA.cells (by rw [List.length_map]; omega)
        cases e
    have hc0 := hnil rfl
    have hls : ls = [] := List.eq_nil_of_length_eq_zero (by omega)
    subst hn0; subst hc0; subst hls
    have hq := Lib.run_eql_slice_nil_nil (P := Tryz.prog) w 0 0 Tryz.underlying37
    go_enter Tryz.func46, Tryz.ntmps46
    go_wp2_with fail
    go_ret
    exact ⟨_, rfl, own_nil _ _ _ _, Fr.refl _ _⟩
  | some ad =>
    obtain ⟨b, off, sp⟩ := ad
    have hsp' : sp = none := hsp _ rfl
    subst hsp'
    subst hl
    have hsr : SrAt 1 (fun x : Int => [Value.int .i64 x]) w (some ⟨b, off, none⟩) ls := ⟨fun i k x v hx hv => by
      have hk : k = 0 := by
        have := (List.getElem?_eq_some_iff.1 hv).1
        simp at this
        omega
      subst hk
      have hvx : v = .int .i64 x := by simpa using hv.symm
      subst hvx
      obtain ⟨b', off', e, hc⟩ := hA.plain (by rw [List.length_map]; have := (List.getElem?_eq_some_iff.1 hx).1; omega)
      cases e
      exact ⟨b, off, rfl, by have := hc i (.int .i64 x) (by rw [List.getElem?_map, hx]; rfl); simpa using this⟩⟩
    have HS := Lib.hid (hsr.keep0 ((Fr.refl F0 w).alloc (.cells #[] 3)))
    have hq := Lib.run_eql_slice_some_nil (P := Tryz.prog) w ⟨b, off, none⟩ ls.length c Tryz.underlying37
    have HMAP := Lib.hid hmap
    clear hsr hA hmap hnil hsp
    go_enter Tryz.func46, Tryz.ntmps46
    go_wp2_with (at_builtin; refine wpList_append_rowS (f := fun x : Int => [Value.int .i64 x]) rfl (.tmp 5) (.tmp 6) 37 8 (.int .i64 0) rfl Tryz.underlying37 info_int9 (by rfl) (by decide) (by decide) (fun _ => rfl) (fun x u hu => by simp at hu; subst hu; rfl) w.heap.size (.slice (some ⟨w.heap.size, 0, none⟩) 0 0) [] ls b off c (by rfl) (by rfl) (own_empty w w.heap.size 3 1 (Nat.le_refl _)) HS.out (by simp) (by simp; omega) ?_; intro v1 w1 hown hf1 _)
    go_ret
    refine ⟨_, rfl, ?_, ((Fr.refl F0 w).alloc _).trans hf1 (fun k hk => .inr (by cases hk; exact Nat.le_refl _))⟩
    rw [HMAP.out]
    exact hown
end
end Go.Proofs.YtgbaijfgmeealaaGreat
