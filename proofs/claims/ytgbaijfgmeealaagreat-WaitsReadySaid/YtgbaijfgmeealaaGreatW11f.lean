/-
  heronry/waits: waiters, each want with who is against it. Conditions: none.
-/
import Derived.Test.YtgbaijfgmeealaaGreatW11e
import Derived.Test.YtgbaijfgmeealaaGreatRowI
import Derived.Test.YtgbaijfgmeealaaGreatK10n
import Derived.Test.YtgbaijfgmeealaaGreatTurn2
set_option linter.unusedVariables false
set_option linter.unusedSimpArgs false
namespace Go.Proofs.YtgbaijfgmeealaaGreat
open Go.RowKit
/-- A want, and who is against it. -/
structure Wt where
  w : Wn
  ag : List Int
def wtHead (a : Wt) : List Value := a.w.cells
theorem wtOne (a : Wt) : ∀ u ∈ wtHead a, u.oneCell' = true := a.w.one
def wtL (X : List Tx9) (L : List Lk) (Q : List Wn) : List Wt := Q.map fun x => ⟨x, againstL X L x.tx x.block x.mode⟩
theorem info_waiter : (Tryz.prog.info? 106).map (fun i => (i.zero, i.size, i.bytes)) = some (some (.agg #[.int .i64 0, .int .i64 0, .int .i64 0, .slice none 0 0]), 4, 48) := by kernel_rfl
def AppIJ {α : Type} (head : α → List Value) (tl : α → List Int) (hd : Nat) (t : TypeId) (base : Nat) (v : Value) (l : List α) (y : α) (s s' : Nat) (k : Nat) (us : Nat → Value) (w : World) : Prop :=
  match k with
  | 0 => OwnRowI head tl hd t w base v l ∧ us s' = v
  | 1 => OwnRowI head tl hd t w base (us s) (l ++ [y])
  | _ => OwnRowI head tl hd t w base (us s') (l ++ [y])
theorem AppIJ.keep {α : Type} {head : α → List Value} {tl : α → List Int} {hd : Nat} {t : TypeId} {base : Nat} {v : Value} {l : List α} {y : α} {s s' : Nat} : ∀ (k : Nat) (us us' : Nat → Value) (w' w'' : World), AppIJ head tl hd t base v l y s s' k us w' → (∀ d ∈ [s, s'], us' d = us d) → Fr F0 w' w'' → AppIJ head tl hd t base v l y s s' k us' w''
  | 0, us, us', w', w'', h, hd, hf => ⟨h.1.keep hf, by rw [hd s' (by simp)]; exact h.2⟩
  | 1, us, us', w', w'', h, hd, hf => by
    have h' : OwnRowI _ _ _ _ w' base (us s) (l ++ [y]) := h
    show OwnRowI _ _ _ _ w'' base (us' s) (l ++ [y])
    rw [hd s (by simp)]
    exact h'.keep hf
  | k + 2, us, us', w', w'', h, hd, hf => by
    have h' : OwnRowI _ _ _ _ w' base (us s') (l ++ [y]) := h
    show OwnRowI _ _ _ _ w'' base (us' s') (l ++ [y])
    rw [hd s' (by simp)]
    exact h'.keep hf
theorem OwnRowI.lower {α : Type} {head : α → List Value} {tl : α → List Int} {hd : Nat} {t : TypeId} {w : World} {base base' : Nat} {v : Value} {l : List α} (h : OwnRowI head tl hd t w base v l) (hb : base' ≤ base) : OwnRowI head tl hd t w base' v l := by
  obtain ⟨ss, hs, ho, he⟩ := h.ex
  exact ⟨ss, hs, own_lower ho hb, fun i a s ha hsi => ⟨(he i a s ha hsi).1, fun hp ad e => ⟨((he i a s ha hsi).2 hp ad e).1, Nat.le_trans hb ((he i a s ha hsi).2 hp ad e).2⟩⟩⟩
section
variable {w : World} {v vt u : Value} {Q : List Wn} {L : List Lk} {X : List Tx9}
set_option maxRecDepth 100000 in
set_option maxHeartbeats 4000000 in
theorem waiters_c (clk : Int) (h : SlV 3 Wn.cells w v Q) (hq : ∀ x ∈ Q, x.Ok) (hn : Q.length ≤ 64) (hL : SlV 4 Lk.cells w vt L) (hLs : SaneL L) (hX : SlV 4 Tx9.cells w u X) (hXn : X.length ≤ 64) :
    Calls Tryz.prog 56 #[.agg #[v], .agg #[vt], .agg #[u, .int .i64 clk]] w fun e w' => ∃ v', e = .returned v' ∧ OwnRowI wtHead Wt.ag 3 106 w' w.heap.size v' (wtL X L Q) ∧ Fr F0 w w' := by
  have HQ := Lib.hid h
  have HLV := Lib.hid hL
  have HXV := Lib.hid hX
  have HOK := Lib.hid hq
  have HLS := Lib.hid hLs
  have HXN := Lib.hid hXn
  have HL1 : Hid (L.length ≤ 1000000) := Lib.hid (by have := sane_len hLs; omega)
  obtain ⟨A, c, rfl, hsr, -⟩ := h.ex
  obtain ⟨At, ct, rfl, -⟩ := hL.ex
  obtain ⟨Ax, cx, rfl, -⟩ := hX.ex
  obtain ⟨n, hnn⟩ : ∃ n, n = Q.length := ⟨_, rfl⟩
  obtain ⟨nt, hnt⟩ : ∃ nt, nt = L.length := ⟨_, rfl⟩
  obtain ⟨nx, hnx⟩ : ∃ nx, nx = X.length := ⟨_, rfl⟩
  have HN := Lib.hid hnn
  have HSR := Lib.hid hsr
  rw [← hnt] at HLV
  rw [← hnx] at HXV
  rw [← hnn, ← hnt, ← hnx]
  have n0 : (0 : Int) ≤ (n : Int) := Int.natCast_nonneg _
  have hn64 : n ≤ 64 := by omega
  obtain ⟨W, hW⟩ : ∃ W, W = ((w.alloc (.cells #[.slice A n c] 28)).alloc (.cells #[.slice At nt ct] 34)).alloc (.cells #[.slice Ax nx cx, .int .i64 clk] 31) := ⟨_, rfl⟩
  have HF0 : Hid (Fr F0 w W) := Lib.hid (by rw [hW]; exact (((Fr.refl F0 w).alloc _).alloc _).alloc _)
  have H40 : Hid (W.heap[w.heap.size + 1]? = some (.cells #[.slice At nt ct] 34 (0, 0))) := Lib.hid (by rw [hW]; exact keep_alloc (alloc_at (by simp) _) _)
  have H50 : Hid (W.heap[w.heap.size + 1 + 1]? = some (.cells #[.slice Ax nx cx, .int .i64 clk] 31 (0, 0))) := Lib.hid (by rw [hW]; exact alloc_at (by simp) _)
  have HSZ : Hid (w.heap.size + 3 ≤ W.heap.size) := Lib.hid (by rw [hW]; simp)
  have HW := Lib.hid hW
  obtain ⟨d, hu, hd⟩ := und_want
  have HU := Lib.hid hu
  have HDD := Lib.hid hd
  clear h hq hL hLs hX hXn hsr hnn hnt hnx hW hu hd hn
  go_enter Tryz.func56, Tryz.ntmps56
  go_wp2_with fail
  rw [← HW.out]
  go_loopg [7, 9, 13] n (fun kq x7 x9 x13 wr => ∃ j : Nat, j ≤ n ∧ kq = n - j ∧ x13 = .int .i64 (j : Int) ∧ OwnRowI wtHead Wt.ag 3 106 wr (w.heap.size + 3) x7 (wtL X L (Q.take j)) ∧ wr.heap[w.heap.size + 1]? = some (.cells #[.slice At nt ct] 34 (0, 0)) ∧ wr.heap[w.heap.size + 1 + 1]? = some (.cells #[.slice Ax nx cx, .int .i64 clk] 31 (0, 0)) ∧ Fr F0 w wr ∧ w.heap.size + 3 ≤ wr.heap.size)
  case atStart => exact ⟨0, by omega, rfl, rfl, OwnRowI.nil _ _, H40.out, H50.out, HF0.out, HSZ.out⟩
  case round =>
    obtain ⟨j, hj, rfl, rfl, hown, h4, h5, hf, hsz⟩ := hrel
    have HO0 := Lib.hid hown
    have H4r := Lib.hid h4
    have H5r := Lib.hid h5
    have HFr := Lib.hid hf
    have HZr := Lib.hid hsz
    clear hown h4 h5 hf hsz
    have j0 : (0 : Int) ≤ (j : Int) := Int.natCast_nonneg _
    by_cases hlt : j < n
    · have j1 : (j : Int) < (n : Int) := by omega
      have hjl : j < Q.length := by have := HN.out; omega
      obtain ⟨b, off, rfl, hc⟩ := (HSR.out.keep0 HFr.out).get (List.getElem?_eq_getElem hjl) (Wn.pos _)
      have hok := HOK.out Q[j] (List.getElem_mem hjl)
      have htk : Q.take (j + 1) = Q.take j ++ [Q[j]] := List.take_succ_eq_append_getElem hjl
      obtain ⟨x, hx⟩ : ∃ x, x = Q[j] := ⟨_, rfl⟩
      rw [← hx] at hc hok htk
      clear hx
      obtain ⟨x1, x2, x3⟩ := x
      have HCS : Hid (∀ i v, (Wn.cells ⟨x1, x2, x3⟩)[i]? = some v → wr.cell? ⟨b, off + j * 3 + i, none⟩ = some v) := Lib.hid hc
      have HMO : Hid (x3 = 1 ∨ x3 = 2) := Lib.hid hok.m
      obtain ⟨ag, hag⟩ : ∃ ag, ag = againstL X L x1 x2 x3 := ⟨_, rfl⟩
      have HAG : Hid (againstL X L x1 x2 x3 = ag) := Lib.hid hag.symm
      obtain ⟨y, hy⟩ : ∃ y : Wt, y = ⟨⟨x1, x2, x3⟩, ag⟩ := ⟨_, rfl⟩
      have HYE := Lib.hid hy
      have HTK : Hid (wtL X L (Q.take (j + 1)) = wtL X L (Q.take j) ++ [y]) := Lib.hid (by rw [htk, hy, hag]; unfold wtL; rw [List.map_append]; rfl)
      have HLEN : Hid (((wtL X L (Q.take j)).length + 1) * 48 ≤ 140737488355328) := Lib.hid (by unfold wtL; rw [List.length_map, List.length_take]; omega)
      obtain ⟨W1, hW1⟩ : ∃ W1, W1 = wr.alloc (.cells #[.int .i64 x1, .int .i64 x2, .int .i64 x3] 46) := ⟨_, rfl⟩
      obtain ⟨b9, hb9⟩ : ∃ b9, b9 = wr.heap.size := ⟨_, rfl⟩
      have hf1 : Fr F0 wr W1 := by rw [hW1]; exact (Fr.refl _ _).alloc _
      have HO := Lib.hid (HO0.out.keep hf1)
      have HF := Lib.hid (HFr.out.then0 hf1)
      have HZ : Hid (w.heap.size + 3 ≤ W1.heap.size) := Lib.hid (Nat.le_trans HZr.out hf1.size)
      have H4 := Lib.hid (hf1.keep0 H4r.out)
      have H5 := Lib.hid (hf1.keep0 H5r.out)
      have H9 : Hid (W1.heap[b9]? = some (.cells #[.int .i64 x1, .int .i64 x2, .int .i64 x3] 46 (0, 0))) := Lib.hid (by rw [hW1]; exact alloc_at hb9 _)
      have HSN : Hid (∀ g, W1.heap.size ≤ g → ¬ u7.ownBlock = some g) := Lib.hid (fun g hg e => by have := HO.out.lt g e; omega)
      have HS9 : Hid (¬ u7.ownBlock = some b9) := Lib.hid (fun e => by have := HO0.out.lt _ e; omega)
      have HS4 : Hid (¬ u7.ownBlock = some (w.heap.size + 1)) := Lib.hid (fun e => by have := HO.out.base_le _ e; omega)
      have HS5 : Hid (¬ u7.ownBlock = some (w.heap.size + 1 + 1)) := Lib.hid (fun e => by have := HO.out.base_le _ e; omega)
      have HAP : Hid (∀ ad : Addr, W1.heap.size ≤ ad.block → u7.ownBlock ≠ some ad.block ∧ w.heap.size + 3 ≤ ad.block) := Lib.hid (fun ad h => ⟨HSN.out _ h, Nat.le_trans HZ.out h⟩)
      have HAGC : Hid (∀ wx, Fr (fun k => u7.ownBlock = some k) W1 wx → Calls Tryz.prog 16 #[.agg #[.slice At nt ct], .agg #[.slice Ax nx cx, .int .i64 clk], .int .i64 x1, .int .i64 x2, .int .i64 x3] wx fun e w' => NewInts2 wx w' e (againstL X L x1 x2 x3)) := Lib.hid (fun wx hG => by
        have hw : Fr F0 w wx := HF.out.trans hG (fun k hk => .inr (by have := HO.out.base_le k hk; omega))
        exact against2_c clk x1 x2 x3 (HLV.out.keep0 hw) HL1.out HLS.out (HXV.out.keep0 hw) HXN.out HMO.out)
      have HW1 := Lib.hid hW1
      have HB9 := Lib.hid hb9
      clear hc hok htk hag hy hf1 hW1 hb9
      go_wp2_with (first | (refine wpList_load_at rfl 46 (.tmp 15) rfl b (off + j * 3) (by rfl) (Wn.cells ⟨x1, x2, x3⟩) d HCS.out HU.out HDD.out size_want ?_) | (refine wpList_store_fresh rfl 46 (.tmp 9) (.tmp 16) rfl (Wn.cells ⟨x1, x2, x3⟩).toArray (by rfl) (by rfl) 46 #[.int .i64 0, .int .i64 0, .int .i64 0] size_want rfl (by simp [Wn.cells, Value.oneCell']) ?_; simp only [Wn.cells, List.toArray]))
      rw [← HW1.out, ← HB9.out]
      refine wp_region_turn2 (S := (fun k => u7.ownBlock = some k)) [false, false, false, false, false, false, false, true, false, false, false, false, false, false, false, false, false, true, true, true, true, true, true, true, true, true, true, true, true, true, true, false, false] [.eq (u7), .eq (.agg #[.int .i64 x1, .int .i64 x2, .int .i64 x3]), .eq (.agg #[.slice At nt ct]), .eq (.agg #[.slice Ax nx cx, .int .i64 clk]), .eq (.pointer (some ⟨b9, 0, none⟩)), .eq (.int .i64 x1), .eq (.pointer (some ⟨b9, 1, none⟩)), .eq (.int .i64 x2), .eq (.pointer (some ⟨b9, 2, none⟩)), .eq (.int .i64 x3), ⟨fun v w1 => ∃ A c, v = .slice A ag.length c ∧ ValsAt w1 A (ag.map (Value.int .i64)) ∧ ∀ ad, A = some ad → W1.heap.size ≤ ad.block, fun v w1 w2 ⟨A, c, h1, h2, h3⟩ hf => ⟨A, c, h1, h2.keep hf (fun ad e => HSN.out _ (h3 ad e)), h3⟩⟩, ⟨fun v w1 => ∃ A c, v = .agg #[.int .i64 x1, .int .i64 x2, .int .i64 x3, .slice A ag.length c] ∧ ValsAt w1 A (ag.map (Value.int .i64)) ∧ ∀ ad, A = some ad → W1.heap.size ≤ ad.block, fun v w1 w2 ⟨A, c, h1, h2, h3⟩ hf => ⟨A, c, h1, h2.keep hf (fun ad e => HSN.out _ (h3 ad e)), h3⟩⟩, ⟨fun v w1 => ∃ g A c, v = .slice (some ⟨g, 0, none⟩) 1 1 ∧ W1.heap.size ≤ g ∧ w1.heap[g]? = some (.cells (elI wtHead Wt.ag (y, (A, c))).toArray 106 (0, 0)) ∧ ValsAt w1 A (ag.map (Value.int .i64)) ∧ ∀ ad, A = some ad → W1.heap.size ≤ ad.block, fun v w1 w2 ⟨g, A, c, h1, h2, h3, h4, h5⟩ hf => ⟨g, A, c, h1, h2, hf.keep h3 (HSN.out g h2), h4.keep hf (fun ad e => HSN.out _ (h5 ad e)), h5⟩⟩, .any, .any] (AppIJ wtHead Wt.ag 3 106 (w.heap.size + 3) u7 (wtL X L (Q.take j)) y 30 7) [none, none, none, none, none, none, none, none, none, none, none, none, none, some 0, some 1] [0, 0, 0, 0, 0, 0, 0, 0, 0, 0, 0, 0, 0, 1, 2] [30, 7] 2 (by kernel_rfl) (by kernel_rfl) (by rfl) (by kernel_rfl) (by kernel_rfl) ?hJ ?hJ0 (fun us => ?steps) (fun us wz hG hJ hall => ?fin)
      case hJ =>
        exact AppIJ.keep
      case hJ0 =>
        exact ⟨HO.out, rfl⟩
      case steps =>
        simp only [fillL, Nat.reduceAdd]
        refine stepsTurn2.cons (fun wx kk hG hkk hJ hd K hK => ?_) ?_
        · -- no edge to slot 7
          obtain rfl : kk = 0 := Nat.le_zero.1 hkk
          rw [if_pos (wanted_none rfl)]
          refine wp_value (w2 := wx) (v := u7) ?_ (hK _ _ rfl (Fr.refl _ _))
          have h7 : us 7 = u7 := hJ.2
          clear hd hK hG hJ
          go_simp
          try exact h7
        refine stepsTurn2.cons (fun wx kk hG hkk hJ hd K hK => ?_) ?_
        · obtain rfl : kk = 0 := Nat.le_zero.1 hkk
          rw [if_pos (wanted_none rfl)]
          have hc0 : wx.cell? ⟨b9, 0, none⟩ = some (.int .i64 x1) := by rw [cell_of (hG.keep H9.out HS9.out)]; rfl
          have hc1 : wx.cell? ⟨b9, 1, none⟩ = some (.int .i64 x2) := by rw [cell_of (hG.keep H9.out HS9.out)]; rfl
          have hc2 : wx.cell? ⟨b9, 2, none⟩ = some (.int .i64 x3) := by rw [cell_of (hG.keep H9.out HS9.out)]; rfl
          clear hJ
          refine wp_value (w2 := wx) (v := .agg #[.int .i64 x1, .int .i64 x2, .int .i64 x3]) ?_ (hK _ _ rfl (Fr.refl _ _))
          clear hd hK
          go_simp
        refine stepsTurn2.cons (fun wx kk hG hkk hJ hd K hK => ?_) ?_
        · obtain rfl : kk = 0 := Nat.le_zero.1 hkk
          rw [if_pos (wanted_none rfl)]
          have hc : wx.cell? ⟨w.heap.size + 1, 0, none⟩ = some (.slice At nt ct) := by rw [cell_of (hG.keep H4.out HS4.out)]; rfl
          clear hJ
          refine wp_value (w2 := wx) (v := .agg #[.slice At nt ct]) ?_ (hK _ _ rfl (Fr.refl _ _))
          clear hd hK
          go_simp
        refine stepsTurn2.cons (fun wx kk hG hkk hJ hd K hK => ?_) ?_
        · obtain rfl : kk = 0 := Nat.le_zero.1 hkk
          rw [if_pos (wanted_none rfl)]
          have hc : wx.cell? ⟨w.heap.size + 1 + 1, 0, none⟩ = some (.slice Ax nx cx) := by rw [cell_of (hG.keep H5.out HS5.out)]; rfl
          have hc1 : wx.cell? ⟨w.heap.size + 1 + 1, 1, none⟩ = some (.int .i64 clk) := by rw [cell_of (hG.keep H5.out HS5.out)]; rfl
          clear hJ
          refine wp_value (w2 := wx) (v := .agg #[.slice Ax nx cx, .int .i64 clk]) ?_ (hK _ _ rfl (Fr.refl _ _))
          clear hd hK
          go_simp
        refine stepsTurn2.cons (fun wx kk hG hkk hJ hd K hK => ?_) ?_
        · obtain rfl : kk = 0 := Nat.le_zero.1 hkk
          rw [if_pos (wanted_none rfl)]
          refine wp_value (w2 := wx) (v := .pointer (some ⟨b9, 0, none⟩)) ?_ (hK _ _ rfl (Fr.refl _ _))
          clear hd hG hK hJ
          go_simp
        refine stepsTurn2.cons (fun wx kk hG hkk hJ hd K hK => ?_) ?_
        · have h21 : us 21 = (.pointer (some ⟨b9, 0, none⟩)) := deps_get hd 0 rfl rfl rfl rfl rfl
          obtain rfl : kk = 0 := Nat.le_zero.1 hkk
          rw [if_pos (wanted_none rfl)]
          have hc0 : wx.cell? ⟨b9, 0, none⟩ = some (.int .i64 x1) := by rw [cell_of (hG.keep H9.out HS9.out)]; rfl
          clear hJ
          refine wp_value (w2 := wx) (v := .int .i64 x1) ?_ (hK _ _ rfl (Fr.refl _ _))
          clear hd hK
          go_simp
        refine stepsTurn2.cons (fun wx kk hG hkk hJ hd K hK => ?_) ?_
        · obtain rfl : kk = 0 := Nat.le_zero.1 hkk
          rw [if_pos (wanted_none rfl)]
          refine wp_value (w2 := wx) (v := .pointer (some ⟨b9, 1, none⟩)) ?_ (hK _ _ rfl (Fr.refl _ _))
          clear hd hG hK hJ
          go_simp
        refine stepsTurn2.cons (fun wx kk hG hkk hJ hd K hK => ?_) ?_
        · have h23 : us 23 = (.pointer (some ⟨b9, 1, none⟩)) := deps_get hd 0 rfl rfl rfl rfl rfl
          obtain rfl : kk = 0 := Nat.le_zero.1 hkk
          rw [if_pos (wanted_none rfl)]
          have hc1 : wx.cell? ⟨b9, 1, none⟩ = some (.int .i64 x2) := by rw [cell_of (hG.keep H9.out HS9.out)]; rfl
          clear hJ
          refine wp_value (w2 := wx) (v := .int .i64 x2) ?_ (hK _ _ rfl (Fr.refl _ _))
          clear hd hK
          go_simp
        refine stepsTurn2.cons (fun wx kk hG hkk hJ hd K hK => ?_) ?_
        · obtain rfl : kk = 0 := Nat.le_zero.1 hkk
          rw [if_pos (wanted_none rfl)]
          refine wp_value (w2 := wx) (v := .pointer (some ⟨b9, 2, none⟩)) ?_ (hK _ _ rfl (Fr.refl _ _))
          clear hd hG hK hJ
          go_simp
        refine stepsTurn2.cons (fun wx kk hG hkk hJ hd K hK => ?_) ?_
        · have h25 : us 25 = (.pointer (some ⟨b9, 2, none⟩)) := deps_get hd 0 rfl rfl rfl rfl rfl
          obtain rfl : kk = 0 := Nat.le_zero.1 hkk
          rw [if_pos (wanted_none rfl)]
          have hc2 : wx.cell? ⟨b9, 2, none⟩ = some (.int .i64 x3) := by rw [cell_of (hG.keep H9.out HS9.out)]; rfl
          clear hJ
          refine wp_value (w2 := wx) (v := .int .i64 x3) ?_ (hK _ _ rfl (Fr.refl _ _))
          clear hd hK
          go_simp
        refine stepsTurn2.cons (fun wx kk hG hkk hJ hd K hK => ?_) ?_
        · have h19 : us 19 = (.agg #[.slice At nt ct]) := deps_get hd 0 rfl rfl rfl rfl rfl
          have h20 : us 20 = (.agg #[.slice Ax nx cx, .int .i64 clk]) := deps_get hd 1 rfl rfl rfl rfl rfl
          have h22 : us 22 = (.int .i64 x1) := deps_get hd 2 rfl rfl rfl rfl rfl
          have h24 : us 24 = (.int .i64 x2) := deps_get hd 3 rfl rfl rfl rfl rfl
          have h26 : us 26 = (.int .i64 x3) := deps_get hd 4 rfl rfl rfl rfl rfl
          obtain rfl : kk = 0 := Nat.le_zero.1 hkk
          rw [if_pos (wanted_none rfl)]
          refine wp_call (w2 := wx) (f := 16) (args := #[.agg #[.slice At nt ct], .agg #[.slice Ax nx cx, .int .i64 clk], .int .i64 x1, .int .i64 x2, .int .i64 x3]) ?_ ?_
          · clear hd hK
            go_simp
          · refine ((HAGC.out wx hG)).mono ?_
            intro e w9 hNI
            obtain ⟨A9, c9, rfl, hv9, hf, hb9⟩ := hNI.ex
            rw [HAG.out] at hv9 ⊢
            exact ⟨_, rfl, hK _ _ ⟨A9, c9, rfl, hv9, fun ad e => Nat.le_trans hG.size (hb9 ad e)⟩ hf⟩
        refine stepsTurn2.cons (fun wx kk hG hkk hJ hd K hK => ?_) ?_
        · have h18 : us 18 = (.agg #[.int .i64 x1, .int .i64 x2, .int .i64 x3]) := deps_get hd 0 rfl rfl rfl rfl rfl
          have h27 := deps_get hd 1 rfl rfl rfl rfl rfl
          obtain rfl : kk = 0 := Nat.le_zero.1 hkk
          rw [if_pos (wanted_none rfl)]
          obtain ⟨A9, c9, h27', hv9, hb9⟩ := h27
          refine wp_value (w2 := wx) (v := .agg #[.int .i64 x1, .int .i64 x2, .int .i64 x3, .slice A9 ag.length c9]) ?_ (hK _ _ ⟨_, _, rfl, hv9, hb9⟩ (Fr.refl _ _))
          clear hd hG hK hv9 hb9 hJ
          go_simp
        refine stepsTurn2.cons (fun wx kk hG hkk hJ hd K hK => ?_) ?_
        · have h28 := deps_get hd 0 rfl rfl rfl rfl rfl
          obtain rfl : kk = 0 := Nat.le_zero.1 hkk
          rw [if_pos (wanted_none rfl)]
          obtain ⟨A9, c9, h28', hv9, hb9⟩ := h28
          have hfa : Fr F0 wx (wx.alloc (.cells (elI wtHead Wt.ag (y, (A9, c9))).toArray 106)) := (Fr.refl _ _).alloc _
          refine wp_value (w2 := wx.alloc (.cells (elI wtHead Wt.ag (y, (A9, c9))).toArray 106)) (v := .slice (some ⟨wx.heap.size, 0, none⟩) 1 1) ?_ (hK _ _ ⟨_, A9, c9, rfl, hG.size, alloc_at rfl _, hv9.keep0 hfa, hb9⟩ hfa)
          have hel : (elI wtHead Wt.ag (y, (A9, c9))).toArray = #[.int .i64 x1, .int .i64 x2, .int .i64 x3, .slice A9 ag.length c9] := by rw [HYE.out]; rfl
          rw [hel]
          clear hd hK hG hJ hv9 hb9 hfa hel
          go_simp
        refine stepsTurn2.cons (fun wx hG hJ hd K hK => ?_) ?_
        · have h17 : us 17 = (u7) := deps_get hd 0 rfl rfl rfl rfl rfl
          have h29 := deps_get hd 1 rfl rfl rfl rfl rfl
          rw [if_pos (wanted_none rfl)]
          have h17 : us 17 = u7 := h17
          obtain ⟨g, A9, c9, hg1, hg2, hg3, hv9, hb9⟩ := h29
          have hsz9 := hG.size
          refine wp_append_rowI (t := 106) (hd := 3) (head := wtHead) (tl := Wt.ag) (.tmp 17) (.tmp 29) 103 48 (.agg #[.int .i64 0, .int .i64 0, .int .i64 0, .slice none 0 0]) rfl Tryz.underlying103 info_waiter rfl (by decide) (fun _ => rfl) wtOne (w.heap.size + 3) u7 (wtL X L (Q.take j)) y A9 c9 g (by exact h17) (by exact hg1) hg3 hJ.1 (by rw [HYE.out]; exact hv9) (fun hp ad e => HAP.out ad (hb9 ad e)) (by have := HZ.out; omega) HLEN.out ?_
          intro v1 w1 hown1 hf1
          exact hK v1 w1 trivial hf1 (by simpa [AppIJ, updD] using hown1)
        refine stepsTurn2.cons (fun wx hG hJ hd K hK => ?_) ?_
        · have h30 := deps_get hd 0 rfl rfl rfl rfl rfl
          rw [if_pos (wanted_none rfl)]
          refine wp_value (w2 := wx) (v := us 30) ?_ (hK _ _ trivial (Fr.refl _ _) (by simpa [AppIJ, updD] using hJ))
          clear hd hK hG hJ
          go_simp
        exact stepsTurn2.nil
      case fin =>
        have h17 : us 17 = (u7) := all_get hall 0 rfl rfl rfl
        have h18 : us 18 = (.agg #[.int .i64 x1, .int .i64 x2, .int .i64 x3]) := all_get hall 1 rfl rfl rfl
        have h19 : us 19 = (.agg #[.slice At nt ct]) := all_get hall 2 rfl rfl rfl
        have h20 : us 20 = (.agg #[.slice Ax nx cx, .int .i64 clk]) := all_get hall 3 rfl rfl rfl
        have h21 : us 21 = (.pointer (some ⟨b9, 0, none⟩)) := all_get hall 4 rfl rfl rfl
        have h22 : us 22 = (.int .i64 x1) := all_get hall 5 rfl rfl rfl
        have h23 : us 23 = (.pointer (some ⟨b9, 1, none⟩)) := all_get hall 6 rfl rfl rfl
        have h24 : us 24 = (.int .i64 x2) := all_get hall 7 rfl rfl rfl
        have h25 : us 25 = (.pointer (some ⟨b9, 2, none⟩)) := all_get hall 8 rfl rfl rfl
        have h26 : us 26 = (.int .i64 x3) := all_get hall 9 rfl rfl rfl
        have h27 := all_get hall 10 rfl rfl rfl
        have h28 := all_get hall 11 rfl rfl rfl
        have h29 := all_get hall 12 rfl rfl rfl
        have h30 := all_get hall 13 rfl rfl rfl
        have h7 := all_get hall 14 rfl rfl rfl
        simp only [fillL, Nat.reduceAdd]
        clear hall
        simp only [h17, h18, h19, h20, h21, h22, h23, h24, h25, h26]
        clear h17 h18 h19 h20 h21 h22 h23 h24 h25 h26
        have hown9 : OwnRowI wtHead Wt.ag 3 106 wz (w.heap.size + 3) (us 7) (wtL X L (Q.take j) ++ [y]) := hJ
        have HFZ := HF.out.trans hG (fun k hk => .inr (by have := HO.out.base_le k hk; omega))
        have HZZ := Nat.le_trans HZ.out hG.size
        have HGK := Lib.hid (And.intro (hG.keep H4.out HS4.out) (hG.keep H5.out HS5.out))
        clear hJ hG
        go_wp2_with fail
        have HO9 := Lib.hid hown9
        go_roundg (n - (j + 1))
        case measure => omega
        case rel => exact ⟨j + 1, by omega, rfl, by first | rfl | (go_num), by rw [HTK.out]; exact HO9.out, HGK.out.1, HGK.out.2, HFZ, HZZ⟩
    · have hjn : j = n := by omega
      subst hjn
      go_wp2_with fail
      go_ret
      have h1 : Q.take j = Q := by rw [HN.out, List.take_length]
      have h2 := HO0.out
      rw [h1] at h2
      exact ⟨_, rfl, h2.lower (by omega), HFr.out⟩
end
end Go.Proofs.YtgbaijfgmeealaaGreat
