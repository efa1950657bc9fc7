/-
  heronry/waits: Stuck. Conditions: none.
-/
import Derived.Test.YtgbaijfgmeealaaGreatW11n
set_option linter.unusedVariables false
set_option linter.unusedSimpArgs false
namespace Go.Proofs.YtgbaijfgmeealaaGreat
open Go.RowKit
open Go.ChangeMaps (setBlock)
theorem own_src {w : World} {base n : Nat} {e : TypeId} {v : Value} {xs : List Value} (h : w.ownsRow base e 1 v n xs) : ∃ A c, v = .slice A n c ∧ ValsAt w A xs ∧ (A = none → c = 0) ∧ (∀ ad, A = some ad → ad.spot = none) := by
  obtain ⟨A, c, rfl, hv, -, -, -⟩ := ValsAt.of_own h
  rcases h.2 with ⟨e1, h0⟩ | ⟨g, cap, cur, e1, -⟩
  · cases e1
    exact ⟨_, _, rfl, hv, (fun _ => rfl), (fun ad h => by cases h)⟩
  · cases e1
    exact ⟨_, _, rfl, hv, (fun h => by cases h), (fun ad h => by cases h; rfl)⟩
theorem SlV.keepMap {α : Type} {m mb : Nat} {f : α → List Value} {w w' : World} {v : Value} {L : List α} {es : Array MapEntry} {c : Nat} (hp : ∀ x, 0 < (f x).length) (h : SlV m f w v L) (hm : w.heap[mb]? = some (.map es c)) (hf : Fr (fun k => k = mb) w w') : SlV m f w' v L := by
  obtain ⟨A, cc, hv, hs, r⟩ := h.ex
  refine ⟨A, cc, hv, hs.keep hf (fun ad e hL hk => ?_), r⟩
  subst e
  obtain ⟨b, off, e, hc⟩ := hs.get (List.getElem?_eq_getElem hL) (hp _)
  cases e
  obtain ⟨cs, t, fz, hb, -⟩ := block_of_cell (hc 0 _ (List.getElem?_eq_getElem (hp _)))
  rw [show b = mb from hk, hm] at hb
  cases hb
theorem kidsL_id {X : List Tx9} {x y : Int} (h : y ∈ kidsL X x) : 0 ≤ y ∧ y < (X.length : Int) := by
  unfold kidsL at h
  split at h
  · unfold kidsTo at h
    obtain ⟨k, hk, rfl⟩ := List.mem_map.1 h
    have := List.mem_range.1 (List.mem_filter.1 hk).1
    omega
  · simp at h
theorem kidsL_len (X : List Tx9) (x : Int) : (kidsL X x).length ≤ X.length := by
  unfold kidsL
  split
  · exact kidsTo_len _ _ _
  · simp
section
variable {w : World} {v vt u : Value} {Q : List Wn} {L : List Lk} {X : List Tx9}
set_option maxRecDepth 100000 in
set_option maxHeartbeats 8000000 in
theorem stuck_c (clk : Int) (h : SlV 3 Wn.cells w v Q) (hq : ∀ x ∈ Q, x.Ok) (hn : Q.length ≤ 64) (hL : SlV 4 Lk.cells w vt L) (hLs : SaneL L) (hX : SlV 4 Tx9.cells w u X) (hXn : X.length ≤ 64) :
    Calls Tryz.prog 8 #[.agg #[v], .agg #[vt], .agg #[u, .int .i64 clk]] w fun e w' => ∃ v', e = .returned v' ∧ w'.ownsRow w.heap.size 3 1 v' (stuckTo X (edL X L Q) X.length).length ((stuckTo X (edL X L Q) X.length).map (Value.int .i64)) ∧ Fr F0 w w' := by
  have HLV := Lib.hid hL
  have HXV := Lib.hid hX
  have HQ := Lib.hid h
  have HOK := Lib.hid hq
  have HLS := Lib.hid hLs
  have HXN := Lib.hid hXn
  have HQN := Lib.hid hn
  obtain ⟨A, c, rfl, -⟩ := h.ex
  obtain ⟨At, ct, rfl, -⟩ := hL.ex
  obtain ⟨Ax, cx, rfl, -⟩ := hX.ex
  obtain ⟨n, hnn⟩ : ∃ n, n = Q.length := ⟨_, rfl⟩
  obtain ⟨nt, hnt⟩ : ∃ nt, nt = L.length := ⟨_, rfl⟩
  obtain ⟨nx, hnx⟩ : ∃ nx, nx = X.length := ⟨_, rfl⟩
  have HN := Lib.hid hnn
  have HNX := Lib.hid hnx
  have hnx64 : nx ≤ 64 := by omega
  have nx0 : (0 : Int) ≤ (nx : Int) := Int.natCast_nonneg _
  rw [← hnn] at HQ
  rw [← hnt] at HLV
  rw [← hnx] at HXV
  rw [← hnn, ← hnt, ← hnx]
  obtain ⟨W, hW⟩ : ∃ W, W = ((((w.alloc (.cells #[.slice A n c] 28)).alloc (.cells #[.slice At nt ct] 34)).alloc (.cells #[.slice Ax nx cx, .int .i64 clk] 31)).alloc (.map #[] 0)).alloc (.cells #[.map (some (w.heap.size + 1 + 1 + 1))] 58) := ⟨_, rfl⟩
  have HF0 : Hid (Fr F0 w W) := Lib.hid (by rw [hW]; exact (((((Fr.refl F0 w).alloc _).alloc _).alloc _).alloc _).alloc _)
  have HM0 : Hid (W.heap[w.heap.size + 1 + 1 + 1]? = some (.map #[] 0)) := Lib.hid (by rw [hW]; exact keep_alloc (alloc_at (by simp) _) _)
  have H5 : Hid (W.heap[w.heap.size + 1 + 1]? = some (.cells #[.slice Ax nx cx, .int .i64 clk] 31 (0, 0))) := Lib.hid (by rw [hW]; exact keep_alloc (keep_alloc (alloc_at (by simp) _) _) _)
  have H7 : Hid (W.heap[w.heap.size + 1 + 1 + 1 + 1]? = some (.cells #[.map (some (w.heap.size + 1 + 1 + 1))] 58 (0, 0))) := Lib.hid (by rw [hW]; exact alloc_at (by simp) _)
  have HW := Lib.hid hW
  have hmm := @run_makeMap Tryz.prog
  clear h hq hL hLs hX hXn hnn hnt hnx hW hn
  go_enter Tryz.func8, Tryz.ntmps8
  go_wp2_with fail
  rw [← HW.out]
  clear hmm
  refine (edges2_c clk (HQ.out.keep0 HF0.out) HOK.out HQN.out (HLV.out.keep0 HF0.out) HLS.out (HXV.out.keep0 HF0.out) HXN.out).mono ?_
  rintro e w1 ⟨v1, rfl, hs1, hf1⟩
  obtain ⟨E, hE⟩ : ∃ E, E = edL X L Q := ⟨_, rfl⟩
  have HFROM : Hid (∀ e ∈ E, 0 ≤ e.from_ ∧ e.from_ < 64) := Lib.hid (fun e he => edL_from HOK.out (by rw [← hE]; exact he))
  have hElen : E.length ≤ 6400000 := by rw [hE]; exact edL_len HLS.out HQN.out
  rw [← hE] at hs1
  have HEQ := Lib.hid hE
  have HEL := Lib.hid hElen
  obtain ⟨mb, hmb⟩ : ∃ mb, mb = w.heap.size + 1 + 1 + 1 := ⟨_, rfl⟩
  obtain ⟨tb, htb⟩ : ∃ tb, tb = w.heap.size + 1 + 1 := ⟨_, rfl⟩
  obtain ⟨lb, hlb⟩ : ∃ lb, lb = w.heap.size + 1 + 1 + 1 + 1 := ⟨_, rfl⟩
  rw [← hlb, ← hmb] at H7
  rw [← hmb] at HM0
  rw [← htb] at H5
  have HTM : Hid (tb ≠ mb) := Lib.hid (by omega)
  have HLM : Hid (lb ≠ mb) := Lib.hid (by omega)
  have HMW : Hid (w.heap.size ≤ mb) := Lib.hid (by omega)
  obtain ⟨m, hm⟩ : ∃ m, m = E.length := ⟨_, rfl⟩
  have HME := Lib.hid hm
  have HF1 := Lib.hid (HF0.out.then0 hf1)
  have HM1 := Lib.hid (hf1.keep0 HM0.out)
  have HT1 := Lib.hid (hf1.keep0 H5.out)
  have HL1 := Lib.hid (hf1.keep0 H7.out)
  obtain ⟨AE, cE, rfl, hsE, -⟩ := hs1.ex
  have HSE := Lib.hid hsE
  have HNM : Hid (∀ ad, AE = some ad → 0 < E.length → ad.block ≠ mb) := Lib.hid (fun ad e hp hk => by
    subst e
    obtain ⟨b, off, e, hc⟩ := HSE.out.get (List.getElem?_eq_getElem hp) (Ed.pos _)
    cases e
    obtain ⟨cs, t, fz, hb, -⟩ := block_of_cell (hc 0 _ (List.getElem?_eq_getElem (Ed.pos _)))
    have hb' : w1.heap[b]? = some (.map #[] 0) := by
      have h1 := HM1.out
      rw [show mb = b from hk.symm] at h1
      exact h1
    rw [hb'] at hb
    cases hb)
  have m0 : (0 : Int) ≤ (m : Int) := Int.natCast_nonneg _
  have hm64 : m ≤ 6400000 := by omega
  rw [← hm]
  obtain ⟨d, hu, hd⟩ := und_edge
  have HU := Lib.hid hu
  have HDD := Lib.hid hd
  try simp only [← hlb]
  try simp only [← hmb]
  try simp only [← htb]
  clear hs1 hsE hE hElen hm hf1 hmb htb hlb hu hd
  go_wp2_with fail
  go_loopg [9, 19] m (fun kq x9 x19 wr => ∃ (j : Nat) (f : Value → Option Value), j ≤ m ∧ kq = m - j ∧ x19 = .int .i64 (j : Int) ∧ WMapAt wr w1.heap.size mb f (toOf X (E.take j)) ∧ Fr (fun k => k = mb) w1 wr)
  case atStart => exact ⟨0, fun _ => none, by omega, rfl, rfl, ⟨⟨_, _, HM1.out, MapIs.empty _ _ _⟩, (fun x _ => by simp [toOf]), (fun x v h => nomatch h), (fun x y v u k h => nomatch h)⟩, Fr.refl _ _⟩
  case round =>
    obtain ⟨j, f, hj, rfl, rfl, hwm, hf⟩ := hrel
    have HWM := Lib.hid hwm
    have HF := Lib.hid hf
    clear hwm hf
    have j0 : (0 : Int) ≤ (j : Int) := Int.natCast_nonneg _
    by_cases hlt : j < m
    · have j1 : (j : Int) < (m : Int) := by omega
      have hjl : j < E.length := by have := HME.out; omega
      obtain ⟨b, off, rfl, hc⟩ := (HSE.out.keep HF.out (fun ad e hp hk => HNM.out ad e hp hk)).get (List.getElem?_eq_getElem hjl) (Ed.pos _)
      obtain ⟨x, hx⟩ : ∃ x, x = E[j] := ⟨_, rfl⟩
      have HSTEP : Hid (∀ y, toOf X (E.take (j + 1)) y = toOf X (E.take j) y ++ (if x.from_ = y ∧ isId X x.to_ = true then [x.to_] else [])) := Lib.hid (fun y => by rw [List.take_add_one, List.getElem?_eq_getElem hjl, hx]; exact toOf_step _ _ _ _)
      have hfr := HFROM.out E[j] (List.getElem_mem hjl)
      rw [← hx] at hc hfr
      clear hx
      have HCS : Hid (∀ i v, x.cells[i]? = some v → wr.cell? ⟨b, off + j * 2 + i, none⟩ = some v) := Lib.hid hc
      have HFR := Lib.hid hfr
      have HTL : Hid ((toOf X (E.take j) x.from_).length ≤ 6400000) := Lib.hid (by have := toOf_len X (E.take j) x.from_; rw [List.length_take] at this; omega)
      clear hc hfr
      obtain ⟨y1, y2⟩ := x
      obtain ⟨W1, hW1⟩ : ∃ W1, W1 = wr.alloc (.cells #[.int .i64 y1, .int .i64 y2] 62) := ⟨_, rfl⟩
      obtain ⟨b9, hb9⟩ : ∃ b9, b9 = wr.heap.size := ⟨_, rfl⟩
      have hf1 : Fr F0 wr W1 := by rw [hW1]; exact (Fr.refl _ _).alloc _
      have HB9 : Hid (W1.heap[b9]? = some (.cells #[.int .i64 y1, .int .i64 y2] 62 (0, 0))) := Lib.hid (by rw [hW1, hb9]; exact alloc_at rfl _)
      have HF1' := Lib.hid hf1
      have HT0 : Hid (W1.heap[tb]? = some (.cells #[.slice Ax nx cx, .int .i64 clk] 31 (0, 0))) := Lib.hid (hf1.keep0 (HF.out.keep HT1.out HTM.out))
      have HLB0 : Hid (W1.heap[lb]? = some (.cells #[.map (some mb)] 58 (0, 0))) := Lib.hid (hf1.keep0 (HF.out.keep HL1.out HLM.out))
      have HW1 := Lib.hid hW1
      have HB9E := Lib.hid hb9
      have t0 : W1.cell? ⟨tb, 0, none⟩ = some (.slice Ax nx cx) := by rw [cell_of HT0.out]; rfl
      have k1 : W1.cell? ⟨b9, 1, none⟩ = some (.int .i64 y2) := by rw [cell_of HB9.out]; rfl
      clear hf1 hW1 hb9
      by_cases hid : isId X y2 = true
      · have hid2 := isId_iff.1 hid
        have hge : (0 : Int) ≤ y2 := hid2.1
        have hlt2 : y2 < (nx : Int) := by have := HNX.out; omega
        have HTO : Hid (∀ y, toOf X (E.take (j + 1)) y = if y = y1 then toOf X (E.take j) y1 ++ [y2] else toOf X (E.take j) y) := Lib.hid (fun y => by
          rw [HSTEP.out]
          by_cases e : y = y1
          · subst e; simp [hid]
          · have e2 : ¬ y1 = y := fun h => e h.symm
            simp [e, e2])
        clear hid hid2
        go_upto_region 6 with (first | (refine wpList_load_at rfl 62 (.tmp 21) rfl b (off + j * 2) (by rfl) (Ed.cells ⟨y1, y2⟩) d HCS.out HU.out HDD.out size_edge ?_) | (refine wpList_store_fresh rfl 62 (.tmp 9) (.tmp 22) rfl (Ed.cells ⟨y1, y2⟩).toArray (by rfl) (by rfl) 62 #[.int .i64 0, .int .i64 0] size_edge rfl (by simp [Ed.cells, Value.oneCell']) ?_; simp only [Ed.cells, List.toArray]; try rw [← HW1.out, ← HB9E.out]))
        obtain ⟨vM, hvM⟩ : ∃ vM, vM = (f (.int .i64 y1)).getD (.slice none 0 0) := ⟨_, rfl⟩
        have HVM := Lib.hid hvM
        have hwm1 := HWM.out.keep0 HF1'.out
        have HWM1 := Lib.hid hwm1
        have ho0 : wr.ownsRow w1.heap.size 3 1 vM (toOf X (E.take j) y1).length ((toOf X (E.take j) y1).flatMap fI) := by
          cases hfx : f (.int .i64 y1) with
          | none => rw [hvM, hfx, HWM.out.nil y1 hfx]; exact own_nil _ _ _ _
          | some v => rw [hvM, hfx]; exact HWM.out.row y1 v hfx
        have HO0 := Lib.hid (own_keep0 ho0 HF1'.out)
        obtain ⟨es, clock, hm, hmi⟩ := hwm1.ex
        have HMM := Lib.hid hm
        have HMI := Lib.hid hmi
        have HKEY := Lib.hid (key9 y1 HFR.out.1 (by have := HFR.out.2; simp only at this; omega))
        have HLK : Hid (∀ wx : World, wx.heap[mb]? = some (.map es clock) → (Instr.lookup 58 (.map (some mb)) (.int .i64 y1) false).run Tryz.prog wx = .ok vM wx) := Lib.hid (fun wx hG => by
          have h1 := HMI.out.look (t := 58) (e := 37) keyed9_int und_wmap hG HKEY.out (zero_ints9 wx) false
          rw [HVM.out]
          simpa using h1)
        have hvlt : ∀ k, vM.ownBlock = some k → w1.heap.size ≤ k ∧ k < wr.heap.size := fun k hk => by
          obtain ⟨c9, hc9⟩ := own_cells ho0 k hk
          exact ⟨own_base ho0 k hk, lt_of_block hc9⟩
        have HSL : Hid (¬ (vM.ownBlock = some lb ∨ lb = mb)) := Lib.hid (fun h => by
          rcases h with h | h
          · have h1 := hvlt lb h
            have h2 := lt_of_block HL1.out
            omega
          · exact HLM.out h)
        have HMLT : Hid (mb < wr.heap.size) := Lib.hid (Nat.lt_of_lt_of_le (lt_of_block HM1.out) HF.out.size)
        have HS9 : Hid (¬ (vM.ownBlock = some b9 ∨ b9 = mb)) := Lib.hid (fun h => by
          rcases h with h | h
          · have h1 := hvlt b9 h
            have h2 := HB9E.out
            omega
          · have h2 := HB9E.out
            have h3 := HMLT.out
            omega)
        have HSN : Hid (∀ q, wr.heap.size ≤ q → ¬ (vM.ownBlock = some q ∨ q = mb)) := Lib.hid (fun q hq h => by
          rcases h with h | h
          · have h1 := hvlt q h
            omega
          · have h3 := HMLT.out
            omega)
        have HUM : Hid (¬ vM.ownBlock = some mb) := Lib.hid (fun h => by
          have h1 := hvlt mb h
          have h2 := lt_of_block HM1.out
          omega)
        have HSZ1 : Hid (wr.heap.size ≤ W1.heap.size) := Lib.hid HF1'.out.size
        have HLEN : Hid (((toOf X (E.take j) y1).length + 1) * 8 ≤ 140737488355328) := Lib.hid (by have := HTL.out; simp only at this; omega)
        clear hvM hwm1 ho0 hm hmi hvlt
        refine wp_region_turn2 (S := (fun k => vM.ownBlock = some k ∨ k = mb)) [false, false, false, false, false, false, false, false, false, false, false, false, false, false, false, false, false, false, false, false, false, false, false, false, false, false, false, false, false, false, false, false, false, false, true, true, true, true, true, true, true, true, true, true, true, false, false, false, false, false, false, false, false, false, false, false, false, false, false, false, false, false, false, false, false, false] [.eq (.map (some mb)), .eq (.pointer (some ⟨b9, 0, none⟩)), .eq (.int .i64 y1), .eq (.map (some mb)), .eq (.pointer (some ⟨b9, 0, none⟩)), .eq (.int .i64 y1), .eq (vM), .eq (.pointer (some ⟨b9, 1, none⟩)), .eq (.int .i64 y2), ⟨fun v w1 => ∃ q, v = .slice (some ⟨q, 0, none⟩) 1 1 ∧ wr.heap.size ≤ q ∧ w1.heap[q]? = some (.cells (fI y2).toArray 3 (0, 0)), fun v w1 w2 ⟨q, h1, h2, h3⟩ hf => ⟨q, h1, h2, hf.keep h3 (HSN.out q h2)⟩⟩, .any, .any] (StJ w1.heap.size mb es clock vM (toOf X (E.take j) y1) y2 W1.heap.size (.int .i64 y1) f 44) [none, none, none, none, none, none, none, none, none, none, some 0, some 1] [1, 1, 1, 0, 0, 0, 0, 0, 0, 0, 1, 2] [44] 2 (by kernel_rfl) (by kernel_rfl) (by rfl) (by kernel_rfl) (by kernel_rfl) ?hJ ?hJ0 (fun us => ?steps) (fun us wz hG hJ hall => ?fin)
        case hJ =>
          exact StJ.keep _ _ _ _ _ _ _ _ _ _ _
        case hJ0 =>
          exact ⟨HMM.out, HO0.out⟩
        case steps =>
          simp only [fillL, Nat.reduceAdd]
          refine stepsTurn2.cons (fun wx kk hG hkk hJ hd K hK => ?_) ?_
          · rw [if_pos (wanted_none rfl)]
            have hc : wx.cell? ⟨lb, 0, none⟩ = some (.map (some mb)) := by rw [cell_of (hG.keep HLB0.out HSL.out)]; rfl
            clear hJ
            refine wp_value (w2 := wx) (v := .map (some mb)) ?_ (hK _ _ rfl (Fr.refl _ _))
            clear hd hK
            go_simp
          refine stepsTurn2.cons (fun wx kk hG hkk hJ hd K hK => ?_) ?_
          · rw [if_pos (wanted_none rfl)]
            refine wp_value (w2 := wx) (v := .pointer (some ⟨b9, 0, none⟩)) ?_ (hK _ _ rfl (Fr.refl _ _))
            clear hd hG hK hJ
            go_simp
          refine stepsTurn2.cons (fun wx kk hG hkk hJ hd K hK => ?_) ?_
          · have h35 : us 35 = (.pointer (some ⟨b9, 0, none⟩)) := deps_get hd 0 rfl rfl rfl rfl rfl
            rw [if_pos (wanted_none rfl)]
            have hc : wx.cell? ⟨b9, 0, none⟩ = some (.int .i64 y1) := by rw [cell_of (hG.keep HB9.out HS9.out)]; rfl
            clear hJ
            refine wp_value (w2 := wx) (v := .int .i64 y1) ?_ (hK _ _ rfl (Fr.refl _ _))
            clear hd hK
            go_simp
          refine stepsTurn2.cons (fun wx kk hG hkk hJ hd K hK => ?_) ?_
          · obtain rfl : kk = 0 := Nat.le_zero.1 hkk
            rw [if_pos (wanted_none rfl)]
            have hc : wx.cell? ⟨lb, 0, none⟩ = some (.map (some mb)) := by rw [cell_of (hG.keep HLB0.out HSL.out)]; rfl
            clear hJ
            refine wp_value (w2 := wx) (v := .map (some mb)) ?_ (hK _ _ rfl (Fr.refl _ _))
            clear hd hK
            go_simp
          refine stepsTurn2.cons (fun wx kk hG hkk hJ hd K hK => ?_) ?_
          · obtain rfl : kk = 0 := Nat.le_zero.1 hkk
            rw [if_pos (wanted_none rfl)]
            refine wp_value (w2 := wx) (v := .pointer (some ⟨b9, 0, none⟩)) ?_ (hK _ _ rfl (Fr.refl _ _))
            clear hd hG hK hJ
            go_simp
          refine stepsTurn2.cons (fun wx kk hG hkk hJ hd K hK => ?_) ?_
          · have h38 : us 38 = (.pointer (some ⟨b9, 0, none⟩)) := deps_get hd 0 rfl rfl rfl rfl rfl
            obtain rfl : kk = 0 := Nat.le_zero.1 hkk
            rw [if_pos (wanted_none rfl)]
            have hc : wx.cell? ⟨b9, 0, none⟩ = some (.int .i64 y1) := by rw [cell_of (hG.keep HB9.out HS9.out)]; rfl
            clear hJ
            refine wp_value (w2 := wx) (v := .int .i64 y1) ?_ (hK _ _ rfl (Fr.refl _ _))
            clear hd hK
            go_simp
          refine stepsTurn2.cons (fun wx kk hG hkk hJ hd K hK => ?_) ?_
          · have h37 : us 37 = (.map (some mb)) := deps_get hd 0 rfl rfl rfl rfl rfl
            have h39 : us 39 = (.int .i64 y1) := deps_get hd 1 rfl rfl rfl rfl rfl
            obtain rfl : kk = 0 := Nat.le_zero.1 hkk
            rw [if_pos (wanted_none rfl)]
            have hr := HLK.out wx hJ.1
            refine wp_value (w2 := wx) (v := vM) ?_ (hK _ _ rfl (Fr.refl _ _))
            clear hd hG hK hJ
            go_simp
          refine stepsTurn2.cons (fun wx kk hG hkk hJ hd K hK => ?_) ?_
          · obtain rfl : kk = 0 := Nat.le_zero.1 hkk
            rw [if_pos (wanted_none rfl)]
            refine wp_value (w2 := wx) (v := .pointer (some ⟨b9, 1, none⟩)) ?_ (hK _ _ rfl (Fr.refl _ _))
            clear hd hG hK hJ
            go_simp
          refine stepsTurn2.cons (fun wx kk hG hkk hJ hd K hK => ?_) ?_
          · have h41 : us 41 = (.pointer (some ⟨b9, 1, none⟩)) := deps_get hd 0 rfl rfl rfl rfl rfl
            obtain rfl : kk = 0 := Nat.le_zero.1 hkk
            rw [if_pos (wanted_none rfl)]
            have hc : wx.cell? ⟨b9, 1, none⟩ = some (.int .i64 y2) := by rw [cell_of (hG.keep HB9.out HS9.out)]; rfl
            clear hJ
            refine wp_value (w2 := wx) (v := .int .i64 y2) ?_ (hK _ _ rfl (Fr.refl _ _))
            clear hd hK
            go_simp
          refine stepsTurn2.cons (fun wx kk hG hkk hJ hd K hK => ?_) ?_
          · have h42 : us 42 = (.int .i64 y2) := deps_get hd 0 rfl rfl rfl rfl rfl
            obtain rfl : kk = 0 := Nat.le_zero.1 hkk
            rw [if_pos (wanted_none rfl)]
            have hfa : Fr F0 wx (wx.alloc (.cells (fI y2).toArray 3)) := (Fr.refl _ _).alloc _
            refine wp_value (w2 := wx.alloc (.cells (fI y2).toArray 3)) (v := .slice (some ⟨wx.heap.size, 0, none⟩) 1 1) ?_ (hK _ _ ⟨_, rfl, Nat.le_trans HSZ1.out hG.size, alloc_at rfl _⟩ hfa)
            clear hd hK hG hJ hfa
            go_simp
            try rfl
          refine stepsTurn2.cons (fun wx hG hJ hd K hK => ?_) ?_
          · have h40 : us 40 = (vM) := deps_get hd 0 rfl rfl rfl rfl rfl
            have h43 := deps_get hd 1 rfl rfl rfl rfl rfl
            rw [if_pos (wanted_none rfl)]
            have hcur : us 40 = vM := h40
            obtain ⟨q, hg1, hg2, hg3⟩ := h43
            have hgh : wx.heap[mb]? = some (.map es clock) := hJ.1
            have hsz9 := hG.size
            refine wp_append_oneT (t := 3) (m := 1) (f := fI) (.tmp 40) (.tmp 43) 37 8 (.int .i64 0) rfl und_ints9 info_int9 rfl (by decide) (by decide) (fun _ => rfl) fI_one w1.heap.size vM (toOf X (E.take j) y1) y2 q (by exact hcur) (by exact hg1) hg3 hJ.2 (by have := HF.out.size; have := HSZ1.out; omega) HLEN.out ?_
            intro v1 w9 hown1 hf1 hat1
            have hat2 : v1.ownBlock = vM.ownBlock ∨ ∀ k, v1.ownBlock = some k → W1.heap.size ≤ k := hat1.imp id (fun h k hk => by rw [h] at hk; cases hk; omega)
            exact hK v1 w9 trivial (hf1.mono fun k hk => .inl hk) ⟨hf1.keep hgh HUM.out, by simpa [updD] using hown1, by simpa [updD] using hat2⟩
          refine stepsTurn2.cons (fun wx hG hJ hd K hK => ?_) ?_
          · have h34 : us 34 = (.map (some mb)) := deps_get hd 0 rfl rfl rfl rfl rfl
            have h36 : us 36 = (.int .i64 y1) := deps_get hd 1 rfl rfl rfl rfl rfl
            have h44 := deps_get hd 2 rfl rfl rfl rfl rfl
            rw [if_pos (wanted_none rfl)]
            have hgh : wx.heap[mb]? = some (.map es clock) := hJ.1
            have hown := hJ.2.1
            have hat := hJ.2.2
            refine wp_mapUpdate_is (.tmp 34) (.tmp 36) (.tmp 44) 58 rfl keyed9_int und_wmap mb hgh HMI.out (by exact h34) (.int .i64 y1) (us 44) (by exact h36) (by rfl) HKEY.out ?_
            intro es' clock' hM'
            have hfs : Fr (fun k => k = mb) wx (setBlock wx mb (.map es' clock')) := (Fr.refl (fun k => k = mb) wx).setBlock (.inl rfl) _
            exact hK undef _ trivial (hfs.mono fun k hk => .inr hk) ⟨es', clock', us 44, set_block hgh _, hM', own_keep hown hfs (fun k hk e => by obtain ⟨c, hc⟩ := own_cells hown k hk; rw [e, hgh] at hc; cases hc), hat⟩
          exact stepsTurn2.nil
        case fin =>
          have h34 : us 34 = (.map (some mb)) := all_get hall 0 rfl rfl rfl
          have h35 : us 35 = (.pointer (some ⟨b9, 0, none⟩)) := all_get hall 1 rfl rfl rfl
          have h36 : us 36 = (.int .i64 y1) := all_get hall 2 rfl rfl rfl
          have h37 : us 37 = (.map (some mb)) := all_get hall 3 rfl rfl rfl
          have h38 : us 38 = (.pointer (some ⟨b9, 0, none⟩)) := all_get hall 4 rfl rfl rfl
          have h39 : us 39 = (.int .i64 y1) := all_get hall 5 rfl rfl rfl
          have h40 : us 40 = (vM) := all_get hall 6 rfl rfl rfl
          have h41 : us 41 = (.pointer (some ⟨b9, 1, none⟩)) := all_get hall 7 rfl rfl rfl
          have h42 : us 42 = (.int .i64 y2) := all_get hall 8 rfl rfl rfl
          have h43 := all_get hall 9 rfl rfl rfl
          have h44 := all_get hall 10 rfl rfl rfl
          simp only [fillL, Nat.reduceAdd]
          clear hall
          simp only [h34, h35, h36, h37, h38, h39, h40, h41, h42]
          clear h34 h35 h36 h37 h38 h39 h40 h41 h42
          obtain ⟨es', clock', v', hm9, hmi9, ho9, hb9'⟩ := hJ
          have hW9 := WMapAt.add HWM1.out HVM.out hG hm9 hmi9 ho9 hb9'
          have HW9 := Lib.hid hW9
          have HF9 := Lib.hid ((HF.out.trans HF1'.out (fun _ h => h.elim)).trans hG (fun k hk => by rcases hk with hk | hk; exact .inr (own_base HO0.out k hk); exact .inl hk))
          clear hm9 hmi9 ho9 hb9' hW9 hG
          go_wp2_with fail
          go_roundg (m - (j + 1))
          case measure => omega
          case rel => exact ⟨j + 1, _, by omega, rfl, by first | rfl | (go_num), by rw [show toOf X (E.take (j + 1)) = _ from funext HTO.out]; exact HW9.out, HF9.out⟩
      · have HTO : Hid (∀ y, toOf X (E.take (j + 1)) y = toOf X (E.take j) y) := Lib.hid (fun y => by
          rw [HSTEP.out]
          simp [hid])
        have HWM1 := Lib.hid (HWM.out.keep0 HF1'.out)
        have HF9 := Lib.hid (HF.out.then0 HF1'.out)
        have hni : y2 < 0 ∨ (nx : Int) ≤ y2 := by
          rcases Int.lt_or_le y2 0 with h | h
          · exact .inl h
          · exact .inr (Int.not_lt.1 fun h2 => hid (isId_iff.2 ⟨h, by have := HNX.out; omega⟩))
        clear hid
        rcases hni with hni | hni
        · have hge : ¬ (0 : Int) ≤ y2 := by omega
          go_wp2_with (first | (refine wpList_load_at rfl 62 (.tmp 21) rfl b (off + j * 2) (by rfl) (Ed.cells ⟨y1, y2⟩) d HCS.out HU.out HDD.out size_edge ?_) | (refine wpList_store_fresh rfl 62 (.tmp 9) (.tmp 22) rfl (Ed.cells ⟨y1, y2⟩).toArray (by rfl) (by rfl) 62 #[.int .i64 0, .int .i64 0] size_edge rfl (by simp [Ed.cells, Value.oneCell']) ?_; simp only [Ed.cells, List.toArray]; try rw [← HW1.out, ← HB9E.out]))
          go_roundg (m - (j + 1))
          case measure => omega
          case rel => exact ⟨j + 1, f, by omega, rfl, by first | rfl | (go_num), by rw [show toOf X (E.take (j + 1)) = _ from funext HTO.out]; exact HWM1.out, HF9.out⟩
        · have hge : (0 : Int) ≤ y2 := by omega
          have hge2 : ¬ y2 < (nx : Int) := by omega
          go_wp2_with (first | (refine wpList_load_at rfl 62 (.tmp 21) rfl b (off + j * 2) (by rfl) (Ed.cells ⟨y1, y2⟩) d HCS.out HU.out HDD.out size_edge ?_) | (refine wpList_store_fresh rfl 62 (.tmp 9) (.tmp 22) rfl (Ed.cells ⟨y1, y2⟩).toArray (by rfl) (by rfl) 62 #[.int .i64 0, .int .i64 0] size_edge rfl (by simp [Ed.cells, Value.oneCell']) ?_; simp only [Ed.cells, List.toArray]; try rw [← HW1.out, ← HB9E.out]))
          go_roundg (m - (j + 1))
          case measure => omega
          case rel => exact ⟨j + 1, f, by omega, rfl, by first | rfl | (go_num), by rw [show toOf X (E.take (j + 1)) = _ from funext HTO.out]; exact HWM1.out, HF9.out⟩
    · have j1 : ¬ (j : Int) < (m : Int) := by omega
      have HWE : Hid (WMapAt wr w1.heap.size mb f (toOf X E)) := Lib.hid (by
        have h1 := HWM.out
        rw [show j = E.length by have := HME.out; omega, List.take_length] at h1
        exact h1)
      have HT0 : Hid (wr.heap[tb]? = some (.cells #[.slice Ax nx cx, .int .i64 clk] 31 (0, 0))) := Lib.hid (HF.out.keep HT1.out HTM.out)
      have HLB0 : Hid (wr.heap[lb]? = some (.cells #[.map (some mb)] 58 (0, 0))) := Lib.hid (HF.out.keep HL1.out HLM.out)
      have HXR : Hid (SlV 4 Tx9.cells wr (.slice Ax nx cx) X) := Lib.hid (SlV.keepMap Tx9.pos (HXV.out.keep0 HF1.out) HM1.out HF.out)
      obtain ⟨w5, hw5⟩ : ∃ w5, w5 = wr := ⟨wr, rfl⟩
      subst hw5
      have k0 : w5.cell? ⟨tb, 0, none⟩ = some (.slice Ax nx cx) := by rw [cell_of HT0.out]; rfl
      go_wp2_with fail
      go_loopg [10, 11, 12, 49] nx (fun kq x10 x11 x12 x49 wz => ∃ i : Nat, i ≤ nx ∧ kq = nx - i ∧ x49 = .int .i64 (i : Int) ∧ wz.ownsRow w5.heap.size 3 1 x10 (stuckTo X E i).length ((stuckTo X E i).map (Value.int .i64)) ∧ Fr F0 w5 wz)
      case atStart => exact ⟨0, by omega, rfl, rfl, own_nil _ _ _ _, Fr.refl _ _⟩
      case round =>
        obtain ⟨i, hi, rfl, rfl, hown, hf⟩ := hrel
        have HO := Lib.hid hown
        have HF2 := Lib.hid hf
        clear hown hf k0
        have i0 : (0 : Int) ≤ (i : Int) := Int.natCast_nonneg _
        by_cases hlt : i < nx
        · have i1 : (i : Int) < (nx : Int) := by omega
          have hwm := HWE.out.keep0 HF2.out
          obtain ⟨es, clock, hm, hmi⟩ := hwm.ex
          obtain ⟨vM, hvM⟩ : ∃ vM, vM = (f (.int .i64 (i : Int))).getD (.slice none 0 0) := ⟨_, rfl⟩
          have hoM : wr.ownsRow w1.heap.size 3 1 vM (toOf X E (i : Int)).length ((toOf X E (i : Int)).flatMap fI) := by
            cases hfx : f (.int .i64 (i : Int)) with
            | none => rw [hvM, hfx, hwm.nil _ hfx]; exact own_nil _ _ _ _
            | some v => rw [hvM, hfx]; exact hwm.row _ v hfx
          have hlook := hmi.look (t := 58) (e := 37) keyed9_int und_wmap hm (key9 (i : Int) i0 (by omega)) (zero_ints9 wr) false
          simp only [Bool.false_eq_true, if_false] at hlook
          rw [← hvM] at hlook
          obtain ⟨AM, cM, rfl, hvals, hnil, hsp⟩ := own_src hoM
          obtain ⟨nM, hnM⟩ : ∃ nM, nM = (toOf X E (i : Int)).length := ⟨_, rfl⟩
          have hnMl : nM ≤ 6400000 := by rw [hnM]; exact Nat.le_trans (toOf_len X E _) HEL.out
          rw [← hnM] at hlook
          rw [← fI_flat] at hvals
          have HVALS := Lib.hid hvals
          have HNIL := Lib.hid hnil
          have HSP := Lib.hid hsp
          have HNM := Lib.hid hnM
          have HWMi := Lib.hid hwm
          have k5 : wr.cell? ⟨tb, 0, none⟩ = some (.slice Ax nx cx) := by rw [cell_of (HF2.out.keep0 HT0.out)]; rfl
          have k7 : wr.cell? ⟨lb, 0, none⟩ = some (.map (some mb)) := by rw [cell_of (HF2.out.keep0 HLB0.out)]; rfl
          have hmf : ∀ (fn : Fn) (first cap : Array Value) (w : World), (Instr.makeFunc fn first cap).run Tryz.prog w = .ok (.func fn first cap) w := fun _ _ _ _ => rfl
          clear hwm hm hmi hvM hoM hvals hnil hsp hnM
          go_wp2_with fail
          clear hmf hlook k5 k7
          refine (reach_c (fun x => kidsL X x ++ toOf X E x) 6500000 tb lb nx hnx64 (fr := toOf X E (i : Int)) HNM.out.symm HVALS.out (by omega) HNIL.out HSP.out (by omega) ?_ ?_ ?_).mono ?_
          · intro y hy
            have := isId_iff.1 (toOf_id hy)
            have := HNX.out
            omega
          · intro x hx0 hx1
            refine ⟨?_, fun y hy => ?_⟩
            · rw [List.length_append]
              have h1 := kidsL_len X x
              have h2 := toOf_len X E x
              have h3 := HEL.out
              have h4 := HXN.out
              omega
            · have := HNX.out
              rcases List.mem_append.1 hy with hy | hy
              · have := kidsL_id hy; omega
              · have := isId_iff.1 (toOf_id hy); omega
          · intro W9 hW9 x hx0 hx1
            have hXW := (HXR.out.keep0 HF2.out).keep0 hW9
            refine (stuck1_c clk x tb lb w1.heap.size mb (M := toOf X E) (f := f) hXW HXN.out (isId_iff.2 ⟨hx0, by have := HNX.out; omega⟩) ?_ ?_ (HWMi.out.keep0 hW9) (by have h2 := toOf_len X E x; have h3 := HEL.out; omega)).mono ?_
            · exact hW9.keep0 (HF2.out.keep0 HT0.out)
            · exact hW9.keep0 (HF2.out.keep0 HLB0.out)
            · exact fun e w' h => h
          rintro e w3 ⟨m3, es3, clk3, f3, rfl, hm3, hmi3, hF3, hf3⟩
          have hlook3 := hmi3.look (t := 63) (e := 4) keyed9_int und9_met hm3 (key9 (i : Int) i0 (by omega)) (zero_bool9 w3) false
          simp only [Bool.false_eq_true, if_false] at hlook3
          have HO3 := Lib.hid (own_keep0 HO.out hf3)
          have HF3 := Lib.hid (HF2.out.then0 hf3)
          have hsl := stuckTo_len X E i
          rcases hF3 (i : Int) with ⟨h1, h2⟩ | ⟨h1, h2⟩
          · rw [h1] at hlook3
            simp only [Option.getD_some] at hlook3
            have HST : Hid (stuckTo X E (i + 1) = stuckTo X E i ++ [(i : Int)]) := Lib.hid (by rw [stuckTo_succ, if_pos h2])
            have hz3 : w5.heap.size ≤ w3.heap.size := HF3.out.size
            clear hm3 hmi3 hF3 hf3 h1 h2
            go_wp2_with (at_builtin; refine wpList_append_one rfl (.tmp 60) (.tmp 62) 37 3 8 (.int .i64 0) rfl und_ints9 info_int9 rfl (by decide) w5.heap.size u10 ((stuckTo X E i).map (Value.int .i64)) (.int .i64 (i : Int)) (by rfl) (by rfl) rfl (by rw [List.length_map]; exact HO3.out) hz3 (by rw [List.length_map]; omega) ?_; intro v6 w6 hown6 hf6)
            go_roundg (nx - (i + 1))
            case measure => omega
            case rel =>
              refine ⟨i + 1, by omega, rfl, by first | rfl | (go_num), ?_, HF3.out.trans hf6 (fun k hk => .inr (own_base HO3.out k hk))⟩
              rw [HST.out, List.length_append, List.map_append]
              rw [List.length_map] at hown6
              exact hown6
          · rw [h1] at hlook3
            simp only [Option.getD_none] at hlook3
            have HST : Hid (stuckTo X E (i + 1) = stuckTo X E i) := Lib.hid (by rw [stuckTo_succ, if_neg h2, List.append_nil])
            clear hm3 hmi3 hF3 hf3 h1 h2
            go_wp2_with fail
            go_roundg (nx - (i + 1))
            case measure => omega
            case rel => exact ⟨i + 1, by omega, rfl, by first | rfl | (go_num), by rw [HST.out]; exact HO3.out, HF3.out⟩
        · have i1 : ¬ (i : Int) < (nx : Int) := by omega
          have HIN : Hid (i = nx) := Lib.hid (by omega)
          go_wp2_with fail
          go_ret
          refine ⟨_, rfl, ?_, (HF1.out.trans HF.out (fun k hk => .inr (by rw [hk]; exact HMW.out))).then0 HF2.out⟩
          rw [← HEQ.out, ← HIN.out]
          exact own_lower HO.out (Nat.le_trans HF1.out.size HF.out.size)
end
end Go.Proofs.YtgbaijfgmeealaaGreat
