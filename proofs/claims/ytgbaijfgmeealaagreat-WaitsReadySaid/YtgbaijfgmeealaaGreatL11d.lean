/-
  Layer 11: the world of the laws: transactions, locks and wants in one struct; waiting, leaf, end. Conditions: none.
-/
import Derived.Test.YtgbaijfgmeealaaGreatL11a
import Derived.Test.YtgbaijfgmeealaaGreatP11b
set_option linter.unusedVariables false
set_option linter.unusedSimpArgs false
namespace Go.Proofs.YtgbaijfgmeealaaGreat
open Go.RowKit
theorem SrAt.notW {α : Type} {m : Nat} {f : α → List Value} {w : World} {A : Option Addr} {L : List α} {wb : Nat} {A0 A1 A2 : Option Addr} {n0 c0 n1 c1 n2 c2 : Nat} {clk : Int} {t : TypeId} (hi : ∀ x, ∃ a b, (f x)[0]? = some (.int .i64 a) ∧ (f x)[1]? = some (.int .i64 b)) (h : SrAt m f w A L)
    (hb : w.heap[wb]? = some (.cells #[.slice A0 n0 c0, .int .i64 clk, .slice A1 n1 c1, .slice A2 n2 c2] t (0, 0))) (hL : 0 < L.length) : ∀ ad, A = some ad → ad.block ≠ wb := by
  rintro ad rfl rfl
  obtain ⟨a, b, ha, hb'⟩ := hi (L[0]'hL)
  obtain ⟨g, off, e, hc⟩ := h.get (List.getElem?_eq_getElem hL) (by have := (List.getElem?_eq_some_iff.1 ha).1; omega)
  cases e
  have h0 := hc 0 _ ha
  have h1 := hc 1 _ hb'
  rw [cell_of hb] at h0 h1
  rw [Nat.zero_mul, Nat.add_zero] at h0 h1
  generalize off = p at h0 h1
  rcases p with _ | _ | _ | _ | p <;> simp at h0 h1
theorem SlV.keepW {α : Type} {m : Nat} {f : α → List Value} {w w' : World} {v : Value} {L : List α} {wb : Nat} {A0 A1 A2 : Option Addr} {n0 c0 n1 c1 n2 c2 : Nat} {clk : Int} {t : TypeId} (hi : ∀ x, ∃ a b, (f x)[0]? = some (.int .i64 a) ∧ (f x)[1]? = some (.int .i64 b)) (h : SlV m f w v L)
    (hb : w.heap[wb]? = some (.cells #[.slice A0 n0 c0, .int .i64 clk, .slice A1 n1 c1, .slice A2 n2 c2] t (0, 0))) (hf : Fr (fun k => k = wb) w w') : SlV m f w' v L := by
  obtain ⟨A, c, rfl, hs, h1, h2⟩ := h.ex
  exact ⟨A, c, rfl, hs.keep hf (fun ad e hL hk => hs.notW hi hb hL ad e hk), h1, h2⟩
theorem tx_two (x : Tx9) : ∃ a b, x.cells[0]? = some (.int .i64 a) ∧ x.cells[1]? = some (.int .i64 b) := ⟨_, _, rfl, rfl⟩
theorem lk_two (x : Lk) : ∃ a b, x.cells[0]? = some (.int .i64 a) ∧ x.cells[1]? = some (.int .i64 b) := ⟨_, _, rfl, rfl⟩
theorem wn_two (x : Wn) : ∃ a b, x.cells[0]? = some (.int .i64 a) ∧ x.cells[1]? = some (.int .i64 b) := ⟨_, _, rfl, rfl⟩
/-- Transactions, locks and wants, in one struct. -/
structure WrAt (w : World) (wb : Nat) (X : List Tx9) (L : List Lk) (Q : List Wn) (vx vt vq : Value) (clk : Int) : Prop where
  b : w.heap[wb]? = some (.cells #[vx, .int .i64 clk, vt, vq] 36 (0, 0))
  sx : SlV 4 Tx9.cells w vx X
  st : SlV 4 Lk.cells w vt L
  sq : SlV 3 Wn.cells w vq Q
section
variable {w w' : World} {wb : Nat} {X X' : List Tx9} {L L' : List Lk} {Q Q' : List Wn} {vx vt vq vx' vt' vq' : Value} {clk clk' : Int}
theorem WrAt.keep0 (h : WrAt w wb X L Q vx vt vq clk) (hf : Fr F0 w w') : WrAt w' wb X L Q vx vt vq clk := ⟨hf.keep0 h.b, h.sx.keep0 hf, h.st.keep0 hf, h.sq.keep0 hf⟩
theorem WrAt.put (h : WrAt w wb X L Q vx vt vq clk) (hf : Fr (fun k => k = wb) w w') (hb : w'.heap[wb]? = some (.cells #[vx', .int .i64 clk', vt', vq'] 36 (0, 0))) (sx : SlV 4 Tx9.cells w vx' X') (st : SlV 4 Lk.cells w vt' L') (sq : SlV 3 Wn.cells w vq' Q') : WrAt w' wb X' L' Q' vx' vt' vq' clk' := by
  obtain ⟨A0, c0, e0, -⟩ := h.sx.ex
  obtain ⟨A1, c1, e1, -⟩ := h.st.ex
  obtain ⟨A2, c2, e2, -⟩ := h.sq.ex
  have hw := h.b
  rw [e0, e1, e2] at hw
  exact ⟨hb, sx.keepW tx_two hw hf, st.keepW lk_two hw hf, sq.keepW wn_two hw hf⟩
theorem WrAt.lt (h : WrAt w wb X L Q vx vt vq clk) : wb < w.heap.size := lt_of_block h.b
/-- The struct's fields, stored one by one. -/
theorem WrAt.putX (h : WrAt w wb X L Q vx vt vq clk) (sx : SlV 4 Tx9.cells w vx' X') : WrAt (w.setRow wb (splat [vx, .int .i64 clk, vt, vq] 0 [vx', .int .i64 clk']).toArray) wb X' L Q vx' vt vq clk' ∧ Fr (fun k => k = wb) w (w.setRow wb (splat [vx, .int .i64 clk, vt, vq] 0 [vx', .int .i64 clk']).toArray) := by
  have hf : Fr (fun k => k = wb) w (w.setRow wb (splat [vx, .int .i64 clk, vt, vq] 0 [vx', .int .i64 clk']).toArray) := (Fr.refl _ _).setRow (by exact .inl rfl) _
  exact ⟨h.put hf (by rw [setRow_heap _ _ _ _ _ _ h.b]; rfl) sx h.st h.sq, hf⟩
theorem WrAt.putT (h : WrAt w wb X L Q vx vt vq clk) (st : SlV 4 Lk.cells w vt' L') : WrAt (w.setCell ⟨wb, 2, none⟩ vt') wb X L' Q vx vt' vq clk ∧ Fr (fun k => k = wb) w (w.setCell ⟨wb, 2, none⟩ vt') := by
  have hf : Fr (fun k => k = wb) w (w.setCell ⟨wb, 2, none⟩ vt') := (Fr.refl _ _).setCell (by exact .inl rfl) _
  exact ⟨h.put hf (by rw [set_cell h.b]; rfl) h.sx st h.sq, hf⟩
theorem WrAt.putQ (h : WrAt w wb X L Q vx vt vq clk) (sq : SlV 3 Wn.cells w vq' Q') : WrAt (w.setCell ⟨wb, 3, none⟩ vq') wb X L Q' vx vt vq' clk ∧ Fr (fun k => k = wb) w (w.setCell ⟨wb, 3, none⟩ vq') := by
  have hf : Fr (fun k => k = wb) w (w.setCell ⟨wb, 3, none⟩ vq') := (Fr.refl _ _).setCell (by exact .inl rfl) _
  exact ⟨h.put hf (by rw [set_cell h.b]; rfl) h.sx h.st sq, hf⟩
theorem WrAt.c0 (h : WrAt w wb X L Q vx vt vq clk) : w.cell? ⟨wb, 0, none⟩ = some vx := by rw [cell_of h.b]; rfl
theorem WrAt.c1 (h : WrAt w wb X L Q vx vt vq clk) : w.cell? ⟨wb, 1, none⟩ = some (.int .i64 clk) := by rw [cell_of h.b]; rfl
theorem WrAt.c2 (h : WrAt w wb X L Q vx vt vq clk) : w.cell? ⟨wb, 2, none⟩ = some vt := by rw [cell_of h.b]; rfl
theorem WrAt.c3 (h : WrAt w wb X L Q vx vt vq clk) : w.cell? ⟨wb, 3, none⟩ = some vq := by rw [cell_of h.b]; rfl
theorem WrAt.fz (h : WrAt w wb X L Q vx vt vq clk) (i : Nat) : w.frozen? ⟨wb, i, none⟩ = false := free_of h.b i
end
theorem hasQ_succ (Q : List Wn) (id : Int) {j : Nat} {x : Wn} (h : Q[j]? = some x) : hasQ (Q.take (j + 1)) id = (hasQ (Q.take j) id || decide (x.tx = id)) := by
  unfold hasQ
  rw [List.take_add_one, h, List.any_append]
  simp
/-- Is a transaction Live, without a kid that is, and does it wait for nothing? -/
def leafB (X : List Tx9) (Q : List Wn) (id : Int) : Bool := decide (stateOf X id = 1) && !hasQ Q id && !((List.range X.length).any (kidB X id))
section
variable {w : World} {wb : Nat} {X : List Tx9} {L : List Lk} {Q : List Wn} {vx vt vq : Value} {clk : Int}
set_option maxRecDepth 100000 in
set_option maxHeartbeats 4000000 in
theorem waiting_c (id : Int) (h : WrAt w wb X L Q vx vt vq clk) (hn : Q.length ≤ 64) : Calls Tryz.prog 12 #[.pointer (some ⟨wb, 0, none⟩), .int .i64 id] w fun e w' => e = .returned (.bool (hasQ Q id)) ∧ Fr F0 w w' := by
  obtain ⟨Aq, cq, rfl, hs, -⟩ := h.sq.ex
  obtain ⟨n, hnn⟩ : ∃ n, n = Q.length := ⟨_, rfl⟩
  have HS := Lib.hid hs
  have HN := Lib.hid hnn
  rw [← hnn] at h
  have HW := Lib.hid h
  have n0 : (0 : Int) ≤ (n : Int) := Int.natCast_nonneg _
  have hn64 : n ≤ 64 := by omega
  clear h hs hnn hn
  go_enter Tryz.func12, Tryz.ntmps12
  go_wp2_with fail
  go_loopg [5] n (fun kq x5 wr => ∃ j : Nat, j ≤ n ∧ kq = n - j ∧ x5 = .int .i64 (j : Int) ∧ hasQ (Q.take j) id = false ∧ Fr F0 w wr)
  case atStart => exact ⟨0, by omega, rfl, rfl, rfl, Fr.refl _ _⟩
  case round =>
    obtain ⟨j, hj, rfl, rfl, hh, hf⟩ := hrel
    have HH := Lib.hid hh
    have HF := Lib.hid hf
    have j0 : (0 : Int) ≤ (j : Int) := Int.natCast_nonneg _
    have k3 := (HW.out.keep0 hf).c3
    clear hh hf
    by_cases hlt : j < n
    · have j1 : (j : Int) < (n : Int) := by omega
      have hjl : j < Q.length := by have := HN.out; omega
      obtain ⟨b, off, rfl, hc⟩ := (HS.out.keep0 HF.out).get (List.getElem?_eq_getElem hjl) (Wn.pos _)
      have hst := hasQ_succ Q id (List.getElem?_eq_getElem hjl)
      obtain ⟨x, hx⟩ : ∃ x, x = Q[j] := ⟨_, rfl⟩
      have HM : Hid (x ∈ Q) := Lib.hid (by rw [hx]; exact List.getElem_mem hjl)
      rw [← hx] at hc hst
      clear hx
      have kc : wr.cell? ⟨b, off + j * 3, none⟩ = some (.int .i64 x.tx) := hc 0 _ rfl
      have HST := Lib.hid hst
      clear hc hst
      by_cases he : x.tx = id
      · have g1 : (x.tx == id) = true := by simp [he]
        have HR : Hid (hasQ Q id = true) := Lib.hid (hasQ_iff.2 ⟨x, HM.out, he⟩)
        clear he
        go_wp2_with fail
        go_ret
        exact ⟨by rw [HR.out]; rfl, HF.out⟩
      · have g1 : (x.tx == id) = false := by simp [he]
        have HR : Hid (hasQ (Q.take (j + 1)) id = false) := Lib.hid (by rw [HST.out, HH.out]; simp [he])
        clear he
        go_wp2_with fail
        go_roundg (n - (j + 1))
        case measure => omega
        case rel => exact ⟨j + 1, by omega, rfl, by first | rfl | (go_num), HR.out, HF.out⟩
    · have j1 : ¬ (j : Int) < (n : Int) := by omega
      have HR : Hid (hasQ Q id = false) := Lib.hid (by have h1 := HH.out; rw [show j = Q.length by have := HN.out; omega, List.take_length] at h1; exact h1)
      go_wp2_with fail
      go_ret
      exact ⟨by rw [HR.out]; rfl, HF.out⟩
set_option maxRecDepth 100000 in
set_option maxHeartbeats 4000000 in
theorem leaf_c (id : Int) (hid : isId X id = true) (h : WrAt w wb X L Q vx vt vq clk) (hn : Q.length ≤ 64) (hX : X.length ≤ 64) : Calls Tryz.prog 25 #[.pointer (some ⟨wb, 0, none⟩), .int .i64 id] w fun e w' => e = .returned (.bool (leafB X Q id)) ∧ Fr F0 w w' := by
  obtain ⟨Ax, cx, rfl, hs, -⟩ := h.sx.ex
  obtain ⟨n, hnn⟩ : ∃ n, n = X.length := ⟨_, rfl⟩
  have HS := Lib.hid hs
  have HN := Lib.hid hnn
  rw [← hnn] at h
  have HW := Lib.hid h
  have HQN := Lib.hid hn
  have n0 : (0 : Int) ≤ (n : Int) := Int.natCast_nonneg _
  have hn64 : n ≤ 64 := by omega
  have hi := isId_iff.1 hid
  obtain ⟨q, rfl⟩ : ∃ q : Nat, id = (q : Int) := ⟨id.toNat, by omega⟩
  have hql : q < X.length := by omega
  have q0 : (0 : Int) ≤ (q : Int) := Int.natCast_nonneg _
  have q1 : (q : Int) < (n : Int) := by omega
  obtain ⟨b, off, rfl, hc⟩ := hs.get (List.getElem?_eq_getElem hql) (Tx9.pos _)
  obtain ⟨st, hst⟩ : ∃ st, st = X[q].state := ⟨_, rfl⟩
  have kc : w.cell? ⟨b, off + q * 4 + 1, none⟩ = some (.int .i64 st) := by rw [hst]; exact hc 1 _ rfl
  have HST : Hid (stateOf X (q : Int) = st) := Lib.hid (by rw [hst]; exact stateOf_at (List.getElem?_eq_getElem hql))
  have k0 := h.c0
  clear h hs hnn hn hX hid hi hc hst hql
  by_cases h1 : st = 1
  · have g1 : (st != 1) = false := by simp [h1]
    have HS1 : Hid (stateOf X (q : Int) = 1) := Lib.hid (by rw [HST.out, h1])
    clear h1
    go_enter Tryz.func25, Tryz.ntmps25
    go_wp2_with fail
    clear kc k0 g1
    refine (waiting_c (q : Int) HW.out HQN.out).mono ?_
    rintro e w1 ⟨rfl, hf1⟩
    have HF1 := Lib.hid hf1
    cases hq : hasQ Q (q : Int) with
    | true =>
      have HL : Hid (leafB X Q (q : Int) = false) := Lib.hid (by unfold leafB; rw [hq]; simp)
      clear hq hf1
      go_wp2_with fail
      go_ret
      exact ⟨by rw [HL.out]; rfl, HF1.out⟩
    | false =>
      have HQ1 := Lib.hid hq
      clear hq hf1
      go_wp2_with fail
      go_loopg [5] n (fun kq x5 wr => ∃ j : Nat, j ≤ n ∧ kq = n - j ∧ x5 = .int .i64 (j : Int) ∧ (∀ i, i < j → kidB X (q : Int) i = false) ∧ Fr F0 w wr)
      case atStart => exact ⟨0, by omega, rfl, rfl, fun i hi => absurd hi (Nat.not_lt_zero _), HF1.out⟩
      case round =>
        obtain ⟨j, hj, rfl, rfl, hh, hf⟩ := hrel
        have HH := Lib.hid hh
        have HF := Lib.hid hf
        have j0 : (0 : Int) ≤ (j : Int) := Int.natCast_nonneg _
        have k0 := (HW.out.keep0 hf).c0
        clear hh hf
        by_cases hlt : j < n
        · have j1 : (j : Int) < (n : Int) := by omega
          have hjl : j < X.length := by have := HN.out; omega
          obtain ⟨b', off', e, hc⟩ := (HS.out.keep0 HF.out).get (List.getElem?_eq_getElem hjl) (Tx9.pos _)
          cases e
          have hkb : kidB X (q : Int) j = (decide (X[j].parent = (q : Int)) && decide (X[j].state = 1)) := by unfold kidB; rw [List.getElem?_eq_getElem hjl]
          obtain ⟨x, hx⟩ : ∃ x, x = X[j] := ⟨_, rfl⟩
          rw [← hx] at hc hkb
          clear hx
          have kp : wr.cell? ⟨b, off + j * 4, none⟩ = some (.int .i64 x.parent) := hc 0 _ rfl
          have ks : wr.cell? ⟨b, off + j * 4 + 1, none⟩ = some (.int .i64 x.state) := hc 1 _ rfl
          have HKB := Lib.hid hkb
          clear hc hkb
          obtain ⟨bo, hbo⟩ : ∃ bo, bo = kidB X (q : Int) j := ⟨_, rfl⟩
          have HBO := Lib.hid hbo
          by_cases hp : x.parent = (q : Int)
          · have g2 : (x.parent == (q : Int)) = true := by simp [hp]
            by_cases hs : x.state = 1
            · have g3 : (x.state == 1) = true := by simp [hs]
              have HL : Hid (leafB X Q (q : Int) = false) := Lib.hid (by
                have : (List.range X.length).any (kidB X (q : Int)) = true := List.any_eq_true.2 ⟨j, List.mem_range.2 hjl, by rw [HKB.out]; simp [hp, hs]⟩
                unfold leafB
                rw [this]
                simp)
              clear hp hs hbo
              go_wp2_with fail
              go_ret
              exact ⟨by rw [HL.out]; rfl, HF.out⟩
            · have g3 : (x.state == 1) = false := by simp [hs]
              have HR : Hid (∀ i, i < j + 1 → kidB X (q : Int) i = false) := Lib.hid (fun i hi => by
                rcases Nat.lt_succ_iff_lt_or_eq.1 hi with h | h
                · exact HH.out i h
                · rw [h, HKB.out]; simp [hs])
              clear hp hs hbo
              go_wp2_with fail
              go_roundg (n - (j + 1))
              case measure => omega
              case rel => exact ⟨j + 1, by omega, rfl, by first | rfl | (go_num), HR.out, HF.out⟩
          · have g2 : (x.parent == (q : Int)) = false := by simp [hp]
            have HR : Hid (∀ i, i < j + 1 → kidB X (q : Int) i = false) := Lib.hid (fun i hi => by
              rcases Nat.lt_succ_iff_lt_or_eq.1 hi with h | h
              · exact HH.out i h
              · rw [h, HKB.out]; simp [hp])
            clear hp hbo
            go_wp2_with fail
            go_roundg (n - (j + 1))
            case measure => omega
            case rel => exact ⟨j + 1, by omega, rfl, by first | rfl | (go_num), HR.out, HF.out⟩
        · have j1 : ¬ (j : Int) < (n : Int) := by omega
          have HL : Hid (leafB X Q (q : Int) = true) := Lib.hid (by
            have h2 : (List.range X.length).any (kidB X (q : Int)) = false := by
              rw [List.any_eq_false]
              intro i hi
              have := List.mem_range.1 hi
              rw [HH.out i (by have := HN.out; omega)]
              decide
            unfold leafB
            rw [h2, HQ1.out, HS1.out]
            rfl)
          go_wp2_with fail
          go_ret
          exact ⟨by rw [HL.out]; rfl, HF.out⟩
  · have g1 : (st != 1) = true := by simp [h1]
    have HL : Hid (leafB X Q (q : Int) = false) := Lib.hid (by unfold leafB; rw [HST.out]; simp [h1])
    clear h1
    go_enter Tryz.func25, Tryz.ntmps25
    go_wp2_with fail
    go_ret
    exact ⟨by rw [HL.out]; rfl, Fr.refl _ _⟩
/-- What an end leaves. -/
inductive EndRet (w w' : World) (e : Ending) (wb : Nat) (X : List Tx9) (L : List Lk) (Q : List Wn) (vx vt vq : Value) (clk id : Int) : Prop
  | no (h : abortE X id ≠ 0) (he : e = .returned (.tuple #[])) (hw : WrAt w' wb X L Q vx vt vq clk) (hf : Fr F0 w w') : EndRet w w' e wb X L Q vx vt vq clk id
  | yes (h : abortE X id = 0) (he : e = .returned (.tuple #[])) (vx' vt' vq' : Value) (hw : WrAt w' wb (abortX X id clk) (freeL L (insL X id undoB)) (dropQ Q (insL X id undoB)) vx' vt' vq' (clk + 1)) (hf : Fr (fun k => k = wb) w w') : EndRet w w' e wb X L Q vx vt vq clk id
set_option maxRecDepth 100000 in
set_option maxHeartbeats 4000000 in
theorem end11_c (id : Int) (h : WrAt w wb X L Q vx vt vq clk) (hn : Q.length ≤ 64) (hX : X.length ≤ 64) (hL : SaneL L) (c0 : 0 ≤ clk) (c1 : clk < 2 ^ 62) : Calls Tryz.prog 13 #[.pointer (some ⟨wb, 0, none⟩), .int .i64 id] w fun e w' => EndRet w w' e wb X L Q vx vt vq clk id := by
  have HW := Lib.hid h
  have HQN := Lib.hid hn
  have HXN := Lib.hid hX
  have HLN : Hid (L.length ≤ 1000000) := Lib.hid (by have := sane_len hL; omega)
  obtain ⟨Ax, cx, rfl, -⟩ := h.sx.ex
  obtain ⟨At, ct, rfl, -⟩ := h.st.ex
  obtain ⟨Aq, cq, rfl, -⟩ := h.sq.ex
  obtain ⟨n, hnn⟩ : ∃ n, n = X.length := ⟨_, rfl⟩
  obtain ⟨nt, hnt⟩ : ∃ nt, nt = L.length := ⟨_, rfl⟩
  obtain ⟨nq, hnq⟩ : ∃ nq, nq = Q.length := ⟨_, rfl⟩
  rw [← hnn, ← hnt, ← hnq] at HW ⊢
  have k0 := HW.out.c0
  have k1 := HW.out.c1
  clear h hn hX hL hnn hnt hnq
  go_enter Tryz.func13, Tryz.ntmps13
  go_wp2_with fail
  clear k0 k1
  refine (abort_c clk id HW.out.sx HXN.out c0 c1).mono ?_
  intro e w1 har
  cases har with
  | no h he hf1 =>
    subst he
    have HW1 := Lib.hid (HW.out.keep0 hf1)
    have HF1 := Lib.hid hf1
    obtain ⟨E, hE⟩ : ∃ E, E = abortE X id := ⟨_, rfl⟩
    rw [← hE]
    have g1 : (E == 0) = false := by rw [hE]; simp [h]
    have HH := Lib.hid h
    clear hf1 h hE
    go_wp2_with fail
    go_end0
    exact .no HH.out rfl (HW1.out.keep0 ((Fr.refl _ _).alloc _)) (HF1.out.alloc _)
  | yes h v1 A1 c1' he hs1 hA1 hbs hf1 =>
    subst he
    have hXl : (abortX X id clk).length ≤ 64 := by unfold abortX; rw [endL_len]; exact HXN.out
    obtain ⟨A2, c2, rfl, -⟩ := hs1.ex
    obtain ⟨n2, hn2⟩ : ∃ n2, n2 = (abortX X id clk).length := ⟨_, rfl⟩
    obtain ⟨gone, hg⟩ : ∃ gone, gone = insL X id undoB := ⟨_, rfl⟩
    obtain ⟨ng, hng⟩ : ∃ ng, ng = gone.length := ⟨_, rfl⟩
    have HNG : Hid (ng ≤ 1000000) := Lib.hid (by
      rw [hng, hg]
      unfold insL insTo
      rw [List.length_map]
      refine Nat.le_trans (List.length_filter_le _ _) ?_
      rw [List.length_range]
      have := HXN.out
      omega)
    rw [← hn2] at hs1 ⊢
    rw [← hg] at hA1 ⊢
    rw [← hng]
    have HW1 := Lib.hid (HW.out.keep0 hf1)
    obtain ⟨W1, hW1⟩ : ∃ W1, W1 = w1.alloc (.cells #[.slice A2 n2 c2, .int .i64 (clk + 1)] 31) := ⟨_, rfl⟩
    have hfW : Fr F0 w1 W1 := by rw [hW1]; exact (Fr.refl _ _).alloc _
    have HF1 := Lib.hid (hf1.then0 hfW)
    have HW2 := Lib.hid (HW1.out.keep0 hfW)
    have HS2 := Lib.hid (hs1.keep0 hfW)
    have HA2 := Lib.hid (hA1.keep0 hfW)
    have HG := Lib.hid hg
    have HGN := Lib.hid hng
    have HH := Lib.hid h
    have HBS := Lib.hid hbs
    have HWE := Lib.hid hW1
    obtain ⟨hw3, hf3⟩ := HW2.out.putX (clk' := clk + 1) HS2.out
    obtain ⟨W3, hW3⟩ : ∃ W3, W3 = W1.setRow wb (splat [.slice Ax n cx, .int .i64 clk, .slice At nt ct, .slice Aq nq cq] 0 [.slice A2 n2 c2, .int .i64 (clk + 1)]).toArray := ⟨_, rfl⟩
    rw [← hW3] at hw3 hf3
    have HW3 := Lib.hid hw3
    have HF3 := Lib.hid (HF1.out.of0 (S := fun k => k = wb) |>.trans hf3 (fun _ h => .inl h))
    have HA3 : Hid (ValsAt W3 A1 (gone.map (Value.int .i64))) := Lib.hid (HA2.out.keep hf3 (fun ad e hk => by have h1 := HBS.out ad e; have h2 := HW.out.lt; omega))
    have HWE3 := Lib.hid hW3
    have k2 := hw3.c2
    clear hs1 hA1 hf1 hW1 hfW hg hng h hbs hw3 hf3 hW3 hn2 hXl
    go_wp2_with (refine wpList_store_at rfl 31 (.tmp 22) (.tmp 20) rfl wb 0 [.slice A2 n2 c2, .int .i64 (clk + 1)] (by rfl) (by rfl) 36 [.slice Ax n cx, .int .i64 clk, .slice At nt ct, .slice Aq nq cq] (by rw [← HWE.out]; exact HW2.out.b) size_tree (by show 2 ≤ 4; decide) (tree_one _ _ _ _) ?_; rw [← HWE.out, ← HWE3.out])
    clear k2
    refine (free_c HGN.out.symm HA3.out HNG.out HW3.out.st HLN.out).mono ?_
    rintro e w4 ⟨v4, rfl, hown4, hf4⟩
    have hs4 := SlV.of_own Lk.len hown4
    obtain ⟨A4, c4, rfl, -⟩ := hs4.ex
    obtain ⟨n4, hn4⟩ : ∃ n4, n4 = (freeL L gone).length := ⟨_, rfl⟩
    rw [← hn4] at hs4 ⊢
    have HW4 := Lib.hid (HW3.out.keep0 hf4)
    have HF4 := Lib.hid (HF3.out.then0 hf4)
    have HA4 := Lib.hid (HA3.out.keep0 hf4)
    obtain ⟨hw5, hf5⟩ := HW4.out.putT hs4
    obtain ⟨W5, hW5⟩ : ∃ W5, W5 = w4.setCell ⟨wb, 2, none⟩ (.slice A4 n4 c4) := ⟨_, rfl⟩
    rw [← hW5] at hw5 hf5
    have HW5 := Lib.hid hw5
    have HF5 := Lib.hid (HF4.out.trans hf5 (fun _ h => .inl h))
    have HA5 : Hid (ValsAt W5 A1 (gone.map (Value.int .i64))) := Lib.hid (HA4.out.keep hf5 (fun ad e hk => by have h1 := HBS.out ad e; have h2 := HW.out.lt; omega))
    have HWE5 := Lib.hid hW5
    have k2 := HW4.out.c2
    have k2f := HW4.out.fz 2
    have k3 : (w4.setCell ⟨wb, 2, none⟩ (.slice A4 n4 c4)).cell? ⟨wb, 3, none⟩ = some (.slice Aq nq cq) := by rw [← hW5]; exact hw5.c3
    clear hown4 hs4 hf4 hn4 hw5 hf5 hW5
    go_wp2_with fail
    rw [← HWE5.out]
    clear k2 k2f k3
    refine (drop_c HGN.out.symm HA5.out HNG.out HW5.out.sq (by have := HQN.out; omega)).mono ?_
    rintro e w6 ⟨v6, rfl, hs6, hf6⟩
    obtain ⟨A6, c6, rfl, -⟩ := hs6.ex
    obtain ⟨n6, hn6⟩ : ∃ n6, n6 = (dropQ Q gone).length := ⟨_, rfl⟩
    rw [← hn6] at hs6 ⊢
    have HW6 := Lib.hid (HW5.out.keep0 hf6)
    have HF6 := Lib.hid (HF5.out.then0 hf6)
    obtain ⟨hw7, hf7⟩ := HW6.out.putQ hs6
    have HW7 := Lib.hid hw7
    have HF7 := Lib.hid (HF6.out.trans hf7 (fun _ h => .inl h))
    have k3 := HW6.out.c3
    have k3f := HW6.out.fz 3
    clear hs6 hf6 hn6 hw7 hf7
    go_wp2_with fail
    go_end0
    rw [HG.out] at HW7
    exact .yes HH.out rfl _ _ _ HW7.out HF7.out
end
end Go.Proofs.YtgbaijfgmeealaaGreat
