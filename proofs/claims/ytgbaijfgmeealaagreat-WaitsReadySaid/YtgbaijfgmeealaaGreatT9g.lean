/-
  heronry/tree: Commit, Abort. Conditions: none.
-/
import Derived.Test.YtgbaijfgmeealaaGreatT9f
import Derived.Test.YtgbaijfgmeealaaGreatT9h
set_option linter.unusedVariables false
set_option linter.unusedSimpArgs false
namespace Go.Proofs.YtgbaijfgmeealaaGreat
open Go.RowKit
theorem tree_ret2 {fn : Func} {p c : Nat} {a : Act} {w : World} {b : Nat} {v u : Value} {clk : Int} {R : Ending → World → Prop} (hfn : fn.results = #[.cell p 31, .tmp c]) (ha : a.tmps.getD p undef = .pointer (some ⟨b, 0, none⟩)) (hc : a.tmps.getD c undef = u) (hd : a.defers = [])
    (hh : w.heap[b]? = some (.cells #[v, .int .i64 clk] 31 (0, 0))) (hR : R (.returned (.tuple #[.agg #[v, .int .i64 clk], u])) w) : bodyPost Tryz.prog fn R .ret a w :=
  bodyPost_ret (results_cell2 hfn ha hc (load_tree hh)) hd hR
inductive CommitRet (w w' : World) (e : Ending) (X : List Tx9) (clk id : Int) : Prop
  | no (h : commitE X id ≠ 0) (he : e = .returned (.tuple #[.agg #[.slice none 0 0, .int .i64 0], .int .i64 (commitE X id)])) (hf : Fr F0 w w') : CommitRet w w' e X clk id
  | yes (h : commitE X id = 0) (v : Value) (he : e = .returned (.tuple #[.agg #[v, .int .i64 (clk + 1)], .int .i64 0])) (hs : SlV 4 Tx9.cells w' v (commitX X id clk)) (hf : Fr F0 w w') : CommitRet w w' e X clk id
inductive AbortRet (w w' : World) (e : Ending) (X : List Tx9) (clk id : Int) : Prop
  | no (h : abortE X id ≠ 0) (he : e = .returned (.tuple #[.agg #[.slice none 0 0, .int .i64 0], .slice none 0 0, .int .i64 (abortE X id)])) (hf : Fr F0 w w') : AbortRet w w' e X clk id
  | yes (h : abortE X id = 0) (v : Value) (A : Option Addr) (c : Nat) (he : e = .returned (.tuple #[.agg #[v, .int .i64 (clk + 1)], .slice A (insL X id undoB).length c, .int .i64 0])) (hs : SlV 4 Tx9.cells w' v (abortX X id clk)) (hA : ValsAt w' A ((insL X id undoB).map (Value.int .i64))) (hbs : ∀ ad, A = some ad → w.heap.size ≤ ad.block) (hf : Fr F0 w w') : AbortRet w w' e X clk id
theorem insL_isId {X : List Tx9} {id k : Int} {test : Tx9 → Bool} (h : k ∈ insL X id test) : isId X k = true := by
  obtain ⟨i, x, hx, rfl, -⟩ := insL_mem.1 h
  have := (List.getElem?_eq_some_iff.1 hx).1
  exact isId_iff.2 (by omega)
theorem insL_len (X : List Tx9) (id : Int) (test : Tx9 → Bool) : (insL X id test).length ≤ X.length := insTo_len X id test X.length
section
variable {w : World} {v : Value} {X : List Tx9}
set_option maxRecDepth 100000 in
set_option maxHeartbeats 4000000 in
theorem commit_c (clk id : Int) (h : SlV 4 Tx9.cells w v X) (hn : X.length ≤ 64) (c0 : 0 ≤ clk) (c1 : clk < 2 ^ 62) :
    Calls Tryz.prog 43 #[.agg #[v, .int .i64 clk], .int .i64 id] w fun e w' => CommitRet w w' e X clk id := by
  have HS := Lib.hid h
  obtain ⟨A, c, rfl, -⟩ := h.ex
  obtain ⟨W, hW⟩ : ∃ W, W = ((w.alloc (.cells #[.slice A X.length c, .int .i64 clk] 31)).alloc (.cells #[.slice none 0 0, .int .i64 0] 31)) := ⟨_, rfl⟩
  have HT : Hid (W.heap[w.heap.size]? = some (.cells #[.slice A X.length c, .int .i64 clk] 31 (0, 0))) := Lib.hid (by rw [hW]; exact keep_alloc (alloc_at rfl _) _)
  have HR : Hid (W.heap[w.heap.size + 1]? = some (.cells #[.slice none 0 0, .int .i64 0] 31 (0, 0))) := Lib.hid (by rw [hW]; exact alloc_at (by simp) _)
  have HF0 : Hid (Fr F0 w W) := Lib.hid (by rw [hW]; exact ((Fr.refl F0 w).alloc _).alloc _)
  have HIS : Hid (∀ W, Calls Tryz.prog 38 #[.agg #[.slice A X.length c, .int .i64 clk], .int .i64 id] W fun e w' => e = .returned (.bool (isId X id)) ∧ Fr F0 W w') := Lib.hid (fun W => is_c (w := W) (A := A) (L := X) c clk id (by omega))
  obtain ⟨n, hnn⟩ : ∃ n, n = X.length := ⟨_, rfl⟩
  have HN := Lib.hid hnn
  rw [← hnn] at HT HIS HS hW ⊢
  have HW := Lib.hid hW
  clear h hW hnn
  go_enter Tryz.func43, Tryz.ntmps43
  go_wp2_with fail
  rw [← HW.out]
  clear HW
  refine (HIS.out _).mono ?_
  rintro e w0 ⟨rfl, hf0⟩
  have HTq := Lib.hid (hf0.keep0 HT.out)
  have HRq := Lib.hid (hf0.keep0 HR.out)
  have HFq := Lib.hid (HF0.out.then0 hf0)
  have k0 : w0.cell? ⟨w.heap.size, 0, none⟩ = some (.slice A n c) := by rw [cell_of HTq.out]; rfl
  have k1 : w0.cell? ⟨w.heap.size, 1, none⟩ = some (.int .i64 clk) := by rw [cell_of HTq.out]; rfl
  clear hf0 HT HR HF0
  obtain ⟨bi, hbi⟩ : ∃ bi, bi = isId X id := ⟨_, rfl⟩
  have HBI := Lib.hid hbi
  rw [← hbi]
  clear hbi
  cases bi with
  | false =>
    have HE : Hid (commitE X id = 6) := Lib.hid (by unfold commitE; rw [if_pos HBI.out.symm])
    have r0 : w0.frozen? ⟨w.heap.size + 1, 0, none⟩ = false := free_of HRq.out _
    have r1 : w0.frozen? ⟨w.heap.size + 1, 1, none⟩ = false := free_of HRq.out _
    have r2 : w0.cell? ⟨w.heap.size + 1, 0, none⟩ = some (.slice none 0 0) := by rw [cell_of HRq.out]; rfl
    have r3 : w0.cell? ⟨w.heap.size + 1, 1, none⟩ = some (.int .i64 0) := by rw [cell_of HRq.out]; rfl
    go_wp2_with fail
    exact tree_ret2 rfl (by rfl) (by rfl) rfl (by first | exact HRq.out | (rw [set_cell (set_cell HRq.out 0 _) 1 _]; rfl)) (.no (by rw [HE.out]; decide) (by rw [HE.out]; rfl) (by first | exact HFq.out | exact (HFq.out.setCell (p := ⟨w.heap.size + 1, 0, none⟩) (.inr (Nat.le_succ _)) _).setCell (p := ⟨w.heap.size + 1, 1, none⟩) (.inr (Nat.le_succ _)) _))
  | true =>
    go_wp2_with fail
    have hin := inside_live (w := w0) (v := .slice A n c) (L := X) clk id (HS.out.keep0 HFq.out) hn
    refine hin.mono ?_
    intro e w1 hni
    obtain ⟨A1, c1', rfl, hv1, hf1⟩ := hni.ex
    have HIL : Hid (∀ k ∈ insL X id liveB, isId X k = true) := Lib.hid (fun k hk => insL_isId hk)
    have hle := insL_len X id liveB
    obtain ⟨I, hI⟩ : ∃ I, I = insL X id liveB := ⟨_, rfl⟩
    have HI := Lib.hid hI
    rw [← hI] at hv1 HIL hle ⊢
    obtain ⟨m, hm⟩ : ∃ m, m = I.length := ⟨_, rfl⟩
    have HM := Lib.hid hm
    rw [← hm] at hle ⊢
    have HT1 := Lib.hid (hf1.keep0 HTq.out)
    have HR1 := Lib.hid (hf1.keep0 HRq.out)
    have HF1 := Lib.hid (HFq.out.then0 hf1)
    have HV1 := Lib.hid hv1
    clear hv1 hf1 hI hm k0 k1 hin hni HTq HRq HFq
    have hm1 : m ≤ 1000 := by omega
    have m0 : (0 : Int) ≤ (m : Int) := Int.natCast_nonneg _
    go_wp2_with fail
    obtain ⟨W2, hW2⟩ : ∃ W2, W2 = w1.alloc (.cells #[.int .i64 id] 3) := ⟨_, rfl⟩
    have hfa : Fr F0 w1 W2 := by rw [hW2]; exact (Fr.refl _ _).alloc _
    have hb2 : W2.heap[w1.heap.size]? = some (.cells #[.int .i64 id] 3 (0, 0)) := by rw [hW2]; exact alloc_at rfl _
    rw [← hW2]
    refine (eq1_c HM.out.symm (HV1.out.keep0 hfa) hm1 hb2).mono ?_
    rintro e w3 ⟨rfl, hf3⟩
    have HV3 := Lib.hid ((HV1.out.keep0 hfa).keep0 hf3)
    have HT3 := Lib.hid (hf3.keep0 (hfa.keep0 HT1.out))
    have HR3 := Lib.hid (hf3.keep0 (hfa.keep0 HR1.out))
    have HF3 := Lib.hid ((HF1.out.then0 hfa).then0 hf3)
    have k0 : w3.cell? ⟨w.heap.size, 0, none⟩ = some (.slice A n c) := by rw [cell_of HT3.out]; rfl
    have k1 : w3.cell? ⟨w.heap.size, 1, none⟩ = some (.int .i64 clk) := by rw [cell_of HT3.out]; rfl
    have r0 : w3.frozen? ⟨w.heap.size + 1, 0, none⟩ = false := free_of HR3.out _
    have r1 : w3.frozen? ⟨w.heap.size + 1, 1, none⟩ = false := free_of HR3.out _
    have r2 : w3.cell? ⟨w.heap.size + 1, 0, none⟩ = some (.slice none 0 0) := by rw [cell_of HR3.out]; rfl
    have r3 : w3.cell? ⟨w.heap.size + 1, 1, none⟩ = some (.int .i64 0) := by rw [cell_of HR3.out]; rfl
    clear hfa hb2 hf3 hW2 HT1 HR1 HF1 HV1
    obtain ⟨be, hbe⟩ : ∃ be, be = decide (I = [id]) := ⟨_, rfl⟩
    have HBE := Lib.hid hbe
    rw [← hbe]
    clear hbe
    cases be with
    | false =>
      have HE : Hid (commitE X id = 7) := Lib.hid (by
        have h1 : I ≠ [id] := of_decide_eq_false HBE.out.symm
        unfold commitE
        rw [if_neg (by rw [← HBI.out]; simp), if_pos (by rw [← HI.out]; exact h1)])
      go_wp2_with fail
      exact tree_ret2 rfl (by rfl) (by rfl) rfl (by first | exact HR3.out | (rw [set_cell (set_cell HR3.out 0 _) 1 _]; rfl)) (.no (by rw [HE.out]; decide) (by rw [HE.out]; rfl) (by first | exact HF3.out | exact (HF3.out.setCell (p := ⟨w.heap.size + 1, 0, none⟩) (.inr (Nat.le_succ _)) _).setCell (p := ⟨w.heap.size + 1, 1, none⟩) (.inr (Nat.le_succ _)) _))
    | true =>
      have HE : Hid (commitE X id = 0) := Lib.hid (by
        have h1 : I = [id] := of_decide_eq_true HBE.out.symm
        unfold commitE
        rw [if_neg (by rw [← HBI.out]; simp), if_neg (by rw [← HI.out]; simp [h1])])
      go_wp2_with fail
      refine (end_c (ids := I) clk 2 (HS.out.keep0 HF3.out) (by omega) c0 c1 HM.out.symm HV3.out hm1 HIL.out).mono ?_
      rintro e w4 ⟨v4, rfl, hs4, hf4⟩
      obtain ⟨A4, c4, rfl⟩ := hs4.exn (n := n) (by rw [endL_len, HN.out])
      have HS4 := Lib.hid hs4
      have HR4 := Lib.hid (hf4.keep0 HR3.out)
      have HF4 := Lib.hid (HF3.out.then0 hf4)
      clear hs4 hf4 k0 k1 r0 r1 r2 r3
      go_wp2_with (refine wpList_store_at rfl 31 (.tmp 4) (.tmp 23) rfl (w.heap.size + 1) 0 [.slice A4 n c4, .int .i64 (clk + 1)] (by rfl) (by rfl) 31 [.slice none 0 0, .int .i64 0] HR4.out size_tree (Nat.le_refl 2) (tree_one _ _ _ _) ?_)
      obtain ⟨hb5, hf5⟩ := tree_box (v' := .slice A4 n c4) (clk' := clk + 1) rfl HR4.out
      refine tree_ret2 rfl (by rfl) (by rfl) rfl hb5 (.yes HE.out _ rfl ?_ (HF4.out.trans hf5 (fun k hk => .inr (by omega))))
      unfold commitX
      rw [← HI.out]
      exact HS4.out.box Tx9.len HR4.out (by show 2 < 4; decide) hf5
set_option maxRecDepth 100000 in
set_option maxHeartbeats 4000000 in
theorem abort_c (clk id : Int) (h : SlV 4 Tx9.cells w v X) (hn : X.length ≤ 64) (c0 : 0 ≤ clk) (c1 : clk < 2 ^ 62) :
    Calls Tryz.prog 27 #[.agg #[v, .int .i64 clk], .int .i64 id] w fun e w' => AbortRet w w' e X clk id := by
  have HS := Lib.hid h
  obtain ⟨A, c, rfl, hs, -⟩ := h.ex
  have HL := Lib.hid hs
  obtain ⟨W, hW⟩ : ∃ W, W = ((w.alloc (.cells #[.slice A X.length c, .int .i64 clk] 31)).alloc (.cells #[.slice none 0 0, .int .i64 0] 31)) := ⟨_, rfl⟩
  have HT : Hid (W.heap[w.heap.size]? = some (.cells #[.slice A X.length c, .int .i64 clk] 31 (0, 0))) := Lib.hid (by rw [hW]; exact keep_alloc (alloc_at rfl _) _)
  have HR : Hid (W.heap[w.heap.size + 1]? = some (.cells #[.slice none 0 0, .int .i64 0] 31 (0, 0))) := Lib.hid (by rw [hW]; exact alloc_at (by simp) _)
  have HF0 : Hid (Fr F0 w W) := Lib.hid (by rw [hW]; exact ((Fr.refl F0 w).alloc _).alloc _)
  have HIS : Hid (∀ W, Calls Tryz.prog 38 #[.agg #[.slice A X.length c, .int .i64 clk], .int .i64 id] W fun e w' => e = .returned (.bool (isId X id)) ∧ Fr F0 W w') := Lib.hid (fun W => is_c (w := W) (A := A) (L := X) c clk id (by omega))
  obtain ⟨n, hnn⟩ : ∃ n, n = X.length := ⟨_, rfl⟩
  have HN := Lib.hid hnn
  rw [← hnn] at HT HIS HS hW ⊢
  have HW := Lib.hid hW
  clear h hs hW hnn
  go_enter Tryz.func27, Tryz.ntmps27
  go_wp2_with fail
  rw [← HW.out]
  clear HW
  refine (HIS.out _).mono ?_
  rintro e w0 ⟨rfl, hf0⟩
  have HTq := Lib.hid (hf0.keep0 HT.out)
  have HRq := Lib.hid (hf0.keep0 HR.out)
  have HFq := Lib.hid (HF0.out.then0 hf0)
  have r0 : w0.frozen? ⟨w.heap.size + 1, 0, none⟩ = false := free_of HRq.out _
  have r1 : w0.frozen? ⟨w.heap.size + 1, 1, none⟩ = false := free_of HRq.out _
  have r2 : w0.cell? ⟨w.heap.size + 1, 0, none⟩ = some (.slice none 0 0) := by rw [cell_of HRq.out]; rfl
  have r3 : w0.cell? ⟨w.heap.size + 1, 1, none⟩ = some (.int .i64 0) := by rw [cell_of HRq.out]; rfl
  clear hf0 HT HR HF0
  obtain ⟨bi, hbi⟩ : ∃ bi, bi = isId X id := ⟨_, rfl⟩
  have HBI := Lib.hid hbi
  rw [← hbi]
  clear hbi
  cases bi with
  | false =>
    have HE : Hid (abortE X id = 6) := Lib.hid (by unfold abortE; rw [if_pos HBI.out.symm])
    go_wp2_with fail
    exact tree_ret3 rfl (by rfl) (by rfl) (by rfl) rfl (by first | exact HRq.out | (rw [set_cell (set_cell HRq.out 0 _) 1 _]; rfl)) (.no (by rw [HE.out]; decide) (by rw [HE.out]; rfl) (by first | exact HFq.out | exact (HFq.out.setCell (p := ⟨w.heap.size + 1, 0, none⟩) (.inr (Nat.le_succ _)) _).setCell (p := ⟨w.heap.size + 1, 1, none⟩) (.inr (Nat.le_succ _)) _))
  | true =>
    have hii := isId_iff.1 HBI.out.symm
    obtain ⟨q, rfl⟩ : ∃ q : Nat, id = (q : Int) := ⟨id.toNat, by omega⟩
    have hqn : q < X.length := by omega
    have q0 : (0 : Int) ≤ (q : Int) := Int.natCast_nonneg _
    have q1 : (q : Int) < (n : Int) := by have := HN.out; omega
    obtain ⟨b, off, hA, hcs⟩ := (HL.out.keep0 HFq.out).get (List.getElem?_eq_getElem hqn) (Tx9.pos _)
    subst hA
    obtain ⟨st, hst⟩ : ∃ st, st = X[q].state := ⟨_, rfl⟩
    have HST : Hid (stateOf X (q : Int) = st) := Lib.hid (by rw [hst]; exact stateOf_at (List.getElem?_eq_getElem hqn))
    have hcq : w0.cell? ⟨b, off + q * 4 + 1, none⟩ = some (.int .i64 st) := by rw [hst]; exact hcs 1 _ rfl
    have k0 : w0.cell? ⟨w.heap.size, 0, none⟩ = some (.slice (some ⟨b, off, none⟩) n c) := by rw [cell_of HTq.out]; rfl
    have k1 : w0.cell? ⟨w.heap.size, 1, none⟩ = some (.int .i64 clk) := by rw [cell_of HTq.out]; rfl
    clear hcs hst hii
    by_cases hs1 : st = 1
    · have HE : Hid (abortE X (q : Int) = 0) := Lib.hid (by unfold abortE; rw [if_neg (by rw [← HBI.out]; simp), HST.out, if_neg (by simp [hs1])])
      have hs2 : (st != 1) = false := by simp [hs1]
      clear hs1
      go_wp2_with fail
      refine (inside_undo2 (w := w0) (v := .slice (some ⟨b, off, none⟩) n c) (L := X) clk (q : Int) (HS.out.keep0 HFq.out) hn).mono ?_
      intro e w1 hni
      obtain ⟨A1, c1', rfl, hv1, hf1, hbs⟩ := hni.ex
      have HBS : Hid (∀ ad, A1 = some ad → w.heap.size + 1 < ad.block) := Lib.hid (fun ad e => Nat.lt_of_lt_of_le (lt_of_block HRq.out) (hbs ad e))
      have HIL : Hid (∀ k ∈ insL X (q : Int) undoB, isId X k = true) := Lib.hid (fun k hk => insL_isId hk)
      have hle := insL_len X (q : Int) undoB
      obtain ⟨I, hI⟩ : ∃ I, I = insL X (q : Int) undoB := ⟨_, rfl⟩
      have HI := Lib.hid hI
      rw [← hI] at hv1 HIL hle ⊢
      obtain ⟨m, hm⟩ : ∃ m, m = I.length := ⟨_, rfl⟩
      have HM := Lib.hid hm
      rw [← hm] at hle ⊢
      have HT1 := Lib.hid (hf1.keep0 HTq.out)
      have HR1 := Lib.hid (hf1.keep0 HRq.out)
      have HF1 := Lib.hid (HFq.out.then0 hf1)
      have HV1 := Lib.hid hv1
      clear hv1 hf1 hI hm k0 k1 hni hbs HTq HRq HFq r0 r1 r2 r3 hcq
      have hm1 : m ≤ 1000 := by omega
      have m0 : (0 : Int) ≤ (m : Int) := Int.natCast_nonneg _
      have k0 : w1.cell? ⟨w.heap.size, 0, none⟩ = some (.slice (some ⟨b, off, none⟩) n c) := by rw [cell_of HT1.out]; rfl
      have k1 : w1.cell? ⟨w.heap.size, 1, none⟩ = some (.int .i64 clk) := by rw [cell_of HT1.out]; rfl
      go_wp2_with fail
      refine (end_c (ids := I) clk 3 (HS.out.keep0 HF1.out) (by omega) c0 c1 HM.out.symm HV1.out hm1 HIL.out).mono ?_
      rintro e w4 ⟨v4, rfl, hs4, hf4⟩
      obtain ⟨A4, c4, rfl⟩ := hs4.exn (n := n) (by rw [endL_len, HN.out])
      have HS4 := Lib.hid hs4
      have HR4 := Lib.hid (hf4.keep0 HR1.out)
      have HF4 := Lib.hid (HF1.out.then0 hf4)
      have HV4 := Lib.hid (HV1.out.keep0 hf4)
      clear hs4 hf4 k0 k1
      go_wp2_with (refine wpList_store_at rfl 31 (.tmp 4) (.tmp 28) rfl (w.heap.size + 1) 0 [.slice A4 n c4, .int .i64 (clk + 1)] (by rfl) (by rfl) 31 [.slice none 0 0, .int .i64 0] HR4.out size_tree (Nat.le_refl 2) (tree_one _ _ _ _) ?_)
      obtain ⟨hb5, hf5⟩ := tree_box (v' := .slice A4 n c4) (clk' := clk + 1) rfl HR4.out
      refine tree_ret3 rfl (by rfl) (by rfl) (by rfl) rfl hb5 (.yes HE.out _ A1 c1' (by rw [← HI.out, ← HM.out]; rfl) ?_ ?_ (fun ad e => by have := HBS.out ad e; omega) (HF4.out.trans hf5 (fun k hk => .inr (by omega))))
      · unfold abortX
        rw [← HI.out]
        exact HS4.out.box Tx9.len HR4.out (by show 2 < 4; decide) hf5
      · rw [← HI.out]
        exact HV4.out.keep hf5 (fun ad e hk => by have := HBS.out ad e; omega)
    · have HE : Hid (abortE X (q : Int) = 7) := Lib.hid (by unfold abortE; rw [if_neg (by rw [← HBI.out]; simp), HST.out, if_pos hs1])
      have hs2 : (st != 1) = true := by simp [hs1]
      clear hs1
      go_wp2_with fail
      exact tree_ret3 rfl (by rfl) (by rfl) (by rfl) rfl (by first | exact HRq.out | (rw [set_cell (set_cell HRq.out 0 _) 1 _]; rfl)) (.no (by rw [HE.out]; decide) (by rw [HE.out]; rfl) (by first | exact HFq.out | exact (HFq.out.setCell (p := ⟨w.heap.size + 1, 0, none⟩) (.inr (Nat.le_succ _)) _).setCell (p := ⟨w.heap.size + 1, 1, none⟩) (.inr (Nat.le_succ _)) _))
end
end Go.Proofs.YtgbaijfgmeealaaGreat
