/-
  heronry/tree: Begin. Conditions: none.
-/
import Derived.Test.YtgbaijfgmeealaaGreatT9c
import Derived.Deep.CutBlock
import Derived.Deep.CutRange
set_option linter.unusedVariables false
set_option linter.unusedSimpArgs false
namespace Go.Proofs.YtgbaijfgmeealaaGreat
open Go.RowKit
def stateOf (L : List Tx9) (id : Int) : Int := (L.getD id.toNat Tx9.zero).state
/-- What Begin answers, of an ID or of none. -/
def beginE (L : List Tx9) (p : Int) : Int :=
  if p ≠ -1 ∧ stateOf L p ≠ 1 then 7 else if 64 ≤ L.length then 13 else if p ≠ -1 ∧ 8 ≤ Lh L p then 13 else 0
theorem results_cell3 {P : Program} {fn : Func} {tmps : Array Value} {w : World} {a c d : Nat} {t : TypeId} {ad : Addr} {v u x : Value} (hfn : fn.results = #[.cell a t, .tmp c, .tmp d]) (ha : tmps.getD a undef = .pointer (some ad)) (hc : tmps.getD c undef = u) (hd : tmps.getD d undef = x) (hr : (loadVar t ad).run P w = .ok v w) :
    (results fn tmps).run P w = .ok (.tuple #[v, u, x]) w := by
  have ha' : tmps[a]?.getD undef = .pointer (some ad) := by rw [← ha]; simp [Array.getD_eq_getD_getElem?]
  have hc' : tmps[c]?.getD undef = u := by rw [← hc]; simp [Array.getD_eq_getD_getElem?]
  have hd' : tmps[d]?.getD undef = x := by rw [← hd]; simp [Array.getD_eq_getD_getElem?]
  simp [results, hfn, asAddr, ha', hc', hd', hr]
theorem und_tree : ∃ d, Tryz.prog.underlying 31 = some d ∧ aggDesc d = true := ⟨_, Tryz.underlying31, rfl⟩
theorem load_tree {w : World} {b : Nat} {v : Value} {clk : Int} (h : w.heap[b]? = some (.cells #[v, .int .i64 clk] 31 (0, 0))) : (loadVar 31 ⟨b, 0, none⟩).run Tryz.prog w = .ok (.agg #[v, .int .i64 clk]) w := by
  obtain ⟨d, hu, hd⟩ := und_tree
  refine run_loadVar_at w b 0 31 [v, .int .i64 clk] d (fun j u hv => ?_) hu hd size_tree
  rw [cell_of h]
  simpa using hv
theorem tree_ret3 {fn : Func} {p c d : Nat} {a : Act} {w : World} {b : Nat} {v u x : Value} {clk : Int} {R : Ending → World → Prop} (hfn : fn.results = #[.cell p 31, .tmp c, .tmp d]) (ha : a.tmps.getD p undef = .pointer (some ⟨b, 0, none⟩)) (hc : a.tmps.getD c undef = u) (hx : a.tmps.getD d undef = x) (hd : a.defers = [])
    (hh : w.heap[b]? = some (.cells #[v, .int .i64 clk] 31 (0, 0))) (hR : R (.returned (.tuple #[.agg #[v, .int .i64 clk], u, x])) w) : bodyPost Tryz.prog fn R .ret a w :=
  bodyPost_ret (results_cell3 hfn ha hc hx (load_tree hh)) hd hR
/-- What Begin leaves. -/
inductive BeginRet (w w' : World) (e : Ending) (L : List Tx9) (clk p : Int) : Prop
  | no (h : beginE L p ≠ 0) (he : e = .returned (.tuple #[.agg #[.slice none 0 0, .int .i64 0], .int .i64 0, .int .i64 (beginE L p)])) (hf : Fr F0 w w') : BeginRet w w' e L clk p
  | yes (h : beginE L p = 0) (v : Value) (he : e = .returned (.tuple #[.agg #[v, .int .i64 (clk + 1)], .int .i64 (L.length : Int), .int .i64 0])) (hs : SlV 4 Tx9.cells w' v (L ++ [⟨p, 1, clk + 1, 0⟩])) (hf : Fr F0 w w') : BeginRet w w' e L clk p
section
variable {w : World} {v : Value} {L : List Tx9}
set_option maxRecDepth 100000 in
set_option maxHeartbeats 1000000 in
theorem begin_c (clk p : Int) (h : SlV 4 Tx9.cells w v L) (hn : L.length ≤ 64) (hF : Falls L) (hp : p = -1 ∨ isId L p = true) (c0 : 0 ≤ clk) (c1 : clk < 2 ^ 62) :
    Calls Tryz.prog 17 #[.agg #[v, .int .i64 clk], .int .i64 p] w fun e w' => BeginRet w w' e L clk p := by
  have HS := Lib.hid h
  obtain ⟨A, c, rfl, hs, hnil, hsp⟩ := h.ex
  have HL := Lib.hid hs
  obtain ⟨n, hnn⟩ : ∃ n, n = L.length := ⟨_, rfl⟩
  have HN := Lib.hid hnn
  rw [← hnn]
  have n0 : (0 : Int) ≤ (n : Int) := Int.natCast_nonneg _
  have HLN : Hid (∀ y : Tx9, (L ++ [y]).length = n + 1) := Lib.hid (fun y => by rw [List.length_append, hnn]; rfl)
  have HB : Hid (((w.alloc (.cells #[.slice A n c, .int .i64 clk] 31)).alloc (.cells #[.slice none 0 0, .int .i64 0] 31)).heap[w.heap.size]? = some (.cells #[.slice A n c, .int .i64 clk] 31 (0, 0))) := Lib.hid (keep_alloc (alloc_at rfl _) _)
  have HR : Hid (((w.alloc (.cells #[.slice A n c, .int .i64 clk] 31)).alloc (.cells #[.slice none 0 0, .int .i64 0] 31)).heap[w.heap.size + 1]? = some (.cells #[.slice none 0 0, .int .i64 0] 31 (0, 0))) := Lib.hid (alloc_at (by simp) _)
  have HF0 : Hid (Fr F0 w ((w.alloc (.cells #[.slice A n c, .int .i64 clk] 31)).alloc (.cells #[.slice none 0 0, .int .i64 0] 31))) := Lib.hid (((Fr.refl F0 w).alloc _).alloc _)
  have HS : Hid (SlV 4 Tx9.cells w (.slice A n c) L) := Lib.hid (by rw [HN.out]; exact HS.out)
  clear h hs hnil hsp hnn
  by_cases hp1 : p = -1
  · subst hp1
    by_cases h64 : 64 ≤ n
    · have h64' : (64 : Int) ≤ (n : Int) := by omega
      have hE : beginE L (-1) = 13 := by unfold beginE; rw [if_neg (by simp), if_pos (by have := HN.out; omega)]
      have HE := Lib.hid hE
      clear hE
      go_enter Tryz.func17, Tryz.ntmps17
      go_wp2_with fail
      exact tree_ret3 rfl (by rfl) (by rfl) (by rfl) rfl HR.out (.no (by rw [HE.out]; decide) (by rw [HE.out]; rfl) HF0.out)
    · have h64' : ¬ (64 : Int) ≤ (n : Int) := by omega
      have hE : beginE L (-1) = 0 := by unfold beginE; rw [if_neg (by simp), if_neg (by have := HN.out; omega), if_neg (by simp)]
      have HE := Lib.hid hE
      clear hE
      go_enter Tryz.func17, Tryz.ntmps17
      go_wp2_with fail
      generalize hW0 : ((w.alloc (.cells #[.slice A n c, .int .i64 clk] 31)).alloc (.cells #[.slice none 0 0, .int .i64 0] 31)) = W0 at *
      clear hW0
      refine (tick_c (v := .slice A n c) (L := L) clk (HS.out.keep0 HF0.out) (by omega) c0 c1).mono ?_
      rintro e w1 ⟨u, rfl, hown, hf1⟩
      obtain ⟨A1, c1', rfl, -⟩ := SrAt.of_own Tx9.len hown
      rw [← HN.out] at hown ⊢
      have hb1 := hf1.keep0 HB.out
      have hr1 := hf1.keep0 HR.out
      have HB1 := Lib.hid hb1
      have HR1 := Lib.hid hr1
      have HO1 := Lib.hid hown
      have HF1 := Lib.hid (HF0.out.then0 hf1)
      have HSW : Hid (w.heap.size + 1 < W0.heap.size ∧ W0.heap.size ≤ w1.heap.size) := Lib.hid ⟨lt_of_block HR.out, hf1.size⟩
      clear hown hf1 hb1 hr1
      go_upto_region 9 with (refine wpList_store_at rfl 31 (.tmp 2) (.tmp 47) rfl w.heap.size 0 [.slice A1 n c1', .int .i64 (clk + 1)] (by rfl) (by rfl) 31 [.slice A n c, .int .i64 clk] HB1.out size_tree (Nat.le_refl 2) (tree_one _ _ _ _) ?_)
      have hf2 : Fr (fun k => k = w.heap.size) w1 (w1.setRow w.heap.size (splat [.slice A n c, .int .i64 clk] 0 [.slice A1 n c1', .int .i64 (clk + 1)]).toArray) := (Fr.refl _ _).setRow (by exact .inl rfl) _
      have HB2 : Hid ((w1.setRow w.heap.size (splat [.slice A n c, .int .i64 clk] 0 [.slice A1 n c1', .int .i64 (clk + 1)]).toArray).heap[w.heap.size]? = some (.cells #[.slice A1 n c1', .int .i64 (clk + 1)] 31 (0, 0))) := Lib.hid (by rw [setRow_heap _ _ _ _ _ _ HB1.out]; rfl)
      have HR2 := Lib.hid (hf2.keep HR1.out (by omega))
      have HNE : Hid (∀ k, (Value.slice A1 n c1').ownBlock = some k → k ≠ w.heap.size ∧ k ≠ w.heap.size + 1) := Lib.hid (fun k hk => by
        obtain ⟨cc, hcc⟩ := own_cells HO1.out _ hk
        refine ⟨fun e => ?_, fun e => ?_⟩
        · subst e
          rw [HB1.out] at hcc
          exact absurd (Obj.cells.inj (Option.some.inj hcc)).2.1 (by decide)
        · subst e
          rw [HR1.out] at hcc
          exact absurd (Obj.cells.inj (Option.some.inj hcc)).2.1 (by decide))
      have HO2 := Lib.hid (own_keep HO1.out hf2 (fun k hk e => (HNE.out k hk).1 e))
      have HF2 := Lib.hid (HF1.out.trans hf2 (fun k hk => .inr (by omega)))
      have HS2 : Hid (w1.heap.size ≤ (w1.setRow w.heap.size (splat [.slice A n c, .int .i64 clk] 0 [.slice A1 n c1', .int .i64 (clk + 1)]).toArray).heap.size) := Lib.hid hf2.size
      clear hf2
      generalize (w1.setRow w.heap.size (splat [.slice A n c, .int .i64 clk] 0 [.slice A1 n c1', .int .i64 (clk + 1)]).toArray) = w2 at *
      have c2 : w2.cell? ⟨w.heap.size, 0, none⟩ = some (.slice A1 n c1') := by rw [cell_of HB2.out]; rfl
      have c3 : w2.cell? ⟨w.heap.size, 1, none⟩ = some (.int .i64 (clk + 1)) := by rw [cell_of HB2.out]; rfl
      have hz2 : W0.heap.size ≤ w2.heap.size := by have := HSW.out.2; have := HS2.out; omega
      go_upto_region 10 with (at_builtin; refine wpList_append_oneS (f := Tx9.cells) rfl (.tmp 49) (.tmp 54) 29 32 (.agg #[.int .i64 0, .int .i64 0, .int .i64 0, .int .i64 0]) rfl Tryz.underlying29 info_tx (by rfl) (by decide) (by decide) Tx9.len Tx9.one W0.heap.size (.slice A1 n c1') L ⟨-1, 1, clk + 1, 0⟩ w2.heap.size rfl (by rfl) (by rfl) (by rw [← HN.out]; exact HO2.out) hz2 (by omega) ?_; intro v3 w3 hown3 hf3 _; obtain ⟨A3, c3', hv3, -⟩ := SrAt.of_own Tx9.len hown3; rw [HLN.out] at hv3; subst hv3; have HO3 := Lib.hid hown3; have HB3 := Lib.hid (hf3.keep HB2.out (fun e => (HNE.out _ e).1 rfl)); have HR3 := Lib.hid (hf3.keep HR2.out (fun e => (HNE.out _ e).2 rfl)); have HF3 := Lib.hid (HF2.out.trans hf3 (fun k hk => .inr (by have h5 := own_base HO2.out k hk; have := HSW.out.1; omega))); have c4 : w3.frozen? ⟨w.heap.size, 0, none⟩ = false := free_of HB3.out _; have c5 : w3.cell? ⟨w.heap.size, 0, none⟩ = some (.slice A1 n c1') := (by rw [cell_of HB3.out]; rfl); have HNE3 : Hid (∀ k, (Value.slice A3 (n + 1) c3').ownBlock = some k → k ≠ w.heap.size ∧ k ≠ w.heap.size + 1) := Lib.hid (fun k hk => (by have h5 := own_base HO3.out k hk; have := HSW.out.1; omega)); clear hown3 hf3 c2 c3)
      have HB4 : Hid ((w3.setCell ⟨w.heap.size, 0, none⟩ (.slice A3 (n + 1) c3')).heap[w.heap.size]? = some (.cells #[.slice A3 (n + 1) c3', .int .i64 (clk + 1)] 31 (0, 0))) := Lib.hid (by rw [set_cell HB3.out]; rfl)
      have HR4 : Hid ((w3.setCell ⟨w.heap.size, 0, none⟩ (.slice A3 (n + 1) c3')).heap[w.heap.size + 1]? = some (.cells #[.slice none 0 0, .int .i64 0] 31 (0, 0))) := Lib.hid (keep_setCell HR3.out (by show w.heap.size + 1 ≠ w.heap.size; omega) _)
      have HO4 := Lib.hid (own_keep HO3.out ((Fr.refl (fun k => k = w.heap.size) w3).setCell (p := ⟨w.heap.size, 0, none⟩) (.inl rfl) (.slice A3 (n + 1) c3')) (fun k hk e => (HNE3.out k hk).1 e))
      have HF4 := Lib.hid (HF3.out.setCell (p := ⟨w.heap.size, 0, none⟩) (.inr (Nat.le_refl _)) (.slice A3 (n + 1) c3'))
      clear c4 c5
      generalize (w3.setCell ⟨w.heap.size, 0, none⟩ (.slice A3 (n + 1) c3')) = w4 at *
      have c6 : w4.cell? ⟨w.heap.size, 0, none⟩ = some (.slice A3 (n + 1) c3') := by rw [cell_of HB4.out]; rfl
      have c7 : w4.cell? ⟨w.heap.size, 1, none⟩ = some (.int .i64 (clk + 1)) := by rw [cell_of HB4.out]; rfl
      have c8 : w4.frozen? ⟨w.heap.size + 1, 0, none⟩ = false := free_of HR4.out _
      have c9 : w4.frozen? ⟨w.heap.size + 1, 1, none⟩ = false := free_of HR4.out _
      have c10 : w4.cell? ⟨w.heap.size + 1, 0, none⟩ = some (.slice none 0 0) := by rw [cell_of HR4.out]; rfl
      have c11 : w4.cell? ⟨w.heap.size + 1, 1, none⟩ = some (.int .i64 0) := by rw [cell_of HR4.out]; rfl
      go_region
      go_wp2_with fail
      have HR5 : ((w4.setCell ⟨w.heap.size + 1, 0, none⟩ (.slice A3 (n + 1) c3')).setCell ⟨w.heap.size + 1, 1, none⟩ (.int .i64 (clk + 1))).heap[w.heap.size + 1]? = some (.cells #[.slice A3 (n + 1) c3', .int .i64 (clk + 1)] 31 (0, 0)) := by
        rw [set_cell (set_cell HR4.out 0 _) 1 _]; rfl
      have hf5 : Fr (fun k => k = w.heap.size + 1) w4 ((w4.setCell ⟨w.heap.size + 1, 0, none⟩ (.slice A3 (n + 1) c3')).setCell ⟨w.heap.size + 1, 1, none⟩ (.int .i64 (clk + 1))) := ((Fr.refl (fun k => k = w.heap.size + 1) w4).setCell (p := ⟨w.heap.size + 1, 0, none⟩) (.inl rfl) _).setCell (p := ⟨w.heap.size + 1, 1, none⟩) (.inl rfl) _
      have ho5 := own_keep HO4.out hf5 (fun k hk e => (HNE3.out k hk).2 e)
      exact tree_ret3 rfl (by rfl) (by rfl) (by rfl) rfl HR5 (.yes HE.out _ (by rw [← HN.out]; rfl) ((SlV.of_own Tx9.len ho5).keep0 (Fr.refl F0 _).drew) (HF4.out.trans hf5 (fun k hk => .inr (by omega))).drew)
  · have hid : isId L p = true := hp.resolve_left hp1
    obtain ⟨q, rfl⟩ : ∃ q : Nat, p = (q : Int) := ⟨p.toNat, by unfold isId at hid; rw [Bool.and_eq_true, decide_eq_true_eq, decide_eq_true_eq] at hid; omega⟩
    have hqn : q < L.length := by unfold isId at hid; rw [Bool.and_eq_true, decide_eq_true_eq, decide_eq_true_eq] at hid; omega
    have q0 : (0 : Int) ≤ (q : Int) := Int.natCast_nonneg _
    have q1 : (q : Int) < (n : Int) := by have := HN.out; omega
    have hst : stateOf L (q : Int) = (L[q]).state := by
      unfold stateOf
      rw [Int.toNat_natCast, List.getD_eq_getElem?_getD, List.getElem?_eq_getElem hqn]
      rfl
    have HIS : Hid (∀ W, Calls Tryz.prog 38 #[.agg #[.slice A n c, .int .i64 clk], .int .i64 (q : Int)] W fun e w' => e = .returned (.bool true) ∧ Fr F0 W w') := Lib.hid (fun W => by
      have h5 := is_c (w := W) (A := A) (L := L) c clk (q : Int) (by omega)
      rw [hid, ← HN.out] at h5
      exact h5)
    have HDEEP : Hid (∀ W, TxsAt W A L → Calls Tryz.prog 39 #[.agg #[.slice A n c, .int .i64 clk], .int .i64 (q : Int)] W fun e w' => e = .returned (.int .i64 ((Lh L (q : Int) : Nat) : Int)) ∧ Fr F0 W w') := Lib.hid (fun W hW => by
      have h5 := deep_c (w := W) c clk (q : Int) hW hn hF (by omega)
      rw [← HN.out] at h5
      exact h5)
    obtain ⟨st, hst2⟩ : ∃ st, st = (L[q]).state := ⟨_, rfl⟩
    have HST : Hid (stateOf L (q : Int) = st) := Lib.hid (by rw [hst, hst2])
    have HCELL : Hid (∀ W, Fr F0 w W → ∃ b off, A = some ⟨b, off, none⟩ ∧ W.cell? ⟨b, off + q * 4 + 1, none⟩ = some (.int .i64 st)) := Lib.hid (fun W hf => by
      obtain ⟨b, off, e, hc⟩ := (HL.out.keep0 hf).get (List.getElem?_eq_getElem hqn) (Tx9.pos _)
      exact ⟨b, off, e, by rw [hst2]; exact hc 1 _ rfl⟩)
    clear hst hst2 hid
    have hne : ((q : Int) != -1) = true := by simp
    go_enter Tryz.func17, Tryz.ntmps17
    go_wp2_with fail
    refine (HIS.out _).mono ?_
    rintro e w0 ⟨rfl, hf0⟩
    have HBq := Lib.hid (hf0.keep0 HB.out)
    have HRq := Lib.hid (hf0.keep0 HR.out)
    have HFq := Lib.hid (HF0.out.then0 hf0)
    obtain ⟨b, off, rfl, hcs⟩ := HCELL.out w0 HFq.out
    have k0 : w0.cell? ⟨w.heap.size, 0, none⟩ = some (.slice (some ⟨b, off, none⟩) n c) := by rw [cell_of HBq.out]; rfl
    have k1 : w0.cell? ⟨w.heap.size, 1, none⟩ = some (.int .i64 clk) := by rw [cell_of HBq.out]; rfl
    have r0 : w0.frozen? ⟨w.heap.size + 1, 0, none⟩ = false := free_of HRq.out _
    have r1 : w0.frozen? ⟨w.heap.size + 1, 1, none⟩ = false := free_of HRq.out _
    have r2 : w0.cell? ⟨w.heap.size + 1, 0, none⟩ = some (.slice none 0 0) := by rw [cell_of HRq.out]; rfl
    have r3 : w0.cell? ⟨w.heap.size + 1, 1, none⟩ = some (.int .i64 0) := by rw [cell_of HRq.out]; rfl
    clear hf0
    by_cases hs1 : st = 1
    · subst hs1
      by_cases h64 : 64 ≤ n
      · have h64' : (64 : Int) ≤ (n : Int) := by omega
        have hE : beginE L (q : Int) = 13 := by unfold beginE; rw [HST.out, if_neg (by simp), if_pos (by have := HN.out; omega)]
        have HE := Lib.hid hE
        clear hE
        go_wp2_with fail
        exact tree_ret3 rfl (by rfl) (by rfl) (by rfl) rfl (by first | exact HRq.out | (rw [set_cell (set_cell HRq.out 0 _) 1 _]; rfl)) (.no (by rw [HE.out]; decide) (by rw [HE.out]; rfl) (by first | exact HFq.out | exact (HFq.out.setCell (p := ⟨w.heap.size + 1, 0, none⟩) (.inr (Nat.le_succ _)) _).setCell (p := ⟨w.heap.size + 1, 1, none⟩) (.inr (Nat.le_succ _)) _))
      · have h64' : ¬ (64 : Int) ≤ (n : Int) := by omega
        go_wp2_with fail
        refine (HDEEP.out w0 (HL.out.keep0 HFq.out)).mono ?_
        rintro e w9 ⟨rfl, hf9⟩
        obtain ⟨dp, hdp⟩ : ∃ dp, dp = Lh L (q : Int) := ⟨_, rfl⟩
        have HDP := Lib.hid hdp
        rw [← hdp]
        clear hdp
        have HBr := Lib.hid (hf9.keep0 HBq.out)
        have HRr := Lib.hid (hf9.keep0 HRq.out)
        have HFr := Lib.hid (HFq.out.then0 hf9)
        clear k0 k1 r0 r1 r2 r3 hcs
        have k0 : w9.cell? ⟨w.heap.size, 0, none⟩ = some (.slice (some ⟨b, off, none⟩) n c) := by rw [cell_of HBr.out]; rfl
        have k1 : w9.cell? ⟨w.heap.size, 1, none⟩ = some (.int .i64 clk) := by rw [cell_of HBr.out]; rfl
        have r0 : w9.frozen? ⟨w.heap.size + 1, 0, none⟩ = false := free_of HRr.out _
        have r1 : w9.frozen? ⟨w.heap.size + 1, 1, none⟩ = false := free_of HRr.out _
        have r2 : w9.cell? ⟨w.heap.size + 1, 0, none⟩ = some (.slice none 0 0) := by rw [cell_of HRr.out]; rfl
        have r3 : w9.cell? ⟨w.heap.size + 1, 1, none⟩ = some (.int .i64 0) := by rw [cell_of HRr.out]; rfl
        clear hf9
        by_cases h8 : 8 ≤ dp
        · have h8' : (8 : Int) ≤ (dp : Int) := by omega
          have hE : beginE L (q : Int) = 13 := by unfold beginE; rw [HST.out, if_neg (by simp), if_neg (by have := HN.out; omega), if_pos ⟨by omega, by rw [← HDP.out]; exact h8⟩]
          have HE := Lib.hid hE
          clear hE
          go_wp2_with fail
          exact tree_ret3 rfl (by rfl) (by rfl) (by rfl) rfl (by first | exact HRr.out | (rw [set_cell (set_cell HRr.out 0 _) 1 _]; rfl)) (.no (by rw [HE.out]; decide) (by rw [HE.out]; rfl) (by first | exact HFr.out | exact (HFr.out.setCell (p := ⟨w.heap.size + 1, 0, none⟩) (.inr (Nat.le_succ _)) _).setCell (p := ⟨w.heap.size + 1, 1, none⟩) (.inr (Nat.le_succ _)) _))
        · have h8' : ¬ (8 : Int) ≤ (dp : Int) := by omega
          have hE : beginE L (q : Int) = 0 := by unfold beginE; rw [HST.out, if_neg (by simp), if_neg (by have := HN.out; omega), if_neg (fun h => h8 (by rw [HDP.out]; exact h.2))]
          have HE := Lib.hid hE
          clear hE
          go_wp2_with fail
          clear k0 k1 r0 r1 r2 r3
          refine (tick_c (v := .slice (some ⟨b, off, none⟩) n c) (L := L) clk (HS.out.keep0 HFr.out) (by omega) c0 c1).mono ?_
          rintro e w1 ⟨u, rfl, hown, hf1⟩
          obtain ⟨A1, c1', rfl, -⟩ := SrAt.of_own Tx9.len hown
          rw [← HN.out] at hown ⊢
          have hb1 := hf1.keep0 HBr.out
          have hr1 := hf1.keep0 HRr.out
          have HB1 := Lib.hid hb1
          have HR1 := Lib.hid hr1
          have HO1 := Lib.hid hown
          have HF1 := Lib.hid (HFr.out.then0 hf1)
          have HSW : Hid (w.heap.size + 1 < w9.heap.size ∧ w9.heap.size ≤ w1.heap.size) := Lib.hid ⟨lt_of_block HRr.out, hf1.size⟩
          clear hown hf1 hb1 hr1
          go_upto_region 9 with (refine wpList_store_at rfl 31 (.tmp 2) (.tmp 47) rfl w.heap.size 0 [.slice A1 n c1', .int .i64 (clk + 1)] (by rfl) (by rfl) 31 [.slice (some ⟨b, off, none⟩) n c, .int .i64 clk] HB1.out size_tree (Nat.le_refl 2) (tree_one _ _ _ _) ?_)
          have hf2 : Fr (fun k => k = w.heap.size) w1 (w1.setRow w.heap.size (splat [.slice (some ⟨b, off, none⟩) n c, .int .i64 clk] 0 [.slice A1 n c1', .int .i64 (clk + 1)]).toArray) := (Fr.refl _ _).setRow (by exact .inl rfl) _
          have HB2 : Hid ((w1.setRow w.heap.size (splat [.slice (some ⟨b, off, none⟩) n c, .int .i64 clk] 0 [.slice A1 n c1', .int .i64 (clk + 1)]).toArray).heap[w.heap.size]? = some (.cells #[.slice A1 n c1', .int .i64 (clk + 1)] 31 (0, 0))) := Lib.hid (by rw [setRow_heap _ _ _ _ _ _ HB1.out]; rfl)
          have HR2 := Lib.hid (hf2.keep HR1.out (by omega))
          have HNE : Hid (∀ k, (Value.slice A1 n c1').ownBlock = some k → k ≠ w.heap.size ∧ k ≠ w.heap.size + 1) := Lib.hid (fun k hk => by
            obtain ⟨cc, hcc⟩ := own_cells HO1.out _ hk
            refine ⟨fun e => ?_, fun e => ?_⟩
            · subst e
              rw [HB1.out] at hcc
              exact absurd (Obj.cells.inj (Option.some.inj hcc)).2.1 (by decide)
            · subst e
              rw [HR1.out] at hcc
              exact absurd (Obj.cells.inj (Option.some.inj hcc)).2.1 (by decide))
          have HO2 := Lib.hid (own_keep HO1.out hf2 (fun k hk e => (HNE.out k hk).1 e))
          have HF2 := Lib.hid (HF1.out.trans hf2 (fun k hk => .inr (by omega)))
          have HS2 : Hid (w1.heap.size ≤ (w1.setRow w.heap.size (splat [.slice (some ⟨b, off, none⟩) n c, .int .i64 clk] 0 [.slice A1 n c1', .int .i64 (clk + 1)]).toArray).heap.size) := Lib.hid hf2.size
          clear hf2
          generalize (w1.setRow w.heap.size (splat [.slice (some ⟨b, off, none⟩) n c, .int .i64 clk] 0 [.slice A1 n c1', .int .i64 (clk + 1)]).toArray) = w2 at *
          have c2 : w2.cell? ⟨w.heap.size, 0, none⟩ = some (.slice A1 n c1') := by rw [cell_of HB2.out]; rfl
          have c3 : w2.cell? ⟨w.heap.size, 1, none⟩ = some (.int .i64 (clk + 1)) := by rw [cell_of HB2.out]; rfl
          have hz2 : w9.heap.size ≤ w2.heap.size := by have := HSW.out.2; have := HS2.out; omega
          go_upto_region 10 with (at_builtin; refine wpList_append_oneS (f := Tx9.cells) rfl (.tmp 49) (.tmp 54) 29 32 (.agg #[.int .i64 0, .int .i64 0, .int .i64 0, .int .i64 0]) rfl Tryz.underlying29 info_tx (by rfl) (by decide) (by decide) Tx9.len Tx9.one w9.heap.size (.slice A1 n c1') L ⟨(q : Int), 1, clk + 1, 0⟩ w2.heap.size rfl (by rfl) (by rfl) (by rw [← HN.out]; exact HO2.out) hz2 (by omega) ?_; intro v3 w3 hown3 hf3 _; obtain ⟨A3, c3', hv3, -⟩ := SrAt.of_own Tx9.len hown3; rw [HLN.out] at hv3; subst hv3; have HO3 := Lib.hid hown3; have HB3 := Lib.hid (hf3.keep HB2.out (fun e => (HNE.out _ e).1 rfl)); have HR3 := Lib.hid (hf3.keep HR2.out (fun e => (HNE.out _ e).2 rfl)); have HF3 := Lib.hid (HF2.out.trans hf3 (fun k hk => .inr (by have h5 := own_base HO2.out k hk; have := HSW.out.1; omega))); have c4 : w3.frozen? ⟨w.heap.size, 0, none⟩ = false := free_of HB3.out _; have c5 : w3.cell? ⟨w.heap.size, 0, none⟩ = some (.slice A1 n c1') := (by rw [cell_of HB3.out]; rfl); have HNE3 : Hid (∀ k, (Value.slice A3 (n + 1) c3').ownBlock = some k → k ≠ w.heap.size ∧ k ≠ w.heap.size + 1) := Lib.hid (fun k hk => (by have h5 := own_base HO3.out k hk; have := HSW.out.1; omega)); clear hown3 hf3 c2 c3)
          have HB4 : Hid ((w3.setCell ⟨w.heap.size, 0, none⟩ (.slice A3 (n + 1) c3')).heap[w.heap.size]? = some (.cells #[.slice A3 (n + 1) c3', .int .i64 (clk + 1)] 31 (0, 0))) := Lib.hid (by rw [set_cell HB3.out]; rfl)
          have HR4 : Hid ((w3.setCell ⟨w.heap.size, 0, none⟩ (.slice A3 (n + 1) c3')).heap[w.heap.size + 1]? = some (.cells #[.slice none 0 0, .int .i64 0] 31 (0, 0))) := Lib.hid (keep_setCell HR3.out (by show w.heap.size + 1 ≠ w.heap.size; omega) _)
          have HO4 := Lib.hid (own_keep HO3.out ((Fr.refl (fun k => k = w.heap.size) w3).setCell (p := ⟨w.heap.size, 0, none⟩) (.inl rfl) (.slice A3 (n + 1) c3')) (fun k hk e => (HNE3.out k hk).1 e))
          have HF4 := Lib.hid (HF3.out.setCell (p := ⟨w.heap.size, 0, none⟩) (.inr (Nat.le_refl _)) (.slice A3 (n + 1) c3'))
          clear c4 c5
          generalize (w3.setCell ⟨w.heap.size, 0, none⟩ (.slice A3 (n + 1) c3')) = w4 at *
          have c6 : w4.cell? ⟨w.heap.size, 0, none⟩ = some (.slice A3 (n + 1) c3') := by rw [cell_of HB4.out]; rfl
          have c7 : w4.cell? ⟨w.heap.size, 1, none⟩ = some (.int .i64 (clk + 1)) := by rw [cell_of HB4.out]; rfl
          have c8 : w4.frozen? ⟨w.heap.size + 1, 0, none⟩ = false := free_of HR4.out _
          have c9 : w4.frozen? ⟨w.heap.size + 1, 1, none⟩ = false := free_of HR4.out _
          have c10 : w4.cell? ⟨w.heap.size + 1, 0, none⟩ = some (.slice none 0 0) := by rw [cell_of HR4.out]; rfl
          have c11 : w4.cell? ⟨w.heap.size + 1, 1, none⟩ = some (.int .i64 0) := by rw [cell_of HR4.out]; rfl
          go_region
          go_wp2_with fail
          have HR5 : ((w4.setCell ⟨w.heap.size + 1, 0, none⟩ (.slice A3 (n + 1) c3')).setCell ⟨w.heap.size + 1, 1, none⟩ (.int .i64 (clk + 1))).heap[w.heap.size + 1]? = some (.cells #[.slice A3 (n + 1) c3', .int .i64 (clk + 1)] 31 (0, 0)) := by
            rw [set_cell (set_cell HR4.out 0 _) 1 _]; rfl
          have hf5 : Fr (fun k => k = w.heap.size + 1) w4 ((w4.setCell ⟨w.heap.size + 1, 0, none⟩ (.slice A3 (n + 1) c3')).setCell ⟨w.heap.size + 1, 1, none⟩ (.int .i64 (clk + 1))) := ((Fr.refl (fun k => k = w.heap.size + 1) w4).setCell (p := ⟨w.heap.size + 1, 0, none⟩) (.inl rfl) _).setCell (p := ⟨w.heap.size + 1, 1, none⟩) (.inl rfl) _
          have ho5 := own_keep HO4.out hf5 (fun k hk e => (HNE3.out k hk).2 e)
          exact tree_ret3 rfl (by rfl) (by rfl) (by rfl) rfl HR5 (.yes HE.out _ (by rw [← HN.out]; rfl) ((SlV.of_own Tx9.len ho5).keep0 (Fr.refl F0 _).drew) (HF4.out.trans hf5 (fun k hk => .inr (by omega))).drew)
    · have hs2 : (st != 1) = true := by simp [hs1]
      have hE : beginE L (q : Int) = 7 := by unfold beginE; rw [HST.out, if_pos ⟨by omega, hs1⟩]
      have HE := Lib.hid hE
      clear hE
      go_wp2_with fail
      exact tree_ret3 rfl (by rfl) (by rfl) (by rfl) rfl (by first | exact HRq.out | (rw [set_cell (set_cell HRq.out 0 _) 1 _]; rfl)) (.no (by rw [HE.out]; decide) (by rw [HE.out]; rfl) (by first | exact HFq.out | exact (HFq.out.setCell (p := ⟨w.heap.size + 1, 0, none⟩) (.inr (Nat.le_succ _)) _).setCell (p := ⟨w.heap.size + 1, 1, none⟩) (.inr (Nat.le_succ _)) _))
end
end Go.Proofs.YtgbaijfgmeealaaGreat
