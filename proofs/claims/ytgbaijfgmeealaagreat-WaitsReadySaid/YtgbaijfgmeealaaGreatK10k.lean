/-
  heronry/locks: Ask, of a table that is sane. Conditions: none.
-/
import Derived.Test.YtgbaijfgmeealaaGreatK10j
import Derived.Test.YtgbaijfgmeealaaGreatT9d
set_option linter.unusedVariables false
set_option linter.unusedSimpArgs false
namespace Go.Proofs.YtgbaijfgmeealaaGreat
open Go.RowKit
/-- What Ask answers. -/
def askE (X : List Tx9) (L : List Lk) (tx block m : Int) : Int :=
  if tx < 0 ∨ (X.length : Int) ≤ tx then 6 else if stateOf X tx ≠ 1 then 7 else if againstL X L tx block m ≠ [] then 9 else 0
def askX (L : List Lk) (tx block m : Int) : Lk := { findL L tx block with held := max (findL L tx block).held m }
def askL (L : List Lk) (tx block m : Int) : List Lk := withL L (askX L tx block m)
inductive AskRet (w w' : World) (e : Ending) (X : List Tx9) (L : List Lk) (tx block m : Int) : Prop
  | no (h : askE X L tx block m ≠ 0) (he : e = .returned (.tuple #[.agg #[.slice none 0 0], .int .i64 (askE X L tx block m)])) (hf : Fr F0 w w') : AskRet w w' e X L tx block m
  | yes (h : askE X L tx block m = 0) (v : Value) (he : e = .returned (.tuple #[.agg #[v], .int .i64 0])) (hs : SlV 4 Lk.cells w' v (askL L tx block m)) (hf : Fr F0 w w') : AskRet w w' e X L tx block m
theorem results_cell2 {P : Program} {fn : Func} {tmps : Array Value} {w : World} {a c : Nat} {t : TypeId} {ad : Addr} {v u : Value} (hfn : fn.results = #[.cell a t, .tmp c]) (ha : tmps.getD a undef = .pointer (some ad)) (hc : tmps.getD c undef = u) (hr : (loadVar t ad).run P w = .ok v w) :
    (results fn tmps).run P w = .ok (.tuple #[v, u]) w := by
  have ha' : tmps[a]?.getD undef = .pointer (some ad) := by rw [← ha]; simp [Array.getD_eq_getD_getElem?]
  have hc' : tmps[c]?.getD undef = u := by rw [← hc]; simp [Array.getD_eq_getD_getElem?]
  simp [results, hfn, asAddr, ha', hc', hr]
theorem und_tab : ∃ d, Tryz.prog.underlying 34 = some d ∧ aggDesc d = true := ⟨_, Tryz.underlying34, rfl⟩
theorem load_tab {w : World} {b : Nat} {v : Value} (h : w.heap[b]? = some (.cells #[v] 34 (0, 0))) : (loadVar 34 ⟨b, 0, none⟩).run Tryz.prog w = .ok (.agg #[v]) w := by
  obtain ⟨d, hu, hd⟩ := und_tab
  refine run_loadVar_at w b 0 34 [v] d (fun j u hv => ?_) hu hd size_table
  rw [cell_of h]
  simpa using hv
theorem tab_ret2 {fn : Func} {p c : Nat} {a : Act} {w : World} {b : Nat} {v u : Value} {R : Ending → World → Prop} (hfn : fn.results = #[.cell p 34, .tmp c]) (ha : a.tmps.getD p undef = .pointer (some ⟨b, 0, none⟩)) (hc : a.tmps.getD c undef = u) (hd : a.defers = [])
    (hh : w.heap[b]? = some (.cells #[v] 34 (0, 0))) (hR : R (.returned (.tuple #[.agg #[v], u])) w) : bodyPost Tryz.prog fn R .ret a w :=
  bodyPost_ret (results_cell2 hfn ha hc (load_tab hh)) hd hR
section
variable {w : World} {v u : Value} {L : List Lk} {X : List Tx9}
set_option maxRecDepth 100000 in
set_option maxHeartbeats 4000000 in
theorem ask_c (clk tx block m : Int) (h : SlV 4 Lk.cells w v L) (hn : L.length ≤ 100000) (hs : SaneL L) (hX : SlV 4 Tx9.cells w u X) (hXn : X.length ≤ 64) (hb0 : 0 ≤ block) (hb1 : block < 256) (hm : m = 1 ∨ m = 2) :
    Calls Tryz.prog 15 #[.agg #[v], .agg #[u, .int .i64 clk], .int .i64 tx, .int .i64 block, .int .i64 m] w fun e w' => AskRet w w' e X L tx block m := by
  have HL := Lib.hid h
  have HSA := Lib.hid hs
  have HX := Lib.hid hX
  obtain ⟨A, c, rfl, -⟩ := h.ex
  obtain ⟨B, cb, rfl, hxr, -⟩ := hX.ex
  have HXR := Lib.hid hxr
  obtain ⟨W, hW⟩ : ∃ W, W = ((w.alloc (.cells #[.slice A L.length c] 34)).alloc (.cells #[.slice B X.length cb, .int .i64 clk] 31)).alloc (.cells #[.slice none 0 0] 34) := ⟨_, rfl⟩
  have HF0 : Hid (Fr F0 w W) := Lib.hid (by rw [hW]; exact ((((Fr.refl F0 w).alloc _).alloc _).alloc _))
  have HT : Hid (W.heap[w.heap.size]? = some (.cells #[.slice A L.length c] 34 (0, 0))) := Lib.hid (by rw [hW]; exact keep_alloc (keep_alloc (alloc_at rfl _) _) _)
  have HY : Hid (W.heap[w.heap.size + 1]? = some (.cells #[.slice B X.length cb, .int .i64 clk] 31 (0, 0))) := Lib.hid (by rw [hW]; exact keep_alloc (alloc_at (by simp) _) _)
  have HR : Hid (W.heap[w.heap.size + 2]? = some (.cells #[.slice none 0 0] 34 (0, 0))) := Lib.hid (by rw [hW]; exact alloc_at (by simp) _)
  have HSZ : Hid (W.heap.size = w.heap.size + 3) := Lib.hid (by rw [hW]; simp)
  have HW := Lib.hid hW
  clear h hs hW hX hxr
  have b0 : ¬ block < 0 := by omega
  have b1 : ¬ (256 : Int) ≤ block := by omega
  have hdone : ∀ (w1 : World) (er : Int), Fr F0 W w1 → askE X L tx block m = er → er ≠ 0 → AskRet w (w1.setCell ⟨w.heap.size + 1 + 1, 0, none⟩ (.slice none 0 0)) (.returned (.tuple #[.agg #[.slice none 0 0], .int .i64 er])) X L tx block m := fun w1 er hf he h0 => .no (by rw [he]; exact h0) (by rw [he]) ((HF0.out.then0 hf).setCell (.inr (by show w.heap.size ≤ w.heap.size + 1 + 1; omega)) _)
  have HDONE := Lib.hid hdone
  clear hdone
  have HMM : Hid (m = 1 ∨ m = 2) := Lib.hid hm
  rcases hm with hm1 | hm1
  all_goals
    have mq1 := hm1
    clear hm1
    first
      | (have mq2 : (m != 1) = false := by simp [mq1]
         clear mq1
         have mq3 := mq2)
      | (have mq2 : (m != 1) = true := by simp [mq1]
         have mq3 : (m != 2) = false := by simp [mq1]
         clear mq1)
    go_enter Tryz.func15, Tryz.ntmps15
    go_wp2_with fail
    rw [← HW.out]
    refine (sane_c (HL.out.keep0 HF0.out) (by omega) HSA.out).mono ?_
    rintro e w1 ⟨rfl, hf1⟩
    have HF1 := Lib.hid hf1
    have HT1 := Lib.hid (hf1.keep0 HT.out)
    have HY1 := Lib.hid (hf1.keep0 HY.out)
    have HR1 := Lib.hid (hf1.keep0 HR.out)
    have kt : w1.cell? ⟨w.heap.size, 0, none⟩ = some (.slice A L.length c) := by rw [cell_of HT1.out]; rfl
    have kx : w1.cell? ⟨w.heap.size + 1, 0, none⟩ = some (.slice B X.length cb) := by rw [cell_of HY1.out]; rfl
    have kx1 : w1.cell? ⟨w.heap.size + 1, 1, none⟩ = some (.int .i64 clk) := by rw [cell_of HY1.out]; rfl
    have kr : w1.cell? ⟨w.heap.size + 1 + 1, 0, none⟩ = some (.slice none 0 0) := by rw [cell_of HR1.out]; rfl
    have kf : w1.frozen? ⟨w.heap.size + 1 + 1, 0, none⟩ = false := free_of HR1.out 0
    have HR1S : Hid ((w1.setCell ⟨w.heap.size + 1 + 1, 0, none⟩ (.slice none 0 0)).heap[w.heap.size + 2]? = some (.cells #[.slice none 0 0] 34 (0, 0))) := Lib.hid (by rw [set_cell HR1.out]; rfl)
    clear hf1
    by_cases htx : tx < 0 ∨ (X.length : Int) ≤ tx
    · have HE : Hid (askE X L tx block m = 6) := Lib.hid (by unfold askE; rw [if_pos htx])
      rcases htx with htx | htx
      · go_wp2_with fail
        exact tab_ret2 rfl (by rfl) (by rfl) rfl HR1S.out (HDONE.out w1 6 HF1.out HE.out (by decide))
      · have htx0 : ¬ tx < 0 := by omega
        go_wp2_with fail
        exact tab_ret2 rfl (by rfl) (by rfl) rfl HR1S.out (HDONE.out w1 6 HF1.out HE.out (by decide))
    · obtain ⟨t, rfl⟩ : ∃ t : Nat, tx = (t : Int) := ⟨tx.toNat, by omega⟩
      have htl : t < X.length := by omega
      have HTX := Lib.hid htx
      have t0 : (0 : Int) ≤ (t : Int) := Int.natCast_nonneg _
      have t1 : (t : Int) < (X.length : Int) := by omega
      have t2 : ¬ (X.length : Int) ≤ (t : Int) := by omega
      have t3 : ¬ (64 : Int) ≤ (t : Int) := by omega
      have t4 : ¬ (t : Int) < 0 := by omega
      clear htx
      obtain ⟨b, off, hA, hc⟩ := (HXR.out.keep0 (HF0.out.then0 HF1.out)).get (List.getElem?_eq_getElem htl) (by rw [Tx9.len]; decide)
      subst hA
      have HST : Hid (stateOf X (t : Int) = X[t].state) := Lib.hid (by unfold stateOf; simp [List.getD_eq_getElem?_getD, List.getElem?_eq_getElem htl])
      have ks : w1.cell? ⟨b, off + t * 4 + 1, none⟩ = some (.int .i64 X[t].state) := hc 1 _ rfl
      obtain ⟨st, hst⟩ : ∃ st, st = X[t].state := ⟨_, rfl⟩
      rw [← hst] at ks HST
      clear hc hst
      by_cases hs1 : st = 1
      · have hs2 : (st != 1) = false := by simp [hs1]
        have HS1 := Lib.hid hs1
        clear hs1
        go_wp2_with fail
        refine (against_c clk (t : Int) block m (HL.out.keep0 (HF0.out.then0 HF1.out)) (by omega) HSA.out (HX.out.keep0 (HF0.out.then0 HF1.out)) hXn HMM.out).mono ?_
        intro e w2 hNI
        obtain ⟨A2, c2, rfl, -, hf2⟩ := hNI.ex
        have HF2 := Lib.hid (HF1.out.then0 hf2)
        have HT2 := Lib.hid (hf2.keep0 HT1.out)
        have HR2 := Lib.hid (hf2.keep0 HR1.out)
        clear kt kx kx1 kr kf HR1S ks hNI
        have kt : w2.cell? ⟨w.heap.size, 0, none⟩ = some (.slice A L.length c) := by rw [cell_of HT2.out]; rfl
        have kr : w2.cell? ⟨w.heap.size + 1 + 1, 0, none⟩ = some (.slice none 0 0) := by rw [cell_of HR2.out]; rfl
        have kf : w2.frozen? ⟨w.heap.size + 1 + 1, 0, none⟩ = false := free_of HR2.out 0
        have HR2S : Hid ((w2.setCell ⟨w.heap.size + 1 + 1, 0, none⟩ (.slice none 0 0)).heap[w.heap.size + 2]? = some (.cells #[.slice none 0 0] 34 (0, 0))) := Lib.hid (by rw [set_cell HR2.out]; rfl)
        obtain ⟨k, hk⟩ : ∃ k, k = (againstL X L (t : Int) block m).length := ⟨_, rfl⟩
        rw [← hk]
        have HK := Lib.hid hk
        clear hk hf2
        by_cases hk0 : 0 < k
        · have hk1 : (0 : Int) < (k : Int) := by omega
          have HE : Hid (askE X L (t : Int) block m = 9) := Lib.hid (by
            unfold askE
            rw [if_neg HTX.out, HST.out, if_neg (by rw [HS1.out]; simp), if_pos]
            intro h0
            have := HK.out
            rw [h0] at this
            simp at this
            omega)
          go_wp2_with fail
          exact tab_ret2 rfl (by rfl) (by rfl) rfl HR2S.out (HDONE.out w2 9 HF2.out HE.out (by decide))
        · have hk1 : ¬ (0 : Int) < (k : Int) := by omega
          have HE : Hid (askE X L (t : Int) block m = 0) := Lib.hid (by
            unfold askE
            rw [if_neg HTX.out, HST.out, if_neg (by rw [HS1.out]; simp), if_neg]
            intro h0
            exact h0 (List.eq_nil_of_length_eq_zero (by rw [← HK.out]; omega)))
          go_wp2_with fail
          refine (find_c (t : Int) block (HL.out.keep0 (HF0.out.then0 HF2.out)) (by omega)).mono ?_
          rintro e w3 ⟨rfl, hf3⟩
          obtain ⟨fl, hfl⟩ : ∃ fl, fl = findL L (t : Int) block := ⟨_, rfl⟩
          rw [← hfl]
          have HFL := Lib.hid hfl
          have HF3 := Lib.hid (HF2.out.then0 hf3)
          have HT3 := Lib.hid (hf3.keep0 HT2.out)
          have HR3 := Lib.hid (hf3.keep0 HR2.out)
          clear kt kr kf HR2S hf3 hfl
          obtain ⟨f1, f2, f3, f4⟩ := fl
          obtain ⟨W4, hW4⟩ : ∃ W4, W4 = w3.alloc (.cells #[.int .i64 f1, .int .i64 f2, .int .i64 (max f3 m), .int .i64 f4] 78) := ⟨_, rfl⟩
          have hf4 : Fr F0 w3 W4 := by rw [hW4]; exact (Fr.refl F0 w3).alloc _
          have HF4 := Lib.hid (HF3.out.then0 hf4)
          have HT4 := Lib.hid (hf4.keep0 HT3.out)
          have HR4 := Lib.hid (hf4.keep0 HR3.out)
          have HW4 := Lib.hid hW4
          have kt : (w3.alloc (.cells #[.int .i64 f1, .int .i64 f2, .int .i64 (max f3 m), .int .i64 f4] 78)).cell? ⟨w.heap.size, 0, none⟩ = some (.slice A L.length c) := by rw [← hW4, cell_of HT4.out]; rfl
          have kt3 : w3.cell? ⟨w.heap.size, 0, none⟩ = some (.slice A L.length c) := by rw [cell_of HT3.out]; rfl
          clear hf4 hW4
          go_wp2_with fail
          rw [← HW4.out]
          refine (with_c ⟨f1, f2, max f3 m, f4⟩ (HL.out.keep0 (HF0.out.then0 HF4.out)) hn HSA.out.rise).mono ?_
          rintro e w5 ⟨v5, rfl, hown5, hf5⟩
          have hA5 : withL L ⟨f1, f2, max f3 m, f4⟩ = askL L (t : Int) block m := by unfold askL askX; rw [← HFL.out]
          rw [hA5] at hown5
          obtain ⟨A5, c5, rfl, -⟩ := SrAt.of_own Lk.len hown5
          have HO5 := Lib.hid hown5
          have HF5 := Lib.hid (HF4.out.then0 hf5)
          have HR5 := Lib.hid (hf5.keep0 HR4.out)
          obtain ⟨n5, hn5⟩ : ∃ n5, n5 = (askL L (t : Int) block m).length := ⟨_, rfl⟩
          rw [← hn5]
          have HN5 := Lib.hid hn5
          clear kt kt3 hown5 hf5 hn5 hA5
          have kr : w5.cell? ⟨w.heap.size + 1 + 1, 0, none⟩ = some (.slice none 0 0) := by rw [cell_of HR5.out]; rfl
          have kf : w5.frozen? ⟨w.heap.size + 1 + 1, 0, none⟩ = false := free_of HR5.out 0
          go_wp2_with fail
          refine tab_ret2 (b := w.heap.size + 2) (v := .slice A5 n5 c5) rfl (by rfl) (by rfl) rfl (by rw [set_cell HR5.out]; rfl) (.yes HE.out (.slice A5 n5 c5) rfl ?_ ((HF0.out.then0 HF5.out).setCell (.inr (by show w.heap.size ≤ w.heap.size + 1 + 1; omega)) _))
          have h8 := own_keep HO5.out ((Fr.refl (fun k => k = w.heap.size + 1 + 1) w5).setCell (p := ⟨w.heap.size + 1 + 1, 0, none⟩) (by exact .inl rfl) (.slice A5 n5 c5)) (fun k hk e => by
            have h1 := own_ge HO5.out hk
            have h2 := lt_of_block HR4.out
            have e' : k = w.heap.size + 1 + 1 := e
            omega)
          have h9 := SlV.of_own Lk.len h8
          rw [← HN5.out] at h9
          exact h9
      · have hs2 : (st != 1) = true := by simp [hs1]
        have HE : Hid (askE X L (t : Int) block m = 7) := Lib.hid (by unfold askE; rw [if_neg HTX.out, HST.out, if_pos hs1])
        go_wp2_with fail
        exact tab_ret2 rfl (by rfl) (by rfl) rfl HR1S.out (HDONE.out w1 7 HF1.out HE.out (by decide))
end
end Go.Proofs.YtgbaijfgmeealaaGreat
