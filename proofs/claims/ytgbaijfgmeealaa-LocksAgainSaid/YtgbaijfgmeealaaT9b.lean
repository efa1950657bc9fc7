/-
  heronry/tree: a row cloned, tick. Conditions: none.
-/
import Derived.Test.YtgbaijfgmeealaaT9a
import Derived.Test.YtgbaijfgmeealaaLast
import Derived.Lib.BufferMore
set_option linter.unusedVariables false
set_option linter.unusedSimpArgs false
namespace Go.Proofs.Ytgbaijfgmeealaa
open Go.RowKit
theorem info_tx : (Try.prog.info? 47).map (fun i => (i.zero, i.size, i.bytes)) = some (some (.agg #[.int .i64 0, .int .i64 0, .int .i64 0, .int .i64 0]), 4, 32) := by kernel_rfl
theorem own_lower {w : World} {base base' : Nat} {e : TypeId} {size n : Nat} {v : Value} {xs : List Value} (h : w.ownsRow base e size v n xs) (hb : base' ≤ base) : w.ownsRow base' e size v n xs := by
  refine ⟨h.1, ?_⟩
  rcases h.2 with h2 | ⟨g, cap, cur, rfl, hg, r⟩
  · exact .inl h2
  · exact .inr ⟨g, cap, cur, rfl, Nat.le_trans hb hg, r⟩
theorem size_tree : (Try.prog.info? 25).map (·.size) = some 2 := by kernel_rfl
theorem tree_one (A : Option Addr) (n c : Nat) (clk : Int) : ∀ u ∈ [Value.slice A n c, Value.int .i64 clk], u.oneCell' = true := by
  intro u hu
  simp only [List.mem_cons, List.not_mem_nil, or_false] at hu
  rcases hu with rfl | rfl <;> rfl
theorem tree_ret {fn : Func} {p : Nat} {a : Act} {w : World} {b : Nat} {v : Value} {clk : Int} {R : Ending → World → Prop} (hfn : fn.results = #[.cell p 25]) (ha : a.tmps.getD p undef = .pointer (some ⟨b, 0, none⟩)) (hd : a.defers = [])
    (hh : w.heap[b]? = some (.cells #[v, .int .i64 clk] 25 (0, 0))) (hR : R (.returned (.agg #[v, .int .i64 clk])) w) : bodyPost Try.prog fn R .ret a w :=
  bodyPost_ret (results_cell_row hfn _ _ b _ _ _ _ ha hh Try.underlying25 rfl (by kernel_rfl)) hd hR
section
variable {w : World} {v : Value} {L : List Tx9}
set_option maxRecDepth 100000 in
theorem clone_tx (h : SlV 4 Tx9.cells w v L) (hn : L.length ≤ 1000) : Calls Try.prog 60 #[v] w fun e w' => ∃ v', e = .returned v' ∧ w'.ownsRow w.heap.size 47 4 v' L.length (L.flatMap Tx9.cells) ∧ Fr F0 w w' := by
  obtain ⟨A, c, rfl, hs, hnil, hsp⟩ := h.ex
  cases A with
  | none =>
    obtain ⟨rfl, rfl⟩ := hnil rfl
    have hq := Lib.run_eql_slice_nil_nil (P := Try.prog) w 0 0 Try.underlying23
    go_enter Try.func60, Try.ntmps60
    go_wp2_with fail
    go_ret
    exact ⟨_, rfl, own_nil _ _ _ _, Fr.refl _ _⟩
  | some ad =>
    obtain ⟨b, off, sp⟩ := ad
    have hsp' : sp = none := hsp _ rfl
    subst hsp'
    have HS := Lib.hid (hs.keep0 ((Fr.refl F0 w).alloc (.cells #[] 47)))
    have hq := Lib.run_eql_slice_some_nil (P := Try.prog) w ⟨b, off, none⟩ L.length c Try.underlying23
    clear hs hnil hsp
    go_enter Try.func60, Try.ntmps60
    go_wp2_with (at_builtin; refine wpList_append_rowS (f := Tx9.cells) rfl (.tmp 5) (.tmp 6) 23 32 (.agg #[.int .i64 0, .int .i64 0, .int .i64 0, .int .i64 0]) rfl Try.underlying23 info_tx (by rfl) (by decide) (by decide) Tx9.len Tx9.one w.heap.size (.slice (some ⟨w.heap.size, 0, none⟩) 0 0) [] L b off c (by rfl) (by rfl) (own_empty w w.heap.size 47 4 (Nat.le_refl _)) HS.out (by simp) (by simp; omega) ?_; intro v1 w1 hown hf1 _)
    go_ret
    exact ⟨_, rfl, hown, ((Fr.refl F0 w).alloc _).trans hf1 (fun k hk => .inr (by cases hk; exact Nat.le_refl _))⟩
set_option maxRecDepth 100000 in
/-- A tree of its own, a moment on. -/
theorem tick_c (clk : Int) (h : SlV 4 Tx9.cells w v L) (hn : L.length ≤ 1000) (c0 : 0 ≤ clk) (c1 : clk < 2 ^ 62) : Calls Try.prog 31 #[.agg #[v, .int .i64 clk]] w fun e w' => ∃ v', e = .returned (.agg #[v', .int .i64 (clk + 1)]) ∧ w'.ownsRow w.heap.size 47 4 v' L.length (L.flatMap Tx9.cells) ∧ Fr F0 w w' := by
  have HL := Lib.hid h
  obtain ⟨A, c, rfl, -⟩ := h.ex
  have HCK : Hid (IntKind.i64.wrap (clk + 1) = clk + 1) := Lib.hid (by rw [IntKind.wrap_i64]; omega)
  have HT : Hid (((w.alloc (.cells #[.slice A L.length c, .int .i64 clk] 25)).alloc (.cells #[.slice none 0 0, .int .i64 0] 25)).heap[w.heap.size]? = some (.cells #[.slice A L.length c, .int .i64 clk] 25 (0, 0))) := Lib.hid (keep_alloc (alloc_at rfl _) _)
  have HR : Hid (((w.alloc (.cells #[.slice A L.length c, .int .i64 clk] 25)).alloc (.cells #[.slice none 0 0, .int .i64 0] 25)).heap[w.heap.size + 1]? = some (.cells #[.slice none 0 0, .int .i64 0] 25 (0, 0))) := Lib.hid (alloc_at (by simp) _)
  have HF0 : Hid (Fr F0 w ((w.alloc (.cells #[.slice A L.length c, .int .i64 clk] 25)).alloc (.cells #[.slice none 0 0, .int .i64 0] 25))) := Lib.hid (((Fr.refl F0 w).alloc _).alloc _)
  clear h
  go_enter Try.func31, Try.ntmps31
  go_wp2_with fail
  refine wp_region_last (S := F0) [false, false, false, true, true, true, true, true, true, true] [.eq (.pointer (some ⟨w.heap.size, 0, none⟩)), .eq (.slice A L.length c), ⟨fun v w1 => w1.ownsRow w.heap.size 47 4 v L.length (L.flatMap Tx9.cells), fun v w1 w2 h hf => own_keep0 h hf⟩, .eq (.pointer (some ⟨w.heap.size, 1, none⟩)), .eq (.int .i64 clk), .eq (.int .i64 (clk + 1)), ⟨fun v w1 => ∃ u, v = .agg #[u, .int .i64 (clk + 1)] ∧ w1.ownsRow w.heap.size 47 4 u L.length (L.flatMap Tx9.cells), fun v w1 w2 ⟨u, h1, h2⟩ hf => ⟨u, h1, own_keep0 h2 hf⟩⟩, .any] (by kernel_rfl) (by kernel_rfl) (by rfl) (by rfl) (by kernel_rfl) (fun us => ?steps) (fun us wz hG hall => ?fin)
  case steps =>
    simp only [fillL, Nat.reduceAdd]
    refine stepsHold.cons (fun wx hG hd K hK => ?_) ?_
    · rw [if_pos (wanted_none rfl)]
      refine wp_value (w2 := wx) (v := .pointer (some ⟨w.heap.size, 0, none⟩)) ?_ (hK _ _ rfl (Fr.refl _ _))
      clear hd hG hK
      go_simp
    refine stepsHold.cons (fun wx hG hd K hK => ?_) ?_
    · have h3 : us 3 = (.pointer (some ⟨w.heap.size, 0, none⟩)) := deps_get hd 0 rfl rfl rfl rfl rfl
      rw [if_pos (wanted_none rfl)]
      have hc : wx.cell? ⟨w.heap.size, 0, none⟩ = some (.slice A L.length c) := by rw [cell_of (hG.keep0 HT.out)]; rfl
      refine wp_value (w2 := wx) (v := .slice A L.length c) ?_ (hK _ _ rfl (Fr.refl _ _))
      clear hd hK
      go_simp
    refine stepsHold.cons (fun wx hG hd K hK => ?_) ?_
    · have h4 : us 4 = (.slice A L.length c) := deps_get hd 0 rfl rfl rfl rfl rfl
      rw [if_pos (wanted_none rfl)]
      refine wp_call (w2 := wx) (f := 60) (args := #[.slice A L.length c]) ?_ ?_
      · clear hd hK
        go_simp
      · refine ((clone_tx (w := wx) (HL.out.keep0 (HF0.out.then0 hG)) (by omega))).mono ?_
        rintro e w9 ⟨v, rfl, hown, hf⟩
        exact ⟨_, rfl, hK _ _ (own_lower hown (Nat.le_trans HF0.out.size hG.size)) hf⟩
    refine stepsHold.cons (fun wx hG hd K hK => ?_) ?_
    · rw [if_pos (wanted_none rfl)]
      refine wp_value (w2 := wx) (v := .pointer (some ⟨w.heap.size, 1, none⟩)) ?_ (hK _ _ rfl (Fr.refl _ _))
      clear hd hG hK
      go_simp
    refine stepsHold.cons (fun wx hG hd K hK => ?_) ?_
    · have h6 : us 6 = (.pointer (some ⟨w.heap.size, 1, none⟩)) := deps_get hd 0 rfl rfl rfl rfl rfl
      rw [if_pos (wanted_none rfl)]
      have hc : wx.cell? ⟨w.heap.size, 1, none⟩ = some (.int .i64 clk) := by rw [cell_of (hG.keep0 HT.out)]; rfl
      refine wp_value (w2 := wx) (v := .int .i64 clk) ?_ (hK _ _ rfl (Fr.refl _ _))
      clear hd hK
      go_simp
    refine stepsHold.cons (fun wx hG hd K hK => ?_) ?_
    · have h7 : us 7 = (.int .i64 clk) := deps_get hd 0 rfl rfl rfl rfl rfl
      rw [if_pos (wanted_none rfl)]
      have hw := HCK.out
      refine wp_value (w2 := wx) (v := .int .i64 (clk + 1)) ?_ (hK _ _ rfl (Fr.refl _ _))
      clear hd hG hK
      go_simp
    refine stepsHold.cons (fun wx hG hd K hK => ?_) ?_
    · have h5 := deps_get hd 0 rfl rfl rfl rfl rfl
      have h8 : us 8 = (.int .i64 (clk + 1)) := deps_get hd 1 rfl rfl rfl rfl rfl
      rw [if_pos (wanted_none rfl)]
      obtain ⟨A9, c9, e9, -⟩ := SrAt.of_own Tx9.len h5
      have h5' := h5
      rw [e9] at h5'
      refine wp_value (w2 := wx) (v := .agg #[.slice A9 L.length c9, .int .i64 (clk + 1)]) ?_ (hK _ _ ⟨_, rfl, h5'⟩ (Fr.refl _ _))
      clear hd hG hK h5'
      go_simp
    exact stepsHold.nil
  case fin =>
    have h3 : us 3 = (.pointer (some ⟨w.heap.size, 0, none⟩)) := all_get hall 0 rfl rfl rfl
    have h4 : us 4 = (.slice A L.length c) := all_get hall 1 rfl rfl rfl
    have h5 := all_get hall 2 rfl rfl rfl
    have h6 : us 6 = (.pointer (some ⟨w.heap.size, 1, none⟩)) := all_get hall 3 rfl rfl rfl
    have h7 : us 7 = (.int .i64 clk) := all_get hall 4 rfl rfl rfl
    have h8 : us 8 = (.int .i64 (clk + 1)) := all_get hall 5 rfl rfl rfl
    have h9 := all_get hall 6 rfl rfl rfl
    simp only [fillL, Nat.reduceAdd]
    clear hall
    simp only [h3, h4, h6, h7, h8]
    clear h3 h4 h6 h7 h8
    obtain ⟨u, e9, hown⟩ := h9
    obtain ⟨A9, c9, rfl, -⟩ := SrAt.of_own Tx9.len hown
    rw [e9]
    have hr1 := hG.keep0 HR.out
    refine wp_store_at 25 (.tmp 2) (.tmp 9) rfl (w.heap.size + 1) 0 [.slice A9 L.length c9, .int .i64 (clk + 1)] (by rfl) (by rfl) 25 [.slice none 0 0, .int .i64 0] hr1 size_tree (Nat.le_refl 2) (tree_one _ _ _ _) ?_
    have hr2 : (wz.setRow (w.heap.size + 1) (splat [.slice none 0 0, .int .i64 0] 0 [.slice A9 L.length c9, .int .i64 (clk + 1)]).toArray).heap[w.heap.size + 1]? = some (.cells #[.slice A9 L.length c9, .int .i64 (clk + 1)] 25 (0, 0)) := by rw [setRow_heap _ _ _ _ _ _ hr1]; rfl
    have hf2 : Fr (fun k => k = w.heap.size + 1) wz (wz.setRow (w.heap.size + 1) (splat [.slice none 0 0, .int .i64 0] 0 [.slice A9 L.length c9, .int .i64 (clk + 1)]).toArray) := (Fr.refl _ _).setRow (by exact .inl rfl) _
    have hown2 := own_keep hown hf2 (fun k hk e => by
      subst e
      obtain ⟨cc, hcc⟩ := own_cells hown _ hk
      rw [hr1] at hcc
      have h5 := (Obj.cells.inj (Option.some.inj hcc)).2.1
      exact absurd h5 (by decide))
    have HR2 := Lib.hid hr2
    have HO2 := Lib.hid hown2
    have HF2 : Hid (Fr F0 w (wz.setRow (w.heap.size + 1) (splat [.slice none 0 0, .int .i64 0] 0 [.slice A9 L.length c9, .int .i64 (clk + 1)]).toArray)) := Lib.hid ((HF0.out.then0 hG).trans hf2 (fun k hk => .inr (by omega)))
    clear hr1 hr2 hf2 hown2 hown e9
    generalize wz.setRow (w.heap.size + 1) (splat [.slice none 0 0, .int .i64 0] 0 [.slice A9 L.length c9, .int .i64 (clk + 1)]).toArray = W at *
    go_wp2_with fail
    exact tree_ret rfl (by rfl) rfl HR2.out ⟨_, rfl, HO2.out, HF2.out⟩
end
end Go.Proofs.Ytgbaijfgmeealaa
