/-
  heronry/locks: slices.Insert of one lock. Conditions: none.
-/
import Derived.Test.YtgbaijfgmeealaaGreatRowU
import Derived.Test.YtgbaijfgmeealaaGreatK10h
import Derived.Lib.Overlaps
set_option linter.unusedVariables false
set_option linter.unusedSimpArgs false
namespace Go.Proofs.YtgbaijfgmeealaaGreat
open Go.RowKit
section
variable {w : World} {v : Value} {L : List Lk}
theorem one_at {B : Nat} {y : Lk} (h : w.heap[B]? = some (.cells y.cells.toArray 78 (0, 0))) : SrAt 4 Lk.cells w (some ⟨B, 0, none⟩) [y] := ⟨fun i k x u hx hu => ⟨B, 0, rfl, by
  cases i with
  | succ i => simp at hx
  | zero =>
    simp at hx
    subst hx
    rw [cell_of h]
    simpa using hu⟩⟩
theorem overlaps_lk {B g o lb cb : Nat} {cs cur : Array Value} {t t' : TypeId} (hne : B ≠ g) (hB : w.heap[B]? = some (.cells cs t (0, 0))) (hg : w.heap[g]? = some (.cells cur t' (0, 0))) (hc : cur.size ≠ 0) :
    (callFunc 82 #[.slice (some ⟨B, 0, none⟩) 1 1, .slice (some ⟨g, o, none⟩) lb cb]).run Tryz.prog w = .ok (.value (.bool false)) w := by
  rw [run_callFunc_extern Tryz.func82 (by kernel_rfl) (by kernel_rfl) (by kernel_rfl) (e := Extern.SlicesOverlaps.overlaps #[32, 32] #[4]) (by kernel_rfl),
    Lib.run_overlaps_apart w 32 4 78 Tryz.underlying32 4 (fun w => by have h4 := size_lock; cases hq : Tryz.prog.info? 78 with | none => (simp [hq] at h4) | some i => (have h5 : i.size = 4 := by simpa [hq] using h4); simp [Go.sizeOf, typeInfo, hq, h5]) ⟨B, 0, none⟩ ⟨g, o, none⟩ 1 1 lb cb hne t t' cs.size cur.size (by simp [World.shape?, hB]) (by simp [World.shape?, hg]) hc (free_of hB 0) (free_of hB _)]
  rfl
set_option maxRecDepth 100000 in
set_option maxHeartbeats 2000000 in
theorem insert_end (y : Lk) {base B : Nat} (h : w.ownsRow base 78 4 v L.length (L.flatMap Lk.cells)) (hbase : base ≤ w.heap.size) (hn : L.length ≤ 100000) (hB : w.heap[B]? = some (.cells y.cells.toArray 78 (0, 0))) :
    Calls Tryz.prog 63 #[v, .int .i64 (L.length : Int), .slice (some ⟨B, 0, none⟩) 1 1] w fun e w' => ∃ v', e = .returned v' ∧ w'.ownsRow base 78 4 v' (L ++ [y]).length ((L ++ [y]).flatMap Lk.cells) ∧ Fr (fun k => v.ownBlock = some k) w w' := by
  have HW := Lib.hid h
  have HN := Lib.hid (one_at hB)
  obtain ⟨A, c, rfl, -, hlc, -, hnil, -⟩ := SrAt.of_own Lk.len h
  have HLC : Hid (L.length ≤ c) := Lib.hid hlc
  obtain ⟨M, hM⟩ : ∃ M, M = L ++ [y] := ⟨_, rfl⟩
  rw [← hM]
  have HM := Lib.hid hM
  clear h hB hM
  go_enter Tryz.func63, Tryz.ntmps63
  go_wp2_with (at_builtin; refine wpList_append_rowS (f := Lk.cells) rfl (.tmp 23) (.tmp 24) 32 32 (.agg #[.int .i64 0, .int .i64 0, .int .i64 0, .int .i64 0]) rfl Tryz.underlying32 info_lock (by rfl) (by decide) (by decide) Lk.len Lk.one base _ L [y] B 0 1 (by rfl) (by rfl) HW.out HN.out hbase (by simp; omega) ?_; intro v1 w1 hown hf1 _)
  all_goals
    rw [← HM.out] at hown
    go_ret
    refine ⟨_, rfl, hown, hf1.mono (fun k hk => ?_)⟩
    cases A with
    | none => cases hk
    | some ad => obtain ⟨ab, ao, sp⟩ := ad; cases sp <;> first | exact hk | (cases ao <;> exact hk)
theorem app_zeros_lk (w : World) {g n i : Nat} {cur : List Value} (hh : w.heap[g]? = some (.cells cur.toArray 78 (0, 0))) (hlen : i * 4 ≤ cur.length) (hi : i ≤ n) (hn : n ≤ 100000) :
    ∃ (C : Nat) (zs : List Value) (W : World), n + 1 ≤ C ∧ C ≤ maxLen ∧ (cur.take (i * 4) ++ zs).length = C * 4 ∧ W.heap[w.heap.size]? = some (.cells (cur.take (i * 4) ++ zs).toArray 78 (0, 0)) ∧ Fr F0 w W ∧ ∀ ty, (Builtin.append_ #[32, 3] ty #[.slice (some ⟨g, 0, none⟩) i n, .int .i64 ((n + 1 - i : Nat) : Int)]).run Tryz.prog w =
      .ok (.slice (some ⟨w.heap.size, 0, none⟩) (n + 1) C) W := by
  obtain ⟨i0, hi0, hzz⟩ := Option.map_eq_some_iff.1 info_lock
  simp only [Prod.mk.injEq] at hzz
  obtain ⟨hz0, hz1, hz2⟩ := hzz
  have hik : i + (n + 1 - i) = n + 1 := by omega
  have hct : (cur.take (i * 4)).length = i * 4 := by rw [List.length_take]; omega
  have holds : ∀ j u, (cur.take (i * 4))[j]? = some u → w.drew.cell? ((⟨g, 0, none⟩ : Addr).add j) = some u := fun j u hj => by
    rw [List.getElem?_take] at hj
    split at hj
    · rw [add_at]
      rw [show w.drew.cell? ⟨g, 0 + j, none⟩ = w.cell? ⟨g, 0 + j, none⟩ from rfl, cell_of hh, Nat.zero_add]
      simpa using hj
    · cases hj
  have hfo := run_firstCells_some (P := Tryz.prog) w.drew 4 i ⟨g, 0, none⟩ i n (cur.take (i * 4)) hct holds
  have hfit := growslice_fits (need := n + 1) (old := n) (bytes := 32) (by omega) (by omega)
  have hr := fun ty => Lib.run_append_grow_zeros (P := Tryz.prog) w 32 3 ty 78 i0 _ .i64 .i64 Tryz.underlying32 und9_int hi0 hz0 (some ⟨g, 0, none⟩) i n (cur.take (i * 4)) (by rw [hz1]; exact hfo) (n + 1 - i) (by omega) (by rw [hz1]; decide) (by omega) (by omega) (by rw [hz2]; omega) (by rw [hz2, hik]; exact hfit)
  have hC := grownCap_ge w (n + 1) n 78
  have hC2 := grownCap_le_maxLen w (n + 1) n 78 (by simp only [maxLen]; omega)
  simp only [hik] at hr
  refine ⟨grownCap w (n + 1) n 78, (Builtin.zeroCells (Value.agg #[.int .i64 0, .int .i64 0, .int .i64 0, .int .i64 0]).cells (n + 1 - i)).toList ++ (Builtin.zeroCells (Value.agg #[.int .i64 0, .int .i64 0, .int .i64 0, .int .i64 0]).cells (grownCap w (n + 1) n 78 - (n + 1))).toList, _, hC, hC2, ?_, ?_, ?_, hr⟩
  · rw [List.length_append, List.length_append, hct]
    simp only [Array.length_toList, size_zeroCells]
    show i * 4 + ((n + 1 - i) * 4 + (grownCap w (n + 1) n 78 - (n + 1)) * 4) = _
    omega
  · rw [alloc_at (w := w.drew) (b := w.heap.size) rfl]
    have e : ∀ (l : List Value) (z1 z2 : Array Value), l.toArray ++ z1 ++ z2 = (l ++ (z1.toList ++ z2.toList)).toArray := fun l z1 z2 => by apply Array.ext'; simp
    rw [e]
  · exact ((Fr.refl F0 w).drew).alloc _
set_option maxRecDepth 100000 in
set_option maxHeartbeats 2000000 in
theorem insert_grow (y : Lk) (i : Nat) {base B g : Nat} (h : w.ownsRow base 78 4 (.slice (some ⟨g, 0, none⟩) L.length L.length) L.length (L.flatMap Lk.cells)) (hbase : base ≤ w.heap.size) (hn : L.length ≤ 100000) (hi : i < L.length) (hB : w.heap[B]? = some (.cells y.cells.toArray 78 (0, 0))) :
    Calls Tryz.prog 63 #[.slice (some ⟨g, 0, none⟩) L.length L.length, .int .i64 (i : Int), .slice (some ⟨B, 0, none⟩) 1 1] w fun e w' => ∃ v', e = .returned v' ∧ w'.ownsRow base 78 4 v' (insAt L i y).length ((insAt L i y).flatMap Lk.cells) ∧ Fr F0 w w' := by
  obtain ⟨rest, hh, hb, hc1, hc2, hc3⟩ := own_parts h
  have hrest : rest = [] := by
    have := cells_flat_len Lk.cells L (fun x _ => Lk.len x)
    rw [List.length_append, this] at hc3
    exact List.eq_nil_of_length_eq_zero (by omega)
  subst hrest
  rw [List.append_nil] at hh
  have HH := Lib.hid hh
  have HB := Lib.hid hB
  obtain ⟨n, hnn⟩ : ∃ n, n = L.length := ⟨_, rfl⟩
  have HN := Lib.hid hnn
  rw [← hnn]
  have hn' : n ≤ 100000 := by omega
  have hi' : i < n := by omega
  have i0 : (0 : Int) ≤ (i : Int) := Int.natCast_nonneg _
  have i1 : (i : Int) < (n : Int) := by omega
  obtain ⟨M, hM⟩ : ∃ M, M = insAt L i y := ⟨_, rfl⟩
  rw [← hM]
  have HM := Lib.hid hM
  have hfl := cells_flat_len Lk.cells L (fun x _ => Lk.len x)
  obtain ⟨C, zs, W1, hC1, hC2, hzl, hW1, hF1, happ⟩ := app_zeros_lk w hh (n := n) (i := i) (by rw [hfl]; omega) (by omega) hn'
  have HW1 := Lib.hid hW1
  have HF1 := Lib.hid hF1
  have cp1 : ∀ ty, (Builtin.copy_ #[32, 32] ty #[.slice (some ⟨w.heap.size, i * 4, none⟩) (n + 1 - i) (C - i), .slice (some ⟨B, 0, none⟩) 1 1]).run Tryz.prog W1 = .ok (goInt ((1 : Nat) : Int)) (W1.setRow w.heap.size (splat (((L.flatMap Lk.cells).take (i * 4) ++ zs)) (i * 4) y.cells).toArray) := fun ty =>
    run_copy_rowS W1 _ _ ty 78 w.heap.size (i * 4) (n + 1 - i) (C - i) ⟨B, 0, none⟩ 1 1 _ 78 y.cells 1 4 Tryz.underlying32 size_lock hW1 (by simp only [Nat.min_def]; split <;> omega) (by rw [Lk.len])
      (fun j u hj => by rw [add_at, cell_of (hF1.keep0 hB)]; simpa using hj) (by rw [hzl, Lk.len]; omega) (Lk.one y)
  have HCP1 := Lib.hid cp1
  have HAPP := Lib.hid happ
  have HC1 := Lib.hid hC1
  have HC2 := Lib.hid hC2
  have HZL := Lib.hid hzl
  clear h hh hB hM hb hc1 hc2 hc3 hn hi hnn happ hC1 hC2 hzl hfl hW1 hF1 cp1
  have hCi : i < C := by have := HC1.out; omega
  go_enter Tryz.func63, Tryz.ntmps63
  go_wp2_with (first | (refine wpList_copy_at rfl (.tmp 43) (.tmp 44) 32 32 rfl _ _ (by rfl) (by rfl) HCP1.out ?_) | (at_builtin; refine wpList_append_at rfl (.tmp 34) (.tmp 39) 32 3 rfl (.slice (some ⟨g, 0, none⟩) i n) (.int .i64 ((n + 1 - i : Nat) : Int)) (by rfl) (by refine congrArg (Value.int .i64) ?_; omega) (HAPP.out) ?_))
  have hf2 : Fr F0 w (W1.setRow w.heap.size (splat ((L.flatMap Lk.cells).take (i * 4) ++ zs) (i * 4) y.cells).toArray) := HF1.out.setRow (.inr (Nat.le_refl _)) _
  have hw2 := setRow_heap W1 w.heap.size _ (splat ((L.flatMap Lk.cells).take (i * 4) ++ zs) (i * 4) y.cells).toArray _ _ HW1.out
  generalize W1.setRow w.heap.size (splat ((L.flatMap Lk.cells).take (i * 4) ++ zs) (i * 4) y.cells).toArray = W2 at *
  have HF2 := Lib.hid hf2
  have HW2 := Lib.hid hw2
  have hfl : (L.flatMap Lk.cells).length = n * 4 := by rw [HN.out]; exact cells_flat_len Lk.cells L (fun x _ => Lk.len x)
  have hdl : ((L.drop i).flatMap Lk.cells).length = (n - i) * 4 := by rw [cells_flat_len Lk.cells _ (fun x _ => Lk.len x), List.length_drop, HN.out]
  have htl : ((L.flatMap Lk.cells).take (i * 4)).length = i * 4 := by rw [List.length_take, hfl]; omega
  have hsl : (splat ((L.flatMap Lk.cells).take (i * 4) ++ zs) (i * 4) y.cells).length = C * 4 := by rw [splat_length _ _ _ (by rw [HZL.out, Lk.len]; omega)]; exact HZL.out
  have cp2 : ∀ ty, (Builtin.copy_ #[32, 32] ty #[.slice (some ⟨w.heap.size, (i + 1) * 4, none⟩) (n - i) (C - (i + 1)), .slice (some ⟨g, i * 4, none⟩) (n - i) (n - i)]).run Tryz.prog W2.drew = .ok (goInt ((n - i : Nat) : Int)) (W2.drew.setRow w.heap.size (splat (splat (((L.flatMap Lk.cells).take (i * 4) ++ zs)) (i * 4) y.cells) ((i + 1) * 4) ((L.drop i).flatMap Lk.cells)).toArray) := fun ty =>
    run_copy_rowS W2.drew _ _ ty 78 w.heap.size ((i + 1) * 4) (n - i) (C - (i + 1)) ⟨g, i * 4, none⟩ (n - i) (n - i) _ 78 ((L.drop i).flatMap Lk.cells) (n - i) 4 Tryz.underlying32 size_lock HW2.out (by simp only [Nat.min_def]; split <;> omega) hdl
      (fun j u hj => by
        rw [add_at]
        show W2.cell? ⟨g, i * 4 + j, none⟩ = some u
        rw [cell_of (HF2.out.keep0 HH.out), ← hj, ← flat_drop Lk.len L (by rw [← HN.out]; omega), List.getElem?_drop]
        simp) (by rw [hsl, hdl]; have := HC1.out; omega) (fun u hu => by
        obtain ⟨x, _, hx⟩ := List.mem_flatMap.1 hu
        exact Lk.one x u hx)
  have HCP2 := Lib.hid cp2
  have HDL := Lib.hid hdl
  have HTL := Lib.hid htl
  clear hf2 hw2 cp2 hsl hdl htl hfl
  have htn : ((i : Int) + 1).toNat = i + 1 := by omega
  have hb2 : ¬ (C = i + 1) := by have := HC1.out; omega
  have hb4 : ¬ (C = i) := by omega
  have hb5 : ¬ (n = i) := by omega
  have hb6 : (i : Int) ≤ (n : Int) := by omega
  have hw1 : IntKind.i64.wrap ((i : Int) + 1) = (i : Int) + 1 := by rw [IntKind.wrap_i64]; omega
  have hb1 : (0 : Int) ≤ (i : Int) + 1 := by omega
  have hb7 : ¬ (C ≤ i + 1) := by have := HC1.out; omega
  have hb8 : ¬ (C - (i + 1) = 0) := by have := HC1.out; omega
  go_still_tail 8, (by kernel_rfl)
  change wpList _ _ _ _ _ W2.drew
  go_wp2_with (refine wpList_copy_at rfl (.tmp 50) (.tmp 53) 32 32 rfl _ _ (by rfl) (by rfl) HCP2.out ?_)
  go_ret
  refine ⟨_, rfl, ?_, (HF2.out.drew).setRow (.inr (Nat.le_refl _)) _⟩
  rw [HM.out, insAt_len L (by rw [← HN.out]; omega), splat_dn _ _ _ (i * 4) ((i + 1) * 4) (by rw [Lk.len]; omega) (by rw [HDL.out, HZL.out]; have := HC1.out; omega)]
  have e1 : ((L.flatMap Lk.cells).take (i * 4) ++ zs).take (i * 4) = (L.take i).flatMap Lk.cells := by
    rw [List.take_append_of_le_length (by rw [HTL.out]; exact Nat.le_refl _), List.take_take, Nat.min_self]
    simpa using flat_take (f := Lk.cells) Lk.len L [] (i := i) (by rw [← HN.out]; omega)
  rw [e1, HN.out]
  have hHW := HW2.out
  refine own_ins (cur := []) Lk.len (by rw [← HN.out]; omega) y (setRow_heap W2.drew w.heap.size _ _ _ _ HW2.out) hbase (by rw [← HN.out]; exact HC1.out) HC2.out ?_
  have l1 : ((L.take i).flatMap Lk.cells).length = i * 4 := by rw [cells_flat_len Lk.cells _ (fun x _ => Lk.len x), List.length_take, ← HN.out]; congr 1; omega
  rw [List.length_append, List.length_append, List.length_append, l1, HDL.out, Lk.len, List.length_drop, HZL.out]
  have := HC1.out
  omega
set_option maxRecDepth 100000 in
set_option maxHeartbeats 2000000 in
theorem insert_room (y : Lk) (i : Nat) {base B g cap : Nat} (h : w.ownsRow base 78 4 (.slice (some ⟨g, 0, none⟩) L.length cap) L.length (L.flatMap Lk.cells)) (hn : L.length ≤ 100000) (hi : i < L.length) (hcap : L.length + 1 ≤ cap) (hne : B ≠ g) (hB : w.heap[B]? = some (.cells y.cells.toArray 78 (0, 0))) :
    Calls Tryz.prog 63 #[.slice (some ⟨g, 0, none⟩) L.length cap, .int .i64 (i : Int), .slice (some ⟨B, 0, none⟩) 1 1] w fun e w' => ∃ v', e = .returned v' ∧ w'.ownsRow base 78 4 v' (insAt L i y).length ((insAt L i y).flatMap Lk.cells) ∧ Fr (fun k => k = g) w w' := by
  obtain ⟨rest, hh, hb, hc1, hc2, hc3⟩ := own_parts h
  have HH := Lib.hid hh
  have HB := Lib.hid hB
  have HNE := Lib.hid hne
  have HC2 : Hid (cap ≤ maxLen) := Lib.hid hc2
  have HC3 := Lib.hid hc3
  have HBG : Hid (base ≤ g) := Lib.hid hb
  obtain ⟨n, hnn⟩ : ∃ n, n = L.length := ⟨_, rfl⟩
  have HN := Lib.hid hnn
  rw [← hnn]
  have hn' : n ≤ 100000 := by omega
  have hi' : i < n := by omega
  have i0 : (0 : Int) ≤ (i : Int) := Int.natCast_nonneg _
  have i1 : (i : Int) < (n : Int) := by omega
  have HCAP : Hid (n + 1 ≤ cap) := Lib.hid (by omega)
  have hcap1 : ¬ ((cap : Int) < (n : Int) + 1) := by omega
  have hcap2 : n + 1 ≤ cap := by omega
  obtain ⟨M, hM⟩ : ∃ M, M = insAt L i y := ⟨_, rfl⟩
  rw [← hM]
  have HM := Lib.hid hM
  have hfl : (L.flatMap Lk.cells).length = n * 4 := by rw [hnn]; exact cells_flat_len Lk.cells L (fun x _ => Lk.len x)
  have hdl : ((L.drop i).flatMap Lk.cells).length = (n - i) * 4 := by rw [cells_flat_len Lk.cells _ (fun x _ => Lk.len x), List.length_drop, hnn]
  have hov : ∀ lb cb, (callFunc 82 #[.slice (some ⟨B, 0, none⟩) 1 1, .slice (some ⟨g, (i + 1) * 4, none⟩) lb cb]).run Tryz.prog w = .ok (.value (.bool false)) w := fun lb cb => overlaps_lk hne hB hh (by simp only [List.size_toArray]; omega)
  have cp1 : ∀ ty, (Builtin.copy_ #[32, 32] ty #[.slice (some ⟨g, (i + 1) * 4, none⟩) (n - i) (cap - (i + 1)), .slice (some ⟨g, i * 4, none⟩) (n + 1 - i) (cap - i)]).run Tryz.prog w.drew = .ok (goInt ((n - i : Nat) : Int)) (w.drew.setRow g (splat (L.flatMap Lk.cells ++ rest) ((i + 1) * 4) ((L.drop i).flatMap Lk.cells)).toArray) := fun ty =>
    run_copy_rowS w.drew _ _ ty 78 g ((i + 1) * 4) (n - i) (cap - (i + 1)) ⟨g, i * 4, none⟩ (n + 1 - i) (cap - i) _ 78 ((L.drop i).flatMap Lk.cells) (n - i) 4 Tryz.underlying32 size_lock hh (by simp only [Nat.min_def]; split <;> omega) hdl
      (fun j u hj => by
        rw [add_at]
        show w.cell? ⟨g, i * 4 + j, none⟩ = some u
        have hj2 := hj
        rw [← flat_drop Lk.len L (by omega), List.getElem?_drop] at hj2
        have hlt := (List.getElem?_eq_some_iff.1 hj2).1
        rw [cell_of hh, ← hj2]
        simp [List.getElem?_append_left hlt]) (by rw [hc3, hdl]; omega) (fun u hu => by
        obtain ⟨x, _, hx⟩ := List.mem_flatMap.1 hu
        exact Lk.one x u hx)
  have HCP1 := Lib.hid cp1
  have HDL := Lib.hid hdl
  have HFL := Lib.hid hfl
  have HOV := Lib.hid hov
  clear h hh hB hM hb hc1 hc2 hc3 hn hi hnn hcap hne cp1 hdl hfl hov
  have htn : ((i : Int) + 1).toNat = i + 1 := by omega
  have hb2 : ¬ (cap = i + 1) := by omega
  have hb4 : ¬ (cap = i) := by omega
  have hb6 : (i : Int) ≤ (n : Int) := by omega
  have hw1 : IntKind.i64.wrap ((i : Int) + 1) = (i : Int) + 1 := by rw [IntKind.wrap_i64]; omega
  have hb1 : (0 : Int) ≤ (i : Int) + 1 := by omega
  have hb7 : ¬ (cap ≤ i + 1) := by omega
  have hCi : i < cap := by omega
  have hCi2 : ¬ (cap - i = 0) := by omega
  have hin : ¬ ((n : Int) < (i : Int)) := by omega
  have hin2 : (i : Int) ≤ (n : Int) + 1 := by omega
  have hb8 : ¬ (cap - (i + 1) = 0) := by omega
  have htn2 : ((n : Int) + 1).toNat = n + 1 := by omega
  go_enter Tryz.func63, Tryz.ntmps63
  go_wp2_with (simp only [HOV.out])
  go_still_tail 8, (by kernel_rfl)
  change wpList _ _ _ _ _ w.drew
  have hw2 := setRow_heap w.drew g _ (splat (L.flatMap Lk.cells ++ rest) ((i + 1) * 4) ((L.drop i).flatMap Lk.cells)).toArray _ _ HH.out
  have hf2 : Fr (fun k => k = g) w (w.drew.setRow g (splat (L.flatMap Lk.cells ++ rest) ((i + 1) * 4) ((L.drop i).flatMap Lk.cells)).toArray) := (Fr.refl _ w).drew.setRow (by exact .inl rfl) _
  have HW2 := Lib.hid hw2
  have HF2 := Lib.hid hf2
  have hcp := HCP1.out
  clear hw2 hf2 HCP1
  generalize w.drew.setRow g (splat (L.flatMap Lk.cells ++ rest) ((i + 1) * 4) ((L.drop i).flatMap Lk.cells)).toArray = W2 at *
  have HCP1 := Lib.hid hcp
  have hsl : (splat (L.flatMap Lk.cells ++ rest) ((i + 1) * 4) ((L.drop i).flatMap Lk.cells)).length = cap * 4 := by rw [splat_length _ _ _ (by rw [HC3.out, HDL.out]; omega)]; exact HC3.out
  have cp2 : ∀ ty, (Builtin.copy_ #[32, 32] ty #[.slice (some ⟨g, i * 4, none⟩) (n + 1 - i) (cap - i), .slice (some ⟨B, 0, none⟩) 1 1]).run Tryz.prog W2 = .ok (goInt ((1 : Nat) : Int)) (W2.setRow g (splat (splat (L.flatMap Lk.cells ++ rest) ((i + 1) * 4) ((L.drop i).flatMap Lk.cells)) (i * 4) y.cells).toArray) := fun ty =>
    run_copy_rowS W2 _ _ ty 78 g (i * 4) (n + 1 - i) (cap - i) ⟨B, 0, none⟩ 1 1 _ 78 y.cells 1 4 Tryz.underlying32 size_lock HW2.out (by simp only [Nat.min_def]; split <;> omega) (by rw [Lk.len])
      (fun j u hj => by rw [add_at, cell_of (HF2.out.keep HB.out HNE.out)]; simpa using hj) (by rw [hsl, Lk.len]; omega) (Lk.one y)
  have HCP2 := Lib.hid cp2
  clear hcp cp2 hsl
  go_wp2_with (first | (refine wpList_copy_at rfl (.tmp 73) (.tmp 76) 32 32 rfl _ _ (by rfl) (by rfl) HCP1.out ?_) | (refine wpList_copy_at rfl (.tmp 80) (.tmp 81) 32 32 rfl _ _ (by rfl) (by rfl) HCP2.out ?_))
  go_ret
  refine ⟨_, rfl, ?_, HF2.out.setRow (by exact .inl rfl) _⟩
  rw [HM.out, insAt_len L (by rw [← HN.out]; omega), splat_up _ _ _ (i * 4) ((i + 1) * 4) (by rw [Lk.len]; omega) (by rw [HDL.out, HC3.out]; omega)]
  rw [flat_take Lk.len L rest (i := i) (by rw [← HN.out]; omega), HN.out]
  refine own_ins (cur := []) Lk.len (by rw [← HN.out]; omega) y (setRow_heap W2 g _ _ _ _ HW2.out) HBG.out (by rw [← HN.out]; exact HCAP.out) HC2.out ?_
  have l1 : ((L.take i).flatMap Lk.cells).length = i * 4 := by rw [cells_flat_len Lk.cells _ (fun x _ => Lk.len x), List.length_take, ← HN.out]; congr 1; omega
  rw [List.length_append, List.length_append, List.length_append, l1, HDL.out, Lk.len, List.length_drop, HC3.out]
  omega
/-- One lock put in between. -/
theorem insert_c (y : Lk) (i : Nat) {base B : Nat} (h : w.ownsRow base 78 4 v L.length (L.flatMap Lk.cells)) (hbase : base ≤ w.heap.size) (hn : L.length ≤ 100000) (hi : i ≤ L.length) (hne : v.ownBlock ≠ some B) (hB : w.heap[B]? = some (.cells y.cells.toArray 78 (0, 0))) :
    Calls Tryz.prog 63 #[v, .int .i64 (i : Int), .slice (some ⟨B, 0, none⟩) 1 1] w fun e w' => ∃ v', e = .returned v' ∧ w'.ownsRow base 78 4 v' (insAt L i y).length ((insAt L i y).flatMap Lk.cells) ∧ Fr (fun k => v.ownBlock = some k) w w' := by
  by_cases hil : i = L.length
  · subst hil
    rw [insAt_end]
    exact insert_end y h hbase hn hB
  · have h5 := h
    rcases h5.2 with ⟨rfl, h0⟩ | ⟨g, cap, cur, rfl, -, -, hcap, -, -, -⟩
    · exfalso; omega
    · by_cases hr : L.length + 1 ≤ cap
      · refine (insert_room y i h hn (by omega) hr (fun e => hne (by subst e; rfl)) hB).mono ?_
        rintro e w1 ⟨v', h1, h2, h3⟩
        exact ⟨v', h1, h2, h3.mono (fun k hk => by subst hk; rfl)⟩
      · have : cap = L.length := by omega
        subst this
        refine (insert_grow y i h hbase hn (by omega) hB).mono ?_
        rintro e w1 ⟨v', h1, h2, h3⟩
        exact ⟨v', h1, h2, h3.of0⟩
end
end Go.Proofs.YtgbaijfgmeealaaGreat
