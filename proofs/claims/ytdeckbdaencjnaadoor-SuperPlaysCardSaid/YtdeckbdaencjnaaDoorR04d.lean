/-
  The document's device (layer 4): New. Conditions: none.
-/
import Derived.Test.YtdeckbdaencjnaaDoorR04c
set_option linter.unusedVariables false
set_option linter.unusedSimpArgs false
namespace Go.Proofs.YtdeckbdaencjnaaDoor
open Go.RowKit

theorem r_und_strs : Tryd.prog.underlying 115 = some (.slice 9) := by kernel_rfl
theorem r_info_str : (Tryd.prog.info? 9).map (fun i => (i.zero, i.size, i.bytes)) = some (some (.string ⟨#[]⟩), 1, 16) := by kernel_rfl
def zstrs (j : Nat) : List Value := List.replicate j (.string (strOfNums zsec))

/-- The device while it is made: v holds what is laid down. -/
structure RN (rb tb n base : Nat) (v : Value) (w : World) : Prop where
  dev : ∃ t, w.heap[rb]? = some (.cells #[v, .slice (some ⟨tb, 0, none⟩) n n, .int .i64 (-1), .bool false, .int .i64 0] t (0, 0))
  late : ∃ t, w.heap[tb]? = some (.cells (Array.replicate n (Value.string ⟨#[]⟩)) t (0, 0))
  rlt : rb < base
  tlt : tb < base
  ne : rb ≠ tb
  fit : base ≤ w.heap.size
section
variable {rb tb n base : Nat} {v : Value} {w w' : World}
theorem RN.cell0 (h : RN rb tb n base v w) : w.cell? ⟨rb, 0, none⟩ = some v := by
  obtain ⟨t, e⟩ := h.dev
  simp [World.cell?, e]
theorem RN.free0 (h : RN rb tb n base v w) : w.frozen? ⟨rb, 0, none⟩ = false := by
  obtain ⟨t, e⟩ := h.dev
  simp [World.frozen?, e]
theorem RN.keep {S : Nat → Prop} (h : RN rb tb n base v w) (hf : Fr S w w') (hS : ∀ k, S k → base ≤ k) : RN rb tb n base v w' := by
  obtain ⟨t1, e1⟩ := h.dev
  obtain ⟨t2, e2⟩ := h.late
  exact ⟨⟨t1, hf.keep e1 (fun hs => by have := hS _ hs; have := h.rlt; omega)⟩, ⟨t2, hf.keep e2 (fun hs => by have := hS _ hs; have := h.tlt; omega)⟩, h.rlt, h.tlt, h.ne, Nat.le_trans h.fit hf.size⟩
theorem RN.grown {u : Value} {m : Nat} {xs : List Value} (h : RN rb tb n base v w) (ho : w.ownsRow base 9 1 u m xs) (hg : w.grownBy w' u.ownBlock) : RN rb tb n base v w' :=
  h.keep ((Fr.refl (fun k => u.ownBlock = some k) w).grown hg (fun k hk => .inl hk)) (fun k hk => own_base ho k hk)
theorem RN.store (h : RN rb tb n base v w) (u : Value) : RN rb tb n base u (w.setCell ⟨rb, 0, none⟩ u) := by
  obtain ⟨t1, e1⟩ := h.dev
  obtain ⟨t2, e2⟩ := h.late
  exact ⟨⟨t1, set_cell e1 0 u⟩, ⟨t2, keep_setCell e2 (Ne.symm h.ne) _⟩, h.rlt, h.tlt, h.ne, by have := h.fit; simpa using this⟩
end
def RNewJ (rb tb n base : Nat) (v : Value) (j : Nat) : Nat → (Nat → Value) → World → Prop
  | 0, us, w => RN rb tb n base v w ∧ w.ownsRow base 9 1 v j (zstrs j)
  | 1, us, w => RN rb tb n base v w ∧ w.ownsRow base 9 1 v j (zstrs j) ∧ us 25 = v
  | 2, us, w => RN rb tb n base v w ∧ w.ownsRow base 9 1 (us 29) (j + 1) (zstrs (j + 1))
  | _, us, w => RN rb tb n base (us 29) w ∧ w.ownsRow base 9 1 (us 29) (j + 1) (zstrs (j + 1))
theorem RNewJ.keep {rb tb n base : Nat} {v : Value} {j : Nat} : ∀ (k : Nat) (us us' : Nat → Value) (w' w'' : World), RNewJ rb tb n base v j k us w' → (∀ d ∈ [25, 29], us' d = us d) → Fr F0 w' w'' → RNewJ rb tb n base v j k us' w''
  | 0, us, us', w', w'', h, hu, hf => ⟨h.1.keep hf (fun _ h => h.elim), own_keep0 h.2 hf⟩
  | 1, us, us', w', w'', h, hu, hf => ⟨h.1.keep hf (fun _ h => h.elim), own_keep0 h.2.1 hf, by rw [hu 25 (by simp)]; exact h.2.2⟩
  | 2, us, us', w', w'', h, hu, hf => ⟨h.1.keep hf (fun _ h => h.elim), by rw [hu 29 (by simp)]; exact own_keep0 h.2 hf⟩
  | k + 3, us, us', w', w'', h, hu, hf => ⟨by rw [hu 29 (by simp)]; exact h.1.keep hf (fun _ h => h.elim), by rw [hu 29 (by simp)]; exact own_keep0 h.2 hf⟩

theorem run_make_strs (n : Nat) (hn : n ≤ 4096) (w : World) : (Instr.makeSlice 115 (.int .i64 (n : Int)) (.int .i64 (n : Int))).run Tryd.prog w = .ok (.slice (some ⟨w.heap.size, 0, none⟩) n n) (w.alloc (.cells (Array.replicate n (Value.string ⟨#[]⟩)) 9)) := by
  obtain ⟨i, hi, hzz⟩ := Option.map_eq_some_iff.1 r_info_str
  simp only [Prod.mk.injEq] at hzz
  obtain ⟨hz, hs, hb⟩ := hzz
  have hr := run_make (P := Tryd.prog) w 115 9 i _ r_und_strs hi hz .i64 .i64 n n (by omega) (Int.le_refl _) (by rw [hb]; omega) (by omega)
  have hm : madeCells (Value.string ⟨#[]⟩).cells (n * 1) = (Array.replicate n (Value.string ⟨#[]⟩)) := by
    apply Array.ext
    · simp [madeCells]
    · intro i h1 h2
      simp [madeCells, Value.cells, Nat.mod_one]
  simp only [Int.toNat_natCast, hs, hm] at hr
  exact hr

set_option maxRecDepth 100000 in
set_option maxHeartbeats 1000000 in
theorem rnew_c (n : Nat) (h1 : 1 ≤ n) (h2 : n ≤ 4096) (w : World) : Calls Tryd.prog 32 #[.int .i64 (n : Int)] w fun e w' => ∃ rb lb tb, e = .returned (.tuple #[.pointer (some ⟨rb, 0, none⟩), .int .i64 0]) ∧ RefAt w' rb lb tb (Dev.new n) ∧
    w.heap.size ≤ rb ∧ w.heap.size ≤ lb ∧ w.heap.size ≤ tb ∧ Fr F0 w w' := by
  have hmk := run_make_strs n h2
  have k1 : ¬ (n : Int) < 1 := by omega
  have k2 : ¬ (4096 : Int) < (n : Int) := by omega
  go_enter Tryd.func32, Tryd.ntmps32
  go_wp2_with fail
  have hlt0 : w.heap.size < w.heap.size + 1 := by omega
  have H0 : RN (w.heap.size + 1) w.heap.size n (w.heap.size + 2) (.slice none 0 0) ((w.alloc (.cells (Array.replicate n (Value.string ⟨#[]⟩)) 9)).alloc (.cells #[.slice none 0 0, .slice (some ⟨w.heap.size, 0, none⟩) n n, .int .i64 (-1), .bool false, .int .i64 0] 117)) := by
    refine ⟨⟨_, alloc_at (by simp) _⟩, ⟨_, keep_alloc (alloc_at rfl _) _⟩, by omega, by omega, by omega, by simp⟩
  have hf0 : Fr F0 w ((w.alloc (.cells (Array.replicate n (Value.string ⟨#[]⟩)) 9)).alloc (.cells #[.slice none 0 0, .slice (some ⟨w.heap.size, 0, none⟩) n n, .int .i64 (-1), .bool false, .int .i64 0] 117)) := ((Fr.refl _ _).alloc _).alloc _
  generalize hW : ((w.alloc (.cells (Array.replicate n (Value.string ⟨#[]⟩)) 9)).alloc (.cells #[.slice none 0 0, .slice (some ⟨w.heap.size, 0, none⟩) n n, .int .i64 (-1), .bool false, .int .i64 0] 117)) = W at *
  clear hW hmk
  obtain ⟨rb, hrb⟩ : ∃ rb, rb = w.heap.size + 1 := ⟨_, rfl⟩
  obtain ⟨tb, htb⟩ : ∃ tb, tb = w.heap.size := ⟨_, rfl⟩
  obtain ⟨base, hbase⟩ : ∃ base, base = w.heap.size + 2 := ⟨_, rfl⟩
  rw [← hrb, ← hbase, ← htb] at H0
  simp only [← hrb]
  simp only [← htb]
  have HRB := Lib.hid hrb
  have HTB := Lib.hid htb
  have HBASE := Lib.hid hbase
  clear hrb htb hbase
  go_loopg [5] n (fun kq u wr => ∃ j : Nat, j ≤ n ∧ kq = n - j ∧ u = .int .i64 (j : Int) ∧ (∃ v, RN rb tb n base v wr ∧ wr.ownsRow base 9 1 v j (zstrs j)) ∧ Fr F0 w wr)
  case atStart => exact ⟨0, by omega, rfl, rfl, ⟨_, H0, own_nil _ _ _ _⟩, hf0⟩
  case round =>
    obtain ⟨j, hj, rfl, rfl, ⟨v, hRN, hown⟩, hfr⟩ := hrel
    by_cases hlt : j < n
    · have hj0 : (0 : Int) ≤ (j : Int) := Int.natCast_nonneg _
      have hj1 : (j : Int) < (n : Int) := by omega
      have hj2 : (j : Int) < 9223372036854775807 := by omega
      have HJ0 : Hid (RN rb tb n base v wr ∧ wr.ownsRow base 9 1 v j (zstrs j)) := Lib.hid ⟨hRN, hown⟩
      have HS : Hid (∀ b, wr.heap.size ≤ b → ¬ (b = rb ∨ v.ownBlock = some b)) := Lib.hid (fun b hb h => by
        rcases h with h | h
        · have := hRN.rlt; have := hRN.fit; omega
        · obtain ⟨c, hc⟩ := own_cells hown b h
          have := lt_of_block hc
          omega)
      go_wp2_with fail
      refine wp_region_turn (S := (fun k => k = rb ∨ v.ownBlock = some k)) [false, false, false, false, false, false, false, false, false, false, false, false, false, false, false, false, false, false, false, false, false, true, true, true, true, true, true, true, true, true, true, true, false] [.eq (.pointer (some ⟨rb, 0, none⟩)), .eq (.pointer (some ⟨rb, 0, none⟩)), .eq (.pointer (some ⟨rb, 0, none⟩)), .eq (.pointer (some ⟨rb, 0, none⟩)), .any, ⟨fun v' w' => ∃ b, wr.heap.size ≤ b ∧ v' = .slice (some ⟨b, 0, none⟩) 64 64 ∧ w'.heap[b]? = some (.cells (cellsOf zsec) 5 (0, 0)), fun v' w' w'' ⟨b, h0, h1, h2⟩ hf => ⟨b, h0, h1, hf.keep h2 (HS.out b h0)⟩⟩, .eq (.string (strOfNums zsec)), ⟨fun v' w' => ∃ b, wr.heap.size ≤ b ∧ v' = .slice (some ⟨b, 0, none⟩) 1 1 ∧ w'.heap[b]? = some (.cells #[.string (strOfNums zsec)] 9 (0, 0)), fun v' w' w'' ⟨b, h0, h1, h2⟩ hf => ⟨b, h0, h1, hf.keep h2 (HS.out b h0)⟩⟩, .any, .eq (.pointer (some ⟨rb, 0, none⟩)), .eq (.pointer (some ⟨rb, 0, none⟩)), .any] (RNewJ rb tb n base v j) [none, none, none, none, some 0, none, none, none, some 1, none, none, some 2] [25, 29] 3 (by kernel_rfl) (by kernel_rfl) (by rfl) (by kernel_rfl) ?hJ ?hJ0 (fun us => ?steps) (fun us wz hG hJ hall => ?fin)
      case hJ =>
        exact RNewJ.keep
      case hJ0 =>
        exact HJ0.out
      case steps =>
        simp only [fillL, Nat.reduceAdd]
        refine stepsTurn.cons (fun wx hG hd K hK => ?_) ?_
        · rw [if_pos (wanted_none rfl)]
          refine wp_value (w2 := wx) (v := .pointer (some ⟨rb, 0, none⟩)) ?_ (hK _ _ rfl (Fr.refl _ _))
          clear hd hG hK
          go_simp
        refine stepsTurn.cons (fun wx hG hd K hK => ?_) ?_
        · rw [if_pos (wanted_none rfl)]
          refine wp_value (w2 := wx) (v := .pointer (some ⟨rb, 0, none⟩)) ?_ (hK _ _ rfl (Fr.refl _ _))
          clear hd hG hK
          go_simp
        refine stepsTurn.cons (fun wx hG hd K hK => ?_) ?_
        · have h22 : us 22 = (.pointer (some ⟨rb, 0, none⟩)) := deps_get hd 0 rfl rfl rfl rfl rfl
          rw [if_pos (wanted_none rfl)]
          refine wp_value (w2 := wx) (v := .pointer (some ⟨rb, 0, none⟩)) ?_ (hK _ _ rfl (Fr.refl _ _))
          clear hd hG hK
          go_simp
        refine stepsTurn.cons (fun wx hG hd K hK => ?_) ?_
        · have h23 : us 23 = (.pointer (some ⟨rb, 0, none⟩)) := deps_get hd 0 rfl rfl rfl rfl rfl
          rw [if_pos (wanted_none rfl)]
          refine wp_value (w2 := wx) (v := .pointer (some ⟨rb, 0, none⟩)) ?_ (hK _ _ rfl (Fr.refl _ _))
          clear hd hG hK
          go_simp
        refine stepsTurn.cons (fun wx hG hJ hd K hK => ?_) ?_
        · have h24 : us 24 = (.pointer (some ⟨rb, 0, none⟩)) := deps_get hd 0 rfl rfl rfl rfl rfl
          rw [if_pos (wanted_none rfl)]
          have hc := hJ.1.cell0
          obtain ⟨vA, vc, hve, -⟩ := ValsAt.of_own hown
          rw [hve] at hc
          refine wp_value (w2 := wx) (v := v) ?_ (hK _ _ trivial (Fr.refl _ _) ⟨hJ.1, hJ.2, by simp [updD]⟩)
          clear hd hK hG hJ
          rw [hve]
          go_simp
        refine stepsTurn.cons (fun wx hG hd K hK => ?_) ?_
        · rw [if_pos (wanted_none rfl)]
          have hr := r_make_zsec wx
          refine wp_value (w2 := wx.alloc (.cells (cellsOf zsec) 5)) (v := .slice (some ⟨wx.heap.size, 0, none⟩) 64 64) ?_ (hK _ _ ⟨_, hG.size, rfl, alloc_at rfl _⟩ ((Fr.refl _ _).alloc _))
          clear hd hK
          go_simp
        refine stepsTurn.cons (fun wx hG hd K hK => ?_) ?_
        · have h26 := deps_get hd 0 rfl rfl rfl rfl rfl
          rw [if_pos (wanted_none rfl)]
          obtain ⟨b, hb0, hb1, hb2⟩ := h26
          have hr := r_conv_zsec hb2
          refine wp_value (w2 := wx) (v := .string (strOfNums zsec)) ?_ (hK _ _ rfl (Fr.refl _ _))
          clear hd hK
          go_simp
        refine stepsTurn.cons (fun wx hG hd K hK => ?_) ?_
        · have h27 : us 27 = (.string (strOfNums zsec)) := deps_get hd 0 rfl rfl rfl rfl rfl
          rw [if_pos (wanted_none rfl)]
          refine wp_value (w2 := wx.alloc (.cells #[.string (strOfNums zsec)] 9)) (v := .slice (some ⟨wx.heap.size, 0, none⟩) 1 1) ?_ (hK _ _ ⟨_, hG.size, rfl, alloc_at rfl _⟩ ((Fr.refl _ _).alloc _))
          clear hd hK
          go_simp
        refine stepsTurn.cons (fun wx hG hJ hd K hK => ?_) ?_
        · have h25 := deps_get hd 0 rfl rfl rfl rfl rfl
          have h28 := deps_get hd 1 rfl rfl rfl rfl rfl
          rw [if_pos (wanted_none rfl)]
          obtain ⟨b, hb0, hb1, hb2⟩ := h28
          have hu : us 25 = v := hJ.2.2
          obtain ⟨i0, hi, hzz⟩ := Option.map_eq_some_iff.1 r_info_str
          simp only [Prod.mk.injEq] at hzz
          obtain ⟨hz0, hz1, hz2⟩ := hzz
          refine wp_append_own wx (.tmp 25) (.tmp 28) 115 rfl base 9 i0 (.string ⟨#[]⟩) 1 16 r_und_strs hi hz0 hz1 hz2 (by rfl) (by decide) v j (zstrs j) (by exact hu) hJ.2.1 ⟨b, 0, none⟩ 1 1 [.string (strOfNums zsec)] (by exact hb1) rfl (by intro q u hq; rw [add_at, Nat.zero_add, cell_of hb2 q]; simpa using hq) (by simp [Value.oneCell']) (by simp only [maxLen]; omega) (by omega) hJ.1.fit ?_
          intro v' w' hown hg _
          refine hK v' w' trivial ((Fr.refl _ wx).grown hg (fun k hk => .inl (.inr hk))) ?_
          exact ⟨hJ.1.grown hJ.2.1 hg, by simpa [updD, zstrs, List.replicate_succ'] using hown⟩
        refine stepsTurn.cons (fun wx hG hd K hK => ?_) ?_
        · have h21 : us 21 = (.pointer (some ⟨rb, 0, none⟩)) := deps_get hd 0 rfl rfl rfl rfl rfl
          rw [if_pos (wanted_none rfl)]
          refine wp_value (w2 := wx) (v := .pointer (some ⟨rb, 0, none⟩)) ?_ (hK _ _ rfl (Fr.refl _ _))
          clear hd hG hK
          go_simp
        refine stepsTurn.cons (fun wx hG hd K hK => ?_) ?_
        · have h30 : us 30 = (.pointer (some ⟨rb, 0, none⟩)) := deps_get hd 0 rfl rfl rfl rfl rfl
          rw [if_pos (wanted_none rfl)]
          refine wp_value (w2 := wx) (v := .pointer (some ⟨rb, 0, none⟩)) ?_ (hK _ _ rfl (Fr.refl _ _))
          clear hd hG hK
          go_simp
        refine stepsTurn.cons (fun wx hG hJ hd K hK => ?_) ?_
        · have h31 : us 31 = (.pointer (some ⟨rb, 0, none⟩)) := deps_get hd 0 rfl rfl rfl rfl rfl
          have h29 := deps_get hd 1 rfl rfl rfl rfl rfl
          rw [if_pos (wanted_none rfl)]
          have hc := hJ.1.cell0
          have hfz := hJ.1.free0
          refine wp_skip (w2 := wx.setCell ⟨rb, 0, none⟩ (us 29)) ?_ (hK undef _ trivial ((Fr.refl _ wx).setCell (.inl (.inl rfl)) _) ⟨hJ.1.store (us 29), own_keep hJ.2 ((Fr.refl (fun k => k = rb) wx).setCell (.inl rfl) _) (fun k hk e => by have := own_base hJ.2 k hk; have := hJ.1.rlt; omega)⟩)
          obtain ⟨vA, vc, hve, -⟩ := ValsAt.of_own hJ.2
          rw [hve]
          clear hd hK hG hJ
          go_simp
        exact stepsTurn.nil
      case fin =>
        have h21 : us 21 = (.pointer (some ⟨rb, 0, none⟩)) := all_get hall 0 rfl rfl rfl
        have h22 : us 22 = (.pointer (some ⟨rb, 0, none⟩)) := all_get hall 1 rfl rfl rfl
        have h23 : us 23 = (.pointer (some ⟨rb, 0, none⟩)) := all_get hall 2 rfl rfl rfl
        have h24 : us 24 = (.pointer (some ⟨rb, 0, none⟩)) := all_get hall 3 rfl rfl rfl
        have h25 := all_get hall 4 rfl rfl rfl
        have h26 := all_get hall 5 rfl rfl rfl
        have h27 : us 27 = (.string (strOfNums zsec)) := all_get hall 6 rfl rfl rfl
        have h28 := all_get hall 7 rfl rfl rfl
        have h29 := all_get hall 8 rfl rfl rfl
        have h30 : us 30 = (.pointer (some ⟨rb, 0, none⟩)) := all_get hall 9 rfl rfl rfl
        have h31 : us 31 = (.pointer (some ⟨rb, 0, none⟩)) := all_get hall 10 rfl rfl rfl
        simp only [fillL, Nat.reduceAdd]
        clear hall
        simp only [h21, h22, h23, h24, h27, h30, h31]
        clear h21 h22 h23 h24 h27 h30 h31
        have hJ3 : RNewJ rb tb n base v j 3 us wz := hJ
        clear hJ h25 h26 h28 h29
        have HJ3 : Hid (RN rb tb n base (us 29) wz ∧ wz.ownsRow base 9 1 (us 29) (j + 1) (zstrs (j + 1))) := Lib.hid hJ3
        clear hJ3
        have hbv : ∀ k, v.ownBlock = some k → base ≤ k := fun k hk => own_base hown k hk
        go_wp2
        go_roundg (n - (j + 1))
        case measure => omega
        case rel =>
          refine ⟨j + 1, by omega, rfl, by first | rfl | (go_num), ⟨_, HJ3.out⟩, hfr.trans hG (fun k hk => .inr ?_)⟩
          rcases hk with h | h
          · rw [h, HRB.out]; omega
          · have := hbv k h; have := HBASE.out; omega
    · have hjn : j = n := by omega
      subst hjn
      go_wp2_with fail
      go_ret2
      have hr := HRB.out
      have ht := HTB.out
      have hb := HBASE.out
      obtain ⟨t1, e1⟩ := hRN.dev
      obtain ⟨t2, e2⟩ := hRN.late
      rcases hown.2 with ⟨rfl, h0⟩ | ⟨g, cap, cur, rfl, hg, hh, c1, c2, c3, c4⟩
      · omega
      · have hcs : ∀ i u, (zstrs j)[i]? = some u → wr.cell? ⟨g, i, none⟩ = some u := fun i u hu => by
          have := hown.cells rfl i u hu
          rwa [add_at, Nat.zero_add] at this
        refine ⟨rb, g, tb, rfl, ⟨Dev.new_ok j h1 h2, ⟨t1, cap, ?_⟩, ⟨_, _, hh, ?_, fun i s hs => ?_⟩, ⟨t2, ?_⟩, by omega, hRN.ne, by omega⟩, by omega, by omega, by omega, hfr⟩
        · rw [e1]; simp [Dev.new]
        · have h0 := hcs (j - 1) (.string (strOfNums zsec)) (by rw [zstrs, List.getElem?_replicate, if_pos (by omega)])
          rw [cell_of hh] at h0
          have := (Array.getElem?_eq_some_iff.1 h0).1
          simp [Dev.new]
          omega
        · have hij : i < j := by
            have := (List.getElem?_eq_some_iff.1 hs).1
            simpa [Dev.new] using this
          have hsz : s = zsec := by
            simp only [Dev.new] at hs
            rw [List.getElem?_replicate, if_pos hij] at hs
            exact (Option.some.inj hs).symm
          have h0 := hcs i (.string (strOfNums zsec)) (by rw [zstrs, List.getElem?_replicate, if_pos (by omega)])
          rw [cell_of hh] at h0
          rw [hsz]; exact h0
        · rw [e2]; simp [Dev.new, lateStr]

set_option maxRecDepth 100000 in
set_option maxHeartbeats 400000 in
theorem rnew_no (i : Int) (hi : i < 1 ∨ 4096 < i) (w : World) : Calls Tryd.prog 32 #[.int .i64 i] w fun e w' => e = .returned (.tuple #[.pointer none, .int .i64 1]) ∧ w = w' := by
  by_cases h1 : i < 1
  · go_enter Tryd.func32, Tryd.ntmps32
    go_wp2_with fail
    go_ret2
    exact ⟨rfl, rfl⟩
  · have h2 : 4096 < i := by omega
    go_enter Tryd.func32, Tryd.ntmps32
    go_wp2_with fail
    go_ret2
    exact ⟨rfl, rfl⟩
end Go.Proofs.YtdeckbdaencjnaaDoor
