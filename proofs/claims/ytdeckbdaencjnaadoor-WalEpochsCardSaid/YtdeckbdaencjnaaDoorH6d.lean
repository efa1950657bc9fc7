/-
  frame: Read, of a sector. Conditions: none.
-/
import Derived.Test.YtdeckbdaencjnaaDoorH6c
import Derived.Test.YtdeckbdaencjnaaDoorLast
set_option linter.unusedVariables false
set_option linter.unusedSimpArgs false
namespace Go.Proofs.YtdeckbdaencjnaaDoor
open Go.RowKit
def zpc : List Value := [.int .i64 0, .int .i64 0, .int .i64 0, .int .i64 0, .slice none 0 0]
theorem zpc_one : ∀ v ∈ zpc, v.oneCell' = true := by decide
theorem size_piece : (Tryd.prog.info? 160).map (·.size) = some 5 := by kernel_rfl
theorem und_piece : ∃ d, Tryd.prog.underlying 160 = some d ∧ aggDesc d = true := ⟨_, Tryd.underlying160, rfl⟩
theorem run_alloc_piece (w : World) : (Instr.alloc 160 true (.tuple #[])).run Tryd.prog w = .ok (.pointer (some ⟨w.heap.size, 0, none⟩)) (w.alloc (.cells zpc.toArray 160)) :=
  run_alloc_of 160 (.agg zpc.toArray) (by kernel_rfl) w
theorem ValsAt.cellsAt {w : World} {g : Nat} {vs : List Value} (h : ValsAt w (some ⟨g, 0, none⟩) vs) (j : Nat) {v : Value} (hv : vs[j]? = some v) : w.cell? ⟨g, j, none⟩ = some v := by
  have hj : j < vs.length := (List.getElem?_eq_some_iff.1 hv).1
  obtain ⟨ad', e, hc⟩ := h.cells (by omega)
  cases e
  have := hc j v hv
  rwa [add_at, Nat.zero_add] at this
theorem addr_add0 (a : Addr) : a.add 0 = a := by
  obtain ⟨b, o, s⟩ := a; cases s <;> simp [Addr.add]
def Pc.cells (p : Pc) (A : Option Addr) (n c : Nat) : List Value := [.int .i64 p.epoch, .int .i64 p.at_, .int .i64 p.index, .int .i64 p.count, .slice A n c]
theorem Pc.cells_one (p : Pc) (A : Option Addr) (n c : Nat) : ∀ v ∈ p.cells A n c, v.oneCell' = true := by
  intro v hv
  simp only [Pc.cells, List.mem_cons, List.not_mem_nil, or_false] at hv
  rcases hv with rfl | rfl | rfl | rfl | rfl <;> rfl
theorem load_piece {w : World} {b : Nat} {t : TypeId} {cs : List Value} (hl : cs.length = 5) (h : w.heap[b]? = some (.cells cs.toArray t (0, 0))) : (loadVar 160 ⟨b, 0, none⟩).run Tryd.prog w = .ok (.agg cs.toArray) w := by
  obtain ⟨d, hu, hd⟩ := und_piece
  refine run_loadVar_at w b 0 160 cs d (fun j v hv => ?_) hu hd (by rw [size_piece, hl])
  rw [cell_of h]
  simpa using hv
theorem piece_ret {a : Act} {w : World} {b : Nat} {t : TypeId} {cs : List Value} {e : Int} {R : Ending → World → Prop} (hl : cs.length = 5) (ha : a.tmps.getD 2 undef = .pointer (some ⟨b, 0, none⟩)) (hc : a.tmps.getD 3 undef = .int .i64 e) (hd : a.defers = [])
    (hh : w.heap[b]? = some (.cells cs.toArray t (0, 0))) (hR : R (.returned (.tuple #[.agg cs.toArray, .int .i64 e])) w) : bodyPost Tryd.prog Tryd.f103 R .ret a w :=
  bodyPost_ret (results_cell2 Tryd.results103 ha hc (load_piece hl hh)) hd hR
theorem bytes_ne_zpc {W : World} {b : Nat} {t : TypeId} {A : Option Addr} {n : Nat} {D : List Int} (h : W.heap[b]? = some (.cells zpc.toArray t (0, 0))) (hd : BytesAt W A n D) : 0 < n → ∀ ad, A = some ad → ad.block ≠ b := by
  intro hp ad he hb
  subst he
  have hl := hd.len
  obtain ⟨ad', e', hc⟩ := hd.cells hp
  cases e'
  have h0 := hc 0 _ (by rw [List.getElem?_map, List.getElem?_eq_getElem (show 0 < D.length by omega)]; rfl)
  rw [addr_add0] at h0
  obtain ⟨b9, o9, s9⟩ := ad
  have hb' : b9 = b := hb
  subst hb'
  have hs9 : s9 = none := World.cell?_spot h0
  subst hs9
  rw [cell_of h] at h0
  have hm := List.mem_of_getElem? (show zpc[o9]? = _ by simpa using h0)
  simp [zpc] at hm
/-- A piece with its bytes, and an error. -/
structure PcRet (w w' : World) (e : Ending) (p : Pc) (er : Int) : Prop where
  ex : ∃ A n c, e = .returned (.tuple #[(.agg #[.int .i64 p.epoch, .int .i64 p.at_, .int .i64 p.index, .int .i64 p.count, .slice A n c]), .int .i64 er]) ∧ BytesAt w' A n p.data ∧ Fr F0 w w'
theorem readE_64 {xs : List Int} (hl : xs.length = 64) : readE xs = if numAt xs 0 4 ≠ sumOf (xs.drop 4) then 4 else if form6 xs = false then 3 else if (pcOf xs).may = false then 3 else 0 := by
  unfold readE
  rw [hl]; rfl
theorem readP_no {xs : List Int} (h : readE xs ≠ 0) : readP xs = Pc.zero := by unfold readP; rw [if_neg h]
def wid6 : List Nat := [4, 4, 6, 2, 2, 1, 1]
theorem fields_wid (xs : List Int) : fieldsL xs wid6 = [numAt xs 0 4, numAt xs 4 4, numAt xs 8 6, numAt xs 14 2, numAt xs 16 2, numAt xs 18 1, numAt xs 19 1] := by
  simp only [fieldsL, wid6, numAt, List.drop_drop, List.drop_zero]
section
variable {w : World}
set_option maxRecDepth 100000 in
set_option maxHeartbeats 400000 in
theorem trim_empty (A : Option Addr) (c : Nat) : Calls Tryd.prog 62 #[.slice A 0 c, .string ⟨#[0]⟩] w fun e w' => e = .returned (.slice none 0 0) ∧ w = w' := by
  go_enter Tryd.func62, Tryd.ntmps62
  go_wp2_with fail
  go_ret
  exact ⟨rfl, rfl⟩
theorem trim6_c (A : Option Addr) (n c : Nat) (xs : List Int) (hA : Byt w A c xs) (hn : xs.length = n) (hb : Bys xs) :
    Calls Tryd.prog 62 #[.slice A n c, .string ⟨#[0]⟩] w fun e w' => ∃ A' m c', e = .returned (.slice A' m c') ∧ (m = 0 ↔ xs = List.replicate n 0) ∧ Fr F0 w w' := by
  by_cases h0 : n = 0
  · subst h0
    refine (trim_empty A c).mono ?_
    rintro e w' ⟨rfl, rfl⟩
    exact ⟨none, 0, 0, rfl, ⟨fun _ => by simpa using hn, fun _ => rfl⟩, Fr.refl _ _⟩
  · exact trim0_c A n c xs hA hn hb (by omega)
theorem run_cut (A : Option Addr) (n c m k : Nat) (hm : m ≤ k) (hk : k ≤ c) (W : World) :
    (Instr.slice 24 (.slice A n c) (some (.int .i64 (m : Int))) (some (.int .i64 (k : Int))) none).run Tryd.prog W = .ok (.slice (if c = m then A else A.map (·.add m)) (k - m) (c - m)) W := by
  obtain ⟨i, hi, hzz⟩ := Option.map_eq_some_iff.1 info_u8
  simp only [Prod.mk.injEq] at hzz
  have hel : Tryd.prog.elem 24 = 5 := by simp [Program.elem, und_bytes]
  have hu : Tryd.prog.underlying 24 = some (.slice (Tryd.prog.elem 24)) := by rw [hel]; exact und_bytes
  rw [run_slice_lh W 24 A n c hu .i64 .i64 (m : Int) (k : Int) (Int.natCast_nonneg _) (by omega) (by omega), hel]
  simp [sizeOf, typeInfo, hi, hzz.2.1, sliced, Result.andThen]
theorem Byt.mid {w : World} {A : Option Addr} {c : Nat} {xs : List Int} (h : Byt w A c xs) (m : Nat) (hm : m ≤ xs.length) : Byt w (if c = m then A else A.map (·.add m)) (c - m) (xs.drop m) := h.drop m hm
set_option maxRecDepth 100000 in
set_option maxHeartbeats 8000000 in
theorem read6_c (A : Option Addr) (c : Nat) (xs : List Int) (hA : Byt w A c xs) (hl : xs.length = 64) (hb : Bys xs) :
    Calls Tryd.prog 103 #[.slice A 64 c] w fun e w' => PcRet w w' e (readP xs) (readE xs) := by
  have HL := Lib.hid hl
  have HBY := Lib.hid hb
  have hE := readE_64 hl
  have hc64 : 64 ≤ c := by have := hA.cap; omega
  have hcm : c ≤ 9223372036854775807 := hA.big
  have hw := fields_wid xs
  have b0 := numAt_bd hb 0 4
  have b1 := numAt_bd hb 4 4
  have b2 := numAt_bd hb 8 6
  have b3 := numAt_bd hb 14 2
  have b4 := numAt_bd hb 16 2
  have b5 := numAt_bd hb 18 1
  have b6 := numAt_bd hb 19 1
  have hpc : pcOf xs = ⟨numAt xs 4 4, numAt xs 8 6, numAt xs 14 2, numAt xs 16 2, (xs.drop 20).take (numAt xs 18 1).toNat⟩ := rfl
  have hfm : form6 xs = (decide (numAt xs 18 1 ≤ 44) && decide (numAt xs 19 1 = 0) && decide (xs.drop (20 + (numAt xs 18 1).toNat) = List.replicate (44 - (numAt xs 18 1).toNat) 0)) := rfl
  obtain ⟨f0, h0⟩ : ∃ f, f = numAt xs 0 4 := ⟨_, rfl⟩
  obtain ⟨f1, h1⟩ : ∃ f, f = numAt xs 4 4 := ⟨_, rfl⟩
  obtain ⟨f2, h2⟩ : ∃ f, f = numAt xs 8 6 := ⟨_, rfl⟩
  obtain ⟨f3, h3⟩ : ∃ f, f = numAt xs 14 2 := ⟨_, rfl⟩
  obtain ⟨f4, h4⟩ : ∃ f, f = numAt xs 16 2 := ⟨_, rfl⟩
  obtain ⟨sz, h5⟩ : ∃ f : Nat, (f : Int) = numAt xs 18 1 := ⟨(numAt xs 18 1).toNat, by omega⟩
  obtain ⟨f6, h6⟩ : ∃ f, f = numAt xs 19 1 := ⟨_, rfl⟩
  obtain ⟨sm, hsm⟩ : ∃ f, f = sumOf (xs.drop 4) := ⟨_, rfl⟩
  rw [← h0, ← h1, ← h2, ← h3, ← h4, ← h5, ← h6] at hw
  rw [← h0] at b0 hE
  rw [← hsm] at hE
  rw [← h1, ← h2, ← h3, ← h4, ← h5, Int.toNat_natCast] at hpc
  rw [← h5, ← h6, Int.toNat_natCast] at hfm
  rw [← h5] at b5
  have HSM := Lib.hid hsm
  have HE := Lib.hid hE
  have HPC := Lib.hid hpc
  have HFM := Lib.hid hfm
  have f00 := b0.1
  have f01 : f0 < 4294967296 := b0.2
  have s0 : (0 : Int) ≤ (sz : Int) := Int.natCast_nonneg _
  have s1 : (sz : Int) < 256 := b5.2
  have HFW := Lib.hid hw
  clear b0 b1 b2 b3 b4 b5 b6 h0 h1 h2 h3 h4 h5 h6 hsm hE hpc hfm hw
  have HD : Hid ((w.alloc (.cells zpc.toArray 160)).heap[w.heap.size]? = some (.cells zpc.toArray 160 (0, 0))) := Lib.hid (alloc_at rfl _)
  have HF : Hid (Fr F0 w (w.alloc (.cells zpc.toArray 160))) := Lib.hid ((Fr.refl _ _).alloc _)
  have HA := Lib.hid (hA.keep0 HF.out)
  have HNO : Hid (∀ (e : Int) (w' : World), e ≠ 0 → readE xs = e → Fr F0 w w' → PcRet w w' (.returned (.tuple #[.agg zpc.toArray, .int .i64 e])) (readP xs) (readE xs)) := Lib.hid (by
    intro e w' he hr hf
    rw [hr, readP_no (by rw [hr]; exact he)]
    exact ⟨none, 0, 0, rfl, BytesAt.nil _ _, hf⟩)
  clear hA hb hl
  go_enter Tryd.func103, Tryd.ntmps103
  go_wp2_with fail
  have hfx : Fr F0 (w.alloc (.cells zpc.toArray 160)) ((w.alloc (.cells zpc.toArray 160)).alloc (.cells (wid6.map fun k : Nat => Value.int .i64 (k : Int)).toArray 3)) := (Fr.refl _ _).alloc _
  refine (fields6_c A 64 c xs (HA.out.keep0 hfx) HL.out HBY.out (some ⟨w.heap.size + 1, 0, none⟩) 7 7 wid6 rfl (by decide) (ValsAt.of_block (vs := wid6.map fun k : Nat => Value.int .i64 (k : Int)) (alloc_at (by simp) _)) (by decide) (by decide)).mono ?_
  rintro e w2 ⟨AF, cF, rfl, hV, hAF, hf2⟩
  obtain ⟨g, rfl⟩ := hAF (by decide)
  rw [HFW.out] at hV
  have hff := hfx.then0 hf2
  have HD := Lib.hid (hff.keep0 HD.out)
  have HF := Lib.hid (HF.out.then0 hff)
  have HA := Lib.hid (HA.out.keep0 hff)
  have HC0 := Lib.hid hV
  have hzz : w.heap.size < w2.heap.size := lt_of_block HD.out
  clear hfx hf2 hff hV hAF
  obtain ⟨A4, hA4⟩ : ∃ A', A' = (if c = 4 then A else A.map (·.add 4)) := ⟨_, rfl⟩
  have HCUT : Hid (∀ W, (Instr.slice 24 (.slice A 64 c) (some (.int .i64 4)) none none).run Tryd.prog W = .ok (.slice A4 60 (c - 4)) W) := Lib.hid (fun W => by rw [hA4]; exact run_from A 64 c 4 (by decide) W)
  have hB4 := HA.out.drop 4 (by rw [HL.out]; decide)
  rw [← hA4] at hB4
  have HB4 : Hid (BytesAt w2 A4 60 (xs.drop 4)) := Lib.hid (by have := hB4.at_; rw [List.length_drop, HL.out] at this; exact this)
  have HW : Hid (IntKind.u32.wrap f0 = f0) := Lib.hid (by rw [IntKind.wrap_u32]; omega)
  obtain ⟨bq, hbq⟩ : ∃ b : Bool, (f0 != sm) = b := ⟨_, rfl⟩
  have HQ := Lib.hid hbq
  clear hA4 hB4 hbq
  go_wp2_with fail
  refine wp_region_free (S := F0) [false, false, false, false, false, false, false, false, false, false, false, false, false, false, false, false, false, false, false, false, true, true, true, true, true, true, true, true, false, false, false, false, false, false, false, false, false, false, false, false, false, false, false, false, false, false, false, false, false, false, false, false, false, false, false, false, false, false, false, false, false, false, false, false, false, false, false, false, false, false, false, false, false] [.eq (.slice (some ⟨g, 0, none⟩) 7 cF), .eq (.pointer (some ⟨g, 0, none⟩)), .eq (.int .i64 f0), .eq (.int .u32 f0), .eq (.slice A 64 c), .eq (.slice A4 60 (c - 4)), .eq (.int .u32 sm), .eq (.bool bq)] (by kernel_rfl) (by kernel_rfl) (by rfl) (fun us => ?steps) (fun us wz hG hall => ?fin)
  case steps =>
    simp only [fillL, Nat.reduceAdd]
    refine stepsHold.cons (fun wx hG hd K hK => ?_) ?_
    · rw [if_pos (wanted_none rfl)]
      refine wp_value (w2 := wx) (v := .slice (some ⟨g, 0, none⟩) 7 cF) ?_ (hK _ _ rfl (Fr.refl _ _))
      clear hd hG hK
      go_simp
    refine stepsHold.cons (fun wx hG hd K hK => ?_) ?_
    · have h20 : us 20 = (.slice (some ⟨g, 0, none⟩) 7 cF) := deps_get hd 0 rfl rfl rfl rfl rfl
      rw [if_pos (wanted_none rfl)]
      refine wp_value (w2 := wx) (v := .pointer (some ⟨g, 0, none⟩)) ?_ (hK _ _ rfl (Fr.refl _ _))
      clear hd hG hK
      go_simp
    refine stepsHold.cons (fun wx hG hd K hK => ?_) ?_
    · have h21 : us 21 = (.pointer (some ⟨g, 0, none⟩)) := deps_get hd 0 rfl rfl rfl rfl rfl
      rw [if_pos (wanted_none rfl)]
      have hx := (HC0.out.keep0 hG).cellsAt 0 rfl
      refine wp_value (w2 := wx) (v := .int .i64 f0) ?_ (hK _ _ rfl (Fr.refl _ _))
      clear hd hK
      go_simp
    refine stepsHold.cons (fun wx hG hd K hK => ?_) ?_
    · have h22 : us 22 = (.int .i64 f0) := deps_get hd 0 rfl rfl rfl rfl rfl
      rw [if_pos (wanted_none rfl)]
      have hw := HW.out
      refine wp_value (w2 := wx) (v := .int .u32 f0) ?_ (hK _ _ rfl (Fr.refl _ _))
      clear hd hG hK
      go_simp
    refine stepsHold.cons (fun wx hG hd K hK => ?_) ?_
    · rw [if_pos (wanted_none rfl)]
      refine wp_value (w2 := wx) (v := .slice A 64 c) ?_ (hK _ _ rfl (Fr.refl _ _))
      clear hd hG hK
      go_simp
    refine stepsHold.cons (fun wx hG hd K hK => ?_) ?_
    · have h24 : us 24 = (.slice A 64 c) := deps_get hd 0 rfl rfl rfl rfl rfl
      rw [if_pos (wanted_none rfl)]
      have hr := HCUT.out wx
      refine wp_value (w2 := wx) (v := .slice A4 60 (c - 4)) ?_ (hK _ _ rfl (Fr.refl _ _))
      clear hd hG hK
      go_simp
    refine stepsHold.cons (fun wx hG hd K hK => ?_) ?_
    · have h25 : us 25 = (.slice A4 60 (c - 4)) := deps_get hd 0 rfl rfl rfl rfl rfl
      rw [if_pos (wanted_none rfl)]
      refine wp_call (w2 := wx) (f := 86) (args := #[.slice A4 60 (c - 4)]) ?_ ?_
      · clear hd hK
        go_simp
      · refine (of_c A4 60 (c - 4) (xs.drop 4) (HB4.out.keep0 hG) (by decide) (HBY.out.drop 4)).mono ?_
        rintro e w9 ⟨rfl, hf9⟩
        rw [← HSM.out]
        exact ⟨_, rfl, hK _ _ rfl hf9⟩
    refine stepsHold.cons (fun wx hG hd K hK => ?_) ?_
    · have h23 : us 23 = (.int .u32 f0) := deps_get hd 0 rfl rfl rfl rfl rfl
      have h26 : us 26 = (.int .u32 sm) := deps_get hd 1 rfl rfl rfl rfl rfl
      rw [if_pos (wanted_none rfl)]
      have hq := HQ.out
      refine wp_value (w2 := wx) (v := .bool bq) ?_ (hK _ _ rfl (Fr.refl _ _))
      clear hd hG hK
      go_simp
    exact stepsHold.nil
  case fin =>
    have h20 : us 20 = (.slice (some ⟨g, 0, none⟩) 7 cF) := all_get hall 0 rfl rfl rfl
    have h21 : us 21 = (.pointer (some ⟨g, 0, none⟩)) := all_get hall 1 rfl rfl rfl
    have h22 : us 22 = (.int .i64 f0) := all_get hall 2 rfl rfl rfl
    have h23 : us 23 = (.int .u32 f0) := all_get hall 3 rfl rfl rfl
    have h24 : us 24 = (.slice A 64 c) := all_get hall 4 rfl rfl rfl
    have h25 : us 25 = (.slice A4 60 (c - 4)) := all_get hall 5 rfl rfl rfl
    have h26 : us 26 = (.int .u32 sm) := all_get hall 6 rfl rfl rfl
    have h27 : us 27 = (.bool bq) := all_get hall 7 rfl rfl rfl
    simp only [fillL, Nat.reduceAdd]
    clear hall
    simp only [h20, h21, h22, h23, h24, h25, h26, h27]
    clear h20 h21 h22 h23 h24 h25 h26 h27
    have HD := Lib.hid (hG.keep0 HD.out)
    have HF := Lib.hid (HF.out.then0 hG)
    have HA := Lib.hid (HA.out.keep0 hG)
    have HC0 := Lib.hid (HC0.out.keep0 hG)
    have c5 := HC0.out.cellsAt 5 rfl
    have c6 := HC0.out.cellsAt 6 rfl
    have hzz : w.heap.size < wz.heap.size := lt_of_block HD.out
    clear hG
    by_cases hs : f0 = sm
    · have hbf : bq = false := by rw [← HQ.out, hs]; simp
      have hE2 : readE xs = if form6 xs = false then 3 else if (pcOf xs).may = false then 3 else 0 := by rw [HE.out, if_neg (by simp [hs])]
      have HE2 := Lib.hid hE2
      subst hbf
      clear hs hE2
      have bad : form6 xs = false → readE xs = 3 := fun h => by rw [HE2.out, if_pos h]
      have BAD := Lib.hid bad
      clear bad
      by_cases h44 : 44 < sz
      · have HRE := Lib.hid (BAD.out (by rw [HFM.out]; simp; intro h; omega))
        have g : (44 : Int) < (sz : Int) := by omega
        clear h44
        go_wp2_with (refine wpList_store_at rfl 160 (.tmp 2) (.tmp 49) rfl w.heap.size 0 zpc (by rfl) (by rfl) 160 zpc HD.out size_piece (by decide) zpc_one ?_)
        refine piece_ret (b := w.heap.size) (t := 160) (cs := zpc) rfl (by rfl) (by rfl) rfl ?_ (HNO.out 3 _ (by decide) HRE.out (HF.out.setRow (by exact .inr (Nat.le_refl _)) _))
        rw [setRow_heap _ w.heap.size _ _ _ _ HD.out, splat_all zpc zpc rfl]
      have g44 : ¬ (44 : Int) < (sz : Int) := by omega
      by_cases h60 : f6 = 0
      · subst h60
        have hcut2 : ∀ W, (Instr.slice 24 (.slice A 64 c) (some (.int .i64 (20 + (sz : Int)))) none none).run Tryd.prog W = .ok (.slice (if c = 20 + sz then A else A.map (·.add (20 + sz))) (64 - (20 + sz)) (c - (20 + sz))) W := fun W => by
          have := run_from A 64 c (20 + sz) (by omega) W
          rwa [show ((20 + sz : Nat) : Int) = 20 + (sz : Int) by omega] at this
        have hBt := HA.out.drop (20 + sz) (by rw [HL.out]; omega)
        obtain ⟨At, hAt⟩ : ∃ A', A' = (if c = 20 + sz then A else A.map (·.add (20 + sz))) := ⟨_, rfl⟩
        rw [← hAt] at hBt
        have hcut3 : ∀ W, (Instr.slice 24 (.slice A 64 c) (some (.int .i64 (20 + (sz : Int)))) none none).run Tryd.prog W = .ok (.slice At (44 - sz) (c - (20 + sz))) W := fun W => by rw [hcut2, hAt, show 64 - (20 + sz) = 44 - sz by omega]
        have HBT := Lib.hid hBt
        clear hcut2 hAt hBt
        go_wp2_with fail
        refine (trim6_c At (44 - sz) (c - (20 + sz)) (xs.drop (20 + sz)) HBT.out (by rw [List.length_drop, HL.out]; omega) (HBY.out.drop _)).mono ?_
        rintro e w8 ⟨At2, m, ct2, rfl, hm, hf8⟩
        have HM := Lib.hid hm
        have HD := Lib.hid (hf8.keep0 HD.out)
        have HF := Lib.hid (HF.out.then0 hf8)
        have HA := Lib.hid (HA.out.keep0 hf8)
        have HC0 := Lib.hid (HC0.out.keep0 hf8)
        clear hf8 hm hcut3 c5 c6
        by_cases hm0 : m = 0
        · have hfo : form6 xs = true := by
            rw [HFM.out, HM.out.1 hm0]
            simp; omega
          have HFO := Lib.hid hfo
          subst hm0
          clear hfo
          obtain ⟨A20, hA20⟩ : ∃ A', A' = (if c = 20 then A else A.map (·.add 20)) := ⟨_, rfl⟩
          have HCUT2 : Hid (∀ W, (Instr.slice 24 (.slice A 64 c) (some (.int .i64 20)) (some (.int .i64 (20 + (sz : Int)))) none).run Tryd.prog W = .ok (.slice A20 sz (c - 20)) W) := Lib.hid (fun W => by
            have := run_cut A 64 c 20 (20 + sz) (by omega) (by omega) W
            rw [hA20]
            rwa [show ((20 + sz : Nat) : Int) = 20 + (sz : Int) by omega, show 20 + sz - 20 = sz by omega] at this)
          have hB20 := (HA.out.drop 20 (by rw [HL.out]; decide))
          rw [← hA20] at hB20
          obtain ⟨D, hD⟩ : ∃ D, D = (xs.drop 20).take sz := ⟨_, rfl⟩
          have HDD := Lib.hid hD
          have HDL : Hid (D.length = sz) := Lib.hid (by rw [hD, List.length_take, List.length_drop, HL.out]; omega)
          have HD20 : Hid (BytesAt w8 A20 sz D) := Lib.hid (by
            have h1 := hB20.at_.take sz (by rw [List.length_drop, HL.out]; omega)
            rw [hD]; exact h1)
          have hpq : pcOf xs = ⟨f1, f2, f3, f4, D⟩ := by rw [HPC.out, hD]
          have HPQ := Lib.hid hpq
          have hz8 : w.heap.size < w8.heap.size := lt_of_block HD.out
          have hsz44 : sz ≤ 44 := by omega
          have HW20 : Hid (IntKind.i64.wrap (20 + (sz : Int)) = 20 + (sz : Int)) := Lib.hid (by rw [IntKind.wrap_i64]; omega)
          clear hA20 hB20 hD hpq
          go_wp2_with fail
    
          refine wp_region_last (S := F0) [false, false, false, false, false, false, true, false, false, false, false, false, false, false, false, false, false, false, false, false, false, false, false, false, false, false, false, false, false, false, false, false, false, false, false, false, false, false, false, false, false, false, false, false, false, false, false, false, false, false, true, true, true, true, true, true, true, true, true, true, true, true, true, true, true, true, true, true, false, false, false, false, false] [.eq (.slice (some ⟨g, 0, none⟩) 7 cF), .eq (.pointer (some ⟨g, 1, none⟩)), .eq (.int .i64 f1), .eq (.slice (some ⟨g, 0, none⟩) 7 cF), .eq (.pointer (some ⟨g, 2, none⟩)), .eq (.int .i64 f2), .eq (.slice (some ⟨g, 0, none⟩) 7 cF), .eq (.pointer (some ⟨g, 3, none⟩)), .eq (.int .i64 f3), .eq (.slice (some ⟨g, 0, none⟩) 7 cF), .eq (.pointer (some ⟨g, 4, none⟩)), .eq (.int .i64 f4), .eq (.slice A 64 c), .eq (.int .i64 (sz : Int)), .eq (.int .i64 (20 + (sz : Int))), .eq (.slice A20 sz (c - 20)), ⟨fun v w' => ∃ A c, v = .slice A sz c ∧ BytesAt w' A sz D, fun v w' w'' ⟨A, c, h1, h2⟩ hf => ⟨A, c, h1, h2.keep0 hf⟩⟩, ⟨fun v w1 => ∃ A c, v = .agg #[.int .i64 f1, .int .i64 f2, .int .i64 f3, .int .i64 f4, .slice A sz c] ∧ BytesAt w1 A sz D, fun v w1 w2 ⟨A, c, h1, h2⟩ hf => ⟨A, c, h1, h2.keep0 hf⟩⟩, ⟨fun v w1 => ∃ b, v = .pointer (some ⟨b, 0, none⟩) ∧ w8.heap.size ≤ b ∧ w1.heap[b]? = some (.cells zpc.toArray 160 (0, 0)), fun v w1 w2 ⟨b, h1, h2, h3⟩ hf => ⟨b, h1, h2, hf.keep0 h3⟩⟩, .any] (by kernel_rfl) (by kernel_rfl) (by rfl) (by rfl) (by kernel_rfl) (fun us => ?steps) (fun us wz2 hG hall => ?fin)
          case steps =>
            simp only [fillL, Nat.reduceAdd]
            refine stepsHold.cons (fun wx hG hd K hK => ?_) ?_
            · rw [if_pos (wanted_none rfl)]
              refine wp_value (w2 := wx) (v := .slice (some ⟨g, 0, none⟩) 7 cF) ?_ (hK _ _ rfl (Fr.refl _ _))
              clear hd hG hK
              go_simp
            refine stepsHold.cons (fun wx hG hd K hK => ?_) ?_
            · have h50 : us 50 = (.slice (some ⟨g, 0, none⟩) 7 cF) := deps_get hd 0 rfl rfl rfl rfl rfl
              rw [if_pos (wanted_none rfl)]
              refine wp_value (w2 := wx) (v := .pointer (some ⟨g, 1, none⟩)) ?_ (hK _ _ rfl (Fr.refl _ _))
              clear hd hG hK
              go_simp
            refine stepsHold.cons (fun wx hG hd K hK => ?_) ?_
            · have h51 : us 51 = (.pointer (some ⟨g, 1, none⟩)) := deps_get hd 0 rfl rfl rfl rfl rfl
              rw [if_pos (wanted_none rfl)]
              have hx := (HC0.out.keep0 hG).cellsAt 1 rfl
              refine wp_value (w2 := wx) (v := .int .i64 f1) ?_ (hK _ _ rfl (Fr.refl _ _))
              clear hd hK
              go_simp
            refine stepsHold.cons (fun wx hG hd K hK => ?_) ?_
            · rw [if_pos (wanted_none rfl)]
              refine wp_value (w2 := wx) (v := .slice (some ⟨g, 0, none⟩) 7 cF) ?_ (hK _ _ rfl (Fr.refl _ _))
              clear hd hG hK
              go_simp
            refine stepsHold.cons (fun wx hG hd K hK => ?_) ?_
            · have h53 : us 53 = (.slice (some ⟨g, 0, none⟩) 7 cF) := deps_get hd 0 rfl rfl rfl rfl rfl
              rw [if_pos (wanted_none rfl)]
              refine wp_value (w2 := wx) (v := .pointer (some ⟨g, 2, none⟩)) ?_ (hK _ _ rfl (Fr.refl _ _))
              clear hd hG hK
              go_simp
            refine stepsHold.cons (fun wx hG hd K hK => ?_) ?_
            · have h54 : us 54 = (.pointer (some ⟨g, 2, none⟩)) := deps_get hd 0 rfl rfl rfl rfl rfl
              rw [if_pos (wanted_none rfl)]
              have hx := (HC0.out.keep0 hG).cellsAt 2 rfl
              refine wp_value (w2 := wx) (v := .int .i64 f2) ?_ (hK _ _ rfl (Fr.refl _ _))
              clear hd hK
              go_simp
            refine stepsHold.cons (fun wx hG hd K hK => ?_) ?_
            · rw [if_pos (wanted_none rfl)]
              refine wp_value (w2 := wx) (v := .slice (some ⟨g, 0, none⟩) 7 cF) ?_ (hK _ _ rfl (Fr.refl _ _))
              clear hd hG hK
              go_simp
            refine stepsHold.cons (fun wx hG hd K hK => ?_) ?_
            · have h56 : us 56 = (.slice (some ⟨g, 0, none⟩) 7 cF) := deps_get hd 0 rfl rfl rfl rfl rfl
              rw [if_pos (wanted_none rfl)]
              refine wp_value (w2 := wx) (v := .pointer (some ⟨g, 3, none⟩)) ?_ (hK _ _ rfl (Fr.refl _ _))
              clear hd hG hK
              go_simp
            refine stepsHold.cons (fun wx hG hd K hK => ?_) ?_
            · have h57 : us 57 = (.pointer (some ⟨g, 3, none⟩)) := deps_get hd 0 rfl rfl rfl rfl rfl
              rw [if_pos (wanted_none rfl)]
              have hx := (HC0.out.keep0 hG).cellsAt 3 rfl
              refine wp_value (w2 := wx) (v := .int .i64 f3) ?_ (hK _ _ rfl (Fr.refl _ _))
              clear hd hK
              go_simp
            refine stepsHold.cons (fun wx hG hd K hK => ?_) ?_
            · rw [if_pos (wanted_none rfl)]
              refine wp_value (w2 := wx) (v := .slice (some ⟨g, 0, none⟩) 7 cF) ?_ (hK _ _ rfl (Fr.refl _ _))
              clear hd hG hK
              go_simp
            refine stepsHold.cons (fun wx hG hd K hK => ?_) ?_
            · have h59 : us 59 = (.slice (some ⟨g, 0, none⟩) 7 cF) := deps_get hd 0 rfl rfl rfl rfl rfl
              rw [if_pos (wanted_none rfl)]
              refine wp_value (w2 := wx) (v := .pointer (some ⟨g, 4, none⟩)) ?_ (hK _ _ rfl (Fr.refl _ _))
              clear hd hG hK
              go_simp
            refine stepsHold.cons (fun wx hG hd K hK => ?_) ?_
            · have h60 : us 60 = (.pointer (some ⟨g, 4, none⟩)) := deps_get hd 0 rfl rfl rfl rfl rfl
              rw [if_pos (wanted_none rfl)]
              have hx := (HC0.out.keep0 hG).cellsAt 4 rfl
              refine wp_value (w2 := wx) (v := .int .i64 f4) ?_ (hK _ _ rfl (Fr.refl _ _))
              clear hd hK
              go_simp
            refine stepsHold.cons (fun wx hG hd K hK => ?_) ?_
            · rw [if_pos (wanted_none rfl)]
              refine wp_value (w2 := wx) (v := .slice A 64 c) ?_ (hK _ _ rfl (Fr.refl _ _))
              clear hd hG hK
              go_simp
            refine stepsHold.cons (fun wx hG hd K hK => ?_) ?_
            · rw [if_pos (wanted_none rfl)]
              refine wp_value (w2 := wx) (v := .int .i64 (sz : Int)) ?_ (hK _ _ rfl (Fr.refl _ _))
              clear hd hG hK
              go_simp
            refine stepsHold.cons (fun wx hG hd K hK => ?_) ?_
            · have h63 : us 63 = (.int .i64 (sz : Int)) := deps_get hd 0 rfl rfl rfl rfl rfl
              rw [if_pos (wanted_none rfl)]
              have hw := HW20.out
              refine wp_value (w2 := wx) (v := .int .i64 (20 + (sz : Int))) ?_ (hK _ _ rfl (Fr.refl _ _))
              clear hd hG hK
              go_simp
            refine stepsHold.cons (fun wx hG hd K hK => ?_) ?_
            · have h62 : us 62 = (.slice A 64 c) := deps_get hd 0 rfl rfl rfl rfl rfl
              have h64 : us 64 = (.int .i64 (20 + (sz : Int))) := deps_get hd 1 rfl rfl rfl rfl rfl
              rw [if_pos (wanted_none rfl)]
              have hr := HCUT2.out wx
              refine wp_value (w2 := wx) (v := .slice A20 sz (c - 20)) ?_ (hK _ _ rfl (Fr.refl _ _))
              clear hd hG hK
              go_simp
            refine stepsHold.cons (fun wx hG hd K hK => ?_) ?_
            · have h65 : us 65 = (.slice A20 sz (c - 20)) := deps_get hd 0 rfl rfl rfl rfl rfl
              rw [if_pos (wanted_none rfl)]
              refine wp_call (w2 := wx) (f := 85) (args := #[.slice A20 sz (c - 20)]) ?_ ?_
              · clear hd hK
                go_simp
              · refine (clone_c A20 sz (c - 20) D (HD20.out.keep0 hG) (by omega)).mono ?_
                rintro e w9 ⟨v, rfl, hown⟩
                obtain ⟨A9, c9, rfl, hb9, hn9⟩ := hown.byt
                have h9 := hb9.at_
                rw [HDL.out] at h9 ⊢
                exact ⟨_, rfl, hK _ _ ⟨A9, c9, rfl, h9⟩ hown.fr⟩
            refine stepsHold.cons (fun wx hG hd K hK => ?_) ?_
            · have h52 : us 52 = (.int .i64 f1) := deps_get hd 0 rfl rfl rfl rfl rfl
              have h55 : us 55 = (.int .i64 f2) := deps_get hd 1 rfl rfl rfl rfl rfl
              have h58 : us 58 = (.int .i64 f3) := deps_get hd 2 rfl rfl rfl rfl rfl
              have h61 : us 61 = (.int .i64 f4) := deps_get hd 3 rfl rfl rfl rfl rfl
              have h66 := deps_get hd 4 rfl rfl rfl rfl rfl
              rw [if_pos (wanted_none rfl)]
              obtain ⟨A9, c9, e9, h9⟩ := h66
              refine wp_value (w2 := wx) (v := .agg #[.int .i64 f1, .int .i64 f2, .int .i64 f3, .int .i64 f4, .slice A9 sz c9]) ?_ (hK _ _ ⟨A9, c9, rfl, h9⟩ (Fr.refl _ _))
              clear hd hG hK
              go_simp
            refine stepsHold.cons (fun wx hG hd K hK => ?_) ?_
            · rw [if_pos (wanted_none rfl)]
              have hr := run_alloc_piece wx
              have hz := hG.size
              refine wp_value (w2 := wx.alloc (.cells zpc.toArray 160)) (v := .pointer (some ⟨wx.heap.size, 0, none⟩)) ?_ (hK _ _ ⟨_, rfl, hz, alloc_at rfl _⟩ ((Fr.refl _ _).alloc _))
              clear hd hG hK
              go_simp
              rfl
            exact stepsHold.nil
          case fin =>
            have h50 : us 50 = (.slice (some ⟨g, 0, none⟩) 7 cF) := all_get hall 0 rfl rfl rfl
            have h51 : us 51 = (.pointer (some ⟨g, 1, none⟩)) := all_get hall 1 rfl rfl rfl
            have h52 : us 52 = (.int .i64 f1) := all_get hall 2 rfl rfl rfl
            have h53 : us 53 = (.slice (some ⟨g, 0, none⟩) 7 cF) := all_get hall 3 rfl rfl rfl
            have h54 : us 54 = (.pointer (some ⟨g, 2, none⟩)) := all_get hall 4 rfl rfl rfl
            have h55 : us 55 = (.int .i64 f2) := all_get hall 5 rfl rfl rfl
            have h56 : us 56 = (.slice (some ⟨g, 0, none⟩) 7 cF) := all_get hall 6 rfl rfl rfl
            have h57 : us 57 = (.pointer (some ⟨g, 3, none⟩)) := all_get hall 7 rfl rfl rfl
            have h58 : us 58 = (.int .i64 f3) := all_get hall 8 rfl rfl rfl
            have h59 : us 59 = (.slice (some ⟨g, 0, none⟩) 7 cF) := all_get hall 9 rfl rfl rfl
            have h60 : us 60 = (.pointer (some ⟨g, 4, none⟩)) := all_get hall 10 rfl rfl rfl
            have h61 : us 61 = (.int .i64 f4) := all_get hall 11 rfl rfl rfl
            have h62 : us 62 = (.slice A 64 c) := all_get hall 12 rfl rfl rfl
            have h63 : us 63 = (.int .i64 (sz : Int)) := all_get hall 13 rfl rfl rfl
            have h64 : us 64 = (.int .i64 (20 + (sz : Int))) := all_get hall 14 rfl rfl rfl
            have h65 : us 65 = (.slice A20 sz (c - 20)) := all_get hall 15 rfl rfl rfl
            have h66 := all_get hall 16 rfl rfl rfl
            have h67 := all_get hall 17 rfl rfl rfl
            have h6 := all_get hall 18 rfl rfl rfl
            simp only [fillL, Nat.reduceAdd]
            clear hall
            simp only [h50, h51, h52, h53, h54, h55, h56, h57, h58, h59, h60, h61, h62, h63, h64, h65]
            clear h50 h51 h52 h53 h54 h55 h56 h57 h58 h59 h60 h61 h62 h63 h64 h65
            obtain ⟨A9, c9, e67, hd9⟩ := h67
            obtain ⟨bp, e6, hbp, hp6⟩ := h6
            have HD := Lib.hid (hG.keep0 HD.out)
            have HF := Lib.hid (HF.out.then0 hG)
            have hne := bytes_ne_zpc hp6 hd9
            have hx4 : (Pc.cells ⟨f1, f2, f3, f4, D⟩ A9 sz c9).toArray = #[.int .i64 f1, .int .i64 f2, .int .i64 f3, .int .i64 f4, .slice A9 sz c9] := rfl
            rw [e67, e6]
            refine wp_store_at 160 (.tmp 6) (.tmp 67) rfl bp 0 (Pc.cells ⟨f1, f2, f3, f4, D⟩ A9 sz c9) (by rfl) (by rfl) 160 zpc hp6 size_piece (Nat.le_refl 5) (Pc.cells_one _ _ _ _) ?_
            have hfs : Fr (fun k => k = bp) wz2 (wz2.setRow bp (splat zpc 0 (Pc.cells ⟨f1, f2, f3, f4, D⟩ A9 sz c9)).toArray) := (Fr.refl _ _).setRow (by exact .inl rfl) _
            have hrow : (wz2.setRow bp (splat zpc 0 (Pc.cells ⟨f1, f2, f3, f4, D⟩ A9 sz c9)).toArray).heap[bp]? = some (.cells (Pc.cells ⟨f1, f2, f3, f4, D⟩ A9 sz c9).toArray 160 (0, 0)) := by
              rw [setRow_heap _ bp _ _ _ _ hp6, splat_all zpc (Pc.cells ⟨f1, f2, f3, f4, D⟩ A9 sz c9) rfl]
            have HB9 := Lib.hid (hd9.keep hfs (fun hp ad he => hne hp ad he))
            have HROW := Lib.hid hrow
            have HD := Lib.hid (hfs.keep HD.out (by omega))
            have HF : Hid (Fr F0 w (wz2.setRow bp (splat zpc 0 (Pc.cells ⟨f1, f2, f3, f4, D⟩ A9 sz c9)).toArray)) := Lib.hid (HF.out.setRow (by exact .inr (by omega)) _)
            generalize wz2.setRow bp (splat zpc 0 (Pc.cells ⟨f1, f2, f3, f4, D⟩ A9 sz c9)).toArray = W at *
            obtain ⟨q0, q1, q2, q3, q4⟩ := (show PcAt W bp ⟨f1, f2, f3, f4, D⟩ A9 sz c9 from ⟨_, HROW.out⟩).all
            have hzW : w.heap.size < W.heap.size := lt_of_block HD.out
            clear hne hx4 hd9 hp6 hfs hrow e67 e6 hG
            go_wp2_with fail
            refine (may6_c ⟨f1, f2, f3, f4, D⟩ A9 sz c9 HDL.out (by omega)).mono ?_
            rintro e wm ⟨rfl, hfm⟩
            have HD := Lib.hid (hfm.keep0 HD.out)
            have HF := Lib.hid (HF.out.then0 hfm)
            have HROW := Lib.hid (hfm.keep0 HROW.out)
            have HB9 := Lib.hid (HB9.out.keep0 hfm)
            clear q0 q1 q2 q3 q4 hfm
            cases hmay : (Pc.mk f1 f2 f3 f4 D).may with
            | false =>
              have HRE : Hid (readE xs = 3) := Lib.hid (by rw [HE2.out, if_neg (by rw [HFO.out]; decide), HPQ.out, if_pos hmay])
              clear hmay
              go_wp2_with (refine wpList_store_at rfl 160 (.tmp 2) (.tmp 71) rfl w.heap.size 0 zpc (by rfl) (by rfl) 160 zpc HD.out size_piece (by decide) zpc_one ?_)
              refine piece_ret (b := w.heap.size) (t := 160) (cs := zpc) rfl (by rfl) (by rfl) rfl ?_ (HNO.out 3 _ (by decide) HRE.out (HF.out.setRow (by exact .inr (Nat.le_refl _)) _))
              rw [setRow_heap _ w.heap.size _ _ _ _ HD.out, splat_all zpc zpc rfl]
            | true =>
              have HRE : Hid (readE xs = 0) := Lib.hid (by rw [HE2.out, if_neg (by rw [HFO.out]; decide), HPQ.out, if_neg (by rw [hmay]; decide)])
              have HRP : Hid (readP xs = ⟨f1, f2, f3, f4, D⟩) := Lib.hid (by unfold readP; rw [if_pos HRE.out, HPQ.out])
              obtain ⟨dd, hu, hd⟩ := und_piece
              have HU := Lib.hid hu
              have HDS := Lib.hid hd
              have HCS : Hid (∀ i v, (Pc.cells ⟨f1, f2, f3, f4, D⟩ A9 sz c9)[i]? = some v → wm.cell? ⟨bp, 0 + i, none⟩ = some v) := Lib.hid (by
                intro i v hv
                rw [cell_of HROW.out]
                simpa using hv)
              clear hmay hu hd
              go_wp2_with ((refine wpList_load_at rfl 160 (.tmp 6) rfl bp 0 (by rfl) (Pc.cells ⟨f1, f2, f3, f4, D⟩ A9 sz c9) dd HCS.out HU.out HDS.out size_piece ?_; refine wpList_store_at rfl 160 (.tmp 2) (.tmp 72) rfl w.heap.size 0 (Pc.cells ⟨f1, f2, f3, f4, D⟩ A9 sz c9) (by rfl) (by rfl) 160 zpc HD.out size_piece (Nat.le_refl 5) (Pc.cells_one _ _ _ _) ?_))
              have hfe : Fr (fun k => k = w.heap.size) wm (wm.setRow w.heap.size (splat zpc 0 (Pc.cells ⟨f1, f2, f3, f4, D⟩ A9 sz c9)).toArray) := (Fr.refl _ _).setRow (by exact .inl rfl) _
              refine piece_ret (b := w.heap.size) (t := 160) (cs := Pc.cells ⟨f1, f2, f3, f4, D⟩ A9 sz c9) rfl (by rfl) (by rfl) rfl ?_ ?_
              · rw [setRow_heap _ w.heap.size _ _ _ _ HD.out, splat_all zpc (Pc.cells ⟨f1, f2, f3, f4, D⟩ A9 sz c9) rfl]
              · rw [HRE.out, HRP.out]
                exact ⟨A9, sz, c9, rfl, HB9.out.keep hfe (fun hp ad he => bytes_ne_zpc HD.out HB9.out hp ad he), HF.out.setRow (by exact .inr (Nat.le_refl _)) _⟩
        · have HRE := Lib.hid (BAD.out (by
            rw [HFM.out]
            have : ¬ (xs.drop (20 + sz) = List.replicate (44 - sz) 0) := fun h => hm0 (HM.out.2 h)
            simp [this]))
          have hmp : (0 : Int) < (m : Int) := by omega
          clear hm0
          go_wp2_with (refine wpList_store_at rfl 160 (.tmp 2) (.tmp 49) rfl w.heap.size 0 zpc (by rfl) (by rfl) 160 zpc HD.out size_piece (by decide) zpc_one ?_)
          refine piece_ret (b := w.heap.size) (t := 160) (cs := zpc) rfl (by rfl) (by rfl) rfl ?_ (HNO.out 3 _ (by decide) HRE.out (HF.out.setRow (by exact .inr (Nat.le_refl _)) _))
          rw [setRow_heap _ w.heap.size _ _ _ _ HD.out, splat_all zpc zpc rfl]
      · have HRE := Lib.hid (BAD.out (by rw [HFM.out]; simp [h60]))
        have g6 : (f6 != 0) = true := by simp [h60]
        clear h60
        go_wp2_with (refine wpList_store_at rfl 160 (.tmp 2) (.tmp 49) rfl w.heap.size 0 zpc (by rfl) (by rfl) 160 zpc HD.out size_piece (by decide) zpc_one ?_)
        refine piece_ret (b := w.heap.size) (t := 160) (cs := zpc) rfl (by rfl) (by rfl) rfl ?_ (HNO.out 3 _ (by decide) HRE.out (HF.out.setRow (by exact .inr (Nat.le_refl _)) _))
        rw [setRow_heap _ w.heap.size _ _ _ _ HD.out, splat_all zpc zpc rfl]
    · have hbt : bq = true := by rw [← HQ.out]; simp [hs]
      have HRE : Hid (readE xs = 4) := Lib.hid (by rw [HE.out, if_pos hs])
      subst hbt
      clear hs
      go_wp2_with (refine wpList_store_at rfl 160 (.tmp 2) (.tmp 28) rfl w.heap.size 0 zpc (by rfl) (by rfl) 160 zpc HD.out size_piece (by decide) zpc_one ?_)
      refine piece_ret (b := w.heap.size) (t := 160) (cs := zpc) rfl (by rfl) (by rfl) rfl ?_ (HNO.out 4 _ (by decide) HRE.out (HF.out.setRow (by exact .inr (Nat.le_refl _)) _))
      rw [setRow_heap _ w.heap.size _ _ _ _ HD.out, splat_all zpc zpc rfl]
end
end Go.Proofs.YtdeckbdaencjnaaDoor
