/-
  super's Load and Save. Conditions: none.
-/
import Derived.Test.YtdeckbdaencjnaaDoorSdd
import Derived.LoopN
set_option linter.unusedVariables false
set_option linter.unusedSimpArgs false
namespace Go.Proofs.YtdeckbdaencjnaaDoor
open Go.RowKit

theorem sup_ret {fn : Func} {c2 c3 : Nat} {a : Act} {w : World} {b : Nat} {t : TypeId} {s : Sup} {e : Int} {R : Ending → World → Prop} (hfn : fn.results = #[.cell c2 29, .tmp c3]) (ha : a.tmps.getD c2 undef = .pointer (some ⟨b, 0, none⟩)) (hc : a.tmps.getD c3 undef = .int .i64 e) (hd : a.defers = [])
    (hh : w.heap[b]? = some (.cells s.cells.toArray t (0, 0))) (hR : R (.returned (.tuple #[.agg s.cells.toArray, .int .i64 e])) w) : bodyPost Tryd.prog fn R .ret a w :=
  bodyPost_ret (results_cell2 hfn ha hc (load_super hh)) hd hR

theorem may_ok {D : Dev} {i : Int} (h : D.may i = 0) : D.gone = false ∧ i < (D.laid.length : Int) := by
  unfold Dev.may at h
  by_cases hg : D.gone = true
  · rw [if_pos hg] at h; omega
  · rw [if_neg hg] at h
    refine ⟨by simpa using hg, ?_⟩
    split at h <;> omega
theorem at_len {D : Dev} (h : D.Ok) {i : Nat} (hi : i < D.laid.length) : (D.at i).length = 64 := by
  unfold Dev.at
  cases hs : (D.late[i]?).join with
  | none => exact h.secs _ (by simp [hi])
  | some s =>
    refine h.lates s ?_
    cases ho : D.late[i]? with
    | none => rw [ho] at hs; cases hs
    | some o =>
      rw [ho] at hs
      simp at hs
      subst hs
      exact List.mem_of_getElem? ho
/-- The best of the first j of two sectors; was one found? -/
def bst (x y : List Int) (j : Nat) : Sup := if j = 0 then Sup.zero else if j = 1 then decS x else pickS x y
def fnd (x y : List Int) (j : Nat) : Int := if j = 0 then 6 else if j = 1 then (if decE x = 0 then 0 else 6) else pickE x y
theorem decS_zero_v {x : List Int} (h : decE x ≠ 0) : decS x = Sup.zero := decS_bad h
theorem bst_step (x y : List Int) {j : Nat} (hj : j < 2) {X : List Int} (hX : X = if j = 0 then x else y) :
    (decE X ≠ 0 → bst x y (j + 1) = bst x y j ∧ fnd x y (j + 1) = fnd x y j) ∧
    (decE X = 0 → fnd x y j ≠ 0 ∨ (bst x y j).version < (decS X).version → bst x y (j + 1) = decS X ∧ fnd x y (j + 1) = 0) ∧
    (decE X = 0 → fnd x y j = 0 → ¬ (bst x y j).version < (decS X).version → bst x y (j + 1) = bst x y j ∧ fnd x y (j + 1) = fnd x y j) := by
  have h : j = 0 ∨ j = 1 := by omega
  rcases h with rfl | rfl
  · simp only [if_true] at hX
    subst hX
    refine ⟨fun h => ?_, fun h _ => ?_, fun h h2 => ?_⟩
    · simp [bst, fnd, h, decS_bad h]
    · simp [bst, fnd, h]
    · simp [fnd] at h2
  · simp only [Nat.one_ne_zero, if_false] at hX
    subst hX
    refine ⟨fun h => ?_, fun h h2 => ?_, fun h h2 h3 => ?_⟩
    · by_cases hx : decE x = 0
      · simp [bst, fnd, pickS, pickE, h, hx, decS_ok hx]
      · simp [bst, fnd, pickS, pickE, h, hx, decS_bad hx]
    · by_cases hx : decE x = 0
      · have h4 : (decF x).version < (decF X).version := by
          rcases h2 with h2 | h2
          · simp [fnd, hx] at h2
          · simpa [bst, decS_ok hx, decS_ok h] using h2
        simp [bst, fnd, pickS, pickE, h, hx, decS_ok h, h4]
      · simp [bst, fnd, pickS, pickE, h, hx, decS_ok h]
    · have hx : decE x = 0 := by
        by_cases hx : decE x = 0
        · exact hx
        · simp [fnd, hx] at h2
      have h4 : ¬ (decF x).version < (decF X).version := by simpa [bst, decS_ok hx, decS_ok h] using h3
      simp [bst, fnd, pickS, pickE, h, hx, decS_ok hx, h4]
theorem fnd_cases (x y : List Int) (j : Nat) : fnd x y j = 0 ∨ fnd x y j = 6 := by
  unfold fnd pickE
  split
  · exact .inr rfl
  · split
    · split
      · exact .inl rfl
      · exact .inr rfl
    · split
      · exact .inl rfl
      · exact .inr rfl
theorem bst_all (x y : List Int) : bst x y 2 = pickS x y ∧ fnd x y 2 = pickE x y := ⟨rfl, rfl⟩
theorem read_n {w : World} {db lb mb : Nat} {D : Dev} (h : DevAt Tryd.prog 3 w db lb mb D) (hg : D.gone = false) (i : Nat) (hi : i < D.laid.length) :
    Calls Tryd.prog 23 #[.pointer (some ⟨db, 0, none⟩), .int .i64 (i : Int)] w fun e w' => ∃ b, e = .returned (.tuple #[.slice (some ⟨b, 0, none⟩) 64 64, .int .i64 0]) ∧ w.heap.size ≤ b ∧ Byt w' (some ⟨b, 0, none⟩) 64 (D.at i) ∧ Fr F0 w w' := by
  refine (read_c h hg i hi).mono ?_
  rintro e w' ⟨b, t, rfl, hb, hc, hf⟩
  exact ⟨b, rfl, hb, ⟨BytesAt.of_block hc, by rw [at_len h.ok hi]; exact Nat.le_refl _, by decide⟩, hf⟩
theorem decode_n {w : World} (A : Option Addr) (n c : Nat) (xs : List Int) (hl : xs.length = n) (hA : Byt w A c xs) (hn : xs.length ≤ 1099511627776) (hb : Bys xs) :
    Calls Tryd.prog 18 #[.slice A n c] w fun e w' => ∃ s, e = .returned (.tuple #[.agg #[.int .i64 s.version, .int .i64 s.epoch, .int .i64 s.blocks, .int .i64 s.counters, .int .i64 s.log, .int .i64 s.head, .int .i64 s.applied], .int .i64 (decE xs)]) ∧ Hid (s = decS xs) ∧ Fr F0 w w' := by
  subst hl
  refine (decode_c A c xs hA hn hb).mono ?_
  rintro e w' ⟨rfl, hf⟩
  exact ⟨_, rfl, Lib.hid rfl, hf⟩
section
variable {w : World} {db lb mb : Nat} {D : Dev}
set_option maxRecDepth 100000 in
set_option maxHeartbeats 4000000 in
theorem load_c (h : DevAt Tryd.prog 3 w db lb mb D) (hB : ∀ i, i < 2 → Bys (D.at i)) :
    Calls Tryd.prog 22 #[.pointer (some ⟨db, 0, none⟩)] w fun e w' => e = .returned (.tuple #[.agg D.loadS.cells.toArray, .int .i64 D.loadE]) ∧ Fr F0 w w' := by
  have HH := Lib.hid h
  have hlt := h.lt
  have h1 : Fr F0 w (((w.alloc (.cells #[.int .i64 0, .int .i64 0, .int .i64 0, .int .i64 0, .int .i64 0, .int .i64 0, .int .i64 0] 29)).alloc (.cells #[.int .i64 0, .int .i64 0, .int .i64 0, .int .i64 0, .int .i64 0, .int .i64 0, .int .i64 0] 29)).alloc (.cells #[.slice none 0 0, .slice none 0 0] 110)) := (((Fr.refl _ _).alloc _).alloc _).alloc _
  have r0 : (((w.alloc (.cells #[.int .i64 0, .int .i64 0, .int .i64 0, .int .i64 0, .int .i64 0, .int .i64 0, .int .i64 0] 29)).alloc (.cells #[.int .i64 0, .int .i64 0, .int .i64 0, .int .i64 0, .int .i64 0, .int .i64 0, .int .i64 0] 29)).alloc (.cells #[.slice none 0 0, .slice none 0 0] 110)).heap[w.heap.size]? = some (.cells Sup.zero.cells.toArray 29 (0, 0)) := keep_alloc (keep_alloc (alloc_at rfl _) _) _
  have r1 : (((w.alloc (.cells #[.int .i64 0, .int .i64 0, .int .i64 0, .int .i64 0, .int .i64 0, .int .i64 0, .int .i64 0] 29)).alloc (.cells #[.int .i64 0, .int .i64 0, .int .i64 0, .int .i64 0, .int .i64 0, .int .i64 0, .int .i64 0] 29)).alloc (.cells #[.slice none 0 0, .slice none 0 0] 110)).heap[w.heap.size + 1]? = some (.cells Sup.zero.cells.toArray 29 (0, 0)) := keep_alloc (alloc_at (by simp) _) _
  have r2 : (((w.alloc (.cells #[.int .i64 0, .int .i64 0, .int .i64 0, .int .i64 0, .int .i64 0, .int .i64 0, .int .i64 0] 29)).alloc (.cells #[.int .i64 0, .int .i64 0, .int .i64 0, .int .i64 0, .int .i64 0, .int .i64 0, .int .i64 0] 29)).alloc (.cells #[.slice none 0 0, .slice none 0 0] 110)).heap[w.heap.size + 2]? = some (.cells #[.slice none 0 0, .slice none 0 0] 110 (0, 0)) := alloc_at (by simp) _
  have H1 := Lib.hid h1
  have R0 := Lib.hid r0
  have R1 := Lib.hid r1
  have R2 := Lib.hid r2
  clear h1 r0 r1 r2
  by_cases m0 : D.may 0 = 0
  · by_cases m1 : D.may 1 = 0
    · have hE : D.loadE = pickE (D.at 0) (D.at 1) := by unfold Dev.loadE; rw [if_neg (by rw [m0]; decide), if_neg (by rw [m1]; decide)]
      have hS : D.loadS = pickS (D.at 0) (D.at 1) := by unfold Dev.loadS; rw [if_neg (by rw [m0]; decide), if_neg (by rw [m1]; decide)]
      rw [hE, hS]
      obtain ⟨hg, hp⟩ := may_ok m0
      obtain ⟨-, hp1⟩ := may_ok m1
      have HG := Lib.hid hg
      have hl0 := (at_len HH.out.ok (i := 0) (by omega))
      have hl1 := (at_len HH.out.ok (i := 1) (by omega))
      have hb0 := hB 0 (by decide)
      have hb1 := hB 1 (by decide)
      generalize hx : D.at 0 = x at *
      generalize hy : D.at 1 = y at *
      have HX := Lib.hid hx
      have HY := Lib.hid hy
      clear hx hy
      have HL0 := Lib.hid hl0
      have HL1 := Lib.hid hl1
      clear hE hS m1 m0 hg hl0 hl1 hB
      go_enter Tryd.func22, Tryd.ntmps22
      go_wp2_with fail
      generalize (((w.alloc (.cells #[.int .i64 0, .int .i64 0, .int .i64 0, .int .i64 0, .int .i64 0, .int .i64 0, .int .i64 0] 29)).alloc (.cells #[.int .i64 0, .int .i64 0, .int .i64 0, .int .i64 0, .int .i64 0, .int .i64 0, .int .i64 0] 29)).alloc (.cells #[.slice none 0 0, .slice none 0 0] 110)) = w1 at *
      refine wp_loop_rounds 3 ?_
      rw [rounds_succ]
      go_wp2_with fail
      refine (read_n (HH.out.keep0 H1.out) HG.out 0 (by omega)).mono ?_
      rintro e w2 ⟨B0, rfl, hB0, hc0, hf2⟩
      rw [HX.out] at hc0
      have hz1 := H1.out.size
      have R02 := Lib.hid (hf2.keep0 R0.out)
      have R12 := Lib.hid (hf2.keep0 R1.out)
      have hr2 := hf2.keep0 R2.out
      have q0 : w2.cell? ⟨w.heap.size + 2, 0, none⟩ = some (.slice none 0 0) := by rw [cell_of hr2]; rfl
      have q1 := free_of hr2 0
      have HR2 := Lib.hid hr2
      have HF2 := Lib.hid hf2
      have hz2 := hf2.size
      clear hr2 hf2
      go_wp2_with fail
      have hfs : Fr (fun k => k = w.heap.size + 2) w2 (w2.setCell ⟨w.heap.size + 2, 0, none⟩ (.slice (some ⟨B0, 0, none⟩) 64 64)) := (Fr.refl _ _).setCell (by exact .inl rfl) _
      have hf3 : Fr F0 w (w2.setCell ⟨w.heap.size + 2, 0, none⟩ (.slice (some ⟨B0, 0, none⟩) 64 64)) := (H1.out.then0 HF2.out).setCell (by exact .inr (by simp)) _
      have r23 := set_cell HR2.out 0 (.slice (some ⟨B0, 0, none⟩) 64 64)
      generalize w2.setCell ⟨w.heap.size + 2, 0, none⟩ (.slice (some ⟨B0, 0, none⟩) 64 64) = w3 at *
      have R03 := Lib.hid (hfs.keep R02.out (by omega))
      have R13 := Lib.hid (hfs.keep R12.out (by omega))
      have hz0 := lt_of_block R2.out
      have hbb3 := hc0.keep hfs (by intro hp ad e; cases e; show ¬ B0 = w.heap.size + 2; omega)
      have R23 := Lib.hid r23
      have H3 := Lib.hid hf3
      have hz3 := hfs.size
      clear hf3 r23 q0 q1 hc0 hfs
      rw [rounds_succ]
      go_wp2_with fail
      refine (read_n (HH.out.keep0 H3.out) HG.out 1 (by omega)).mono ?_
      rintro e w4 ⟨B1, rfl, hB1, hc1, hf4⟩
      rw [HY.out] at hc1
      have hr4 := hf4.keep0 R23.out
      have q0 : w4.cell? ⟨w.heap.size + 2, 1, none⟩ = some (.slice none 0 0) := by rw [cell_of hr4]; rfl
      have q1 := free_of hr4 1
      have hbb4 := hbb3.keep0 hf4
      have R04 := Lib.hid (hf4.keep0 R03.out)
      have R14 := Lib.hid (hf4.keep0 R13.out)
      have HR4 := Lib.hid hr4
      have HF4 := Lib.hid hf4
      clear hr4 hf4 hbb3
      go_wp2_with fail
      have hfs : Fr (fun k => k = w.heap.size + 2) w4 (w4.setCell ⟨w.heap.size + 2, 1, none⟩ (.slice (some ⟨B1, 0, none⟩) 64 64)) := (Fr.refl _ _).setCell (by exact .inl rfl) _
      have hf5 : Fr F0 w (w4.setCell ⟨w.heap.size + 2, 1, none⟩ (.slice (some ⟨B1, 0, none⟩) 64 64)) := (H3.out.then0 HF4.out).setCell (by exact .inr (by simp)) _
      have r25 := set_cell HR4.out 1 (.slice (some ⟨B1, 0, none⟩) 64 64)
      generalize w4.setCell ⟨w.heap.size + 2, 1, none⟩ (.slice (some ⟨B1, 0, none⟩) 64 64) = w5 at *
      have R05 := Lib.hid (hfs.keep R04.out (by omega))
      have R15 := Lib.hid (hfs.keep R14.out (by omega))
      have hbx := hbb4.keep hfs (by intro hp ad e; cases e; show ¬ B0 = w.heap.size + 2; omega)
      have hby := hc1.keep hfs (by intro hp ad e; cases e; show ¬ B1 = w.heap.size + 2; omega)
      have s0 : w5.cell? ⟨w.heap.size + 2, 0, none⟩ = some (.slice (some ⟨B0, 0, none⟩) 64 64) := by rw [cell_of r25]; rfl
      have s1 : w5.cell? ⟨w.heap.size + 2, 1, none⟩ = some (.slice (some ⟨B1, 0, none⟩) 64 64) := by rw [cell_of r25]; rfl
      have H5 := Lib.hid hf5
      have hz4 := H5.out.size
      clear hf5 r25 q0 q1 hc1 hfs hbb4
      rw [rounds_succ]
      go_wp2_with fail
      clear s0 s1
      go_loopg [5, 32] 2 (fun kq x5 x32 wr => ∃ j : Nat, j ≤ 2 ∧ kq = 2 - j ∧ x32 = .int .i64 (j : Int) ∧ x5 = .int .i64 (fnd x y j) ∧ wr.heap[w.heap.size + 1]? = some (.cells (bst x y j).cells.toArray 29 (0, 0)) ∧ Fr (fun k => k = w.heap.size + 1) w5 wr)
      case atStart => exact ⟨0, by omega, rfl, rfl, rfl, R15.out, Fr.refl _ _⟩
      case round =>
        obtain ⟨j, hj, rfl, rfl, rfl, hbst, hfr⟩ := hrel
        have HBST := Lib.hid hbst
        clear hbst
        have hz5 := hfr.size
        have hz6 := lt_of_block R15.out
        obtain ⟨f, hf⟩ : ∃ f, f = fnd x y j := ⟨_, rfl⟩
        rw [← hf]
        have HFD := Lib.hid hf
        clear hf
        by_cases hlt : j < 2
        · obtain ⟨X, hX⟩ : ∃ X, X = if j = 0 then x else y := ⟨_, rfl⟩
          obtain ⟨BX, hBX⟩ : ∃ BX, BX = if j = 0 then B0 else B1 := ⟨_, rfl⟩
          have hidx : ∀ W, (Instr.index 110 (.agg #[.slice (some ⟨B0, 0, none⟩) 64 64, .slice (some ⟨B1, 0, none⟩) 64 64]) (.int .i64 (j : Int))).run Tryd.prog W = .ok (.slice (some ⟨BX, 0, none⟩) 64 64) W := by
            have hj2 : j = 0 ∨ j = 1 := by omega
            intro W
            rcases hj2 with rfl | rfl
            · rw [hBX]; kernel_rfl
            · rw [hBX]; kernel_rfl
          have hbX : Byt wr (some ⟨BX, 0, none⟩) 64 X := by
            have hj2 : j = 0 ∨ j = 1 := by omega
            rcases hj2 with rfl | rfl
            · rw [hBX, hX, if_pos rfl, if_pos rfl]
              exact hbx.keep hfr (by intro hp ad e; cases e; show ¬ B0 = w.heap.size + 1; omega)
            · rw [hBX, hX, if_neg (by decide), if_neg (by decide)]
              exact hby.keep hfr (by intro hp ad e; cases e; show ¬ B1 = w.heap.size + 1; omega)
          have hXl : X.length = 64 := by rw [hX]; split <;> first | exact HL0.out | exact HL1.out
          have hXb : Bys X := by rw [hX]; split <;> assumption
          have HST := Lib.hid (bst_step x y hlt hX)
          have HXL := Lib.hid hXl
          have hj0 : (0 : Int) ≤ (j : Int) := Int.natCast_nonneg _
          have hj1 : (j : Int) < 2 := by omega
          clear hBX hX hXl
          go_wp2_with fail
          refine (decode_n (some ⟨BX, 0, none⟩) 64 64 X HXL.out hbX (by rw [HXL.out]; decide) hXb).mono ?_
          rintro e w6 ⟨s, rfl, HS, hf6⟩
          have hf7 : Fr F0 wr (w6.alloc (.cells #[.int .i64 s.version, .int .i64 s.epoch, .int .i64 s.blocks, .int .i64 s.counters, .int .i64 s.log, .int .i64 s.head, .int .i64 s.applied] 29)) := hf6.alloc _
          have h7 : (w6.alloc (.cells #[.int .i64 s.version, .int .i64 s.epoch, .int .i64 s.blocks, .int .i64 s.counters, .int .i64 s.log, .int .i64 s.head, .int .i64 s.applied] 29)).heap[w6.heap.size]? = some (.cells s.cells.toArray 29 (0, 0)) := alloc_at rfl _
          have v7 : (w6.alloc (.cells #[.int .i64 s.version, .int .i64 s.epoch, .int .i64 s.blocks, .int .i64 s.counters, .int .i64 s.log, .int .i64 s.head, .int .i64 s.applied] 29)).cell? ⟨w6.heap.size, 0, none⟩ = some (.int .i64 s.version) := by rw [cell_of h7]; rfl
          have b7 : (w6.alloc (.cells #[.int .i64 s.version, .int .i64 s.epoch, .int .i64 s.blocks, .int .i64 s.counters, .int .i64 s.log, .int .i64 s.head, .int .i64 s.applied] 29)).cell? ⟨w.heap.size + 1, 0, none⟩ = some (.int .i64 (bst x y j).version) := by rw [cell_of (hf7.keep0 HBST.out)]; rfl
          have HCS : Hid (∀ i v, s.cells[i]? = some v → (w6.alloc (.cells #[.int .i64 s.version, .int .i64 s.epoch, .int .i64 s.blocks, .int .i64 s.counters, .int .i64 s.log, .int .i64 s.head, .int .i64 s.applied] 29)).cell? ⟨w6.heap.size, 0 + i, none⟩ = some v) := Lib.hid (by
            intro i v hv
            rw [cell_of h7]
            simpa using hv)
          obtain ⟨d, hu, hd⟩ := und_super
          have HU := Lib.hid hu
          have HDD := Lib.hid hd
          have HB7 := Lib.hid (hf7.keep0 HBST.out)
          have HF7 := Lib.hid hf7
          obtain ⟨ev, hev⟩ : ∃ ev, ev = decE X := ⟨_, rfl⟩
          rw [← hev]
          have HEV := Lib.hid hev
          obtain ⟨bv, hbv⟩ : ∃ bv, bv = (bst x y j).version := ⟨_, rfl⟩
          rw [← hbv] at b7
          have HBV := Lib.hid hbv
          clear hu hd hev h7 hf6 hf7 hbX hidx hbv
          by_cases he : ev = 0
          · have hst := HST.out.2 
            rw [← HEV.out] at hst
            have he' : (ev == 0) = true := by simp [he]
            have HE0 := Lib.hid he
            clear he
            by_cases hf0 : f = 0
            · have hf0' : (f != 0) = false := by simp [hf0]
              have HF0 := Lib.hid hf0
              clear hf0
              by_cases hlv : bv < s.version
              · obtain ⟨n1, n2⟩ := hst.1 HE0.out (.inr (by rw [← HBV.out, ← HS.out]; exact hlv))
                have HN1 := Lib.hid n1
                have HN2 := Lib.hid n2
                clear n1 n2 hst
                go_wp2_with ((refine wpList_load_at rfl 29 (.tmp 12) rfl w6.heap.size 0 (by rfl) s.cells d HCS.out HU.out HDD.out size_super ?_; refine wpList_store_at rfl 29 (.tmp 4) (.tmp 53) rfl (w.heap.size + 1) 0 s.cells (by rfl) (by rfl) 29 (bst x y j).cells HB7.out size_super (Nat.le_refl 7) (Sup.one _) ?_))
                go_roundg (2 - (j + 1))
                case measure => omega
                case rel =>
                  refine ⟨j + 1, by omega, rfl, by first | rfl | (go_num), by rw [HN2.out], ?_, (hfr.trans HF7.out (fun _ h => h.elim)).setRow (by exact .inl rfl) _⟩
                  rw [HN1.out, ← HS.out, setRow_heap _ (w.heap.size + 1) _ _ _ _ HB7.out, splat_all (bst x y j).cells s.cells rfl]
              · obtain ⟨n1, n2⟩ := hst.2 HE0.out (by rw [← HFD.out]; exact HF0.out) (by rw [← HBV.out, ← HS.out]; omega)
                have HN1 := Lib.hid n1
                have HN2 := Lib.hid n2
                have hlv' : decide (bv < s.version) = false := by simpa using hlv
                clear n1 n2 hst
                go_wp2_with fail
                go_roundg (2 - (j + 1))
                case measure => omega
                case rel =>
                  exact ⟨j + 1, by omega, rfl, by first | rfl | (go_num), by rw [HN2.out, HFD.out], by rw [HN1.out]; exact HB7.out, hfr.then0 HF7.out⟩
            · have hf0' : (f != 0) = true := by simp [hf0]
              obtain ⟨n1, n2⟩ := hst.1 HE0.out (.inl (by rw [← HFD.out]; exact hf0))
              have HN1 := Lib.hid n1
              have HN2 := Lib.hid n2
              clear n1 n2 hst hf0
              go_wp2_with ((refine wpList_load_at rfl 29 (.tmp 12) rfl w6.heap.size 0 (by rfl) s.cells d HCS.out HU.out HDD.out size_super ?_; refine wpList_store_at rfl 29 (.tmp 4) (.tmp 53) rfl (w.heap.size + 1) 0 s.cells (by rfl) (by rfl) 29 (bst x y j).cells HB7.out size_super (Nat.le_refl 7) (Sup.one _) ?_))
              go_roundg (2 - (j + 1))
              case measure => omega
              case rel =>
                refine ⟨j + 1, by omega, rfl, by first | rfl | (go_num), by rw [HN2.out], ?_, (hfr.trans HF7.out (fun _ h => h.elim)).setRow (by exact .inl rfl) _⟩
                rw [HN1.out, ← HS.out, setRow_heap _ (w.heap.size + 1) _ _ _ _ HB7.out, splat_all (bst x y j).cells s.cells rfl]
          · obtain ⟨n1, n2⟩ := HST.out.1 (by rw [← HEV.out]; exact he)
            have HN1 := Lib.hid n1
            have HN2 := Lib.hid n2
            have he' : (ev == 0) = false := by simp [he]
            clear n1 n2 he
            go_wp2_with fail
            go_roundg (2 - (j + 1))
            case measure => omega
            case rel =>
              exact ⟨j + 1, by omega, rfl, by first | rfl | (go_num), by rw [HN2.out, HFD.out], by rw [HN1.out]; exact HB7.out, hfr.then0 HF7.out⟩
        · have hj2 : j = 2 := by omega
          subst hj2
          have HB2 : Hid (wr.heap[w.heap.size + 1]? = some (.cells (pickS x y).cells.toArray 29 (0, 0))) := HBST
          have hfe : f = pickE x y := HFD.out
          have HFE := Lib.hid hfe
          have R0r := Lib.hid (hfr.keep R05.out (by omega))
          obtain ⟨d, hu, hd⟩ := und_super
          have HU := Lib.hid hu
          have HDD := Lib.hid hd
          have HCS : Hid (∀ i v, (pickS x y).cells[i]? = some v → wr.cell? ⟨w.heap.size + 1, 0 + i, none⟩ = some v) := Lib.hid (by
            intro i v hv
            rw [cell_of HB2.out]
            simpa using hv)
          clear hu hd hfe
          go_wp2_with (first | (refine wpList_load_at rfl 29 (.tmp 4) rfl (w.heap.size + 1) 0 (by rfl) (pickS x y).cells d HCS.out HU.out HDD.out size_super ?_) | (refine wpList_store_at rfl 29 (.tmp 2) (.tmp 55) rfl w.heap.size 0 (pickS x y).cells (by rfl) (by rfl) 29 Sup.zero.cells R0r.out size_super (Nat.le_refl 7) (Sup.one _) ?_))
          refine sup_ret (b := w.heap.size) (t := 29) (s := pickS x y) Tryd.results22 (by rfl) (by rfl) rfl ?_ ⟨by rw [HFE.out], (H5.out.trans hfr (S := F0) (by intro k hk; exact .inr (by omega))).setRow (by exact .inr (Nat.le_refl _)) _⟩
          rw [setRow_heap _ w.heap.size _ _ _ _ R0r.out, splat_all Sup.zero.cells (pickS x y).cells rfl]
    · have hE : D.loadE = D.may 1 := by unfold Dev.loadE; rw [if_neg (by rw [m0]; decide), if_pos m1]
      have hS : D.loadS = Sup.zero := by unfold Dev.loadS; rw [if_neg (by rw [m0]; decide), if_pos m1]
      have HE := Lib.hid hE
      have HS := Lib.hid hS
      have hne : (D.may 1 != 0) = true := by simpa using m1
      have HM1 := Lib.hid m1
      obtain ⟨hg, hp⟩ := may_ok m0
      have HG := Lib.hid hg
      clear hE hS m1 m0 hg
      go_enter Tryd.func22, Tryd.ntmps22
      go_wp2_with fail
      generalize (((w.alloc (.cells #[.int .i64 0, .int .i64 0, .int .i64 0, .int .i64 0, .int .i64 0, .int .i64 0, .int .i64 0] 29)).alloc (.cells #[.int .i64 0, .int .i64 0, .int .i64 0, .int .i64 0, .int .i64 0, .int .i64 0, .int .i64 0] 29)).alloc (.cells #[.slice none 0 0, .slice none 0 0] 110)) = w1 at *
      refine wp_loop_rounds 3 ?_
      rw [rounds_succ]
      go_wp2_with fail
      refine (read_c (HH.out.keep0 H1.out) HG.out 0 (by omega)).mono ?_
      rintro e w2 ⟨b0, t0, rfl, hb0, hc0, hf2⟩
      have hz1 := H1.out.size
      have R02 := Lib.hid (hf2.keep0 R0.out)
      have hr2 := hf2.keep0 R2.out
      have HR2 := Lib.hid hr2
      have q0 : w2.cell? ⟨w.heap.size + 2, 0, none⟩ = some (.slice none 0 0) := by rw [cell_of hr2]; rfl
      have q1 := free_of hr2 0
      have HF2 := Lib.hid hf2
      clear hr2 hf2 hc0
      go_wp2_with fail
      have hf3 : Fr F0 w (w2.setCell ⟨w.heap.size + 2, 0, none⟩ (.slice (some ⟨b0, 0, none⟩) 64 64)) := (H1.out.then0 HF2.out).setCell (by exact .inr (by simp)) _
      have r03 : (w2.setCell ⟨w.heap.size + 2, 0, none⟩ (.slice (some ⟨b0, 0, none⟩) 64 64)).heap[w.heap.size]? = some (.cells Sup.zero.cells.toArray 29 (0, 0)) := keep_setCell R02.out (by simp) _
      generalize w2.setCell ⟨w.heap.size + 2, 0, none⟩ (.slice (some ⟨b0, 0, none⟩) 64 64) = w3 at *
      have H3 := Lib.hid hf3
      have R03 := Lib.hid r03
      clear hf3 r03 q0 q1
      rw [rounds_succ]
      go_wp2_with fail
      refine (read_no (HH.out.keep0 H3.out) 1 HM1.out).mono ?_
      rintro e w4 ⟨rfl, rfl⟩
      go_wp2_with (refine wpList_store_at rfl 29 (.tmp 2) (.tmp 25) rfl w.heap.size 0 Sup.zero.cells (by rfl) (by rfl) 29 Sup.zero.cells R03.out size_super (by decide) (Sup.one _) ?_)
      refine sup_ret (b := w.heap.size) (t := 29) Tryd.results22 (by rfl) (by rfl) rfl ?_ ⟨by rw [HE.out, HS.out], H3.out.setRow (by exact .inr (Nat.le_refl _)) _⟩
      rw [setRow_heap w3 w.heap.size _ _ _ _ R03.out, splat_all _ _ rfl]
  · have hE : D.loadE = D.may 0 := by unfold Dev.loadE; rw [if_pos m0]
    have hS : D.loadS = Sup.zero := by unfold Dev.loadS; rw [if_pos m0]
    have HE := Lib.hid hE
    have HS := Lib.hid hS
    have hne : (D.may 0 != 0) = true := by simpa using m0
    have HM0 := Lib.hid m0
    clear hE hS m0
    go_enter Tryd.func22, Tryd.ntmps22
    go_wp2_with fail
    generalize (((w.alloc (.cells #[.int .i64 0, .int .i64 0, .int .i64 0, .int .i64 0, .int .i64 0, .int .i64 0, .int .i64 0] 29)).alloc (.cells #[.int .i64 0, .int .i64 0, .int .i64 0, .int .i64 0, .int .i64 0, .int .i64 0, .int .i64 0] 29)).alloc (.cells #[.slice none 0 0, .slice none 0 0] 110)) = w1 at *
    refine wp_loop_rounds 3 ?_
    rw [rounds_succ]
    go_wp2_with fail
    refine (read_no (HH.out.keep0 H1.out) 0 HM0.out).mono ?_
    rintro e w2 ⟨rfl, rfl⟩
    go_wp2_with (refine wpList_store_at rfl 29 (.tmp 2) (.tmp 25) rfl w.heap.size 0 Sup.zero.cells (by rfl) (by rfl) 29 Sup.zero.cells R0.out size_super (by decide) (Sup.one _) ?_)
    refine sup_ret (b := w.heap.size) (t := 29) Tryd.results22 (by rfl) (by rfl) rfl ?_ ⟨by rw [HE.out, HS.out], H1.out.setRow (by exact .inr (Nat.le_refl _)) _⟩
    rw [setRow_heap w1 w.heap.size _ _ _ _ R0.out, splat_all _ _ rfl]
end
end Go.Proofs.YtdeckbdaencjnaaDoor
