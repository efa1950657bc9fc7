/-
  SuperTurns: the walk. Conditions: none.
-/
import Derived.Test.YtdeckbdaencjnaaDoorL8b
import Derived.Test.YtdeckbdaencjnaaDoorFree
import Derived.Deep.OwnRows
import Derived.Laws.BytesArg
set_option linter.unusedVariables false
set_option linter.unusedSimpArgs false
namespace Go.Proofs.YtdeckbdaencjnaaDoor
open Go.RowKit

def turns (h : Int) (j : Nat) : Sup := ⟨j, 0, 0, 0, 1, h, 0⟩
/-- Saved j times. -/
structure TurnsAt (h : Int) (j : Nat) (D : Dev) (l : List (List Int)) : Prop where
  calm : Calm D l
  len : l.length = 6
  first : j = 0 → l = List.replicate 6 zsec
  two : 0 < j → Two l (turns h j)
  rest : l.getD 2 [] = zsec
  budget : D.budget = -1
  spent : D.spent = 2 * j
theorem TurnsAt.start (h : Int) : TurnsAt h 0 (Dev.new 6) (List.replicate 6 zsec) := ⟨Dev.new_calm 6, rfl, fun _ => rfl, fun h => absurd h (by omega), rfl, rfl, rfl⟩
theorem turns_good {h : Int} {j : Nat} (h0 : 0 ≤ h) (h1 : h < 65536) (hj : j ≤ 16) : (turns h j).good = true := by
  have hs : (turns h j).Sane := by
    simp only [Sup.Sane, turns]
    omega
  have hv : (turns h j).version < 281474976710656 := by simp only [turns]; omega
  simp [Sup.good, Sup.sane, hs, hv]
theorem TurnsAt.step {h : Int} {j : Nat} {D : Dev} {l : List (List Int)} (T : TurnsAt h j D l) (h0 : 0 ≤ h) (h1 : h < 65536) (hj : j < 16) :
    D.saveE (turns h j) = 0 ∧ D.saveS (turns h j) = turns h (j + 1) ∧ TurnsAt h (j + 1) (D.save (turns h j)) (l.set ((turns h (j + 1)).version % 2).toNat (turns h (j + 1)).enc) := by
  have hg := turns_good h0 h1 (show j ≤ 16 by omega)
  have hl : 2 ≤ l.length := by rw [T.len]; decide
  have hn : (turns h j).next = turns h (j + 1) := by simp [Sup.next, turns]
  obtain ⟨a, b, c, d⟩ := T.calm.save_2 hl (by rw [T.budget]; decide) (by rw [T.budget]; decide) hg
  have hs := ((Sup.good_iff _).1 hg).2
  rw [hn] at b hs
  refine ⟨a, by simp [Dev.saveS, a, hn], b, by simpa using T.len, fun h => by omega, fun _ => ?_, ?_, ?_, ?_⟩
  · by_cases hz : j = 0
    · rw [T.first hz]
      exact Two.first (by decide) hs
    · exact (T.two (by omega)).next hs (by show ((j + 1 : Nat) : Int) = (j : Int) + 1; omega)
  · have : ((turns h (j + 1)).version % 2).toNat ≠ 2 := by omega
    have hr := T.rest
    rw [List.getD_eq_getElem?_getD, List.getElem?_set_ne this, ← List.getD_eq_getElem?_getD]
    exact hr
  · rw [c, T.budget]; decide
  · rw [d, T.spent]
    unfold wrap64; omega
theorem madez : madeCells #[Value.int .u8 0] 64 = cellsOf zsec := by
  apply Array.ext
  · simp [madeCells, cellsOf, zsec_len]
  · intro i h1 h2
    have hr : ∀ x ∈ cellsOf zsec, x = Value.int .u8 0 := by
      intro x hx
      simp only [cellsOf, List.mem_toArray, List.mem_map] at hx
      obtain ⟨y, hy, rfl⟩ := hx
      rw [zsec_mem hy]
    rw [hr _ (Array.getElem_mem h2)]
    simp [madeCells, Nat.mod_one]
section
variable {w : World}
theorem make_z (W : World) : (Instr.makeSlice 24 (.int .i64 64) (.int .i64 64)).run Tryd.prog W = .ok (.slice (some ⟨W.heap.size, 0, none⟩) 64 64) (W.alloc (.cells (cellsOf zsec) 5)) := by
  have := run_make_row' (P := Tryd.prog) 24 5 (.int .u8 0) 1 und_bytes info_u8 rfl .i64 .i64 64 (by decide) (by decide) W
  rw [madez] at this
  exact this
theorem z_at (W : World) : BytesAt (W.alloc (.cells (cellsOf zsec) 5)) (some ⟨W.heap.size, 0, none⟩) 64 zsec := by
  have := BytesAt.of_block (w := W.alloc (.cells (cellsOf zsec) 5)) (b := W.heap.size) (t := 5) (fr := (0, 0)) (xs := zsec) (alloc_at rfl _)
  rwa [zsec_len] at this
theorem und_str : Tryd.prog.underlying 9 = some .string := by kernel_rfl

theorem sup_cells {b : Nat} {t : TypeId} {s : Sup} (h : w.heap[b]? = some (.cells s.cells.toArray t (0, 0))) : w.cell? ⟨b, 0, none⟩ = some (.int .i64 s.version) ∧ w.cell? ⟨b, 1, none⟩ = some (.int .i64 s.epoch) ∧ w.cell? ⟨b, 2, none⟩ = some (.int .i64 s.blocks) ∧
    w.cell? ⟨b, 3, none⟩ = some (.int .i64 s.counters) ∧ w.cell? ⟨b, 4, none⟩ = some (.int .i64 s.log) ∧ w.cell? ⟨b, 5, none⟩ = some (.int .i64 s.head) ∧ w.cell? ⟨b, 6, none⟩ = some (.int .i64 s.applied) := by
  refine ⟨?_, ?_, ?_, ?_, ?_, ?_, ?_⟩ <;> (rw [cell_of h]; rfl)
structure TurnsIn (h : Int) (db lb mb sb : Nat) (j : Nat) (w1 wr : World) : Prop where
  ex : ∃ D l, DevAt Tryd.prog 3 wr db lb mb D ∧ TurnsAt h j D l
  s : wr.heap[sb]? = some (.cells (turns h j).cells.toArray 29 (0, 0))
  fr : Fr (fun k => k = db ∨ k = lb ∨ k = mb ∨ k = sb) w1 wr

set_option maxRecDepth 100000 in
set_option maxHeartbeats 4000000 in
theorem turns_walk (n hd : Int) : Calls Tryd.prog 5 #[.int .i64 n, .int .i64 hd] w fun e w' => e = .returned (.bool true) ∧ Fr F0 w w' := by
  obtain ⟨h, hh⟩ : ∃ h, h = hd % 65536 := ⟨_, rfl⟩
  obtain ⟨m, hm⟩ : ∃ m : Nat, (m : Int) = n % 16 := ⟨(n % 16).toNat, by omega⟩
  have h0 : 0 ≤ h := by omega
  have h1 : h < 65536 := by omega
  have m0 : (0 : Int) ≤ (m : Int) := Int.natCast_nonneg _
  have m16 : m ≤ 15 := by omega
  have hx : bits .and .i64 hd 65535 = h := by rw [hh]; exact i64_and hd 16 (by decide)
  have hy : bits .and .i64 n 15 = (m : Int) := by rw [hm]; exact i64_and n 4 (by decide)
  clear hh hm
  obtain ⟨du, hu, hdd⟩ := und_super
  have HU := Lib.hid hu
  have HDD := Lib.hid hdd
  clear hu hdd
  go_enter Tryd.func5, Tryd.ntmps5
  go_wp2_with fail
  refine (awake_c _).mono ?_
  rintro e w1 ⟨rfl, hf1⟩
  go_wp2_with fail
  refine (new_c 6 (by decide) (by decide) _).mono ?_
  rintro e w2 ⟨db, lb, mb, rfl, hD2, n1, n2, n3, hf2⟩
  have hF2 := hf1.then0 hf2
  have hnd : NewDev w db lb mb := ⟨Nat.le_trans hf1.size n1, Nat.le_trans hf1.size n2, Nat.le_trans hf1.size n3⟩
  have hlt2 := hD2.lt
  go_wp2_with fail
  have hA3 : (w2.alloc (.cells #[.int .i64 0, .int .i64 0, .int .i64 0, .int .i64 0, .int .i64 1, .int .i64 h, .int .i64 0] 29)).heap[w2.heap.size]? = some (.cells (turns h 0).cells.toArray 29 (0, 0)) := alloc_at rfl _
  have hF3 : Fr F0 w2 (w2.alloc (.cells #[.int .i64 0, .int .i64 0, .int .i64 0, .int .i64 0, .int .i64 1, .int .i64 h, .int .i64 0] 29)) := (Fr.refl _ _).alloc _
  have T0 : TurnsIn h db lb mb w2.heap.size 0 w2 (w2.alloc (.cells #[.int .i64 0, .int .i64 0, .int .i64 0, .int .i64 0, .int .i64 1, .int .i64 h, .int .i64 0] 29)) := ⟨⟨_, _, hD2.keep0 hF3, TurnsAt.start h⟩, hA3, hF3.of0⟩
  clear hA3 hF3
  have HF2 := Lib.hid hF2
  have HD2 := Lib.hid hD2
  clear hF2 hD2
  go_loopg [10] (m + 1) (fun kq v wr => ∃ j : Nat, j ≤ m + 1 ∧ kq = m + 1 - j ∧ v = .int .i64 (j : Int) ∧ TurnsIn h db lb mb w2.heap.size j w2 wr)
  case atStart => exact ⟨0, by omega, rfl, rfl, T0⟩
  case round =>
    obtain ⟨j, hj, rfl, rfl, ⟨⟨D, l, hD, hT⟩, hS, hfr⟩⟩ := hrel
    have HS := Lib.hid hS
    have HD := Lib.hid hD
    have HFR := Lib.hid hfr
    have hz := hfr.size
    have hzs := lt_of_block hS
    have HCS : Hid (∀ i v, (turns h j).cells[i]? = some v → wr.cell? ⟨w2.heap.size, 0 + i, none⟩ = some v) := Lib.hid (by
      intro i v hv
      rw [cell_of HS.out]
      simpa using hv)
    have hj0 : (0 : Int) ≤ (j : Int) := Int.natCast_nonneg _
    have hlt := hD.lt
    clear hS hD hfr
    by_cases hlk : j < m + 1
    · have hj1 : (j : Int) < 1 + (m : Int) := by omega
      obtain ⟨y1, y2, y3⟩ := hT.step h0 h1 (by omega)
      have Y1 := Lib.hid y1
      have Y2 := Lib.hid y2
      have Y3 := Lib.hid y3
      clear y1 y2 y3
      go_wp2_with (refine wpList_load_at rfl 29 (.tmp 8) rfl w2.heap.size 0 (by rfl) (turns h j).cells du HCS.out HU.out HDD.out size_super ?_)
      refine (save_n HD.out (turns h j)).mono ?_
      rintro e w4 ⟨x, rfl, hx, hD4, hf4⟩
      rw [Y1.out]
      obtain rfl := hx.out.trans Y2.out
      have hS4 := hf4.keep HS.out (by rintro (h' | h' | h') <;> omega)
      have hz4 := hf4.size
      have h7 : (w4.alloc (.cells #[.int .i64 (turns h (j + 1)).version, .int .i64 (turns h (j + 1)).epoch, .int .i64 (turns h (j + 1)).blocks, .int .i64 (turns h (j + 1)).counters, .int .i64 (turns h (j + 1)).log, .int .i64 (turns h (j + 1)).head, .int .i64 (turns h (j + 1)).applied] 29)).heap[w4.heap.size]? = some (.cells (turns h (j + 1)).cells.toArray 29 (0, 0)) := alloc_at rfl _
      have v7 : (w4.alloc (.cells #[.int .i64 (turns h (j + 1)).version, .int .i64 (turns h (j + 1)).epoch, .int .i64 (turns h (j + 1)).blocks, .int .i64 (turns h (j + 1)).counters, .int .i64 (turns h (j + 1)).log, .int .i64 (turns h (j + 1)).head, .int .i64 (turns h (j + 1)).applied] 29)).cell? ⟨w4.heap.size, 0, none⟩ = some (.int .i64 ((j : Int) + 1)) := by rw [cell_of h7]; rfl
      have HC7 : Hid (∀ i v, (turns h (j + 1)).cells[i]? = some v → (w4.alloc (.cells #[.int .i64 (turns h (j + 1)).version, .int .i64 (turns h (j + 1)).epoch, .int .i64 (turns h (j + 1)).blocks, .int .i64 (turns h (j + 1)).counters, .int .i64 (turns h (j + 1)).log, .int .i64 (turns h (j + 1)).head, .int .i64 (turns h (j + 1)).applied] 29)).cell? ⟨w4.heap.size, 0 + i, none⟩ = some v) := Lib.hid (by
        intro i v hv
        rw [cell_of h7]
        simpa using hv)
      have f7 : Fr F0 w4 (w4.alloc (.cells #[.int .i64 (turns h (j + 1)).version, .int .i64 (turns h (j + 1)).epoch, .int .i64 (turns h (j + 1)).blocks, .int .i64 (turns h (j + 1)).counters, .int .i64 (turns h (j + 1)).log, .int .i64 (turns h (j + 1)).head, .int .i64 (turns h (j + 1)).applied] 29)) := (Fr.refl _ _).alloc _
      have HS7 := Lib.hid (f7.keep0 hS4)
      have HD7 := Lib.hid (hD4.keep0 f7)
      have HF7 := Lib.hid ((HFR.out.trans hf4 (by intro i hi; rcases hi with h' | h' | h' <;> omega)).then0 f7)
      clear h7 f7 hf4 hS4 hD4 hx
      go_wp2_with ((refine wpList_load_at rfl 29 (.tmp 11) rfl w4.heap.size 0 (by rfl) (turns h (j + 1)).cells du HC7.out HU.out HDD.out size_super ?_; refine wpList_store_at rfl 29 (.tmp 8) (.tmp 52) rfl w2.heap.size 0 (turns h (j + 1)).cells (by rfl) (by rfl) 29 (turns h j).cells HS7.out size_super (Nat.le_refl 7) (Sup.one _) ?_))
      go_roundg (m + 1 - (j + 1))
      case measure => omega
      case rel =>
        refine ⟨j + 1, by omega, rfl, by first | rfl | (go_num), ⟨⟨_, _, HD7.out.keep ((Fr.refl (fun k => k = w2.heap.size) _).setRow (.inl rfl) _) (by omega) (by omega) (by omega), Y3.out⟩, ?_, (HF7.out.setRow (by exact .inl (.inr (.inr (.inr rfl)))) _)⟩⟩
        rw [setRow_heap _ w2.heap.size _ _ _ _ HS7.out, splat_all (turns h j).cells (turns h (j + 1)).cells rfl]
    · have je : Hid ((j : Int) = 1 + (m : Int)) := Lib.hid (by omega)
      have hjn : ¬ ((j : Int) < 1 + (m : Int)) := by omega
      have T2 := hT.two (by omega)
      have hver : wr.cell? ⟨w2.heap.size, 0, none⟩ = some (.int .i64 (j : Int)) := by rw [cell_of HS.out]; rfl
      have hlen : D.laid.length = 6 := by rw [hT.calm.laid]; exact hT.len
      have hgone := hT.calm.gone
      have hhas : D.at (j % 2) = (turns h j).enc := by
        rw [hT.calm.at (j % 2)]
        have := T2.has
        rwa [show ((turns h j).version % 2).toNat = j % 2 by show ((j : Int) % 2).toNat = j % 2; omega] at this
      have hrest : D.at 2 = zsec := by rw [hT.calm.at 2]; exact hT.rest
      have hld := hT.calm.load_two T2
      have hspent : D.spent = 2 * (1 + (m : Int)) := by rw [← je.out]; exact hT.spent
      have hbys := calm_bys hT.calm (by rw [hT.len]; decide) T2.bys
      have hdec := (turns h j).dec_enc T2.sane
      have LEN := Lib.hid hlen
      have HGO := Lib.hid hgone
      have HHAS := Lib.hid hhas
      have HREST := Lib.hid hrest
      have HLD := Lib.hid hld
      have HSP := Lib.hid hspent
      have HBYS := Lib.hid hbys
      have HDEC := Lib.hid hdec
      have r1 := read_n HD.out hgone (j % 2) (by rw [hlen]; omega)
      rw [show ((j % 2 : Nat) : Int) = (j : Int) % 2 by omega, hhas] at r1
      clear hlk hlen hgone hhas hrest hld hspent hbys hdec T2 hT
      go_wp2_with fail
      refine r1.mono ?_
      rintro e w5 ⟨b5, rfl, hb5, hB5, hf5⟩
      clear r1 hver
      go_wp2_with fail
      refine (decode_n (some ⟨b5, 0, none⟩) 64 64 (turns h j).enc (Sup.enc_len _) hB5 (by rw [Sup.enc_len]; decide) (Sup.enc_bys _)).mono ?_
      rintro e w6 ⟨s6, rfl, hs6, hf6⟩
      rw [HDEC.out.1]
      obtain rfl := hs6.out.trans (show decS (turns h j).enc = turns h j by unfold decS; rw [if_pos HDEC.out.1, HDEC.out.2])
      have HFA := Lib.hid (hf5.then0 hf6)
      have c7 : (w6.alloc (.cells #[.int .i64 (turns h j).version, .int .i64 (turns h j).epoch, .int .i64 (turns h j).blocks, .int .i64 (turns h j).counters, .int .i64 (turns h j).log, .int .i64 (turns h j).head, .int .i64 (turns h j).applied] 29)).heap[w6.heap.size]? = some (.cells (turns h j).cells.toArray 29 (0, 0)) := alloc_at rfl _
      have f7 : Fr F0 w6 (w6.alloc (.cells #[.int .i64 (turns h j).version, .int .i64 (turns h j).epoch, .int .i64 (turns h j).blocks, .int .i64 (turns h j).counters, .int .i64 (turns h j).log, .int .i64 (turns h j).head, .int .i64 (turns h j).applied] 29)) := (Fr.refl _ _).alloc _
      have HC7 := Lib.hid c7
      have HF7 := Lib.hid (HFA.out.then0 f7)
      clear hf5 hf6 hB5 hs6 c7 f7
      go_wp2_with fail
      refine (load_n (HD.out.keep0 HF7.out) HBYS.out).mono ?_
      rintro e w8 ⟨s8, rfl, hs8, hf8⟩
      rw [HLD.out.1]
      obtain rfl := hs8.out.trans HLD.out.2
      have HC8 := Lib.hid (hf8.keep0 HC7.out)
      have HF8 := Lib.hid (HF7.out.then0 hf8)
      clear hf8 hs8
      have c9 : (w8.alloc (.cells #[.int .i64 (turns h j).version, .int .i64 (turns h j).epoch, .int .i64 (turns h j).blocks, .int .i64 (turns h j).counters, .int .i64 (turns h j).log, .int .i64 (turns h j).head, .int .i64 (turns h j).applied] 29)).heap[w8.heap.size]? = some (.cells (turns h j).cells.toArray 29 (0, 0)) := alloc_at rfl _
      have f9 : Fr F0 w8 (w8.alloc (.cells #[.int .i64 (turns h j).version, .int .i64 (turns h j).epoch, .int .i64 (turns h j).blocks, .int .i64 (turns h j).counters, .int .i64 (turns h j).log, .int .i64 (turns h j).head, .int .i64 (turns h j).applied] 29)) := (Fr.refl _ _).alloc _
      have HC9 := Lib.hid c9
      have HC79 := Lib.hid (f9.keep0 HC8.out)
      have HF9 := Lib.hid (HF8.out.then0 f9)
      clear c9 f9
      go_wp2_with fail
      refine (read_n (HD.out.keep0 HF9.out) HGO.out 2 (by rw [LEN.out]; decide)).mono ?_
      rintro e w10 ⟨b10, rfl, hb10, hB10, hf10⟩
      rw [HREST.out] at hB10
      have hZ10 : BytesAt w10 (some ⟨b10, 0, none⟩) 64 zsec := by
        have := hB10.at_
        rwa [zsec_len] at this
      have Z10 := Lib.hid hZ10
      have C6 := Lib.hid (hf10.keep0 HC79.out)
      have C8 := Lib.hid (hf10.keep0 HC9.out)
      have HFE := Lib.hid (HF9.out.then0 hf10)
      have CS := Lib.hid (HFE.out.keep0 HS.out)
      have D10 := Lib.hid (HD.out.keep0 HFE.out)
      clear hf10 hB10 hZ10
      have mi : (m : Int) ≤ 15 := by omega
      have HFE' := Lib.hid (HFR.out.then0 HFE.out)
      go_wp2_with fail
      refine wp_region_free (S := F0) [false, false, false, false, true, false, false, false, false, false, false, false, false, false, false, false, false, false, false, false, false, false, false, false, false, false, false, false, false, false, false, false, false, false, false, false, false, false, false, false, false, false, false, false, false, false, false, false, false, false, false, false, false, false, false, false, false, false, false, false, false, false, false, false, false, false, false, false, false, false, false, false, false, false, false, false, true, true, true, true, true, true, true, true, true, true, true, true, true, true, true, true, true, true, true, true, true, true, true, true, true, true, true, true, true, true, true, true, true, true, true, true, true, true, true, true, true] [.eq (.bool true), .eq (.bool true), .eq (.int .i64 0), .eq (.bool true), .eq (.bool true), .eq (.bool true), .eq (.int .i64 0), .eq (.bool true), .eq (.bool true), .eq (.bool true), .eq (.int .i64 0), .eq (.bool true), .eq (.bool true), .eq (.bool true), .eq (.int .i64 0), .eq (.bool true), .eq (.bool true), .eq (.bool true), .eq (.agg #[.int .i64 (turns h j).version, .int .i64 (turns h j).epoch, .int .i64 (turns h j).blocks, .int .i64 (turns h j).counters, .int .i64 (turns h j).log, .int .i64 (turns h j).head, .int .i64 (turns h j).applied]), .eq (.agg #[.int .i64 (turns h j).version, .int .i64 (turns h j).epoch, .int .i64 (turns h j).blocks, .int .i64 (turns h j).counters, .int .i64 (turns h j).log, .int .i64 (turns h j).head, .int .i64 (turns h j).applied]), .eq (.bool true), .eq (.bool true), .eq (.bool true), .eq (.agg #[.int .i64 (turns h j).version, .int .i64 (turns h j).epoch, .int .i64 (turns h j).blocks, .int .i64 (turns h j).counters, .int .i64 (turns h j).log, .int .i64 (turns h j).head, .int .i64 (turns h j).applied]), .eq (.agg #[.int .i64 (turns h j).version, .int .i64 (turns h j).epoch, .int .i64 (turns h j).blocks, .int .i64 (turns h j).counters, .int .i64 (turns h j).log, .int .i64 (turns h j).head, .int .i64 (turns h j).applied]), .eq (.bool true), .eq (.bool true), .eq (.bool true), .eq (.slice (some ⟨b10, 0, none⟩) 64 64), .eq (.string (strOfNums zsec)), ⟨fun v w' => ∃ b, v = .slice (some ⟨b, 0, none⟩) 64 64 ∧ BytesAt w' (some ⟨b, 0, none⟩) 64 zsec, fun v w' w'' ⟨b, h1, h2⟩ hf => ⟨b, h1, h2.keep0 hf⟩⟩, .eq (.string (strOfNums zsec)), .eq (.bool true), .eq (.bool true), .eq (.bool true), .eq (.pointer (some ⟨db, 0, none⟩)), .eq (.int .i64 (2 * (1 + (m : Int)))), .eq (.int .i64 (1 + (m : Int))), .eq (.int .i64 (2 * (1 + (m : Int)))), .eq (.bool true), .eq (.bool true), .eq (.bool true)] (by kernel_rfl) (by kernel_rfl) (by rfl) (fun us => ?steps) (fun us wz hG hall => ?fin)
      case steps =>
        simp only [fillL, Nat.reduceAdd]
        refine stepsHold.cons (fun wx hG hd K hK => ?_) ?_
        · rw [if_pos (wanted_none rfl)]
          refine wp_value (w2 := wx) (v := .bool true) ?_ (hK _ _ rfl (Fr.refl _ _))
          clear hd hG hK
          go_simp
        refine stepsHold.cons (fun wx hG hd K hK => ?_) ?_
        · have h76 : us 76 = (.bool true) := deps_get hd 0 rfl rfl rfl rfl rfl
          rw [if_pos (wanted_none rfl)]
          refine wp_value (w2 := wx) (v := .bool true) ?_ (hK _ _ rfl (Fr.refl _ _))
          clear hd hG hK
          go_simp
        refine stepsHold.cons (fun wx hG hd K hK => ?_) ?_
        · have h77 : us 77 = (.bool true) := deps_get hd 0 rfl rfl rfl rfl rfl
          rw [if_pos (wanted_yes rfl rfl rfl rfl h77)]
          refine wp_value (w2 := wx) (v := .int .i64 0) ?_ (hK _ _ rfl (Fr.refl _ _))
          clear hd hG hK
          go_simp
        refine stepsHold.cons (fun wx hG hd K hK => ?_) ?_
        · have h78 : us 78 = (.int .i64 0) := deps_get hd 0 rfl rfl rfl rfl rfl
          have h77 : us 77 = (.bool true) := deps_get hd 1 rfl rfl rfl rfl rfl
          rw [if_pos (wanted_yes rfl rfl rfl rfl h77)]
          refine wp_value (w2 := wx) (v := .bool true) ?_ (hK _ _ rfl (Fr.refl _ _))
          clear hd hG hK
          go_simp
        refine stepsHold.cons (fun wx hG hd K hK => ?_) ?_
        · have h77 : us 77 = (.bool true) := deps_get hd 0 rfl rfl rfl rfl rfl
          have h79 : us 79 = (.bool true) := deps_get hd 1 rfl rfl rfl rfl rfl
          rw [if_pos (wanted_none rfl)]
          refine wp_value (w2 := wx) (v := .bool true) ?_ (hK _ _ rfl (Fr.refl _ _))
          clear hd hG hK
          go_simp
        refine stepsHold.cons (fun wx hG hd K hK => ?_) ?_
        · have h80 : us 80 = (.bool true) := deps_get hd 0 rfl rfl rfl rfl rfl
          rw [if_pos (wanted_none rfl)]
          refine wp_value (w2 := wx) (v := .bool true) ?_ (hK _ _ rfl (Fr.refl _ _))
          clear hd hG hK
          go_simp
        refine stepsHold.cons (fun wx hG hd K hK => ?_) ?_
        · have h81 : us 81 = (.bool true) := deps_get hd 0 rfl rfl rfl rfl rfl
          rw [if_pos (wanted_yes rfl rfl rfl rfl h81)]
          refine wp_value (w2 := wx) (v := .int .i64 0) ?_ (hK _ _ rfl (Fr.refl _ _))
          clear hd hG hK
          go_simp
        refine stepsHold.cons (fun wx hG hd K hK => ?_) ?_
        · have h82 : us 82 = (.int .i64 0) := deps_get hd 0 rfl rfl rfl rfl rfl
          have h81 : us 81 = (.bool true) := deps_get hd 1 rfl rfl rfl rfl rfl
          rw [if_pos (wanted_yes rfl rfl rfl rfl h81)]
          refine wp_value (w2 := wx) (v := .bool true) ?_ (hK _ _ rfl (Fr.refl _ _))
          clear hd hG hK
          go_simp
        refine stepsHold.cons (fun wx hG hd K hK => ?_) ?_
        · have h81 : us 81 = (.bool true) := deps_get hd 0 rfl rfl rfl rfl rfl
          have h83 : us 83 = (.bool true) := deps_get hd 1 rfl rfl rfl rfl rfl
          rw [if_pos (wanted_none rfl)]
          refine wp_value (w2 := wx) (v := .bool true) ?_ (hK _ _ rfl (Fr.refl _ _))
          clear hd hG hK
          go_simp
        refine stepsHold.cons (fun wx hG hd K hK => ?_) ?_
        · have h84 : us 84 = (.bool true) := deps_get hd 0 rfl rfl rfl rfl rfl
          rw [if_pos (wanted_none rfl)]
          refine wp_value (w2 := wx) (v := .bool true) ?_ (hK _ _ rfl (Fr.refl _ _))
          clear hd hG hK
          go_simp
        refine stepsHold.cons (fun wx hG hd K hK => ?_) ?_
        · have h85 : us 85 = (.bool true) := deps_get hd 0 rfl rfl rfl rfl rfl
          rw [if_pos (wanted_yes rfl rfl rfl rfl h85)]
          refine wp_value (w2 := wx) (v := .int .i64 0) ?_ (hK _ _ rfl (Fr.refl _ _))
          clear hd hG hK
          go_simp
        refine stepsHold.cons (fun wx hG hd K hK => ?_) ?_
        · have h86 : us 86 = (.int .i64 0) := deps_get hd 0 rfl rfl rfl rfl rfl
          have h85 : us 85 = (.bool true) := deps_get hd 1 rfl rfl rfl rfl rfl
          rw [if_pos (wanted_yes rfl rfl rfl rfl h85)]
          refine wp_value (w2 := wx) (v := .bool true) ?_ (hK _ _ rfl (Fr.refl _ _))
          clear hd hG hK
          go_simp
        refine stepsHold.cons (fun wx hG hd K hK => ?_) ?_
        · have h85 : us 85 = (.bool true) := deps_get hd 0 rfl rfl rfl rfl rfl
          have h87 : us 87 = (.bool true) := deps_get hd 1 rfl rfl rfl rfl rfl
          rw [if_pos (wanted_none rfl)]
          refine wp_value (w2 := wx) (v := .bool true) ?_ (hK _ _ rfl (Fr.refl _ _))
          clear hd hG hK
          go_simp
        refine stepsHold.cons (fun wx hG hd K hK => ?_) ?_
        · have h88 : us 88 = (.bool true) := deps_get hd 0 rfl rfl rfl rfl rfl
          rw [if_pos (wanted_none rfl)]
          refine wp_value (w2 := wx) (v := .bool true) ?_ (hK _ _ rfl (Fr.refl _ _))
          clear hd hG hK
          go_simp
        refine stepsHold.cons (fun wx hG hd K hK => ?_) ?_
        · have h89 : us 89 = (.bool true) := deps_get hd 0 rfl rfl rfl rfl rfl
          rw [if_pos (wanted_yes rfl rfl rfl rfl h89)]
          refine wp_value (w2 := wx) (v := .int .i64 0) ?_ (hK _ _ rfl (Fr.refl _ _))
          clear hd hG hK
          go_simp
        refine stepsHold.cons (fun wx hG hd K hK => ?_) ?_
        · have h90 : us 90 = (.int .i64 0) := deps_get hd 0 rfl rfl rfl rfl rfl
          have h89 : us 89 = (.bool true) := deps_get hd 1 rfl rfl rfl rfl rfl
          rw [if_pos (wanted_yes rfl rfl rfl rfl h89)]
          refine wp_value (w2 := wx) (v := .bool true) ?_ (hK _ _ rfl (Fr.refl _ _))
          clear hd hG hK
          go_simp
        refine stepsHold.cons (fun wx hG hd K hK => ?_) ?_
        · have h89 : us 89 = (.bool true) := deps_get hd 0 rfl rfl rfl rfl rfl
          have h91 : us 91 = (.bool true) := deps_get hd 1 rfl rfl rfl rfl rfl
          rw [if_pos (wanted_none rfl)]
          refine wp_value (w2 := wx) (v := .bool true) ?_ (hK _ _ rfl (Fr.refl _ _))
          clear hd hG hK
          go_simp
        refine stepsHold.cons (fun wx hG hd K hK => ?_) ?_
        · have h92 : us 92 = (.bool true) := deps_get hd 0 rfl rfl rfl rfl rfl
          rw [if_pos (wanted_none rfl)]
          refine wp_value (w2 := wx) (v := .bool true) ?_ (hK _ _ rfl (Fr.refl _ _))
          clear hd hG hK
          go_simp
        refine stepsHold.cons (fun wx hG hd K hK => ?_) ?_
        · have h93 : us 93 = (.bool true) := deps_get hd 0 rfl rfl rfl rfl rfl
          rw [if_pos (wanted_yes rfl rfl rfl rfl h93)]
          obtain ⟨q0, q1, q2, q3, q4, q5, q6⟩ := sup_cells (s := turns h j) (hG.keep0 C6.out)
          refine wp_value (w2 := wx) (v := .agg #[.int .i64 (turns h j).version, .int .i64 (turns h j).epoch, .int .i64 (turns h j).blocks, .int .i64 (turns h j).counters, .int .i64 (turns h j).log, .int .i64 (turns h j).head, .int .i64 (turns h j).applied]) ?_ (hK _ _ rfl (Fr.refl _ _))
          clear hd hK
          go_simp
        refine stepsHold.cons (fun wx hG hd K hK => ?_) ?_
        · have h93 : us 93 = (.bool true) := deps_get hd 0 rfl rfl rfl rfl rfl
          rw [if_pos (wanted_yes rfl rfl rfl rfl h93)]
          obtain ⟨q0, q1, q2, q3, q4, q5, q6⟩ := sup_cells (s := turns h j) (hG.keep0 CS.out)
          refine wp_value (w2 := wx) (v := .agg #[.int .i64 (turns h j).version, .int .i64 (turns h j).epoch, .int .i64 (turns h j).blocks, .int .i64 (turns h j).counters, .int .i64 (turns h j).log, .int .i64 (turns h j).head, .int .i64 (turns h j).applied]) ?_ (hK _ _ rfl (Fr.refl _ _))
          clear hd hK
          go_simp
        refine stepsHold.cons (fun wx hG hd K hK => ?_) ?_
        · have h94 : us 94 = (.agg #[.int .i64 (turns h j).version, .int .i64 (turns h j).epoch, .int .i64 (turns h j).blocks, .int .i64 (turns h j).counters, .int .i64 (turns h j).log, .int .i64 (turns h j).head, .int .i64 (turns h j).applied]) := deps_get hd 0 rfl rfl rfl rfl rfl
          have h95 : us 95 = (.agg #[.int .i64 (turns h j).version, .int .i64 (turns h j).epoch, .int .i64 (turns h j).blocks, .int .i64 (turns h j).counters, .int .i64 (turns h j).log, .int .i64 (turns h j).head, .int .i64 (turns h j).applied]) := deps_get hd 1 rfl rfl rfl rfl rfl
          have h93 : us 93 = (.bool true) := deps_get hd 2 rfl rfl rfl rfl rfl
          rw [if_pos (wanted_yes rfl rfl rfl rfl h93)]
          refine wp_value (w2 := wx) (v := .bool true) ?_ (hK _ _ rfl (Fr.refl _ _))
          clear hd hG hK
          go_simp
        refine stepsHold.cons (fun wx hG hd K hK => ?_) ?_
        · have h93 : us 93 = (.bool true) := deps_get hd 0 rfl rfl rfl rfl rfl
          have h96 : us 96 = (.bool true) := deps_get hd 1 rfl rfl rfl rfl rfl
          rw [if_pos (wanted_none rfl)]
          refine wp_value (w2 := wx) (v := .bool true) ?_ (hK _ _ rfl (Fr.refl _ _))
          clear hd hG hK
          go_simp
        refine stepsHold.cons (fun wx hG hd K hK => ?_) ?_
        · have h97 : us 97 = (.bool true) := deps_get hd 0 rfl rfl rfl rfl rfl
          rw [if_pos (wanted_none rfl)]
          refine wp_value (w2 := wx) (v := .bool true) ?_ (hK _ _ rfl (Fr.refl _ _))
          clear hd hG hK
          go_simp
        refine stepsHold.cons (fun wx hG hd K hK => ?_) ?_
        · have h98 : us 98 = (.bool true) := deps_get hd 0 rfl rfl rfl rfl rfl
          rw [if_pos (wanted_yes rfl rfl rfl rfl h98)]
          obtain ⟨q0, q1, q2, q3, q4, q5, q6⟩ := sup_cells (s := turns h j) (hG.keep0 C8.out)
          refine wp_value (w2 := wx) (v := .agg #[.int .i64 (turns h j).version, .int .i64 (turns h j).epoch, .int .i64 (turns h j).blocks, .int .i64 (turns h j).counters, .int .i64 (turns h j).log, .int .i64 (turns h j).head, .int .i64 (turns h j).applied]) ?_ (hK _ _ rfl (Fr.refl _ _))
          clear hd hK
          go_simp
        refine stepsHold.cons (fun wx hG hd K hK => ?_) ?_
        · have h98 : us 98 = (.bool true) := deps_get hd 0 rfl rfl rfl rfl rfl
          rw [if_pos (wanted_yes rfl rfl rfl rfl h98)]
          obtain ⟨q0, q1, q2, q3, q4, q5, q6⟩ := sup_cells (s := turns h j) (hG.keep0 CS.out)
          refine wp_value (w2 := wx) (v := .agg #[.int .i64 (turns h j).version, .int .i64 (turns h j).epoch, .int .i64 (turns h j).blocks, .int .i64 (turns h j).counters, .int .i64 (turns h j).log, .int .i64 (turns h j).head, .int .i64 (turns h j).applied]) ?_ (hK _ _ rfl (Fr.refl _ _))
          clear hd hK
          go_simp
        refine stepsHold.cons (fun wx hG hd K hK => ?_) ?_
        · have h99 : us 99 = (.agg #[.int .i64 (turns h j).version, .int .i64 (turns h j).epoch, .int .i64 (turns h j).blocks, .int .i64 (turns h j).counters, .int .i64 (turns h j).log, .int .i64 (turns h j).head, .int .i64 (turns h j).applied]) := deps_get hd 0 rfl rfl rfl rfl rfl
          have h100 : us 100 = (.agg #[.int .i64 (turns h j).version, .int .i64 (turns h j).epoch, .int .i64 (turns h j).blocks, .int .i64 (turns h j).counters, .int .i64 (turns h j).log, .int .i64 (turns h j).head, .int .i64 (turns h j).applied]) := deps_get hd 1 rfl rfl rfl rfl rfl
          have h98 : us 98 = (.bool true) := deps_get hd 2 rfl rfl rfl rfl rfl
          rw [if_pos (wanted_yes rfl rfl rfl rfl h98)]
          refine wp_value (w2 := wx) (v := .bool true) ?_ (hK _ _ rfl (Fr.refl _ _))
          clear hd hG hK
          go_simp
        refine stepsHold.cons (fun wx hG hd K hK => ?_) ?_
        · have h98 : us 98 = (.bool true) := deps_get hd 0 rfl rfl rfl rfl rfl
          have h101 : us 101 = (.bool true) := deps_get hd 1 rfl rfl rfl rfl rfl
          rw [if_pos (wanted_none rfl)]
          refine wp_value (w2 := wx) (v := .bool true) ?_ (hK _ _ rfl (Fr.refl _ _))
          clear hd hG hK
          go_simp
        refine stepsHold.cons (fun wx hG hd K hK => ?_) ?_
        · have h102 : us 102 = (.bool true) := deps_get hd 0 rfl rfl rfl rfl rfl
          rw [if_pos (wanted_none rfl)]
          refine wp_value (w2 := wx) (v := .bool true) ?_ (hK _ _ rfl (Fr.refl _ _))
          clear hd hG hK
          go_simp
        refine stepsHold.cons (fun wx hG hd K hK => ?_) ?_
        · have h103 : us 103 = (.bool true) := deps_get hd 0 rfl rfl rfl rfl rfl
          rw [if_pos (wanted_yes rfl rfl rfl rfl h103)]
          refine wp_value (w2 := wx) (v := .slice (some ⟨b10, 0, none⟩) 64 64) ?_ (hK _ _ rfl (Fr.refl _ _))
          clear hd hG hK
          go_simp
        refine stepsHold.cons (fun wx hG hd K hK => ?_) ?_
        · have h104 : us 104 = (.slice (some ⟨b10, 0, none⟩) 64 64) := deps_get hd 0 rfl rfl rfl rfl rfl
          have h103 : us 103 = (.bool true) := deps_get hd 1 rfl rfl rfl rfl rfl
          rw [if_pos (wanted_yes rfl rfl rfl rfl h103)]
          have hr := conv_at (Z10.out.keep0 hG) und_bytes und_u8 und_str 64
          refine wp_value (w2 := wx) (v := .string (strOfNums zsec)) ?_ (hK _ _ rfl (Fr.refl _ _))
          clear hd hK
          go_simp
        refine stepsHold.cons (fun wx hG hd K hK => ?_) ?_
        · have h103 : us 103 = (.bool true) := deps_get hd 0 rfl rfl rfl rfl rfl
          rw [if_pos (wanted_yes rfl rfl rfl rfl h103)]
          have hr := make_z wx
          refine wp_value (w2 := wx.alloc (.cells (cellsOf zsec) 5)) (v := .slice (some ⟨wx.heap.size, 0, none⟩) 64 64) ?_ (hK _ _ ⟨_, rfl, z_at wx⟩ ((Fr.refl _ _).alloc _))
          clear hd hK
          go_simp
        refine stepsHold.cons (fun wx hG hd K hK => ?_) ?_
        · have h106 := deps_get hd 0 rfl rfl rfl rfl rfl
          have h103 : us 103 = (.bool true) := deps_get hd 1 rfl rfl rfl rfl rfl
          rw [if_pos (wanted_yes rfl rfl rfl rfl h103)]
          obtain ⟨b, hb1, hb2⟩ := h106
          have hr := conv_at hb2 und_bytes und_u8 und_str 64
          refine wp_value (w2 := wx) (v := .string (strOfNums zsec)) ?_ (hK _ _ rfl (Fr.refl _ _))
          clear hd hK
          go_simp
        refine stepsHold.cons (fun wx hG hd K hK => ?_) ?_
        · have h105 : us 105 = (.string (strOfNums zsec)) := deps_get hd 0 rfl rfl rfl rfl rfl
          have h107 : us 107 = (.string (strOfNums zsec)) := deps_get hd 1 rfl rfl rfl rfl rfl
          have h103 : us 103 = (.bool true) := deps_get hd 2 rfl rfl rfl rfl rfl
          rw [if_pos (wanted_yes rfl rfl rfl rfl h103)]
          refine wp_value (w2 := wx) (v := .bool true) ?_ (hK _ _ rfl (Fr.refl _ _))
          clear hd hG hK
          go_simp
        refine stepsHold.cons (fun wx hG hd K hK => ?_) ?_
        · have h103 : us 103 = (.bool true) := deps_get hd 0 rfl rfl rfl rfl rfl
          have h108 : us 108 = (.bool true) := deps_get hd 1 rfl rfl rfl rfl rfl
          rw [if_pos (wanted_none rfl)]
          refine wp_value (w2 := wx) (v := .bool true) ?_ (hK _ _ rfl (Fr.refl _ _))
          clear hd hG hK
          go_simp
        refine stepsHold.cons (fun wx hG hd K hK => ?_) ?_
        · have h109 : us 109 = (.bool true) := deps_get hd 0 rfl rfl rfl rfl rfl
          rw [if_pos (wanted_none rfl)]
          refine wp_value (w2 := wx) (v := .bool true) ?_ (hK _ _ rfl (Fr.refl _ _))
          clear hd hG hK
          go_simp
        refine stepsHold.cons (fun wx hG hd K hK => ?_) ?_
        · have h110 : us 110 = (.bool true) := deps_get hd 0 rfl rfl rfl rfl rfl
          rw [if_pos (wanted_yes rfl rfl rfl rfl h110)]
          refine wp_value (w2 := wx) (v := .pointer (some ⟨db, 0, none⟩)) ?_ (hK _ _ rfl (Fr.refl _ _))
          clear hd hG hK
          go_simp
        refine stepsHold.cons (fun wx hG hd K hK => ?_) ?_
        · have h111 : us 111 = (.pointer (some ⟨db, 0, none⟩)) := deps_get hd 0 rfl rfl rfl rfl rfl
          have h110 : us 110 = (.bool true) := deps_get hd 1 rfl rfl rfl rfl rfl
          rw [if_pos (wanted_yes rfl rfl rfl rfl h110)]
          refine wp_call (w2 := wx) (f := 24) (args := #[.pointer (some ⟨db, 0, none⟩)]) ?_ ?_
          · clear hd hK
            go_simp
          · refine (spent_c (D10.out.keep0 hG)).mono ?_
            rintro e w9 ⟨rfl, rfl⟩
            rw [HSP.out]
            exact ⟨_, rfl, hK _ _ rfl (Fr.refl _ _)⟩
        refine stepsHold.cons (fun wx hG hd K hK => ?_) ?_
        · have h110 : us 110 = (.bool true) := deps_get hd 0 rfl rfl rfl rfl rfl
          rw [if_pos (wanted_yes rfl rfl rfl rfl h110)]
          refine wp_value (w2 := wx) (v := .int .i64 (1 + (m : Int))) ?_ (hK _ _ rfl (Fr.refl _ _))
          clear hd hG hK
          go_simp
        refine stepsHold.cons (fun wx hG hd K hK => ?_) ?_
        · have h113 : us 113 = (.int .i64 (1 + (m : Int))) := deps_get hd 0 rfl rfl rfl rfl rfl
          have h110 : us 110 = (.bool true) := deps_get hd 1 rfl rfl rfl rfl rfl
          rw [if_pos (wanted_yes rfl rfl rfl rfl h110)]
          refine wp_value (w2 := wx) (v := .int .i64 (2 * (1 + (m : Int)))) ?_ (hK _ _ rfl (Fr.refl _ _))
          clear hd hG hK
          go_simp
          rw [IntKind.wrap_i64]; omega
        refine stepsHold.cons (fun wx hG hd K hK => ?_) ?_
        · have h112 : us 112 = (.int .i64 (2 * (1 + (m : Int)))) := deps_get hd 0 rfl rfl rfl rfl rfl
          have h114 : us 114 = (.int .i64 (2 * (1 + (m : Int)))) := deps_get hd 1 rfl rfl rfl rfl rfl
          have h110 : us 110 = (.bool true) := deps_get hd 2 rfl rfl rfl rfl rfl
          rw [if_pos (wanted_yes rfl rfl rfl rfl h110)]
          refine wp_value (w2 := wx) (v := .bool true) ?_ (hK _ _ rfl (Fr.refl _ _))
          clear hd hG hK
          go_simp
        refine stepsHold.cons (fun wx hG hd K hK => ?_) ?_
        · have h110 : us 110 = (.bool true) := deps_get hd 0 rfl rfl rfl rfl rfl
          have h115 : us 115 = (.bool true) := deps_get hd 1 rfl rfl rfl rfl rfl
          rw [if_pos (wanted_none rfl)]
          refine wp_value (w2 := wx) (v := .bool true) ?_ (hK _ _ rfl (Fr.refl _ _))
          clear hd hG hK
          go_simp
        refine stepsHold.cons (fun wx hG hd K hK => ?_) ?_
        · have h116 : us 116 = (.bool true) := deps_get hd 0 rfl rfl rfl rfl rfl
          rw [if_pos (wanted_none rfl)]
          refine wp_value (w2 := wx) (v := .bool true) ?_ (hK _ _ rfl (Fr.refl _ _))
          clear hd hG hK
          go_simp
        exact stepsHold.nil
      case fin =>
        have h76 : us 76 = (.bool true) := all_get hall 0 rfl rfl rfl
        have h77 : us 77 = (.bool true) := all_get hall 1 rfl rfl rfl
        have h78 : us 78 = (.int .i64 0) := all_get hall 2 rfl rfl rfl
        have h79 : us 79 = (.bool true) := all_get hall 3 rfl rfl rfl
        have h80 : us 80 = (.bool true) := all_get hall 4 rfl rfl rfl
        have h81 : us 81 = (.bool true) := all_get hall 5 rfl rfl rfl
        have h82 : us 82 = (.int .i64 0) := all_get hall 6 rfl rfl rfl
        have h83 : us 83 = (.bool true) := all_get hall 7 rfl rfl rfl
        have h84 : us 84 = (.bool true) := all_get hall 8 rfl rfl rfl
        have h85 : us 85 = (.bool true) := all_get hall 9 rfl rfl rfl
        have h86 : us 86 = (.int .i64 0) := all_get hall 10 rfl rfl rfl
        have h87 : us 87 = (.bool true) := all_get hall 11 rfl rfl rfl
        have h88 : us 88 = (.bool true) := all_get hall 12 rfl rfl rfl
        have h89 : us 89 = (.bool true) := all_get hall 13 rfl rfl rfl
        have h90 : us 90 = (.int .i64 0) := all_get hall 14 rfl rfl rfl
        have h91 : us 91 = (.bool true) := all_get hall 15 rfl rfl rfl
        have h92 : us 92 = (.bool true) := all_get hall 16 rfl rfl rfl
        have h93 : us 93 = (.bool true) := all_get hall 17 rfl rfl rfl
        have h94 : us 94 = (.agg #[.int .i64 (turns h j).version, .int .i64 (turns h j).epoch, .int .i64 (turns h j).blocks, .int .i64 (turns h j).counters, .int .i64 (turns h j).log, .int .i64 (turns h j).head, .int .i64 (turns h j).applied]) := all_get hall 18 rfl rfl rfl
        have h95 : us 95 = (.agg #[.int .i64 (turns h j).version, .int .i64 (turns h j).epoch, .int .i64 (turns h j).blocks, .int .i64 (turns h j).counters, .int .i64 (turns h j).log, .int .i64 (turns h j).head, .int .i64 (turns h j).applied]) := all_get hall 19 rfl rfl rfl
        have h96 : us 96 = (.bool true) := all_get hall 20 rfl rfl rfl
        have h97 : us 97 = (.bool true) := all_get hall 21 rfl rfl rfl
        have h98 : us 98 = (.bool true) := all_get hall 22 rfl rfl rfl
        have h99 : us 99 = (.agg #[.int .i64 (turns h j).version, .int .i64 (turns h j).epoch, .int .i64 (turns h j).blocks, .int .i64 (turns h j).counters, .int .i64 (turns h j).log, .int .i64 (turns h j).head, .int .i64 (turns h j).applied]) := all_get hall 23 rfl rfl rfl
        have h100 : us 100 = (.agg #[.int .i64 (turns h j).version, .int .i64 (turns h j).epoch, .int .i64 (turns h j).blocks, .int .i64 (turns h j).counters, .int .i64 (turns h j).log, .int .i64 (turns h j).head, .int .i64 (turns h j).applied]) := all_get hall 24 rfl rfl rfl
        have h101 : us 101 = (.bool true) := all_get hall 25 rfl rfl rfl
        have h102 : us 102 = (.bool true) := all_get hall 26 rfl rfl rfl
        have h103 : us 103 = (.bool true) := all_get hall 27 rfl rfl rfl
        have h104 : us 104 = (.slice (some ⟨b10, 0, none⟩) 64 64) := all_get hall 28 rfl rfl rfl
        have h105 : us 105 = (.string (strOfNums zsec)) := all_get hall 29 rfl rfl rfl
        have h106 := all_get hall 30 rfl rfl rfl
        have h107 : us 107 = (.string (strOfNums zsec)) := all_get hall 31 rfl rfl rfl
        have h108 : us 108 = (.bool true) := all_get hall 32 rfl rfl rfl
        have h109 : us 109 = (.bool true) := all_get hall 33 rfl rfl rfl
        have h110 : us 110 = (.bool true) := all_get hall 34 rfl rfl rfl
        have h111 : us 111 = (.pointer (some ⟨db, 0, none⟩)) := all_get hall 35 rfl rfl rfl
        have h112 : us 112 = (.int .i64 (2 * (1 + (m : Int)))) := all_get hall 36 rfl rfl rfl
        have h113 : us 113 = (.int .i64 (1 + (m : Int))) := all_get hall 37 rfl rfl rfl
        have h114 : us 114 = (.int .i64 (2 * (1 + (m : Int)))) := all_get hall 38 rfl rfl rfl
        have h115 : us 115 = (.bool true) := all_get hall 39 rfl rfl rfl
        have h116 : us 116 = (.bool true) := all_get hall 40 rfl rfl rfl
        have h4 : us 4 = (.bool true) := all_get hall 41 rfl rfl rfl
        simp only [fillL, Nat.reduceAdd]
        clear hall
        simp only [h76, h77, h78, h79, h80, h81, h82, h83, h84, h85, h86, h87, h88, h89, h90, h91, h92, h93, h94, h95, h96, h97, h98, h99, h100, h101, h102, h103, h104, h105, h107, h108, h109, h110, h111, h112, h113, h114, h115, h116, h4]
        clear h76 h77 h78 h79 h80 h81 h82 h83 h84 h85 h86 h87 h88 h89 h90 h91 h92 h93 h94 h95 h96 h97 h98 h99 h100 h101 h102 h103 h104 h105 h107 h108 h109 h110 h111 h112 h113 h114 h115 h116 h4
        go_wp2_with fail
        go_ret
        have z0 := hnd.d
        have z1 := hnd.l
        have z2 := hnd.m
        have z3 := HF2.out.size
        exact ⟨rfl, ((HF2.out.trans HFE'.out (by intro i hi; refine .inr ?_; rcases hi with h' | h' | h' | h' <;> omega)).then0 hG)⟩
end
end Go.Proofs.YtdeckbdaencjnaaDoor
