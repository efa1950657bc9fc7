/-
  super's Layout; layer 8: awake. Conditions: none.
-/
import Derived.Test.YtdeckbdaencjnaaDoorSv
import Derived.RegionTactic
import Derived.BigRegion
set_option linter.unusedVariables false
set_option linter.unusedSimpArgs false
namespace Go.Proofs.YtdeckbdaencjnaaDoor
open Go.RowKit

def Sup.lay1 (s : Sup) : Int := if s.sane = true then 2 else 0
def Sup.lay2 (s : Sup) : Int := if s.sane = true then 2 + s.blocks else 0
def Sup.lay3 (s : Sup) : Int := if s.sane = true then 2 + s.blocks + (s.counters + 3 - 1) / 3 else 0
def Sup.lay4 (s : Sup) : Int := if s.sane = true then 2 + s.blocks + (s.counters + 3 - 1) / 3 + s.log else 0
/-- Four results. -/
theorem results_four {P : Program} {fn : Func} {tmps : Array Value} {w : World} {a b c d : Nat} {v1 v2 v3 v4 : Value} (hfn : fn.results = #[.tmp a, .tmp b, .tmp c, .tmp d]) (h1 : tmps.getD a undef = v1) (h2 : tmps.getD b undef = v2) (h3 : tmps.getD c undef = v3) (h4 : tmps.getD d undef = v4) :
    (results fn tmps).run P w = .ok (.tuple #[v1, v2, v3, v4]) w := by
  subst h1; subst h2; subst h3; subst h4
  simp [results, hfn, Array.getD_eq_getD_getElem?]
/-- A device that the call itself made. -/
structure NewDev (w : World) (db lb mb : Nat) : Prop where
  d : w.heap.size ≤ db
  l : w.heap.size ≤ lb
  m : w.heap.size ≤ mb
theorem NewDev.le {w w' : World} {db lb mb : Nat} (h : NewDev w' db lb mb) (hf : Fr F0 w w') : NewDev w db lb mb := ⟨Nat.le_trans hf.size h.d, Nat.le_trans hf.size h.l, Nat.le_trans hf.size h.m⟩
theorem Fr.dev {w a b : World} {db lb mb : Nat} (h : Fr F0 w a) (hn : NewDev w db lb mb) (hf : Fr (Dv db lb mb) a b) : Fr F0 w b :=
  h.trans hf (by
    intro i hi
    rcases hi with rfl | rfl | rfl
    · exact .inr hn.d
    · exact .inr hn.l
    · exact .inr hn.m)
section
variable {w : World} {db lb mb : Nat} {D : Dev}
theorem load_n (h : DevAt Tryd.prog 3 w db lb mb D) (hB : ∀ i, i < 2 → Bys (D.at i)) :
    Calls Tryd.prog 22 #[.pointer (some ⟨db, 0, none⟩)] w fun e w' => ∃ s, e = .returned (.tuple #[.agg #[.int .i64 s.version, .int .i64 s.epoch, .int .i64 s.blocks, .int .i64 s.counters, .int .i64 s.log, .int .i64 s.head, .int .i64 s.applied], .int .i64 D.loadE]) ∧ Hid (s = D.loadS) ∧ Fr F0 w w' := by
  refine (load_c h hB).mono ?_
  rintro e w' ⟨rfl, hf⟩
  exact ⟨_, rfl, Lib.hid rfl, hf⟩
theorem save_n (h : DevAt Tryd.prog 3 w db lb mb D) (s : Sup) : Calls Tryd.prog 20 #[.pointer (some ⟨db, 0, none⟩), .agg #[.int .i64 s.version, .int .i64 s.epoch, .int .i64 s.blocks, .int .i64 s.counters, .int .i64 s.log, .int .i64 s.head, .int .i64 s.applied]] w
    fun e w' => ∃ t, e = .returned (.tuple #[.agg #[.int .i64 t.version, .int .i64 t.epoch, .int .i64 t.blocks, .int .i64 t.counters, .int .i64 t.log, .int .i64 t.head, .int .i64 t.applied], .int .i64 (D.saveE s)]) ∧ Hid (t = D.saveS s) ∧ DevAt Tryd.prog 3 w' db lb mb (D.save s) ∧ Fr (Dv db lb mb) w w' := by
  refine (save_c h s).mono ?_
  rintro e w' ⟨rfl, h', hf⟩
  exact ⟨_, rfl, Lib.hid rfl, h', hf⟩
set_option maxRecDepth 100000 in
set_option maxHeartbeats 1000000 in
theorem layout_c (s : Sup) : Calls Tryd.prog 27 #[.agg #[.int .i64 s.version, .int .i64 s.epoch, .int .i64 s.blocks, .int .i64 s.counters, .int .i64 s.log, .int .i64 s.head, .int .i64 s.applied]] w
    fun e w' => e = .returned (.tuple #[.int .i64 s.lay1, .int .i64 s.lay2, .int .i64 s.lay3, .int .i64 s.lay4]) ∧ Fr F0 w w' := by
  have hfx : Fr F0 w (w.alloc (.cells #[.int .i64 s.version, .int .i64 s.epoch, .int .i64 s.blocks, .int .i64 s.counters, .int .i64 s.log, .int .i64 s.head, .int .i64 s.applied] 29)) := (Fr.refl _ _).alloc _
  have hr0 : (w.alloc (.cells #[.int .i64 s.version, .int .i64 s.epoch, .int .i64 s.blocks, .int .i64 s.counters, .int .i64 s.log, .int .i64 s.head, .int .i64 s.applied] 29)).heap[w.heap.size]? = some (.cells #[.int .i64 s.version, .int .i64 s.epoch, .int .i64 s.blocks, .int .i64 s.counters, .int .i64 s.log, .int .i64 s.head, .int .i64 s.applied] 29 (0, 0)) := alloc_at rfl _
  have HFX := Lib.hid hfx
  have HR0 := Lib.hid hr0
  clear hfx hr0
  by_cases hs : s.sane = true
  · have HS := Lib.hid hs
    have hS : s.Sane := by simpa [Sup.sane] using hs
    have b0 := hS.2.2.1.1
    have b1 := hS.2.2.1.2
    have c0 := hS.2.2.2.1.1
    have c1 := hS.2.2.2.1.2
    have l0 := hS.2.2.2.2.1.1
    have l1 := hS.2.2.2.2.1.2
    clear hs hS
    go_enter Tryd.func27, Tryd.ntmps27
    go_wp2_with fail
    refine (sane_c s).mono ?_
    rintro e w2 ⟨rfl, hf2⟩
    rw [HS.out]
    have hr := hf2.keep0 HR0.out
    have k2 : w2.cell? ⟨w.heap.size, 2, none⟩ = some (.int .i64 s.blocks) := by rw [cell_of hr]; rfl
    have k3 : w2.cell? ⟨w.heap.size, 3, none⟩ = some (.int .i64 s.counters) := by rw [cell_of hr]; rfl
    have k4 : w2.cell? ⟨w.heap.size, 4, none⟩ = some (.int .i64 s.log) := by rw [cell_of hr]; rfl
    have HF2 := Lib.hid (HFX.out.then0 hf2)
    clear hr hf2
    go_wp2_with fail
    go_quiet (fail)
    go_wp2_with fail
    refine bodyPost_ret (results_four (v1 := .int .i64 s.lay1) (v2 := .int .i64 s.lay2) (v3 := .int .i64 s.lay3) (v4 := .int .i64 s.lay4) Tryd.results27 ?_ ?_ ?_ ?_) rfl ⟨rfl, HF2.out.drewN _⟩
    · unfold Sup.lay1; rw [if_pos HS.out]; rfl
    · unfold Sup.lay2; rw [if_pos HS.out]; rfl
    · unfold Sup.lay3; rw [if_pos HS.out]; rfl
    · unfold Sup.lay4; rw [if_pos HS.out]; rfl
  · have hs' : s.sane = false := by simpa using hs
    have HS := Lib.hid hs'
    clear hs hs'
    go_enter Tryd.func27, Tryd.ntmps27
    go_wp2_with fail
    refine (sane_c s).mono ?_
    rintro e w2 ⟨rfl, hf2⟩
    rw [HS.out]
    go_wp2_with fail
    have hn : ¬ s.sane = true := by rw [HS.out]; decide
    refine bodyPost_ret (results_four (v1 := .int .i64 s.lay1) (v2 := .int .i64 s.lay2) (v3 := .int .i64 s.lay3) (v4 := .int .i64 s.lay4) Tryd.results27 ?_ ?_ ?_ ?_) rfl ⟨rfl, HFX.out.then0 hf2⟩
    · unfold Sup.lay1; rw [if_neg hn]; rfl
    · unfold Sup.lay2; rw [if_neg hn]; rfl
    · unfold Sup.lay3; rw [if_neg hn]; rfl
    · unfold Sup.lay4; rw [if_neg hn]; rfl

/-! ### awake -/
theorem calm_bys {D : Dev} {l : List (List Int)} (h : Calm D l) (hl : 2 ≤ l.length) (hb : ∀ x ∈ l, Bys x) : ∀ i, i < 2 → Bys (D.at i) := by
  intro i hi
  rw [h.at i]
  exact hb _ (by simp [List.getD, show i < l.length by omega])
theorem zs_bys (n : Nat) : ∀ x ∈ List.replicate n zsec, Bys x := by
  intro x hx
  rw [(List.mem_replicate.1 hx).2]
  exact Bys.zeros 64
def sup1 : Sup := ⟨0, 0, 0, 0, 1, 0, 0⟩
theorem sup1_good : sup1.good = true := by decide
theorem new_load (n : Nat) (hn : 2 ≤ n) : (Dev.new n).loadE = 6 := by
  have h := (Dev.new_calm n).load (by simpa using hn)
  rw [h.1]
  have e0 : (List.replicate n zsec).getD 0 [] = zsec := by simp [List.getD, show 0 < n by omega]
  have e1 : (List.replicate n zsec).getD 1 [] = zsec := by simp [List.getD, show 1 < n by omega]
  rw [e0, e1]
  unfold pickE
  rw [if_neg]
  rintro (h | h) <;> exact zsec_dec h
/-- Saved to a device that is new. -/
theorem new_save (n : Nat) (hn : 2 ≤ n) {s : Sup} (hs : s.good = true) :
    (Dev.new n).saveE s = 0 ∧ (Dev.new n).saveS s = s.next ∧ Calm ((Dev.new n).save s) ((List.replicate n zsec).set (s.next.version % 2).toNat s.next.enc) ∧ Two ((List.replicate n zsec).set (s.next.version % 2).toNat s.next.enc) s.next ∧ ((Dev.new n).save s).budget = -1 ∧ ((Dev.new n).save s).spent = 2 := by
  obtain ⟨h1, h2, h3, h4⟩ := (Dev.new_calm n).save_2 (by simpa using hn) (s := s) (by simp [Dev.new]) (by simp [Dev.new]) hs
  refine ⟨h1, by simp [Dev.saveS, h1], h2, Two.first hn ((Sup.good_iff s).1 hs).2, ?_, ?_⟩
  · rw [h3]; rfl
  · rw [h4]
    show wrap64 (wrap64 (0 + 1) + 1) = 2
    decide +kernel
set_option maxRecDepth 100000 in
set_option maxHeartbeats 2000000 in
theorem awake_c (w : World) : Calls Tryd.prog 15 #[] w fun e w' => e = .returned (.bool true) ∧ Fr F0 w w' := by
  obtain ⟨x1, x2, x3, x4, -, -⟩ := new_save 4 (by decide) sup1_good
  have x0 := new_load 4 (by decide)
  have y := x3.load_two x4
  have X0 := Lib.hid x0
  have X1 := Lib.hid x1
  have X2 := Lib.hid x2
  have Y := Lib.hid y
  have hby := calm_bys x3 (by simp) x4.bys
  have hby0 := calm_bys (Dev.new_calm 4) (by simp) (zs_bys 4)
  clear x0 x1 x2 x3 x4 y
  go_enter Tryd.func15, Tryd.ntmps15
  go_wp2_with fail
  refine (new_c 4 (by decide) (by decide) _).mono ?_
  rintro e w1 ⟨db, lb, mb, rfl, h1, n1, n2, n3, hf1⟩
  have hnd : NewDev w db lb mb := ⟨n1, n2, n3⟩
  go_wp2_with fail
  refine (load_n h1 hby0).mono ?_
  rintro e w2 ⟨s0, rfl, hs0, hf2⟩
  rw [X0.out]
  have h2 := h1.keep0 hf2
  go_wp2_with fail
  have hf3 : Fr F0 w (w2.alloc (.cells #[.int .i64 s0.version, .int .i64 s0.epoch, .int .i64 s0.blocks, .int .i64 s0.counters, .int .i64 s0.log, .int .i64 s0.head, .int .i64 s0.applied] 29)) := (hf1.then0 hf2).alloc _
  have h3 := h2.keep0 ((Fr.refl F0 w2).alloc (.cells #[.int .i64 s0.version, .int .i64 s0.epoch, .int .i64 s0.blocks, .int .i64 s0.counters, .int .i64 s0.log, .int .i64 s0.head, .int .i64 s0.applied] 29))
  refine (save_n h3 sup1).mono ?_
  rintro e w4 ⟨s1, rfl, hs1, h4, hf4⟩
  rw [X1.out]
  go_wp2_with fail
  have e1 : s1 = ⟨1, 0, 0, 0, 1, 0, 0⟩ := hs1.out.trans X2.out
  subst e1
  have h5 := h4.keep0 ((Fr.refl F0 w4).alloc (.cells #[.int .i64 1, .int .i64 0, .int .i64 0, .int .i64 0, .int .i64 1, .int .i64 0, .int .i64 0] 29))
  have hf5 : Fr F0 w (w4.alloc (.cells #[.int .i64 1, .int .i64 0, .int .i64 0, .int .i64 0, .int .i64 1, .int .i64 0, .int .i64 0] 29)) := (hf3.dev hnd hf4).alloc _
  have hc5 : (w4.alloc (.cells #[.int .i64 1, .int .i64 0, .int .i64 0, .int .i64 0, .int .i64 1, .int .i64 0, .int .i64 0] 29)).heap[w4.heap.size]? = some (.cells #[.int .i64 1, .int .i64 0, .int .i64 0, .int .i64 0, .int .i64 1, .int .i64 0, .int .i64 0] 29 (0, 0)) := alloc_at rfl _
  refine (load_n h5 hby).mono ?_
  rintro e w6 ⟨s2, rfl, hs2, hf6⟩
  rw [Y.out.1]
  have e2 : s2 = ⟨1, 0, 0, 0, 1, 0, 0⟩ := hs2.out.trans Y.out.2
  subst e2
  have hc6 := hf6.keep0 hc5
  have HF6 := Lib.hid (hf5.then0 hf6)
  have k0 : w6.cell? ⟨w4.heap.size, 0, none⟩ = some (.int .i64 1) := by rw [cell_of hc6]; rfl
  have k1 : w6.cell? ⟨w4.heap.size, 1, none⟩ = some (.int .i64 0) := by rw [cell_of hc6]; rfl
  have k2 : w6.cell? ⟨w4.heap.size, 2, none⟩ = some (.int .i64 0) := by rw [cell_of hc6]; rfl
  have k3 : w6.cell? ⟨w4.heap.size, 3, none⟩ = some (.int .i64 0) := by rw [cell_of hc6]; rfl
  have k4 : w6.cell? ⟨w4.heap.size, 4, none⟩ = some (.int .i64 1) := by rw [cell_of hc6]; rfl
  have k5 : w6.cell? ⟨w4.heap.size, 5, none⟩ = some (.int .i64 0) := by rw [cell_of hc6]; rfl
  have k6 : w6.cell? ⟨w4.heap.size, 6, none⟩ = some (.int .i64 0) := by rw [cell_of hc6]; rfl
  have hz6 : w4.heap.size < w6.heap.size := lt_of_block hc6
  clear hc5 hc6 hf6 hs1 hs2 hf5
  go_wp2_with fail
  go_ret
  exact ⟨rfl, HF6.out.alloc _⟩
end
end Go.Proofs.YtdeckbdaencjnaaDoor
