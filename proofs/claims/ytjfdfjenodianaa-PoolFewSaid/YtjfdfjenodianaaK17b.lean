/-
  A pool's find, round, and the test of free. Conditions: none.
-/
import Derived.Test.YtjfdfjenodianaaK17a
set_option linter.unusedVariables false
set_option linter.unusedSimpArgs false
namespace Go.Proofs.Ytjfdfjenodianaa
open Go.RowKit
theorem fm_no_u8 (f : Fm) (A : Option Addr) (c : Nat) : ∀ x, Value.int .u8 x ∉ f.cells A c := by intro x; simp [Fm.cells]
theorem pl_no_u8 (P : Pl) (db : Nat) (v : Value) (hv : ∀ x, v ≠ .int .u8 x) : ∀ x, Value.int .u8 x ∉ P.cells db v := by
  intro x
  have := hv x
  simp [Pl.cells]
  exact fun h => this h.symm
section
variable {w w' : World} {M : Nat → Prop} {pb db lb mb : Nat} {P : Pl} {v : Value} {fbs : List Nat} {D : Dev}
theorem PoolAt.slice (h : PoolAt w pb db M P v fbs) : ∃ A c, v = .slice A P.fs.length c := by
  obtain ⟨A, c, e, -⟩ := ValsAt.of_own h.own
  exact ⟨A, c, e⟩
/-- One frame anew. -/
theorem PoolAt.set (h : PoolAt w pb db M P v fbs) {i b : Nat} {f f' : Fm} (hi : P.fs[i]? = some f) (hb : fbs[i]? = some b) (hf : Fr (fun k => k = b) w w') (hfm : FmAt w' (Dat M v) b f') : PoolAt w' pb db M { P with fs := P.fs.set i f' } v fbs := by
  have hbm : b ∈ fbs := List.mem_of_getElem? hb
  refine ⟨hf.keep h.row (fun e => h.pn (e ▸ hbm)), ?_, by rw [h.len]; simp, fun j g c hj hc => ?_, h.nd, h.pn, h.vn, h.mp, h.mf, fun k hk => Nat.lt_of_lt_of_le (h.mlt k hk) hf.size⟩
  · have := own_keep h.own hf (fun k hk e => (h.vn k hk).2.1 (e ▸ hbm))
    simpa using this
  · by_cases hij : i = j
    · subst hij
      have hl := (List.getElem?_eq_some_iff.1 hi).1
      rw [show ({ P with fs := P.fs.set i f' } : Pl).fs = P.fs.set i f' from rfl, List.getElem?_set_self hl] at hj
      cases hj
      rw [hb] at hc
      cases hc
      exact hfm
    · rw [show ({ P with fs := P.fs.set i f' } : Pl).fs = P.fs.set i f' from rfl, List.getElem?_set_ne hij] at hj
      have hcb : c ≠ b := by
        intro e
        subst e
        have h1 := (List.getElem?_eq_some_iff.1 hb).1
        have h2 := (List.getElem?_eq_some_iff.1 hc).1
        have := (List.getElem?_inj h1 h.nd).1 (hb.trans hc.symm)
        exact hij this
      obtain ⟨A, cc, hr, _, _⟩ := (h.fr i f b hi hb).ex
      exact (h.fr j g c hj hc).keep hf hcb (fun k e => .inr ⟨_, _, e ▸ hr, fm_no_u8 f A cc⟩)
/-- The pool's own cells anew. -/
theorem PoolAt.pool (h : PoolAt w pb db M P v fbs) {P' : Pl} (hf : Fr (fun k => k = pb) w w') (hfs : P'.fs = P.fs) (hr : w'.heap[pb]? = some (.cells (P'.cells db v).toArray 56 (0, 0))) : PoolAt w' pb db M P' v fbs := by
  obtain ⟨A, c, hv⟩ := h.slice
  have hvn : ∀ x, v ≠ .int .u8 x := by intro x; rw [hv]; simp
  refine ⟨hr, ?_, by rw [h.len, hfs], fun j g b hj hb => ?_, h.nd, h.pn, h.vn, h.mp, h.mf, fun k hk => Nat.lt_of_lt_of_le (h.mlt k hk) hf.size⟩
  · rw [hfs]
    exact own_keep h.own hf (fun k hk e => (h.vn k hk).1 e)
  · rw [hfs] at hj
    exact (h.fr j g b hj hb).keep hf (fun e => h.pn (e ▸ List.mem_of_getElem? hb)) (fun k e => .inr ⟨_, _, e ▸ h.row, pl_no_u8 P db v hvn⟩)
def fptr (fbs : List Nat) : Option Nat → Value
  | none => .pointer none
  | some i => .pointer (some ⟨fbs.getD i 0, 0, none⟩)
set_option maxRecDepth 100000 in
set_option maxHeartbeats 1000000 in
theorem find_c (h : PoolAt w pb db M P v fbs) (a : Int) (hn : P.fs.length ≤ 64) : Calls Try.prog 30 #[.pointer (some ⟨pb, 0, none⟩), .int .i64 a] w fun e w' => e = .returned (fptr fbs (P.idx a)) ∧ Fr F0 w w' := by
  have hmf : ∀ (fn : Fn) (first cap : Array Value) (w : World), (Instr.makeFunc fn first cap).run Try.prog w = .ok (.func fn first cap) w := fun _ _ _ _ => rfl
  have HA := Lib.hid ((Fr.refl F0 w).alloc (.cells #[.int .i64 a] 3))
  have hp := h.keep0 HA.out
  have HP := Lib.hid hp
  obtain ⟨c0, c1, c2, c3, c4, c5, z1, z3, z4, z5⟩ := hp.cells
  have HX : Hid ((w.alloc (.cells #[.int .i64 a] 3)).cell? ⟨w.heap.size, 0, none⟩ = some (.int .i64 a)) := Lib.hid (by rw [cell_of (heap_alloc_new w _)]; rfl)
  obtain ⟨A, cp, hv, hvl, -, -, -⟩ := ValsAt.of_own hp.own
  have HV := Lib.hid hvl
  have HVE := Lib.hid hv
  clear h hp hvl hv c0 c2 c3 c4 c5 z1 z3 z4 z5
  obtain ⟨W, hW⟩ : ∃ W, W = w.alloc (.cells #[.int .i64 a] 3) := ⟨_, rfl⟩
  cases hix : P.idx a with
  | none =>
    have HI := Lib.hid hix
    go_enter Try.func30, Try.ntmps30
    go_wp2_with fail
    refine (index17_c HP.out w.heap.size a HX.out hn).mono ?_
    rintro e w1 ⟨rfl, hf1⟩
    rw [HI.out]
    have hneg : idxInt none = -1 := rfl
    rw [hneg]
    go_wp2_with fail
    go_ret
    exact ⟨rfl, HA.out.then0 hf1⟩
  | some i =>
    have hil : i < P.fs.length := by
      unfold Pl.idx at hix
      rw [List.findIdx?_eq_some_iff_getElem] at hix
      exact hix.1
    have HI := Lib.hid hix
    obtain ⟨b, hb⟩ : ∃ b, fbs[i]? = some b := ⟨fbs[i]'(by rw [HP.out.len]; exact hil), List.getElem?_eq_getElem _⟩
    have HB := Lib.hid hb
    have i0 : (0 : Int) ≤ (i : Int) := Int.natCast_nonneg _
    have i1 : (i : Int) < (P.fs.length : Int) := by omega
    clear hix hb
    go_enter Try.func30, Try.ntmps30
    go_wp2_with fail
    refine (index17_c HP.out w.heap.size a HX.out hn).mono ?_
    rintro e w1 ⟨rfl, hf1⟩
    rw [HI.out]
    have hpos : idxInt (some i) = (i : Int) := rfl
    rw [hpos]
    obtain ⟨d0, d1, d2, d3, d4, d5, y1, y3, y4, y5⟩ := (HP.out.keep0 hf1).cells
    obtain ⟨ad, had, hc⟩ := (HV.out.keep0 hf1).cells (by rw [List.length_map, HP.out.len]; omega)
    have hv2 := HVE.out
    rw [had] at hv2
    subst hv2
    have gx : w1.cell? (ad.add i) = some (.pointer (some ⟨b, 0, none⟩)) := hc i _ (by rw [List.getElem?_map, HB.out]; rfl)
    have hni : ¬ (i : Int) < 0 := by omega
    have HF1 := Lib.hid hf1
    clear hc d0 d2 d3 d4 d5 y1 y3 y4 y5 had hf1 hpos
    go_wp2_with fail
    go_ret
    refine ⟨?_, HA.out.then0 HF1.out⟩
    have : fbs.getD i 0 = b := by rw [List.getD_eq_getElem?_getD, HB.out]; rfl
    show _ = Ending.returned (.pointer (some ⟨fbs.getD i 0, 0, none⟩))
    rw [this]
    rfl
theorem FmAt.used {b : Nat} {f : Fm} (h : FmAt w M b f) (u : Bool) : FmAt (w.setCell ⟨b, 5, none⟩ (.bool u)) M b { f with used := u } := by
  obtain ⟨A, c, hr, hby, hm⟩ := h.ex
  refine ⟨⟨A, c, ?_, hby.keep (S := fun k => k = b) ((Fr.refl (fun k => k = b) w).setCell (p := ⟨b, 5, none⟩) (.inl rfl) _) (fun hp ad e hs => ?_), hm⟩, h.len⟩
  · rw [set_cell hr]
    rfl
  · subst e
    exact hby.ne hp hr (fm_no_u8 f _ c) hs
theorem pool_used {i b : Nat} {f : Fm} {u u' : Bool} (h : PoolAt w pb db M P v fbs) (hi : P.fs[i]? = some f) (hb : fbs[i]? = some b) (hu : u' = u) : PoolAt (w.setCell ⟨b, 5, none⟩ (.bool u)) pb db M { P with fs := P.fs.set i { f with used := u' } } v fbs := by
  subst hu
  exact h.set hi hb ((Fr.refl (fun k => k = b) w).setCell (p := ⟨b, 5, none⟩) (.inl rfl) _) ((h.fr i f b hi hb).used u')
set_option maxRecDepth 100000 in
set_option maxHeartbeats 1000000 in
/-- The test of free, of a frame: it may lose its mark. -/
theorem free1_c (h : PoolAt w pb db M P v fbs) {i b bx : Nat} {f : Fm} (hi : P.fs[i]? = some f) (hb : fbs[i]? = some b) (hx : w.cell? ⟨bx, 0, none⟩ = some (.pointer (some ⟨pb, 0, none⟩))) (hbx : ¬ M bx) :
    Calls Try.prog 42 #[.pointer (some ⟨b, 0, none⟩), .pointer (some ⟨bx, 0, none⟩)] w fun e w' => e = .returned (.bool (P.goes f && !f.used)) ∧ PoolAt w' pb db M { P with fs := P.fs.set i { f with used := f.used && !P.goes f } } v fbs ∧ Fr (fun k => k = b) w w' := by
  obtain ⟨f0, f2, f3, f4, f5, y1, y2, y3, y4, y5, -⟩ := (h.fr i f b hi hb).cells
  have HP := Lib.hid h
  have HI := Lib.hid hi
  have HB := Lib.hid hb
  have HM : Hid (FmAt w (Dat M v) b f) := Lib.hid (h.fr i f b hi hb)
  have hfr : ∀ u : Bool, Fr (fun k => k = b) w (w.setCell ⟨b, 5, none⟩ (.bool u)) := fun u => (Fr.refl (fun k => k = b) w).setCell (p := ⟨b, 5, none⟩) (.inl rfl) _
  have HFR := Lib.hid hfr
  clear h hi hb hfr f0 f3 y1 y2 y3 y4
  obtain ⟨r, hr⟩ : ∃ r, r = (P.goes f && !f.used) := ⟨_, rfl⟩
  obtain ⟨u', hu'⟩ : ∃ u', u' = (f.used && !P.goes f) := ⟨_, rfl⟩
  rw [← hr, ← hu']
  by_cases hp0 : f.pins = 0
  · rcases Bool.eq_false_or_eq_true f.dirty with hd | hd
    · rcases Bool.eq_false_or_eq_true (P.may f) with hm | hm
      · have hg : P.goes f = true := by simp [Pl.goes, hp0, hd, hm]
        rw [hp0] at f4
        rw [hd] at f2
        clear hp0 hd
        rcases Bool.eq_false_or_eq_true f.used with hu | hu
        · skip
          rw [hu] at f5
          have hrv : r = false := by rw [hr, hu, hg]; rfl
          have huv : u' = false := by rw [hu', hu, hg]; rfl
          subst hrv
          have HE := Lib.hid huv
          clear hr hu' huv hg
          go_enter Try.func42, Try.ntmps42
          go_wp2_with fail
          refine (pmay_c HP.out b f HM.out).mono ?_
          rintro e w1 ⟨rfl, hf1⟩
          rw [hm]
          obtain ⟨g0, g2, g3, g4, g5, x1, x2, x3, x4, x5, -⟩ := ((HP.out.keep0 hf1).fr i f b HI.out HB.out).cells
          rw [hu] at g5
          have HW := Lib.hid hf1
          clear hf1 g0 g3 x1 x2 x3 x4 hm
          go_wp2_with fail
          go_ret
          exact ⟨rfl, pool_used (HP.out.keep0 HW.out) HI.out HB.out HE.out, ((HW.out.of0).trans ((Fr.refl (fun k => k = b) w1).setCell (p := ⟨b, 5, none⟩) (.inl rfl) _) (fun k hk => .inl hk))⟩
        · skip
          rw [hu] at f5
          have hrv : r = true := by rw [hr, hu, hg]; rfl
          have huv : u' = false := by rw [hu', hu, hg]; rfl
          subst hrv
          have HE := Lib.hid huv
          clear hr hu' huv hg
          go_enter Try.func42, Try.ntmps42
          go_wp2_with fail
          refine (pmay_c HP.out b f HM.out).mono ?_
          rintro e w1 ⟨rfl, hf1⟩
          rw [hm]
          obtain ⟨g0, g2, g3, g4, g5, x1, x2, x3, x4, x5, -⟩ := ((HP.out.keep0 hf1).fr i f b HI.out HB.out).cells
          rw [hu] at g5
          have HW := Lib.hid hf1
          clear hf1 g0 g3 x1 x2 x3 x4 hm
          go_wp2_with fail
          go_ret
          exact ⟨rfl, pool_used (HP.out.keep0 HW.out) HI.out HB.out HE.out, ((HW.out.of0).trans ((Fr.refl (fun k => k = b) w1).setCell (p := ⟨b, 5, none⟩) (.inl rfl) _) (fun k hk => .inl hk))⟩
      · have hg : P.goes f = false := by simp [Pl.goes, hp0, hd, hm]
        rw [hp0] at f4
        rw [hd] at f2
        clear hp0 hd
        rcases Bool.eq_false_or_eq_true f.used with hu | hu
        · skip
          rw [hu] at f5
          have hrv : r = false := by rw [hr, hu, hg]; rfl
          have huv : u' = true := by rw [hu', hu, hg]; rfl
          subst hrv
          have HE := Lib.hid huv
          clear hr hu' huv hg
          go_enter Try.func42, Try.ntmps42
          go_wp2_with fail
          refine (pmay_c HP.out b f HM.out).mono ?_
          rintro e w1 ⟨rfl, hf1⟩
          rw [hm]
          obtain ⟨g0, g2, g3, g4, g5, x1, x2, x3, x4, x5, -⟩ := ((HP.out.keep0 hf1).fr i f b HI.out HB.out).cells
          rw [hu] at g5
          have HW := Lib.hid hf1
          clear hf1 g0 g3 x1 x2 x3 x4 hm
          go_wp2_with fail
          go_ret
          exact ⟨rfl, pool_used (HP.out.keep0 HW.out) HI.out HB.out HE.out, ((HW.out.of0).trans ((Fr.refl (fun k => k = b) w1).setCell (p := ⟨b, 5, none⟩) (.inl rfl) _) (fun k hk => .inl hk))⟩
        · skip
          rw [hu] at f5
          have hrv : r = false := by rw [hr, hu, hg]; rfl
          have huv : u' = false := by rw [hu', hu, hg]; rfl
          subst hrv
          have HE := Lib.hid huv
          clear hr hu' huv hg
          go_enter Try.func42, Try.ntmps42
          go_wp2_with fail
          refine (pmay_c HP.out b f HM.out).mono ?_
          rintro e w1 ⟨rfl, hf1⟩
          rw [hm]
          obtain ⟨g0, g2, g3, g4, g5, x1, x2, x3, x4, x5, -⟩ := ((HP.out.keep0 hf1).fr i f b HI.out HB.out).cells
          rw [hu] at g5
          have HW := Lib.hid hf1
          clear hf1 g0 g3 x1 x2 x3 x4 hm
          go_wp2_with fail
          go_ret
          exact ⟨rfl, pool_used (HP.out.keep0 HW.out) HI.out HB.out HE.out, ((HW.out.of0).trans ((Fr.refl (fun k => k = b) w1).setCell (p := ⟨b, 5, none⟩) (.inl rfl) _) (fun k hk => .inl hk))⟩
    · have hg : P.goes f = true := by simp [Pl.goes, hp0, hd]
      rw [hp0] at f4
      rw [hd] at f2
      clear hp0 hd
      rcases Bool.eq_false_or_eq_true f.used with hu | hu
      · skip
        rw [hu] at f5
        have hrv : r = false := by rw [hr, hu, hg]; rfl
        have huv : u' = false := by rw [hu', hu, hg]; rfl
        subst hrv
        have HE := Lib.hid huv
        clear hr hu' huv hg
        go_enter Try.func42, Try.ntmps42
        go_wp2_with fail
        go_ret
        exact ⟨rfl, pool_used HP.out HI.out HB.out HE.out, HFR.out _⟩
      · skip
        rw [hu] at f5
        have hrv : r = true := by rw [hr, hu, hg]; rfl
        have huv : u' = false := by rw [hu', hu, hg]; rfl
        subst hrv
        have HE := Lib.hid huv
        clear hr hu' huv hg
        go_enter Try.func42, Try.ntmps42
        go_wp2_with fail
        go_ret
        exact ⟨rfl, pool_used HP.out HI.out HB.out HE.out, HFR.out _⟩
  · have hg : P.goes f = false := by simp [Pl.goes, hp0]
    clear f2
    rcases Bool.eq_false_or_eq_true f.used with hu | hu
    · skip
      rw [hu] at f5
      have hrv : r = false := by rw [hr, hu, hg]; rfl
      have huv : u' = true := by rw [hu', hu, hg]; rfl
      subst hrv
      have HE := Lib.hid huv
      clear hr hu' huv hg
      go_enter Try.func42, Try.ntmps42
      go_wp2_with fail
      go_ret
      exact ⟨rfl, pool_used HP.out HI.out HB.out HE.out, HFR.out _⟩
    · skip
      rw [hu] at f5
      have hrv : r = false := by rw [hr, hu, hg]; rfl
      have huv : u' = false := by rw [hu', hu, hg]; rfl
      subst hrv
      have HE := Lib.hid huv
      clear hr hu' huv hg
      go_enter Try.func42, Try.ntmps42
      go_wp2_with fail
      go_ret
      exact ⟨rfl, pool_used HP.out HI.out HB.out HE.out, HFR.out _⟩
end
end Go.Proofs.Ytjfdfjenodianaa
