/-
  heronry/waits: wants as plain data; sound, the closures of has and Drop. heronry/waits: slices.IndexFunc and DeleteFunc at the closures of has and Drop; slices.Clone of wants. (Printed by gen_W11.py.) heronry/waits: has, Sane of wants that may be, Drop. Conditions: none.
-/
import Derived.Test.YtgbaijfgmeealaaGreatK10l
set_option linter.unusedVariables false
set_option linter.unusedSimpArgs false
namespace Go.Proofs.YtgbaijfgmeealaaGreat
open Go.RowKit
structure Wn where
  tx : Int
  block : Int
  mode : Int
def Wn.cells (x : Wn) : List Value := [.int .i64 x.tx, .int .i64 x.block, .int .i64 x.mode]
def Wn.zero : Wn := ⟨0, 0, 0⟩
theorem Wn.len (x : Wn) : x.cells.length = 3 := rfl
theorem Wn.pos (x : Wn) : 0 < x.cells.length := by rw [Wn.len]; decide
theorem Wn.one (x : Wn) : ∀ u ∈ x.cells, u.oneCell' = true := by
  intro v hv
  simp only [Wn.cells, List.mem_cons, List.not_mem_nil, or_false] at hv
  rcases hv with rfl | rfl | rfl <;> rfl
abbrev wnV (x : Wn) : Value := .agg #[.int .i64 x.tx, .int .i64 x.block, .int .i64 x.mode]
/-- A want that may be. -/
structure Wn.Ok (x : Wn) : Prop where
  t0 : 0 ≤ x.tx
  t1 : x.tx < 64
  b0 : 0 ≤ x.block
  b1 : x.block < 256
  m : x.mode = 1 ∨ x.mode = 2
/-- Wants that may be. -/
structure SaneQ (Q : List Wn) : Prop where
  ok : ∀ x ∈ Q, x.Ok
  one : Q.Pairwise fun x y => x.tx ≠ y.tx
  len : Q.length ≤ 64
theorem und_want : ∃ d, Tryz.prog.underlying 46 = some d ∧ aggDesc d = true := ⟨_, Tryz.underlying46, rfl⟩
theorem size_want : (Tryz.prog.info? 46).map (·.size) = some 3 := by kernel_rfl
theorem info_want : (Tryz.prog.info? 46).map (fun i => (i.zero, i.size, i.bytes)) = some (some (.agg #[.int .i64 0, .int .i64 0, .int .i64 0]), 3, 24) := by kernel_rfl
theorem size_queue : (Tryz.prog.info? 28).map (·.size) = some 1 := by kernel_rfl
section
variable {w : World}
set_option maxRecDepth 100000 in
theorem wsound_c (x : Wn) (h : x.Ok) : Calls Tryz.prog 24 #[wnV x] w fun e w' => e = .returned (.bool true) ∧ Fr F0 w w' := by
  obtain ⟨x1, x2, x3⟩ := x
  obtain ⟨t0, t1, b0, b1, hm⟩ := h
  simp only at t0 t1 b0 b1 hm
  have t2 : ¬ (64 : Int) ≤ x1 := by omega
  have b2 : ¬ (256 : Int) ≤ x2 := by omega
  rcases hm with rfl | rfl
  all_goals
    go_enter Tryz.func24, Tryz.ntmps24
    go_wp2_with fail
    go_ret
    exact ⟨by first | rfl | simp, (Fr.refl _ _).alloc _⟩
set_option maxRecDepth 100000 in
theorem has1_c (x : Wn) (tx : Int) (cb : Nat) (hc : w.heap[cb]? = some (.cells #[.int .i64 tx] 3 (0, 0))) : Calls Tryz.prog 69 #[wnV x, .pointer (some ⟨cb, 0, none⟩)] w fun e w' => e = .returned (.bool (decide (x.tx = tx))) ∧ Fr F0 w w' := by
  obtain ⟨x1, x2, x3⟩ := x
  have hcb := lt_of_block hc
  have HF : Hid (Fr F0 w (w.alloc (.cells #[.int .i64 x1, .int .i64 x2, .int .i64 x3] 46))) := Lib.hid ((Fr.refl F0 w).alloc _)
  have q0 : (w.alloc (.cells #[.int .i64 x1, .int .i64 x2, .int .i64 x3] 46)).cell? ⟨cb, 0, none⟩ = some (.int .i64 tx) := by rw [cell_of (keep_alloc hc _)]; rfl
  clear hc
  by_cases h0 : x1 = tx
  · subst h0
    go_enter Tryz.func69, Tryz.ntmps69
    go_wp2_with fail
    go_ret
    exact ⟨by first | rfl | simp, HF.out⟩
  · have hq : (x1 == tx) = false := by simp [h0]
    go_enter Tryz.func69, Tryz.ntmps69
    go_wp2_with fail
    go_ret
    exact ⟨by simp [h0], HF.out⟩
set_option maxRecDepth 100000 in
theorem drop1_c (x : Wn) {A : Option Addr} {n c : Nat} {ls : List Int} (hl : ls.length = n) (hA : ValsAt w A (ls.map (Value.int .i64))) (hn : n ≤ 1000000) (cb : Nat) (hc : w.heap[cb]? = some (.cells #[.slice A n c] 37 (0, 0))) :
    Calls Tryz.prog 55 #[wnV x, .pointer (some ⟨cb, 0, none⟩)] w fun e w' => e = .returned (.bool (ls.contains x.tx)) ∧ Fr F0 w w' := by
  obtain ⟨x1, x2, x3⟩ := x
  have hcb := lt_of_block hc
  have HV := Lib.hid hA
  have HL := Lib.hid hl
  have HF : Hid (Fr F0 w (w.alloc (.cells #[.int .i64 x1, .int .i64 x2, .int .i64 x3] 46))) := Lib.hid ((Fr.refl F0 w).alloc _)
  have q0 : (w.alloc (.cells #[.int .i64 x1, .int .i64 x2, .int .i64 x3] 46)).cell? ⟨cb, 0, none⟩ = some (.slice A n c) := by rw [cell_of (keep_alloc hc _)]; rfl
  clear hc hA hl
  obtain ⟨r, hr⟩ : ∃ r, r = ls.contains x1 := ⟨_, rfl⟩
  have HR := Lib.hid hr
  show Calls Tryz.prog 55 #[wnV ⟨x1, x2, x3⟩, .pointer (some ⟨cb, 0, none⟩)] w fun e w' => e = .returned (.bool (ls.contains x1)) ∧ Fr F0 w w'
  rw [← hr]
  clear hr
  go_enter Tryz.func55, Tryz.ntmps55
  go_wp2_with fail
  refine (contains_c x1 HL.out (HV.out.keep0 HF.out) hn).mono ?_
  rintro e w1 ⟨rfl, hf1⟩
  rw [← HR.out]
  go_wp2_with fail
  go_ret
  exact ⟨rfl, HF.out.then0 hf1⟩
end
end Go.Proofs.YtgbaijfgmeealaaGreat
set_option linter.unusedVariables false
set_option linter.unusedSimpArgs false
namespace Go.Proofs.YtgbaijfgmeealaaGreat
open Go.RowKit
section
variable {w : World} {v : Value} {L : List Wn}
set_option maxRecDepth 100000 in
theorem clone_wn (h : SlV 3 Wn.cells w v L) (hn : L.length ≤ 1000000) : Calls Tryz.prog 42 #[v] w fun e w' => ∃ v', e = .returned v' ∧ w'.ownsRow w.heap.size 46 3 v' L.length (L.flatMap Wn.cells) ∧ Fr F0 w w' := by
  obtain ⟨A, c, rfl, hs, hnil, hsp⟩ := h.ex
  cases A with
  | none =>
    obtain ⟨rfl, rfl⟩ := hnil rfl
    have hq := Lib.run_eql_slice_nil_nil (P := Tryz.prog) w 0 0 Tryz.underlying26
    go_enter Tryz.func42, Tryz.ntmps42
    go_wp2_with fail
    go_ret
    exact ⟨_, rfl, own_nil _ _ _ _, Fr.refl _ _⟩
  | some ad =>
    obtain ⟨b, off, sp⟩ := ad
    have hsp' : sp = none := hsp _ rfl
    subst hsp'
    have HS := Lib.hid (hs.keep0 ((Fr.refl F0 w).alloc (.cells #[] 46)))
    have hq := Lib.run_eql_slice_some_nil (P := Tryz.prog) w ⟨b, off, none⟩ L.length c Tryz.underlying26
    clear hs hnil hsp
    go_enter Tryz.func42, Tryz.ntmps42
    go_wp2_with (at_builtin; refine wpList_append_rowS (f := Wn.cells) rfl (.tmp 5) (.tmp 6) 26 24 (.agg #[.int .i64 0, .int .i64 0, .int .i64 0]) rfl Tryz.underlying26 info_want (by rfl) (by decide) (by decide) Wn.len Wn.one w.heap.size (.slice (some ⟨w.heap.size, 0, none⟩) 0 0) [] L b off c (by rfl) (by rfl) (own_empty w w.heap.size 46 3 (Nat.le_refl _)) HS.out (by simp) (by simp; omega) ?_; intro v1 w1 hown hf1 _)
    go_ret
    exact ⟨_, rfl, hown, ((Fr.refl F0 w).alloc _).trans hf1 (fun k hk => .inr (by cases hk; exact Nat.le_refl _))⟩
set_option maxRecDepth 100000 in
set_option maxHeartbeats 1000000 in
theorem idxw_has (tst : Wn → Bool) (cb : Nat) (h : SlV 3 Wn.cells w v L) (hn : L.length ≤ 1000000) (hso : ∀ W, Fr F0 w W → ∀ x, Calls Tryz.prog 69 #[wnV x, .pointer (some ⟨cb, 0, none⟩)] W fun e w' => e = .returned (.bool (tst x)) ∧ Fr F0 W w') :
    Calls Tryz.prog 75 #[v, .func (.func 69) #[] #[.pointer (some ⟨cb, 0, none⟩)]] w fun e w' => e = .returned (.int .i64 (idxI (L.findIdx? tst))) ∧ Fr F0 w w' := by
  obtain ⟨A, c, rfl, hsr, -⟩ := h.ex
  have HL := Lib.hid hsr
  have HSO := Lib.hid hso
  obtain ⟨n, hnn⟩ : ∃ n, n = L.length := ⟨_, rfl⟩
  have HN := Lib.hid hnn
  rw [← hnn]
  have n0 : (0 : Int) ≤ (n : Int) := Int.natCast_nonneg _
  obtain ⟨d, hu, hd⟩ := und_want
  have HU := Lib.hid hu
  have HDD := Lib.hid hd
  clear h hsr hso hnn hu hd
  go_enter Tryz.func75, Tryz.ntmps75
  go_wp2_with fail
  go_loopg [5, 8] n (fun kq x5 x8 wr => ∃ j : Nat, j ≤ n ∧ kq = n - j ∧ x8 = .int .i64 (j : Int) ∧ (∀ i y, i < j → L[i]? = some y → tst y = false) ∧ Fr F0 w wr)
  case atStart => exact ⟨0, by omega, rfl, rfl, fun i y h => by omega, Fr.refl _ _⟩
  case round =>
    obtain ⟨j, hj, rfl, rfl, hno, hf⟩ := hrel
    have HNO := Lib.hid hno
    have HF := Lib.hid hf
    clear hno hf
    have j0 : (0 : Int) ≤ (j : Int) := Int.natCast_nonneg _
    by_cases hlt : j < n
    · have j1 : (j : Int) < (n : Int) := by omega
      have hjl : j < L.length := by have := HN.out; omega
      obtain ⟨b, off, hA, hc⟩ := (HL.out.keep0 HF.out).get (List.getElem?_eq_getElem hjl) (Wn.pos _)
      subst hA
      have HY := Lib.hid (List.getElem?_eq_getElem hjl)
      obtain ⟨x, hx⟩ : ∃ x, x = L[j] := ⟨_, rfl⟩
      rw [← hx] at hc HY
      clear hx
      have HCS : Hid (∀ i v, x.cells[i]? = some v → wr.cell? ⟨b, off + j * 3 + i, none⟩ = some v) := Lib.hid hc
      clear hc
      obtain ⟨x1, x2, x3⟩ := x
      go_wp2_with (refine wpList_load_at rfl 46 (.tmp 14) rfl b (off + j * 3) (by rfl) (Wn.cells ⟨x1, x2, x3⟩) d HCS.out HU.out HDD.out size_want ?_; simp only [Wn.cells, List.toArray])
      refine (HSO.out _ HF.out ⟨x1, x2, x3⟩).mono ?_
      rintro e w3 ⟨rfl, hf3⟩
      have HF3 := Lib.hid (HF.out.then0 hf3)
      clear hf3
      obtain ⟨tt, htt⟩ : ∃ tt, tt = tst ⟨x1, x2, x3⟩ := ⟨_, rfl⟩
      have HTT := Lib.hid htt
      rw [← htt]
      clear htt
      cases tt with
      | true =>
        go_wp2_with fail
        go_ret
        refine ⟨?_, HF3.out⟩
        have : L.findIdx? tst = some j := by
          rw [List.findIdx?_eq_some_iff_getElem]
          have hyj : L[j] = ⟨x1, x2, x3⟩ := by have := HY.out; rw [List.getElem?_eq_getElem hjl] at this; exact Option.some.inj this
          refine ⟨hjl, by rw [hyj, ← HTT.out], fun i hi => ?_⟩
          have := HNO.out i _ hi (List.getElem?_eq_getElem (by omega))
          simpa using this
        rw [this]; rfl
      | false =>
        go_wp2_with fail
        go_roundg (n - (j + 1))
        case measure => omega
        case rel =>
          refine ⟨j + 1, by omega, rfl, by first | rfl | (go_num), fun i z hi hz => ?_, HF3.out⟩
          by_cases hij : i < j
          · exact HNO.out i z hij hz
          · have : i = j := by omega
            subst this
            rw [HY.out] at hz
            cases hz
            exact HTT.out.symm
    · have hjn : j = n := by omega
      subst hjn
      go_wp2_with fail
      go_ret
      refine ⟨?_, HF.out⟩
      have : L.findIdx? tst = none := by
        rw [List.findIdx?_eq_none_iff]
        intro y hy
        obtain ⟨i, hi⟩ := List.mem_iff_getElem?.1 hy
        have hil := (List.getElem?_eq_some_iff.1 hi).1
        exact HNO.out i y (by rw [HN.out]; exact hil) hi
      rw [this]; rfl
set_option maxRecDepth 100000 in
set_option maxHeartbeats 1000000 in
theorem idxw_drop (tst : Wn → Bool) (cb : Nat) (h : SlV 3 Wn.cells w v L) (hn : L.length ≤ 1000000) (hso : ∀ W, Fr F0 w W → ∀ x, Calls Tryz.prog 55 #[wnV x, .pointer (some ⟨cb, 0, none⟩)] W fun e w' => e = .returned (.bool (tst x)) ∧ Fr F0 W w') :
    Calls Tryz.prog 75 #[v, .func (.func 55) #[] #[.pointer (some ⟨cb, 0, none⟩)]] w fun e w' => e = .returned (.int .i64 (idxI (L.findIdx? tst))) ∧ Fr F0 w w' := by
  obtain ⟨A, c, rfl, hsr, -⟩ := h.ex
  have HL := Lib.hid hsr
  have HSO := Lib.hid hso
  obtain ⟨n, hnn⟩ : ∃ n, n = L.length := ⟨_, rfl⟩
  have HN := Lib.hid hnn
  rw [← hnn]
  have n0 : (0 : Int) ≤ (n : Int) := Int.natCast_nonneg _
  obtain ⟨d, hu, hd⟩ := und_want
  have HU := Lib.hid hu
  have HDD := Lib.hid hd
  clear h hsr hso hnn hu hd
  go_enter Tryz.func75, Tryz.ntmps75
  go_wp2_with fail
  go_loopg [5, 8] n (fun kq x5 x8 wr => ∃ j : Nat, j ≤ n ∧ kq = n - j ∧ x8 = .int .i64 (j : Int) ∧ (∀ i y, i < j → L[i]? = some y → tst y = false) ∧ Fr F0 w wr)
  case atStart => exact ⟨0, by omega, rfl, rfl, fun i y h => by omega, Fr.refl _ _⟩
  case round =>
    obtain ⟨j, hj, rfl, rfl, hno, hf⟩ := hrel
    have HNO := Lib.hid hno
    have HF := Lib.hid hf
    clear hno hf
    have j0 : (0 : Int) ≤ (j : Int) := Int.natCast_nonneg _
    by_cases hlt : j < n
    · have j1 : (j : Int) < (n : Int) := by omega
      have hjl : j < L.length := by have := HN.out; omega
      obtain ⟨b, off, hA, hc⟩ := (HL.out.keep0 HF.out).get (List.getElem?_eq_getElem hjl) (Wn.pos _)
      subst hA
      have HY := Lib.hid (List.getElem?_eq_getElem hjl)
      obtain ⟨x, hx⟩ : ∃ x, x = L[j] := ⟨_, rfl⟩
      rw [← hx] at hc HY
      clear hx
      have HCS : Hid (∀ i v, x.cells[i]? = some v → wr.cell? ⟨b, off + j * 3 + i, none⟩ = some v) := Lib.hid hc
      clear hc
      obtain ⟨x1, x2, x3⟩ := x
      go_wp2_with (refine wpList_load_at rfl 46 (.tmp 14) rfl b (off + j * 3) (by rfl) (Wn.cells ⟨x1, x2, x3⟩) d HCS.out HU.out HDD.out size_want ?_; simp only [Wn.cells, List.toArray])
      refine (HSO.out _ HF.out ⟨x1, x2, x3⟩).mono ?_
      rintro e w3 ⟨rfl, hf3⟩
      have HF3 := Lib.hid (HF.out.then0 hf3)
      clear hf3
      obtain ⟨tt, htt⟩ : ∃ tt, tt = tst ⟨x1, x2, x3⟩ := ⟨_, rfl⟩
      have HTT := Lib.hid htt
      rw [← htt]
      clear htt
      cases tt with
      | true =>
        go_wp2_with fail
        go_ret
        refine ⟨?_, HF3.out⟩
        have : L.findIdx? tst = some j := by
          rw [List.findIdx?_eq_some_iff_getElem]
          have hyj : L[j] = ⟨x1, x2, x3⟩ := by have := HY.out; rw [List.getElem?_eq_getElem hjl] at this; exact Option.some.inj this
          refine ⟨hjl, by rw [hyj, ← HTT.out], fun i hi => ?_⟩
          have := HNO.out i _ hi (List.getElem?_eq_getElem (by omega))
          simpa using this
        rw [this]; rfl
      | false =>
        go_wp2_with fail
        go_roundg (n - (j + 1))
        case measure => omega
        case rel =>
          refine ⟨j + 1, by omega, rfl, by first | rfl | (go_num), fun i z hi hz => ?_, HF3.out⟩
          by_cases hij : i < j
          · exact HNO.out i z hij hz
          · have : i = j := by omega
            subst this
            rw [HY.out] at hz
            cases hz
            exact HTT.out.symm
    · have hjn : j = n := by omega
      subst hjn
      go_wp2_with fail
      go_ret
      refine ⟨?_, HF.out⟩
      have : L.findIdx? tst = none := by
        rw [List.findIdx?_eq_none_iff]
        intro y hy
        obtain ⟨i, hi⟩ := List.mem_iff_getElem?.1 hy
        have hil := (List.getElem?_eq_some_iff.1 hi).1
        exact HNO.out i y (by rw [HN.out]; exact hil) hi
      rw [this]; rfl
set_option maxRecDepth 100000 in
set_option maxHeartbeats 2000000 in
theorem delw_drop (tst : Wn → Bool) (cb : Nat) {base : Nat} (h : w.ownsRow base 46 3 v L.length (L.flatMap Wn.cells)) (hn : L.length ≤ 1000000) (hso : ∀ W, Fr (fun k => v.ownBlock = some k) w W → ∀ x, Calls Tryz.prog 55 #[wnV x, .pointer (some ⟨cb, 0, none⟩)] W fun e w' => e = .returned (.bool (tst x)) ∧ Fr F0 W w') :
    Calls Tryz.prog 54 #[v, .func (.func 55) #[] #[.pointer (some ⟨cb, 0, none⟩)]] w fun e w' => ∃ v', e = .returned v' ∧ w'.ownsRow base 46 3 v' (L.filter fun x => !tst x).length ((L.filter fun x => !tst x).flatMap Wn.cells) ∧ Fr (fun k => v.ownBlock = some k) w w' := by
  have HW := Lib.hid h
  have HSV := Lib.hid (SlV.of_own Wn.len h)
  have HSO := Lib.hid hso
  obtain ⟨n, hnn⟩ : ∃ n, n = L.length := ⟨_, rfl⟩
  have HN := Lib.hid hnn
  obtain ⟨d, hu, hd⟩ := und_want
  have HU := Lib.hid hu
  have HDD := Lib.hid hd
  clear hso hu hd
  cases hix : L.findIdx? tst with
  | none =>
    have HIX := Lib.hid hix
    clear h hnn hix
    go_enter Tryz.func54, Tryz.ntmps54
    go_wp2_with fail
    refine (idxw_drop tst cb HSV.out (by assumption) (fun W hW x => HSO.out W hW.of0 x)).mono ?_
    rintro e w1 ⟨rfl, hf1⟩
    rw [HIX.out]
    simp only [idxI]
    go_wp2_with fail
    go_ret
    refine ⟨_, rfl, ?_, hf1.of0⟩
    rw [idx_none_filter tst HIX.out]
    exact own_keep0 HW.out hf1
  | some i0 =>
    obtain ⟨hi0, hfi0⟩ := idx_filter tst hix
    have HFI := Lib.hid hfi0
    have HIX := Lib.hid hix
    rcases h.2 with ⟨rfl, h0⟩ | ⟨g, cap, cur0, rfl, hb, hh, hcap1, hcap2, -, -⟩
    · exfalso; omega
    have hi0n : i0 < n := by omega
    have hn' : n ≤ 1000000 := by omega
    rw [← hnn] at hcap1
    have HCAP : Hid (n ≤ cap) := Lib.hid hcap1
    have HCAP2 : Hid (cap ≤ maxLen) := Lib.hid hcap2
    rw [← hnn] at h hi0
    clear h hnn hix hfi0 hh cur0 hb hcap1 hcap2 hi0
    rw [← HN.out]
    have q0 : (0 : Int) ≤ (i0 : Int) := Int.natCast_nonneg _
    have q1 : ((i0 : Int) == -1) = false := by simp
    have q2 : IntKind.i64.wrap ((i0 : Int) + 1) = ((i0 + 1 : Nat) : Int) := by rw [IntKind.wrap_i64]; omega
    go_enter Tryz.func54, Tryz.ntmps54
    go_wp2_with fail
    refine (idxw_drop tst cb (by rw [HN.out]; exact HSV.out) (by rw [← HN.out]; exact hn') (fun W hW x => HSO.out W hW.of0 x)).mono ?_
    rintro e w1 ⟨rfl, hf1⟩
    rw [HIX.out]
    simp only [idxI]
    go_wp2_with fail
    go_loopg [5, 6, 7] (n - (i0 + 1)) (fun kq x5 x6 x7 wr => ∃ (i j : Nat) (R : List Wn), i < j ∧ j ≤ n ∧ kq = n - j ∧ x5 = .int .i64 (i : Int) ∧ x6 = .int .i64 (j : Int) ∧ R.length = n ∧ R.take i = (L.take j).filter (fun x => !tst x) ∧ (∀ p, j ≤ p → R[p]? = L[p]?) ∧ wr.ownsRow base 46 3 (.slice (some ⟨g, 0, none⟩) n cap) n (R.flatMap Wn.cells) ∧ Fr (fun k => k = g) w wr)
    case atStart => exact ⟨i0, i0 + 1, L, by omega, by omega, rfl, rfl, rfl, HN.out.symm, HFI.out.symm, fun _ _ => rfl, by have := HW.out; rw [← HN.out] at this; exact own_keep0 this hf1, hf1.of0⟩
    case round =>
      obtain ⟨i, j, R, hij, hjn, rfl, rfl, rfl, hR, hRi, hRj, hown, hf⟩ := hrel
      have HR := Lib.hid hR
      have HRI := Lib.hid hRi
      have HRJ := Lib.hid hRj
      have HO := Lib.hid hown
      have HF := Lib.hid hf
      clear hR hRi hRj hown hf
      have j0 : (0 : Int) ≤ (j : Int) := Int.natCast_nonneg _
      have i00 : (0 : Int) ≤ (i : Int) := Int.natCast_nonneg _
      by_cases hlt : j < n
      · have j1 : (j : Int) < (n : Int) := by omega
        have i1 : (i : Int) < (n : Int) := by omega
        have i2 : IntKind.i64.wrap ((i : Int) + 1) = ((i + 1 : Nat) : Int) := by rw [IntKind.wrap_i64]; omega
        have j2 : IntKind.i64.wrap ((j : Int) + 1) = ((j + 1 : Nat) : Int) := by rw [IntKind.wrap_i64]; omega
        have hjl : j < R.length := by have := HR.out; omega
        obtain ⟨A', c', e', hsr, -⟩ := SrAt.of_own Wn.len (by rw [HR.out]; exact HO.out)
        rw [HR.out] at e'
        cases e'
        obtain ⟨b, off, hA, hc⟩ := hsr.get (List.getElem?_eq_getElem hjl) (Wn.pos _)
        cases hA
        clear hsr
        have HY := Lib.hid (List.getElem?_eq_getElem hjl)
        obtain ⟨x, hx⟩ : ∃ x, x = R[j] := ⟨_, rfl⟩
        rw [← hx] at hc HY
        clear hx
        have HCS : Hid (∀ i v, x.cells[i]? = some v → wr.cell? ⟨g, j * 3 + i, none⟩ = some v) := Lib.hid (by simpa using hc)
        clear hc
        have HFX : Hid (Fr (fun k => k = g) w (wr.alloc (.cells x.cells.toArray 46))) := Lib.hid (HF.out.alloc _)
        have HOX : Hid ((wr.alloc (.cells x.cells.toArray 46)).ownsRow base 46 3 (.slice (some ⟨g, 0, none⟩) n cap) n (R.flatMap Wn.cells)) := Lib.hid (own_keep0 HO.out ((Fr.refl _ _).alloc _))
        have HXB : Hid ((wr.alloc (.cells x.cells.toArray 46)).heap[wr.heap.size]? = some (.cells x.cells.toArray 46 (0, 0))) := Lib.hid (alloc_at rfl _)
        obtain ⟨x1, x2, x3⟩ := x
        go_wp2_with (first | (refine wpList_load_at rfl 46 (.tmp 24) rfl g (j * 3) (by rfl) (Wn.cells ⟨x1, x2, x3⟩) d HCS.out HU.out HDD.out size_want ?_) | (refine wpList_store_fresh rfl 46 (.tmp 7) (.tmp 25) rfl (Wn.cells ⟨x1, x2, x3⟩).toArray (by rfl) (by rfl) 46 #[.int .i64 0, .int .i64 0, .int .i64 0] size_want rfl (by simp [Wn.cells, Value.oneCell']) ?_; simp only [Wn.cells, List.toArray]))
        obtain ⟨xb, hxb⟩ : ∃ xb, xb = wr.heap.size := ⟨_, rfl⟩
        rw [← hxb] at HXB ⊢
        clear hxb
        refine (HSO.out _ (HFX.out.mono fun k hk => by rw [hk]; rfl) ⟨x1, x2, x3⟩).mono ?_
        rintro e w3 ⟨rfl, hf3⟩
        have HF3 := Lib.hid (HFX.out.then0 hf3)
        have HO3 := Lib.hid (own_keep0 HOX.out hf3)
        have HX3 : Hid (∀ i v, (Wn.cells ⟨x1, x2, x3⟩)[i]? = some v → w3.cell? ⟨xb, 0 + i, none⟩ = some v) := Lib.hid (fun i v hv => by rw [cell_of (hf3.keep0 HXB.out)]; simpa using hv)
        have hLj : L[j]? = some ⟨x1, x2, x3⟩ := by rw [← HRJ.out j (Nat.le_refl j)]; exact HY.out
        have HFT := Lib.hid (filter_take (fun x => !tst x) hLj)
        clear hf3 hLj
        obtain ⟨tt, htt⟩ : ∃ tt, tt = tst ⟨x1, x2, x3⟩ := ⟨_, rfl⟩
        have HTT := Lib.hid htt
        rw [← htt]
        clear htt
        cases tt with
        | true =>
          go_wp2_with fail
          go_roundg (n - (j + 1))
          case measure => omega
          case rel =>
            refine ⟨i, j + 1, R, by omega, by omega, rfl, rfl, by first | rfl | (go_num), HR.out, ?_, fun p hp => HRJ.out p (by omega), HO3.out, HF3.out⟩
            rw [HFT.out, ← HTT.out, HRI.out]
            simp
        | false =>
          obtain ⟨cur, hcur, hfit, hown4⟩ := own_set Wn.len HO3.out HR.out (by omega : i < n) ⟨x1, x2, x3⟩
          have HC4 := Lib.hid hcur
          have HFIT := Lib.hid hfit
          have HO4 := Lib.hid hown4
          have HF4 : Hid (Fr (fun k => k = g) w (w3.setRow g (splat cur (i * 3) (Wn.cells ⟨x1, x2, x3⟩)).toArray)) := Lib.hid (HF3.out.setRow (.inl rfl) _)
          clear hcur hfit hown4
          go_wp2_with (first | (refine wpList_load_at rfl 46 (.tmp 7) rfl xb 0 (by rfl) (Wn.cells ⟨x1, x2, x3⟩) d HX3.out HU.out HDD.out size_want ?_) | (refine wpList_store_at rfl 46 (.tmp 33) (.tmp 32) rfl g (i * 3) (Wn.cells ⟨x1, x2, x3⟩) (by rfl) (by rfl) 46 cur HC4.out size_want HFIT.out (Wn.one _) ?_))
          go_roundg (n - (j + 1))
          case measure => omega
          case rel =>
            refine ⟨i + 1, j + 1, R.set i ⟨x1, x2, x3⟩, by omega, by omega, rfl, by first | rfl | (go_num), by first | rfl | (go_num), by rw [List.length_set]; exact HR.out, ?_, fun p hp => ?_, HO4.out, HF4.out⟩
            · rw [HFT.out, ← HTT.out, set_take (by rw [HR.out]; omega), HRI.out]
              simp
            · rw [List.getElem?_set_ne (by omega)]
              exact HRJ.out p (by omega)
      · have hjn' : j = n := by omega
        subst hjn'
        have HRL : Hid (R.take i = L.filter fun x => !tst x) := Lib.hid (by rw [HRI.out, List.take_of_length_le (by rw [← HN.out]; exact Nat.le_refl _)])
        have hic : i < cap := Nat.lt_of_lt_of_le hij HCAP.out
        have hic1 : ¬ cap - i = 0 := by omega
        have hic2 : ¬ cap ≤ i := by omega
        go_wp2_with (refine wpList_clear_own (f := Wn.cells) rfl (.tmp 38) 26 rfl Wn.len HO.out HR.out (i := i) hij _ (by rfl) Tryz.underlying26 Tryz.zeroValue46 (by rfl) (by simp [Value.cells, Value.oneCell']) (by decide) ?_; intro w4 hown4 hf4)
        go_ret
        have hl : (R.take i).length = i := by rw [List.length_take, HR.out]; omega
        refine ⟨_, rfl, ?_, (HF.out.trans hf4 (fun k hk => .inl hk)).mono (fun k hk => by subst hk; rfl)⟩
        rw [← HRL.out, hl]
        exact hown4
end
end Go.Proofs.YtgbaijfgmeealaaGreat
set_option linter.unusedVariables false
set_option linter.unusedSimpArgs false
namespace Go.Proofs.YtgbaijfgmeealaaGreat
open Go.RowKit
open Go.ChangeMaps (setBlock)
theorem idx_any {α : Type} (p : α → Bool) (L : List α) : decide (0 ≤ idxI (L.findIdx? p)) = L.any p := by
  cases h : L.findIdx? p with
  | some i =>
    rw [List.findIdx?_eq_some_iff_getElem] at h
    obtain ⟨hi, he, _⟩ := h
    have e1 : (0 : Int) ≤ idxI (some i) := Int.natCast_nonneg _
    rw [decide_eq_true e1]
    symm
    rw [List.any_eq_true]
    exact ⟨_, List.getElem_mem hi, he⟩
  | none =>
    rw [List.findIdx?_eq_none_iff] at h
    have e1 : ¬ (0 : Int) ≤ idxI none := by decide
    rw [decide_eq_false e1]
    symm
    rw [List.any_eq_false]
    intro x hx
    simp [h x hx]
def hasQ (Q : List Wn) (tx : Int) : Bool := Q.any fun x => decide (x.tx = tx)
def dropQ (Q : List Wn) (ls : List Int) : List Wn := Q.filter fun x => !(ls.contains x.tx)
theorem zero_bool9 (w : World) : (zeroValue 4).run Tryz.prog w = .ok (.bool false) w := Tryz.zeroValue4 w
section
variable {w : World} {v : Value} {Q : List Wn}
set_option maxRecDepth 100000 in
theorem contw_c (tst : Wn → Bool) (cb : Nat) (h : SlV 3 Wn.cells w v Q) (hn : Q.length ≤ 1000000) (hso : ∀ W, Fr F0 w W → ∀ x, Calls Tryz.prog 69 #[wnV x, .pointer (some ⟨cb, 0, none⟩)] W fun e w' => e = .returned (.bool (tst x)) ∧ Fr F0 W w') :
    Calls Tryz.prog 68 #[v, .func (.func 69) #[] #[.pointer (some ⟨cb, 0, none⟩)]] w fun e w' => e = .returned (.bool (Q.any tst)) ∧ Fr F0 w w' := by
  have HQ := Lib.hid h
  have HSO := Lib.hid hso
  rw [← idx_any]
  obtain ⟨ix, hix⟩ : ∃ ix, ix = idxI (Q.findIdx? tst) := ⟨_, rfl⟩
  rw [← hix]
  have HIX := Lib.hid hix
  clear hix h hso
  go_enter Tryz.func68, Tryz.ntmps68
  go_wp2_with fail
  refine (idxw_has tst cb HQ.out hn HSO.out).mono ?_
  rintro e w1 ⟨rfl, hf1⟩
  rw [← HIX.out]
  go_wp2_with fail
  go_ret
  exact ⟨by first | rfl | simp, hf1⟩
set_option maxRecDepth 100000 in
theorem has_c (tx : Int) (h : SlV 3 Wn.cells w v Q) (hn : Q.length ≤ 1000000) : Calls Tryz.prog 41 #[.agg #[v], .int .i64 tx] w fun e w' => e = .returned (.bool (hasQ Q tx)) ∧ Fr F0 w w' := by
  have HQ := Lib.hid h
  obtain ⟨A, c, rfl, -⟩ := h.ex
  have HF0 : Hid (Fr F0 w ((w.alloc (.cells #[.slice A Q.length c] 28)).alloc (.cells #[.int .i64 tx] 3))) := Lib.hid (((Fr.refl F0 w).alloc _).alloc _)
  have HB : Hid (((w.alloc (.cells #[.slice A Q.length c] 28)).alloc (.cells #[.int .i64 tx] 3)).heap[w.heap.size + 1]? = some (.cells #[.int .i64 tx] 3 (0, 0))) := Lib.hid (alloc_at (by simp) _)
  clear h
  go_enter Tryz.func41, Tryz.ntmps41
  go_wp2_with fail
  refine (contw_c (fun x => decide (x.tx = tx)) (w.heap.size + 1) (HQ.out.keep0 HF0.out) hn (fun W hW x => has1_c x tx _ (hW.keep0 HB.out))).mono ?_
  rintro e w1 ⟨rfl, hf1⟩
  have HF1 := Lib.hid (HF0.out.then0 hf1)
  obtain ⟨r, hr⟩ : ∃ r, r = Q.any (fun x => decide (x.tx = tx)) := ⟨_, rfl⟩
  have HR : Hid (hasQ Q tx = r) := Lib.hid hr.symm
  rw [← hr]
  clear hr hf1
  go_wp2_with fail
  go_ret
  exact ⟨by rw [HR.out]; rfl, HF1.out⟩
set_option maxRecDepth 100000 in
theorem drop_c {A' : Option Addr} {n c' : Nat} {ls : List Int} (hl : ls.length = n) (hA : ValsAt w A' (ls.map (Value.int .i64))) (hnl : n ≤ 1000000) (h : SlV 3 Wn.cells w v Q) (hn : Q.length ≤ 1000000) :
    Calls Tryz.prog 29 #[.agg #[v], .slice A' n c'] w fun e w' => ∃ v', e = .returned (.agg #[v']) ∧ SlV 3 Wn.cells w' v' (dropQ Q ls) ∧ Fr F0 w w' := by
  have HL := Lib.hid h
  have HV := Lib.hid hA
  have HLL := Lib.hid hl
  obtain ⟨A, c, rfl, -⟩ := h.ex
  have HF0 : Hid (Fr F0 w (((w.alloc (.cells #[.slice A Q.length c] 28)).alloc (.cells #[.slice A' n c'] 37)).alloc (.cells #[.slice none 0 0] 28))) := Lib.hid ((((Fr.refl F0 w).alloc _).alloc _).alloc _)
  have HB : Hid ((((w.alloc (.cells #[.slice A Q.length c] 28)).alloc (.cells #[.slice A' n c'] 37)).alloc (.cells #[.slice none 0 0] 28)).heap[w.heap.size + 1]? = some (.cells #[.slice A' n c'] 37 (0, 0))) := Lib.hid (keep_alloc (alloc_at (by simp) _) _)
  have HR : Hid ((((w.alloc (.cells #[.slice A Q.length c] 28)).alloc (.cells #[.slice A' n c'] 37)).alloc (.cells #[.slice none 0 0] 28)).heap[w.heap.size + 2]? = some (.cells #[.slice none 0 0] 28 (0, 0))) := Lib.hid (alloc_at (by simp) _)
  have HSZ : Hid ((((w.alloc (.cells #[.slice A Q.length c] 28)).alloc (.cells #[.slice A' n c'] 37)).alloc (.cells #[.slice none 0 0] 28)).heap.size = w.heap.size + 3) := Lib.hid (by simp)
  clear h hA hl
  go_enter Tryz.func29, Tryz.ntmps29
  go_wp2_with fail
  refine (clone_wn (HL.out.keep0 HF0.out) hn).mono ?_
  rintro e w1 ⟨v1, rfl, hown1, hf1⟩
  have HO1 := Lib.hid hown1
  have HF1 := Lib.hid (HF0.out.then0 hf1)
  have HB1 := Lib.hid (hf1.keep0 HB.out)
  have HR1 := Lib.hid (hf1.keep0 HR.out)
  clear hown1 hf1
  go_wp2_with fail
  refine (delw_drop (fun x => ls.contains x.tx) (w.heap.size + 1) HO1.out hn (fun W hW x => drop1_c x HLL.out ?_ hnl _ (hW.keep HB1.out (fun hk => by have := own_ge HO1.out hk; rw [HSZ.out] at this; omega)))).mono ?_
  · have hw : Fr F0 w W := HF1.out.trans hW (fun k hk => .inr (by have := own_ge HO1.out hk; rw [HSZ.out] at this; omega))
    exact HV.out.keep0 hw
  rintro e w2 ⟨v2, rfl, hown2, hf2⟩
  have hs2 : SlV 3 Wn.cells w2 v2 (dropQ Q ls) := SlV.of_own Wn.len hown2
  have HF2 : Hid (Fr F0 w w2) := Lib.hid (HF1.out.trans hf2 (fun k hk => .inr (by have := own_ge HO1.out hk; rw [HSZ.out] at this; omega)))
  have HR2 : Hid (w2.heap[w.heap.size + 2]? = some (.cells #[.slice none 0 0] 28 (0, 0))) := Lib.hid (hf2.keep HR1.out (fun hk => by have := own_ge HO1.out hk; rw [HSZ.out] at this; omega))
  obtain ⟨A2, c2, rfl, -⟩ := hs2.ex
  obtain ⟨n2, hn2⟩ : ∃ n2, n2 = (dropQ Q ls).length := ⟨_, rfl⟩
  rw [← hn2] at hs2 ⊢
  have hf3 : Fr (fun k => k = w.heap.size + 2) w2 (w2.setCell ⟨w.heap.size + 1 + 1, 0, none⟩ (.slice A2 n2 c2)) := (Fr.refl _ _).setCell (by exact .inl rfl) _
  have HR3 : Hid ((w2.setCell ⟨w.heap.size + 1 + 1, 0, none⟩ (.slice A2 n2 c2)).heap[w.heap.size + 2]? = some (.cells #[.slice A2 n2 c2] 28 (0, 0))) := Lib.hid (by rw [set_cell HR2.out]; rfl)
  have HS3 := Lib.hid (hs2.box Wn.len HR2.out (by show 1 < 3; decide) hf3)
  have HF3 := Lib.hid (HF2.out.trans hf3 (fun k hk => .inr (by omega)))
  clear hown2 hf2 hs2 hn2 hf3
  have q1 : w2.cell? ⟨w.heap.size + 1 + 1, 0, none⟩ = some (.slice none 0 0) := by rw [cell_of HR2.out]; rfl
  have q2 : w2.frozen? ⟨w.heap.size + 1 + 1, 0, none⟩ = false := free_of HR2.out 0
  go_wp2_with fail
  exact bodyPost_ret (results_cell_row rfl _ _ (w.heap.size + 2) _ _ _ _ (by rfl) HR3.out Tryz.underlying28 rfl (by kernel_rfl)) rfl ⟨_, rfl, HS3.out, HF3.out⟩
set_option maxRecDepth 100000 in
set_option maxHeartbeats 4000000 in
theorem qsane_c (h : SlV 3 Wn.cells w v Q) (hs : SaneQ Q) : Calls Tryz.prog 9 #[.agg #[v]] w fun e w' => e = .returned (.bool true) ∧ Fr F0 w w' := by
  obtain ⟨A, c, rfl, hsr, -⟩ := h.ex
  have HL := Lib.hid hsr
  have HS := Lib.hid hs
  obtain ⟨n, hnn⟩ : ∃ n, n = Q.length := ⟨_, rfl⟩
  have HN := Lib.hid hnn
  have hn64 : n ≤ 64 := by rw [hnn]; exact hs.len
  rw [← hnn]
  have n0 : (0 : Int) ≤ (n : Int) := Int.natCast_nonneg _
  obtain ⟨W, hW⟩ : ∃ W, W = (w.alloc (.cells #[.slice A n c] 28)).alloc (.map #[] 0) := ⟨_, rfl⟩
  have HF0 : Hid (Fr F0 w W) := Lib.hid (by rw [hW]; exact ((Fr.refl F0 w).alloc _).alloc _)
  have HB : Hid (W.heap[w.heap.size]? = some (.cells #[.slice A n c] 28 (0, 0))) := Lib.hid (by rw [hW]; exact keep_alloc (alloc_at rfl _) _)
  have HM : Hid (W.heap[w.heap.size + 1]? = some (.map #[] 0)) := Lib.hid (by rw [hW]; exact alloc_at (by simp) _)
  have HW := Lib.hid hW
  obtain ⟨d, hu, hd⟩ := und_want
  have HU := Lib.hid hu
  have HDD := Lib.hid hd
  have hmm := @run_makeMap Tryz.prog
  clear h hsr hs hnn hu hd hW
  go_enter Tryz.func9, Tryz.ntmps9
  go_wp2_with fail
  rw [← HW.out]
  clear hmm
  go_loopg [5, 10] n (fun kq x5 x10 wr => ∃ (j : Nat) (es : Array MapEntry) (clock : Nat) (f : Value → Option Value), j ≤ n ∧ kq = n - j ∧ x10 = .int .i64 (j : Int) ∧ wr.heap[w.heap.size]? = some (.cells #[.slice A n c] 28 (0, 0)) ∧ wr.heap[w.heap.size + 1]? = some (.map es clock) ∧ MapIs Tryz.prog 3 es clock f ∧ (∀ y, f y ≠ none → ∃ (i : Nat) (x : Wn), i < j ∧ Q[i]? = some x ∧ y = .int .i64 x.tx) ∧ Fr F0 w wr)
  case atStart => exact ⟨0, #[], 0, fun _ => none, by omega, rfl, rfl, HB.out, HM.out, MapIs.empty _ _ _, fun y h => absurd rfl h, HF0.out⟩
  case round =>
    obtain ⟨j, es, clock, f, hj, rfl, rfl, hb, hm, hmi, hfk, hf⟩ := hrel
    have HBR := Lib.hid hb
    have HMR := Lib.hid hm
    have HMI := Lib.hid hmi
    have HFK := Lib.hid hfk
    have HF := Lib.hid hf
    clear hb hm hmi hfk hf
    have j0 : (0 : Int) ≤ (j : Int) := Int.natCast_nonneg _
    by_cases hlt : j < n
    · have j1 : (j : Int) < (n : Int) := by omega
      have hjl : j < Q.length := by have := HN.out; omega
      obtain ⟨b, off, rfl, hc⟩ := (HL.out.keep0 HF.out).get (List.getElem?_eq_getElem hjl) (Wn.pos _)
      have HLJ := Lib.hid (List.getElem?_eq_getElem hjl)
      have hok := HS.out.ok Q[j] (List.getElem_mem hjl)
      obtain ⟨x, hx⟩ : ∃ x, x = Q[j] := ⟨_, rfl⟩
      rw [← hx] at hc HLJ hok
      clear hx
      have HOK := Lib.hid hok
      have HCS : Hid (∀ i v, x.cells[i]? = some v → wr.cell? ⟨b, off + j * 3 + i, none⟩ = some v) := Lib.hid hc
      have HKEY := Lib.hid (key9 x.tx hok.t0 (by have := hok.t1; omega))
      have HFN : Hid (f (.int .i64 x.tx) = none) := Lib.hid (by
        cases hfx : f (.int .i64 x.tx) with
        | none => rfl
        | some u =>
          obtain ⟨i, y, hi, hy, he⟩ := HFK.out _ (by rw [hfx]; simp)
          have e1 : x.tx = y.tx := by injection he
          obtain ⟨hil, hyi⟩ := List.getElem?_eq_some_iff.1 hy
          have h5 := List.pairwise_iff_getElem.1 HS.out.one i j hil hjl hi
          have h6 : Q[j] = x := by have := HLJ.out; rw [List.getElem?_eq_getElem hjl] at this; exact Option.some.inj this
          rw [hyi, h6] at h5
          exact absurd e1.symm h5)
      clear hc hok
      obtain ⟨x1, x2, x3⟩ := x
      have HFX : Hid (Fr F0 wr (wr.alloc (.cells #[.int .i64 x1, .int .i64 x2, .int .i64 x3] 46))) := Lib.hid ((Fr.refl _ _).alloc _)
      have HXB : Hid ((wr.alloc (.cells #[.int .i64 x1, .int .i64 x2, .int .i64 x3] 46)).heap[wr.heap.size]? = some (.cells #[.int .i64 x1, .int .i64 x2, .int .i64 x3] 46 (0, 0))) := Lib.hid (alloc_at rfl _)
      go_wp2_with (first | (refine wpList_load_at rfl 46 (.tmp 12) rfl b (off + j * 3) (by rfl) (Wn.cells ⟨x1, x2, x3⟩) d HCS.out HU.out HDD.out size_want ?_) | (refine wpList_store_fresh rfl 46 (.tmp 5) (.tmp 13) rfl (Wn.cells ⟨x1, x2, x3⟩).toArray (by rfl) (by rfl) 46 #[.int .i64 0, .int .i64 0, .int .i64 0] size_want rfl (by simp [Wn.cells, Value.oneCell']) ?_; simp only [Wn.cells, List.toArray]))
      obtain ⟨xb, hxb⟩ : ∃ xb, xb = wr.heap.size := ⟨_, rfl⟩
      rw [← hxb] at HXB ⊢
      clear hxb
      refine (wsound_c ⟨x1, x2, x3⟩ HOK.out).mono ?_
      rintro e w3 ⟨rfl, hf3⟩
      have hf13 := HFX.out.then0 hf3
      have HB3 := Lib.hid (hf13.keep0 HBR.out)
      have hm3 := hf13.keep0 HMR.out
      have HM3 := Lib.hid hm3
      have HF3 := Lib.hid (HF.out.then0 hf13)
      have hxb3 := hf3.keep0 HXB.out
      have k1 : w3.cell? ⟨xb, 0, none⟩ = some (.int .i64 x1) := by rw [cell_of hxb3]; rfl
      have hlook := HMI.out.look (t := 63) (e := 4) keyed9_int und9_met hm3 HKEY.out (zero_bool9 w3) false
      have hfn := HFN.out
      rw [hfn] at hlook
      simp only [Option.getD_none, Option.isSome_none, if_false, Bool.false_eq_true] at hlook
      clear hf13 hf3 hm3 hxb3 hfn
      go_wp2_with (refine wpList_mapUpdate_is rfl (.tmp 23) (.tmp 25) (.const (.bool true)) 63 rfl keyed9_int und9_met (w.heap.size + 1) HM3.out HMI.out (by rfl) (.int .i64 x1) (.bool true) (by rfl) (by rfl) HKEY.out ?_; intro es' clock' hM')
      go_roundg (n - (j + 1))
      case measure => omega
      case rel =>
        refine ⟨j + 1, es', clock', _, by omega, rfl, by first | rfl | (go_num), keep_setBlock HB3.out (by omega) _, set_block HM3.out _, hM', fun y hy => ?_, HF3.out.setBlock (by exact .inr (by omega)) _⟩
        by_cases hyx : y = .int .i64 x1
        · exact ⟨j, ⟨x1, x2, x3⟩, by omega, HLJ.out, hyx⟩
        · rw [upd_other _ _ _ hyx] at hy
          obtain ⟨i, z, hi, hz, he⟩ := HFK.out y hy
          exact ⟨i, z, by omega, hz, he⟩
    · have hjn : j = n := by omega
      subst hjn
      have q0 : wr.cell? ⟨w.heap.size, 0, none⟩ = some (.slice A j c) := by rw [cell_of HBR.out]; rfl
      have j64 : (j : Int) ≤ 64 := by omega
      go_wp2_with fail
      go_ret
      exact ⟨by first | rfl | simp [hn64], HF.out⟩
end
end Go.Proofs.YtgbaijfgmeealaaGreat
