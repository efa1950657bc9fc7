/-
  A pool's places, Held, Dirty, Unpin. Conditions: none.
-/
import Derived.Test.YtjfdfjenodianaaK17g
import Derived.Sort.OwnSortedInts
set_option linter.unusedVariables false
set_option linter.unusedSimpArgs false
namespace Go.Proofs.Ytjfdfjenodianaa
open Go.RowKit
theorem info_int : (Try.prog.info? 3).map (fun i => (i.zero, i.size, i.bytes)) = some (some (.int .i64 0), 1, 8) := by kernel_rfl
theorem und_ints : Try.prog.underlying 41 = some (.slice 3) := by kernel_rfl
/-- The places of the frames of which something is so, rising. -/
def Pl.ats (P : Pl) (test : Fm → Bool) : List Int := (P.fs.filter test).map Fm.at_
def Pl.listed (P : Pl) (test : Fm → Bool) : List Int := (P.ats test).mergeSort fun x y => decide (x ≤ y)
def atsTo (P : Pl) (test : Fm → Bool) (j : Nat) : List Int := ((P.fs.take j).filter test).map Fm.at_
theorem atsTo_len (P : Pl) (test : Fm → Bool) (j : Nat) : (atsTo P test j).length ≤ j := by
  unfold atsTo
  rw [List.length_map]
  have h1 := List.length_filter_le test (P.fs.take j)
  rw [List.length_take] at h1
  omega
theorem atsTo_yes {P : Pl} {test : Fm → Bool} {j : Nat} {f : Fm} (h : P.fs[j]? = some f) (ht : test f = true) : atsTo P test (j + 1) = atsTo P test j ++ [f.at_] := by
  unfold atsTo
  rw [List.take_add_one, h]
  simp [ht]
theorem atsTo_no {P : Pl} {test : Fm → Bool} {j : Nat} {f : Fm} (h : P.fs[j]? = some f) (ht : test f = false) : atsTo P test (j + 1) = atsTo P test j := by
  unfold atsTo
  rw [List.take_add_one, h]
  simp [ht]
section
variable {w : World} {M : Nat → Prop} {pb db lb mb : Nat} {P : Pl} {v : Value} {fbs : List Nat} {D : Dev}
/-- A row of numbers that was made. -/
structure Listed (w w' : World) (e : Ending) (l : List Int) : Prop where
  ex : ∃ A c, e = .returned (.slice A l.length c) ∧ ValsAt w' A (l.map (Value.int .i64)) ∧ (∀ ad, A = some ad → w.heap.size ≤ ad.block) ∧ Fr F0 w w'
set_option maxRecDepth 100000 in
theorem held1_c (fb : Nat) : Calls Try.prog 34 #[.pointer (some ⟨fb, 0, none⟩)] w fun e w' => e = .returned (.bool true) ∧ Fr F0 w w' := by
  go_enter Try.func34, Try.ntmps34
  go_wp2_with fail
  go_ret
  exact ⟨rfl, Fr.refl _ _⟩
set_option maxRecDepth 100000 in
theorem dirty1_c {N : Nat → Prop} (fb : Nat) (f : Fm) (h : FmAt w N fb f) : Calls Try.prog 31 #[.pointer (some ⟨fb, 0, none⟩)] w fun e w' => e = .returned (.bool f.dirty) ∧ Fr F0 w w' := by
  have h2 := h.cells.2.1
  go_enter Try.func31, Try.ntmps31
  go_wp2_with fail
  go_ret
  exact ⟨rfl, Fr.refl _ _⟩
set_option maxRecDepth 100000 in
theorem clean1_c {N : Nat → Prop} (hp : PoolAt w pb db M P v fbs) (fb bx : Nat) (f : Fm) (h : FmAt w N fb f) (hx : w.cell? ⟨bx, 0, none⟩ = some (.pointer (some ⟨pb, 0, none⟩))) : Calls Try.prog 28 #[.pointer (some ⟨fb, 0, none⟩), .pointer (some ⟨bx, 0, none⟩)] w fun e w' => e = .returned (.bool (f.dirty && P.may f)) ∧ Fr F0 w w' := by
  have h2 := h.cells.2.1
  have HP := Lib.hid hp
  have HM := Lib.hid h
  clear hp h
  rcases Bool.eq_false_or_eq_true f.dirty with hd | hd
  · rw [hd] at h2
    have HD := Lib.hid hd
    clear hd
    go_enter Try.func28, Try.ntmps28
    go_wp2_with fail
    refine (pmay_c HP.out fb f HM.out).mono ?_
    rintro e w1 ⟨rfl, hf1⟩
    go_wp2_with fail
    go_ret
    exact ⟨by rw [HD.out]; rfl, hf1⟩
  · rw [hd] at h2
    have HD := Lib.hid hd
    clear hd
    go_enter Try.func28, Try.ntmps28
    go_wp2_with fail
    go_ret
    exact ⟨by rw [HD.out]; rfl, Fr.refl _ _⟩
set_option maxRecDepth 100000 in
theorem places_nil (so : Value) (hso : ∃ fn a b, so = .func fn a b) : Calls Try.prog 27 #[.pointer none, so] w fun e w' => e = .returned (.slice none 0 0) ∧ w = w' := by
  obtain ⟨fn, a, b, rfl⟩ := hso
  go_enter Try.func27, Try.ntmps27
  go_wp2_with fail
  go_ret
  exact ⟨rfl, rfl⟩
set_option maxRecDepth 100000 in
set_option maxHeartbeats 2000000 in
theorem places_held (h : PoolAt w pb db M P v fbs) (hn : P.fs.length ≤ 64) :
    Calls Try.prog 27 #[.pointer (some ⟨pb, 0, none⟩), .func (.func 34) #[] #[]] w fun e w' => Listed w w' e (P.listed (fun _ : Fm => true)) := by
  obtain ⟨c0, c1, c2, c3, c4, c5, z1, z3, z4, z5⟩ := h.cells
  have HP := Lib.hid h
  obtain ⟨tst, htst⟩ : ∃ t : Fm → Bool, t = (fun _ : Fm => true) := ⟨_, rfl⟩
  have HTST := Lib.hid htst
  rw [← htst]
  obtain ⟨L, hL⟩ : ∃ L, L = P.listed tst := ⟨_, rfl⟩
  rw [← hL]
  have HLL := Lib.hid hL
  clear hL
  obtain ⟨n, hnn⟩ : ∃ n, n = P.fs.length := ⟨_, rfl⟩
  have HN := Lib.hid hnn
  obtain ⟨A, cp, hv, hvl, -, -, -⟩ := ValsAt.of_own h.own
  rw [← hnn] at hv hn
  subst hv
  have HV := Lib.hid hvl
  skip
  clear h c0 c2 c3 c4 c5 z1 z3 z4 z5 hvl hnn htst
  have n0 : (0 : Int) ≤ (n : Int) := Int.natCast_nonneg _
  go_enter Try.func27, Try.ntmps27
  go_wp2_with fail
  clear c1
  go_loopg [5, 15] n (fun kq x5 x15 wr => ∃ j : Nat, j ≤ n ∧ kq = n - j ∧ x15 = .int .i64 (j : Int) ∧ wr.ownsRow w.heap.size 3 1 x5 (atsTo P tst j).length ((atsTo P tst j).map (Value.int .i64)) ∧ Fr F0 w wr)
  case atStart => exact ⟨0, by omega, rfl, rfl, by simpa [atsTo] using own_nil _ _ _ _, Fr.refl _ _⟩
  case round =>
    obtain ⟨j, hj, rfl, rfl, hown, hfr⟩ := hrel
    have HO := Lib.hid hown
    have HF := Lib.hid hfr
    have hjl := atsTo_len P tst j
    have HJL := Lib.hid hjl
    clear hown hfr hjl
    by_cases hlt : j < n
    · have j0 : (0 : Int) ≤ (j : Int) := Int.natCast_nonneg _
      have j1 : (j : Int) < (n : Int) := by omega
      obtain ⟨f, hf⟩ : ∃ f, P.fs[j]? = some f := ⟨P.fs[j]'(by rw [← HN.out]; exact hlt), List.getElem?_eq_getElem _⟩
      obtain ⟨b, hb⟩ : ∃ b, fbs[j]? = some b := ⟨fbs[j]'(by rw [HP.out.len, ← HN.out]; exact hlt), List.getElem?_eq_getElem _⟩
      obtain ⟨ad, rfl, hc⟩ := (HV.out.keep0 HF.out).cells (by rw [List.length_map, HP.out.len, ← HN.out]; omega)
      have gx : wr.cell? (ad.add j) = some (.pointer (some ⟨b, 0, none⟩)) := hc j _ (by rw [List.getElem?_map, hb]; rfl)
      have HPR := Lib.hid (HP.out.keep0 HF.out)
      have HFM := Lib.hid (HPR.out.fr j f b hf hb)
      have HFI := Lib.hid hf
      have HBI := Lib.hid hb
      skip
      clear hc hf hb
      go_wp2_with fail
      refine (held1_c b).mono ?_
      rintro e w4 ⟨rfl, hf4⟩
      have hte : (true) = tst f := by rw [HTST.out]
      rw [hte]
      have HF4 := Lib.hid (HF.out.then0 hf4)
      have HO4 := Lib.hid (own_keep0 HO.out hf4)
      have hat : w4.cell? ⟨b, 0, none⟩ = some (.int .i64 f.at_) := ((HPR.out.keep0 hf4).fr j f b HFI.out HBI.out).cells.1
      clear hf4 hte gx
      rcases Bool.eq_false_or_eq_true (tst f) with ht | ht
      · rw [ht]
        have HT := Lib.hid ht
        clear ht
        have hlen : (atsTo P tst j).length + 1 ≤ 100 := by have := HJL.out; omega
        have hbz : w.heap.size ≤ w4.heap.size := HF4.out.size
        go_wp2_with (at_builtin; refine wpList_append_one rfl (.tmp 22) (.tmp 27) 41 3 8 (.int .i64 0) rfl und_ints info_int rfl (by decide) w.heap.size u5 ((atsTo P tst j).map (Value.int .i64)) (.int .i64 f.at_) (by rfl) (by rfl) rfl (by rw [List.length_map]; exact HO4.out) hbz (by rw [List.length_map]; omega) ?_; intro v5 w5 hown5 hf5)
        rw [List.length_map] at hown5
        go_roundg (n - (j + 1))
        case measure => omega
        case rel =>
          refine ⟨j + 1, by omega, rfl, by first | rfl | (go_num), ?_, HF4.out.trans hf5 (fun k hk => .inr (own_base HO4.out k hk))⟩
          rw [atsTo_yes HFI.out HT.out, List.map_append, List.length_append]
          exact hown5
      · rw [ht]
        have HT := Lib.hid ht
        clear ht
        go_wp2_with fail
        go_roundg (n - (j + 1))
        case measure => omega
        case rel =>
          refine ⟨j + 1, by omega, rfl, by first | rfl | (go_num), ?_, HF4.out⟩
          rw [atsTo_no HFI.out HT.out]
          exact HO4.out
    · have hjn : j = n := by omega
      subst hjn
      have hall : atsTo P tst j = P.ats tst := by
        unfold atsTo Pl.ats
        rw [HN.out, List.take_length]
      rw [hall] at HO HJL
      obtain ⟨ks, hks⟩ : ∃ ks, ks = P.ats tst := ⟨_, rfl⟩
      have hlist : L = ks.mergeSort (fun x y => decide (x ≤ y)) := by rw [HLL.out, hks]; rfl
      rw [← hks] at HO HJL
      have HLI := Lib.hid hlist
      clear hall hks hlist hlt
      have hbig : ks.length < 4611686018427387904 := by have := HJL.out; omega
      have HBG := Lib.hid hbig
      clear hbig
      rcases HO.out.2 with ⟨hv, hn0⟩ | ⟨g, cap, cur, hv, hg, hh, hn1, hn2, hn3, hn4⟩
      · subst hv
        have HN0 := Lib.hid hn0
        clear hn0
        go_wp2_with (go_at_call 38; refine (Try.slices_Sort_int_none _ _ _).mono ?_; rintro e w1 ⟨rfl, rfl⟩)
        go_ret
        have hnil : ks = [] := List.eq_nil_of_length_eq_zero (by rw [HN0.out])
        refine ⟨none, 0, ?_, ⟨fun hp => ?_⟩, (fun ad h => by cases h), HF.out⟩
        · have h0 : L.length = 0 := by rw [HLI.out, hnil]; simp
          rw [h0]; rfl
        · rw [HLI.out, hnil] at hp; simp at hp
      · subst hv
        have HH := Lib.hid hh
        have H1 := Lib.hid hn1
        have H2 := Lib.hid hn2
        have H3 := Lib.hid hn3
        have H4 := Lib.hid hn4
        have HGB := Lib.hid hg
        clear hh hn1 hn2 hn3 hn4 hg
        go_wp2_with (go_at_call 38; refine (Try.slices_Sort_int g 0 cap ks _ (holds_of_blockI HH.out (by have := H4.out; simpa using this)) (lt_of_block HH.out) HBG.out).mono ?_; rintro e w1 ⟨rfl, n1, os1, hw1⟩; have HW1 := Lib.hid hw1; clear hw1)
        go_ret
        have hl2 : (ks.mergeSort fun x y => decide (x ≤ y)).length = ks.length := List.length_mergeSort _
        have hown := ownsRow_sortedI (w := wr) (base := w.heap.size) (n := n1) (os := os1) (ss := ks) (ts := ks.mergeSort fun x y => decide (x ≤ y)) hl2 HGB.out HH.out H1.out H2.out (by have := H3.out; simpa using this)
        have hw1 := HW1.out
        rw [← hw1] at hown
        have hgr := grownBy_sortedI (w := wr) (g := g) (n := n1) (os := os1) (ks.mergeSort fun x y => decide (x ≤ y)).toArray
        rw [← hw1] at hgr
        have hf5 : Fr F0 w w1 := HF.out.grown hgr (fun k hk => by injection hk with hk; have := HGB.out; omega)
        refine ⟨some ⟨g, 0, none⟩, cap, by rw [HLI.out, hl2]; rfl, ⟨fun hp => ⟨_, rfl, fun j v hv => ?_⟩⟩, (fun ad h => by cases h; exact HGB.out), hf5⟩
        rw [HLI.out] at hv
        exact hown.cells rfl j v hv
set_option maxRecDepth 100000 in
set_option maxHeartbeats 2000000 in
theorem places_dirty (h : PoolAt w pb db M P v fbs) (hn : P.fs.length ≤ 64) :
    Calls Try.prog 27 #[.pointer (some ⟨pb, 0, none⟩), .func (.func 31) #[] #[]] w fun e w' => Listed w w' e (P.listed (fun f : Fm => f.dirty)) := by
  obtain ⟨c0, c1, c2, c3, c4, c5, z1, z3, z4, z5⟩ := h.cells
  have HP := Lib.hid h
  obtain ⟨tst, htst⟩ : ∃ t : Fm → Bool, t = (fun f : Fm => f.dirty) := ⟨_, rfl⟩
  have HTST := Lib.hid htst
  rw [← htst]
  obtain ⟨L, hL⟩ : ∃ L, L = P.listed tst := ⟨_, rfl⟩
  rw [← hL]
  have HLL := Lib.hid hL
  clear hL
  obtain ⟨n, hnn⟩ : ∃ n, n = P.fs.length := ⟨_, rfl⟩
  have HN := Lib.hid hnn
  obtain ⟨A, cp, hv, hvl, -, -, -⟩ := ValsAt.of_own h.own
  rw [← hnn] at hv hn
  subst hv
  have HV := Lib.hid hvl
  skip
  clear h c0 c2 c3 c4 c5 z1 z3 z4 z5 hvl hnn htst
  have n0 : (0 : Int) ≤ (n : Int) := Int.natCast_nonneg _
  go_enter Try.func27, Try.ntmps27
  go_wp2_with fail
  clear c1
  go_loopg [5, 15] n (fun kq x5 x15 wr => ∃ j : Nat, j ≤ n ∧ kq = n - j ∧ x15 = .int .i64 (j : Int) ∧ wr.ownsRow w.heap.size 3 1 x5 (atsTo P tst j).length ((atsTo P tst j).map (Value.int .i64)) ∧ Fr F0 w wr)
  case atStart => exact ⟨0, by omega, rfl, rfl, by simpa [atsTo] using own_nil _ _ _ _, Fr.refl _ _⟩
  case round =>
    obtain ⟨j, hj, rfl, rfl, hown, hfr⟩ := hrel
    have HO := Lib.hid hown
    have HF := Lib.hid hfr
    have hjl := atsTo_len P tst j
    have HJL := Lib.hid hjl
    clear hown hfr hjl
    by_cases hlt : j < n
    · have j0 : (0 : Int) ≤ (j : Int) := Int.natCast_nonneg _
      have j1 : (j : Int) < (n : Int) := by omega
      obtain ⟨f, hf⟩ : ∃ f, P.fs[j]? = some f := ⟨P.fs[j]'(by rw [← HN.out]; exact hlt), List.getElem?_eq_getElem _⟩
      obtain ⟨b, hb⟩ : ∃ b, fbs[j]? = some b := ⟨fbs[j]'(by rw [HP.out.len, ← HN.out]; exact hlt), List.getElem?_eq_getElem _⟩
      obtain ⟨ad, rfl, hc⟩ := (HV.out.keep0 HF.out).cells (by rw [List.length_map, HP.out.len, ← HN.out]; omega)
      have gx : wr.cell? (ad.add j) = some (.pointer (some ⟨b, 0, none⟩)) := hc j _ (by rw [List.getElem?_map, hb]; rfl)
      have HPR := Lib.hid (HP.out.keep0 HF.out)
      have HFM := Lib.hid (HPR.out.fr j f b hf hb)
      have HFI := Lib.hid hf
      have HBI := Lib.hid hb
      skip
      clear hc hf hb
      go_wp2_with fail
      refine (dirty1_c b f HFM.out).mono ?_
      rintro e w4 ⟨rfl, hf4⟩
      have hte : (f.dirty) = tst f := by rw [HTST.out]
      rw [hte]
      have HF4 := Lib.hid (HF.out.then0 hf4)
      have HO4 := Lib.hid (own_keep0 HO.out hf4)
      have hat : w4.cell? ⟨b, 0, none⟩ = some (.int .i64 f.at_) := ((HPR.out.keep0 hf4).fr j f b HFI.out HBI.out).cells.1
      clear hf4 hte gx
      rcases Bool.eq_false_or_eq_true (tst f) with ht | ht
      · rw [ht]
        have HT := Lib.hid ht
        clear ht
        have hlen : (atsTo P tst j).length + 1 ≤ 100 := by have := HJL.out; omega
        have hbz : w.heap.size ≤ w4.heap.size := HF4.out.size
        go_wp2_with (at_builtin; refine wpList_append_one rfl (.tmp 22) (.tmp 27) 41 3 8 (.int .i64 0) rfl und_ints info_int rfl (by decide) w.heap.size u5 ((atsTo P tst j).map (Value.int .i64)) (.int .i64 f.at_) (by rfl) (by rfl) rfl (by rw [List.length_map]; exact HO4.out) hbz (by rw [List.length_map]; omega) ?_; intro v5 w5 hown5 hf5)
        rw [List.length_map] at hown5
        go_roundg (n - (j + 1))
        case measure => omega
        case rel =>
          refine ⟨j + 1, by omega, rfl, by first | rfl | (go_num), ?_, HF4.out.trans hf5 (fun k hk => .inr (own_base HO4.out k hk))⟩
          rw [atsTo_yes HFI.out HT.out, List.map_append, List.length_append]
          exact hown5
      · rw [ht]
        have HT := Lib.hid ht
        clear ht
        go_wp2_with fail
        go_roundg (n - (j + 1))
        case measure => omega
        case rel =>
          refine ⟨j + 1, by omega, rfl, by first | rfl | (go_num), ?_, HF4.out⟩
          rw [atsTo_no HFI.out HT.out]
          exact HO4.out
    · have hjn : j = n := by omega
      subst hjn
      have hall : atsTo P tst j = P.ats tst := by
        unfold atsTo Pl.ats
        rw [HN.out, List.take_length]
      rw [hall] at HO HJL
      obtain ⟨ks, hks⟩ : ∃ ks, ks = P.ats tst := ⟨_, rfl⟩
      have hlist : L = ks.mergeSort (fun x y => decide (x ≤ y)) := by rw [HLL.out, hks]; rfl
      rw [← hks] at HO HJL
      have HLI := Lib.hid hlist
      clear hall hks hlist hlt
      have hbig : ks.length < 4611686018427387904 := by have := HJL.out; omega
      have HBG := Lib.hid hbig
      clear hbig
      rcases HO.out.2 with ⟨hv, hn0⟩ | ⟨g, cap, cur, hv, hg, hh, hn1, hn2, hn3, hn4⟩
      · subst hv
        have HN0 := Lib.hid hn0
        clear hn0
        go_wp2_with (go_at_call 38; refine (Try.slices_Sort_int_none _ _ _).mono ?_; rintro e w1 ⟨rfl, rfl⟩)
        go_ret
        have hnil : ks = [] := List.eq_nil_of_length_eq_zero (by rw [HN0.out])
        refine ⟨none, 0, ?_, ⟨fun hp => ?_⟩, (fun ad h => by cases h), HF.out⟩
        · have h0 : L.length = 0 := by rw [HLI.out, hnil]; simp
          rw [h0]; rfl
        · rw [HLI.out, hnil] at hp; simp at hp
      · subst hv
        have HH := Lib.hid hh
        have H1 := Lib.hid hn1
        have H2 := Lib.hid hn2
        have H3 := Lib.hid hn3
        have H4 := Lib.hid hn4
        have HGB := Lib.hid hg
        clear hh hn1 hn2 hn3 hn4 hg
        go_wp2_with (go_at_call 38; refine (Try.slices_Sort_int g 0 cap ks _ (holds_of_blockI HH.out (by have := H4.out; simpa using this)) (lt_of_block HH.out) HBG.out).mono ?_; rintro e w1 ⟨rfl, n1, os1, hw1⟩; have HW1 := Lib.hid hw1; clear hw1)
        go_ret
        have hl2 : (ks.mergeSort fun x y => decide (x ≤ y)).length = ks.length := List.length_mergeSort _
        have hown := ownsRow_sortedI (w := wr) (base := w.heap.size) (n := n1) (os := os1) (ss := ks) (ts := ks.mergeSort fun x y => decide (x ≤ y)) hl2 HGB.out HH.out H1.out H2.out (by have := H3.out; simpa using this)
        have hw1 := HW1.out
        rw [← hw1] at hown
        have hgr := grownBy_sortedI (w := wr) (g := g) (n := n1) (os := os1) (ks.mergeSort fun x y => decide (x ≤ y)).toArray
        rw [← hw1] at hgr
        have hf5 : Fr F0 w w1 := HF.out.grown hgr (fun k hk => by injection hk with hk; have := HGB.out; omega)
        refine ⟨some ⟨g, 0, none⟩, cap, by rw [HLI.out, hl2]; rfl, ⟨fun hp => ⟨_, rfl, fun j v hv => ?_⟩⟩, (fun ad h => by cases h; exact HGB.out), hf5⟩
        rw [HLI.out] at hv
        exact hown.cells rfl j v hv
set_option maxRecDepth 100000 in
set_option maxHeartbeats 2000000 in
theorem places_clean (h : PoolAt w pb db M P v fbs) (hn : P.fs.length ≤ 64) (bx : Nat) (hx : w.cell? ⟨bx, 0, none⟩ = some (.pointer (some ⟨pb, 0, none⟩))) :
    Calls Try.prog 27 #[.pointer (some ⟨pb, 0, none⟩), .func (.func 28) #[] #[.pointer (some ⟨bx, 0, none⟩)]] w fun e w' => Listed w w' e (P.listed (fun f : Fm => f.dirty && P.may f)) := by
  obtain ⟨c0, c1, c2, c3, c4, c5, z1, z3, z4, z5⟩ := h.cells
  have HP := Lib.hid h
  obtain ⟨tst, htst⟩ : ∃ t : Fm → Bool, t = (fun f : Fm => f.dirty && P.may f) := ⟨_, rfl⟩
  have HTST := Lib.hid htst
  rw [← htst]
  obtain ⟨L, hL⟩ : ∃ L, L = P.listed tst := ⟨_, rfl⟩
  rw [← hL]
  have HLL := Lib.hid hL
  clear hL
  obtain ⟨n, hnn⟩ : ∃ n, n = P.fs.length := ⟨_, rfl⟩
  have HN := Lib.hid hnn
  obtain ⟨A, cp, hv, hvl, -, -, -⟩ := ValsAt.of_own h.own
  rw [← hnn] at hv hn
  subst hv
  have HV := Lib.hid hvl
  have HX := Lib.hid hx
  clear hx
  clear h c0 c2 c3 c4 c5 z1 z3 z4 z5 hvl hnn htst
  have n0 : (0 : Int) ≤ (n : Int) := Int.natCast_nonneg _
  go_enter Try.func27, Try.ntmps27
  go_wp2_with fail
  clear c1
  go_loopg [5, 15] n (fun kq x5 x15 wr => ∃ j : Nat, j ≤ n ∧ kq = n - j ∧ x15 = .int .i64 (j : Int) ∧ wr.ownsRow w.heap.size 3 1 x5 (atsTo P tst j).length ((atsTo P tst j).map (Value.int .i64)) ∧ Fr F0 w wr)
  case atStart => exact ⟨0, by omega, rfl, rfl, by simpa [atsTo] using own_nil _ _ _ _, Fr.refl _ _⟩
  case round =>
    obtain ⟨j, hj, rfl, rfl, hown, hfr⟩ := hrel
    have HO := Lib.hid hown
    have HF := Lib.hid hfr
    have hjl := atsTo_len P tst j
    have HJL := Lib.hid hjl
    clear hown hfr hjl
    by_cases hlt : j < n
    · have j0 : (0 : Int) ≤ (j : Int) := Int.natCast_nonneg _
      have j1 : (j : Int) < (n : Int) := by omega
      obtain ⟨f, hf⟩ : ∃ f, P.fs[j]? = some f := ⟨P.fs[j]'(by rw [← HN.out]; exact hlt), List.getElem?_eq_getElem _⟩
      obtain ⟨b, hb⟩ : ∃ b, fbs[j]? = some b := ⟨fbs[j]'(by rw [HP.out.len, ← HN.out]; exact hlt), List.getElem?_eq_getElem _⟩
      obtain ⟨ad, rfl, hc⟩ := (HV.out.keep0 HF.out).cells (by rw [List.length_map, HP.out.len, ← HN.out]; omega)
      have gx : wr.cell? (ad.add j) = some (.pointer (some ⟨b, 0, none⟩)) := hc j _ (by rw [List.getElem?_map, hb]; rfl)
      have HPR := Lib.hid (HP.out.keep0 HF.out)
      have HFM := Lib.hid (HPR.out.fr j f b hf hb)
      have HFI := Lib.hid hf
      have HBI := Lib.hid hb
      have HXR : Hid (wr.cell? ⟨bx, 0, none⟩ = some (.pointer (some ⟨pb, 0, none⟩))) := Lib.hid ((World.cell?_of_block (w := w) (HF.out.block _ (World.block_lt_of_cell? w _ HX.out) (fun h => h))).trans HX.out)
      clear hc hf hb
      go_wp2_with fail
      refine (clean1_c HPR.out b bx f HFM.out HXR.out).mono ?_
      rintro e w4 ⟨rfl, hf4⟩
      have hte : (f.dirty && P.may f) = tst f := by rw [HTST.out]
      rw [hte]
      have HF4 := Lib.hid (HF.out.then0 hf4)
      have HO4 := Lib.hid (own_keep0 HO.out hf4)
      have hat : w4.cell? ⟨b, 0, none⟩ = some (.int .i64 f.at_) := ((HPR.out.keep0 hf4).fr j f b HFI.out HBI.out).cells.1
      clear hf4 hte gx
      rcases Bool.eq_false_or_eq_true (tst f) with ht | ht
      · rw [ht]
        have HT := Lib.hid ht
        clear ht
        have hlen : (atsTo P tst j).length + 1 ≤ 100 := by have := HJL.out; omega
        have hbz : w.heap.size ≤ w4.heap.size := HF4.out.size
        go_wp2_with (at_builtin; refine wpList_append_one rfl (.tmp 22) (.tmp 27) 41 3 8 (.int .i64 0) rfl und_ints info_int rfl (by decide) w.heap.size u5 ((atsTo P tst j).map (Value.int .i64)) (.int .i64 f.at_) (by rfl) (by rfl) rfl (by rw [List.length_map]; exact HO4.out) hbz (by rw [List.length_map]; omega) ?_; intro v5 w5 hown5 hf5)
        rw [List.length_map] at hown5
        go_roundg (n - (j + 1))
        case measure => omega
        case rel =>
          refine ⟨j + 1, by omega, rfl, by first | rfl | (go_num), ?_, HF4.out.trans hf5 (fun k hk => .inr (own_base HO4.out k hk))⟩
          rw [atsTo_yes HFI.out HT.out, List.map_append, List.length_append]
          exact hown5
      · rw [ht]
        have HT := Lib.hid ht
        clear ht
        go_wp2_with fail
        go_roundg (n - (j + 1))
        case measure => omega
        case rel =>
          refine ⟨j + 1, by omega, rfl, by first | rfl | (go_num), ?_, HF4.out⟩
          rw [atsTo_no HFI.out HT.out]
          exact HO4.out
    · have hjn : j = n := by omega
      subst hjn
      have hall : atsTo P tst j = P.ats tst := by
        unfold atsTo Pl.ats
        rw [HN.out, List.take_length]
      rw [hall] at HO HJL
      obtain ⟨ks, hks⟩ : ∃ ks, ks = P.ats tst := ⟨_, rfl⟩
      have hlist : L = ks.mergeSort (fun x y => decide (x ≤ y)) := by rw [HLL.out, hks]; rfl
      rw [← hks] at HO HJL
      have HLI := Lib.hid hlist
      clear hall hks hlist hlt
      have hbig : ks.length < 4611686018427387904 := by have := HJL.out; omega
      have HBG := Lib.hid hbig
      clear hbig
      rcases HO.out.2 with ⟨hv, hn0⟩ | ⟨g, cap, cur, hv, hg, hh, hn1, hn2, hn3, hn4⟩
      · subst hv
        have HN0 := Lib.hid hn0
        clear hn0
        go_wp2_with (go_at_call 38; refine (Try.slices_Sort_int_none _ _ _).mono ?_; rintro e w1 ⟨rfl, rfl⟩)
        go_ret
        have hnil : ks = [] := List.eq_nil_of_length_eq_zero (by rw [HN0.out])
        refine ⟨none, 0, ?_, ⟨fun hp => ?_⟩, (fun ad h => by cases h), HF.out⟩
        · have h0 : L.length = 0 := by rw [HLI.out, hnil]; simp
          rw [h0]; rfl
        · rw [HLI.out, hnil] at hp; simp at hp
      · subst hv
        have HH := Lib.hid hh
        have H1 := Lib.hid hn1
        have H2 := Lib.hid hn2
        have H3 := Lib.hid hn3
        have H4 := Lib.hid hn4
        have HGB := Lib.hid hg
        clear hh hn1 hn2 hn3 hn4 hg
        go_wp2_with (go_at_call 38; refine (Try.slices_Sort_int g 0 cap ks _ (holds_of_blockI HH.out (by have := H4.out; simpa using this)) (lt_of_block HH.out) HBG.out).mono ?_; rintro e w1 ⟨rfl, n1, os1, hw1⟩; have HW1 := Lib.hid hw1; clear hw1)
        go_ret
        have hl2 : (ks.mergeSort fun x y => decide (x ≤ y)).length = ks.length := List.length_mergeSort _
        have hown := ownsRow_sortedI (w := wr) (base := w.heap.size) (n := n1) (os := os1) (ss := ks) (ts := ks.mergeSort fun x y => decide (x ≤ y)) hl2 HGB.out HH.out H1.out H2.out (by have := H3.out; simpa using this)
        have hw1 := HW1.out
        rw [← hw1] at hown
        have hgr := grownBy_sortedI (w := wr) (g := g) (n := n1) (os := os1) (ks.mergeSort fun x y => decide (x ≤ y)).toArray
        rw [← hw1] at hgr
        have hf5 : Fr F0 w w1 := HF.out.grown hgr (fun k hk => by injection hk with hk; have := HGB.out; omega)
        refine ⟨some ⟨g, 0, none⟩, cap, by rw [HLI.out, hl2]; rfl, ⟨fun hp => ⟨_, rfl, fun j v hv => ?_⟩⟩, (fun ad h => by cases h; exact HGB.out), hf5⟩
        rw [HLI.out] at hv
        exact hown.cells rfl j v hv
set_option maxRecDepth 100000 in
theorem held_c (h : PoolAt w pb db M P v fbs) (hn : P.fs.length ≤ 64) : Calls Try.prog 19 #[.pointer (some ⟨pb, 0, none⟩)] w fun e w' => Listed w w' e (P.listed fun _ => true) := by
  have HP := Lib.hid h
  clear h
  go_enter Try.func19, Try.ntmps19
  go_wp2_with fail
  refine (places_held HP.out hn).mono ?_
  rintro e w1 hl
  obtain ⟨A, c, rfl, h1, h2, h3⟩ := hl.ex
  have H1 := Lib.hid h1
  have H2 := Lib.hid h2
  have H3 := Lib.hid h3
  clear hl h1 h2 h3
  go_wp2_with fail
  go_ret
  exact ⟨A, c, rfl, H1.out, H2.out, H3.out⟩
set_option maxRecDepth 100000 in
theorem dirty_c (h : PoolAt w pb db M P v fbs) (hn : P.fs.length ≤ 64) : Calls Try.prog 16 #[.pointer (some ⟨pb, 0, none⟩)] w fun e w' => Listed w w' e (P.listed fun f => f.dirty) := by
  have HP := Lib.hid h
  clear h
  go_enter Try.func16, Try.ntmps16
  go_wp2_with fail
  refine (places_dirty HP.out hn).mono ?_
  rintro e w1 hl
  obtain ⟨A, c, rfl, h1, h2, h3⟩ := hl.ex
  have H1 := Lib.hid h1
  have H2 := Lib.hid h2
  have H3 := Lib.hid h3
  clear hl h1 h2 h3
  go_wp2_with fail
  go_ret
  exact ⟨A, c, rfl, H1.out, H2.out, H3.out⟩
set_option maxRecDepth 100000 in
theorem held_nil : Calls Try.prog 19 #[.pointer none] w fun e w' => e = .returned (.slice none 0 0) ∧ w = w' := by
  go_enter Try.func19, Try.ntmps19
  go_wp2_with fail
  refine (places_nil _ ⟨_, _, _, rfl⟩).mono ?_
  rintro e w1 ⟨rfl, rfl⟩
  go_wp2_with fail
  go_ret
  exact ⟨rfl, rfl⟩
set_option maxRecDepth 100000 in
theorem dirty_nil : Calls Try.prog 16 #[.pointer none] w fun e w' => e = .returned (.slice none 0 0) ∧ w = w' := by
  go_enter Try.func16, Try.ntmps16
  go_wp2_with fail
  refine (places_nil _ ⟨_, _, _, rfl⟩).mono ?_
  rintro e w1 ⟨rfl, rfl⟩
  go_wp2_with fail
  go_ret
  exact ⟨rfl, rfl⟩
end
end Go.Proofs.Ytjfdfjenodianaa
