/-
  wal: gone, try, Force, Drop, Head, Tail, Safe, Free. wal: Drop. Conditions: none.
-/
import Derived.Test.YtdeckbdaencjnaaDoorH6g
import Derived.Test.YtdeckbdaencjnaaDoorP7
set_option linter.unusedVariables false
set_option linter.unusedSimpArgs false
namespace Go.Proofs.YtdeckbdaencjnaaDoor
open Go.RowKit
/-- A log in memory. -/
structure LogAt (w : World) (lg db : Nat) (L : Lg) : Prop where
  row : w.heap[lg]? = some (.cells #[.int .i64 L.r.from_, .int .i64 L.r.size, .int .i64 L.r.head, .int .i64 L.r.tail, .pointer (some ⟨db, 0, none⟩), .int .i64 L.epoch, .int .i64 L.safe, .bool L.broken] 124 (0, 0))
def Lg.cells (L : Lg) (db : Nat) : List Value := [.int .i64 L.r.from_, .int .i64 L.r.size, .int .i64 L.r.head, .int .i64 L.r.tail, .pointer (some ⟨db, 0, none⟩), .int .i64 L.epoch, .int .i64 L.safe, .bool L.broken]
section
variable {w w' : World} {lg db lb mb : Nat} {L : Lg} {D : Dev}
theorem LogAt.keep {S : Nat → Prop} (h : LogAt w lg db L) (hf : Fr S w w') (hn : ¬ S lg) : LogAt w' lg db L := ⟨hf.keep h.row hn⟩
theorem LogAt.keep0 (h : LogAt w lg db L) (hf : Fr F0 w w') : LogAt w' lg db L := ⟨hf.keep0 h.row⟩
theorem LogAt.lt (h : LogAt w lg db L) : lg < w.heap.size := lt_of_block h.row
theorem LogAt.cells (h : LogAt w lg db L) : w.cell? ⟨lg, 0, none⟩ = some (.int .i64 L.r.from_) ∧ w.cell? ⟨lg, 1, none⟩ = some (.int .i64 L.r.size) ∧ w.cell? ⟨lg, 2, none⟩ = some (.int .i64 L.r.head) ∧ w.cell? ⟨lg, 3, none⟩ = some (.int .i64 L.r.tail) ∧
    w.cell? ⟨lg, 4, none⟩ = some (.pointer (some ⟨db, 0, none⟩)) ∧ w.cell? ⟨lg, 5, none⟩ = some (.int .i64 L.epoch) ∧ w.cell? ⟨lg, 6, none⟩ = some (.int .i64 L.safe) ∧ w.cell? ⟨lg, 7, none⟩ = some (.bool L.broken) ∧ ∀ k, w.frozen? ⟨lg, k, none⟩ = false := by
  refine ⟨?_, ?_, ?_, ?_, ?_, ?_, ?_, ?_, fun k => free_of h.row k⟩ <;> (rw [cell_of h.row]; rfl)
set_option maxRecDepth 100000 in
set_option maxHeartbeats 1000000 in
theorem wgone_c (h : LogAt w lg db L) : Calls Tryd.prog 78 #[.pointer (some ⟨lg, 0, none⟩)] w fun e w' => e = .returned (.bool L.broken) ∧ w = w' := by
  obtain ⟨c0, c1, c2, c3, c4, c5, c6, c7, hz⟩ := h.cells
  clear hz
  go_enter Tryd.func78, Tryd.ntmps78
  go_wp2_with fail
  go_ret
  exact ⟨rfl, rfl⟩
theorem wgone_nil : Calls Tryd.prog 78 #[.pointer none] w fun e w' => e = .returned (.bool true) ∧ w = w' := by
  go_enter Tryd.func78, Tryd.ntmps78
  go_wp2_with fail
  go_ret
  exact ⟨rfl, rfl⟩
/-- Behind an error the log is broken. -/
def Lg.tried (L : Lg) (e : Int) : Lg := { L with broken := L.broken || decide (e ≠ 0) }
set_option maxRecDepth 100000 in
set_option maxHeartbeats 1000000 in
theorem try7_c (h : LogAt w lg db L) (e : Int) (hb : L.broken = false) : Calls Tryd.prog 81 #[.pointer (some ⟨lg, 0, none⟩), .int .i64 e] w fun r w' => r = .returned (.int .i64 e) ∧ LogAt w' lg db (L.tried e) ∧ Fr (fun k => k = lg) w w' := by
  obtain ⟨c0, c1, c2, c3, c4, c5, c6, c7, hz⟩ := h.cells
  have hz7 := hz 7
  rw [hb] at c7
  have HR := Lib.hid h.row
  have HB := Lib.hid hb
  clear hz c0 c1 c2 c3 c4 c5 c6 h
  by_cases he : e = 0
  · have hb1 : (e != 0) = false := by simp [he]
    have ht : (L.tried e).broken = false := by simp [Lg.tried, HB.out, he]
    have HT := Lib.hid ht
    clear he ht hb
    go_enter Tryd.func81, Tryd.ntmps81
    go_wp2_with fail
    go_ret
    refine ⟨rfl, ⟨?_⟩, (Fr.refl _ _).setCell (by exact .inl rfl) _⟩
    rw [HT.out]
    exact set_cell HR.out 7 (.bool false)
  · have hb1 : (e != 0) = true := by simp [he]
    have ht : (L.tried e).broken = true := by simp [Lg.tried, he]
    have HT := Lib.hid ht
    clear he ht hb
    go_enter Tryd.func81, Tryd.ntmps81
    go_wp2_with fail
    go_ret
    refine ⟨rfl, ⟨?_⟩, (Fr.refl _ _).setCell (by exact .inl rfl) _⟩
    rw [HT.out]
    exact set_cell HR.out 7 (.bool true)
set_option maxRecDepth 100000 in
set_option maxHeartbeats 1000000 in
theorem head7_c (h : LogAt w lg db L) : Calls Tryd.prog 52 #[.pointer (some ⟨lg, 0, none⟩)] w fun e w' => e = .returned (.int .i64 L.r.head) ∧ w = w' := by
  obtain ⟨c0, c1, c2, c3, c4, c5, c6, c7, hz⟩ := h.cells
  clear hz
  go_enter Tryd.func52, Tryd.ntmps52
  go_wp2_with fail
  go_ret
  exact ⟨rfl, rfl⟩
set_option maxRecDepth 100000 in
set_option maxHeartbeats 1000000 in
theorem tail7_c (h : LogAt w lg db L) : Calls Tryd.prog 50 #[.pointer (some ⟨lg, 0, none⟩)] w fun e w' => e = .returned (.int .i64 L.r.tail) ∧ w = w' := by
  obtain ⟨c0, c1, c2, c3, c4, c5, c6, c7, hz⟩ := h.cells
  clear hz
  go_enter Tryd.func50, Tryd.ntmps50
  go_wp2_with fail
  go_ret
  exact ⟨rfl, rfl⟩
set_option maxRecDepth 100000 in
set_option maxHeartbeats 1000000 in
theorem safe7_c (h : LogAt w lg db L) : Calls Tryd.prog 51 #[.pointer (some ⟨lg, 0, none⟩)] w fun e w' => e = .returned (.int .i64 L.safe) ∧ w = w' := by
  obtain ⟨c0, c1, c2, c3, c4, c5, c6, c7, hz⟩ := h.cells
  clear hz
  go_enter Tryd.func51, Tryd.ntmps51
  go_wp2_with fail
  go_ret
  exact ⟨rfl, rfl⟩
set_option maxRecDepth 100000 in
set_option maxHeartbeats 1000000 in
theorem free7_c (h : LogAt w lg db L) (hs : L.r.Sane) : Calls Tryd.prog 53 #[.pointer (some ⟨lg, 0, none⟩)] w fun e w' => e = .returned (.int .i64 (L.r.size - (L.r.tail - L.r.head))) ∧ Fr F0 w w' := by
  obtain ⟨c0, c1, c2, c3, c4, c5, c6, c7, hz⟩ := h.cells
  clear hz
  go_enter Tryd.func53, Tryd.ntmps53
  go_wp2_with fail
  refine (gfree_c L.r hs).mono ?_
  rintro e w1 ⟨rfl, hf⟩
  go_wp2_with fail
  go_ret
  exact ⟨rfl, hf⟩
theorem nil7_c : Calls Tryd.prog 52 #[.pointer none] w (fun e w' => e = .returned (.int .i64 0) ∧ w = w') ∧ Calls Tryd.prog 50 #[.pointer none] w (fun e w' => e = .returned (.int .i64 0) ∧ w = w') ∧
    Calls Tryd.prog 51 #[.pointer none] w (fun e w' => e = .returned (.int .i64 0) ∧ w = w') ∧ Calls Tryd.prog 53 #[.pointer none] w (fun e w' => e = .returned (.int .i64 0) ∧ w = w') := by
  refine ⟨?_, ?_, ?_, ?_⟩
  · go_enter Tryd.func52, Tryd.ntmps52
    go_wp2_with fail
    go_ret
    exact ⟨rfl, rfl⟩
  · go_enter Tryd.func50, Tryd.ntmps50
    go_wp2_with fail
    go_ret
    exact ⟨rfl, rfl⟩
  · go_enter Tryd.func51, Tryd.ntmps51
    go_wp2_with fail
    go_ret
    exact ⟨rfl, rfl⟩
  · go_enter Tryd.func53, Tryd.ntmps53
    go_wp2_with fail
    go_ret
    exact ⟨rfl, rfl⟩
/-- The blocks of a log and its device. -/
def Lv (lg db lb mb : Nat) (k : Nat) : Prop := k = lg ∨ Dv db lb mb k
set_option maxRecDepth 100000 in
set_option maxHeartbeats 2000000 in
theorem force7_c (h : LogAt w lg db L) (hD : DevAt Tryd.prog 3 w db lb mb D) (hap : ¬ Dv db lb mb lg) : Calls Tryd.prog 47 #[.pointer (some ⟨lg, 0, none⟩)] w fun e w' => e = .returned (.int .i64 (L.forceE D)) ∧ LogAt w' lg db (L.force D) ∧ DevAt Tryd.prog 3 w' db lb mb (L.forceD D) ∧ Fr (Lv lg db lb mb) w w' := by
  have HH := Lib.hid h
  have HD := Lib.hid hD
  have HAP := Lib.hid hap
  clear hap
  cases hb : L.broken with
  | true =>
    have hE : L.forceE D = 11 := by unfold Lg.forceE; rw [if_pos hb]
    have hL : L.force D = L := by unfold Lg.force; rw [if_pos hb]
    have hDD : L.forceD D = D := by unfold Lg.forceD; rw [if_pos hb]
    rw [hE, hL, hDD]
    have HB := Lib.hid hb
    clear hE hL hDD hb h hD
    go_enter Tryd.func47, Tryd.ntmps47
    go_wp2_with fail
    refine (wgone_c HH.out).mono ?_
    rintro e w1 ⟨rfl, rfl⟩
    rw [HB.out]
    go_wp2_with fail
    go_ret
    exact ⟨rfl, HH.out, HD.out, Fr.refl _ _⟩
  | false =>
    have hn : ¬ L.broken = true := by rw [hb]; decide
    have hE : L.forceE D = D.flushE := by unfold Lg.forceE; rw [if_neg hn]
    have hDD : L.forceD D = D.flush := by unfold Lg.forceD; rw [if_neg hn]
    rw [hE, hDD]
    obtain ⟨c0, c1, c2, c3, c4, c5, c6, c7, hz⟩ := h.cells
    have HB := Lib.hid hb
    have HN := Lib.hid hn
    clear hE hDD hb h hD hz hn
    go_enter Tryd.func47, Tryd.ntmps47
    go_wp2_with fail
    refine (wgone_c HH.out).mono ?_
    rintro e w1 ⟨rfl, rfl⟩
    rw [HB.out]
    go_wp2_with fail
    refine (flush_c HD.out).mono ?_
    rintro e w1 ⟨rfl, h1, hf1⟩
    have HL1 := Lib.hid (HH.out.keep hf1 HAP.out)
    have HD1 := Lib.hid h1
    have HF1 := Lib.hid hf1
    obtain ⟨fe, hfe⟩ : ∃ fe, fe = D.flushE := ⟨_, rfl⟩
    rw [← hfe]
    have HFE := Lib.hid hfe
    clear h1 hf1 hfe c0 c1 c2 c3 c4 c5 c6 c7
    go_wp2_with fail
    refine (try7_c HL1.out fe HB.out).mono ?_
    rintro e w2 ⟨rfl, h2, hf2⟩
    have HL2 := Lib.hid h2
    have HF2 := Lib.hid hf2
    have hlt := HL1.out.lt
    have HD2 := Lib.hid (HD1.out.keep hf2 (fun h => HAP.out (.inl h.symm)) (fun h => HAP.out (.inr (.inl h.symm))) (fun h => HAP.out (.inr (.inr h.symm))))
    have hF : Fr (Lv lg db lb mb) w w2 := (HF1.out.mono (fun _ h => .inr h)).trans HF2.out (fun k hk => .inl (.inl hk))
    have HF := Lib.hid hF
    have hz6 := h2.cells.2.2.2.2.2.2.2.2 6
    clear h2 hf2 hF
    by_cases he : fe = 0
    · have ht : L.tried fe = L := by simp [Lg.tried, he, ← HB.out]
      have hL : L.force D = { L with safe := L.r.tail } := by unfold Lg.force; rw [if_neg HN.out, if_neg (by rw [← HFE.out]; simp [he])]
      rw [ht] at HL2
      obtain ⟨c0, c1, c2, c3, c4, c5, c6, c7, hz⟩ := HL2.out.cells
      have HL := Lib.hid hL
      clear hz
      subst he
      clear ht hL
      go_wp2_with fail
      go_ret
      refine ⟨by rw [← HFE.out]; rfl, ⟨?_⟩, HD2.out.keep ((Fr.refl (fun k => k = lg) _).setCell (by exact .inl rfl) _) (fun h => HAP.out (.inl h.symm)) (fun h => HAP.out (.inr (.inl h.symm))) (fun h => HAP.out (.inr (.inr h.symm))), HF.out.setCell (by exact .inl (.inl rfl)) _⟩
      rw [HL.out]
      exact set_cell HL2.out.row 6 (.int .i64 L.r.tail)
    · have hb1 : (fe != 0) = true := by simp [he]
      have ht : L.tried fe = { L with broken := true } := by simp [Lg.tried, he]
      have hL : L.force D = { L with broken := true } := by unfold Lg.force; rw [if_neg HN.out, if_pos (by rw [← HFE.out]; exact he)]
      rw [ht] at HL2
      obtain ⟨c0, c1, c2, c3, c4, c5, c6, c7, hz⟩ := HL2.out.cells
      have HL := Lib.hid hL
      clear he ht hL hz
      go_wp2_with fail
      go_ret
      exact ⟨by rw [← HFE.out]; rfl, by rw [HL.out]; exact HL2.out, HD2.out, HF.out⟩
end
end Go.Proofs.YtdeckbdaencjnaaDoor
set_option linter.unusedVariables false
set_option linter.unusedSimpArgs false
namespace Go.Proofs.YtdeckbdaencjnaaDoor
open Go.RowKit
section
variable {P : Program}
/-- A struct stored; the world behind is named by what it holds. -/
theorem wpList_store_to {ops : Array Oper} {rest : List Oper} {o : Oper} {a : Act} {w : World} {Q : Exit → Act → World → Prop} (hgd : o.guard = none) (ty : TypeId) (x y : Operand) (ho : o.op = .store ty x y)
    (g off : Nat) (cs : List Value) (hx : a.eval x = .pointer (some ⟨g, off, none⟩)) (hy : a.eval y = .agg cs.toArray)
    (t : TypeId) (cur : List Value) (hg : w.heap[g]? = some (.cells cur.toArray t (0, 0))) (hi : (P.info? ty).map (·.size) = some cs.length)
    (hfit : off + cs.length ≤ cur.length) (h1 : ∀ v ∈ cs, v.oneCell' = true)
    (h : ∀ w', w'.heap[g]? = some (.cells (splat cur off cs).toArray t (0, 0)) → Fr (fun k => k = g) w w' → wpList P ops Q rest (a.put o.dst undef) w') : wpList P ops Q (o :: rest) a w :=
  wpList_store_at hgd ty x y ho g off cs hx hy t cur hg hi hfit h1 (h _ (setRow_heap _ g _ _ _ _ hg) ((Fr.refl _ _).setRow (by exact .inl rfl) _))
end
section
variable {w w' : World} {lg db : Nat} {L : Lg}
theorem LogAt.ring (h : LogAt w lg db L) : ∀ j v, L.r.cells[j]? = some v → w.cell? ⟨lg, 0 + j, none⟩ = some v := by
  obtain ⟨c0, c1, c2, c3, c4, c5, c6, c7, hz⟩ := h.cells
  intro j v hv
  match j, hv with
  | 0, hv => rw [← hv]; exact c0
  | 1, hv => rw [← hv]; exact c1
  | 2, hv => rw [← hv]; exact c2
  | 3, hv => rw [← hv]; exact c3
  | j + 4, hv => simp [Rg.cells] at hv
/-- A ring is laid over the one in the log. -/
theorem LogAt.reRing (h : LogAt w lg db L) (r : Rg) : LogAt (w.setRow lg (splat (L.cells db) 0 r.cells).toArray) lg db { L with r := r } := ⟨by
  rw [setRow_heap _ lg _ _ _ _ h.row]; rfl⟩
set_option maxRecDepth 100000 in
set_option maxHeartbeats 2000000 in
theorem wdrop_c (h : LogAt w lg db L) (hr : L.r.Sane) (to : Int) : Calls Tryd.prog 54 #[.pointer (some ⟨lg, 0, none⟩), .int .i64 to] w fun e w' => e = .returned (.int .i64 (L.dropE to)) ∧ LogAt w' lg db (L.drop to) ∧ Fr (fun k => k = lg) w w' := by
  have HH := Lib.hid h
  have HS := Lib.hid hr
  cases hb : L.broken with
  | true =>
    have hE : L.dropE to = 11 := by unfold Lg.dropE; rw [if_pos hb]
    have hL : L.drop to = L := by unfold Lg.drop; rw [if_pos hb]
    rw [hE, hL]
    have HB := Lib.hid hb
    clear hE hL hb h hr
    go_enter Tryd.func54, Tryd.ntmps54
    go_wp2_with fail
    refine (wgone_c HH.out).mono ?_
    rintro e w1 ⟨rfl, rfl⟩
    rw [HB.out]
    go_wp2_with fail
    go_ret
    exact ⟨rfl, HH.out, Fr.refl _ _⟩
  | false =>
    have hn : ¬ L.broken = true := by rw [hb]; decide
    have hE : L.dropE to = L.r.dropE to := by unfold Lg.dropE; rw [if_neg hn]
    have hL : L.drop to = if L.r.dropE to = 0 then { L with r := L.r.dropped to } else L := by unfold Lg.drop; rw [if_neg hn]
    rw [hE]
    have HL := Lib.hid hL
    have HB := Lib.hid hb
    obtain ⟨dd, hu, hd⟩ := und_ring
    have HU := Lib.hid hu
    have HDD := Lib.hid hd
    have HLR := Lib.hid h.ring
    clear hE hL hb h hr hn hu hd
    go_enter Tryd.func54, Tryd.ntmps54
    go_wp2_with fail
    refine (wgone_c HH.out).mono ?_
    rintro e w1 ⟨rfl, rfl⟩
    rw [HB.out]
    go_wp2_with (refine wpList_load_at rfl 122 (.tmp 12) rfl lg 0 (by rfl) L.r.cells dd HLR.out HU.out HDD.out size_ring ?_)
    refine (drop7_c L.r HS.out to).mono ?_
    rintro e w1 ⟨rfl, hf⟩
    have HF := Lib.hid hf
    have HL1 := Lib.hid (HH.out.keep0 hf)
    obtain ⟨de, hde⟩ : ∃ de, de = L.r.dropE to := ⟨_, rfl⟩
    obtain ⟨dr, hdr⟩ : ∃ dr, dr = L.r.dropR to := ⟨_, rfl⟩
    have HDE := Lib.hid hde
    have HDR := Lib.hid hdr
    rw [← hde, ← hdr]
    have hlt := HL1.out.lt
    have R0 : Hid ((w1.alloc (.cells #[.int .i64 0, .int .i64 0, .int .i64 0, .int .i64 0] 122)).heap[w1.heap.size]? = some (.cells Rg.zero.cells.toArray 122 (0, 0))) := Lib.hid (alloc_at rfl _)
    clear hf hde hdr
    by_cases he : de = 0
    · have hL : L.drop to = { L with r := dr } := by
        have h0 : L.r.dropE to = 0 := by rw [← HDE.out]; exact he
        rw [HL.out, if_pos h0, HDR.out]
        unfold Rg.dropR
        rw [if_pos h0]
      have HL' := Lib.hid hL
      subst he
      clear hL
      go_wp2_with (first
        | (refine wpList_store_to rfl 122 (.tmp 5) (.tmp 16) rfl w1.heap.size 0 dr.cells (by rfl) (by rfl) 122 Rg.zero.cells R0.out size_ring (Nat.le_refl 4) (Rg.one _) ?_; intro w2 h2 hf2; have H2 := Lib.hid h2; have HF2 := Lib.hid hf2; obtain ⟨k0, k1, k2, k3⟩ := (show RgAt w2 w1.heap.size dr from ⟨_, h2⟩).all; clear h2 hf2)
        | (refine wpList_store_to rfl 122 (.tmp 23) (.tmp 21) rfl lg 0 dr.cells (by rfl) (by rfl) 124 (L.cells db) ((HL1.out.keep0 ((Fr.refl _ _).alloc _)).keep HF2.out (by omega)).row size_ring (by show 0 + 4 ≤ 8; decide) (Rg.one _) ?_; intro w3 h3 hf3))
      go_ret
      exact ⟨by rw [← HDE.out]; rfl, by rw [HL'.out]; exact ⟨h3⟩, ((HF.out.mono (fun _ h => h.elim)).alloc _ |>.trans HF2.out (fun i hi => .inr (by rw [hi]; exact HF.out.size))).trans hf3 (fun i hi => .inl hi)⟩
    · have hL : L.drop to = L := by
        rw [HL.out, if_neg (by rw [← HDE.out]; exact he)]
      have HL' := Lib.hid hL
      have he1 : (de == 0) = false := by simp [he]
      clear hL
      go_wp2_with (first
        | (refine wpList_store_to rfl 122 (.tmp 5) (.tmp 16) rfl w1.heap.size 0 dr.cells (by rfl) (by rfl) 122 Rg.zero.cells R0.out size_ring (Nat.le_refl 4) (Rg.one _) ?_; intro w2 h2 hf2; have H2 := Lib.hid h2; have HF2 := Lib.hid hf2; clear h2 hf2))
      go_ret
      exact ⟨by rw [← HDE.out]; rfl, by rw [HL'.out]; exact (HL1.out.keep0 ((Fr.refl _ _).alloc _)).keep HF2.out (by omega), (HF.out.mono (fun _ h => h.elim)).alloc _ |>.trans HF2.out (fun i hi => .inr (by rw [hi]; exact HF.out.size))⟩
end
end Go.Proofs.YtdeckbdaencjnaaDoor
