/-
  heronrylaw07: some. heronrylaw07: awake. Conditions: none.
-/
import Derived.Test.YtdeckbdaencjnaaDoorP7f
import Derived.Test.YtdeckbdaencjnaaDoorW1
import Derived.Deep.OwnRows
import Derived.Test.YtdeckbdaencjnaaDoorSe
set_option linter.unusedVariables false
set_option linter.unusedSimpArgs false
namespace Go.Proofs.YtdeckbdaencjnaaDoor
open Go.RowKit
theorem made_z (n : Nat) : madeCells #[Value.int .u8 0] n = cellsOf (List.replicate n 0) := by
  apply Array.ext
  · simp [madeCells, cellsOf]
  · intro i h1 h2
    simp [madeCells, cellsOf, Nat.mod_one]
theorem make_zb (n : Nat) (hn : n ≤ 1000000) (W : World) : (Instr.makeSlice 24 (.int .i64 (n : Int)) (.int .i64 (n : Int))).run Tryd.prog W = .ok (.slice (some ⟨W.heap.size, 0, none⟩) n n) (W.alloc (.cells (cellsOf (List.replicate n 0)) 5)) := by
  have := run_make_row' (P := Tryd.prog) 24 5 (.int .u8 0) 1 und_bytes info_u8 rfl .i64 .i64 n (by omega) (by omega) W
  rw [made_z] at this
  exact this
/-- So many bytes, from one on. -/
def someL (n : Nat) (c : Int) : List Int := (List.range n).map fun (i : Nat) => (c + i) % 256
theorem someL_len (n : Nat) (c : Int) : (someL n c).length = n := by simp [someL]
theorem someL_bys (n : Nat) (c : Int) : Bys (someL n c) := by
  intro x hx
  obtain ⟨i, _, rfl⟩ := List.mem_map.1 hx
  omega
theorem someL_set (n j : Nat) (c : Int) (hj : j < n) : (someL j c ++ List.replicate (n - j) 0).set j ((c + j) % 256) = someL (j + 1) c ++ List.replicate (n - (j + 1)) 0 := by
  rw [List.set_append_right _ _ (by rw [someL_len]; exact Nat.le_refl _), someL_len, Nat.sub_self]
  obtain ⟨m, hm⟩ : ∃ m, n - j = m + 1 := ⟨n - j - 1, by omega⟩
  rw [hm, show n - (j + 1) = m by omega, List.replicate_succ, List.set_cons_zero]
  unfold someL
  rw [List.range_succ, List.map_append]
  simp
theorem own_of_cells {w : World} {base B : Nat} {xs : List Int} {c : Nat} (hb : base ≤ B) (h : w.heap[B]? = some (.cells (cellsOf xs) 5 (0, 0))) (hl : xs.length = c) (hc : c ≤ 1000000) : w.ownsRow base 5 1 (.slice (some ⟨B, 0, none⟩) c c) xs.length (xs.map (Value.int .u8)) := by
  refine ⟨by simp, .inr ⟨B, c, cellsOf xs, by rw [hl], hb, h, by omega, by simp only [maxLen]; omega, by simp [cellsOf_size, hl], by simp only [cellsOf, Nat.mul_one]; exact List.take_of_length_le (by simp)⟩⟩
section
variable {w : World}
set_option maxRecDepth 100000 in
set_option maxHeartbeats 2000000 in
theorem some_c (n : Nat) (hn : n ≤ 44000) (c : Int) (c0 : 0 ≤ c) (c1 : c ≤ 255) : Calls Tryd.prog 46 #[.int .i64 (n : Int), .int .u8 c] w fun e w' => OwnB w w' e (someL n c) := by
  have hmk := make_zb n (by omega)
  have n0 : (0 : Int) ≤ (n : Int) := Int.natCast_nonneg _
  have n1 : (n : Int) ≤ 44000 := by omega
  go_enter Tryd.func46, Tryd.ntmps46
  go_wp2_with fail
  clear hmk
  go_loopg [6] n (fun kq x6 wr => ∃ j : Nat, j ≤ n ∧ kq = n - j ∧ x6 = .int .i64 (j : Int) ∧ wr.heap[w.heap.size]? = some (.cells (cellsOf (someL j c ++ List.replicate (n - j) 0)) 5 (0, 0)) ∧ Fr F0 w wr)
  case atStart => exact ⟨0, by omega, rfl, rfl, by simpa [someL] using alloc_at rfl _, (Fr.refl _ _).alloc _⟩
  case round =>
    obtain ⟨j, hj, rfl, rfl, hrow, hf⟩ := hrel
    have HR := Lib.hid hrow
    have HF := Lib.hid hf
    clear hrow hf
    by_cases hlt : j < n
    · have j0 : (0 : Int) ≤ (j : Int) := Int.natCast_nonneg _
      have j1 : (j : Int) < (n : Int) := by omega
      have hll : (someL j c ++ List.replicate (n - j) 0).length = n := by rw [List.length_append, someL_len, List.length_replicate]; omega
      have hcell : ∃ x, wr.cell? ⟨w.heap.size, j, none⟩ = some x := by
        rw [cell_of HR.out]
        exact ⟨_, Array.getElem?_eq_getElem (by rw [cellsOf_size, hll]; exact hlt)⟩
      obtain ⟨x, hx⟩ := hcell
      have hfree := free_of HR.out j
      have hb := HR.out
      go_wp2_with fail
      go_roundg (n - (j + 1))
      case measure => omega
      case rel =>
        refine ⟨j + 1, by omega, rfl, by first | rfl | (go_num), ?_, HF.out.setCell (by exact .inr (Nat.le_refl _)) _⟩
        rw [← someL_set n j c hlt, ← cellsOf_set]
        exact set_cell HR.out j _
    · have hjn : j = n := by omega
      subst hjn
      go_wp2_with fail
      go_ret
      have HR2 := HR.out
      rw [Nat.sub_self, List.replicate_zero, List.append_nil] at HR2
      exact ⟨_, rfl, own_of_cells (Nat.le_refl _) HR2 (someL_len _ _) (by omega), HF.out⟩
end
end Go.Proofs.YtdeckbdaencjnaaDoor
set_option linter.unusedVariables false
set_option linter.unusedSimpArgs false
namespace Go.Proofs.YtdeckbdaencjnaaDoor
open Go.RowKit
theorem logMay_new {n : Nat} {from_ size head epoch : Int} (h1 : 0 ≤ from_) (h2 : 1 ≤ size) (h3 : from_ + size ≤ (n : Int)) (h4 : 0 ≤ head) (h5 : head ≤ 1099511627776) (h6 : 1 ≤ epoch) (h7 : epoch ≤ 4294967295) {D : Dev} (hg : D.gone = false) (hl : D.laid.length = n) : logMay D from_ size head epoch = 0 := by
  unfold logMay
  rw [if_neg (by rw [hg]; decide), if_neg (by rw [hl]; omega), if_neg (by omega)]
/-- What the example's device tells. -/
theorem awake_plain : ∃ (L1 L2 L3 L4 : Lg) (D1 D2 D3 : Dev), openL (Dev.new 8) 1 6 0 1 = L1 ∧ L1.r.Sane ∧ 0 ≤ L1.epoch ∧ L1.epoch ≤ 4294967295 ∧ L1.appE (Dev.new 8) [97] = 0 ∧ L1.app (Dev.new 8) [97] = L2 ∧ L1.appD (Dev.new 8) [97] = D1 ∧
    L2.forceE D1 = 0 ∧ L2.force D1 = L3 ∧ L2.forceD D1 = D2 ∧ L3.r.Sane ∧ 0 ≤ L3.epoch ∧ L3.epoch ≤ 4294967295 ∧ L3.appE D2 [98] = 0 ∧ L3.app D2 [98] = L4 ∧ L3.appD D2 [98] = D3 ∧
    SecBys D3 ∧ logMay (D3.crash []) 1 6 0 2 = 0 ∧ (opened (D3.crash []) 1 6 0 2).1 = [(0, [97])] := by
  have hb1 : Bys [97] := by intro x hx; simp at hx; omega
  have hb2 : Bys [98] := by intro x hx; simp at hx; omega
  obtain ⟨h1, h2, hl1⟩ := Laid.new (n := 8) (from_ := 1) (size := 6) (head := 0) (epoch := 1) ⟨by decide, by decide, by decide, by decide, by decide, by decide, by decide, by decide⟩ (by decide) (by decide) (by decide)
  obtain ⟨L1, hL1⟩ : ∃ L1 : Lg, L1 = ⟨⟨1, 6, 0, 0⟩, 1, 0, false⟩ := ⟨_, rfl⟩
  rw [← hL1] at h1 hl1
  rcases hl1.app hb1 (by decide) with ⟨_, _, _, _, _, _, hh⟩ | ⟨a1, a2, a3, a4, a5, hl2⟩
  · rw [hL1] at hh; exact absurd hh (by decide)
  obtain ⟨f1, f2, f3, hl3, f5⟩ := hl2.force
  obtain ⟨L2, hL2⟩ : ∃ L2 : Lg, L2 = { L1 with r := L1.r.taken (need ([97] : List Int).length) } := ⟨_, rfl⟩
  rw [← hL2] at f1 f2 f3 hl3 a4 f5 hl2
  obtain ⟨D1, hD1⟩ : ∃ D1, D1 = L1.appD (Dev.new 8) [97] := ⟨_, rfl⟩
  rw [← hD1] at f1 f2 f3 hl3 f5 hl2
  obtain ⟨L3, hL3⟩ : ∃ L3 : Lg, L3 = { L2 with safe := L2.r.tail } := ⟨_, rfl⟩
  rw [← hL3] at f2 hl3
  rcases hl3.app hb2 (by decide) with ⟨_, _, _, _, _, _, hh⟩ | ⟨b1, b2, b3, b4, b5, hl4⟩
  · rw [hL3, hL2, hL1] at hh; exact absurd hh (by decide)
  refine ⟨L1, L2, L3, _, D1, D1.flush, L3.appD D1.flush [98], h1, hl1.sane, hl1.e0, hl1.e1, a1, a4, hD1.symm, f1, f2, f3, hl3.sane, hl3.e0, hl3.e1, b1, rfl, rfl, hl4.bys, ?_, ?_⟩
  · exact logMay_new (n := 8) (by decide) (by decide) (by decide) (by decide) (by decide) (by decide) (by decide) rfl (by rw [Dev.crash_len]; exact hl4.good.laid)
  · have hat : ∀ q, L2.r.sc ((L3.appD D1.flush [98]).crash []) q = L2.r.sc D1 q := by
      intro q
      unfold Rg.sc
      rw [Dev.crash_nil_at, b5]
      exact f5 q
    have ht : L2.r.tail = 1 := by rw [hL2, hL1]; decide
    have hop := hl2.opens (D' := (L3.appD D1.flush [98]).crash []) (epoch := 2) (fun _ => by
      rw [hat, hl2.rest _ (Int.le_refl _) (by rw [ht, hL2, hL1]; decide)]
      exact zsec_read) (fun q _ _ => hat q) (by rw [hL2, hL1]; decide)
    have e1 : L2.r.from_ = 1 := by rw [hL2, hL1]; rfl
    have e2 : L2.r.size = 6 := by rw [hL2, hL1]; rfl
    have e3 : L2.r.head = 0 := by rw [hL2, hL1]; rfl
    rw [e1, e2, e3] at hop
    rw [hop]
    rfl
theorem und7_string : Tryd.prog.underlying 9 = some .string := Tryd.underlying9
theorem byt_one {w : World} {b : Nat} {x : Int} {t : TypeId} {fr : Nat × Nat} (h : w.heap[b]? = some (.cells #[.int .u8 x] t fr)) : Byt w (some ⟨b, 0, none⟩) 1 [x] := ⟨BytesAt.of_block (xs := [x]) h, by simp, by decide⟩
section
variable {w : World}
set_option maxRecDepth 100000 in
set_option maxHeartbeats 4000000 in
theorem awake7_c : Calls Tryd.prog 43 #[] w fun e w' => e = .returned (.bool true) ∧ Fr F0 w w' := by
  obtain ⟨L1, L2, L3, L4, D1, D2, D3, p1, p2, p3, p4, p5, p6, p7, q1, q2, q3, r1, r2, r3, r4, r5, r6, s1, s2, s3⟩ := awake_plain
  have P : Hid (openL (Dev.new 8) 1 6 0 1 = L1 ∧ L1.app (Dev.new 8) [97] = L2 ∧ L1.appD (Dev.new 8) [97] = D1 ∧ L2.force D1 = L3 ∧ L2.forceD D1 = D2 ∧ L3.app D2 [98] = L4 ∧ L3.appD D2 [98] = D3) := Lib.hid ⟨p1, p6, p7, q2, q3, r5, r6⟩
  have PE : Hid (L1.appE (Dev.new 8) [97] = 0 ∧ L2.forceE D1 = 0 ∧ L3.appE D2 [98] = 0) := Lib.hid ⟨p5, q1, r4⟩
  have PS : Hid (L1.r.Sane ∧ 0 ≤ L1.epoch ∧ L1.epoch ≤ 4294967295 ∧ L3.r.Sane ∧ 0 ≤ L3.epoch ∧ L3.epoch ≤ 4294967295) := Lib.hid ⟨p2, p3, p4, r1, r2, r3⟩
  have PB := Lib.hid s1
  have PM := Lib.hid s2
  have PO := Lib.hid s3
  have PN : Hid (logMay (Dev.new 8) 1 6 0 1 = 0) := Lib.hid (logMay_new (n := 8) (by decide) (by decide) (by decide) (by decide) (by decide) (by decide) (by decide) rfl (by simp [Dev.new]))
  clear p1 p2 p3 p4 p5 p6 p7 q1 q2 q3 r1 r2 r3 r4 r5 r6 s1 s2 s3
  go_enter Tryd.func43, Tryd.ntmps43
  go_wp2_with fail
  refine (new_c 8 (by decide) (by decide) _).mono ?_
  rintro e w1 ⟨db, lb, mb, rfl, h1, n1, n2, n3, hf1⟩
  have HD1 := Lib.hid h1
  have HF1 := Lib.hid hf1
  clear h1 hf1
  go_wp2_with fail
  refine (wopen_c HD1.out (SecBys.new 8) 1 6 0 1).mono ?_
  rintro e w2 ⟨-, hgood, hf2⟩
  obtain ⟨lg, v2, rfl, hlg, hlog, -⟩ := hgood PN.out
  rw [P.out.1] at hlog
  have HL2 := Lib.hid hlog
  have HD2 := Lib.hid (HD1.out.keep0 hf2)
  have HF2 := Lib.hid (HF1.out.then0 hf2)
  have hap : ¬ Dv db lb mb lg := by
    have := HD1.out.lt
    rintro (h | h | h) <;> omega
  have hnew : ∀ k, Lv lg db lb mb k → w.heap.size ≤ k := by
    have := HF1.out.size
    rintro k (h | h | h | h) <;> omega
  have hold : ∀ k, Lv lg db lb mb k → k < w2.heap.size := by
    have h1 := HL2.out.lt
    obtain ⟨h2, h3, h4⟩ := HD2.out.lt
    rintro k (rfl | rfl | rfl | rfl) <;> assumption
  have HAP := Lib.hid hap
  have HNEW := Lib.hid hnew
  have HOLD := Lib.hid hold
  clear hgood hf2 hlog hap hnew hold n1 n2 n3 hlg
  have hcv := conv_const w2 #[.int .u8 97] 1 1
  go_wp2_with fail
  clear hcv
  have HAL := Lib.hid ((Fr.refl F0 w2).alloc (.cells #[.int .u8 97] 5 (1, 2)))
  refine (append7_c (HL2.out.keep0 HAL.out) (HD2.out.keep0 HAL.out) HAP.out PS.out.1 PS.out.2.1 PS.out.2.2.1 (some ⟨w2.heap.size, 0, none⟩) 1 1 [97] (byt_one (alloc_at rfl _)) rfl (by intro x hx; simp at hx; omega) (by decide)).mono ?_
  rintro e w3 ⟨rfl, hl3, hd3, hf3⟩
  rw [PE.out.1]
  rw [P.out.2.1] at hl3
  rw [P.out.2.2.1] at hd3
  have HL3 := Lib.hid hl3
  have HD3 := Lib.hid hd3
  have HF3 := Lib.hid (((HF2.out.then0 HAL.out)).trans hf3 (fun k hk => .inr (HNEW.out k hk)))
  obtain ⟨ap, hapq⟩ : ∃ ap, ap = L1.appP (Dev.new 8) [97] := ⟨_, rfl⟩
  rw [← hapq]
  clear hl3 hd3 hf3 hapq
  go_wp2_with fail
  refine (force7_c HL3.out HD3.out HAP.out).mono ?_
  rintro e w4 ⟨rfl, hl4, hd4, hf4⟩
  rw [PE.out.2.1]
  rw [P.out.2.2.2.1] at hl4
  rw [P.out.2.2.2.2.1] at hd4
  have HL4 := Lib.hid hl4
  have HD4 := Lib.hid hd4
  have HF4 := Lib.hid (HF3.out.trans hf4 (fun k hk => .inr (HNEW.out k hk)))
  clear hl4 hd4 hf4
  have hcv := conv_const w4 #[.int .u8 98] 1 1
  go_wp2_with fail
  clear hcv
  have HAL := Lib.hid ((Fr.refl F0 w4).alloc (.cells #[.int .u8 98] 5 (1, 2)))
  refine (append7_c (HL4.out.keep0 HAL.out) (HD4.out.keep0 HAL.out) HAP.out PS.out.2.2.2.1 PS.out.2.2.2.2.1 PS.out.2.2.2.2.2 (some ⟨w4.heap.size, 0, none⟩) 1 1 [98] (byt_one (alloc_at rfl _)) rfl (by intro x hx; simp at hx; omega) (by decide)).mono ?_
  rintro e w5 ⟨rfl, hl5, hd5, hf5⟩
  rw [PE.out.2.2]
  rw [P.out.2.2.2.2.2.2] at hd5
  have HD5 := Lib.hid hd5
  have HF5 := Lib.hid ((HF4.out.then0 HAL.out).trans hf5 (fun k hk => .inr (HNEW.out k hk)))
  obtain ⟨ap2, hapq⟩ : ∃ ap, ap = L3.appP D2 [98] := ⟨_, rfl⟩
  rw [← hapq]
  clear hl5 hd5 hf5 hapq
  go_wp2_with fail
  refine (crash_c HD5.out none 0 [] 0 rfl ⟨fun h => by simp at h⟩ (fun ad e => by cases e) (by decide)).mono ?_
  rintro e w6 ⟨rfl, hd6, hf6⟩
  have HD6 := Lib.hid hd6
  have HF6 := Lib.hid (HF5.out.trans hf6 (fun k hk => .inr (HNEW.out k (.inr hk))))
  clear hd6 hf6
  go_wp2_with fail
  refine (wopen_c HD6.out (PB.out.crash []) 1 6 0 2).mono ?_
  rintro e w7 ⟨-, hgood, hf7⟩
  obtain ⟨lg2, v7, rfl, -, -, hrecs⟩ := hgood PM.out
  rw [PO.out] at hrecs
  have HF7 := Lib.hid (HF6.out.then0 hf7)
  obtain ⟨b7, c7, B7, cB7, hv7, hh7, hc7, hby7, -, -⟩ := OwnRowB.elem (head := recHead) (byt := fun x : Int × List Int => x.2) (hd := 1) (fun _ => rfl) hrecs 0 ((0 : Int), [(97 : Int)]) (by rfl)
  simp only [List.length_singleton] at hv7
  subst hv7
  have hcs : (convert 24 9 (.slice B7 1 cB7)).run Tryd.prog w7 = .ok (.string (strOfNums [97])) w7 := conv_at (xs := [97]) hby7.at_ und_bytes und_u8 und7_string cB7
  have hk7 : w7.cell? ⟨b7, 1, none⟩ = some (.slice B7 1 cB7) := hc7
  have hst : ((strOfNums [97]).toList == [97]) = true := by decide +kernel
  clear hgood hf7 hrecs hh7 hc7 hby7
  go_wp2_with fail
  go_ret
  exact ⟨rfl, HF7.out⟩
end
end Go.Proofs.YtdeckbdaencjnaaDoor
