/-
  super's Encode. Conditions: none.
-/
import Derived.Test.YtdeckbdaencjnaaDoorSp
import Derived.Lib.SlBytesConst
set_option linter.unusedVariables false
set_option linter.unusedSimpArgs false
namespace Go.Proofs.YtdeckbdaencjnaaDoor
open Go.RowKit

theorem conv_const (W : World) (C : Array Value) (n c : Nat) : (convert 24 24 (.slice (some ⟨W.heap.size, 0, none⟩) n c)).run Tryd.prog (W.alloc (.cells C 5)) = .ok (.slice (some ⟨W.heap.size, 0, none⟩) n c) (W.alloc (.cells C 5 (C.size, C.size + 1))) := Lib.run_convert_bytes_const W 24 5 C n c und_bytes und_u8
def Sup.encE (s : Sup) : Int := if s.sane = true then 0 else 1
/-- An own sector, and an error. -/
structure EncRet (w w' : World) (e : Ending) (s : Sup) : Prop where
  ex : ∃ v, e = .returned (.tuple #[v, .int .i64 s.encE]) ∧ (s.sane = true → OwnV w w' v s.enc) ∧ (s.sane = false → v = .slice none 0 0) ∧ Fr F0 w w'
/-- The first numbers, as bytes. -/
def Sup.numsTo (s : Sup) (j : Nat) : List Int := (List.range j).flatMap fun i => le (fwid.getD i 0) (s.fl.getD i 0)
theorem Sup.numsTo_succ (s : Sup) (j : Nat) : s.numsTo (j + 1) = s.numsTo j ++ le (fwid.getD j 0) (s.fl.getD j 0) := by simp [Sup.numsTo, List.range_succ]
theorem Sup.numsTo_all (s : Sup) : s.numsTo 7 = s.nums := rfl
theorem fwid_le {j : Nat} (hj : j < 7) : fwid.getD j 0 ≤ 8 := by
  have : j = 0 ∨ j = 1 ∨ j = 2 ∨ j = 3 ∨ j = 4 ∨ j = 5 ∨ j = 6 := by omega
  rcases this with rfl | rfl | rfl | rfl | rfl | rfl | rfl <;> decide
theorem Sup.numsTo_len (s : Sup) (j : Nat) : (s.numsTo j).length ≤ 8 * j ∨ 7 ≤ j := by
  by_cases h : 7 ≤ j
  · exact .inr h
  · left
    induction j with
    | zero => simp [Sup.numsTo]
    | succ j ih =>
      rw [Sup.numsTo_succ, List.length_append, le_len]
      have := ih (by omega)
      have := fwid_le (j := j) (by omega)
      omega
theorem fl_bd {s : Sup} (h : s.Sane) {j : Nat} (hj : j < 7) : 0 ≤ s.fl.getD j 0 ∧ s.fl.getD j 0 ≤ 281474976710656 := by
  have := (Sup.sane_fl s).1 h j hj
  have h1 : j = 0 ∨ j = 1 ∨ j = 2 ∨ j = 3 ∨ j = 4 ∨ j = 5 ∨ j = 6 := by omega
  have h2 : 0 ≤ flo.getD j 0 ∧ fhi.getD j 0 ≤ 281474976710656 := by rcases h1 with rfl | rfl | rfl | rfl | rfl | rfl | rfl <;> decide
  omega
def Sup.encTo (s : Sup) (j : Nat) : List Int := mark8 ++ s.numsTo j
theorem Sup.encTo_succ (s : Sup) (j : Nat) : s.encTo (j + 1) = s.encTo j ++ le (fwid.getD j 0) (s.fl.getD j 0) := by
  unfold Sup.encTo
  rw [Sup.numsTo_succ, List.append_assoc]
theorem Sup.encTo_zero (s : Sup) : s.encTo 0 = mark8 := by simp [Sup.encTo, Sup.numsTo]
theorem Sup.encTo_len (s : Sup) {j : Nat} (hj : j < 7) : (s.encTo j).length ≤ 64 := by
  have := s.numsTo_len j
  unfold Sup.encTo
  rw [List.length_append]
  have : mark8.length = 8 := rfl
  omega
theorem Sup.encTo_len7 (s : Sup) : (s.encTo 7).length = 42 := by
  unfold Sup.encTo
  rw [Sup.numsTo_all, List.length_append, Sup.nums_len]; rfl
/-- What the loop of Encode keeps. -/
structure EncAt (w : World) (s : Sup) (j : Nat) (v : Value) (wr : World) : Prop where
  ex : ∃ A c, v = .slice A (s.encTo j).length c ∧ Byt wr A c (s.encTo j)
  own : 0 < j → wr.ownsRow w.heap.size 5 1 v (s.encTo j).length ((s.encTo j).map (Value.int .u8))

section
variable {w : World}
set_option maxRecDepth 100000 in
set_option maxHeartbeats 2000000 in
theorem encode_c (s : Sup) : Calls Tryd.prog 16 #[.agg #[.int .i64 s.version, .int .i64 s.epoch, .int .i64 s.blocks, .int .i64 s.counters, .int .i64 s.log, .int .i64 s.head, .int .i64 s.applied]] w fun e w' => EncRet w w' e s := by
  have hcv := conv_const
  go_enter Tryd.func16, Tryd.ntmps16
  go_wp2_with fail
  have hS : SupAt (w.alloc (.cells #[.int .i64 s.version, .int .i64 s.epoch, .int .i64 s.blocks, .int .i64 s.counters, .int .i64 s.log, .int .i64 s.head, .int .i64 s.applied] 29)) w.heap.size s := ⟨_, alloc_at rfl _⟩
  refine (sane_c s).mono ?_
  rintro e w1 ⟨rfl, hf1⟩
  have hS1 := hS.keep0 hf1
  have hfr : Fr F0 w w1 := ((Fr.refl _ _).alloc _).then0 hf1
  have hsb := hf1.size
  simp at hsb
  clear hS hf1
  by_cases hs : s.sane = true
  · have HS := Lib.hid hs
    rw [hs]
    clear hs
    go_wp2_with fail
    have hB : (w1.alloc (.cells #[.int .u8 72, .int .u8 69, .int .u8 82, .int .u8 79, .int .u8 78, .int .u8 49, .int .u8 0, .int .u8 0] 5 (8, 9))).heap[w1.heap.size]? = some (.cells (mark8.map (Value.int .u8)).toArray 5 (8, 9)) := alloc_at rfl _
    have hfr2 : Fr F0 w1 (w1.alloc (.cells #[.int .u8 72, .int .u8 69, .int .u8 82, .int .u8 79, .int .u8 78, .int .u8 49, .int .u8 0, .int .u8 0] 5 (8, 9))) := (Fr.refl _ _).alloc _
    refine (fields_c w.heap.size).mono ?_
    rintro e w3 ⟨fb, rfl, hfb, hF, hf3⟩
    have hB3 : BytesAt w3 (some ⟨w1.heap.size, 0, none⟩) 8 mark8 := (BytesAt.of_block hB).keep0 hf3
    have hS3 := (hS1.keep0 hfr2).keep0 hf3
    have hfr3 : Fr F0 w w3 := (hfr.then0 hfr2).then0 hf3
    have hsb3 := hf3.size
    simp at hsb3 hfb
    have HB3 := Lib.hid hB3
    clear hB hfr2 hB3 hf3 hS1
    go_wp2_with fail
    go_loopg [4, 6, 14] 7 (fun kq x4 x6 x14 wr => ∃ j : Nat, j ≤ 7 ∧ kq = 7 - j ∧ x14 = .int .i64 (j : Int) ∧ EncAt w s j x4 wr ∧ Fr F0 w3 wr)
    case atStart => exact ⟨0, by omega, rfl, rfl, ⟨⟨_, _, rfl, ⟨by rw [Sup.encTo_zero]; exact HB3.out, by rw [Sup.encTo_zero]; decide, by decide⟩⟩, fun h => by omega⟩, Fr.refl _ _⟩
    case round =>
      obtain ⟨j, hj, rfl, rfl, ⟨⟨A, c, rfl, hby⟩, hown⟩, hf⟩ := hrel
      have HO := Lib.hid hown
      clear hown
      have hsz := hf.size
      by_cases hlt : j < 7
      · have hj0 : (0 : Int) ≤ (j : Int) := Int.natCast_nonneg _
        have hj1 : (j : Int) < 7 := by omega
        obtain ⟨c0, c1, c2, c3⟩ := (hF.keep0 hf).cells hlt
        have hv := (hS3.keep0 hf).cell j hlt
        have hvb := fl_bd (by have := HS.out; simpa [Sup.sane] using this) hlt
        have hw8 := fwid_le hlt
        obtain ⟨v, hvv⟩ : ∃ v, v = s.fl.getD j 0 := ⟨_, rfl⟩
        obtain ⟨wd, hwd⟩ : ∃ v, v = fwid.getD j 0 := ⟨_, rfl⟩
        rw [← hvv] at hv hvb
        rw [← hwd] at c1 hw8
        have HVV := Lib.hid hvv
        have HWD := Lib.hid hwd
        have hv0 := hvb.1
        have hv1 := hvb.2
        have hsb2 : w.heap.size < wr.heap.size := by omega
        obtain ⟨lo, hlo⟩ : ∃ v, v = flo.getD j 0 := ⟨_, rfl⟩
        obtain ⟨hi, hhi⟩ : ∃ v, v = fhi.getD j 0 := ⟨_, rfl⟩
        rw [← hlo] at c2
        rw [← hhi] at c3
        clear hvv hwd hvb hlo hhi
        go_wp2_with fail
        have k0 : (wr.alloc (.cells #[.pointer (some ⟨w.heap.size, j, none⟩), .int .i64 (wd : Int), .int .i64 lo, .int .i64 hi] 92)).cell? ⟨wr.heap.size, 0, none⟩ = some (.pointer (some ⟨w.heap.size, j, none⟩)) := by rw [cell_of (alloc_at rfl _)]; rfl
        have k1 : (wr.alloc (.cells #[.pointer (some ⟨w.heap.size, j, none⟩), .int .i64 (wd : Int), .int .i64 lo, .int .i64 hi] 92)).cell? ⟨wr.heap.size, 1, none⟩ = some (.int .i64 (wd : Int)) := by rw [cell_of (alloc_at rfl _)]; rfl
        have kv : (wr.alloc (.cells #[.pointer (some ⟨w.heap.size, j, none⟩), .int .i64 (wd : Int), .int .i64 lo, .int .i64 hi] 92)).cell? ⟨w.heap.size, j, none⟩ = some (.int .i64 v) := (World.cell?_alloc_lt _ _ _ hsb2).trans hv
        have hfx : Fr F0 wr (wr.alloc (.cells #[.pointer (some ⟨w.heap.size, j, none⟩), .int .i64 (wd : Int), .int .i64 lo, .int .i64 hi] 92)) := (Fr.refl _ _).alloc _
        generalize wr.alloc (.cells #[.pointer (some ⟨w.heap.size, j, none⟩), .int .i64 (wd : Int), .int .i64 lo, .int .i64 hi] 92) = wx at *
        have HF := Lib.hid hfx
        clear c0 c1 c2 c3 hv hfx
        go_still_tail 8, (by kernel_rfl)
        go_wp2_with fail
        have hlb : (s.encTo j).length ≤ 64 := by
          exact s.encTo_len hlt
        have hbx := (hby.keep0 HF.out).at_
        refine (put_c A _ c (s.encTo j) (hbx.keep0 ((Fr.refl _ _).drew)) (by omega) v hv0 (by omega) wd hw8).mono ?_
        rintro e w4 ⟨v4, rfl, hown4⟩
        have hf4 := hown4.fr
        have HO4 := Lib.hid hown4
        clear hown4 k0 k1 kv hbx
        go_wp2_with fail
        go_roundg (7 - (j + 1))
        case measure => omega
        case rel =>
          have e1 : s.encTo (j + 1) = (s.encTo j) ++ le wd v := by
            rw [Sup.encTo_succ, ← HWD.out, ← HVV.out]
          have hfw : Fr F0 wr w4 := (HF.out.drew).then0 hf4
          refine ⟨j + 1, by omega, rfl, by first | rfl | (go_num), ⟨?_, fun _ => ?_⟩, hf.then0 hfw⟩
          · rw [e1]
            obtain ⟨A4, c4, h1, h2, h3⟩ := HO4.out.byt
            exact ⟨A4, c4, h1, h2⟩
          · rw [e1]
            have q1 : w.heap.size ≤ wx.drew.heap.size := by have := HF.out.size; show w.heap.size ≤ wx.heap.size; omega
            exact own_base_le HO4.out.own q1
      · have hj7 : j = 7 := by omega
        subst hj7
        have ho := HO.out (by decide)
        have hl42 := s.encTo_len7
        rw [hl42] at ho ⊢
        have HO7 := Lib.hid ho
        have HL := Lib.hid hl42
        have hb0 : w.heap.size ≤ wr.heap.size := by omega
        have uint : Tryd.prog.underlying 3 = some (.int .i64) := und_int
        clear ho hl42
        go_wp2_with (at_builtin; refine wpList_append_zeros rfl (.tmp 28) (.tmp 31) 24 3 5 1 (.int .u8 0) .i64 rfl und_bytes und_int info_u8 rfl rfl w.heap.size (.slice A 42 c) ((s.encTo 7).map (Value.int .u8)) .i64 18 (by rfl) (by rfl) (by rw [List.length_map, HL.out]; exact HO7.out) hb0 (by rw [List.length_map, HL.out]; decide) (by rw [List.length_map, HL.out]; decide) ?_; intro v5 w5 hown5 hf5)
        have hbody : s.body = s.encTo 7 ++ List.replicate 18 0 := by
          unfold Sup.body Sup.encTo
          rw [Sup.numsTo_all, List.append_assoc]
        have hlen : s.body.length = 60 := s.body_len
        have hmap : (s.encTo 7).map (Value.int .u8) ++ List.replicate 18 (Value.int .u8 0) = s.body.map (Value.int .u8) := by
          rw [hbody, List.map_append, List.map_replicate]
        have ho5 : w5.ownsRow w.heap.size 5 1 v5 s.body.length (s.body.map (Value.int .u8)) := by
          rw [hlen, ← hmap]
          have := hown5
          rw [List.length_map, HL.out] at this
          exact this
        have hfr5 : Fr F0 w w5 := (hfr3.then0 hf).trans hf5 (fun k hk => .inr (own_base HO7.out k hk))
        have hO5 : OwnV w w5 v5 s.body := ⟨ho5, hfr5⟩
        obtain ⟨A5, c5, e5, hb5, hn5⟩ := hO5.byt
        have hbys : Bys s.body := by
          have := Sup.enc_bys s
          exact fun x hx => this x (List.mem_append.2 (.inl hx))
        have HBY := Lib.hid hb5
        rw [e5]
        clear hown5 hmap ho5 hO5 hb5 hbody
        refine (seal_c A5 _ c5 s.body HBY.out.at_ (by rw [hlen]; decide) hbys).mono ?_
        rintro e w6 ⟨v6, rfl, hown6⟩
        have hf6 := hown6.fr
        have HO6 := Lib.hid hown6
        have hr : s.encE = 0 := by simp [Sup.encE, HS.out]
        have HR := Lib.hid hr
        clear hown6 hlen hr
        go_wp2_with fail
        go_ret2
        exact ⟨_, by rw [HR.out]; rfl, (fun _ => ⟨own_base_le HO6.out.own hfr5.size, hfr5.then0 hf6⟩), (fun h => by rw [HS.out] at h; cases h), hfr5.then0 hf6⟩
  · have hs' : s.sane = false := by simpa using hs
    have hr : s.encE = 1 := by simp [Sup.encE, hs']
    have HS := Lib.hid hs'
    have HR := Lib.hid hr
    rw [hs']
    clear hs hs' hr
    go_wp2_with fail
    go_ret2
    exact ⟨_, by rw [HR.out]; rfl, (fun h => by rw [HS.out] at h; cases h), fun _ => rfl, hfr⟩
end
end Go.Proofs.YtdeckbdaencjnaaDoor
