/-
  SuperWorse: the walk. Conditions: none.
-/
import Derived.Test.YtdeckbdaencjnaaDoorL8c
import Derived.Test.YtdeckbdaencjnaaDoorL8f
set_option linter.unusedVariables false
set_option linter.unusedSimpArgs false
namespace Go.Proofs.YtdeckbdaencjnaaDoor
open Go.RowKit
section
variable {w : World}
set_option maxRecDepth 100000 in
set_option maxHeartbeats 4000000 in
theorem worse_walk (nn : Int) (A : Option Addr) (n c : Nat) (b : List Int) (hA : BytesAt w A n b) (hb : ∀ x ∈ b, 0 ≤ x ∧ x ≤ 255) (hn : n ≤ 9223372036854775807) :
    Calls Tryd.prog 4 #[.int .i64 nn, .slice A n c] w fun e w' => e = .returned (.bool true) ∧ Fr F0 w w' := by
  have hl := hA.len
  have hn0 : (0 : Int) ≤ (n : Int) := Int.natCast_nonneg _
  by_cases hbig : 60 < n
  · have hb : (60 : Int) < (n : Int) := by omega
    clear hl hbig
    go_enter Tryd.func4, Tryd.ntmps4
    go_wp2_with fail
    refine (awake_c _).mono ?_
    rintro e w1 ⟨rfl, hf1⟩
    go_wp2_with fail
    go_ret
    exact ⟨rfl, hf1⟩
  obtain ⟨v, hv⟩ : ∃ v, v = nn % 65536 := ⟨_, rfl⟩
  have v0 : 0 ≤ v := by omega
  have v1 : v < 65536 := by omega
  have hx : bits .and .i64 nn 65535 = v := by rw [hv]; exact i64_and nn 16 (by decide)
  clear hv
  obtain ⟨p1, p2, -⟩ := wor_first v0 v1
  obtain ⟨p3, p4, -⟩ := wor_second v0 v1
  obtain ⟨p5, p6, p7, p8⟩ := wor_third v0 v1 hb (by omega)
  have P1 := Lib.hid p1
  have P2 := Lib.hid p2
  have P3 := Lib.hid p3
  have P4 := Lib.hid p4
  have P5 := Lib.hid p5
  have P6 := Lib.hid p6
  have P7 := Lib.hid p7
  have P8 := Lib.hid p8
  clear p1 p2 p3 p4 p5 p6 p7 p8
  have hs60 : ¬ (60 : Int) < (n : Int) := by omega
  have HL := Lib.hid hl
  have N60 : Hid (n ≤ 60) := Lib.hid (by omega)
  have HB := Lib.hid hb
  have HA := Lib.hid hA
  clear hl hbig hb hA
  go_enter Tryd.func4, Tryd.ntmps4
  go_wp2_with fail
  refine (awake_c _).mono ?_
  rintro e w1 ⟨rfl, hf1⟩
  go_wp2_with fail
  refine (new_c 4 (by decide) (by decide) _).mono ?_
  rintro e w2 ⟨db, lb, mb, rfl, hD2, n1, n2', n3, hf2⟩
  have HF2 := Lib.hid (hf1.then0 hf2)
  have hnd : NewDev w db lb mb := ⟨Nat.le_trans hf1.size n1, Nat.le_trans hf1.size n2', Nat.le_trans hf1.size n3⟩
  have hlt2 := hD2.lt
  go_wp2_with fail
  refine (save_n hD2 (wor v)).mono ?_
  rintro e w3 ⟨s1, rfl, hs1, hD3, hf3⟩
  rw [P1.out]
  have e1 : s1 = ⟨v + 1, 0, 0, 0, 3, 0, 0⟩ := hs1.out.trans P2.out
  subst e1
  have HF3 := Lib.hid ((HF2.out.dev hnd hf3).alloc (.cells #[.int .i64 (v + 1), .int .i64 0, .int .i64 0, .int .i64 0, .int .i64 3, .int .i64 0, .int .i64 0] 29))
  have hD4 := hD3.keep0 ((Fr.refl _ _).alloc (.cells #[.int .i64 (v + 1), .int .i64 0, .int .i64 0, .int .i64 0, .int .i64 3, .int .i64 0, .int .i64 0] 29))
  have c4 : (w3.alloc (.cells #[.int .i64 (v + 1), .int .i64 0, .int .i64 0, .int .i64 0, .int .i64 3, .int .i64 0, .int .i64 0] 29)).heap[w3.heap.size]? = some (.cells (wor (v + 1)).cells.toArray 29 (0, 0)) := alloc_at rfl _
  have hlt3 := hD3.lt
  clear hf3 hs1 hD3
  go_wp2_with fail
  refine (save_n hD4 (wor (v + 1))).mono ?_
  rintro e w5 ⟨s2, rfl, hs2, hD5, hf5⟩
  rw [P3.out]
  have e2 : s2 = ⟨v + 1 + 1, 0, 0, 0, 3, 0, 0⟩ := hs2.out.trans P4.out
  subst e2
  have c5 := hf5.keep c4 (by rintro (h' | h' | h') <;> omega)
  have hz5 := hf5.size
  have ff : Fr F0 w5 (w5.alloc (.cells #[.int .i64 (v + 1 + 1), .int .i64 0, .int .i64 0, .int .i64 0, .int .i64 3, .int .i64 0, .int .i64 0] 29)) := (Fr.refl _ _).alloc _
  have C6 := Lib.hid (ff.keep0 c5)
  have D6 := Lib.hid (hD5.keep0 ff)
  have HF6 := Lib.hid ((HF3.out.dev hnd hf5).then0 ff)
  have k10 : (w5.alloc (.cells #[.int .i64 (v + 1 + 1), .int .i64 0, .int .i64 0, .int .i64 0, .int .i64 3, .int .i64 0, .int .i64 0] 29)).cell? ⟨w5.heap.size, 0, none⟩ = some (.int .i64 (v + 1 + 1)) := by rw [cell_of (alloc_at rfl _)]; rfl
  have hbl : w3.heap.size < w5.heap.size := by simp at hz5; omega
  clear hf5 hs2 hD5 ff c4 c5
  go_wp2_with fail
  have hz6 := HF6.out.size
  generalize hw6 : (w5.alloc (.cells #[.int .i64 (v + 1 + 1), .int .i64 0, .int .i64 0, .int .i64 0, .int .i64 3, .int .i64 0, .int .i64 0] 29)) = w6 at *
  have hw6s : w5.heap.size < w6.heap.size := by rw [← hw6]; simp
  clear hw6
  have HDW : Hid (DevAt Tryd.prog 3 w6 db lb mb (worD v)) := D6
  have hAne : ∀ W : World, 0 < n → ∀ ad, A = some ad → ad.block ≠ db ∧ ad.block ≠ lb ∧ ad.block ≠ mb := by
    intro W hp ad e
    subst e
    have h1 := HA.out.lt hp
    have := hnd.d
    have := hnd.l
    have := hnd.m
    omega
  have HNE := Lib.hid hAne
  clear hAne D6
  refine (write_c HDW.out ((v + 1 + 1) % 2) A c b n (HA.out.keep0 HF6.out) (fun hp ad e => (HNE.out w hp ad e).1)).mono ?_
  rintro e w7 ⟨rfl, hD7, hf7⟩
  rw [P5.out]
  have C7 := Lib.hid (hf7.keep C6.out (by rintro (h' | h' | h') <;> omega))
  have HF7 := Lib.hid (HF6.out.dev hnd hf7)
  have HD7 : Hid (DevAt Tryd.prog 3 w7 db lb mb (worA v b)) := Lib.hid hD7
  have hz7 := hf7.size
  clear hf7 hD7
  go_wp2_with fail
  refine (load_n HD7.out P6.out).mono ?_
  rintro e w8 ⟨s3, rfl, hs3, hf8⟩
  have f9 : Fr F0 w7 (w8.alloc (.cells #[.int .i64 s3.version, .int .i64 s3.epoch, .int .i64 s3.blocks, .int .i64 s3.counters, .int .i64 s3.log, .int .i64 s3.head, .int .i64 s3.applied] 29)) := hf8.alloc _
  have hz8 := hf8.size
  obtain ⟨e3, he3⟩ : ∃ e3, e3 = (worA v b).loadE := ⟨_, rfl⟩
  rw [← he3]
  have HE3 := Lib.hid he3
  have C9 := Lib.hid (f9.keep0 C7.out)
  have c9 : (w8.alloc (.cells #[.int .i64 s3.version, .int .i64 s3.epoch, .int .i64 s3.blocks, .int .i64 s3.counters, .int .i64 s3.log, .int .i64 s3.head, .int .i64 s3.applied] 29)).heap[w8.heap.size]? = some (.cells s3.cells.toArray 29 (0, 0)) := alloc_at rfl _
  have k9 : (w8.alloc (.cells #[.int .i64 s3.version, .int .i64 s3.epoch, .int .i64 s3.blocks, .int .i64 s3.counters, .int .i64 s3.log, .int .i64 s3.head, .int .i64 s3.applied] 29)).cell? ⟨w3.heap.size, 0, none⟩ = some (.int .i64 (v + 1)) := by rw [cell_of C9.out]; rfl
  have K9 := Lib.hid c9
  have HD9 := Lib.hid (HD7.out.keep0 f9)
  have HF9 := Lib.hid (HF7.out.then0 f9)
  clear he3 hf8 f9 c9
  go_wp2_with fail
  have hz9 := HF9.out.size
  generalize hw9 : (w8.alloc (.cells #[.int .i64 s3.version, .int .i64 s3.epoch, .int .i64 s3.blocks, .int .i64 s3.counters, .int .i64 s3.log, .int .i64 s3.head, .int .i64 s3.applied] 29)) = w9 at *
  have hw9s : w8.heap.size < w9.heap.size := by rw [← hw9]; simp
  clear hw9 k9
  refine (write_c HD9.out ((v + 1) % 2) A c b n (HA.out.keep0 HF9.out) (fun hp ad e => (HNE.out w hp ad e).1)).mono ?_
  rintro e w10 ⟨rfl, hD10, hf10⟩
  obtain ⟨e10, he10⟩ : ∃ e10, e10 = (worA v b).writeE ((v + 1) % 2) b := ⟨_, rfl⟩
  rw [← he10]
  clear he10
  have C10 := Lib.hid (hf10.keep C9.out (by rintro (h' | h' | h') <;> omega))
  have K10 := Lib.hid (hf10.keep K9.out (by rintro (h' | h' | h') <;> omega))
  have HF10 := Lib.hid (HF9.out.dev hnd hf10)
  have HD10 : Hid (DevAt Tryd.prog 3 w10 db lb mb (worB v b)) := Lib.hid hD10
  clear hf10 hD10
  go_wp2_with fail
  refine (load_n HD10.out P7.out).mono ?_
  rintro e w11 ⟨s4, rfl, hs4, hf11⟩
  have f12 : Fr F0 w10 (w11.alloc (.cells #[.int .i64 s4.version, .int .i64 s4.epoch, .int .i64 s4.blocks, .int .i64 s4.counters, .int .i64 s4.log, .int .i64 s4.head, .int .i64 s4.applied] 29)) := hf11.alloc _
  obtain ⟨e4, he4⟩ : ∃ e4, e4 = (worB v b).loadE := ⟨_, rfl⟩
  rw [← he4]
  have HE4 := Lib.hid he4
  have C12 := Lib.hid (f12.keep0 C10.out)
  have K12 := Lib.hid (f12.keep0 K10.out)
  have HF12 := Lib.hid (HF10.out.then0 f12)
  have hw12 : w.heap.size ≤ (w11.alloc (.cells #[.int .i64 s4.version, .int .i64 s4.epoch, .int .i64 s4.blocks, .int .i64 s4.counters, .int .i64 s4.log, .int .i64 s4.head, .int .i64 s4.applied] 29)).heap.size := HF12.out.size
  clear he4 hf11 f12
  obtain ⟨k, hk⟩ : ∃ k : Nat, (k : Int) = 64 - (n : Int) := ⟨64 - n, by have := N60.out; omega⟩
  have HK := Lib.hid hk
  have HO12 : Hid ((((w11.alloc (.cells #[.int .i64 s4.version, .int .i64 s4.epoch, .int .i64 s4.blocks, .int .i64 s4.counters, .int .i64 s4.log, .int .i64 s4.head, .int .i64 s4.applied] 29))).alloc (.cells #[] 5)).ownsRow (w11.heap.size + 1) 5 1 (.slice (some ⟨w11.heap.size + 1, 0, none⟩) 0 0) 0 []) := Lib.hid ⟨rfl, .inr ⟨w11.heap.size + 1, 0, #[], rfl, Nat.le_refl _, alloc_at (by simp) _, Nat.le_refl _, by decide, rfl, rfl⟩⟩
  have HA12 := Lib.hid (HA.out.keep0 (HF12.out.then0 ((Fr.refl _ (w11.alloc (.cells #[.int .i64 s4.version, .int .i64 s4.epoch, .int .i64 s4.blocks, .int .i64 s4.counters, .int .i64 s4.log, .int .i64 s4.head, .int .i64 s4.applied] 29))).alloc (.cells #[] 5))))
  have hb13 : w11.heap.size + 1 ≤ (((w11.alloc (.cells #[.int .i64 s4.version, .int .i64 s4.epoch, .int .i64 s4.blocks, .int .i64 s4.counters, .int .i64 s4.log, .int .i64 s4.head, .int .i64 s4.applied] 29))).alloc (.cells #[] 5)).heap.size := by simp
  have HB13 := Lib.hid hb13
  clear hw12 hk hb13
  go_wp2_with (first | (at_builtin; refine wpList_append_vals rfl (.tmp 65) (.tmp 66) 24 5 1 (.int .u8 0) rfl und_bytes info_u8 rfl (by decide) (w11.heap.size + 1) (.slice (some ⟨w11.heap.size + 1, 0, none⟩) 0 0) [] (b.map (Value.int .u8)) A n c (by rfl) (by rfl) (by rw [List.length_map, HL.out]) (bytes_one b) HO12.out HA12.out.vals HB13.out (by have := N60.out; simp; omega) ?_; intro v5 w13 hO5 hf5) | (at_builtin; refine wpList_append_zeros rfl (.tmp 67) (.tmp 70) 24 3 5 1 (.int .u8 0) .i64 rfl und_bytes und_int info_u8 rfl rfl (w11.heap.size + 1) v5 (b.map (Value.int .u8)) .i64 k (by rfl) (by show Value.int .i64 (64 - (n : Int)) = _; rw [HK.out]) (by simpa [HL.out] using hO5) (Nat.le_trans HB13.out hf5.size) (by have := N60.out; have := HK.out; rw [List.length_map, HL.out]; omega) (by have := N60.out; have := HK.out; rw [List.length_map, HL.out]; omega) ?_; intro v6 w14 hO6 hf6))
  have hmap : b.map (Value.int .u8) ++ List.replicate k (Value.int .u8 0) = (pad64 b).map (Value.int .u8) := by
    have : 64 - b.length = k := by have := HK.out; have := N60.out; rw [HL.out]; omega
    rw [pad64, List.map_append, List.map_replicate, this]
  have hlp : (pad64 b).length = 64 := pad64_len b (by have := N60.out; rw [HL.out]; omega)
  have ho6 : w14.ownsRow (w11.heap.size + 1) 5 1 v6 (pad64 b).length ((pad64 b).map (Value.int .u8)) := by
    rw [hlp, ← hmap]
    have h := hO6
    rw [List.length_map, HL.out, show n + k = 64 by have := HK.out; have := N60.out; omega] at h
    exact h
  obtain ⟨A6, c6, e6, hB6, hB6b, hB6c, -⟩ := vals_reads ho6
  have g12 : Fr F0 (w11.alloc (.cells #[.int .i64 s4.version, .int .i64 s4.epoch, .int .i64 s4.blocks, .int .i64 s4.counters, .int .i64 s4.log, .int .i64 s4.head, .int .i64 s4.applied] 29)) ((w11.alloc (.cells #[.int .i64 s4.version, .int .i64 s4.epoch, .int .i64 s4.blocks, .int .i64 s4.counters, .int .i64 s4.log, .int .i64 s4.head, .int .i64 s4.applied] 29)).alloc (.cells #[] 5)) := (Fr.refl _ _).alloc _
  have o5 : ∀ q, v5.ownBlock = some q → w11.heap.size + 1 ≤ q := fun q hq => own_base (by simpa using hO5) q hq
  have o4 : ∀ q, (Value.slice (some ⟨w11.heap.size + 1, 0, none⟩) 0 0).ownBlock = some q → w11.heap.size + 1 ≤ q := fun q hq => own_base HO12.out q hq
  have hz11 : w.heap.size ≤ w11.heap.size + 1 := by have := HF12.out.size; simpa using this
  have z3 : w3.heap.size < w11.heap.size + 1 := by have := lt_of_block C12.out; simpa using this
  have z8 : w8.heap.size < w11.heap.size + 1 := by have := lt_of_block K12.out; simpa using this
  have HF14 : Hid (Fr F0 w w14) := Lib.hid (((HF12.out.then0 g12).trans hf5 (fun q hq => .inr (Nat.le_trans hz11 (o4 q hq)))).trans hf6 (fun q hq => .inr (Nat.le_trans hz11 (o5 q hq))))
  have c14 := hf6.keep (hf5.keep (g12.keep0 C12.out) (fun hq => by have := o4 _ hq; omega)) (fun hq => by have := o5 _ hq; omega)
  have k14 := hf6.keep (hf5.keep (g12.keep0 K12.out) (fun hq => by have := o4 _ hq; omega)) (fun hq => by have := o5 _ hq; omega)
  rw [e6, hlp]
  have hbp := pad64_bys HB.out
  clear hmap ho6 g12 o5 o4 hz11 z3 z8 hO5 hf5 hO6 hf6
  refine (decode_n A6 64 c6 (pad64 b) hlp ⟨hB6, hB6b, hB6c⟩ (by rw [hlp]; decide) hbp).mono ?_
  rintro e w15 ⟨s5, rfl, hs5, hf15⟩
  have f16 : Fr F0 w14 (w15.alloc (.cells #[.int .i64 s5.version, .int .i64 s5.epoch, .int .i64 s5.blocks, .int .i64 s5.counters, .int .i64 s5.log, .int .i64 s5.head, .int .i64 s5.applied] 29)) := hf15.alloc _
  obtain ⟨x0, x1, x2, x3, x4, x5, x6⟩ := sup_cells (f16.keep0 c14)
  obtain ⟨y0, y1, y2, y3, y4, y5, y6⟩ := sup_cells (f16.keep0 k14)
  have HF16 := Lib.hid (HF14.out.then0 f16)
  obtain ⟨ed, hed⟩ : ∃ ed, ed = decE (pad64 b) := ⟨_, rfl⟩
  rw [← hed]
  clear hB6 hB6b hB6c hlp hbp f16 c14 k14 hf15 hs5 e6
  by_cases hd : ed = 0
  · have hd1 : (ed == 0) = true := by simp [hd]
    clear hed hd
    go_wp2_with fail
    go_ret
    exact ⟨rfl, HF16.out⟩
  · have hd1 : (ed == 0) = false := by simp [hd]
    obtain ⟨q1, q2, q3⟩ := P8.out (by rw [← hed]; exact hd)
    have r3 : e3 = 0 := HE3.out.trans q1
    have r4 : e4 = 6 := HE4.out.trans q3
    have r5 : s3 = wor (v + 1) := hs3.out.trans q2
    subst r3 r4 r5
    clear hed hd q1 q2 q3
    go_wp2_with fail
    go_ret
    exact ⟨rfl, HF16.out⟩
end
end Go.Proofs.YtdeckbdaencjnaaDoor
