/-
  DevicePlays: the walk. Conditions: none.
-/
import Derived.Test.YthepadcjpkcknaaR04d
import Derived.Test.YthepadcjpkcknaaActs4
import Derived.Deep.CutBlock
set_option linter.unusedVariables false
set_option linter.unusedSimpArgs false
namespace Go.Proofs.Ythepadcjpkcknaa
open Go.RowKit

section
variable {w : World}
set_option maxRecDepth 100000 in
set_option maxHeartbeats 1000000 in
/-- The same numbers are the same. -/
theorem ints_same (A B : Option Addr) (n c d : Nat) (xs : List Int) (hl : xs.length = n) (hA : ValsAt w A (xs.map (Value.int .i64))) (hB : ValsAt w B (xs.map (Value.int .i64))) (hn : n ≤ 4611686018427387904) :
    Calls Try.prog 26 #[.slice A n c, .slice B n d] w fun e w' => e = .returned (.bool true) ∧ Fr F0 w w' := by
  have HL := Lib.hid hl
  have hz : ((n : Int) != (n : Int)) = false := by simp
  clear hl
  go_enter Try.func26, Try.ntmps26
  go_wp2_with fail
  go_loopg [5] n (fun kq v wr => ∃ j : Nat, j ≤ n ∧ kq = n - j ∧ v = .int .i64 (j : Int) ∧ Fr F0 w wr)
  case atStart => exact ⟨0, by omega, rfl, rfl, Fr.refl _ _⟩
  case round =>
    obtain ⟨j, hj, rfl, rfl, hfr⟩ := hrel
    by_cases hlt : j < n
    · have hj0 : (0 : Int) ≤ (j : Int) := Int.natCast_nonneg _
      have hj1 : (j : Int) < (n : Int) := by omega
      have hj2 : (j : Int) < 9223372036854775807 := by omega
      have hjl : j < xs.length := by rw [HL.out]; exact hlt
      obtain ⟨a, rfl, ha⟩ := (hA.keep0 hfr).cells (by simp; omega)
      obtain ⟨b, rfl, hb⟩ := (hB.keep0 hfr).cells (by simp; omega)
      obtain ⟨x, hx⟩ : ∃ x, xs[j]? = some x := ⟨xs[j], List.getElem?_eq_getElem hjl⟩
      have ca : wr.cell? (a.add j) = some (.int .i64 x) := ha j _ (by simp [hx])
      have cb : wr.cell? (b.add j) = some (.int .i64 x) := hb j _ (by simp [hx])
      clear ha hb hx
      go_wp2_with fail
      go_still (by kernel_rfl)
      change Exit.then _ _ _ _ wr.drew
      go_wp2_with fail
      go_roundg (n - (j + 1))
      case measure => omega
      case rel =>
        exact ⟨j + 1, by omega, rfl, by first | rfl | (go_num), hfr.drew⟩
    · have hjn : j = n := by omega
      subst hjn
      go_wp2_with fail
      go_ret
      exact ⟨rfl, hfr⟩

/-- Two devices that are the same one, apart. -/
structure Both (k : Nat) (db lb mb rb qb tb : Nat) (w0 : World) (wr : World) : Prop where
  ex : ∃ D, DevAt Try.prog 3 wr db lb mb D ∧ RefAt wr rb qb tb D ∧ D.laid.length = k
  fr : Fr (fun i => Dv db lb mb i ∨ Rv rb qb tb i) w0 wr

theorem Dev.write_len (D : Dev) (i : Int) (xs : List Int) : (D.write i xs).laid.length = D.laid.length := by
  unfold Dev.write
  repeat' split
  · rfl
  · rfl
  · rw [Dev.spend_laid]
  · show D.spend.laid.length = _
    rw [Dev.spend_laid]
theorem Dev.flush_len (D : Dev) : D.flush.laid.length = D.laid.length := by
  unfold Dev.flush
  repeat' split
  · rfl
  · rw [Dev.spend_laid]
  · rw [Dev.lay_len, Dev.spend_laid]
/-- While both are written to, the one behind the other. -/
def PlayJ (db lb mb rb qb tb : Nat) (D D' : Dev) : Nat → (Nat → Value) → World → Prop
  | 0, _, w => DevAt Try.prog 3 w db lb mb D ∧ RefAt w rb qb tb D
  | 1, _, w => DevAt Try.prog 3 w db lb mb D' ∧ RefAt w rb qb tb D
  | _, _, w => DevAt Try.prog 3 w db lb mb D' ∧ RefAt w rb qb tb D'
theorem PlayJ.keep {db lb mb rb qb tb : Nat} {D D' : Dev} : ∀ (k : Nat) (us us' : Nat → Value) (w' w'' : World), PlayJ db lb mb rb qb tb D D' k us w' → (∀ d ∈ ([] : List Nat), us' d = us d) → Fr F0 w' w'' → PlayJ db lb mb rb qb tb D D' k us' w''
  | 0, _, _, _, _, h, _, hf => ⟨h.1.keep0 hf, h.2.keep0 hf⟩
  | 1, _, _, _, _, h, _, hf => ⟨h.1.keep0 hf, h.2.keep0 hf⟩
  | _ + 2, _, _, _, _, h, _, hf => ⟨h.1.keep0 hf, h.2.keep0 hf⟩

/-- Behind the switch: both devices are the same one still; what is done is as it was. -/
structure PlayMid (k : Nat) (x : Act1) (ob db lb mb rb qb tb : Nat) (W wc : World) : Prop where
  ex : ∃ D, DevAt Try.prog 3 wc db lb mb D ∧ RefAt wc rb qb tb D ∧ D.laid.length = k
  obj : wc.heap[ob]? = some (.cells #[.int .i64 x.what, .int .i64 x.pos, .slice x.bA x.bn x.bc, .slice x.kA x.kn x.kc] 40 (0, 0))
  fr : Fr (fun i => Dv db lb mb i ∨ Rv rb qb tb i) W wc

set_option maxRecDepth 100000 in
set_option maxHeartbeats 4000000 in
theorem plays_walk (nn : Int) (A : Option Addr) (n c : Nat) (l : List Act1) (hL : ActsAt w A n l) (hn : n ≤ 9223372036854775807) :
    Calls Try.prog 7 #[.int .i64 nn, .slice A n c] w fun e w' => e = .returned (.bool true) ∧ Fr F0 w w' := by
  by_cases hsm' : smallB l = false
  · go_enter Try.func7, Try.ntmps7
    go_wp2_with fail
    refine (awake_c _).mono ?_
    rintro e w1 ⟨rfl, hf1⟩
    go_wp2_with fail
    refine (small_c A n c l (hL.keep0 hf1) hn).mono ?_
    rintro e w2 ⟨rfl, hf2⟩
    rw [hsm']
    go_wp2_with fail
    go_ret
    exact ⟨rfl, hf1.then0 hf2⟩
  have hsm : smallB l = true := by simpa using hsm'
  clear hsm'
  obtain ⟨k, hk⟩ : ∃ k : Nat, nn % 16 = (k : Int) := ⟨(nn % 16).toNat, by omega⟩
  have hk16 : k < 16 := by omega
  have hband : bits BinOp.and IntKind.i64 nn 15 = (k : Int) := by rw [← hk]; exact i64_and nn 4 (by decide)
  have HSM := Lib.hid hsm
  have HLL := Lib.hid hL.len
  clear hk hsm
  by_cases hk0 : k = 0
  · subst hk0
    go_enter Try.func7, Try.ntmps7
    go_wp2_with fail
    refine (awake_c _).mono ?_
    rintro e w1 ⟨rfl, hf1⟩
    go_wp2_with fail
    refine (small_c A n c l (hL.keep0 hf1) hn).mono ?_
    rintro e w2 ⟨rfl, hf2⟩
    rw [HSM.out]
    go_wp2_with fail
    refine (new_no 0 (by decide) _).mono ?_
    rintro e w3 ⟨rfl, rfl⟩
    go_wp2_with fail
    refine (rnew_no 0 (by decide) _).mono ?_
    rintro e w4 ⟨rfl, rfl⟩
    go_wp2_with fail
    refine (new_no 4097 (by decide) _).mono ?_
    rintro e w5 ⟨rfl, rfl⟩
    go_wp2_with fail
    refine (new_no (-1) (by decide) _).mono ?_
    rintro e w6 ⟨rfl, rfl⟩
    go_wp2_with fail
    go_ret
    exact ⟨rfl, hf1.then0 hf2⟩
  go_enter Try.func7, Try.ntmps7
  go_wp2_with fail
  refine (awake_c _).mono ?_
  rintro e w1 ⟨rfl, hf1⟩
  go_wp2_with fail
  refine (small_c A n c l (hL.keep0 hf1) hn).mono ?_
  rintro e w2 ⟨rfl, hf2⟩
  rw [HSM.out]
  go_wp2_with fail
  refine (new_c k (by omega) (by omega) _).mono ?_
  rintro e w3 ⟨db, lb, mb, rfl, h3, m1, m2, m3, hf3⟩
  go_wp2_with fail
  refine (rnew_c k (by omega) (by omega) _).mono ?_
  rintro e w4 ⟨rb, qb, tb, rfl, h4, o1, o2, o3, hf4⟩
  go_wp2_with fail
  refine (new_no 4097 (by decide) _).mono ?_
  rintro e w5 ⟨rfl, rfl⟩
  go_wp2_with fail
  refine (new_no (-1) (by decide) _).mono ?_
  rintro e w6 ⟨rfl, rfl⟩
  have hlt3 := h3.lt
  have hlt4 := h4.lt
  have z1 := hf1.size
  have z2 := hf2.size
  have z3 := hf3.size
  have z4 := hf4.size
  have hapart : ∀ i, Dv db lb mb i → ¬ Rv rb qb tb i := by
    rintro i (h | h | h) (h' | h' | h') <;> omega
  go_wp2_with fail
  go_loopg [15] n (fun kq v wr => ∃ j : Nat, j ≤ n ∧ kq = n - j ∧ v = .int .i64 (j : Int) ∧ Both k db lb mb rb qb tb w4 wr)
  case atStart => exact ⟨0, by omega, rfl, rfl, ⟨⟨_, h3.keep0 hf4, h4, by simp [Dev.new]⟩, Fr.refl _ _⟩⟩
  case round =>
    obtain ⟨j, hj, rfl, rfl, ⟨D, hD, hR, hDl⟩, hfr⟩ := hrel
    have z5 := hfr.size
    have hf0 : Fr F0 w wr := (((hf1.then0 hf2).then0 hf3).then0 hf4).trans hfr (by intro i hi; refine .inr ?_; rcases hi with (h' | h' | h') | (h' | h' | h') <;> omega)
    have hLr := hL.keep0 hf0
    by_cases hlt : j < n
    · have hj0 : (0 : Int) ≤ (j : Int) := Int.natCast_nonneg _
      have hj1 : (j : Int) < (n : Int) := by omega
      obtain ⟨b, off, x, rfl, hx, hok, c0, c1, c2', c3'⟩ := hLr.get hlt
      have hok0 := hL.ok x (List.mem_of_getElem? hx)
      have hsmx := smallB_get HSM.out hx
      clear hx
      go_upto_block 2 with fail
      have hob : (wr.alloc (.cells #[.int .i64 x.what, .int .i64 x.pos, .slice x.bA x.bn x.bc, .slice x.kA x.kn x.kc] 40)).heap[wr.heap.size]? = some (.cells #[.int .i64 x.what, .int .i64 x.pos, .slice x.bA x.bn x.bc, .slice x.kA x.kn x.kc] 40 (0, 0)) := alloc_at rfl _
      have hfW : Fr F0 wr (wr.alloc (.cells #[.int .i64 x.what, .int .i64 x.pos, .slice x.bA x.bn x.bc, .slice x.kA x.kn x.kc] 40)) := (Fr.refl _ _).alloc _
      have hltR := hR.lt
      have hltD := hD.lt
      obtain ⟨ob, hobe⟩ : ∃ ob, ob = wr.heap.size := ⟨_, rfl⟩
      rw [← hobe] at hob
      simp only [← hobe]
      generalize (wr.alloc (.cells #[.int .i64 x.what, .int .i64 x.pos, .slice x.bA x.bn x.bc, .slice x.kA x.kn x.kc] 40)) = W at *
      have HOBE := Lib.hid hobe
      clear hobe c0 c1 c2' c3'
      go_cut [75] from 76 to 118 (fun v wc => v = .int .i64 x.what ∧ PlayMid k x ob db lb mb rb qb tb W wc)
      case first =>
        have HOB := Lib.hid hob
        have hobn := HOBE.out
        have HNS : Hid (¬ (Dv db lb mb ob ∨ Rv rb qb tb ob)) := Lib.hid (by rintro ((h' | h' | h') | (h' | h' | h')) <;> omega)
        have HAP := Lib.hid hapart
        have hDW := hD.keep0 hfW
        have hRW := hR.keep0 hfW
        have HJ0 : Hid (DevAt Try.prog 3 W db lb mb D ∧ RefAt W rb qb tb D) := Lib.hid ⟨hDW, hRW⟩
        have HB : Hid (BytesAt W x.bA x.bn x.b) := Lib.hid ((hok.b).keep0 hfW)
        have HBN : Hid (0 < x.bn → ∀ ad, x.bA = some ad → ¬ (Dv db lb mb ad.block ∨ Rv rb qb tb ad.block)) := Lib.hid (by
          intro hp ad e
          have hb0 := hok0.b
          rw [e] at hb0
          have := hb0.lt hp
          rintro ((h' | h' | h') | (h' | h' | h')) <;> omega)
        have hKK : ValsAt W x.kA (x.keep.map Value.bool) := hok.k.keep0 hfW
        have HKN : Hid (∀ ad, x.kA = some ad → 0 < x.keep.length → ¬ (Dv db lb mb ad.block ∨ Rv rb qb tb ad.block)) := Lib.hid (by
          intro ad e hp
          obtain ⟨ad', e', hc⟩ := hok0.k.cells (by simpa using hp)
          rw [e] at e'
          cases e'
          have h0 := hc 0 (.bool (x.keep[0]'hp)) (by simp [hp])
          have := World.block_lt_of_cell? w _ h0
          have hb : (ad.add 0).block = ad.block := by unfold Addr.add; split <;> rfl
          rw [hb] at this
          rintro ((h' | h' | h') | (h' | h' | h')) <;> omega)
        clear hob hobn hapart
        have c1 : W.cell? ⟨ob, 1, none⟩ = some (.int .i64 x.pos) := by rw [cell_of HOB.out]; rfl
        have c3 : W.cell? ⟨ob, 3, none⟩ = some (.slice x.kA x.kn x.kc) := by rw [cell_of HOB.out]; rfl
        by_cases w1 : x.what = 1
        · have v1 : (x.what == 1) = true := by simp [w1]
          have W1 := Lib.hid w1
          clear c1 c3 w1
          go_upto_region 20 with fail
          refine wp_region_turn (S := (fun i => Dv db lb mb i ∨ Rv rb qb tb i)) [false, false, false, false, false, false, false, false, false, false, false, false, false, false, false, false, false, false, false, false, false, false, false, false, false, false, false, false, false, false, false, false, false, false, false, false, false, false, false, false, false, false, false, false, false, false, false, false, false, false, false, false, false, false, false, false, false, false, false, false, false, false, false, false, false, false, false, false, false, false, false, false, false, false, false, false, false, false, false, true, true, true, true, true, true, true, true, true, true, true, true, true, false, false, false, false, false, false, false, false, false, false, false, false, false, false, false, false, false, false, false, false, false, false, false, false, false, false, false, false, false, false, false, false, false, false, false, false, false, false, false, false, false, false, false, false, false, false, false, false, false, false, false, false, false, false, false, false, false, false, false, false, false, false, false, false, false, false, false, false, false, false, false, false, false, false, false, false, false, false, false, false, false, false, false, false] [.eq (.pointer (some ⟨db, 0, none⟩)), .eq (.pointer (some ⟨ob, 1, none⟩)), .eq (.int .i64 x.pos), .eq (.pointer (some ⟨ob, 2, none⟩)), .eq (.slice x.bA x.bn x.bc), .eq (.int .i64 (D.writeE x.pos x.b)), .eq (.pointer (some ⟨rb, 0, none⟩)), .eq (.pointer (some ⟨ob, 1, none⟩)), .eq (.int .i64 x.pos), .eq (.pointer (some ⟨ob, 2, none⟩)), .eq (.slice x.bA x.bn x.bc), .eq (.int .i64 (D.writeE x.pos x.b)), .eq (.bool false)] (PlayJ db lb mb rb qb tb D (D.write x.pos x.b)) [none, none, none, none, none, some 0, none, none, none, none, none, some 1, none] [] 2 (by kernel_rfl) (by kernel_rfl) (by rfl) (by kernel_rfl) ?hJ ?hJ0 (fun us => ?steps) (fun us wz hG hJ hall => ?fin)
          case hJ =>
            exact PlayJ.keep
          case hJ0 =>
            exact HJ0.out
          case steps =>
            simp only [fillL, Nat.reduceAdd]
            refine stepsTurn.cons (fun wx hG hd K hK => ?_) ?_
            · rw [if_pos (wanted_none rfl)]
              refine wp_value (w2 := wx) (v := .pointer (some ⟨db, 0, none⟩)) ?_ (hK _ _ rfl (Fr.refl _ _))
              clear hd hG hK
              go_simp
            refine stepsTurn.cons (fun wx hG hd K hK => ?_) ?_
            · rw [if_pos (wanted_none rfl)]
              refine wp_value (w2 := wx) (v := .pointer (some ⟨ob, 1, none⟩)) ?_ (hK _ _ rfl (Fr.refl _ _))
              clear hd hG hK
              go_simp
            refine stepsTurn.cons (fun wx hG hd K hK => ?_) ?_
            · have h80 : us 80 = (.pointer (some ⟨ob, 1, none⟩)) := deps_get hd 0 rfl rfl rfl rfl rfl
              rw [if_pos (wanted_none rfl)]
              have hh := hG.keep HOB.out HNS.out
              have hc : wx.cell? ⟨ob, 1, none⟩ = some (.int .i64 x.pos) := by rw [cell_of hh]; rfl
              refine wp_value (w2 := wx) (v := .int .i64 x.pos) ?_ (hK _ _ rfl (Fr.refl _ _))
              clear hd hK
              go_simp
            refine stepsTurn.cons (fun wx hG hd K hK => ?_) ?_
            · rw [if_pos (wanted_none rfl)]
              refine wp_value (w2 := wx) (v := .pointer (some ⟨ob, 2, none⟩)) ?_ (hK _ _ rfl (Fr.refl _ _))
              clear hd hG hK
              go_simp
            refine stepsTurn.cons (fun wx hG hd K hK => ?_) ?_
            · have h82 : us 82 = (.pointer (some ⟨ob, 2, none⟩)) := deps_get hd 0 rfl rfl rfl rfl rfl
              rw [if_pos (wanted_none rfl)]
              have hh := hG.keep HOB.out HNS.out
              have hc : wx.cell? ⟨ob, 2, none⟩ = some (.slice x.bA x.bn x.bc) := by rw [cell_of hh]; rfl
              refine wp_value (w2 := wx) (v := .slice x.bA x.bn x.bc) ?_ (hK _ _ rfl (Fr.refl _ _))
              clear hd hK
              go_simp
            refine stepsTurn.cons (fun wx hG hJ hd K hK => ?_) ?_
            · have h79 : us 79 = (.pointer (some ⟨db, 0, none⟩)) := deps_get hd 0 rfl rfl rfl rfl rfl
              have h81 : us 81 = (.int .i64 x.pos) := deps_get hd 1 rfl rfl rfl rfl rfl
              have h83 : us 83 = (.slice x.bA x.bn x.bc) := deps_get hd 2 rfl rfl rfl rfl rfl
              rw [if_pos (wanted_none rfl)]
              refine wp_call (w2 := wx) (f := 11) (args := #[.pointer (some ⟨db, 0, none⟩), .int .i64 x.pos, .slice x.bA x.bn x.bc]) ?_ ?_
              · clear hd hK
                go_simp
              · refine (write_c hJ.1 x.pos x.bA x.bc x.b x.bn (HB.out.keep hG HBN.out) (fun hp ad e h => HBN.out hp ad e (.inl (.inl h)))).mono ?_
                rintro e w9 ⟨rfl, g1, hf⟩
                exact ⟨_, rfl, hK _ _ rfl (hf.mono (fun _ h => .inl h)) ⟨g1, hJ.2.keep hf (fun h => HAP.out _ h (.inl rfl)) (fun h => HAP.out _ h (.inr (.inl rfl))) (fun h => HAP.out _ h (.inr (.inr rfl)))⟩⟩
            refine stepsTurn.cons (fun wx hG hd K hK => ?_) ?_
            · rw [if_pos (wanted_none rfl)]
              refine wp_value (w2 := wx) (v := .pointer (some ⟨rb, 0, none⟩)) ?_ (hK _ _ rfl (Fr.refl _ _))
              clear hd hG hK
              go_simp
            refine stepsTurn.cons (fun wx hG hd K hK => ?_) ?_
            · rw [if_pos (wanted_none rfl)]
              refine wp_value (w2 := wx) (v := .pointer (some ⟨ob, 1, none⟩)) ?_ (hK _ _ rfl (Fr.refl _ _))
              clear hd hG hK
              go_simp
            refine stepsTurn.cons (fun wx hG hd K hK => ?_) ?_
            · have h86 : us 86 = (.pointer (some ⟨ob, 1, none⟩)) := deps_get hd 0 rfl rfl rfl rfl rfl
              rw [if_pos (wanted_none rfl)]
              have hh := hG.keep HOB.out HNS.out
              have hc : wx.cell? ⟨ob, 1, none⟩ = some (.int .i64 x.pos) := by rw [cell_of hh]; rfl
              refine wp_value (w2 := wx) (v := .int .i64 x.pos) ?_ (hK _ _ rfl (Fr.refl _ _))
              clear hd hK
              go_simp
            refine stepsTurn.cons (fun wx hG hd K hK => ?_) ?_
            · rw [if_pos (wanted_none rfl)]
              refine wp_value (w2 := wx) (v := .pointer (some ⟨ob, 2, none⟩)) ?_ (hK _ _ rfl (Fr.refl _ _))
              clear hd hG hK
              go_simp
            refine stepsTurn.cons (fun wx hG hd K hK => ?_) ?_
            · have h88 : us 88 = (.pointer (some ⟨ob, 2, none⟩)) := deps_get hd 0 rfl rfl rfl rfl rfl
              rw [if_pos (wanted_none rfl)]
              have hh := hG.keep HOB.out HNS.out
              have hc : wx.cell? ⟨ob, 2, none⟩ = some (.slice x.bA x.bn x.bc) := by rw [cell_of hh]; rfl
              refine wp_value (w2 := wx) (v := .slice x.bA x.bn x.bc) ?_ (hK _ _ rfl (Fr.refl _ _))
              clear hd hK
              go_simp
            refine stepsTurn.cons (fun wx hG hJ hd K hK => ?_) ?_
            · have h85 : us 85 = (.pointer (some ⟨rb, 0, none⟩)) := deps_get hd 0 rfl rfl rfl rfl rfl
              have h87 : us 87 = (.int .i64 x.pos) := deps_get hd 1 rfl rfl rfl rfl rfl
              have h89 : us 89 = (.slice x.bA x.bn x.bc) := deps_get hd 2 rfl rfl rfl rfl rfl
              rw [if_pos (wanted_none rfl)]
              refine wp_call (w2 := wx) (f := 19) (args := #[.pointer (some ⟨rb, 0, none⟩), .int .i64 x.pos, .slice x.bA x.bn x.bc]) ?_ ?_
              · clear hd hK
                go_simp
              · refine (rwrite_c hJ.2 x.pos x.bA x.bc x.b x.bn (HB.out.keep hG HBN.out) (fun hp ad e h => HBN.out hp ad e (.inr (.inl h)))).mono ?_
                rintro e w9 ⟨rfl, g1, hf⟩
                exact ⟨_, rfl, hK _ _ rfl (hf.mono (fun _ h => .inr h)) ⟨hJ.1.keep hf (fun h => HAP.out _ (.inl rfl) h) (fun h => HAP.out _ (.inr (.inl rfl)) h) (fun h => HAP.out _ (.inr (.inr rfl)) h), g1⟩⟩
            refine stepsTurn.cons (fun wx hG hd K hK => ?_) ?_
            · have h84 : us 84 = (.int .i64 (D.writeE x.pos x.b)) := deps_get hd 0 rfl rfl rfl rfl rfl
              have h90 : us 90 = (.int .i64 (D.writeE x.pos x.b)) := deps_get hd 1 rfl rfl rfl rfl rfl
              rw [if_pos (wanted_none rfl)]
              refine wp_value (w2 := wx) (v := .bool false) ?_ (hK _ _ rfl (Fr.refl _ _))
              clear hd hG hK
              go_simp
            exact stepsTurn.nil
          case fin =>
            have h79 : us 79 = (.pointer (some ⟨db, 0, none⟩)) := all_get hall 0 rfl rfl rfl
            have h80 : us 80 = (.pointer (some ⟨ob, 1, none⟩)) := all_get hall 1 rfl rfl rfl
            have h81 : us 81 = (.int .i64 x.pos) := all_get hall 2 rfl rfl rfl
            have h82 : us 82 = (.pointer (some ⟨ob, 2, none⟩)) := all_get hall 3 rfl rfl rfl
            have h83 : us 83 = (.slice x.bA x.bn x.bc) := all_get hall 4 rfl rfl rfl
            have h84 : us 84 = (.int .i64 (D.writeE x.pos x.b)) := all_get hall 5 rfl rfl rfl
            have h85 : us 85 = (.pointer (some ⟨rb, 0, none⟩)) := all_get hall 6 rfl rfl rfl
            have h86 : us 86 = (.pointer (some ⟨ob, 1, none⟩)) := all_get hall 7 rfl rfl rfl
            have h87 : us 87 = (.int .i64 x.pos) := all_get hall 8 rfl rfl rfl
            have h88 : us 88 = (.pointer (some ⟨ob, 2, none⟩)) := all_get hall 9 rfl rfl rfl
            have h89 : us 89 = (.slice x.bA x.bn x.bc) := all_get hall 10 rfl rfl rfl
            have h90 : us 90 = (.int .i64 (D.writeE x.pos x.b)) := all_get hall 11 rfl rfl rfl
            have h91 : us 91 = (.bool false) := all_get hall 12 rfl rfl rfl
            simp only [fillL, Nat.reduceAdd]
            clear hall
            simp only [h79, h80, h81, h82, h83, h84, h85, h86, h87, h88, h89, h90, h91]
            clear h79 h80 h81 h82 h83 h84 h85 h86 h87 h88 h89 h90 h91
            have hJ2 : DevAt Try.prog 3 wz db lb mb (D.write x.pos x.b) ∧ RefAt wz rb qb tb (D.write x.pos x.b) := hJ
            have HJ2 := Lib.hid hJ2
            clear hJ hJ2
            go_wp2_with fail
            go_meet
            exact ⟨rfl, ⟨⟨_, HJ2.out.1, HJ2.out.2, by rw [Dev.write_len]; exact hDl⟩, hG.keep HOB.out HNS.out, hG⟩⟩
        by_cases w2 : x.what = 2
        · have v1 : (x.what == 1) = false := by simp [w2]
          have v2 : (x.what == 2) = true := by simp [w2]
          have W1 := Lib.hid w2
          clear c1 c3 w1 w2
          go_upto_region 20 with fail
          refine wp_region_turn (S := (fun i => Dv db lb mb i ∨ Rv rb qb tb i)) [false, false, false, false, false, false, false, false, false, false, false, false, false, false, false, false, false, false, false, false, false, false, false, false, false, false, false, false, false, false, false, false, false, false, false, false, false, false, false, false, false, false, false, false, false, false, false, false, false, false, false, false, false, false, false, false, false, false, false, false, false, false, false, false, false, false, false, false, false, false, false, false, false, false, false, false, false, false, false, true, true, true, true, true, true, true, true, true, true, true, true, true, false, false, false, false, false, false, false, false, false, false, false, false, false, false, false, false, false, false, false, false, false, false, false, false, false, false, false, false, false, false, false, false, false, false, false, false, false, false, false, false, false, false, false, false, false, false, false, false, false, false, false, false, false, false, false, false, false, false, false, false, false, false, false, false, false, false, false, false, false, false, false, false, false, false, false, false, false, false, false, false, false, false, false, false] [.eq (.pointer (some ⟨db, 0, none⟩)), .eq (.pointer (some ⟨ob, 1, none⟩)), .eq (.int .i64 x.pos), .eq (.pointer (some ⟨ob, 2, none⟩)), .eq (.slice x.bA x.bn x.bc), .eq (.int .i64 (D.writeE x.pos x.b)), .eq (.pointer (some ⟨rb, 0, none⟩)), .eq (.pointer (some ⟨ob, 1, none⟩)), .eq (.int .i64 x.pos), .eq (.pointer (some ⟨ob, 2, none⟩)), .eq (.slice x.bA x.bn x.bc), .eq (.int .i64 (D.writeE x.pos x.b)), .eq (.bool false)] (PlayJ db lb mb rb qb tb D (D.write x.pos x.b)) [none, none, none, none, none, some 0, none, none, none, none, none, some 1, none] [] 2 (by kernel_rfl) (by kernel_rfl) (by rfl) (by kernel_rfl) ?hJ ?hJ0 (fun us => ?steps) (fun us wz hG hJ hall => ?fin)
          case hJ =>
            exact PlayJ.keep
          case hJ0 =>
            exact HJ0.out
          case steps =>
            simp only [fillL, Nat.reduceAdd]
            refine stepsTurn.cons (fun wx hG hd K hK => ?_) ?_
            · rw [if_pos (wanted_none rfl)]
              refine wp_value (w2 := wx) (v := .pointer (some ⟨db, 0, none⟩)) ?_ (hK _ _ rfl (Fr.refl _ _))
              clear hd hG hK
              go_simp
            refine stepsTurn.cons (fun wx hG hd K hK => ?_) ?_
            · rw [if_pos (wanted_none rfl)]
              refine wp_value (w2 := wx) (v := .pointer (some ⟨ob, 1, none⟩)) ?_ (hK _ _ rfl (Fr.refl _ _))
              clear hd hG hK
              go_simp
            refine stepsTurn.cons (fun wx hG hd K hK => ?_) ?_
            · have h80 : us 80 = (.pointer (some ⟨ob, 1, none⟩)) := deps_get hd 0 rfl rfl rfl rfl rfl
              rw [if_pos (wanted_none rfl)]
              have hh := hG.keep HOB.out HNS.out
              have hc : wx.cell? ⟨ob, 1, none⟩ = some (.int .i64 x.pos) := by rw [cell_of hh]; rfl
              refine wp_value (w2 := wx) (v := .int .i64 x.pos) ?_ (hK _ _ rfl (Fr.refl _ _))
              clear hd hK
              go_simp
            refine stepsTurn.cons (fun wx hG hd K hK => ?_) ?_
            · rw [if_pos (wanted_none rfl)]
              refine wp_value (w2 := wx) (v := .pointer (some ⟨ob, 2, none⟩)) ?_ (hK _ _ rfl (Fr.refl _ _))
              clear hd hG hK
              go_simp
            refine stepsTurn.cons (fun wx hG hd K hK => ?_) ?_
            · have h82 : us 82 = (.pointer (some ⟨ob, 2, none⟩)) := deps_get hd 0 rfl rfl rfl rfl rfl
              rw [if_pos (wanted_none rfl)]
              have hh := hG.keep HOB.out HNS.out
              have hc : wx.cell? ⟨ob, 2, none⟩ = some (.slice x.bA x.bn x.bc) := by rw [cell_of hh]; rfl
              refine wp_value (w2 := wx) (v := .slice x.bA x.bn x.bc) ?_ (hK _ _ rfl (Fr.refl _ _))
              clear hd hK
              go_simp
            refine stepsTurn.cons (fun wx hG hJ hd K hK => ?_) ?_
            · have h79 : us 79 = (.pointer (some ⟨db, 0, none⟩)) := deps_get hd 0 rfl rfl rfl rfl rfl
              have h81 : us 81 = (.int .i64 x.pos) := deps_get hd 1 rfl rfl rfl rfl rfl
              have h83 : us 83 = (.slice x.bA x.bn x.bc) := deps_get hd 2 rfl rfl rfl rfl rfl
              rw [if_pos (wanted_none rfl)]
              refine wp_call (w2 := wx) (f := 11) (args := #[.pointer (some ⟨db, 0, none⟩), .int .i64 x.pos, .slice x.bA x.bn x.bc]) ?_ ?_
              · clear hd hK
                go_simp
              · refine (write_c hJ.1 x.pos x.bA x.bc x.b x.bn (HB.out.keep hG HBN.out) (fun hp ad e h => HBN.out hp ad e (.inl (.inl h)))).mono ?_
                rintro e w9 ⟨rfl, g1, hf⟩
                exact ⟨_, rfl, hK _ _ rfl (hf.mono (fun _ h => .inl h)) ⟨g1, hJ.2.keep hf (fun h => HAP.out _ h (.inl rfl)) (fun h => HAP.out _ h (.inr (.inl rfl))) (fun h => HAP.out _ h (.inr (.inr rfl)))⟩⟩
            refine stepsTurn.cons (fun wx hG hd K hK => ?_) ?_
            · rw [if_pos (wanted_none rfl)]
              refine wp_value (w2 := wx) (v := .pointer (some ⟨rb, 0, none⟩)) ?_ (hK _ _ rfl (Fr.refl _ _))
              clear hd hG hK
              go_simp
            refine stepsTurn.cons (fun wx hG hd K hK => ?_) ?_
            · rw [if_pos (wanted_none rfl)]
              refine wp_value (w2 := wx) (v := .pointer (some ⟨ob, 1, none⟩)) ?_ (hK _ _ rfl (Fr.refl _ _))
              clear hd hG hK
              go_simp
            refine stepsTurn.cons (fun wx hG hd K hK => ?_) ?_
            · have h86 : us 86 = (.pointer (some ⟨ob, 1, none⟩)) := deps_get hd 0 rfl rfl rfl rfl rfl
              rw [if_pos (wanted_none rfl)]
              have hh := hG.keep HOB.out HNS.out
              have hc : wx.cell? ⟨ob, 1, none⟩ = some (.int .i64 x.pos) := by rw [cell_of hh]; rfl
              refine wp_value (w2 := wx) (v := .int .i64 x.pos) ?_ (hK _ _ rfl (Fr.refl _ _))
              clear hd hK
              go_simp
            refine stepsTurn.cons (fun wx hG hd K hK => ?_) ?_
            · rw [if_pos (wanted_none rfl)]
              refine wp_value (w2 := wx) (v := .pointer (some ⟨ob, 2, none⟩)) ?_ (hK _ _ rfl (Fr.refl _ _))
              clear hd hG hK
              go_simp
            refine stepsTurn.cons (fun wx hG hd K hK => ?_) ?_
            · have h88 : us 88 = (.pointer (some ⟨ob, 2, none⟩)) := deps_get hd 0 rfl rfl rfl rfl rfl
              rw [if_pos (wanted_none rfl)]
              have hh := hG.keep HOB.out HNS.out
              have hc : wx.cell? ⟨ob, 2, none⟩ = some (.slice x.bA x.bn x.bc) := by rw [cell_of hh]; rfl
              refine wp_value (w2 := wx) (v := .slice x.bA x.bn x.bc) ?_ (hK _ _ rfl (Fr.refl _ _))
              clear hd hK
              go_simp
            refine stepsTurn.cons (fun wx hG hJ hd K hK => ?_) ?_
            · have h85 : us 85 = (.pointer (some ⟨rb, 0, none⟩)) := deps_get hd 0 rfl rfl rfl rfl rfl
              have h87 : us 87 = (.int .i64 x.pos) := deps_get hd 1 rfl rfl rfl rfl rfl
              have h89 : us 89 = (.slice x.bA x.bn x.bc) := deps_get hd 2 rfl rfl rfl rfl rfl
              rw [if_pos (wanted_none rfl)]
              refine wp_call (w2 := wx) (f := 19) (args := #[.pointer (some ⟨rb, 0, none⟩), .int .i64 x.pos, .slice x.bA x.bn x.bc]) ?_ ?_
              · clear hd hK
                go_simp
              · refine (rwrite_c hJ.2 x.pos x.bA x.bc x.b x.bn (HB.out.keep hG HBN.out) (fun hp ad e h => HBN.out hp ad e (.inr (.inl h)))).mono ?_
                rintro e w9 ⟨rfl, g1, hf⟩
                exact ⟨_, rfl, hK _ _ rfl (hf.mono (fun _ h => .inr h)) ⟨hJ.1.keep hf (fun h => HAP.out _ (.inl rfl) h) (fun h => HAP.out _ (.inr (.inl rfl)) h) (fun h => HAP.out _ (.inr (.inr rfl)) h), g1⟩⟩
            refine stepsTurn.cons (fun wx hG hd K hK => ?_) ?_
            · have h84 : us 84 = (.int .i64 (D.writeE x.pos x.b)) := deps_get hd 0 rfl rfl rfl rfl rfl
              have h90 : us 90 = (.int .i64 (D.writeE x.pos x.b)) := deps_get hd 1 rfl rfl rfl rfl rfl
              rw [if_pos (wanted_none rfl)]
              refine wp_value (w2 := wx) (v := .bool false) ?_ (hK _ _ rfl (Fr.refl _ _))
              clear hd hG hK
              go_simp
            exact stepsTurn.nil
          case fin =>
            have h79 : us 79 = (.pointer (some ⟨db, 0, none⟩)) := all_get hall 0 rfl rfl rfl
            have h80 : us 80 = (.pointer (some ⟨ob, 1, none⟩)) := all_get hall 1 rfl rfl rfl
            have h81 : us 81 = (.int .i64 x.pos) := all_get hall 2 rfl rfl rfl
            have h82 : us 82 = (.pointer (some ⟨ob, 2, none⟩)) := all_get hall 3 rfl rfl rfl
            have h83 : us 83 = (.slice x.bA x.bn x.bc) := all_get hall 4 rfl rfl rfl
            have h84 : us 84 = (.int .i64 (D.writeE x.pos x.b)) := all_get hall 5 rfl rfl rfl
            have h85 : us 85 = (.pointer (some ⟨rb, 0, none⟩)) := all_get hall 6 rfl rfl rfl
            have h86 : us 86 = (.pointer (some ⟨ob, 1, none⟩)) := all_get hall 7 rfl rfl rfl
            have h87 : us 87 = (.int .i64 x.pos) := all_get hall 8 rfl rfl rfl
            have h88 : us 88 = (.pointer (some ⟨ob, 2, none⟩)) := all_get hall 9 rfl rfl rfl
            have h89 : us 89 = (.slice x.bA x.bn x.bc) := all_get hall 10 rfl rfl rfl
            have h90 : us 90 = (.int .i64 (D.writeE x.pos x.b)) := all_get hall 11 rfl rfl rfl
            have h91 : us 91 = (.bool false) := all_get hall 12 rfl rfl rfl
            simp only [fillL, Nat.reduceAdd]
            clear hall
            simp only [h79, h80, h81, h82, h83, h84, h85, h86, h87, h88, h89, h90, h91]
            clear h79 h80 h81 h82 h83 h84 h85 h86 h87 h88 h89 h90 h91
            have hJ2 : DevAt Try.prog 3 wz db lb mb (D.write x.pos x.b) ∧ RefAt wz rb qb tb (D.write x.pos x.b) := hJ
            have HJ2 := Lib.hid hJ2
            clear hJ hJ2
            go_wp2_with fail
            go_meet
            exact ⟨rfl, ⟨⟨_, HJ2.out.1, HJ2.out.2, by rw [Dev.write_len]; exact hDl⟩, hG.keep HOB.out HNS.out, hG⟩⟩
        have b1 : (x.what == 1) = false := by simp [w1]
        have b2 : (x.what == 2) = false := by simp [w2]
        by_cases w3 : x.what = 3
        · have b3 : (x.what == 3) = true := by simp [w3]
          have hz : (D.flushE != D.flushE) = false := by simp
          clear c1 c3 w1 w2 w3
          go_wp2_with fail
          refine (flush_c hDW).mono ?_
          rintro e w7 ⟨rfl, g1, hf7⟩
          go_wp2_with fail
          refine (rflush_c (hRW.keep hf7 (fun h => HAP.out _ h (.inl rfl)) (fun h => HAP.out _ h (.inr (.inl rfl))) (fun h => HAP.out _ h (.inr (.inr rfl))))).mono ?_
          rintro e w8 ⟨rfl, g2, hf8⟩
          have hf78 : Fr (fun i => Dv db lb mb i ∨ Rv rb qb tb i) W w8 := (hf7.mono (fun _ h => .inl h)).trans (hf8.mono (fun _ h => .inr h)) (fun _ h => .inl h)
          go_wp2_with fail
          go_meet
          exact ⟨rfl, ⟨⟨_, g1.keep hf8 (fun h => HAP.out _ (.inl rfl) h) (fun h => HAP.out _ (.inr (.inl rfl)) h) (fun h => HAP.out _ (.inr (.inr rfl)) h), g2, by rw [Dev.flush_len]; exact hDl⟩, hf78.keep HOB.out HNS.out, hf78⟩⟩
        have b3 : (x.what == 3) = false := by simp [w3]
        by_cases w4 : x.what = 4
        · have b4 : (x.what == 4) = true := by simp [w4]
          have hmx := (int_bounds hok0.w2).2
          clear c3 w1 w2 w3 w4
          have HC1 := Lib.hid c1
          go_wp2_with fail
          refine (budget_c hDW x.pos hmx).mono ?_
          rintro e w7 ⟨rfl, g1, hf7'⟩
          have hf7 : Fr (Dv db lb mb) W w7 := hf7'.mono (fun _ h => .inl h)
          have c7 : w7.cell? ⟨ob, 1, none⟩ = some (.int .i64 x.pos) := by
            have hh := hf7.keep HOB.out (fun h => HNS.out (.inl h))
            rw [cell_of hh]; rfl
          clear c1
          go_wp2_with fail
          refine (rbudget_c (hRW.keep hf7 (fun h => HAP.out _ h (.inl rfl)) (fun h => HAP.out _ h (.inr (.inl rfl))) (fun h => HAP.out _ h (.inr (.inr rfl)))) x.pos hmx).mono ?_
          rintro e w8 ⟨rfl, g2, hf8'⟩
          have hf8 : Fr (Rv rb qb tb) w7 w8 := hf8'.mono (fun _ h => .inl h)
          have hf78 : Fr (fun i => Dv db lb mb i ∨ Rv rb qb tb i) W w8 := (hf7.mono (fun _ h => .inl h)).trans (hf8.mono (fun _ h => .inr h)) (fun _ h => .inl h)
          go_wp2_with fail
          go_meet
          exact ⟨rfl, ⟨⟨_, g1.keep hf8 (fun h => HAP.out _ (.inl rfl) h) (fun h => HAP.out _ (.inr (.inl rfl)) h) (fun h => HAP.out _ (.inr (.inr rfl)) h), g2, hDl⟩, hf78.keep HOB.out HNS.out, hf78⟩⟩
        have b4 : (x.what == 4) = false := by simp [w4]
        by_cases w5 : x.what = 5
        · have b5 : (x.what == 5) = true := by simp [w5]
          clear c1 w1 w2 w3 w4 w5
          go_wp2_with fail
          refine (crash_c hDW x.kA x.kc x.keep x.kn hok0.kl hKK (fun ad e hp h => HKN.out ad e hp (.inl h)) (by omega)).mono ?_
          rintro e w7 ⟨rfl, g1, hf7⟩
          have c7 : w7.cell? ⟨ob, 3, none⟩ = some (.slice x.kA x.kn x.kc) := by
            have hh := hf7.keep HOB.out (fun h => HNS.out (.inl h))
            rw [cell_of hh]; rfl
          have hK7 : ValsAt w7 x.kA (x.keep.map Value.bool) := by
            by_cases hp : 0 < x.keep.length
            · exact hKK.keep hf7 (fun ad e h => HKN.out ad e hp (.inl h))
            · exact ⟨fun h => absurd (by simpa using h) hp⟩
          clear c3
          go_wp2_with fail
          refine (rcrash_c (hRW.keep hf7 (fun h => HAP.out _ h (.inl rfl)) (fun h => HAP.out _ h (.inr (.inl rfl))) (fun h => HAP.out _ h (.inr (.inr rfl)))) x.kA x.kc x.keep x.kn hok0.kl hK7 (fun ad e hp h => HKN.out ad e hp (.inr h)) (by omega)).mono ?_
          rintro e w8 ⟨rfl, g2, hf8⟩
          have hf78 : Fr (fun i => Dv db lb mb i ∨ Rv rb qb tb i) W w8 := (hf7.mono (fun _ h => .inl h)).trans (hf8.mono (fun _ h => .inr h)) (fun _ h => .inl h)
          go_wp2_with fail
          go_meet
          exact ⟨rfl, ⟨⟨_, g1.keep hf8 (fun h => HAP.out _ (.inl rfl) h) (fun h => HAP.out _ (.inr (.inl rfl)) h) (fun h => HAP.out _ (.inr (.inr rfl)) h), g2, by rw [Dev.crash_len]; exact hDl⟩, hf78.keep HOB.out HNS.out, hf78⟩⟩
        have b5 : (x.what == 5) = false := by simp [w5]
        clear c1 c3 w1 w2 w3 w4 w5
        go_wp2_with fail
        go_meet
        exact ⟨rfl, ⟨⟨_, hDW, hRW, hDl⟩, HOB.out, Fr.refl _ _⟩⟩
      case rest =>
        obtain ⟨rfl, ⟨D2, hD2, hR2, hDl2⟩, hobj, hfr2⟩ := hcut
        have c1 : wc.cell? ⟨ob, 1, none⟩ = some (.int .i64 x.pos) := by rw [cell_of hobj]; rfl
        have hfz : Fr (fun i => Dv db lb mb i ∨ Rv rb qb tb i) w4 wc := (hfr.then0 hfW).trans hfr2 (fun _ h => .inl h)
        have hcl : D2.cachedI.length ≤ 4611686018427387904 := by
          have := cachedTo_len D2 D2.laid.length
          rw [cachedTo_all] at this
          omega
        have HCL := Lib.hid hcl
        have HDL2 := Lib.hid hDl2
        clear hobj hcl
        by_cases hm : D2.may x.pos = 0
        · obtain ⟨p, hp⟩ := Int.eq_ofNat_of_zero_le (Dev.may_nonneg hm).1
          have hpl : p < D2.laid.length := by have := (Dev.may_nonneg hm).2; omega
          have hg2 : D2.gone = false := by
            cases hg : D2.gone with
            | false => rfl
            | true => simp [Dev.may, hg] at hm
          rw [hp] at c1
          have HP := Lib.hid hp
          clear hp hm hDl2
          go_wp2_with fail
          refine (read_c hD2 hg2 p hpl).mono ?_
          rintro e w7 ⟨b7, t7, rfl, hn7, hb7, hf7⟩
          have c1' : w7.cell? ⟨ob, 1, none⟩ = some (.int .i64 (p : Int)) := (World.cell?_of_block (w := wc) (hf7.block _ (World.block_lt_of_cell? wc _ c1) (fun h => h))).trans c1
          go_wp2_with fail
          refine (rread_c (hR2.keep0 hf7) hg2 p hpl).mono ?_
          rintro e w8 ⟨b9, c9, ys9, rfl, hY, hstr, hf8⟩
          have HB7 := Lib.hid hb7
          clear hb7 c1 c1'
          go_wp2_with fail
          have hX7 : BytesAt w8 (some ⟨b7, 0, none⟩) 64 (D2.at p) := by
            have hh := BytesAt.of_block (xs := D2.at p) (hf8.keep0 HB7.out)
            have h64 : (D2.at p).length = 64 := by
              unfold Dev.at
              cases hj : (D2.late[p]?).join with
              | none =>
                have : D2.laid[p]? = some D2.laid[p] := List.getElem?_eq_getElem hpl
                simp only [Option.getD_none, List.getD, this, Option.getD_some]
                exact hD2.ok.secs _ (List.getElem_mem _)
              | some s => exact hD2.ok.lates s (List.mem_of_getElem? (Option.join_eq_some_iff.1 hj))
            rwa [h64] at hh
          have HX7 := Lib.hid hX7
          have HX9 := Lib.hid hY
          have HXY := Lib.hid hstr
          have HD2 := Lib.hid ((hD2.keep0 hf7).keep0 hf8)
          have HR2 := Lib.hid ((hR2.keep0 hf7).keep0 hf8)
          have HFZ := Lib.hid ((hfz.then0 hf7).then0 hf8)
          clear hX7 hY hstr hD2 hR2 hfz hg2
          refine wp_region_free (S := F0) [false, false, false, false, false, false, false, false, false, false, false, false, false, false, false, false, false, false, false, false, false, false, false, false, false, false, false, false, false, false, false, false, false, false, false, false, false, false, false, false, false, false, false, false, false, false, false, false, false, false, false, false, false, false, false, false, false, false, false, false, false, false, false, false, false, false, false, false, false, false, false, false, false, false, false, false, false, false, false, false, false, false, false, false, false, false, false, false, false, false, false, false, false, false, false, false, false, false, false, false, false, false, false, false, false, false, false, false, false, false, false, false, false, false, false, false, false, false, false, false, false, false, false, false, false, false, false, false, false, false, false, false, false, true, true, true, true, true, true, true, true, true, true, true, true, true, true, true, true, true, true, true, true, true, true, true, true, true, true, true, true, true, true, true, true, true, true, true, true, true, true, true, true, true, true, false] [.eq (.slice (some ⟨b7, 0, none⟩) 64 64), .eq (.string (strOfNums (D2.at p))), .eq (.slice (some ⟨b9, 0, none⟩) 64 c9), .eq (.string (strOfNums (D2.at p))), .eq (.bool false), .eq (.bool false), .eq (.int .i64 0), .eq (.int .i64 0), .eq (.bool false), .eq (.bool false), .eq (.bool false), .eq (.pointer (some ⟨db, 0, none⟩)), .eq (.bool D2.gone), .eq (.pointer (some ⟨rb, 0, none⟩)), .eq (.pointer (some ⟨rb, 0, none⟩)), .eq (.pointer (some ⟨rb, 3, none⟩)), .eq (.bool D2.gone), .eq (.bool false), .eq (.bool false), .eq (.bool false), .eq (.pointer (some ⟨db, 0, none⟩)), .eq (.int .i64 D2.spent), .eq (.pointer (some ⟨rb, 0, none⟩)), .eq (.pointer (some ⟨rb, 0, none⟩)), .eq (.pointer (some ⟨rb, 4, none⟩)), .eq (.int .i64 D2.spent), .eq (.bool false), .eq (.bool false), .eq (.bool false), .eq (.pointer (some ⟨db, 0, none⟩)), ⟨fun v w' => ∃ A c, v = .slice A D2.cachedI.length c ∧ ValsAt w' A (D2.cachedI.map (Value.int .i64)), fun v w' w'' ⟨A, c, h1, h2⟩ hf => ⟨A, c, h1, h2.keep0 hf⟩⟩, .eq (.pointer (some ⟨rb, 0, none⟩)), ⟨fun v w' => ∃ A c, v = .slice A D2.cachedI.length c ∧ ValsAt w' A (D2.cachedI.map (Value.int .i64)), fun v w' w'' ⟨A, c, h1, h2⟩ hf => ⟨A, c, h1, h2.keep0 hf⟩⟩, .eq (.bool true), .eq (.bool false), .eq (.bool false), .eq (.bool false), .eq (.pointer (some ⟨db, 0, none⟩)), .eq (.int .i64 (k : Int)), .eq (.int .i64 (k : Int)), .eq (.bool false), .eq (.bool false)] (by kernel_rfl) (by kernel_rfl) (by rfl) (fun us => ?steps) (fun us wz hG hall => ?fin)
          case steps =>
            simp only [fillL, Nat.reduceAdd]
            refine stepsHold.cons (fun wx hG hd K hK => ?_) ?_
            · rw [if_pos (wanted_none rfl)]
              refine wp_value (w2 := wx) (v := .slice (some ⟨b7, 0, none⟩) 64 64) ?_ (hK _ _ rfl (Fr.refl _ _))
              clear hd hG hK
              go_simp
            refine stepsHold.cons (fun wx hG hd K hK => ?_) ?_
            · have h133 : us 133 = (.slice (some ⟨b7, 0, none⟩) 64 64) := deps_get hd 0 rfl rfl rfl rfl rfl
              rw [if_pos (wanted_none rfl)]
              have hr := conv_at (HX7.out.keep0 hG) r_und_bytes r_und_u8 r_und_string 64
              refine wp_value (w2 := wx) (v := .string (strOfNums (D2.at p))) ?_ (hK _ _ rfl (Fr.refl _ _))
              clear hd hK
              go_simp
            refine stepsHold.cons (fun wx hG hd K hK => ?_) ?_
            · rw [if_pos (wanted_none rfl)]
              refine wp_value (w2 := wx) (v := .slice (some ⟨b9, 0, none⟩) 64 c9) ?_ (hK _ _ rfl (Fr.refl _ _))
              clear hd hG hK
              go_simp
            refine stepsHold.cons (fun wx hG hd K hK => ?_) ?_
            · have h135 : us 135 = (.slice (some ⟨b9, 0, none⟩) 64 c9) := deps_get hd 0 rfl rfl rfl rfl rfl
              rw [if_pos (wanted_none rfl)]
              have hr := conv_at (HX9.out.keep0 hG) r_und_bytes r_und_u8 r_und_string c9
              rw [HXY.out] at hr
              refine wp_value (w2 := wx) (v := .string (strOfNums (D2.at p))) ?_ (hK _ _ rfl (Fr.refl _ _))
              clear hd hK
              go_simp
            refine stepsHold.cons (fun wx hG hd K hK => ?_) ?_
            · have h134 : us 134 = (.string (strOfNums (D2.at p))) := deps_get hd 0 rfl rfl rfl rfl rfl
              have h136 : us 136 = (.string (strOfNums (D2.at p))) := deps_get hd 1 rfl rfl rfl rfl rfl
              rw [if_pos (wanted_none rfl)]
              refine wp_value (w2 := wx) (v := .bool false) ?_ (hK _ _ rfl (Fr.refl _ _))
              clear hd hG hK
              go_simp
            refine stepsHold.cons (fun wx hG hd K hK => ?_) ?_
            · have h137 : us 137 = (.bool false) := deps_get hd 0 rfl rfl rfl rfl rfl
              rw [if_pos (wanted_none rfl)]
              refine wp_value (w2 := wx) (v := .bool false) ?_ (hK _ _ rfl (Fr.refl _ _))
              clear hd hG hK
              go_simp
            refine stepsHold.cons (fun wx hG hd K hK => ?_) ?_
            · have h138 : us 138 = (.bool false) := deps_get hd 0 rfl rfl rfl rfl rfl
              rw [if_pos (wanted_yes rfl rfl rfl rfl h138)]
              refine wp_value (w2 := wx) (v := .int .i64 0) ?_ (hK _ _ rfl (Fr.refl _ _))
              clear hd hG hK
              go_simp
            refine stepsHold.cons (fun wx hG hd K hK => ?_) ?_
            · have h138 : us 138 = (.bool false) := deps_get hd 0 rfl rfl rfl rfl rfl
              rw [if_pos (wanted_yes rfl rfl rfl rfl h138)]
              refine wp_value (w2 := wx) (v := .int .i64 0) ?_ (hK _ _ rfl (Fr.refl _ _))
              clear hd hG hK
              go_simp
            refine stepsHold.cons (fun wx hG hd K hK => ?_) ?_
            · have h139 : us 139 = (.int .i64 0) := deps_get hd 0 rfl rfl rfl rfl rfl
              have h140 : us 140 = (.int .i64 0) := deps_get hd 1 rfl rfl rfl rfl rfl
              have h138 : us 138 = (.bool false) := deps_get hd 2 rfl rfl rfl rfl rfl
              rw [if_pos (wanted_yes rfl rfl rfl rfl h138)]
              refine wp_value (w2 := wx) (v := .bool false) ?_ (hK _ _ rfl (Fr.refl _ _))
              clear hd hG hK
              go_simp
            refine stepsHold.cons (fun wx hG hd K hK => ?_) ?_
            · have h138 : us 138 = (.bool false) := deps_get hd 0 rfl rfl rfl rfl rfl
              have h141 : us 141 = (.bool false) := deps_get hd 1 rfl rfl rfl rfl rfl
              rw [if_pos (wanted_none rfl)]
              refine wp_value (w2 := wx) (v := .bool false) ?_ (hK _ _ rfl (Fr.refl _ _))
              clear hd hG hK
              go_simp
            refine stepsHold.cons (fun wx hG hd K hK => ?_) ?_
            · have h142 : us 142 = (.bool false) := deps_get hd 0 rfl rfl rfl rfl rfl
              rw [if_pos (wanted_none rfl)]
              refine wp_value (w2 := wx) (v := .bool false) ?_ (hK _ _ rfl (Fr.refl _ _))
              clear hd hG hK
              go_simp
            refine stepsHold.cons (fun wx hG hd K hK => ?_) ?_
            · have h143 : us 143 = (.bool false) := deps_get hd 0 rfl rfl rfl rfl rfl
              rw [if_pos (wanted_yes rfl rfl rfl rfl h143)]
              refine wp_value (w2 := wx) (v := .pointer (some ⟨db, 0, none⟩)) ?_ (hK _ _ rfl (Fr.refl _ _))
              clear hd hG hK
              go_simp
            refine stepsHold.cons (fun wx hG hd K hK => ?_) ?_
            · have h144 : us 144 = (.pointer (some ⟨db, 0, none⟩)) := deps_get hd 0 rfl rfl rfl rfl rfl
              have h143 : us 143 = (.bool false) := deps_get hd 1 rfl rfl rfl rfl rfl
              rw [if_pos (wanted_yes rfl rfl rfl rfl h143)]
              refine wp_call (w2 := wx) (f := 25) (args := #[.pointer (some ⟨db, 0, none⟩)]) ?_ ?_
              · clear hd hK
                go_simp
              · refine (gone_c (HD2.out.keep0 hG)).mono ?_
                rintro e w9 ⟨rfl, rfl⟩
                exact ⟨_, rfl, hK _ _ rfl (Fr.refl _ _)⟩
            refine stepsHold.cons (fun wx hG hd K hK => ?_) ?_
            · have h143 : us 143 = (.bool false) := deps_get hd 0 rfl rfl rfl rfl rfl
              rw [if_pos (wanted_yes rfl rfl rfl rfl h143)]
              refine wp_value (w2 := wx) (v := .pointer (some ⟨rb, 0, none⟩)) ?_ (hK _ _ rfl (Fr.refl _ _))
              clear hd hG hK
              go_simp
            refine stepsHold.cons (fun wx hG hd K hK => ?_) ?_
            · have h146 : us 146 = (.pointer (some ⟨rb, 0, none⟩)) := deps_get hd 0 rfl rfl rfl rfl rfl
              have h143 : us 143 = (.bool false) := deps_get hd 1 rfl rfl rfl rfl rfl
              rw [if_pos (wanted_yes rfl rfl rfl rfl h143)]
              refine wp_value (w2 := wx) (v := .pointer (some ⟨rb, 0, none⟩)) ?_ (hK _ _ rfl (Fr.refl _ _))
              clear hd hG hK
              go_simp
            refine stepsHold.cons (fun wx hG hd K hK => ?_) ?_
            · have h147 : us 147 = (.pointer (some ⟨rb, 0, none⟩)) := deps_get hd 0 rfl rfl rfl rfl rfl
              have h143 : us 143 = (.bool false) := deps_get hd 1 rfl rfl rfl rfl rfl
              rw [if_pos (wanted_yes rfl rfl rfl rfl h143)]
              refine wp_value (w2 := wx) (v := .pointer (some ⟨rb, 3, none⟩)) ?_ (hK _ _ rfl (Fr.refl _ _))
              clear hd hG hK
              go_simp
            refine stepsHold.cons (fun wx hG hd K hK => ?_) ?_
            · have h148 : us 148 = (.pointer (some ⟨rb, 3, none⟩)) := deps_get hd 0 rfl rfl rfl rfl rfl
              have h143 : us 143 = (.bool false) := deps_get hd 1 rfl rfl rfl rfl rfl
              rw [if_pos (wanted_yes rfl rfl rfl rfl h143)]
              obtain ⟨cp, g0, g1, g2, g3, g4, f2, f3, f4⟩ := (HR2.out.keep0 hG).cells
              refine wp_value (w2 := wx) (v := .bool D2.gone) ?_ (hK _ _ rfl (Fr.refl _ _))
              clear hd hK
              go_simp
            refine stepsHold.cons (fun wx hG hd K hK => ?_) ?_
            · have h145 : us 145 = (.bool D2.gone) := deps_get hd 0 rfl rfl rfl rfl rfl
              have h149 : us 149 = (.bool D2.gone) := deps_get hd 1 rfl rfl rfl rfl rfl
              have h143 : us 143 = (.bool false) := deps_get hd 2 rfl rfl rfl rfl rfl
              rw [if_pos (wanted_yes rfl rfl rfl rfl h143)]
              refine wp_value (w2 := wx) (v := .bool false) ?_ (hK _ _ rfl (Fr.refl _ _))
              clear hd hG hK
              go_simp
            refine stepsHold.cons (fun wx hG hd K hK => ?_) ?_
            · have h143 : us 143 = (.bool false) := deps_get hd 0 rfl rfl rfl rfl rfl
              have h150 : us 150 = (.bool false) := deps_get hd 1 rfl rfl rfl rfl rfl
              rw [if_pos (wanted_none rfl)]
              refine wp_value (w2 := wx) (v := .bool false) ?_ (hK _ _ rfl (Fr.refl _ _))
              clear hd hG hK
              go_simp
            refine stepsHold.cons (fun wx hG hd K hK => ?_) ?_
            · have h151 : us 151 = (.bool false) := deps_get hd 0 rfl rfl rfl rfl rfl
              rw [if_pos (wanted_none rfl)]
              refine wp_value (w2 := wx) (v := .bool false) ?_ (hK _ _ rfl (Fr.refl _ _))
              clear hd hG hK
              go_simp
            refine stepsHold.cons (fun wx hG hd K hK => ?_) ?_
            · have h152 : us 152 = (.bool false) := deps_get hd 0 rfl rfl rfl rfl rfl
              rw [if_pos (wanted_yes rfl rfl rfl rfl h152)]
              refine wp_value (w2 := wx) (v := .pointer (some ⟨db, 0, none⟩)) ?_ (hK _ _ rfl (Fr.refl _ _))
              clear hd hG hK
              go_simp
            refine stepsHold.cons (fun wx hG hd K hK => ?_) ?_
            · have h153 : us 153 = (.pointer (some ⟨db, 0, none⟩)) := deps_get hd 0 rfl rfl rfl rfl rfl
              have h152 : us 152 = (.bool false) := deps_get hd 1 rfl rfl rfl rfl rfl
              rw [if_pos (wanted_yes rfl rfl rfl rfl h152)]
              refine wp_call (w2 := wx) (f := 14) (args := #[.pointer (some ⟨db, 0, none⟩)]) ?_ ?_
              · clear hd hK
                go_simp
              · refine (spent_c (HD2.out.keep0 hG)).mono ?_
                rintro e w9 ⟨rfl, rfl⟩
                exact ⟨_, rfl, hK _ _ rfl (Fr.refl _ _)⟩
            refine stepsHold.cons (fun wx hG hd K hK => ?_) ?_
            · have h152 : us 152 = (.bool false) := deps_get hd 0 rfl rfl rfl rfl rfl
              rw [if_pos (wanted_yes rfl rfl rfl rfl h152)]
              refine wp_value (w2 := wx) (v := .pointer (some ⟨rb, 0, none⟩)) ?_ (hK _ _ rfl (Fr.refl _ _))
              clear hd hG hK
              go_simp
            refine stepsHold.cons (fun wx hG hd K hK => ?_) ?_
            · have h155 : us 155 = (.pointer (some ⟨rb, 0, none⟩)) := deps_get hd 0 rfl rfl rfl rfl rfl
              have h152 : us 152 = (.bool false) := deps_get hd 1 rfl rfl rfl rfl rfl
              rw [if_pos (wanted_yes rfl rfl rfl rfl h152)]
              refine wp_value (w2 := wx) (v := .pointer (some ⟨rb, 0, none⟩)) ?_ (hK _ _ rfl (Fr.refl _ _))
              clear hd hG hK
              go_simp
            refine stepsHold.cons (fun wx hG hd K hK => ?_) ?_
            · have h156 : us 156 = (.pointer (some ⟨rb, 0, none⟩)) := deps_get hd 0 rfl rfl rfl rfl rfl
              have h152 : us 152 = (.bool false) := deps_get hd 1 rfl rfl rfl rfl rfl
              rw [if_pos (wanted_yes rfl rfl rfl rfl h152)]
              refine wp_value (w2 := wx) (v := .pointer (some ⟨rb, 4, none⟩)) ?_ (hK _ _ rfl (Fr.refl _ _))
              clear hd hG hK
              go_simp
            refine stepsHold.cons (fun wx hG hd K hK => ?_) ?_
            · have h157 : us 157 = (.pointer (some ⟨rb, 4, none⟩)) := deps_get hd 0 rfl rfl rfl rfl rfl
              have h152 : us 152 = (.bool false) := deps_get hd 1 rfl rfl rfl rfl rfl
              rw [if_pos (wanted_yes rfl rfl rfl rfl h152)]
              obtain ⟨cp, g0, g1, g2, g3, g4, f2, f3, f4⟩ := (HR2.out.keep0 hG).cells
              refine wp_value (w2 := wx) (v := .int .i64 D2.spent) ?_ (hK _ _ rfl (Fr.refl _ _))
              clear hd hK
              go_simp
            refine stepsHold.cons (fun wx hG hd K hK => ?_) ?_
            · have h154 : us 154 = (.int .i64 D2.spent) := deps_get hd 0 rfl rfl rfl rfl rfl
              have h158 : us 158 = (.int .i64 D2.spent) := deps_get hd 1 rfl rfl rfl rfl rfl
              have h152 : us 152 = (.bool false) := deps_get hd 2 rfl rfl rfl rfl rfl
              rw [if_pos (wanted_yes rfl rfl rfl rfl h152)]
              refine wp_value (w2 := wx) (v := .bool false) ?_ (hK _ _ rfl (Fr.refl _ _))
              clear hd hG hK
              go_simp
            refine stepsHold.cons (fun wx hG hd K hK => ?_) ?_
            · have h152 : us 152 = (.bool false) := deps_get hd 0 rfl rfl rfl rfl rfl
              have h159 : us 159 = (.bool false) := deps_get hd 1 rfl rfl rfl rfl rfl
              rw [if_pos (wanted_none rfl)]
              refine wp_value (w2 := wx) (v := .bool false) ?_ (hK _ _ rfl (Fr.refl _ _))
              clear hd hG hK
              go_simp
            refine stepsHold.cons (fun wx hG hd K hK => ?_) ?_
            · have h160 : us 160 = (.bool false) := deps_get hd 0 rfl rfl rfl rfl rfl
              rw [if_pos (wanted_none rfl)]
              refine wp_value (w2 := wx) (v := .bool false) ?_ (hK _ _ rfl (Fr.refl _ _))
              clear hd hG hK
              go_simp
            refine stepsHold.cons (fun wx hG hd K hK => ?_) ?_
            · have h161 : us 161 = (.bool false) := deps_get hd 0 rfl rfl rfl rfl rfl
              rw [if_pos (wanted_yes rfl rfl rfl rfl h161)]
              refine wp_value (w2 := wx) (v := .pointer (some ⟨db, 0, none⟩)) ?_ (hK _ _ rfl (Fr.refl _ _))
              clear hd hG hK
              go_simp
            refine stepsHold.cons (fun wx hG hd K hK => ?_) ?_
            · have h162 : us 162 = (.pointer (some ⟨db, 0, none⟩)) := deps_get hd 0 rfl rfl rfl rfl rfl
              have h161 : us 161 = (.bool false) := deps_get hd 1 rfl rfl rfl rfl rfl
              rw [if_pos (wanted_yes rfl rfl rfl rfl h161)]
              refine wp_call (w2 := wx) (f := 13) (args := #[.pointer (some ⟨db, 0, none⟩)]) ?_ ?_
              · clear hd hK
                go_simp
              · refine (cached_c (HD2.out.keep0 hG)).mono ?_
                rintro e w9 ⟨B, c, rfl, hV, hc, hB, hf⟩
                exact ⟨_, rfl, hK _ _ ⟨_, _, rfl, hV⟩ hf⟩
            refine stepsHold.cons (fun wx hG hd K hK => ?_) ?_
            · have h161 : us 161 = (.bool false) := deps_get hd 0 rfl rfl rfl rfl rfl
              rw [if_pos (wanted_yes rfl rfl rfl rfl h161)]
              refine wp_value (w2 := wx) (v := .pointer (some ⟨rb, 0, none⟩)) ?_ (hK _ _ rfl (Fr.refl _ _))
              clear hd hG hK
              go_simp
            refine stepsHold.cons (fun wx hG hd K hK => ?_) ?_
            · have h164 : us 164 = (.pointer (some ⟨rb, 0, none⟩)) := deps_get hd 0 rfl rfl rfl rfl rfl
              have h161 : us 161 = (.bool false) := deps_get hd 2 rfl rfl rfl rfl rfl
              rw [if_pos (wanted_yes rfl rfl rfl rfl h161)]
              refine wp_call (w2 := wx) (f := 27) (args := #[.pointer (some ⟨rb, 0, none⟩)]) ?_ ?_
              · clear hd hK
                go_simp
              · refine (rcached_c (HR2.out.keep0 hG)).mono ?_
                rintro e w9 ⟨B, c, rfl, hV, hc, hB, hf⟩
                exact ⟨_, rfl, hK _ _ ⟨_, _, rfl, hV⟩ hf⟩
            refine stepsHold.cons (fun wx hG hd K hK => ?_) ?_
            · have h163 := deps_get hd 0 rfl rfl rfl rfl rfl
              have h165 := deps_get hd 1 rfl rfl rfl rfl rfl
              have h161 : us 161 = (.bool false) := deps_get hd 3 rfl rfl rfl rfl rfl
              rw [if_pos (wanted_yes rfl rfl rfl rfl h161)]
              obtain ⟨A3, c3, e3, v3⟩ := h163
              obtain ⟨A5, c5, e5, v5⟩ := h165
              refine wp_call (w2 := wx) (f := 26) (args := #[.slice A3 D2.cachedI.length c3, .slice A5 D2.cachedI.length c5]) ?_ ?_
              · clear hd hK
                go_simp
              · refine (ints_same A3 A5 D2.cachedI.length c3 c5 D2.cachedI rfl v3 v5 HCL.out).mono ?_
                rintro e w9 ⟨rfl, hf⟩
                exact ⟨_, rfl, hK _ _ rfl hf⟩
            refine stepsHold.cons (fun wx hG hd K hK => ?_) ?_
            · have h166 : us 166 = (.bool true) := deps_get hd 0 rfl rfl rfl rfl rfl
              have h161 : us 161 = (.bool false) := deps_get hd 1 rfl rfl rfl rfl rfl
              rw [if_pos (wanted_yes rfl rfl rfl rfl h161)]
              refine wp_value (w2 := wx) (v := .bool false) ?_ (hK _ _ rfl (Fr.refl _ _))
              clear hd hG hK
              go_simp
            refine stepsHold.cons (fun wx hG hd K hK => ?_) ?_
            · have h161 : us 161 = (.bool false) := deps_get hd 0 rfl rfl rfl rfl rfl
              have h167 : us 167 = (.bool false) := deps_get hd 1 rfl rfl rfl rfl rfl
              rw [if_pos (wanted_none rfl)]
              refine wp_value (w2 := wx) (v := .bool false) ?_ (hK _ _ rfl (Fr.refl _ _))
              clear hd hG hK
              go_simp
            refine stepsHold.cons (fun wx hG hd K hK => ?_) ?_
            · have h168 : us 168 = (.bool false) := deps_get hd 0 rfl rfl rfl rfl rfl
              rw [if_pos (wanted_none rfl)]
              refine wp_value (w2 := wx) (v := .bool false) ?_ (hK _ _ rfl (Fr.refl _ _))
              clear hd hG hK
              go_simp
            refine stepsHold.cons (fun wx hG hd K hK => ?_) ?_
            · have h169 : us 169 = (.bool false) := deps_get hd 0 rfl rfl rfl rfl rfl
              rw [if_pos (wanted_yes rfl rfl rfl rfl h169)]
              refine wp_value (w2 := wx) (v := .pointer (some ⟨db, 0, none⟩)) ?_ (hK _ _ rfl (Fr.refl _ _))
              clear hd hG hK
              go_simp
            refine stepsHold.cons (fun wx hG hd K hK => ?_) ?_
            · have h170 : us 170 = (.pointer (some ⟨db, 0, none⟩)) := deps_get hd 0 rfl rfl rfl rfl rfl
              have h169 : us 169 = (.bool false) := deps_get hd 1 rfl rfl rfl rfl rfl
              rw [if_pos (wanted_yes rfl rfl rfl rfl h169)]
              refine wp_call (w2 := wx) (f := 28) (args := #[.pointer (some ⟨db, 0, none⟩)]) ?_ ?_
              · clear hd hK
                go_simp
              · refine (size_c (HD2.out.keep0 hG)).mono ?_
                rintro e w9 ⟨rfl, rfl⟩
                rw [HDL2.out]
                exact ⟨_, rfl, hK _ _ rfl (Fr.refl _ _)⟩
            refine stepsHold.cons (fun wx hG hd K hK => ?_) ?_
            · have h169 : us 169 = (.bool false) := deps_get hd 0 rfl rfl rfl rfl rfl
              rw [if_pos (wanted_yes rfl rfl rfl rfl h169)]
              refine wp_value (w2 := wx) (v := .int .i64 (k : Int)) ?_ (hK _ _ rfl (Fr.refl _ _))
              clear hd hG hK
              go_simp
            refine stepsHold.cons (fun wx hG hd K hK => ?_) ?_
            · have h171 : us 171 = (.int .i64 (k : Int)) := deps_get hd 0 rfl rfl rfl rfl rfl
              have h172 : us 172 = (.int .i64 (k : Int)) := deps_get hd 1 rfl rfl rfl rfl rfl
              have h169 : us 169 = (.bool false) := deps_get hd 2 rfl rfl rfl rfl rfl
              rw [if_pos (wanted_yes rfl rfl rfl rfl h169)]
              refine wp_value (w2 := wx) (v := .bool false) ?_ (hK _ _ rfl (Fr.refl _ _))
              clear hd hG hK
              go_simp
            refine stepsHold.cons (fun wx hG hd K hK => ?_) ?_
            · have h169 : us 169 = (.bool false) := deps_get hd 0 rfl rfl rfl rfl rfl
              have h173 : us 173 = (.bool false) := deps_get hd 1 rfl rfl rfl rfl rfl
              rw [if_pos (wanted_none rfl)]
              refine wp_value (w2 := wx) (v := .bool false) ?_ (hK _ _ rfl (Fr.refl _ _))
              clear hd hG hK
              go_simp
            exact stepsHold.nil
          case fin =>
            have h133 : us 133 = (.slice (some ⟨b7, 0, none⟩) 64 64) := all_get hall 0 rfl rfl rfl
            have h134 : us 134 = (.string (strOfNums (D2.at p))) := all_get hall 1 rfl rfl rfl
            have h135 : us 135 = (.slice (some ⟨b9, 0, none⟩) 64 c9) := all_get hall 2 rfl rfl rfl
            have h136 : us 136 = (.string (strOfNums (D2.at p))) := all_get hall 3 rfl rfl rfl
            have h137 : us 137 = (.bool false) := all_get hall 4 rfl rfl rfl
            have h138 : us 138 = (.bool false) := all_get hall 5 rfl rfl rfl
            have h139 : us 139 = (.int .i64 0) := all_get hall 6 rfl rfl rfl
            have h140 : us 140 = (.int .i64 0) := all_get hall 7 rfl rfl rfl
            have h141 : us 141 = (.bool false) := all_get hall 8 rfl rfl rfl
            have h142 : us 142 = (.bool false) := all_get hall 9 rfl rfl rfl
            have h143 : us 143 = (.bool false) := all_get hall 10 rfl rfl rfl
            have h144 : us 144 = (.pointer (some ⟨db, 0, none⟩)) := all_get hall 11 rfl rfl rfl
            have h145 : us 145 = (.bool D2.gone) := all_get hall 12 rfl rfl rfl
            have h146 : us 146 = (.pointer (some ⟨rb, 0, none⟩)) := all_get hall 13 rfl rfl rfl
            have h147 : us 147 = (.pointer (some ⟨rb, 0, none⟩)) := all_get hall 14 rfl rfl rfl
            have h148 : us 148 = (.pointer (some ⟨rb, 3, none⟩)) := all_get hall 15 rfl rfl rfl
            have h149 : us 149 = (.bool D2.gone) := all_get hall 16 rfl rfl rfl
            have h150 : us 150 = (.bool false) := all_get hall 17 rfl rfl rfl
            have h151 : us 151 = (.bool false) := all_get hall 18 rfl rfl rfl
            have h152 : us 152 = (.bool false) := all_get hall 19 rfl rfl rfl
            have h153 : us 153 = (.pointer (some ⟨db, 0, none⟩)) := all_get hall 20 rfl rfl rfl
            have h154 : us 154 = (.int .i64 D2.spent) := all_get hall 21 rfl rfl rfl
            have h155 : us 155 = (.pointer (some ⟨rb, 0, none⟩)) := all_get hall 22 rfl rfl rfl
            have h156 : us 156 = (.pointer (some ⟨rb, 0, none⟩)) := all_get hall 23 rfl rfl rfl
            have h157 : us 157 = (.pointer (some ⟨rb, 4, none⟩)) := all_get hall 24 rfl rfl rfl
            have h158 : us 158 = (.int .i64 D2.spent) := all_get hall 25 rfl rfl rfl
            have h159 : us 159 = (.bool false) := all_get hall 26 rfl rfl rfl
            have h160 : us 160 = (.bool false) := all_get hall 27 rfl rfl rfl
            have h161 : us 161 = (.bool false) := all_get hall 28 rfl rfl rfl
            have h162 : us 162 = (.pointer (some ⟨db, 0, none⟩)) := all_get hall 29 rfl rfl rfl
            have h163 := all_get hall 30 rfl rfl rfl
            have h164 : us 164 = (.pointer (some ⟨rb, 0, none⟩)) := all_get hall 31 rfl rfl rfl
            have h165 := all_get hall 32 rfl rfl rfl
            have h166 : us 166 = (.bool true) := all_get hall 33 rfl rfl rfl
            have h167 : us 167 = (.bool false) := all_get hall 34 rfl rfl rfl
            have h168 : us 168 = (.bool false) := all_get hall 35 rfl rfl rfl
            have h169 : us 169 = (.bool false) := all_get hall 36 rfl rfl rfl
            have h170 : us 170 = (.pointer (some ⟨db, 0, none⟩)) := all_get hall 37 rfl rfl rfl
            have h171 : us 171 = (.int .i64 (k : Int)) := all_get hall 38 rfl rfl rfl
            have h172 : us 172 = (.int .i64 (k : Int)) := all_get hall 39 rfl rfl rfl
            have h173 : us 173 = (.bool false) := all_get hall 40 rfl rfl rfl
            have h174 : us 174 = (.bool false) := all_get hall 41 rfl rfl rfl
            simp only [fillL, Nat.reduceAdd]
            clear hall
            simp only [h133, h134, h135, h136, h137, h138, h139, h140, h141, h142, h143, h144, h145, h146, h147, h148, h149, h150, h151, h152, h153, h154, h155, h156, h157, h158, h159, h160, h161, h162, h164, h166, h167, h168, h169, h170, h171, h172, h173, h174]
            clear h133 h134 h135 h136 h137 h138 h139 h140 h141 h142 h143 h144 h145 h146 h147 h148 h149 h150 h151 h152 h153 h154 h155 h156 h157 h158 h159 h160 h161 h162 h164 h166 h167 h168 h169 h170 h171 h172 h173 h174
            go_wp2_with fail
            go_roundg (n - (j + 1))
            case measure => omega
            case rel =>
              exact ⟨j + 1, by omega, rfl, by first | rfl | (go_num), ⟨⟨D2, HD2.out.keep0 hG, HR2.out.keep0 hG, HDL2.out⟩, HFZ.out.then0 hG⟩⟩
        · clear hDl2
          go_wp2_with fail
          refine (read_no hD2 x.pos hm).mono ?_
          rintro e w7 ⟨rfl, rfl⟩
          go_wp2_with fail
          refine (rread_no hR2 x.pos hm).mono ?_
          rintro e w8 ⟨rfl, rfl⟩
          go_wp2_with fail
          have HX7 := Lib.hid (BytesAt.nil wc none)
          have HX9 := Lib.hid (BytesAt.nil wc none)
          have HXY := Lib.hid (show strOfNums ([] : List Int) = strOfNums ([] : List Int) from rfl)
          have HD2 := Lib.hid hD2
          have HR2 := Lib.hid hR2
          have HFZ := Lib.hid hfz
          clear hD2 hR2 hfz c1
          refine wp_region_free (S := F0) [false, false, false, false, false, false, false, false, false, false, false, false, false, false, false, false, false, false, false, false, false, false, false, false, false, false, false, false, false, false, false, false, false, false, false, false, false, false, false, false, false, false, false, false, false, false, false, false, false, false, false, false, false, false, false, false, false, false, false, false, false, false, false, false, false, false, false, false, false, false, false, false, false, false, false, false, false, false, false, false, false, false, false, false, false, false, false, false, false, false, false, false, false, false, false, false, false, false, false, false, false, false, false, false, false, false, false, false, false, false, false, false, false, false, false, false, false, false, false, false, false, false, false, false, false, false, false, false, false, false, false, false, false, true, true, true, true, true, true, true, true, true, true, true, true, true, true, true, true, true, true, true, true, true, true, true, true, true, true, true, true, true, true, true, true, true, true, true, true, true, true, true, true, true, true, false] [.eq (.slice none 0 0), .eq (.string (strOfNums ([] : List Int))), .eq (.slice none 0 0), .eq (.string (strOfNums ([] : List Int))), .eq (.bool false), .eq (.bool false), .eq (.int .i64 (D2.may x.pos)), .eq (.int .i64 (D2.may x.pos)), .eq (.bool false), .eq (.bool false), .eq (.bool false), .eq (.pointer (some ⟨db, 0, none⟩)), .eq (.bool D2.gone), .eq (.pointer (some ⟨rb, 0, none⟩)), .eq (.pointer (some ⟨rb, 0, none⟩)), .eq (.pointer (some ⟨rb, 3, none⟩)), .eq (.bool D2.gone), .eq (.bool false), .eq (.bool false), .eq (.bool false), .eq (.pointer (some ⟨db, 0, none⟩)), .eq (.int .i64 D2.spent), .eq (.pointer (some ⟨rb, 0, none⟩)), .eq (.pointer (some ⟨rb, 0, none⟩)), .eq (.pointer (some ⟨rb, 4, none⟩)), .eq (.int .i64 D2.spent), .eq (.bool false), .eq (.bool false), .eq (.bool false), .eq (.pointer (some ⟨db, 0, none⟩)), ⟨fun v w' => ∃ A c, v = .slice A D2.cachedI.length c ∧ ValsAt w' A (D2.cachedI.map (Value.int .i64)), fun v w' w'' ⟨A, c, h1, h2⟩ hf => ⟨A, c, h1, h2.keep0 hf⟩⟩, .eq (.pointer (some ⟨rb, 0, none⟩)), ⟨fun v w' => ∃ A c, v = .slice A D2.cachedI.length c ∧ ValsAt w' A (D2.cachedI.map (Value.int .i64)), fun v w' w'' ⟨A, c, h1, h2⟩ hf => ⟨A, c, h1, h2.keep0 hf⟩⟩, .eq (.bool true), .eq (.bool false), .eq (.bool false), .eq (.bool false), .eq (.pointer (some ⟨db, 0, none⟩)), .eq (.int .i64 (k : Int)), .eq (.int .i64 (k : Int)), .eq (.bool false), .eq (.bool false)] (by kernel_rfl) (by kernel_rfl) (by rfl) (fun us => ?steps) (fun us wz hG hall => ?fin)
          case steps =>
            simp only [fillL, Nat.reduceAdd]
            refine stepsHold.cons (fun wx hG hd K hK => ?_) ?_
            · rw [if_pos (wanted_none rfl)]
              refine wp_value (w2 := wx) (v := .slice none 0 0) ?_ (hK _ _ rfl (Fr.refl _ _))
              clear hd hG hK
              go_simp
            refine stepsHold.cons (fun wx hG hd K hK => ?_) ?_
            · have h133 : us 133 = (.slice none 0 0) := deps_get hd 0 rfl rfl rfl rfl rfl
              rw [if_pos (wanted_none rfl)]
              have hr := conv_at (HX7.out.keep0 hG) r_und_bytes r_und_u8 r_und_string 0
              refine wp_value (w2 := wx) (v := .string (strOfNums ([] : List Int))) ?_ (hK _ _ rfl (Fr.refl _ _))
              clear hd hK
              go_simp
            refine stepsHold.cons (fun wx hG hd K hK => ?_) ?_
            · rw [if_pos (wanted_none rfl)]
              refine wp_value (w2 := wx) (v := .slice none 0 0) ?_ (hK _ _ rfl (Fr.refl _ _))
              clear hd hG hK
              go_simp
            refine stepsHold.cons (fun wx hG hd K hK => ?_) ?_
            · have h135 : us 135 = (.slice none 0 0) := deps_get hd 0 rfl rfl rfl rfl rfl
              rw [if_pos (wanted_none rfl)]
              have hr := conv_at (HX9.out.keep0 hG) r_und_bytes r_und_u8 r_und_string 0
              rw [HXY.out] at hr
              refine wp_value (w2 := wx) (v := .string (strOfNums ([] : List Int))) ?_ (hK _ _ rfl (Fr.refl _ _))
              clear hd hK
              go_simp
            refine stepsHold.cons (fun wx hG hd K hK => ?_) ?_
            · have h134 : us 134 = (.string (strOfNums ([] : List Int))) := deps_get hd 0 rfl rfl rfl rfl rfl
              have h136 : us 136 = (.string (strOfNums ([] : List Int))) := deps_get hd 1 rfl rfl rfl rfl rfl
              rw [if_pos (wanted_none rfl)]
              refine wp_value (w2 := wx) (v := .bool false) ?_ (hK _ _ rfl (Fr.refl _ _))
              clear hd hG hK
              go_simp
            refine stepsHold.cons (fun wx hG hd K hK => ?_) ?_
            · have h137 : us 137 = (.bool false) := deps_get hd 0 rfl rfl rfl rfl rfl
              rw [if_pos (wanted_none rfl)]
              refine wp_value (w2 := wx) (v := .bool false) ?_ (hK _ _ rfl (Fr.refl _ _))
              clear hd hG hK
              go_simp
            refine stepsHold.cons (fun wx hG hd K hK => ?_) ?_
            · have h138 : us 138 = (.bool false) := deps_get hd 0 rfl rfl rfl rfl rfl
              rw [if_pos (wanted_yes rfl rfl rfl rfl h138)]
              refine wp_value (w2 := wx) (v := .int .i64 (D2.may x.pos)) ?_ (hK _ _ rfl (Fr.refl _ _))
              clear hd hG hK
              go_simp
            refine stepsHold.cons (fun wx hG hd K hK => ?_) ?_
            · have h138 : us 138 = (.bool false) := deps_get hd 0 rfl rfl rfl rfl rfl
              rw [if_pos (wanted_yes rfl rfl rfl rfl h138)]
              refine wp_value (w2 := wx) (v := .int .i64 (D2.may x.pos)) ?_ (hK _ _ rfl (Fr.refl _ _))
              clear hd hG hK
              go_simp
            refine stepsHold.cons (fun wx hG hd K hK => ?_) ?_
            · have h139 : us 139 = (.int .i64 (D2.may x.pos)) := deps_get hd 0 rfl rfl rfl rfl rfl
              have h140 : us 140 = (.int .i64 (D2.may x.pos)) := deps_get hd 1 rfl rfl rfl rfl rfl
              have h138 : us 138 = (.bool false) := deps_get hd 2 rfl rfl rfl rfl rfl
              rw [if_pos (wanted_yes rfl rfl rfl rfl h138)]
              refine wp_value (w2 := wx) (v := .bool false) ?_ (hK _ _ rfl (Fr.refl _ _))
              clear hd hG hK
              go_simp
            refine stepsHold.cons (fun wx hG hd K hK => ?_) ?_
            · have h138 : us 138 = (.bool false) := deps_get hd 0 rfl rfl rfl rfl rfl
              have h141 : us 141 = (.bool false) := deps_get hd 1 rfl rfl rfl rfl rfl
              rw [if_pos (wanted_none rfl)]
              refine wp_value (w2 := wx) (v := .bool false) ?_ (hK _ _ rfl (Fr.refl _ _))
              clear hd hG hK
              go_simp
            refine stepsHold.cons (fun wx hG hd K hK => ?_) ?_
            · have h142 : us 142 = (.bool false) := deps_get hd 0 rfl rfl rfl rfl rfl
              rw [if_pos (wanted_none rfl)]
              refine wp_value (w2 := wx) (v := .bool false) ?_ (hK _ _ rfl (Fr.refl _ _))
              clear hd hG hK
              go_simp
            refine stepsHold.cons (fun wx hG hd K hK => ?_) ?_
            · have h143 : us 143 = (.bool false) := deps_get hd 0 rfl rfl rfl rfl rfl
              rw [if_pos (wanted_yes rfl rfl rfl rfl h143)]
              refine wp_value (w2 := wx) (v := .pointer (some ⟨db, 0, none⟩)) ?_ (hK _ _ rfl (Fr.refl _ _))
              clear hd hG hK
              go_simp
            refine stepsHold.cons (fun wx hG hd K hK => ?_) ?_
            · have h144 : us 144 = (.pointer (some ⟨db, 0, none⟩)) := deps_get hd 0 rfl rfl rfl rfl rfl
              have h143 : us 143 = (.bool false) := deps_get hd 1 rfl rfl rfl rfl rfl
              rw [if_pos (wanted_yes rfl rfl rfl rfl h143)]
              refine wp_call (w2 := wx) (f := 25) (args := #[.pointer (some ⟨db, 0, none⟩)]) ?_ ?_
              · clear hd hK
                go_simp
              · refine (gone_c (HD2.out.keep0 hG)).mono ?_
                rintro e w9 ⟨rfl, rfl⟩
                exact ⟨_, rfl, hK _ _ rfl (Fr.refl _ _)⟩
            refine stepsHold.cons (fun wx hG hd K hK => ?_) ?_
            · have h143 : us 143 = (.bool false) := deps_get hd 0 rfl rfl rfl rfl rfl
              rw [if_pos (wanted_yes rfl rfl rfl rfl h143)]
              refine wp_value (w2 := wx) (v := .pointer (some ⟨rb, 0, none⟩)) ?_ (hK _ _ rfl (Fr.refl _ _))
              clear hd hG hK
              go_simp
            refine stepsHold.cons (fun wx hG hd K hK => ?_) ?_
            · have h146 : us 146 = (.pointer (some ⟨rb, 0, none⟩)) := deps_get hd 0 rfl rfl rfl rfl rfl
              have h143 : us 143 = (.bool false) := deps_get hd 1 rfl rfl rfl rfl rfl
              rw [if_pos (wanted_yes rfl rfl rfl rfl h143)]
              refine wp_value (w2 := wx) (v := .pointer (some ⟨rb, 0, none⟩)) ?_ (hK _ _ rfl (Fr.refl _ _))
              clear hd hG hK
              go_simp
            refine stepsHold.cons (fun wx hG hd K hK => ?_) ?_
            · have h147 : us 147 = (.pointer (some ⟨rb, 0, none⟩)) := deps_get hd 0 rfl rfl rfl rfl rfl
              have h143 : us 143 = (.bool false) := deps_get hd 1 rfl rfl rfl rfl rfl
              rw [if_pos (wanted_yes rfl rfl rfl rfl h143)]
              refine wp_value (w2 := wx) (v := .pointer (some ⟨rb, 3, none⟩)) ?_ (hK _ _ rfl (Fr.refl _ _))
              clear hd hG hK
              go_simp
            refine stepsHold.cons (fun wx hG hd K hK => ?_) ?_
            · have h148 : us 148 = (.pointer (some ⟨rb, 3, none⟩)) := deps_get hd 0 rfl rfl rfl rfl rfl
              have h143 : us 143 = (.bool false) := deps_get hd 1 rfl rfl rfl rfl rfl
              rw [if_pos (wanted_yes rfl rfl rfl rfl h143)]
              obtain ⟨cp, g0, g1, g2, g3, g4, f2, f3, f4⟩ := (HR2.out.keep0 hG).cells
              refine wp_value (w2 := wx) (v := .bool D2.gone) ?_ (hK _ _ rfl (Fr.refl _ _))
              clear hd hK
              go_simp
            refine stepsHold.cons (fun wx hG hd K hK => ?_) ?_
            · have h145 : us 145 = (.bool D2.gone) := deps_get hd 0 rfl rfl rfl rfl rfl
              have h149 : us 149 = (.bool D2.gone) := deps_get hd 1 rfl rfl rfl rfl rfl
              have h143 : us 143 = (.bool false) := deps_get hd 2 rfl rfl rfl rfl rfl
              rw [if_pos (wanted_yes rfl rfl rfl rfl h143)]
              refine wp_value (w2 := wx) (v := .bool false) ?_ (hK _ _ rfl (Fr.refl _ _))
              clear hd hG hK
              go_simp
            refine stepsHold.cons (fun wx hG hd K hK => ?_) ?_
            · have h143 : us 143 = (.bool false) := deps_get hd 0 rfl rfl rfl rfl rfl
              have h150 : us 150 = (.bool false) := deps_get hd 1 rfl rfl rfl rfl rfl
              rw [if_pos (wanted_none rfl)]
              refine wp_value (w2 := wx) (v := .bool false) ?_ (hK _ _ rfl (Fr.refl _ _))
              clear hd hG hK
              go_simp
            refine stepsHold.cons (fun wx hG hd K hK => ?_) ?_
            · have h151 : us 151 = (.bool false) := deps_get hd 0 rfl rfl rfl rfl rfl
              rw [if_pos (wanted_none rfl)]
              refine wp_value (w2 := wx) (v := .bool false) ?_ (hK _ _ rfl (Fr.refl _ _))
              clear hd hG hK
              go_simp
            refine stepsHold.cons (fun wx hG hd K hK => ?_) ?_
            · have h152 : us 152 = (.bool false) := deps_get hd 0 rfl rfl rfl rfl rfl
              rw [if_pos (wanted_yes rfl rfl rfl rfl h152)]
              refine wp_value (w2 := wx) (v := .pointer (some ⟨db, 0, none⟩)) ?_ (hK _ _ rfl (Fr.refl _ _))
              clear hd hG hK
              go_simp
            refine stepsHold.cons (fun wx hG hd K hK => ?_) ?_
            · have h153 : us 153 = (.pointer (some ⟨db, 0, none⟩)) := deps_get hd 0 rfl rfl rfl rfl rfl
              have h152 : us 152 = (.bool false) := deps_get hd 1 rfl rfl rfl rfl rfl
              rw [if_pos (wanted_yes rfl rfl rfl rfl h152)]
              refine wp_call (w2 := wx) (f := 14) (args := #[.pointer (some ⟨db, 0, none⟩)]) ?_ ?_
              · clear hd hK
                go_simp
              · refine (spent_c (HD2.out.keep0 hG)).mono ?_
                rintro e w9 ⟨rfl, rfl⟩
                exact ⟨_, rfl, hK _ _ rfl (Fr.refl _ _)⟩
            refine stepsHold.cons (fun wx hG hd K hK => ?_) ?_
            · have h152 : us 152 = (.bool false) := deps_get hd 0 rfl rfl rfl rfl rfl
              rw [if_pos (wanted_yes rfl rfl rfl rfl h152)]
              refine wp_value (w2 := wx) (v := .pointer (some ⟨rb, 0, none⟩)) ?_ (hK _ _ rfl (Fr.refl _ _))
              clear hd hG hK
              go_simp
            refine stepsHold.cons (fun wx hG hd K hK => ?_) ?_
            · have h155 : us 155 = (.pointer (some ⟨rb, 0, none⟩)) := deps_get hd 0 rfl rfl rfl rfl rfl
              have h152 : us 152 = (.bool false) := deps_get hd 1 rfl rfl rfl rfl rfl
              rw [if_pos (wanted_yes rfl rfl rfl rfl h152)]
              refine wp_value (w2 := wx) (v := .pointer (some ⟨rb, 0, none⟩)) ?_ (hK _ _ rfl (Fr.refl _ _))
              clear hd hG hK
              go_simp
            refine stepsHold.cons (fun wx hG hd K hK => ?_) ?_
            · have h156 : us 156 = (.pointer (some ⟨rb, 0, none⟩)) := deps_get hd 0 rfl rfl rfl rfl rfl
              have h152 : us 152 = (.bool false) := deps_get hd 1 rfl rfl rfl rfl rfl
              rw [if_pos (wanted_yes rfl rfl rfl rfl h152)]
              refine wp_value (w2 := wx) (v := .pointer (some ⟨rb, 4, none⟩)) ?_ (hK _ _ rfl (Fr.refl _ _))
              clear hd hG hK
              go_simp
            refine stepsHold.cons (fun wx hG hd K hK => ?_) ?_
            · have h157 : us 157 = (.pointer (some ⟨rb, 4, none⟩)) := deps_get hd 0 rfl rfl rfl rfl rfl
              have h152 : us 152 = (.bool false) := deps_get hd 1 rfl rfl rfl rfl rfl
              rw [if_pos (wanted_yes rfl rfl rfl rfl h152)]
              obtain ⟨cp, g0, g1, g2, g3, g4, f2, f3, f4⟩ := (HR2.out.keep0 hG).cells
              refine wp_value (w2 := wx) (v := .int .i64 D2.spent) ?_ (hK _ _ rfl (Fr.refl _ _))
              clear hd hK
              go_simp
            refine stepsHold.cons (fun wx hG hd K hK => ?_) ?_
            · have h154 : us 154 = (.int .i64 D2.spent) := deps_get hd 0 rfl rfl rfl rfl rfl
              have h158 : us 158 = (.int .i64 D2.spent) := deps_get hd 1 rfl rfl rfl rfl rfl
              have h152 : us 152 = (.bool false) := deps_get hd 2 rfl rfl rfl rfl rfl
              rw [if_pos (wanted_yes rfl rfl rfl rfl h152)]
              refine wp_value (w2 := wx) (v := .bool false) ?_ (hK _ _ rfl (Fr.refl _ _))
              clear hd hG hK
              go_simp
            refine stepsHold.cons (fun wx hG hd K hK => ?_) ?_
            · have h152 : us 152 = (.bool false) := deps_get hd 0 rfl rfl rfl rfl rfl
              have h159 : us 159 = (.bool false) := deps_get hd 1 rfl rfl rfl rfl rfl
              rw [if_pos (wanted_none rfl)]
              refine wp_value (w2 := wx) (v := .bool false) ?_ (hK _ _ rfl (Fr.refl _ _))
              clear hd hG hK
              go_simp
            refine stepsHold.cons (fun wx hG hd K hK => ?_) ?_
            · have h160 : us 160 = (.bool false) := deps_get hd 0 rfl rfl rfl rfl rfl
              rw [if_pos (wanted_none rfl)]
              refine wp_value (w2 := wx) (v := .bool false) ?_ (hK _ _ rfl (Fr.refl _ _))
              clear hd hG hK
              go_simp
            refine stepsHold.cons (fun wx hG hd K hK => ?_) ?_
            · have h161 : us 161 = (.bool false) := deps_get hd 0 rfl rfl rfl rfl rfl
              rw [if_pos (wanted_yes rfl rfl rfl rfl h161)]
              refine wp_value (w2 := wx) (v := .pointer (some ⟨db, 0, none⟩)) ?_ (hK _ _ rfl (Fr.refl _ _))
              clear hd hG hK
              go_simp
            refine stepsHold.cons (fun wx hG hd K hK => ?_) ?_
            · have h162 : us 162 = (.pointer (some ⟨db, 0, none⟩)) := deps_get hd 0 rfl rfl rfl rfl rfl
              have h161 : us 161 = (.bool false) := deps_get hd 1 rfl rfl rfl rfl rfl
              rw [if_pos (wanted_yes rfl rfl rfl rfl h161)]
              refine wp_call (w2 := wx) (f := 13) (args := #[.pointer (some ⟨db, 0, none⟩)]) ?_ ?_
              · clear hd hK
                go_simp
              · refine (cached_c (HD2.out.keep0 hG)).mono ?_
                rintro e w9 ⟨B, c, rfl, hV, hc, hB, hf⟩
                exact ⟨_, rfl, hK _ _ ⟨_, _, rfl, hV⟩ hf⟩
            refine stepsHold.cons (fun wx hG hd K hK => ?_) ?_
            · have h161 : us 161 = (.bool false) := deps_get hd 0 rfl rfl rfl rfl rfl
              rw [if_pos (wanted_yes rfl rfl rfl rfl h161)]
              refine wp_value (w2 := wx) (v := .pointer (some ⟨rb, 0, none⟩)) ?_ (hK _ _ rfl (Fr.refl _ _))
              clear hd hG hK
              go_simp
            refine stepsHold.cons (fun wx hG hd K hK => ?_) ?_
            · have h164 : us 164 = (.pointer (some ⟨rb, 0, none⟩)) := deps_get hd 0 rfl rfl rfl rfl rfl
              have h161 : us 161 = (.bool false) := deps_get hd 2 rfl rfl rfl rfl rfl
              rw [if_pos (wanted_yes rfl rfl rfl rfl h161)]
              refine wp_call (w2 := wx) (f := 27) (args := #[.pointer (some ⟨rb, 0, none⟩)]) ?_ ?_
              · clear hd hK
                go_simp
              · refine (rcached_c (HR2.out.keep0 hG)).mono ?_
                rintro e w9 ⟨B, c, rfl, hV, hc, hB, hf⟩
                exact ⟨_, rfl, hK _ _ ⟨_, _, rfl, hV⟩ hf⟩
            refine stepsHold.cons (fun wx hG hd K hK => ?_) ?_
            · have h163 := deps_get hd 0 rfl rfl rfl rfl rfl
              have h165 := deps_get hd 1 rfl rfl rfl rfl rfl
              have h161 : us 161 = (.bool false) := deps_get hd 3 rfl rfl rfl rfl rfl
              rw [if_pos (wanted_yes rfl rfl rfl rfl h161)]
              obtain ⟨A3, c3, e3, v3⟩ := h163
              obtain ⟨A5, c5, e5, v5⟩ := h165
              refine wp_call (w2 := wx) (f := 26) (args := #[.slice A3 D2.cachedI.length c3, .slice A5 D2.cachedI.length c5]) ?_ ?_
              · clear hd hK
                go_simp
              · refine (ints_same A3 A5 D2.cachedI.length c3 c5 D2.cachedI rfl v3 v5 HCL.out).mono ?_
                rintro e w9 ⟨rfl, hf⟩
                exact ⟨_, rfl, hK _ _ rfl hf⟩
            refine stepsHold.cons (fun wx hG hd K hK => ?_) ?_
            · have h166 : us 166 = (.bool true) := deps_get hd 0 rfl rfl rfl rfl rfl
              have h161 : us 161 = (.bool false) := deps_get hd 1 rfl rfl rfl rfl rfl
              rw [if_pos (wanted_yes rfl rfl rfl rfl h161)]
              refine wp_value (w2 := wx) (v := .bool false) ?_ (hK _ _ rfl (Fr.refl _ _))
              clear hd hG hK
              go_simp
            refine stepsHold.cons (fun wx hG hd K hK => ?_) ?_
            · have h161 : us 161 = (.bool false) := deps_get hd 0 rfl rfl rfl rfl rfl
              have h167 : us 167 = (.bool false) := deps_get hd 1 rfl rfl rfl rfl rfl
              rw [if_pos (wanted_none rfl)]
              refine wp_value (w2 := wx) (v := .bool false) ?_ (hK _ _ rfl (Fr.refl _ _))
              clear hd hG hK
              go_simp
            refine stepsHold.cons (fun wx hG hd K hK => ?_) ?_
            · have h168 : us 168 = (.bool false) := deps_get hd 0 rfl rfl rfl rfl rfl
              rw [if_pos (wanted_none rfl)]
              refine wp_value (w2 := wx) (v := .bool false) ?_ (hK _ _ rfl (Fr.refl _ _))
              clear hd hG hK
              go_simp
            refine stepsHold.cons (fun wx hG hd K hK => ?_) ?_
            · have h169 : us 169 = (.bool false) := deps_get hd 0 rfl rfl rfl rfl rfl
              rw [if_pos (wanted_yes rfl rfl rfl rfl h169)]
              refine wp_value (w2 := wx) (v := .pointer (some ⟨db, 0, none⟩)) ?_ (hK _ _ rfl (Fr.refl _ _))
              clear hd hG hK
              go_simp
            refine stepsHold.cons (fun wx hG hd K hK => ?_) ?_
            · have h170 : us 170 = (.pointer (some ⟨db, 0, none⟩)) := deps_get hd 0 rfl rfl rfl rfl rfl
              have h169 : us 169 = (.bool false) := deps_get hd 1 rfl rfl rfl rfl rfl
              rw [if_pos (wanted_yes rfl rfl rfl rfl h169)]
              refine wp_call (w2 := wx) (f := 28) (args := #[.pointer (some ⟨db, 0, none⟩)]) ?_ ?_
              · clear hd hK
                go_simp
              · refine (size_c (HD2.out.keep0 hG)).mono ?_
                rintro e w9 ⟨rfl, rfl⟩
                rw [HDL2.out]
                exact ⟨_, rfl, hK _ _ rfl (Fr.refl _ _)⟩
            refine stepsHold.cons (fun wx hG hd K hK => ?_) ?_
            · have h169 : us 169 = (.bool false) := deps_get hd 0 rfl rfl rfl rfl rfl
              rw [if_pos (wanted_yes rfl rfl rfl rfl h169)]
              refine wp_value (w2 := wx) (v := .int .i64 (k : Int)) ?_ (hK _ _ rfl (Fr.refl _ _))
              clear hd hG hK
              go_simp
            refine stepsHold.cons (fun wx hG hd K hK => ?_) ?_
            · have h171 : us 171 = (.int .i64 (k : Int)) := deps_get hd 0 rfl rfl rfl rfl rfl
              have h172 : us 172 = (.int .i64 (k : Int)) := deps_get hd 1 rfl rfl rfl rfl rfl
              have h169 : us 169 = (.bool false) := deps_get hd 2 rfl rfl rfl rfl rfl
              rw [if_pos (wanted_yes rfl rfl rfl rfl h169)]
              refine wp_value (w2 := wx) (v := .bool false) ?_ (hK _ _ rfl (Fr.refl _ _))
              clear hd hG hK
              go_simp
            refine stepsHold.cons (fun wx hG hd K hK => ?_) ?_
            · have h169 : us 169 = (.bool false) := deps_get hd 0 rfl rfl rfl rfl rfl
              have h173 : us 173 = (.bool false) := deps_get hd 1 rfl rfl rfl rfl rfl
              rw [if_pos (wanted_none rfl)]
              refine wp_value (w2 := wx) (v := .bool false) ?_ (hK _ _ rfl (Fr.refl _ _))
              clear hd hG hK
              go_simp
            exact stepsHold.nil
          case fin =>
            have h133 : us 133 = (.slice none 0 0) := all_get hall 0 rfl rfl rfl
            have h134 : us 134 = (.string (strOfNums ([] : List Int))) := all_get hall 1 rfl rfl rfl
            have h135 : us 135 = (.slice none 0 0) := all_get hall 2 rfl rfl rfl
            have h136 : us 136 = (.string (strOfNums ([] : List Int))) := all_get hall 3 rfl rfl rfl
            have h137 : us 137 = (.bool false) := all_get hall 4 rfl rfl rfl
            have h138 : us 138 = (.bool false) := all_get hall 5 rfl rfl rfl
            have h139 : us 139 = (.int .i64 (D2.may x.pos)) := all_get hall 6 rfl rfl rfl
            have h140 : us 140 = (.int .i64 (D2.may x.pos)) := all_get hall 7 rfl rfl rfl
            have h141 : us 141 = (.bool false) := all_get hall 8 rfl rfl rfl
            have h142 : us 142 = (.bool false) := all_get hall 9 rfl rfl rfl
            have h143 : us 143 = (.bool false) := all_get hall 10 rfl rfl rfl
            have h144 : us 144 = (.pointer (some ⟨db, 0, none⟩)) := all_get hall 11 rfl rfl rfl
            have h145 : us 145 = (.bool D2.gone) := all_get hall 12 rfl rfl rfl
            have h146 : us 146 = (.pointer (some ⟨rb, 0, none⟩)) := all_get hall 13 rfl rfl rfl
            have h147 : us 147 = (.pointer (some ⟨rb, 0, none⟩)) := all_get hall 14 rfl rfl rfl
            have h148 : us 148 = (.pointer (some ⟨rb, 3, none⟩)) := all_get hall 15 rfl rfl rfl
            have h149 : us 149 = (.bool D2.gone) := all_get hall 16 rfl rfl rfl
            have h150 : us 150 = (.bool false) := all_get hall 17 rfl rfl rfl
            have h151 : us 151 = (.bool false) := all_get hall 18 rfl rfl rfl
            have h152 : us 152 = (.bool false) := all_get hall 19 rfl rfl rfl
            have h153 : us 153 = (.pointer (some ⟨db, 0, none⟩)) := all_get hall 20 rfl rfl rfl
            have h154 : us 154 = (.int .i64 D2.spent) := all_get hall 21 rfl rfl rfl
            have h155 : us 155 = (.pointer (some ⟨rb, 0, none⟩)) := all_get hall 22 rfl rfl rfl
            have h156 : us 156 = (.pointer (some ⟨rb, 0, none⟩)) := all_get hall 23 rfl rfl rfl
            have h157 : us 157 = (.pointer (some ⟨rb, 4, none⟩)) := all_get hall 24 rfl rfl rfl
            have h158 : us 158 = (.int .i64 D2.spent) := all_get hall 25 rfl rfl rfl
            have h159 : us 159 = (.bool false) := all_get hall 26 rfl rfl rfl
            have h160 : us 160 = (.bool false) := all_get hall 27 rfl rfl rfl
            have h161 : us 161 = (.bool false) := all_get hall 28 rfl rfl rfl
            have h162 : us 162 = (.pointer (some ⟨db, 0, none⟩)) := all_get hall 29 rfl rfl rfl
            have h163 := all_get hall 30 rfl rfl rfl
            have h164 : us 164 = (.pointer (some ⟨rb, 0, none⟩)) := all_get hall 31 rfl rfl rfl
            have h165 := all_get hall 32 rfl rfl rfl
            have h166 : us 166 = (.bool true) := all_get hall 33 rfl rfl rfl
            have h167 : us 167 = (.bool false) := all_get hall 34 rfl rfl rfl
            have h168 : us 168 = (.bool false) := all_get hall 35 rfl rfl rfl
            have h169 : us 169 = (.bool false) := all_get hall 36 rfl rfl rfl
            have h170 : us 170 = (.pointer (some ⟨db, 0, none⟩)) := all_get hall 37 rfl rfl rfl
            have h171 : us 171 = (.int .i64 (k : Int)) := all_get hall 38 rfl rfl rfl
            have h172 : us 172 = (.int .i64 (k : Int)) := all_get hall 39 rfl rfl rfl
            have h173 : us 173 = (.bool false) := all_get hall 40 rfl rfl rfl
            have h174 : us 174 = (.bool false) := all_get hall 41 rfl rfl rfl
            simp only [fillL, Nat.reduceAdd]
            clear hall
            simp only [h133, h134, h135, h136, h137, h138, h139, h140, h141, h142, h143, h144, h145, h146, h147, h148, h149, h150, h151, h152, h153, h154, h155, h156, h157, h158, h159, h160, h161, h162, h164, h166, h167, h168, h169, h170, h171, h172, h173, h174]
            clear h133 h134 h135 h136 h137 h138 h139 h140 h141 h142 h143 h144 h145 h146 h147 h148 h149 h150 h151 h152 h153 h154 h155 h156 h157 h158 h159 h160 h161 h162 h164 h166 h167 h168 h169 h170 h171 h172 h173 h174
            go_wp2_with fail
            go_roundg (n - (j + 1))
            case measure => omega
            case rel =>
              exact ⟨j + 1, by omega, rfl, by first | rfl | (go_num), ⟨⟨D2, HD2.out.keep0 hG, HR2.out.keep0 hG, HDL2.out⟩, HFZ.out.then0 hG⟩⟩
    · have hjn : j = n := by omega
      subst hjn
      go_wp2_with fail
      go_ret
      exact ⟨rfl, hf0⟩
end
end Go.Proofs.Ythepadcjpkcknaa
