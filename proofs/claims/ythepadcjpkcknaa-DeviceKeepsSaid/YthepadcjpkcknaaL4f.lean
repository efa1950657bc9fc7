/-
  DeviceKeeps: the walk. Conditions: none.
-/
import Derived.Test.YthepadcjpkcknaaActs4
import Derived.Test.YthepadcjpkcknaaDevX
import Derived.Laws.BytesArg
import Derived.Test.YthepadcjpkcknaaFree
import Derived.Deep.OwnRows
set_option linter.unusedVariables false
set_option linter.unusedSimpArgs false
namespace Go.Proofs.Ythepadcjpkcknaa
open Go.RowKit

theorem und_string : Try.prog.underlying 9 = some .string := by kernel_rfl

/-- Behind the flush: eight sectors, alive, without a budget; the k-th was laid down. -/
structure Laid8 (k : Nat) (p : List Int) (D : Dev) : Prop where
  len : D.laid.length = 8
  gone : D.gone = false
  budget : D.budget = -1
  at_ : D.laid.getD k [] = p

theorem Laid8.start {k : Nat} {xs : List Int} (hk : k < 8) (hx : xs.length ≤ 64) :
    (Dev.new 8).writeE k xs = 0 ∧ ((Dev.new 8).write k xs).flushE = 0 ∧ Laid8 k (pad64 xs) ((Dev.new 8).write k xs).flush := by
  have hl : (Dev.new 8).laid.length = 8 := by simp [Dev.new]
  have hll : (Dev.new 8).spend.late.length = 8 := by rw [Dev.spend_late]; simp [Dev.new]
  have hb : (Dev.new 8).budget ≠ 0 := by simp [Dev.new]
  obtain ⟨h1, h2⟩ := Dev.write_ok (D := Dev.new 8) rfl hb (i := k) (by rw [hl]; exact hk) hx
  generalize hD : (Dev.new 8).write (k : Int) xs = D at *
  have g : D.gone = false := by rw [h2, Dev.spend_go hb]; rfl
  have b : D.budget = -1 := by rw [h2]; show (Dev.new 8).spend.budget = -1; exact Dev.spend_neg rfl
  have l : D.laid.length = 8 := by rw [h2]; show ((Dev.new 8).spend).laid.length = 8; rw [Dev.spend_laid, hl]
  have a : D.at k = pad64 xs := by rw [h2]; exact Dev.put_at _ _ _ (by rw [hll]; exact hk)
  have hb' : D.budget ≠ 0 := by rw [b]; decide
  obtain ⟨f1, f2⟩ := Dev.flush_ok g hb'
  refine ⟨h1, f1, ?_⟩
  rw [f2]
  refine ⟨by rw [Dev.lay_len, Dev.spend_laid, l], Dev.spend_gone g hb', Dev.spend_neg b, ?_⟩
  rw [Dev.lay_laid]
  have hkk : k < D.spend.laid.length := by rw [Dev.spend_laid, l]; exact hk
  have : ((List.range D.spend.laid.length).map D.spend.at).getD k [] = D.spend.at k := by simp [List.getD, hkk]
  rw [this, Dev.spend_at, a]
theorem Laid8.write {k : Nat} {p : List Int} {D : Dev} (h : Laid8 k p D) (i : Int) (xs : List Int) : Laid8 k p (D.write i xs) := by
  have hb : D.budget ≠ 0 := by rw [h.budget]; decide
  have hs : Laid8 k p D.spend := ⟨by rw [Dev.spend_laid]; exact h.len, Dev.spend_gone h.gone hb, Dev.spend_neg h.budget, by rw [Dev.spend_laid]; exact h.at_⟩
  unfold Dev.write
  split
  · exact h
  · split
    · exact h
    · exact ⟨hs.len, hs.gone, hs.budget, hs.at_⟩
theorem layKept_at (D : Dev) (k : Nat) : ∀ (is : List Nat) (bs : List Bool) (l : List (List Int)), (∀ j : Nat, bs[j]? = some true → is[j]? ≠ some k) → (layKept D is bs l).getD k [] = l.getD k []
  | [], bs, l, _ => by cases bs <;> rfl
  | i :: is, [], l, _ => rfl
  | i :: is, b :: bs, l, h => by
    simp only [layKept]
    rw [layKept_at D k is bs _ (fun j hj => by have := h (j + 1); simpa using this (by simpa using hj))]
    cases b with
    | false => rfl
    | true =>
      have h0 := h 0 rfl
      have hne : i ≠ k := by intro e; subst e; exact h0 rfl
      simp [List.getD, List.getElem?_set, hne]
/-- Is the k-th among those that are kept? -/
def hitB (k : Nat) (cs : List Int) (keep : List Bool) (j : Nat) : Bool := (List.range j).any fun i => keep.getD i false && decide (cs[i]? = some (k : Int))
theorem hitB_succ (k : Nat) (cs : List Int) (keep : List Bool) (j : Nat) : hitB k cs keep (j + 1) = (hitB k cs keep j || (keep.getD j false && decide (cs[j]? = some (k : Int)))) := by
  simp [hitB, List.range_succ]
theorem Laid8.kept {k : Nat} {p : List Int} {D : Dev} {keep : List Bool} {n : Nat} (h : Laid8 k p D) (hh : hitB k D.cachedI keep n = false) (hn : D.cachedI.length ≤ n ∨ keep.length ≤ n) : (D.crash keep).at k = p := by
  rw [Dev.crash_at, layKept_at, h.at_]
  intro j hj he
  have hjk : j < keep.length := (List.getElem?_eq_some_iff.1 hj).1
  have hjc : j < D.cached.length := (List.getElem?_eq_some_iff.1 he).1
  have hlen : D.cachedI.length = D.cached.length := Dev.cachedI_len D
  have hjn : j < n := by omega
  have h1 := List.any_eq_false.1 hh j (List.mem_range.2 hjn)
  refine h1 ?_
  simp [List.getD, hj, Dev.cachedI, he]

/-- What the loop of writes keeps. -/
structure KeepsAt (k : Nat) (p : List Int) (db lb mb : Nat) (w0 wr : World) : Prop where
  ex : ∃ D, DevAt Try.prog 3 wr db lb mb D ∧ Laid8 k p D
  fr : Fr (Dv db lb mb) w0 wr

section
variable {w : World}
set_option maxRecDepth 100000 in
set_option maxHeartbeats 2000000 in
theorem keeps_walk (A : Option Addr) (n c : Nat) (xs : List Int) (at_ : Int) (A2 : Option Addr) (n2 c2 : Nat) (l : List Act1) (A3 : Option Addr) (n3 c3 : Nat) (bs : List Bool)
    (hA : BytesAt w A n xs) (hL : ActsAt w A2 n2 l) (hB : ValsAt w A3 (bs.map Value.bool)) (hbl : bs.length = n3) (hn : n ≤ 9223372036854775807) (hn2 : n2 ≤ 9223372036854775807) (hn3 : n3 ≤ 9223372036854775807) :
    Calls Try.prog 4 #[.slice A n c, .int .i64 at_, .slice A2 n2 c2, .slice A3 n3 c3] w fun e w' => e = .returned (.bool true) ∧ Fr F0 w w' := by
  by_cases hbig : 64 < n
  · have hbig' : (64 : Int) < (n : Int) := by omega
    go_enter Try.func4, Try.ntmps4
    go_wp2_with (go_at_call 9; refine (awake_c _).mono ?_; rintro e w1 ⟨rfl, hf1⟩)
    go_ret
    exact ⟨rfl, hf1⟩
  have hbig' : ¬ (64 : Int) < (n : Int) := by omega
  by_cases hsm' : smallB l = false
  · go_enter Try.func4, Try.ntmps4
    go_wp2_with fail
    refine (awake_c _).mono ?_
    rintro e w1 ⟨rfl, hf1⟩
    go_wp2_with fail
    refine (small_c A2 n2 c2 l (hL.keep0 hf1) hn2).mono ?_
    rintro e w2 ⟨rfl, hf2⟩
    rw [hsm']
    go_wp2_with fail
    go_ret
    exact ⟨rfl, hf1.then0 hf2⟩
  have hsm : smallB l = true := by simpa using hsm'
  clear hsm'
  by_cases hbig3 : 100 < n3
  · have hbig3' : (100 : Int) < (n3 : Int) := by omega
    go_enter Try.func4, Try.ntmps4
    go_wp2_with fail
    refine (awake_c _).mono ?_
    rintro e w1 ⟨rfl, hf1⟩
    go_wp2_with fail
    refine (small_c A2 n2 c2 l (hL.keep0 hf1) hn2).mono ?_
    rintro e w2 ⟨rfl, hf2⟩
    rw [hsm]
    go_wp2_with fail
    go_ret
    exact ⟨rfl, hf1.then0 hf2⟩
  have hbig3' : ¬ (100 : Int) < (n3 : Int) := by omega
  obtain ⟨k, hk⟩ : ∃ k : Nat, at_ % 8 = (k : Int) := ⟨(at_ % 8).toNat, by omega⟩
  have hk8 : k < 8 := by omega
  have hband : bits BinOp.and IntKind.i64 at_ 7 = (k : Int) := by rw [← hk]; exact i64_and at_ 3 (by decide)
  have HLEN := Lib.hid hA.len
  have HSM := Lib.hid hsm
  have ST := Lib.hid (Laid8.start (k := k) (xs := xs) hk8 (by have := hA.len; omega))
  have HLL := Lib.hid hL.len
  have HBL := Lib.hid hbl
  clear hk hsm
  go_enter Try.func4, Try.ntmps4
  go_wp2_with fail
  refine (awake_c _).mono ?_
  rintro e w1 ⟨rfl, hf1⟩
  go_wp2_with fail
  refine (small_c A2 n2 c2 l (hL.keep0 hf1) hn2).mono ?_
  rintro e w2 ⟨rfl, hf2⟩
  rw [HSM.out]
  go_wp2_with fail
  refine (new_c 8 (by decide) (by decide) _).mono ?_
  rintro e w3 ⟨db, lb, mb, rfl, h3, m1, m2, m3, hf3⟩
  go_wp2_with fail
  have hA3 := ((hA.keep0 hf1).keep0 hf2).keep0 hf3
  have z1 := hf1.size
  have z2 := hf2.size
  have z3 := hf3.size
  refine (write_c h3 k A c xs n hA3 (by intro hp ad e; subst e; have := hA.lt hp; omega)).mono ?_
  rintro e w4 ⟨rfl, h4, hf4⟩
  rw [ST.out.1]
  go_wp2_with fail
  refine (flush_c h4).mono ?_
  rintro e w5 ⟨rfl, h5, hf5⟩
  rw [ST.out.2.1]
  have hf45 : Fr (Dv db lb mb) w3 w5 := hf4.trans hf5 (fun _ e => .inl e)
  have h5L := ST.out.2.2
  generalize ((Dev.new 8).write (k : Int) xs).flush = D5 at *
  go_wp2_with fail
  go_loopg [15] n2 (fun kq v wr => ∃ j : Nat, j ≤ n2 ∧ kq = n2 - j ∧ v = .int .i64 (j : Int) ∧ KeepsAt k (pad64 xs) db lb mb w3 wr)
  case atStart => exact ⟨0, by omega, rfl, rfl, ⟨⟨_, h5, h5L⟩, hf45⟩⟩
  case round =>
    obtain ⟨j, hj, rfl, rfl, ⟨D, hD, hT⟩, hfr⟩ := hrel
    have z4 := hfr.size
    have hlt3 := h3.lt
    have hf0 : Fr F0 w wr := ((hf1.then0 hf2).then0 hf3).trans hfr (by intro i hi; refine .inr ?_; rcases hi with h' | h' | h' <;> omega)
    have hLr := hL.keep0 hf0
    by_cases hlt : j < n2
    · have hj0 : (0 : Int) ≤ (j : Int) := Int.natCast_nonneg _
      have hj1 : (j : Int) < (n2 : Int) := by omega
      obtain ⟨b, off, x, rfl, hx, hok, c0, c1, c2', c3'⟩ := hLr.get hlt
      have hok0 := hL.ok x (List.mem_of_getElem? hx)
      clear hx c0 c3'
      go_wp2_with fail
      go_still_tail 11, (by kernel_rfl)
      go_wp2_with fail
      refine (write_c (hD.keep0 ((Fr.refl _ _).drew)) x.pos x.bA x.bc x.b x.bn (hok.b.keep0 ((Fr.refl _ _).drew)) (by intro hp ad e; have hb0 := hok0.b; rw [e] at hb0; have := hb0.lt hp; omega)).mono ?_
      rintro e w6 ⟨rfl, h6, hf6⟩
      go_wp2_with fail
      go_roundg (n2 - (j + 1))
      case measure => omega
      case rel =>
        exact ⟨j + 1, by omega, rfl, by first | rfl | (go_num), ⟨⟨_, h6, hT.write _ _⟩, hfr.drew.trans hf6 (fun _ e => .inl e)⟩⟩
    · have hjn : j = n2 := by omega
      subst hjn
      have HT := Lib.hid hT
      clear hT
      have hbb : D.budget ≠ 0 := by rw [HT.out.budget]; decide
      go_wp2_with fail
      refine (cached_c hD).mono ?_
      rintro e w6 ⟨B6, c6, rfl, hV6, hc6, hB6, hf6⟩
      have hltD := hD.lt
      have hcl : D.cachedI.length ≤ 4096 := by
        have h1 : D.cachedI.length ≤ D.laid.length := by
          unfold Dev.cachedI Dev.cached
          rw [List.length_map]
          have := List.length_filter_le (fun i => ((D.late[i]?).join).isSome) (List.range D.laid.length)
          simpa using this
        have := HT.out.len
        omega
      generalize hcs : D.cachedI = cs at *
      have HCS := Lib.hid hcs
      clear hcs
      obtain ⟨m, hm⟩ : ∃ m, m = min cs.length n3 := ⟨_, rfl⟩
      go_wp2_with fail
      go_loopg [17, 18] m (fun kq v v2 wq => ∃ q : Nat, q ≤ m ∧ kq = m - q ∧ v = .bool (hitB k cs bs q) ∧ v2 = .int .i64 (q : Int) ∧ Fr F0 w6 wq)
      case atStart => exact ⟨0, by omega, rfl, rfl, rfl, Fr.refl _ _⟩
      case round =>
        obtain ⟨q, hq, rfl, rfl, rfl, hfq⟩ := hrel
        have hBq := hB.keep0 ((hf0.then0 hf6).then0 hfq)
        have hVq := hV6.keep0 hfq
        have hbl := HBL.out
        by_cases hqm : q < m
        · have hq0 : (0 : Int) ≤ (q : Int) := Int.natCast_nonneg _
          have hq1 : (q : Int) < (n3 : Int) := by omega
          have hq2 : (q : Int) < (cs.length : Int) := by omega
          have HQ := Lib.hid (hitB_succ k cs bs q)
          obtain ⟨ad3, rfl, hc3⟩ := hBq.cells (by simp; omega)
          obtain ⟨ad6, rfl, hc6'⟩ := hVq.cells (by simp; omega)
          obtain ⟨b, hb⟩ : ∃ b, bs[q]? = some b := ⟨bs[q]'(by omega), List.getElem?_eq_getElem _⟩
          obtain ⟨x, hx⟩ : ∃ x, cs[q]? = some x := ⟨cs[q]'(by omega), List.getElem?_eq_getElem _⟩
          have g3 : wr.cell? (ad3.add q) = some (.bool b) := hc3 q _ (by simp [hb])
          have g6 : wr.cell? (ad6.add q) = some (.int .i64 x) := hc6' q _ (by simp [hx])
          clear hc3 hc6' hbl
          generalize hh : hitB k cs bs q = h at *
          clear hh
          have hgb : bs.getD q false = b := by simp [List.getD, hb]
          rw [hgb, hx] at HQ
          clear hgb hb hx
          cases h with
          | true =>
            go_wp2_with fail
            go_roundg (m - (q + 1))
            case measure => omega
            case rel =>
              exact ⟨q + 1, by omega, rfl, by rw [HQ.out]; rfl, by first | rfl | (go_num), hfq⟩
          | false =>
            cases b with
            | false =>
              go_wp2_with fail
              go_roundg (m - (q + 1))
              case measure => omega
              case rel =>
                exact ⟨q + 1, by omega, rfl, by rw [HQ.out]; rfl, by first | rfl | (go_num), hfq⟩
            | true =>
              go_wp2_with fail
              go_roundg (m - (q + 1))
              case measure => omega
              case rel =>
                exact ⟨q + 1, by omega, rfl, by rw [HQ.out]; simp; rfl, by first | rfl | (go_num), hfq⟩
        · have hqe : q = m := by omega
          subst hqe
          have HM := Lib.hid hm
          have hfin : ¬ ((q : Int) < (cs.length : Int) ∧ (q : Int) < (n3 : Int)) := by omega
          have hnn : cs.length ≤ q ∨ bs.length ≤ q := by omega
          generalize hh : hitB k cs bs q = h at *
          have HH := Lib.hid hh
          clear hh
          have hD6 := (hD.keep0 hf6).keep0 hfq
          have hf06 := (hf0.then0 hf6).then0 hfq
          have hbl' : ∀ ad, A3 = some ad → 0 < bs.length → ad.block < w.heap.size := by
            intro ad e hp
            subst e
            obtain ⟨ad', e', hc⟩ := hB.cells (by simpa using hp)
            cases e'
            have h0 := hc 0 (.bool (bs[0]'hp)) (by simp [hp])
            have := World.block_lt_of_cell? w _ h0
            simpa [Addr.add] using this
          have stop : ∀ (Q : Prop), ((q : Int) < (cs.length : Int) → ¬ (q : Int) < (n3 : Int)) := by intro _ h1 h2; exact hfin ⟨h1, h2⟩
          by_cases hc1 : (q : Int) < (cs.length : Int)
          · have hc2 : ¬ (q : Int) < (n3 : Int) := fun h2 => hfin ⟨hc1, h2⟩
            clear hfin
            go_wp2_with fail
            refine (crash_c hD6 A3 c3 bs n3 HBL.out hBq (by intro ad e hp hd; have := hbl' ad e hp; rcases hd with h' | h' | h' <;> omega) (by omega)).mono ?_
            rintro e w7 ⟨rfl, h7, hf7⟩
            go_wp2_with fail
            refine (read_c h7 rfl k (by rw [Dev.crash_len, HT.out.len]; exact hk8)).mono ?_
            rintro e w8 ⟨b8, t8, rfl, hn8, hb8, hf8⟩
            have HB8 := Lib.hid hb8
            clear hb8
            go_wp2_with fail
            refine (cached_c (h7.keep0 hf8)).mono ?_
            rintro e w9 ⟨B9, c9, rfl, hV9, hc9, hB9, hf9⟩
            rw [Dev.crash_cached]
            clear hV9 hc9 hB9
            have hF9 : Fr F0 w w9 := ((hf06.trans hf7 (by intro i hi; refine .inr ?_; rcases hi with h' | h' | h' <;> omega)).then0 hf8).then0 hf9
            have HF := Lib.hid hF9
            have hA9 := hA.keep0 hF9
            have hb9 := hf9.keep0 HB8.out
            go_wp2_with fail
            cases h with
            | true =>
              clear hA9 hb9 hF9
              refine wp_region_free (S := F0) [false, false, false, false, false, false, false, false, true, false, false, false, false, false, false, false, false, false, false, false, false, false, false, false, false, false, false, false, false, false, false, false, false, false, false, false, false, false, false, false, false, false, false, false, false, false, false, false, false, false, false, false, false, false, false, false, false, false, false, false, false, false, false, false, false, false, false, false, false, false, false, false, false, false, false, false, false, false, false, false, false, false, false, false, false, false, false, false, false, false, false, false, false, false, false, false, false, false, false, false, false, false, false, false, false, false, false, false, false, false, false, false, false, false, false, false, false, false, false, false, false, false, false, false, false, false, false, false, false, true, true, true, true, true, true, true, true, true, true, true, true, true, true] [.eq (.bool true), .eq (.bool true), .eq (.bool true), .eq (.bool true), .eq undef, .eq undef, .eq undef, .eq undef, .eq undef, .eq undef, .eq undef, .eq undef, .eq (.bool true), .eq (.bool true), .eq (.bool true)] (by kernel_rfl) (by kernel_rfl) (by rfl) (fun us => ?steps) (fun us wz hG hall => ?fin)
              case steps =>
                simp only [fillL, Nat.reduceAdd]
                refine stepsHold.cons (fun wx hG hd K hK => ?_) ?_
                · rw [if_pos (wanted_none rfl)]
                  refine wp_value (w2 := wx) (v := .bool true) ?_ (hK _ _ rfl (Fr.refl _ _))
                  clear hd hG hK
                  go_simp
                refine stepsHold.cons (fun wx hG hd K hK => ?_) ?_
                · have h129 : us 129 = (.bool true) := deps_get hd 0 rfl rfl rfl rfl rfl
                  rw [if_pos (wanted_none rfl)]
                  refine wp_value (w2 := wx) (v := .bool true) ?_ (hK _ _ rfl (Fr.refl _ _))
                  clear hd hG hK
                  go_simp
                refine stepsHold.cons (fun wx hG hd K hK => ?_) ?_
                · have h130 : us 130 = (.bool true) := deps_get hd 0 rfl rfl rfl rfl rfl
                  rw [if_pos (wanted_yes rfl rfl rfl rfl h130)]
                  refine wp_value (w2 := wx) (v := .bool true) ?_ (hK _ _ rfl (Fr.refl _ _))
                  clear hd hG hK
                  go_simp
                refine stepsHold.cons (fun wx hG hd K hK => ?_) ?_
                · have h131 : us 131 = (.bool true) := deps_get hd 0 rfl rfl rfl rfl rfl
                  have h130 : us 130 = (.bool true) := deps_get hd 1 rfl rfl rfl rfl rfl
                  rw [if_pos (wanted_yes rfl rfl rfl rfl h130)]
                  refine wp_value (w2 := wx) (v := .bool true) ?_ (hK _ _ rfl (Fr.refl _ _))
                  clear hd hG hK
                  go_simp
                refine stepsHold.cons (fun wx hG hd K hK => ?_) ?_
                · have h132 : us 132 = (.bool true) := deps_get hd 0 rfl rfl rfl rfl rfl
                  rw [if_neg (wanted_no rfl rfl rfl rfl h132)]
                  exact hK _ _ rfl (Fr.refl _ _)
                refine stepsHold.cons (fun wx hG hd K hK => ?_) ?_
                · have h132 : us 132 = (.bool true) := deps_get hd 0 rfl rfl rfl rfl rfl
                  rw [if_neg (wanted_no rfl rfl rfl rfl h132)]
                  exact hK _ _ rfl (Fr.refl _ _)
                refine stepsHold.cons (fun wx hG hd K hK => ?_) ?_
                · have h134 : us 134 = (undef) := deps_get hd 0 rfl rfl rfl rfl rfl
                  have h132 : us 132 = (.bool true) := deps_get hd 1 rfl rfl rfl rfl rfl
                  rw [if_neg (wanted_no rfl rfl rfl rfl h132)]
                  exact hK _ _ rfl (Fr.refl _ _)
                refine stepsHold.cons (fun wx hG hd K hK => ?_) ?_
                · have h133 : us 133 = (undef) := deps_get hd 0 rfl rfl rfl rfl rfl
                  have h135 : us 135 = (undef) := deps_get hd 1 rfl rfl rfl rfl rfl
                  have h132 : us 132 = (.bool true) := deps_get hd 2 rfl rfl rfl rfl rfl
                  rw [if_neg (wanted_no rfl rfl rfl rfl h132)]
                  exact hK _ _ rfl (Fr.refl _ _)
                refine stepsHold.cons (fun wx hG hd K hK => ?_) ?_
                · have h136 : us 136 = (undef) := deps_get hd 0 rfl rfl rfl rfl rfl
                  have h132 : us 132 = (.bool true) := deps_get hd 1 rfl rfl rfl rfl rfl
                  rw [if_neg (wanted_no rfl rfl rfl rfl h132)]
                  exact hK _ _ rfl (Fr.refl _ _)
                refine stepsHold.cons (fun wx hG hd K hK => ?_) ?_
                · have h132 : us 132 = (.bool true) := deps_get hd 0 rfl rfl rfl rfl rfl
                  rw [if_neg (wanted_no rfl rfl rfl rfl h132)]
                  exact hK _ _ rfl (Fr.refl _ _)
                refine stepsHold.cons (fun wx hG hd K hK => ?_) ?_
                · have h138 : us 138 = (undef) := deps_get hd 0 rfl rfl rfl rfl rfl
                  have h132 : us 132 = (.bool true) := deps_get hd 1 rfl rfl rfl rfl rfl
                  rw [if_neg (wanted_no rfl rfl rfl rfl h132)]
                  exact hK _ _ rfl (Fr.refl _ _)
                refine stepsHold.cons (fun wx hG hd K hK => ?_) ?_
                · have h137 : us 137 = (undef) := deps_get hd 0 rfl rfl rfl rfl rfl
                  have h139 : us 139 = (undef) := deps_get hd 1 rfl rfl rfl rfl rfl
                  have h132 : us 132 = (.bool true) := deps_get hd 2 rfl rfl rfl rfl rfl
                  rw [if_neg (wanted_no rfl rfl rfl rfl h132)]
                  exact hK _ _ rfl (Fr.refl _ _)
                refine stepsHold.cons (fun wx hG hd K hK => ?_) ?_
                · have h132 : us 132 = (.bool true) := deps_get hd 0 rfl rfl rfl rfl rfl
                  have h140 : us 140 = (undef) := deps_get hd 1 rfl rfl rfl rfl rfl
                  have h130 : us 130 = (.bool true) := deps_get hd 2 rfl rfl rfl rfl rfl
                  rw [if_pos (wanted_yes rfl rfl rfl rfl h130)]
                  refine wp_value (w2 := wx) (v := .bool true) ?_ (hK _ _ rfl (Fr.refl _ _))
                  clear hd hG hK
                  go_simp
                refine stepsHold.cons (fun wx hG hd K hK => ?_) ?_
                · have h130 : us 130 = (.bool true) := deps_get hd 0 rfl rfl rfl rfl rfl
                  have h141 : us 141 = (.bool true) := deps_get hd 1 rfl rfl rfl rfl rfl
                  rw [if_pos (wanted_none rfl)]
                  refine wp_value (w2 := wx) (v := .bool true) ?_ (hK _ _ rfl (Fr.refl _ _))
                  clear hd hG hK
                  go_simp
                refine stepsHold.cons (fun wx hG hd K hK => ?_) ?_
                · have h142 : us 142 = (.bool true) := deps_get hd 0 rfl rfl rfl rfl rfl
                  rw [if_pos (wanted_none rfl)]
                  refine wp_value (w2 := wx) (v := .bool true) ?_ (hK _ _ rfl (Fr.refl _ _))
                  clear hd hG hK
                  go_simp
                exact stepsHold.nil
              case fin =>
                have h129 : us 129 = (.bool true) := all_get hall 0 rfl rfl rfl
                have h130 : us 130 = (.bool true) := all_get hall 1 rfl rfl rfl
                have h131 : us 131 = (.bool true) := all_get hall 2 rfl rfl rfl
                have h132 : us 132 = (.bool true) := all_get hall 3 rfl rfl rfl
                have h133 : us 133 = (undef) := all_get hall 4 rfl rfl rfl
                have h134 : us 134 = (undef) := all_get hall 5 rfl rfl rfl
                have h135 : us 135 = (undef) := all_get hall 6 rfl rfl rfl
                have h136 : us 136 = (undef) := all_get hall 7 rfl rfl rfl
                have h137 : us 137 = (undef) := all_get hall 8 rfl rfl rfl
                have h138 : us 138 = (undef) := all_get hall 9 rfl rfl rfl
                have h139 : us 139 = (undef) := all_get hall 10 rfl rfl rfl
                have h140 : us 140 = (undef) := all_get hall 11 rfl rfl rfl
                have h141 : us 141 = (.bool true) := all_get hall 12 rfl rfl rfl
                have h142 : us 142 = (.bool true) := all_get hall 13 rfl rfl rfl
                have h8 : us 8 = (.bool true) := all_get hall 14 rfl rfl rfl
                simp only [fillL, Nat.reduceAdd]
                clear hall
                simp only [h129, h130, h131, h132, h133, h134, h135, h136, h137, h138, h139, h140, h141, h142, h8]
                clear h129 h130 h131 h132 h133 h134 h135 h136 h137 h138 h139 h140 h141 h142 h8
                go_wp2
                go_ret
                exact ⟨rfl, HF.out.then0 hG⟩
            | false =>
              have hk7 := HT.out.kept (n := q) (by rw [HCS.out]; exact HH.out) (by rw [HCS.out]; exact hnn)
              rw [hk7] at hb9
              have hlx := HLEN.out
              have hC9 : BytesAt w9 (some ⟨b8, 0, none⟩) n xs := by
                have hh := (BytesAt.of_block (xs := pad64 xs) hb9).take n (by rw [pad64_len xs (by omega)]; omega)
                have : (pad64 xs).take n = xs := by rw [pad64, ← hlx, List.take_left']; rfl
                rwa [this] at hh
              have hn0 : (0 : Int) ≤ (n : Int) := Int.natCast_nonneg _
              have hn1 : (n : Int) ≤ 64 := by omega
              have HA9 := Lib.hid hA9
              have HC9 := Lib.hid hC9
              clear hA9 hb9 hF9 hC9 hk7 hlx
              refine wp_region_free (S := F0) [false, false, false, false, false, false, false, false, true, false, false, false, false, false, false, false, false, false, false, false, false, false, false, false, false, false, false, false, false, false, false, false, false, false, false, false, false, false, false, false, false, false, false, false, false, false, false, false, false, false, false, false, false, false, false, false, false, false, false, false, false, false, false, false, false, false, false, false, false, false, false, false, false, false, false, false, false, false, false, false, false, false, false, false, false, false, false, false, false, false, false, false, false, false, false, false, false, false, false, false, false, false, false, false, false, false, false, false, false, false, false, false, false, false, false, false, false, false, false, false, false, false, false, false, false, false, false, false, false, true, true, true, true, true, true, true, true, true, true, true, true, true, true] [.eq (.bool true), .eq (.bool true), .eq (.bool false), .eq (.bool false), .eq (.slice (some ⟨b8, 0, none⟩) 64 64), .eq (.slice A n c), .eq (.int .i64 n), .eq (.slice (some ⟨b8, 0, none⟩) n 64), .eq (.string (strOfNums xs)), .eq (.slice A n c), .eq (.string (strOfNums xs)), .eq (.bool true), .eq (.bool true), .eq (.bool true), .eq (.bool true)] (by kernel_rfl) (by kernel_rfl) (by rfl) (fun us => ?steps) (fun us wz hG hall => ?fin)
              case steps =>
                simp only [fillL, Nat.reduceAdd]
                refine stepsHold.cons (fun wx hG hd K hK => ?_) ?_
                · rw [if_pos (wanted_none rfl)]
                  refine wp_value (w2 := wx) (v := .bool true) ?_ (hK _ _ rfl (Fr.refl _ _))
                  clear hd hG hK
                  go_simp
                refine stepsHold.cons (fun wx hG hd K hK => ?_) ?_
                · have h129 : us 129 = (.bool true) := deps_get hd 0 rfl rfl rfl rfl rfl
                  rw [if_pos (wanted_none rfl)]
                  refine wp_value (w2 := wx) (v := .bool true) ?_ (hK _ _ rfl (Fr.refl _ _))
                  clear hd hG hK
                  go_simp
                refine stepsHold.cons (fun wx hG hd K hK => ?_) ?_
                · have h130 : us 130 = (.bool true) := deps_get hd 0 rfl rfl rfl rfl rfl
                  rw [if_pos (wanted_yes rfl rfl rfl rfl h130)]
                  refine wp_value (w2 := wx) (v := .bool false) ?_ (hK _ _ rfl (Fr.refl _ _))
                  clear hd hG hK
                  go_simp
                refine stepsHold.cons (fun wx hG hd K hK => ?_) ?_
                · have h131 : us 131 = (.bool false) := deps_get hd 0 rfl rfl rfl rfl rfl
                  have h130 : us 130 = (.bool true) := deps_get hd 1 rfl rfl rfl rfl rfl
                  rw [if_pos (wanted_yes rfl rfl rfl rfl h130)]
                  refine wp_value (w2 := wx) (v := .bool false) ?_ (hK _ _ rfl (Fr.refl _ _))
                  clear hd hG hK
                  go_simp
                refine stepsHold.cons (fun wx hG hd K hK => ?_) ?_
                · have h132 : us 132 = (.bool false) := deps_get hd 0 rfl rfl rfl rfl rfl
                  rw [if_pos (wanted_yes rfl rfl rfl rfl h132)]
                  refine wp_value (w2 := wx) (v := .slice (some ⟨b8, 0, none⟩) 64 64) ?_ (hK _ _ rfl (Fr.refl _ _))
                  clear hd hG hK
                  go_simp
                refine stepsHold.cons (fun wx hG hd K hK => ?_) ?_
                · have h132 : us 132 = (.bool false) := deps_get hd 0 rfl rfl rfl rfl rfl
                  rw [if_pos (wanted_yes rfl rfl rfl rfl h132)]
                  refine wp_value (w2 := wx) (v := .slice A n c) ?_ (hK _ _ rfl (Fr.refl _ _))
                  clear hd hG hK
                  go_simp
                refine stepsHold.cons (fun wx hG hd K hK => ?_) ?_
                · have h134 : us 134 = (.slice A n c) := deps_get hd 0 rfl rfl rfl rfl rfl
                  have h132 : us 132 = (.bool false) := deps_get hd 1 rfl rfl rfl rfl rfl
                  rw [if_pos (wanted_yes rfl rfl rfl rfl h132)]
                  refine wp_value (w2 := wx) (v := .int .i64 n) ?_ (hK _ _ rfl (Fr.refl _ _))
                  clear hd hG hK
                  go_simp
                refine stepsHold.cons (fun wx hG hd K hK => ?_) ?_
                · have h133 : us 133 = (.slice (some ⟨b8, 0, none⟩) 64 64) := deps_get hd 0 rfl rfl rfl rfl rfl
                  have h135 : us 135 = (.int .i64 n) := deps_get hd 1 rfl rfl rfl rfl rfl
                  have h132 : us 132 = (.bool false) := deps_get hd 2 rfl rfl rfl rfl rfl
                  rw [if_pos (wanted_yes rfl rfl rfl rfl h132)]
                  refine wp_value (w2 := wx) (v := .slice (some ⟨b8, 0, none⟩) n 64) ?_ (hK _ _ rfl (Fr.refl _ _))
                  clear hd hG hK
                  go_simp
                refine stepsHold.cons (fun wx hG hd K hK => ?_) ?_
                · have h136 : us 136 = (.slice (some ⟨b8, 0, none⟩) n 64) := deps_get hd 0 rfl rfl rfl rfl rfl
                  have h132 : us 132 = (.bool false) := deps_get hd 1 rfl rfl rfl rfl rfl
                  rw [if_pos (wanted_yes rfl rfl rfl rfl h132)]
                  have hr := conv_at (HC9.out.keep0 hG) und_bytes und_u8 und_string 64
                  refine wp_value (w2 := wx) (v := .string (strOfNums xs)) ?_ (hK _ _ rfl (Fr.refl _ _))
                  clear hd hK
                  go_simp
                refine stepsHold.cons (fun wx hG hd K hK => ?_) ?_
                · have h132 : us 132 = (.bool false) := deps_get hd 0 rfl rfl rfl rfl rfl
                  rw [if_pos (wanted_yes rfl rfl rfl rfl h132)]
                  refine wp_value (w2 := wx) (v := .slice A n c) ?_ (hK _ _ rfl (Fr.refl _ _))
                  clear hd hG hK
                  go_simp
                refine stepsHold.cons (fun wx hG hd K hK => ?_) ?_
                · have h138 : us 138 = (.slice A n c) := deps_get hd 0 rfl rfl rfl rfl rfl
                  have h132 : us 132 = (.bool false) := deps_get hd 1 rfl rfl rfl rfl rfl
                  rw [if_pos (wanted_yes rfl rfl rfl rfl h132)]
                  have hr := conv_at (HA9.out.keep0 hG) und_bytes und_u8 und_string c
                  refine wp_value (w2 := wx) (v := .string (strOfNums xs)) ?_ (hK _ _ rfl (Fr.refl _ _))
                  clear hd hK
                  go_simp
                refine stepsHold.cons (fun wx hG hd K hK => ?_) ?_
                · have h137 : us 137 = (.string (strOfNums xs)) := deps_get hd 0 rfl rfl rfl rfl rfl
                  have h139 : us 139 = (.string (strOfNums xs)) := deps_get hd 1 rfl rfl rfl rfl rfl
                  have h132 : us 132 = (.bool false) := deps_get hd 2 rfl rfl rfl rfl rfl
                  rw [if_pos (wanted_yes rfl rfl rfl rfl h132)]
                  refine wp_value (w2 := wx) (v := .bool true) ?_ (hK _ _ rfl (Fr.refl _ _))
                  clear hd hG hK
                  go_simp
                refine stepsHold.cons (fun wx hG hd K hK => ?_) ?_
                · have h132 : us 132 = (.bool false) := deps_get hd 0 rfl rfl rfl rfl rfl
                  have h140 : us 140 = (.bool true) := deps_get hd 1 rfl rfl rfl rfl rfl
                  have h130 : us 130 = (.bool true) := deps_get hd 2 rfl rfl rfl rfl rfl
                  rw [if_pos (wanted_yes rfl rfl rfl rfl h130)]
                  refine wp_value (w2 := wx) (v := .bool true) ?_ (hK _ _ rfl (Fr.refl _ _))
                  clear hd hG hK
                  go_simp
                refine stepsHold.cons (fun wx hG hd K hK => ?_) ?_
                · have h130 : us 130 = (.bool true) := deps_get hd 0 rfl rfl rfl rfl rfl
                  have h141 : us 141 = (.bool true) := deps_get hd 1 rfl rfl rfl rfl rfl
                  rw [if_pos (wanted_none rfl)]
                  refine wp_value (w2 := wx) (v := .bool true) ?_ (hK _ _ rfl (Fr.refl _ _))
                  clear hd hG hK
                  go_simp
                refine stepsHold.cons (fun wx hG hd K hK => ?_) ?_
                · have h142 : us 142 = (.bool true) := deps_get hd 0 rfl rfl rfl rfl rfl
                  rw [if_pos (wanted_none rfl)]
                  refine wp_value (w2 := wx) (v := .bool true) ?_ (hK _ _ rfl (Fr.refl _ _))
                  clear hd hG hK
                  go_simp
                exact stepsHold.nil
              case fin =>
                have h129 : us 129 = (.bool true) := all_get hall 0 rfl rfl rfl
                have h130 : us 130 = (.bool true) := all_get hall 1 rfl rfl rfl
                have h131 : us 131 = (.bool false) := all_get hall 2 rfl rfl rfl
                have h132 : us 132 = (.bool false) := all_get hall 3 rfl rfl rfl
                have h133 : us 133 = (.slice (some ⟨b8, 0, none⟩) 64 64) := all_get hall 4 rfl rfl rfl
                have h134 : us 134 = (.slice A n c) := all_get hall 5 rfl rfl rfl
                have h135 : us 135 = (.int .i64 n) := all_get hall 6 rfl rfl rfl
                have h136 : us 136 = (.slice (some ⟨b8, 0, none⟩) n 64) := all_get hall 7 rfl rfl rfl
                have h137 : us 137 = (.string (strOfNums xs)) := all_get hall 8 rfl rfl rfl
                have h138 : us 138 = (.slice A n c) := all_get hall 9 rfl rfl rfl
                have h139 : us 139 = (.string (strOfNums xs)) := all_get hall 10 rfl rfl rfl
                have h140 : us 140 = (.bool true) := all_get hall 11 rfl rfl rfl
                have h141 : us 141 = (.bool true) := all_get hall 12 rfl rfl rfl
                have h142 : us 142 = (.bool true) := all_get hall 13 rfl rfl rfl
                have h8 : us 8 = (.bool true) := all_get hall 14 rfl rfl rfl
                simp only [fillL, Nat.reduceAdd]
                clear hall
                simp only [h129, h130, h131, h132, h133, h134, h135, h136, h137, h138, h139, h140, h141, h142, h8]
                clear h129 h130 h131 h132 h133 h134 h135 h136 h137 h138 h139 h140 h141 h142 h8
                go_wp2
                go_ret
                exact ⟨rfl, HF.out.then0 hG⟩
          · have hc2 : ¬ (q : Int) < (cs.length : Int) := hc1
            clear hfin
            go_wp2_with fail
            refine (crash_c hD6 A3 c3 bs n3 HBL.out hBq (by intro ad e hp hd; have := hbl' ad e hp; rcases hd with h' | h' | h' <;> omega) (by omega)).mono ?_
            rintro e w7 ⟨rfl, h7, hf7⟩
            go_wp2_with fail
            refine (read_c h7 rfl k (by rw [Dev.crash_len, HT.out.len]; exact hk8)).mono ?_
            rintro e w8 ⟨b8, t8, rfl, hn8, hb8, hf8⟩
            have HB8 := Lib.hid hb8
            clear hb8
            go_wp2_with fail
            refine (cached_c (h7.keep0 hf8)).mono ?_
            rintro e w9 ⟨B9, c9, rfl, hV9, hc9, hB9, hf9⟩
            rw [Dev.crash_cached]
            clear hV9 hc9 hB9
            have hF9 : Fr F0 w w9 := ((hf06.trans hf7 (by intro i hi; refine .inr ?_; rcases hi with h' | h' | h' <;> omega)).then0 hf8).then0 hf9
            have HF := Lib.hid hF9
            have hA9 := hA.keep0 hF9
            have hb9 := hf9.keep0 HB8.out
            go_wp2_with fail
            cases h with
            | true =>
              clear hA9 hb9 hF9
              refine wp_region_free (S := F0) [false, false, false, false, false, false, false, false, true, false, false, false, false, false, false, false, false, false, false, false, false, false, false, false, false, false, false, false, false, false, false, false, false, false, false, false, false, false, false, false, false, false, false, false, false, false, false, false, false, false, false, false, false, false, false, false, false, false, false, false, false, false, false, false, false, false, false, false, false, false, false, false, false, false, false, false, false, false, false, false, false, false, false, false, false, false, false, false, false, false, false, false, false, false, false, false, false, false, false, false, false, false, false, false, false, false, false, false, false, false, false, false, false, false, false, false, false, false, false, false, false, false, false, false, false, false, false, false, false, true, true, true, true, true, true, true, true, true, true, true, true, true, true] [.eq (.bool true), .eq (.bool true), .eq (.bool true), .eq (.bool true), .eq undef, .eq undef, .eq undef, .eq undef, .eq undef, .eq undef, .eq undef, .eq undef, .eq (.bool true), .eq (.bool true), .eq (.bool true)] (by kernel_rfl) (by kernel_rfl) (by rfl) (fun us => ?steps) (fun us wz hG hall => ?fin)
              case steps =>
                simp only [fillL, Nat.reduceAdd]
                refine stepsHold.cons (fun wx hG hd K hK => ?_) ?_
                · rw [if_pos (wanted_none rfl)]
                  refine wp_value (w2 := wx) (v := .bool true) ?_ (hK _ _ rfl (Fr.refl _ _))
                  clear hd hG hK
                  go_simp
                refine stepsHold.cons (fun wx hG hd K hK => ?_) ?_
                · have h129 : us 129 = (.bool true) := deps_get hd 0 rfl rfl rfl rfl rfl
                  rw [if_pos (wanted_none rfl)]
                  refine wp_value (w2 := wx) (v := .bool true) ?_ (hK _ _ rfl (Fr.refl _ _))
                  clear hd hG hK
                  go_simp
                refine stepsHold.cons (fun wx hG hd K hK => ?_) ?_
                · have h130 : us 130 = (.bool true) := deps_get hd 0 rfl rfl rfl rfl rfl
                  rw [if_pos (wanted_yes rfl rfl rfl rfl h130)]
                  refine wp_value (w2 := wx) (v := .bool true) ?_ (hK _ _ rfl (Fr.refl _ _))
                  clear hd hG hK
                  go_simp
                refine stepsHold.cons (fun wx hG hd K hK => ?_) ?_
                · have h131 : us 131 = (.bool true) := deps_get hd 0 rfl rfl rfl rfl rfl
                  have h130 : us 130 = (.bool true) := deps_get hd 1 rfl rfl rfl rfl rfl
                  rw [if_pos (wanted_yes rfl rfl rfl rfl h130)]
                  refine wp_value (w2 := wx) (v := .bool true) ?_ (hK _ _ rfl (Fr.refl _ _))
                  clear hd hG hK
                  go_simp
                refine stepsHold.cons (fun wx hG hd K hK => ?_) ?_
                · have h132 : us 132 = (.bool true) := deps_get hd 0 rfl rfl rfl rfl rfl
                  rw [if_neg (wanted_no rfl rfl rfl rfl h132)]
                  exact hK _ _ rfl (Fr.refl _ _)
                refine stepsHold.cons (fun wx hG hd K hK => ?_) ?_
                · have h132 : us 132 = (.bool true) := deps_get hd 0 rfl rfl rfl rfl rfl
                  rw [if_neg (wanted_no rfl rfl rfl rfl h132)]
                  exact hK _ _ rfl (Fr.refl _ _)
                refine stepsHold.cons (fun wx hG hd K hK => ?_) ?_
                · have h134 : us 134 = (undef) := deps_get hd 0 rfl rfl rfl rfl rfl
                  have h132 : us 132 = (.bool true) := deps_get hd 1 rfl rfl rfl rfl rfl
                  rw [if_neg (wanted_no rfl rfl rfl rfl h132)]
                  exact hK _ _ rfl (Fr.refl _ _)
                refine stepsHold.cons (fun wx hG hd K hK => ?_) ?_
                · have h133 : us 133 = (undef) := deps_get hd 0 rfl rfl rfl rfl rfl
                  have h135 : us 135 = (undef) := deps_get hd 1 rfl rfl rfl rfl rfl
                  have h132 : us 132 = (.bool true) := deps_get hd 2 rfl rfl rfl rfl rfl
                  rw [if_neg (wanted_no rfl rfl rfl rfl h132)]
                  exact hK _ _ rfl (Fr.refl _ _)
                refine stepsHold.cons (fun wx hG hd K hK => ?_) ?_
                · have h136 : us 136 = (undef) := deps_get hd 0 rfl rfl rfl rfl rfl
                  have h132 : us 132 = (.bool true) := deps_get hd 1 rfl rfl rfl rfl rfl
                  rw [if_neg (wanted_no rfl rfl rfl rfl h132)]
                  exact hK _ _ rfl (Fr.refl _ _)
                refine stepsHold.cons (fun wx hG hd K hK => ?_) ?_
                · have h132 : us 132 = (.bool true) := deps_get hd 0 rfl rfl rfl rfl rfl
                  rw [if_neg (wanted_no rfl rfl rfl rfl h132)]
                  exact hK _ _ rfl (Fr.refl _ _)
                refine stepsHold.cons (fun wx hG hd K hK => ?_) ?_
                · have h138 : us 138 = (undef) := deps_get hd 0 rfl rfl rfl rfl rfl
                  have h132 : us 132 = (.bool true) := deps_get hd 1 rfl rfl rfl rfl rfl
                  rw [if_neg (wanted_no rfl rfl rfl rfl h132)]
                  exact hK _ _ rfl (Fr.refl _ _)
                refine stepsHold.cons (fun wx hG hd K hK => ?_) ?_
                · have h137 : us 137 = (undef) := deps_get hd 0 rfl rfl rfl rfl rfl
                  have h139 : us 139 = (undef) := deps_get hd 1 rfl rfl rfl rfl rfl
                  have h132 : us 132 = (.bool true) := deps_get hd 2 rfl rfl rfl rfl rfl
                  rw [if_neg (wanted_no rfl rfl rfl rfl h132)]
                  exact hK _ _ rfl (Fr.refl _ _)
                refine stepsHold.cons (fun wx hG hd K hK => ?_) ?_
                · have h132 : us 132 = (.bool true) := deps_get hd 0 rfl rfl rfl rfl rfl
                  have h140 : us 140 = (undef) := deps_get hd 1 rfl rfl rfl rfl rfl
                  have h130 : us 130 = (.bool true) := deps_get hd 2 rfl rfl rfl rfl rfl
                  rw [if_pos (wanted_yes rfl rfl rfl rfl h130)]
                  refine wp_value (w2 := wx) (v := .bool true) ?_ (hK _ _ rfl (Fr.refl _ _))
                  clear hd hG hK
                  go_simp
                refine stepsHold.cons (fun wx hG hd K hK => ?_) ?_
                · have h130 : us 130 = (.bool true) := deps_get hd 0 rfl rfl rfl rfl rfl
                  have h141 : us 141 = (.bool true) := deps_get hd 1 rfl rfl rfl rfl rfl
                  rw [if_pos (wanted_none rfl)]
                  refine wp_value (w2 := wx) (v := .bool true) ?_ (hK _ _ rfl (Fr.refl _ _))
                  clear hd hG hK
                  go_simp
                refine stepsHold.cons (fun wx hG hd K hK => ?_) ?_
                · have h142 : us 142 = (.bool true) := deps_get hd 0 rfl rfl rfl rfl rfl
                  rw [if_pos (wanted_none rfl)]
                  refine wp_value (w2 := wx) (v := .bool true) ?_ (hK _ _ rfl (Fr.refl _ _))
                  clear hd hG hK
                  go_simp
                exact stepsHold.nil
              case fin =>
                have h129 : us 129 = (.bool true) := all_get hall 0 rfl rfl rfl
                have h130 : us 130 = (.bool true) := all_get hall 1 rfl rfl rfl
                have h131 : us 131 = (.bool true) := all_get hall 2 rfl rfl rfl
                have h132 : us 132 = (.bool true) := all_get hall 3 rfl rfl rfl
                have h133 : us 133 = (undef) := all_get hall 4 rfl rfl rfl
                have h134 : us 134 = (undef) := all_get hall 5 rfl rfl rfl
                have h135 : us 135 = (undef) := all_get hall 6 rfl rfl rfl
                have h136 : us 136 = (undef) := all_get hall 7 rfl rfl rfl
                have h137 : us 137 = (undef) := all_get hall 8 rfl rfl rfl
                have h138 : us 138 = (undef) := all_get hall 9 rfl rfl rfl
                have h139 : us 139 = (undef) := all_get hall 10 rfl rfl rfl
                have h140 : us 140 = (undef) := all_get hall 11 rfl rfl rfl
                have h141 : us 141 = (.bool true) := all_get hall 12 rfl rfl rfl
                have h142 : us 142 = (.bool true) := all_get hall 13 rfl rfl rfl
                have h8 : us 8 = (.bool true) := all_get hall 14 rfl rfl rfl
                simp only [fillL, Nat.reduceAdd]
                clear hall
                simp only [h129, h130, h131, h132, h133, h134, h135, h136, h137, h138, h139, h140, h141, h142, h8]
                clear h129 h130 h131 h132 h133 h134 h135 h136 h137 h138 h139 h140 h141 h142 h8
                go_wp2
                go_ret
                exact ⟨rfl, HF.out.then0 hG⟩
            | false =>
              have hk7 := HT.out.kept (n := q) (by rw [HCS.out]; exact HH.out) (by rw [HCS.out]; exact hnn)
              rw [hk7] at hb9
              have hlx := HLEN.out
              have hC9 : BytesAt w9 (some ⟨b8, 0, none⟩) n xs := by
                have hh := (BytesAt.of_block (xs := pad64 xs) hb9).take n (by rw [pad64_len xs (by omega)]; omega)
                have : (pad64 xs).take n = xs := by rw [pad64, ← hlx, List.take_left']; rfl
                rwa [this] at hh
              have hn0 : (0 : Int) ≤ (n : Int) := Int.natCast_nonneg _
              have hn1 : (n : Int) ≤ 64 := by omega
              have HA9 := Lib.hid hA9
              have HC9 := Lib.hid hC9
              clear hA9 hb9 hF9 hC9 hk7 hlx
              refine wp_region_free (S := F0) [false, false, false, false, false, false, false, false, true, false, false, false, false, false, false, false, false, false, false, false, false, false, false, false, false, false, false, false, false, false, false, false, false, false, false, false, false, false, false, false, false, false, false, false, false, false, false, false, false, false, false, false, false, false, false, false, false, false, false, false, false, false, false, false, false, false, false, false, false, false, false, false, false, false, false, false, false, false, false, false, false, false, false, false, false, false, false, false, false, false, false, false, false, false, false, false, false, false, false, false, false, false, false, false, false, false, false, false, false, false, false, false, false, false, false, false, false, false, false, false, false, false, false, false, false, false, false, false, false, true, true, true, true, true, true, true, true, true, true, true, true, true, true] [.eq (.bool true), .eq (.bool true), .eq (.bool false), .eq (.bool false), .eq (.slice (some ⟨b8, 0, none⟩) 64 64), .eq (.slice A n c), .eq (.int .i64 n), .eq (.slice (some ⟨b8, 0, none⟩) n 64), .eq (.string (strOfNums xs)), .eq (.slice A n c), .eq (.string (strOfNums xs)), .eq (.bool true), .eq (.bool true), .eq (.bool true), .eq (.bool true)] (by kernel_rfl) (by kernel_rfl) (by rfl) (fun us => ?steps) (fun us wz hG hall => ?fin)
              case steps =>
                simp only [fillL, Nat.reduceAdd]
                refine stepsHold.cons (fun wx hG hd K hK => ?_) ?_
                · rw [if_pos (wanted_none rfl)]
                  refine wp_value (w2 := wx) (v := .bool true) ?_ (hK _ _ rfl (Fr.refl _ _))
                  clear hd hG hK
                  go_simp
                refine stepsHold.cons (fun wx hG hd K hK => ?_) ?_
                · have h129 : us 129 = (.bool true) := deps_get hd 0 rfl rfl rfl rfl rfl
                  rw [if_pos (wanted_none rfl)]
                  refine wp_value (w2 := wx) (v := .bool true) ?_ (hK _ _ rfl (Fr.refl _ _))
                  clear hd hG hK
                  go_simp
                refine stepsHold.cons (fun wx hG hd K hK => ?_) ?_
                · have h130 : us 130 = (.bool true) := deps_get hd 0 rfl rfl rfl rfl rfl
                  rw [if_pos (wanted_yes rfl rfl rfl rfl h130)]
                  refine wp_value (w2 := wx) (v := .bool false) ?_ (hK _ _ rfl (Fr.refl _ _))
                  clear hd hG hK
                  go_simp
                refine stepsHold.cons (fun wx hG hd K hK => ?_) ?_
                · have h131 : us 131 = (.bool false) := deps_get hd 0 rfl rfl rfl rfl rfl
                  have h130 : us 130 = (.bool true) := deps_get hd 1 rfl rfl rfl rfl rfl
                  rw [if_pos (wanted_yes rfl rfl rfl rfl h130)]
                  refine wp_value (w2 := wx) (v := .bool false) ?_ (hK _ _ rfl (Fr.refl _ _))
                  clear hd hG hK
                  go_simp
                refine stepsHold.cons (fun wx hG hd K hK => ?_) ?_
                · have h132 : us 132 = (.bool false) := deps_get hd 0 rfl rfl rfl rfl rfl
                  rw [if_pos (wanted_yes rfl rfl rfl rfl h132)]
                  refine wp_value (w2 := wx) (v := .slice (some ⟨b8, 0, none⟩) 64 64) ?_ (hK _ _ rfl (Fr.refl _ _))
                  clear hd hG hK
                  go_simp
                refine stepsHold.cons (fun wx hG hd K hK => ?_) ?_
                · have h132 : us 132 = (.bool false) := deps_get hd 0 rfl rfl rfl rfl rfl
                  rw [if_pos (wanted_yes rfl rfl rfl rfl h132)]
                  refine wp_value (w2 := wx) (v := .slice A n c) ?_ (hK _ _ rfl (Fr.refl _ _))
                  clear hd hG hK
                  go_simp
                refine stepsHold.cons (fun wx hG hd K hK => ?_) ?_
                · have h134 : us 134 = (.slice A n c) := deps_get hd 0 rfl rfl rfl rfl rfl
                  have h132 : us 132 = (.bool false) := deps_get hd 1 rfl rfl rfl rfl rfl
                  rw [if_pos (wanted_yes rfl rfl rfl rfl h132)]
                  refine wp_value (w2 := wx) (v := .int .i64 n) ?_ (hK _ _ rfl (Fr.refl _ _))
                  clear hd hG hK
                  go_simp
                refine stepsHold.cons (fun wx hG hd K hK => ?_) ?_
                · have h133 : us 133 = (.slice (some ⟨b8, 0, none⟩) 64 64) := deps_get hd 0 rfl rfl rfl rfl rfl
                  have h135 : us 135 = (.int .i64 n) := deps_get hd 1 rfl rfl rfl rfl rfl
                  have h132 : us 132 = (.bool false) := deps_get hd 2 rfl rfl rfl rfl rfl
                  rw [if_pos (wanted_yes rfl rfl rfl rfl h132)]
                  refine wp_value (w2 := wx) (v := .slice (some ⟨b8, 0, none⟩) n 64) ?_ (hK _ _ rfl (Fr.refl _ _))
                  clear hd hG hK
                  go_simp
                refine stepsHold.cons (fun wx hG hd K hK => ?_) ?_
                · have h136 : us 136 = (.slice (some ⟨b8, 0, none⟩) n 64) := deps_get hd 0 rfl rfl rfl rfl rfl
                  have h132 : us 132 = (.bool false) := deps_get hd 1 rfl rfl rfl rfl rfl
                  rw [if_pos (wanted_yes rfl rfl rfl rfl h132)]
                  have hr := conv_at (HC9.out.keep0 hG) und_bytes und_u8 und_string 64
                  refine wp_value (w2 := wx) (v := .string (strOfNums xs)) ?_ (hK _ _ rfl (Fr.refl _ _))
                  clear hd hK
                  go_simp
                refine stepsHold.cons (fun wx hG hd K hK => ?_) ?_
                · have h132 : us 132 = (.bool false) := deps_get hd 0 rfl rfl rfl rfl rfl
                  rw [if_pos (wanted_yes rfl rfl rfl rfl h132)]
                  refine wp_value (w2 := wx) (v := .slice A n c) ?_ (hK _ _ rfl (Fr.refl _ _))
                  clear hd hG hK
                  go_simp
                refine stepsHold.cons (fun wx hG hd K hK => ?_) ?_
                · have h138 : us 138 = (.slice A n c) := deps_get hd 0 rfl rfl rfl rfl rfl
                  have h132 : us 132 = (.bool false) := deps_get hd 1 rfl rfl rfl rfl rfl
                  rw [if_pos (wanted_yes rfl rfl rfl rfl h132)]
                  have hr := conv_at (HA9.out.keep0 hG) und_bytes und_u8 und_string c
                  refine wp_value (w2 := wx) (v := .string (strOfNums xs)) ?_ (hK _ _ rfl (Fr.refl _ _))
                  clear hd hK
                  go_simp
                refine stepsHold.cons (fun wx hG hd K hK => ?_) ?_
                · have h137 : us 137 = (.string (strOfNums xs)) := deps_get hd 0 rfl rfl rfl rfl rfl
                  have h139 : us 139 = (.string (strOfNums xs)) := deps_get hd 1 rfl rfl rfl rfl rfl
                  have h132 : us 132 = (.bool false) := deps_get hd 2 rfl rfl rfl rfl rfl
                  rw [if_pos (wanted_yes rfl rfl rfl rfl h132)]
                  refine wp_value (w2 := wx) (v := .bool true) ?_ (hK _ _ rfl (Fr.refl _ _))
                  clear hd hG hK
                  go_simp
                refine stepsHold.cons (fun wx hG hd K hK => ?_) ?_
                · have h132 : us 132 = (.bool false) := deps_get hd 0 rfl rfl rfl rfl rfl
                  have h140 : us 140 = (.bool true) := deps_get hd 1 rfl rfl rfl rfl rfl
                  have h130 : us 130 = (.bool true) := deps_get hd 2 rfl rfl rfl rfl rfl
                  rw [if_pos (wanted_yes rfl rfl rfl rfl h130)]
                  refine wp_value (w2 := wx) (v := .bool true) ?_ (hK _ _ rfl (Fr.refl _ _))
                  clear hd hG hK
                  go_simp
                refine stepsHold.cons (fun wx hG hd K hK => ?_) ?_
                · have h130 : us 130 = (.bool true) := deps_get hd 0 rfl rfl rfl rfl rfl
                  have h141 : us 141 = (.bool true) := deps_get hd 1 rfl rfl rfl rfl rfl
                  rw [if_pos (wanted_none rfl)]
                  refine wp_value (w2 := wx) (v := .bool true) ?_ (hK _ _ rfl (Fr.refl _ _))
                  clear hd hG hK
                  go_simp
                refine stepsHold.cons (fun wx hG hd K hK => ?_) ?_
                · have h142 : us 142 = (.bool true) := deps_get hd 0 rfl rfl rfl rfl rfl
                  rw [if_pos (wanted_none rfl)]
                  refine wp_value (w2 := wx) (v := .bool true) ?_ (hK _ _ rfl (Fr.refl _ _))
                  clear hd hG hK
                  go_simp
                exact stepsHold.nil
              case fin =>
                have h129 : us 129 = (.bool true) := all_get hall 0 rfl rfl rfl
                have h130 : us 130 = (.bool true) := all_get hall 1 rfl rfl rfl
                have h131 : us 131 = (.bool false) := all_get hall 2 rfl rfl rfl
                have h132 : us 132 = (.bool false) := all_get hall 3 rfl rfl rfl
                have h133 : us 133 = (.slice (some ⟨b8, 0, none⟩) 64 64) := all_get hall 4 rfl rfl rfl
                have h134 : us 134 = (.slice A n c) := all_get hall 5 rfl rfl rfl
                have h135 : us 135 = (.int .i64 n) := all_get hall 6 rfl rfl rfl
                have h136 : us 136 = (.slice (some ⟨b8, 0, none⟩) n 64) := all_get hall 7 rfl rfl rfl
                have h137 : us 137 = (.string (strOfNums xs)) := all_get hall 8 rfl rfl rfl
                have h138 : us 138 = (.slice A n c) := all_get hall 9 rfl rfl rfl
                have h139 : us 139 = (.string (strOfNums xs)) := all_get hall 10 rfl rfl rfl
                have h140 : us 140 = (.bool true) := all_get hall 11 rfl rfl rfl
                have h141 : us 141 = (.bool true) := all_get hall 12 rfl rfl rfl
                have h142 : us 142 = (.bool true) := all_get hall 13 rfl rfl rfl
                have h8 : us 8 = (.bool true) := all_get hall 14 rfl rfl rfl
                simp only [fillL, Nat.reduceAdd]
                clear hall
                simp only [h129, h130, h131, h132, h133, h134, h135, h136, h137, h138, h139, h140, h141, h142, h8]
                clear h129 h130 h131 h132 h133 h134 h135 h136 h137 h138 h139 h140 h141 h142 h8
                go_wp2
                go_ret
                exact ⟨rfl, HF.out.then0 hG⟩
end
end Go.Proofs.Ythepadcjpkcknaa
