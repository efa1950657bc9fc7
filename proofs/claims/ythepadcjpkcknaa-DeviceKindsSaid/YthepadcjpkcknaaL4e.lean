/-
  DeviceKinds: the walk. Conditions: none.
-/
import Derived.Test.YthepadcjpkcknaaL4a
import Derived.Test.YthepadcjpkcknaaDevX
set_option linter.unusedVariables false
set_option linter.unusedSimpArgs false
namespace Go.Proofs.Ythepadcjpkcknaa
open Go.RowKit

/-- A device of two sectors, one of which may be cached. -/
structure One (k : Nat) (L : List (List Int)) (v : Option (List Int)) (D : Dev) : Prop where
  gone : D.gone = false
  budget : D.budget = -1
  laid : D.laid = L
  two : L.length = 2
  late : D.late = (List.replicate 2 none).set k v

theorem One.start (k : Nat) : One k (Dev.new 2).laid none (Dev.new 2) := by
  refine ⟨rfl, rfl, rfl, by simp [Dev.new], ?_⟩
  show List.replicate 2 none = _
  exact (List.set_eq_of_getElem? k).symm
where
  List.set_eq_of_getElem? (k : Nat) : (List.replicate 2 (none : Option (List Int))).set k none = List.replicate 2 none := by
    apply List.ext_getElem?
    intro i
    rw [List.getElem?_set, List.getElem?_replicate]
    split
    · subst_vars
      split <;> simp_all
    · rfl
theorem One.more {k : Nat} {L : List (List Int)} {v : Option (List Int)} {D : Dev} (h : One k L v D) (hk : k < 2) (x : Int) : D.writeE k [x] = 0 ∧ One k L (some (pad64 [x])) (D.write k [x]) := by
  have hb : D.budget ≠ 0 := by rw [h.budget]; decide
  obtain ⟨e1, e2⟩ := Dev.write_ok h.gone hb (i := k) (by rw [h.laid, h.two]; exact hk) (xs := [x]) (by simp)
  refine ⟨e1, ?_⟩
  rw [e2]
  refine ⟨Dev.spend_gone h.gone hb, Dev.spend_neg h.budget, by show D.spend.laid = L; rw [Dev.spend_laid, h.laid], h.two, ?_⟩
  show (D.spend.late).set k _ = _
  rw [Dev.spend_late, h.late, List.set_set]
theorem One.at_some {k : Nat} {L : List (List Int)} {p : List Int} {D : Dev} (h : One k L (some p) D) (hk : k < 2) : D.at k = p := Dev.at_late (by rw [h.late, List.getElem?_set_self (by simpa using hk)])
theorem One.at_none {k : Nat} {L : List (List Int)} {D : Dev} (h : One k L none D) (hk : k < 2) : D.at k = L.getD k [] := by
  rw [Dev.at_laid (by rw [h.late, List.getElem?_set_self (by simpa using hk)]), h.laid]
theorem One.flush {k : Nat} {L : List (List Int)} {v : Option (List Int)} {D : Dev} (h : One k L v D) (hk : k < 2) : D.flushE = 0 ∧ ∃ L', L'.getD k [] = D.at k ∧ One k L' none D.flush := by
  have hb : D.budget ≠ 0 := by rw [h.budget]; decide
  obtain ⟨e1, e2⟩ := Dev.flush_ok h.gone hb
  refine ⟨e1, (List.range D.spend.laid.length).map D.spend.at, ?_, ?_⟩
  · have hl : D.spend.laid.length = 2 := by rw [Dev.spend_laid, h.laid, h.two]
    rw [hl, ← Dev.spend_at]
    simp [List.getD, hk]
  · rw [e2]
    refine ⟨Dev.spend_gone h.gone hb, Dev.spend_neg h.budget, rfl, by simp [Dev.spend_laid, h.laid, h.two], ?_⟩
    show D.spend.late.map (fun _ => none) = _
    rw [Dev.spend_late, h.late, One.start.List.set_eq_of_getElem? k]
    apply List.ext_getElem?
    intro i
    rw [List.getElem?_map, List.getElem?_set, List.getElem?_replicate]
    split
    · subst_vars; split <;> simp_all
    · split <;> simp_all
/-- What stands behind a crash. -/
def pick (v : Option (List Int)) (keep : List Bool) (d : List Int) : List Int :=
  match v, keep with
  | some p, true :: _ => p
  | _, _ => d
theorem One.crash {k : Nat} {L : List (List Int)} {v : Option (List Int)} {D : Dev} (h : One k L v D) (hk : k < 2) (keep : List Bool) :
    (D.crash keep).at k = pick v keep (L.getD k []) := by
  have hl : D.laid.length = 2 := by rw [h.laid, h.two]
  have hc : D.cached = (match v with | some _ => [k] | none => []) := by
    unfold Dev.cached
    rw [hl, h.late]
    have : k = 0 ∨ k = 1 := by omega
    rcases this with rfl | rfl <;> cases v <;> rfl
  rw [Dev.crash_at, hc, h.laid]
  cases v with
  | none => cases keep <;> rfl
  | some p =>
    have hat : D.at k = p := h.at_some hk
    cases keep with
    | nil => rfl
    | cons b bs =>
      cases b with
      | false => simp [layKept, pick]
      | true =>
        simp only [layKept, if_true, hat]
        have : k < L.length := by rw [h.two]; exact hk
        simp [List.getD, this, pick]

/-- What the loops keep: behind j writes of xs. -/
structure KindAt (k : Nat) (L : List (List Int)) (xs : List Int) (db lb mb : Nat) (w0 : World) (j : Nat) (wr : World) : Prop where
  ex : ∃ D, DevAt Try.prog 3 wr db lb mb D ∧ One k L (if j = 0 then none else some (pad64 [xs.getD (j - 1) 0])) D
  fr : Fr (Dv db lb mb) w0 wr

section
variable {w : World}
/-- One write of a loop. -/
theorem kind_step {k : Nat} {L : List (List Int)} {xs : List Int} {db lb mb : Nat} {w0 wr : World} {j : Nat} (h : KindAt k L xs db lb mb w0 j wr) (hk : k < 2) (x : Int) (hx : xs.getD j 0 = x) (c : Nat) :
    Calls Try.prog 11 #[.pointer (some ⟨db, 0, none⟩), .int .i64 (k : Int), .slice (some ⟨wr.heap.size, 0, none⟩) 1 c] (wr.alloc (.cells #[.int .u8 x] 5)) fun e w' => e = .returned (.int .i64 0) ∧ KindAt k L xs db lb mb w0 (j + 1) w' := by
  obtain ⟨⟨D, hD, hT⟩, hfr⟩ := h
  have hlt := hD.lt
  have hb1 : (wr.alloc (.cells #[.int .u8 x] 5)).heap[wr.heap.size]? = some (.cells (([x] : List Int).map (Value.int .u8)).toArray 5 (0, 0)) := alloc_at rfl _
  refine (write_c (hD.keep0 ((Fr.refl _ _).alloc _)) k _ c [x] 1 (BytesAt.of_block hb1) (by intro _ ad e; cases e; simp; omega)).mono ?_
  rintro e w4 ⟨rfl, h4, hf4⟩
  obtain ⟨e1, e2⟩ := hT.more hk x
  refine ⟨by rw [e1], ⟨_, h4, ?_⟩, (hfr.alloc _).trans hf4 (fun _ e => .inl e)⟩
  rw [if_neg (by omega), show j + 1 - 1 = j by omega, hx]
  exact e2

set_option maxRecDepth 100000 in
set_option maxHeartbeats 2000000 in
theorem kinds_walk (A : Option Addr) (n c : Nat) (xs : List Int) (A2 : Option Addr) (n2 c2 : Nat) (ys : List Int) (at_ : Int) (A3 : Option Addr) (n3 c3 : Nat) (bs : List Bool)
    (hA : BytesAt w A n xs) (hA2 : BytesAt w A2 n2 ys) (hB : ValsAt w A3 (bs.map Value.bool)) (hbl : bs.length = n3) (hn : n ≤ 9223372036854775807) (hn2 : n2 ≤ 9223372036854775807) (hn3 : n3 ≤ 9223372036854775807) :
    Calls Try.prog 6 #[.slice A n c, .slice A2 n2 c2, .int .i64 at_, .slice A3 n3 c3] w fun e w' => e = .returned (.bool true) ∧ Fr F0 w w' := by
  by_cases hbig : 20 < n
  · have hbig' : (20 : Int) < (n : Int) := by omega
    go_enter Try.func6, Try.ntmps6
    go_wp2_with (go_at_call 9; refine (awake_c _).mono ?_; rintro e w1 ⟨rfl, hf1⟩)
    go_ret
    exact ⟨rfl, hf1⟩
  have hbig' : ¬ (20 : Int) < (n : Int) := by omega
  by_cases hbig2 : 20 < n2
  · have hbig2' : (20 : Int) < (n2 : Int) := by omega
    go_enter Try.func6, Try.ntmps6
    go_wp2_with (go_at_call 9; refine (awake_c _).mono ?_; rintro e w1 ⟨rfl, hf1⟩)
    go_ret
    exact ⟨rfl, hf1⟩
  have hbig2' : ¬ (20 : Int) < (n2 : Int) := by omega
  by_cases hbig3 : 40 < n3
  · have hbig3' : (40 : Int) < (n3 : Int) := by omega
    go_enter Try.func6, Try.ntmps6
    go_wp2_with (go_at_call 9; refine (awake_c _).mono ?_; rintro e w1 ⟨rfl, hf1⟩)
    go_ret
    exact ⟨rfl, hf1⟩
  have hbig3' : ¬ (40 : Int) < (n3 : Int) := by omega
  obtain ⟨k, hk⟩ : ∃ k : Nat, at_ % 2 = (k : Int) := ⟨(at_ % 2).toNat, by omega⟩
  have hk2 : k < 2 := by omega
  have hband : bits BinOp.and IntKind.i64 at_ 1 = (k : Int) := by rw [← hk]; exact i64_and at_ 1 (by decide)
  have HLEN := Lib.hid hA.len
  have HLEN2 := Lib.hid hA2.len
  have HLEN3 := Lib.hid hbl
  clear hk hbl
  go_enter Try.func6, Try.ntmps6
  go_wp2_with fail
  refine (awake_c _).mono ?_
  rintro e w1 ⟨rfl, hf1⟩
  go_wp2_with fail
  refine (new_c 2 (by decide) (by decide) _).mono ?_
  rintro e w2 ⟨db, lb, mb, rfl, h2, n1, n2', n3', hf2⟩
  go_wp2_with fail
  have z1 := hf1.size
  have z2 := hf2.size
  have hlt2 := h2.lt
  have hA_2 := (hA.keep0 hf1).keep0 hf2
  go_loopg [13, 14] n (fun kq u v wr => ∃ j : Nat, j ≤ n ∧ kq = n - j ∧ u = .int .u8 (if j = 0 then 0 else xs.getD (j - 1) 0) ∧ v = .int .i64 (j : Int) ∧ KindAt k (Dev.new 2).laid xs db lb mb w2 j wr)
  case atStart => exact ⟨0, by omega, rfl, rfl, rfl, ⟨⟨_, h2, One.start k⟩, Fr.refl _ _⟩⟩
  case round =>
    obtain ⟨j, hj, rfl, rfl, rfl, hKA⟩ := hrel
    have HKA := Lib.hid hKA
    obtain ⟨f, hf⟩ : ∃ f, f = (if j = 0 then 0 else xs.getD (j - 1) 0) := ⟨_, rfl⟩
    rw [← hf]
    have HF := Lib.hid hf
    clear hKA hf
    have z3 := HKA.out.fr.size
    by_cases hlt3 : j < n
    · have hj0 : (0 : Int) ≤ (j : Int) := Int.natCast_nonneg _
      have hj1 : (j : Int) < (n : Int) := by omega
      have hjx : j < xs.length := by rw [HLEN.out]; exact hlt3
      obtain ⟨x, hx⟩ : ∃ x, xs[j]? = some x := ⟨xs[j], List.getElem?_eq_getElem _⟩
      have HGX := Lib.hid (show xs.getD j 0 = x by simp [List.getD, hx])
      obtain ⟨ad, rfl, hcells⟩ := hA.cells (by omega)
      have hlt := hA.lt (by omega)
      have hnB : 0 < n → ∀ ad', some ad = some ad' → ¬ Dv db lb mb ad'.block := by
        intro _ ad' e hd
        cases e
        rcases hd with h' | h' | h' <;> omega
      have hcell : wr.cell? (ad.add j) = some (.int .u8 x) := by
        obtain ⟨ad', e, hc⟩ := (hA_2.keep HKA.out.fr hnB).cells (by omega)
        cases e
        exact hc j _ (by simp [hx])
      clear hx hcells
      go_wp2_with fail
      refine (kind_step HKA.out hk2 x HGX.out 1).mono ?_
      rintro e w4 ⟨rfl, h4⟩
      have hcell4 : w4.cell? (ad.add j) = some (.int .u8 x) := by
        have hnB4 := h4.fr
        obtain ⟨ad', e, hc⟩ := (hA_2.keep hnB4 hnB).cells (by omega)
        cases e
        have : (xs.map (Value.int .u8))[j]? = some (.int .u8 x) := by
          have := HGX.out
          simp only [List.getD, List.getElem?_eq_getElem hjx, Option.getD_some] at this
          simp [hjx, this]
        exact hc j _ this
      have H4 := Lib.hid h4
      clear h4
      go_wp2_with fail
      go_roundg (n - (j + 1))
      case measure => omega
      case rel => exact ⟨j + 1, by omega, rfl, by rw [if_neg (by omega), show j + 1 - 1 = j by omega, HGX.out], by first | rfl | (go_num), H4.out⟩
    · have hjn : j = n := by omega
      subst hjn
      obtain ⟨⟨D, hD, hT⟩, hfr⟩ := HKA.out
      have hfl := hT.flush hk2
      have hat : (D.at k)[0]? = some f := by
        by_cases h0 : j = 0
        · rw [if_pos h0] at hT
          rw [hT.at_none hk2, HF.out, if_pos h0]
          have : (Dev.new 2).laid.getD k [] = zsec := by
            show (List.replicate 2 zsec).getD k [] = zsec
            rw [List.getD_eq_getElem?_getD, List.getElem?_replicate, if_pos hk2]; rfl
          rw [this]
          rfl
        · rw [if_neg h0] at hT
          rw [hT.at_some hk2, HF.out, if_neg h0]
          exact pad64_head _
      obtain ⟨hfe, L1, hL1, hT1⟩ := hfl
      rw [← hL1] at hat
      have HFE := Lib.hid hfe
      have HAT := Lib.hid hat
      have HT1 := Lib.hid hT1
      clear hT hfe hL1 hat hT1 hlt3
      go_wp2_with fail
      refine (flush_c hD).mono ?_
      rintro e w5 ⟨rfl, h5, hf5⟩
      rw [HFE.out]
      have h5K : KindAt k L1 ys db lb mb w5 0 w5 := ⟨⟨_, h5, by rw [if_pos rfl]; exact HT1.out⟩, Fr.refl _ _⟩
      have z5 := hf5.size
      have hf25 := hfr.trans hf5 (fun _ e => .inl e)
      have hA5 := ((hA2.keep0 hf1).keep0 hf2)
      go_wp2_with fail
      go_loopg [16, 17] n2 (fun kq u v wr => ∃ i : Nat, i ≤ n2 ∧ kq = n2 - i ∧ u = .int .u8 (if i = 0 then f else ys.getD (i - 1) 0) ∧ v = .int .i64 (i : Int) ∧ KindAt k L1 ys db lb mb w5 i wr)
      case atStart => exact ⟨0, by omega, rfl, rfl, rfl, h5K⟩
      case round =>
        obtain ⟨i, hi, rfl, rfl, rfl, hKB⟩ := hrel
        have HKB := Lib.hid hKB
        obtain ⟨la, hla⟩ : ∃ la, la = (if i = 0 then f else ys.getD (i - 1) 0) := ⟨_, rfl⟩
        rw [← hla]
        have HLA := Lib.hid hla
        clear hKB hla
        have z6 := HKB.out.fr.size
        have hfAll := hf25.trans HKB.out.fr (fun _ e => .inl e)
        by_cases hlt4 : i < n2
        · have hj0 : (0 : Int) ≤ (i : Int) := Int.natCast_nonneg _
          have hj1 : (i : Int) < (n2 : Int) := by omega
          have hjx : i < ys.length := by rw [HLEN2.out]; exact hlt4
          obtain ⟨x, hx⟩ : ∃ x, ys[i]? = some x := ⟨ys[i], List.getElem?_eq_getElem _⟩
          have HGX := Lib.hid (show ys.getD i 0 = x by simp [List.getD, hx])
          obtain ⟨ad, rfl, hcells⟩ := hA2.cells (by omega)
          have hlt := hA2.lt (by omega)
          have hnB : 0 < n2 → ∀ ad', some ad = some ad' → ¬ Dv db lb mb ad'.block := by
            intro _ ad' e hd
            cases e
            rcases hd with h' | h' | h' <;> omega
          have hcell : wr.cell? (ad.add i) = some (.int .u8 x) := by
            obtain ⟨ad', e, hc⟩ := (hA5.keep hfAll hnB).cells (by omega)
            cases e
            exact hc i _ (by simp [hx])
          clear hx hcells
          go_wp2_with fail
          refine (kind_step HKB.out hk2 x HGX.out 1).mono ?_
          rintro e w4 ⟨rfl, h4⟩
          have hcell4 : w4.cell? (ad.add i) = some (.int .u8 x) := by
            have hnB4 := hf25.trans h4.fr (fun _ e => .inl e)
            obtain ⟨ad', e, hc⟩ := (hA5.keep hnB4 hnB).cells (by omega)
            cases e
            have : (ys.map (Value.int .u8))[i]? = some (.int .u8 x) := by
              have := HGX.out
              simp only [List.getD, List.getElem?_eq_getElem hjx, Option.getD_some] at this
              simp [hjx, this]
            exact hc i _ this
          have H4 := Lib.hid h4
          clear h4
          go_wp2_with fail
          go_roundg (n2 - (i + 1))
          case measure => omega
          case rel => exact ⟨i + 1, by omega, rfl, by rw [if_neg (by omega), show i + 1 - 1 = i by omega, HGX.out], by first | rfl | (go_num), H4.out⟩
        · have hin : i = n2 := by omega
          subst hin
          obtain ⟨⟨D2, hD2, hT2⟩, hfr2⟩ := HKB.out
          have hg2 := hT2.gone
          have hcr := hT2.crash hk2 bs
          have HL2 := Lib.hid (show (D2.crash bs).laid.length = 2 by rw [Dev.crash_len, hT2.laid, hT2.two])
          have hcases : (0 < i ∧ ∃ bt, bs = true :: bt ∧ ((D2.crash bs).at k)[0]? = some la) ∨ (0 < i ∧ ∃ bt, bs = false :: bt ∧ ((D2.crash bs).at k)[0]? = some f) ∨ (0 < i ∧ bs = [] ∧ ((D2.crash bs).at k)[0]? = some f) ∨ (i = 0 ∧ ((D2.crash bs).at k)[0]? = some f) := by
            by_cases h0 : i = 0
            · refine .inr (.inr (.inr ⟨h0, ?_⟩))
              rw [hcr, if_pos h0]
              exact HAT.out
            · have hla : pad64 [ys.getD (i - 1) 0] = pad64 [la] := by rw [HLA.out, if_neg h0]
              rw [if_neg h0, hla] at hcr
              cases bs with
              | nil => exact .inr (.inr (.inl ⟨by omega, rfl, by rw [hcr]; exact HAT.out⟩))
              | cons b bt =>
                cases b with
                | true => exact .inl ⟨by omega, bt, rfl, by rw [hcr]; exact pad64_head la⟩
                | false => exact .inr (.inl ⟨by omega, bt, rfl, by rw [hcr]; exact HAT.out⟩)
          have hnBd : ∀ ad, A3 = some ad → 0 < bs.length → ¬ Dv db lb mb ad.block := by
            intro ad e hp hd
            subst e
            obtain ⟨ad', e', hc⟩ := hB.cells (by rw [List.length_map]; exact hp)
            cases e'
            have := World.block_lt_of_cell? w _ (hc 0 (.bool (bs[0]'hp)) (by simp))
            have hbl : (ad.add 0).block = ad.block := by unfold Addr.add; split <;> rfl
            rcases hd with h' | h' | h' <;> omega
          have hfW : Fr F0 w wr := (((hf1.then0 hf2).trans hf25 (S := F0) (by intro i hi; refine .inr ?_; rcases hi with h' | h' | h' <;> omega))).trans hfr2 (S := F0) (by intro i hi; refine .inr ?_; rcases hi with h' | h' | h' <;> omega)
          have hBr := hB.keep0 hfW
          clear hcr hT2 hlt4 hfAll
          rcases hcases with ⟨hi0, bt, rfl, hh⟩ | ⟨hi0, bt, rfl, hh⟩ | ⟨hi0, rfl, hh⟩ | ⟨hi0, hh⟩
          · have HH := Lib.hid hh
            clear hh
            have hn30 : 0 < n3 := by have := HLEN3.out; simp at this; omega
            have hn30' : (0 : Int) < (n3 : Int) := by omega
            have hi0' : (0 : Int) < (i : Int) := by omega
            obtain ⟨ad3, rfl, hc3⟩ := hBr.cells (by simp)
            have hcell3 : wr.cell? ad3 = some (.bool true) := by simpa [Addr.add] using hc3 0 _ rfl
            clear hc3
            go_wp2_with fail
            refine (crash_c hD2 _ c3 _ n3 HLEN3.out hBr hnBd (by omega)).mono ?_
            rintro e w7 ⟨rfl, h7, hf7⟩
            go_wp2_with fail
            refine (read_c h7 rfl k (by rw [HL2.out]; exact hk2)).mono ?_
            rintro e w8 ⟨b8, t8, rfl, hn8, hb8, hf8⟩
            have hcell8 := sec_cell hb8 0 _ HH.out
            clear hb8
            go_wp2_with fail
            go_ret
            exact ⟨rfl, (hfW.trans hf7 (S := F0) (by intro i hi; refine .inr ?_; rcases hi with h' | h' | h' <;> omega)).then0 hf8⟩
          · have HH := Lib.hid hh
            clear hh
            have hn30 : 0 < n3 := by have := HLEN3.out; simp at this; omega
            have hn30' : (0 : Int) < (n3 : Int) := by omega
            have hi0' : (0 : Int) < (i : Int) := by omega
            obtain ⟨ad3, rfl, hc3⟩ := hBr.cells (by simp)
            have hcell3 : wr.cell? ad3 = some (.bool false) := by simpa [Addr.add] using hc3 0 _ rfl
            clear hc3
            go_wp2_with fail
            refine (crash_c hD2 _ c3 _ n3 HLEN3.out hBr hnBd (by omega)).mono ?_
            rintro e w7 ⟨rfl, h7, hf7⟩
            go_wp2_with fail
            refine (read_c h7 rfl k (by rw [HL2.out]; exact hk2)).mono ?_
            rintro e w8 ⟨b8, t8, rfl, hn8, hb8, hf8⟩
            have hcell8 := sec_cell hb8 0 _ HH.out
            clear hb8
            go_wp2_with fail
            go_ret
            exact ⟨rfl, (hfW.trans hf7 (S := F0) (by intro i hi; refine .inr ?_; rcases hi with h' | h' | h' <;> omega)).then0 hf8⟩
          · have HH := Lib.hid hh
            clear hh
            have hn30 : ¬ 0 < n3 := by have := HLEN3.out; simp at this; omega
            have hn30' : ¬ (0 : Int) < (n3 : Int) := by omega
            have hi0' : (0 : Int) < (i : Int) := by omega
            go_wp2_with fail
            refine (crash_c hD2 _ c3 _ n3 HLEN3.out hBr hnBd (by omega)).mono ?_
            rintro e w7 ⟨rfl, h7, hf7⟩
            go_wp2_with fail
            refine (read_c h7 rfl k (by rw [HL2.out]; exact hk2)).mono ?_
            rintro e w8 ⟨b8, t8, rfl, hn8, hb8, hf8⟩
            have hcell8 := sec_cell hb8 0 _ HH.out
            clear hb8
            go_wp2_with fail
            go_ret
            exact ⟨rfl, (hfW.trans hf7 (S := F0) (by intro i hi; refine .inr ?_; rcases hi with h' | h' | h' <;> omega)).then0 hf8⟩
          · have HH := Lib.hid hh
            clear hh
            have hi1 : ¬ 0 < i := by omega
            have hi1' : ¬ (0 : Int) < (i : Int) := by omega
            clear hi0
            go_wp2_with fail
            refine (crash_c hD2 _ c3 _ n3 HLEN3.out hBr hnBd (by omega)).mono ?_
            rintro e w7 ⟨rfl, h7, hf7⟩
            go_wp2_with fail
            refine (read_c h7 rfl k (by rw [HL2.out]; exact hk2)).mono ?_
            rintro e w8 ⟨b8, t8, rfl, hn8, hb8, hf8⟩
            have hcell8 := sec_cell hb8 0 _ HH.out
            clear hb8
            go_wp2_with fail
            go_ret
            exact ⟨rfl, (hfW.trans hf7 (S := F0) (by intro i hi; refine .inr ?_; rcases hi with h' | h' | h' <;> omega)).then0 hf8⟩
end
end Go.Proofs.Ythepadcjpkcknaa
