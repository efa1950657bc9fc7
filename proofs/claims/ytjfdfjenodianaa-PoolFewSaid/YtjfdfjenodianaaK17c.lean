/-
  A pool's round, and free. Conditions: none.
-/
import Derived.Test.YtjfdfjenodianaaK17b
set_option linter.unusedVariables false
set_option linter.unusedSimpArgs false
namespace Go.Proofs.Ytjfdfjenodianaa
open Go.RowKit
theorem Pl.turn_len (P : Pl) : P.turn.fs.length = P.fs.length := by
  unfold Pl.turn
  split <;> simp
theorem Pl.turn_hand {P : Pl} (h : P.hand < P.fs.length) : P.turn.hand < P.turn.fs.length := by
  rw [Pl.turn_len]
  unfold Pl.turn
  rw [List.getElem?_eq_getElem h]
  exact Nat.mod_lt _ (by omega)
theorem Pl.turn_eq {P : Pl} {f : Fm} (h : P.fs[P.hand]? = some f) : P.turn = { P with hand := (P.hand + 1) % P.fs.length, fs := P.fs.set P.hand { f with used := f.used && !P.goes f } } := by
  unfold Pl.turn
  rw [h]
theorem Pl.stop_eq {P : Pl} {f : Fm} (h : P.fs[P.hand]? = some f) : P.stop = (P.goes f && !f.used) := by
  unfold Pl.stop
  rw [h]
section
variable {w : World} {M : Nat → Prop} {pb db lb mb : Nat} {P : Pl} {v : Value} {fbs : List Nat} {D : Dev}
set_option maxRecDepth 100000 in
set_option maxHeartbeats 1000000 in
theorem round_c (h : PoolAt w pb db M P v fbs) (bx : Nat) (hx : w.heap[bx]? = some (.cells #[.pointer (some ⟨pb, 0, none⟩)] 29 (0, 0))) (hbx : ¬ M bx) (hn : P.fs.length ≤ 64) (hh : P.hand < P.fs.length) :
    Calls Try.prog 41 #[.pointer (some ⟨pb, 0, none⟩), .func (.func 42) #[] #[.pointer (some ⟨bx, 0, none⟩)]] w fun e w' => e = .returned (fptr fbs (P.round (2 * P.fs.length)).1) ∧ PoolAt w' pb db M (P.round (2 * P.fs.length)).2 v fbs ∧ Fr M w w' := by
  obtain ⟨c0, c1, c2, c3, c4, c5, z1, z3, z4, z5⟩ := h.cells
  have HP := Lib.hid h
  have HX := Lib.hid hx
  have HB := Lib.hid hbx
  obtain ⟨n, hnn⟩ : ∃ n, n = P.fs.length := ⟨_, rfl⟩
  obtain ⟨A, cp, hv, -, -, -, -⟩ := ValsAt.of_own h.own
  rw [← hnn] at hn hh hv
  rw [← hnn]
  have HN := Lib.hid hnn
  subst hv
  have n0 : (0 : Int) ≤ (n : Int) := Int.natCast_nonneg _
  have HH := Lib.hid hh
  clear h hx hbx c0 c2 c3 c4 c5 z1 z3 z4 z5 hnn hh
  go_enter Try.func41, Try.ntmps41
  go_wp2_with fail
  clear c1
  go_loopg [12] (2 * n) (fun kq x12 wr => ∃ j : Nat, j ≤ 2 * n ∧ kq = 2 * n - j ∧ x12 = .int .i64 (j : Int) ∧ ∃ Pj, PoolAt wr pb db M Pj (.slice A n cp) fbs ∧ Pj.fs.length = n ∧ Pj.hand < n ∧ P.round (2 * n) = Pj.round (2 * n - j) ∧ Fr M w wr)
  case atStart => exact ⟨0, by omega, rfl, rfl, P, HP.out, HN.out.symm, HH.out, rfl, Fr.refl _ _⟩
  case round =>
    obtain ⟨j, hj, rfl, rfl, Pj, hp, hl, hhj, hrd, hF⟩ := hrel
    have HF := Lib.hid hF
    have HPJ := Lib.hid hp
    have HL := Lib.hid hl
    have HR := Lib.hid hrd
    have j0 : (0 : Int) ≤ (j : Int) := Int.natCast_nonneg _
    by_cases hlt : j < 2 * n
    · have j1 : (j : Int) < 2 * (n : Int) := by omega
      obtain ⟨d0, d1, d2, d3, d4, d5, y1, y3, y4, y5⟩ := hp.cells
      obtain ⟨f, hf⟩ : ∃ f, Pj.fs[Pj.hand]? = some f := ⟨Pj.fs[Pj.hand]'(by rw [hl]; exact hhj), List.getElem?_eq_getElem _⟩
      obtain ⟨b, hb⟩ : ∃ b, fbs[Pj.hand]? = some b := ⟨fbs[Pj.hand]'(by rw [hp.len, hl]; exact hhj), List.getElem?_eq_getElem _⟩
      obtain ⟨A', cp', he, hvj, -, -, -⟩ := ValsAt.of_own hp.own
      simp only [Value.slice.injEq] at he
      obtain ⟨rfl, -, rfl⟩ := he
      obtain ⟨ad, rfl, hc⟩ := hvj.cells (by rw [List.length_map, hp.len, hl]; omega)
      obtain ⟨hd, hhd⟩ : ∃ hd, hd = Pj.hand := ⟨_, rfl⟩
      have gx : wr.cell? (ad.add hd) = some (.pointer (some ⟨b, 0, none⟩)) := hc hd _ (by rw [List.getElem?_map, hhd, hb]; rfl)
      rw [← hhd] at d3 hf hb hhj
      have h0 : (0 : Int) ≤ (hd : Int) := Int.natCast_nonneg _
      have h1 : (hd : Int) < (n : Int) := by omega
      have hnz : ¬ n = 0 := by omega
      have hw1 : IntKind.i64.wrap ((hd : Int) + 1) = (hd : Int) + 1 := by rw [IntKind.wrap_i64]; omega
      have hrem : Int.tmod ((hd : Int) + 1) (n : Int) = (((hd + 1) % n : Nat) : Int) := by
        rw [Int.tmod_eq_emod_of_nonneg (by omega), Int.natCast_emod, Int.natCast_add]
        rfl
      have HHD := Lib.hid hhd
      have HFJ := Lib.hid hf
      have HBJ := Lib.hid hb
      clear hp hl hrd hF hvj hc d0 d2 d4 d5 y1 y4 y5 hhd hf hb hhj
      go_wp2_with fail
      go_still (by kernel_rfl)
      go_wp2_with fail
      have HF2 := Lib.hid (HF.out.drew)
      have HPJ2 := Lib.hid (HPJ.out.keep0 ((Fr.refl F0 wr).drew))
      have d1 : wr.drew.cell? ⟨pb, 1, none⟩ = some (.slice (some ad) n cp) := d1
      have d3 : wr.drew.cell? ⟨pb, 3, none⟩ = some (.int .i64 (hd : Int)) := d3
      have y3 : wr.drew.frozen? ⟨pb, 3, none⟩ = false := y3
      change Code.wp _ _ _ _ wr.drew
      generalize wr.drew = w2 at *
      go_still_tail 14, (by kernel_rfl)
      change wpList _ _ _ _ _ w2.drew
      have HF3 := Lib.hid (HF2.out.drew)
      have HPJ3 := Lib.hid (HPJ2.out.keep0 ((Fr.refl F0 w2).drew))
      have y3 : w2.drew.frozen? ⟨pb, 3, none⟩ = false := y3
      have d3 : w2.drew.cell? ⟨pb, 3, none⟩ = some (.int .i64 (hd : Int)) := d3
      generalize w2.drew = w3 at *
      have HPP : Hid (PoolAt (w3.setCell ⟨pb, 3, none⟩ (.int .i64 (((hd + 1) % n : Nat) : Int))) pb db M { Pj with hand := (hd + 1) % n } (.slice (some ad) n cp) fbs) := Lib.hid (by
        refine HPJ3.out.pool (P' := { Pj with hand := (hd + 1) % n }) ((Fr.refl (fun k => k = pb) w3).setCell (p := ⟨pb, 3, none⟩) (.inl rfl) _) rfl ?_
        rw [set_cell HPJ3.out.row]
        rfl)
      have HFP : Hid (Fr M w (w3.setCell ⟨pb, 3, none⟩ (.int .i64 (((hd + 1) % n : Nat) : Int)))) := Lib.hid (HF3.out.setCell (p := ⟨pb, 3, none⟩) (.inl HPJ3.out.mp) _)
      have HXP : Hid ((w3.setCell ⟨pb, 3, none⟩ (.int .i64 (((hd + 1) % n : Nat) : Int))).cell? ⟨bx, 0, none⟩ = some (.pointer (some ⟨pb, 0, none⟩))) := Lib.hid (by
        have h2 := HFP.out.keep HX.out HB.out
        rw [cell_of h2]
        rfl)
      clear gx d1
      go_wp2_with fail
      refine (free1_c HPP.out HFJ.out HBJ.out HXP.out HB.out).mono ?_
      rintro e w4 ⟨rfl, hp4, hf4⟩
      have hturn : Pj.turn = { Pj with hand := (hd + 1) % n, fs := Pj.fs.set hd { f with used := f.used && !Pj.goes f } } := by
        have h5 := HFJ.out
        rw [HHD.out] at h5
        rw [Pl.turn_eq h5, HL.out, HHD.out]
      have hstop : Pj.stop = (Pj.goes f && !f.used) := by
        have h5 := HFJ.out
        rw [HHD.out] at h5
        exact Pl.stop_eq h5
      have hp5 : PoolAt w4 pb db M Pj.turn (.slice (some ad) n cp) fbs := by
        rw [hturn]
        exact hp4
      have hgo : Pl.goes { Pj with hand := (hd + 1) % n } f = Pj.goes f := rfl
      rw [hgo, ← hstop]
      have HP5 := Lib.hid hp5
      have HF5 := Lib.hid (HFP.out.trans hf4 (fun k hk => .inl (by rw [hk]; exact HPJ.out.mf b (List.mem_of_getElem? HBJ.out))))
      have HTL : Hid (Pj.turn.fs.length = n ∧ Pj.turn.hand < n) := Lib.hid (by
        have h7 : Pj.hand < Pj.fs.length := by rw [HL.out, ← HHD.out]; omega
        have h8 := Pl.turn_hand h7
        rw [Pl.turn_len, HL.out] at h8
        exact ⟨by rw [Pl.turn_len, HL.out], h8⟩)
      obtain ⟨sb, hsb⟩ : ∃ sb, sb = Pj.stop := ⟨_, rfl⟩
      have HSB := Lib.hid hsb
      rw [← hsb]
      have hgd : fbs.getD hd 0 = b := by rw [List.getD_eq_getElem?_getD, HBJ.out]; rfl
      have HGD := Lib.hid hgd
      clear hp4 hf4 hturn hstop hp5 hgo hsb hgd
      have hm : ∃ m, 2 * n - j = m + 1 := ⟨2 * n - j - 1, by omega⟩
      obtain ⟨m, hm⟩ := hm
      have HMM := Lib.hid hm
      clear hm
      cases sb with
      | true =>
        go_wp2_with fail
        go_ret
        have hrr : P.round (2 * n) = (some hd, Pj.turn) := by
          rw [HR.out, HMM.out]
          unfold Pl.round
          rw [if_pos HSB.out.symm, ← HHD.out]
        rw [hrr]
        refine ⟨?_, HP5.out, HF5.out⟩
        show _ = Ending.returned (.pointer (some ⟨fbs.getD hd 0, 0, none⟩))
        rw [HGD.out]
        rfl
      | false =>
        go_wp2_with fail
        go_roundg (2 * n - (j + 1))
        case measure => omega
        case rel =>
          refine ⟨j + 1, by omega, rfl, by first | rfl | (go_num), Pj.turn, HP5.out, HTL.out.1, HTL.out.2, ?_, HF5.out⟩
          rw [HR.out, HMM.out]
          have : 2 * n - (j + 1) = m := by have := HMM.out; omega
          rw [this]
          conv => lhs; unfold Pl.round
          rw [if_neg (by rw [← HSB.out]; decide)]
    · have hjn : j = 2 * n := by omega
      subst hjn
      have hlt2 : ¬ 2 * (n : Int) < 2 * (n : Int) := by omega
      go_wp2_with fail
      go_ret
      have hrr : P.round (2 * n) = (none, Pj) := by
        have h9 := HR.out
        simp only [Nat.sub_self] at h9
        rw [h9]
        rfl
      first | (rw [hrr]; exact ⟨rfl, HPJ.out, HF.out⟩) | exact ⟨rfl, HPJ.out, HF.out⟩
/-- A device that is there, without a budget. -/
structure GoodD (D : Dev) (n : Nat) : Prop where
  gone : D.gone = false
  bud : D.budget = -1
  laid : D.laid.length = n
  late : D.late.length = n
theorem Dev.spend_gone' {D : Dev} (hg : D.gone = false) (hb : D.budget ≠ 0) : D.spend.gone = false := by rw [Dev.spend_go hb]; exact hg
theorem Dev.spend_neg' {D : Dev} (hb : D.budget = -1) : D.spend.budget = -1 := by rw [Dev.spend_go (by omega)]; simp [hb]
theorem pad64_full {s : List Int} (h : s.length = 64) : pad64 s = s := by simp [pad64, h]
theorem GoodD.write {D : Dev} {n : Nat} (h : GoodD D n) {i : Int} (i0 : 0 ≤ i) (hi : i < (n : Int)) {s : List Int} (hs : s.length ≤ 64) : D.writeE i s = 0 ∧ GoodD (D.write i s) n ∧ (D.write i s).laid = D.laid ∧ (D.write i s).at i.toNat = pad64 s ∧ (D.write i s).spent = wrap64 (D.spent + 1) ∧ ∀ j, i.toNat ≠ j → (D.write i s).at j = D.at j := by
  obtain ⟨k, rfl⟩ : ∃ k : Nat, i = (k : Int) := ⟨i.toNat, by omega⟩
  obtain ⟨h1, h2⟩ := Dev.write_ok h.gone (by rw [h.bud]; decide) (i := k) (by rw [h.laid]; omega) (xs := s) hs
  rw [h2, Int.toNat_natCast]
  refine ⟨h1, ⟨?_, ?_, ?_, ?_⟩, ?_, ?_, ?_, fun j hj => ?_⟩
  · exact Dev.spend_gone' h.gone (by rw [h.bud]; decide)
  · exact Dev.spend_neg' h.bud
  · show (D.spend.laid).length = n
    rw [Dev.spend_laid]; exact h.laid
  · show (D.spend.late.set k (some _)).length = n
    rw [List.length_set, Dev.spend_late]; exact h.late
  · show D.spend.laid = D.laid
    exact Dev.spend_laid D
  · rw [Dev.put_at _ _ _ (by rw [Dev.spend_late, h.late]; omega)]
  · show D.spend.spent = _
    rw [Dev.spend_go (by rw [h.bud]; decide)]
  · rw [Dev.put_at_ne _ _ hj, Dev.spend_at]
/-- What a pool and its device need. -/
structure PoolOk (P : Pl) (n : Nat) : Prop where
  room0 : 1 ≤ P.room
  room1 : P.room ≤ 64
  fit : (P.fs.length : Int) ≤ P.room
  hand : P.hand = 0 ∨ P.hand < P.fs.length
  places : ∀ f ∈ P.fs, 0 ≤ f.at_ ∧ f.at_ < (n : Int)
theorem Pl.round_fs : ∀ (k : Nat) (P : Pl), (P.round k).2.fs.length = P.fs.length
  | 0, P => rfl
  | k + 1, P => by
    unfold Pl.round
    split
    · exact Pl.turn_len P
    · rw [Pl.round_fs k, Pl.turn_len]
theorem Pl.round_lt : ∀ (k : Nat) (P : Pl) (i : Nat), (P.round k).1 = some i → i < P.fs.length
  | 0, P, i, h => by cases h
  | k + 1, P, i, h => by
    unfold Pl.round at h
    split at h
    · rename_i hs
      simp only [Option.some.injEq] at h
      subst h
      unfold Pl.stop at hs
      cases hf : P.fs[P.hand]? with
      | none => rw [hf] at hs; simp at hs
      | some f => exact (List.getElem?_eq_some_iff.1 hf).1
    · have := Pl.round_lt k P.turn i h
      rw [Pl.turn_len] at this
      exact this
end
end Go.Proofs.Ytjfdfjenodianaa
