/-
  DeviceBudget: the walk. Conditions: none.
-/
import Derived.Test.YthepadcjpkcknaaL4a
import Derived.Test.YthepadcjpkcknaaDevX
set_option linter.unusedVariables false
set_option linter.unusedSimpArgs false
namespace Go.Proofs.Ythepadcjpkcknaa
open Go.RowKit

/-- A device of four sectors behind i writes, k of which are borne. -/
structure Bud (k i : Nat) (D : Dev) : Prop where
  len : D.laid.length = 4
  spent : D.spent = ((min i k : Nat) : Int)
  live : i ≤ k → D.gone = false ∧ D.budget = ((k - i : Nat) : Int)
  dead : k < i → D.gone = true ∧ D.budget = 0

theorem Bud.start (k : Nat) (hk : k < 16) : Bud k 0 ((Dev.new 4).budgeted (k : Int)) := by
  refine ⟨by simp [Dev.budgeted, Dev.new], by simp [Dev.budgeted, Dev.new], fun _ => ⟨rfl, ?_⟩, fun h => by omega⟩
  simp only [Dev.budgeted]
  rw [Int.max_eq_left (by omega)]
  rfl
theorem Bud.more {k i : Nat} {D : Dev} (h : Bud k i D) (hk : k < 16) {q : Nat} (hq : q < 4) (x : Int) : D.writeE q [x] = (if i < k then 0 else 11) ∧ Bud k (i + 1) (D.write q [x]) := by
  by_cases hi : i < k
  · obtain ⟨hg, hb⟩ := h.live (by omega)
    have hb0 : D.budget ≠ 0 := by rw [hb]; omega
    obtain ⟨e1, e2⟩ := Dev.write_ok hg hb0 (i := q) (by rw [h.len]; exact hq) (xs := [x]) (by simp)
    refine ⟨by rw [e1, if_pos hi], ?_⟩
    rw [e2]
    have hs := Dev.spend_go hb0
    refine ⟨by show D.spend.laid.length = 4; rw [Dev.spend_laid]; exact h.len, ?_, fun _ => ⟨?_, ?_⟩, fun h' => by omega⟩
    · show D.spend.spent = _
      rw [hs]
      show wrap64 (D.spent + 1) = _
      rw [h.spent]
      unfold wrap64
      omega
    · show D.spend.gone = false
      rw [hs]; exact hg
    · show D.spend.budget = _
      rw [hs]
      show (if 0 < D.budget then D.budget - 1 else D.budget) = _
      rw [hb, if_pos (by omega)]
      omega
  · by_cases hik : i = k
    · subst hik
      obtain ⟨hg, hb⟩ := h.live (by omega)
      have hb0 : D.budget = 0 := by rw [hb]; omega
      have hm : D.may (q : Int) = 0 := Dev.may_zero hg (by rw [h.len]; exact hq)
      have e1 : D.writeE q [x] = 11 := by simp [Dev.writeE, hm, Dev.spendE, hb0]
      have e2 : D.write q [x] = { D with gone := true } := by simp [Dev.write, hm, hb0, Dev.spend]
      refine ⟨by rw [e1, if_neg hi], ?_⟩
      rw [e2]
      exact ⟨h.len, by show D.spent = _; rw [h.spent]; omega, fun h' => by omega, fun _ => ⟨rfl, hb0⟩⟩
    · obtain ⟨hg, hb⟩ := h.dead (by omega)
      have hm : D.may (q : Int) = 11 := by simp [Dev.may, hg]
      have e1 : D.writeE q [x] = 11 := by simp [Dev.writeE, hm]
      have e2 : D.write q [x] = D := by simp [Dev.write, hm]
      refine ⟨by rw [e1, if_neg hi], ?_⟩
      rw [e2]
      exact ⟨h.len, by rw [h.spent]; omega, fun h' => by omega, fun _ => ⟨hg, hb⟩⟩

/-- What the loop keeps. -/
structure BudAt (k : Nat) (db lb mb : Nat) (w0 : World) (i : Nat) (wr : World) : Prop where
  ex : ∃ D, DevAt Try.prog 3 wr db lb mb D ∧ Bud k i D
  fr : Fr (Dv db lb mb) w0 wr

section
variable {w : World}
set_option maxRecDepth 100000 in
set_option maxHeartbeats 2000000 in
theorem budget_walk (n_ at_ : Int) : Calls Try.prog 8 #[.int .i64 n_, .int .i64 at_] w fun e w' => e = .returned (.bool true) ∧ Fr F0 w w' := by
  obtain ⟨k, hk⟩ : ∃ k : Nat, n_ % 16 = (k : Int) := ⟨(n_ % 16).toNat, by omega⟩
  obtain ⟨a, ha⟩ : ∃ k : Nat, at_ % 4 = (k : Int) := ⟨(at_ % 4).toNat, by omega⟩
  have hk16 : k < 16 := by omega
  have ha4 : a < 4 := by omega
  have hband : bits BinOp.and IntKind.i64 n_ 15 = (k : Int) := by rw [← hk]; exact i64_and n_ 4 (by decide)
  have hband2 : bits BinOp.and IntKind.i64 at_ 3 = (a : Int) := by rw [← ha]; exact i64_and at_ 2 (by decide)
  clear hk ha
  go_enter Try.func8, Try.ntmps8
  go_wp2_with fail
  refine (awake_c _).mono ?_
  rintro e w1 ⟨rfl, hf1⟩
  go_wp2_with fail
  refine (new_c 4 (by decide) (by decide) _).mono ?_
  rintro e w2 ⟨db, lb, mb, rfl, h2, n1, n2, n3, hf2⟩
  go_wp2_with fail
  refine (budget_c h2 (k : Int) (by omega)).mono ?_
  rintro e w3 ⟨rfl, h3, hf3⟩
  have z1 := hf1.size
  have z2 := hf2.size
  have z3 := hf3.size
  have hlt3 := h3.lt
  go_wp2_with fail
  go_loopg [9, 10] 20 (fun kq v u wr => ∃ i : Nat, i ≤ 20 ∧ kq = 20 - i ∧ v = .int .i64 ((min i k : Nat) : Int) ∧ u = .int .i64 (i : Int) ∧ BudAt k db lb mb w3 i wr)
  case atStart => exact ⟨0, by omega, rfl, by simp, rfl, ⟨⟨_, h3, Bud.start k hk16⟩, Fr.refl _ _⟩⟩
  case round =>
    obtain ⟨i, hi, rfl, rfl, rfl, ⟨D, hD, hT⟩, hfr⟩ := hrel
    have HT := Lib.hid hT
    clear hT
    have z4 := hfr.size
    by_cases hlt : i < 20
    · have hi0 : (0 : Int) ≤ (i : Int) := Int.natCast_nonneg _
      have hi1 : (i : Int) < 20 := by omega
      obtain ⟨q, hq⟩ : ∃ q : Nat, ((a : Int) + (i : Int)) % 4 = (q : Int) := ⟨(((a : Int) + (i : Int)) % 4).toNat, by omega⟩
      have hq4 : q < 4 := by omega
      have hband3 : bits BinOp.and IntKind.i64 ((a : Int) + (i : Int)) 3 = (q : Int) := by rw [← hq]; exact i64_and _ 2 (by decide)
      obtain ⟨mi, hmi⟩ : ∃ mi : Nat, mi = min i k := ⟨_, rfl⟩
      have hmi20 : mi ≤ 20 := by omega
      rw [← hmi]
      have HMI := Lib.hid hmi
      clear hq hmi
      have hltD := hD.lt
      go_wp2_with fail
      have HM := Lib.hid (HT.out.more hk16 hq4 (i : Int))
      have hb1 : (wr.alloc (.cells #[.int .u8 (i : Int)] 5)).heap[wr.heap.size]? = some (.cells (([(i : Int)] : List Int).map (Value.int .u8)).toArray 5 (0, 0)) := alloc_at rfl _
      refine (write_c (hD.keep0 ((Fr.refl _ _).alloc _)) q _ 1 [(i : Int)] 1 (BytesAt.of_block hb1) (by intro _ ad e; cases e; simp; omega)).mono ?_
      rintro e w4 ⟨rfl, h4, hf4⟩
      rw [HM.out.1]
      clear hb1
      have hgo : Fr (Dv db lb mb) w3 w4 := (hfr.alloc _).trans hf4 (fun _ e => .inl e)
      by_cases hik : i < k
      · rw [if_pos hik]
        go_wp2_with fail
        go_roundg (20 - (i + 1))
        case measure => omega
        case rel => exact ⟨i + 1, by omega, rfl, by rw [HMI.out]; congr 1; omega, by first | rfl | (go_num), ⟨⟨_, h4, HM.out.2⟩, hgo⟩⟩
      · rw [if_neg hik]
        go_wp2_with fail
        go_roundg (20 - (i + 1))
        case measure => omega
        case rel => exact ⟨i + 1, by omega, rfl, by rw [HMI.out]; congr 1; omega, by first | rfl | (go_num), ⟨⟨_, h4, HM.out.2⟩, hgo⟩⟩
    · have hi20 : i = 20 := by omega
      subst hi20
      obtain ⟨hg, hb⟩ := HT.out.dead (by omega)
      have hmk : min 20 k = k := by omega
      rw [hmk]
      have hsp : D.spent = (k : Int) := by rw [HT.out.spent, hmk]
      have hfe : D.flushE = 11 := by simp [Dev.flushE, hg]
      have hfl : D.flush = D := by simp [Dev.flush, hg]
      have hma : D.may 0 = 11 := by simp [Dev.may, hg]
      have HFE := Lib.hid hfe
      have HFL := Lib.hid hfl
      have HMA := Lib.hid hma
      have HG := Lib.hid hg
      have HSP := Lib.hid hsp
      have HLEN := Lib.hid HT.out.len
      clear hmk hsp hfe hfl hma hg hb
      go_wp2_with fail
      refine (flush_c hD).mono ?_
      rintro e w5 ⟨rfl, h5, hf5⟩
      rw [HFE.out]
      rw [HFL.out] at h5
      go_wp2_with fail
      refine (read_no h5 0 (by rw [HMA.out]; decide)).mono ?_
      rintro e w6 ⟨rfl, rfl⟩
      rw [HMA.out]
      go_wp2_with fail
      refine (gone_c h5).mono ?_
      rintro e w6 ⟨rfl, rfl⟩
      rw [HG.out]
      go_wp2_with fail
      refine (crash_c h5 none 0 [] 0 rfl ⟨fun h => by simp at h⟩ (by intro ad e; cases e) (by decide)).mono ?_
      rintro e w7 ⟨rfl, h7, hf7⟩
      have hcl : (D.crash []).laid.length = 4 := by rw [Dev.crash_nil_len]; exact HLEN.out
      have hcb : (D.crash []).budget ≠ 0 := by simp [Dev.crash]
      obtain ⟨e1, e2⟩ := Dev.write_ok (D := D.crash []) rfl hcb (i := 0) (by rw [hcl]; decide) (xs := []) (by simp)
      have hg8 : ((D.crash []).write 0 []).gone = false := by
        rw [show ((0 : Nat) : Int) = 0 from rfl] at e2
        rw [e2]; exact Dev.spend_gone rfl hcb
      have hs8 : ((D.crash []).write 0 []).spent = (k : Int) + 1 := by
        rw [show ((0 : Nat) : Int) = 0 from rfl] at e2
        rw [e2]
        show (D.crash []).spend.spent = _
        rw [Dev.spend_go hcb]
        show wrap64 (D.spent + 1) = _
        rw [HSP.out]
        unfold wrap64
        omega
      have E1 := Lib.hid e1
      have HG8 := Lib.hid hg8
      have HS8 := Lib.hid hs8
      clear hcl hcb e1 e2 hg8 hs8
      go_wp2_with fail
      refine (write_c h7 0 none 0 [] 0 (BytesAt.nil _ _) (by intro h; omega)).mono ?_
      rintro e w8 ⟨rfl, h8, hf8⟩
      rw [show (D.crash []).writeE 0 [] = 0 from E1.out]
      go_wp2_with fail
      refine (budget_nil 3 _).mono ?_
      rintro e w9 ⟨rfl, rfl⟩
      go_wp2_with fail
      refine (crash_nil _ _).mono ?_
      rintro e w9 ⟨rfl, rfl⟩
      go_wp2_with fail
      refine (read_nil _ _).mono ?_
      rintro e w9 ⟨rfl, rfl⟩
      go_wp2_with fail
      refine (gone_c h8).mono ?_
      rintro e w9 ⟨rfl, rfl⟩
      rw [HG8.out]
      go_wp2_with fail
      refine (spent_c h8).mono ?_
      rintro e w9 ⟨rfl, rfl⟩
      rw [HS8.out]
      go_wp2_with fail
      refine (write_nil _ _ _).mono ?_
      rintro e w9 ⟨rfl, rfl⟩
      go_wp2_with fail
      refine (flush_nil _).mono ?_
      rintro e w9 ⟨rfl, rfl⟩
      go_wp2_with fail
      refine (gone_nil _).mono ?_
      rintro e w9 ⟨rfl, rfl⟩
      go_wp2_with fail
      refine (size_nil _).mono ?_
      rintro e w9 ⟨rfl, rfl⟩
      go_wp2_with fail
      refine (spent_nil _).mono ?_
      rintro e w9 ⟨rfl, rfl⟩
      go_wp2_with fail
      refine (cached_nil _).mono ?_
      rintro e w9 ⟨rfl, rfl⟩
      go_wp2_with fail
      go_ret
      refine ⟨rfl, ?_⟩
      have k1 : Fr F0 w w2 := hf1.then0 hf2
      have k2 := k1.trans hf3 (S := F0) (by intro i hi; exact .inr (by omega))
      have k3 := k2.trans hfr (S := F0) (by intro i hi; refine .inr ?_; rcases hi with h' | h' | h' <;> omega)
      have k4 := k3.trans hf5 (S := F0) (by intro i hi; refine .inr ?_; rcases hi with h' | h' | h' <;> omega)
      have k5 := k4.trans hf7 (S := F0) (by intro i hi; refine .inr ?_; rcases hi with h' | h' | h' <;> omega)
      exact k5.trans hf8 (S := F0) (by intro i hi; refine .inr ?_; rcases hi with h' | h' | h' <;> omega)
end
end Go.Proofs.Ythepadcjpkcknaa
