/-
  heronrylaw07: WalRound. Conditions: none.
-/
import Derived.Test.YtdeckbdaencjnaaDoorL7e
import Derived.Test.YtdeckbdaencjnaaDoorP7l
set_option linter.unusedVariables false
set_option linter.unusedSimpArgs false
namespace Go.Proofs.YtdeckbdaencjnaaDoor
open Go.RowKit
/-- Append, of a log whose records begin anywhere. -/
theorem LogIn.appendF {b : Nat} {w : World} {lg db lb mb : Nat} {L : Lg} {D : Dev} {n : Nat} {a : Int} {R : List (List Int)} (h : LogIn b w lg db lb mb L D) (hl : From7 L D n a R) (A : Option Addr) (cp k : Nat) (ys : List Int) (hA : Byt w A cp ys) (hk : ys.length = k) (hy : Bys ys) (hn : ys.length ≤ 44000) {E P : Int} {L' : Lg} {D' : Dev}
    (h1 : L.appE D ys = E) (h2 : L.appP D ys = P) (h3 : L.app D ys = L') (h4 : L.appD D ys = D') :
    Calls Tryd.prog 45 #[.pointer (some ⟨lg, 0, none⟩), .slice A k cp] w fun e w' => e = .returned (.tuple #[.int .i64 P, .int .i64 E]) ∧ LogIn b w' lg db lb mb L' D' ∧ Fr (Lv lg db lb mb) w w' := by
  subst hk
  refine (append7_c h.log h.dev h.ap hl.sane hl.e0 hl.e1 A ys.length cp ys hA rfl hy hn).mono ?_
  rintro e w' ⟨rfl, g1, g2, hf⟩
  rw [h1, h2]
  rw [h3] at g1
  rw [h4] at g2
  exact ⟨rfl, h.step g1 g2, hf⟩
/-- Drop, of a log. -/
theorem LogIn.drop {b : Nat} {w : World} {lg db lb mb : Nat} {L : Lg} {D : Dev} (h : LogIn b w lg db lb mb L D) (hs : L.r.Sane) {to E : Int} (h1 : L.dropE to = E) :
    Calls Tryd.prog 54 #[.pointer (some ⟨lg, 0, none⟩), .int .i64 to] w fun e w' => e = .returned (.int .i64 E) ∧ LogIn b w' lg db lb mb (L.drop to) D ∧ Fr (Lv lg db lb mb) w w' := by
  refine (wdrop_c h.log hs to).mono ?_
  rintro e w' ⟨rfl, hl, hf⟩
  rw [h1]
  exact ⟨rfl, h.step hl (h.dev.keep hf (fun k => h.ap (.inl k.symm)) (fun k => h.ap (.inr (.inl k.symm))) (fun k => h.ap (.inr (.inr k.symm)))), hf.mono (fun _ k => .inl k)⟩
theorem LogIn.keepL {S : Nat → Prop} {b : Nat} {w w' : World} {lg db lb mb : Nat} {L : Lg} {D : Dev} (h : LogIn b w lg db lb mb L D) (hf : Fr S w w') (hS : ∀ k, Lv lg db lb mb k → ¬ S k) : LogIn b w' lg db lb mb L D :=
  ⟨h.log.keep hf (hS _ (.inl rfl)), h.dev.keep hf (hS _ (.inr (.inl rfl))) (hS _ (.inr (.inr (.inl rfl)))) (hS _ (.inr (.inr (.inr rfl)))), h.ap, h.new⟩
theorem wpList_append_one2 {P : Program} {ops : Array Oper} {rest : List Oper} {o : Oper} {a : Act} {Q : Exit → Act → World → Prop} {W : World} (hgd : o.guard = none) (s x : Operand) (t e : TypeId) (bytes : Nat) (z : Value)
    (ho : o.op = .call { callee := .builtin .append, args := #[s, x], argTypes := #[t, t] })
    (ht : P.underlying t = some (.slice e)) (hinfo : (P.info? e).map (fun i => (i.zero, i.size, i.bytes)) = some (some z, 1, bytes)) (hz : z.cells.size = 1) (hb0 : 0 < bytes)
    (base : Nat) (v : Value) (xs : List Value) (y : Value) (hs : a.eval s = v) (hx : a.eval x = .slice (some ⟨W.heap.size, 0, none⟩) 1 1) (h1 : y.oneCell' = true)
    (HO : W.ownsRow base e 1 v xs.length xs) (hbase : base ≤ W.heap.size) (hl : (xs.length + 1) * bytes ≤ 140737488355328)
    (h : ∀ v1 w1, w1.ownsRow base e 1 v1 (xs.length + 1) (xs ++ [y]) → Fr (fun k => v.ownBlock = some k) W w1 → (v1.ownBlock = v.ownBlock ∨ v1.ownBlock = some (W.heap.size + 1)) → wpList P ops Q rest (a.put o.dst v1) w1) :
    wpList P ops Q (o :: rest) a (W.alloc (.cells #[y] e)) := by
  obtain ⟨i0, hi, hzz⟩ := Option.map_eq_some_iff.1 hinfo
  simp only [Prod.mk.injEq] at hzz
  obtain ⟨hz0, hz1, hz2⟩ := hzz
  have hlen : xs.length + 1 ≤ 140737488355328 := Nat.le_trans (Nat.le_mul_of_pos_right _ hb0) hl
  refine wpList_append_own_at (W.alloc (.cells #[y] e)) hgd s x t ho base e i0 z 1 bytes ht hi hz0 hz1 hz2 hz (by omega) v xs.length xs hs (HO.alloc _) ⟨W.heap.size, 0, none⟩ 1 1 [y] hx rfl
    (World.news_of_block (cs := #[y]) (t := e) (fr := (0, 0)) (heap_alloc_new W _)) (by simpa using h1) (by simp only [maxLen]; omega) hl (by simp; omega) ?_
  intro v1 w1 hown hg _ hat
  exact h v1 w1 (by simpa using hown) (((Fr.refl _ W).alloc _).grown hg (fun k hk => .inl hk)) (by simpa using hat)
section
variable {w : World}
theorem some60_c (c : Int) (c0 : 0 ≤ c) (c1 : c ≤ 255) : Calls Tryd.prog 46 #[.int .i64 60, .int .u8 c] w fun e w' => ∃ A cp, e = .returned (.slice A 60 cp) ∧ Byt w' A cp (someL 60 c) ∧ Fr F0 w w' := by
  refine (some_c 60 (by decide) c c0 c1).mono ?_
  rintro e w' ⟨v, rfl, hov⟩
  obtain ⟨A, cp, rfl, hby, -⟩ := hov.byt
  exact ⟨A, cp, rfl, hby, hov.fr⟩
set_option maxRecDepth 100000 in
theorem append7_nil (v : Value) : Calls Tryd.prog 45 #[.pointer none, v] w fun e w' => e = .returned (.tuple #[.int .i64 0, .int .i64 11]) ∧ w = w' := by
  go_enter Tryd.func45, Tryd.ntmps45
  go_wp2_with fail
  refine (wgone_nil).mono ?_
  rintro e w1 ⟨rfl, rfl⟩
  go_wp2_with fail
  go_ret2
  exact ⟨rfl, rfl⟩
set_option maxRecDepth 100000 in
theorem force7_nil : Calls Tryd.prog 47 #[.pointer none] w fun e w' => e = .returned (.int .i64 11) ∧ w = w' := by
  go_enter Tryd.func47, Tryd.ntmps47
  go_wp2_with fail
  refine (wgone_nil).mono ?_
  rintro e w1 ⟨rfl, rfl⟩
  go_wp2_with fail
  go_ret
  exact ⟨rfl, rfl⟩
set_option maxRecDepth 100000 in
theorem wdrop_nil (to : Int) : Calls Tryd.prog 54 #[.pointer none, .int .i64 to] w fun e w' => e = .returned (.int .i64 11) ∧ w = w' := by
  go_enter Tryd.func54, Tryd.ntmps54
  go_wp2_with fail
  refine (wgone_nil).mono ?_
  rintro e w1 ⟨rfl, rfl⟩
  go_wp2_with fail
  go_ret
  exact ⟨rfl, rfl⟩
/-- The places of records of two sectors. -/
def places2 (i : Nat) : List Int := (List.range i).map fun (t : Nat) => 2 * (t : Int)
theorem places2_len (i : Nat) : (places2 i).length = i := by simp [places2]
theorem places2_snoc (i : Nat) : places2 (i + 1) = places2 i ++ [2 * (i : Int)] := by
  unfold places2
  rw [List.range_succ, List.map_append]
  rfl
theorem places2_at (i t : Nat) (h : t < i) : (places2 i)[t]? = some (2 * (t : Int)) := by
  unfold places2
  rw [List.getElem?_map, List.getElem?_range h]
  rfl
set_option maxRecDepth 100000 in
set_option maxHeartbeats 8000000 in
theorem round_walk (kn ks : Int) : Calls Tryd.prog 14 #[.int .i64 kn, .int .i64 ks] w fun e w' => e = .returned (.bool true) ∧ Fr F0 w w' := by
  obtain ⟨n0, hn⟩ : ∃ m : Nat, kn % 64 = (m : Int) := ⟨(kn % 64).toNat, by omega⟩
  have hn1 : n0 < 64 := by omega
  have n00 : (0 : Int) ≤ (n0 : Int) := Int.natCast_nonneg _
  have hbandn : bits .and .i64 kn 63 = (n0 : Int) := by rw [← hn]; exact i64_and kn 6 (by decide)
  obtain ⟨k8, hk8⟩ : ∃ m : Nat, ks % 8 = (m : Int) := ⟨(ks % 8).toNat, by omega⟩
  have hk80 : (0 : Int) ≤ (k8 : Int) := Int.natCast_nonneg _
  have hk81 : k8 < 8 := by omega
  have hbandk : bits .and .i64 ks 7 = (k8 : Int) := by rw [← hk8]; exact i64_and ks 3 (by decide)
  have P1 : Hid (openL (Dev.new 16) 1 (4 + (k8 : Int)) 0 1 = ⟨⟨1, 4 + (k8 : Int), 0, 0⟩, 1, 0, false⟩) := Lib.hid (by
    have hs : (Rg.mk 1 (4 + (k8 : Int)) 0 0).Sane := ring_sane (by omega) (by omega)
    exact (Laid.new (n := 16) (from_ := 1) (size := 4 + (k8 : Int)) (head := 0) (epoch := 1) hs (by omega) (by decide) (by decide)).1)
  have P3 : Hid (Rnd ⟨⟨1, 4 + (k8 : Int), 0, 0⟩, 1, 0, false⟩ (Dev.new 16) (4 + (k8 : Int)) 0 0) := Lib.hid (Rnd.new (by omega) (by omega))
  have PN : Hid (logMay (Dev.new 16) 1 (4 + (k8 : Int)) 0 1 = 0) := Lib.hid (logMay_new (n := 16) (by decide) (by omega) (by omega) (by decide) (by decide) (by decide) (by decide) rfl (by simp [Dev.new]))
  clear hn hk8
  go_enter Tryd.func14, Tryd.ntmps14
  go_wp2_with fail
  refine (awake7_c).mono ?_
  rintro e w1 ⟨rfl, hf1⟩
  go_wp2_with fail
  refine (new_c 16 (by decide) (by decide) _).mono ?_
  rintro e w2 ⟨db, lb, mb, rfl, h1, n1, n2, n3, hf2⟩
  go_wp2_with fail
  refine (wopen_c h1 (SecBys.new 16) 1 (4 + (k8 : Int)) 0 1).mono ?_
  rintro e w3 ⟨-, hgood, hf3⟩
  obtain ⟨lg, v3, rfl, hlg, hlog, -⟩ := hgood PN.out
  rw [P1.out] at hlog
  have HIN : Hid (LogIn w.heap.size w3 lg db lb mb ⟨⟨1, 4 + (k8 : Int), 0, 0⟩, 1, 0, false⟩ (Dev.new 16)) := Lib.hid (by
    have z1 := hf1.size
    have z2 := hf2.size
    refine ⟨hlog, h1.keep0 hf3, ?_, ?_⟩
    · have := h1.lt
      rintro (h | h | h) <;> omega
    · rintro k (h | h | h | h) <;> omega)
  have HF3 := Lib.hid ((hf1.then0 hf2).then0 hf3)
  clear hgood hlog h1 n1 n2 n3 hlg hf1 hf2 hf3
  go_wp2_with fail
  go_loopg [12, 13, 14, 15, 16, 17] n0 (fun kq x12 x13 x14 x15 x16 x17 wr => ∃ f nn : Nat, f + nn ≤ n0 ∧ kq = n0 - (f + nn) ∧ x12 = .int .i64 (f : Int) ∧ x14 = .int .i64 ((f + nn : Nat) : Int) ∧ wr.ownsRow w.heap.size 3 1 x13 (f + nn) ((places2 (f + nn)).map (Value.int .i64)) ∧ ∃ L D, LogIn w.heap.size wr lg db lb mb L D ∧ Rnd L D (4 + (k8 : Int)) f nn ∧ (∀ k, x13.ownBlock = some k → ¬ Lv lg db lb mb k) ∧ (∀ k, Lv lg db lb mb k → k < wr.heap.size) ∧ Fr F0 w wr)
  case atStart => exact ⟨0, 0, by omega, rfl, rfl, rfl, own_nil _ _ _ _, _, _, HIN.out, P3.out, (fun k hk => by simp [Value.ownBlock] at hk), (fun k hk => by
    have h1 := HIN.out.log.lt
    obtain ⟨h2, h3, h4⟩ := HIN.out.dev.lt
    rcases hk with h | h | h | h <;> omega), HF3.out⟩
  case round =>
    obtain ⟨f, nn, hj, rfl, rfl, rfl, hown, L, D, hin, hrnd, hap, hlt9, hfr⟩ := hrel
    have HI := Lib.hid hin
    have HR := Lib.hid hrnd
    have HF := Lib.hid hfr
    have HO := Lib.hid hown
    have HAP := Lib.hid hap
    have HLT := Lib.hid hlt9
    clear hin hrnd hfr hown hap hlt9
    obtain ⟨iN, hiN⟩ : ∃ iN, iN = f + nn := ⟨_, rfl⟩
    rw [← hiN] at HO hj ⊢
    have HIQ := Lib.hid hiN
    have hif : f ≤ iN := by omega
    clear hiN
    have i0 : (0 : Int) ≤ (iN : Int) := Int.natCast_nonneg _
    have f0 : (0 : Int) ≤ (f : Int) := Int.natCast_nonneg _
    have f1 : (f : Int) ≤ 100 := by omega
    have ii1 : (iN : Int) ≤ 100 := by omega
    by_cases hlt : iN < n0
    · have i1 : (iN : Int) < (n0 : Int) := by omega
      have hjb : IntKind.u8.wrap (iN : Int) = (iN : Int) := by rw [IntKind.wrap_u8]; omega
      obtain ⟨ys, hys⟩ : ∃ ys, ys = someL 60 (iN : Int) := ⟨_, rfl⟩
      have hyl : ys.length = 60 := by rw [hys, someL_len]
      have HYB : Hid (Bys ys) := Lib.hid (by rw [hys]; exact someL_bys _ _)
      have HYS := Lib.hid hys
      have HYL := Lib.hid hyl
      clear hys hyl
      go_wp2_with fail
      refine (some60_c (iN : Int) (by omega) (by omega)).mono ?_
      rintro e w4 ⟨A4, c4, rfl, hby, hfs⟩
      rw [← HYS.out] at hby
      have HI4 := Lib.hid (HI.out.keep0 hfs)
      have HF4 := Lib.hid (HF.out.then0 hfs)
      have HG4 := Lib.hid hfs
      have HBY := Lib.hid hby
      clear hfs hby
      go_wp2_with fail
      by_cases hroom : 2 ≤ 4 + (k8 : Int) - 2 * (nn : Int)
      · obtain ⟨L1, D1, u1, u2, u3, u4, u5, hrn1⟩ := HR.out.app (by omega) (by omega) hroom
        rw [← HIQ.out, ← HYS.out] at u1 u2 u3 u4
        have HU := Lib.hid u5
        have HO4 := Lib.hid (own_keep0 HO.out HG4.out)
        have HLT4 : Hid (∀ k, Lv lg db lb mb k → k < w4.heap.size) := Lib.hid (fun k hk => by have := HLT.out k hk; have := HG4.out.size; omega)
        have HRN := Lib.hid hrn1
        refine (HI4.out.appendF HR.out.from7 A4 c4 60 ys HBY.out HYL.out HYB.out (by rw [HYL.out]; decide) u1 u2 u3 u4).mono ?_
        rintro e w8 ⟨rfl, hin8, hf8⟩
        have HI8 := Lib.hid hin8
        have HF8 := Lib.hid (HI4.out.fr HF4.out hf8)
        have HO8 := Lib.hid (own_keep HO4.out hf8 (fun k hk h => HAP.out k hk h))
        have hsz8 := hf8.size
        clear u1 u2 u3 u4 u5 hrn1 hin8 hf8
        go_wp2_with fail
        refine (HI8.out.force HU.out rfl rfl).mono ?_
        rintro e w9 ⟨rfl, hin9, hf9⟩
        have HI9 := Lib.hid hin9
        have HF9 := Lib.hid (HI8.out.fr HF8.out hf9)
        have HO9 := Lib.hid (own_keep HO8.out hf9 (fun k hk h => HAP.out k hk h))
        have hsz9 := hf9.size
        have hbz : w.heap.size ≤ w9.heap.size := HF9.out.size
        have HLT9 : Hid (∀ k, Lv lg db lb mb k → k < w9.heap.size) := Lib.hid (fun k hk => by have := HLT4.out k hk; omega)
        clear hin9 hf9 hsz8 hsz9
        go_wp2_with (at_builtin; refine wpList_append_one2 rfl (.tmp 96) (.tmp 98) 69 3 8 (.int .i64 0) rfl und_ints info_int rfl (by decide) w.heap.size u13 ((places2 iN).map (Value.int .i64)) (.int .i64 (2 * (iN : Int))) (by rfl) (by rfl) rfl (by rw [List.length_map, places2_len]; exact HO9.out) hbz (by rw [List.length_map, places2_len]; omega) ?_; intro v10 w10 hown10 hf10 hat10)
        rw [List.length_map, places2_len] at hown10
        have hfr10 : Fr F0 w w10 := HF9.out.trans hf10 (fun k hk => .inr (own_base HO9.out k hk))
        have hkeep : ∀ k, Lv lg db lb mb k → ¬ (Value.ownBlock u13 = some k) := fun k hk h => HAP.out k h hk
        have hin10 : LogIn w.heap.size w10 lg db lb mb _ _ := HI9.out.keepL hf10 hkeep
        go_roundg (n0 - (iN + 1))
        case measure => have hiN := HIQ.out; omega
        case rel =>
          have hiN := HIQ.out
          refine ⟨f, nn + 1, by omega, by omega, by first | rfl | (go_num), by first | rfl | (go_num), ?_, _, _, hin10, HRN.out, fun k hk h => ?_, fun k hk => ?_, hfr10⟩
          · have e1 : f + (nn + 1) = iN + 1 := by omega
            rw [e1, places2_snoc, List.map_append]
            exact hown10
          · rcases hat10 with h2 | h2
            · exact HAP.out k (h2 ▸ hk) h
            · have h3 := HLT9.out k h
              rw [h2] at hk
              have := Option.some.inj hk
              omega
          · have h3 := HLT9.out k hk
            have h4 := hf10.size
            omega
      · have hn2 : 2 ≤ nn := by omega
        obtain ⟨n', rfl⟩ : ∃ n', nn = n' + 1 := ⟨nn - 1, by omega⟩
        have hiN := HIQ.out
        obtain ⟨v1, v2, v3, v4⟩ := HR.out.full (by omega) (by omega) (by omega) (iN : Int)
        rw [← HYS.out] at v1 v2 v3 v4
        obtain ⟨d1, hrd⟩ := HR.out.drop (by omega) (by omega)
        have HRD := Lib.hid hrd
        have HD1 := Lib.hid d1
        have hffi : (f : Int) < (iN : Int) := by omega
        have hffi1 : (f : Int) + 1 < (iN : Int) := by omega
        have hf1i : f + 1 < iN := by omega
        obtain ⟨A13, c13, rfl, hv13, -, -, -⟩ := ValsAt.of_own HO.out
        obtain ⟨ad13, rfl, hc13⟩ := hv13.cells (by rw [List.length_map, places2_len]; omega)
        obtain ⟨b13, rfl⟩ : ∃ b13, ad13 = ⟨b13, 0, none⟩ := by
          rcases HO.out.2 with ⟨h, _⟩ | ⟨g, cap, cur, h, _⟩
          · cases h
          · cases h; exact ⟨_, rfl⟩
        have hblk : ¬ Lv lg db lb mb b13 := HAP.out _ rfl
        have hg0 : w4.cell? ⟨b13, f + 1, none⟩ = some (.int .i64 (2 * ((f + 1 : Nat) : Int))) := by
          have h0 : wr.cell? ⟨b13, 0 + (f + 1), none⟩ = some (.int .i64 (2 * ((f + 1 : Nat) : Int))) := hc13 (f + 1) (.int .i64 (2 * ((f + 1 : Nat) : Int))) (by rw [List.getElem?_map, places2_at _ _ (by omega)]; rfl)
          rw [Nat.zero_add] at h0
          exact (World.cell?_of_block (w := wr) (HG4.out.block _ (World.block_lt_of_cell? wr _ h0) (fun h => h))).trans h0
        have HCELL := Lib.hid hg0
        have HBLK := Lib.hid hblk
        clear hc13 hv13 hrd d1 hg0 hblk hiN
        refine (HI4.out.appendF HR.out.from7 A4 c4 60 ys HBY.out HYL.out HYB.out (by rw [HYL.out]; decide) v1 v2 v3 v4).mono ?_
        rintro e w5 ⟨rfl, hin5, hf5⟩
        have HI5 := Lib.hid hin5
        have HF5 := Lib.hid (HI4.out.fr HF4.out hf5)
        have HG5 := Lib.hid hf5
        clear hin5 hf5 v1 v2 v3 v4
        go_wp2_with fail
        refine (tail7_c HI5.out.log).mono ?_
        rintro e w6 ⟨rfl, rfl⟩
        have hcell5 : w5.cell? ⟨b13, f + 1, none⟩ = some (.int .i64 (2 * ((f + 1 : Nat) : Int))) := by
          have := HCELL.out
          exact (World.cell?_of_block (w := w4) (HG5.out.block _ (World.block_lt_of_cell? w4 _ this) HBLK.out)).trans this
        go_wp2_with fail
        refine (HI5.out.drop HR.out.from7.sane HD1.out).mono ?_
        rintro e w7 ⟨rfl, hin7, hf7⟩
        have HI7 := Lib.hid hin7
        have HF7 := Lib.hid (HI5.out.fr HF5.out hf7)
        have HG7 := Lib.hid (HG5.out.trans hf7 (fun k hk => .inl hk))
        clear hin7 hf7 hcell5
        have HG4' := Lib.hid (((HG4.out).of0 (S := Lv lg db lb mb)).trans HG7.out (fun k hk => .inl hk))
        have HO4 := Lib.hid (own_keep HO.out HG4'.out (fun k hk h => HAP.out k hk h))
        have HLT4 : Hid (∀ k, Lv lg db lb mb k → k < w7.heap.size) := Lib.hid (fun k hk => by have := HLT.out k hk; have := HG4'.out.size; omega)
        clear HG4 HG5 HG7 HI4 HI5 HF4 HF5 HBY HCELL HG4'
        go_wp2_with fail
        refine (some60_c (iN : Int) (by omega) (by omega)).mono ?_
        rintro e w14 ⟨A14, c14, rfl, hby, hfs⟩
        rw [← HYS.out] at hby
        have HI14 := Lib.hid (HI7.out.keep0 hfs)
        have HF14 := Lib.hid (HF7.out.then0 hfs)
        have HO14 := Lib.hid (own_keep0 HO4.out hfs)
        have HLT14 : Hid (∀ k, Lv lg db lb mb k → k < w14.heap.size) := Lib.hid (fun k hk => by have := HLT4.out k hk; have := hfs.size; omega)
        have HBY := Lib.hid hby
        clear hfs hby
        go_wp2_with fail
        have hiN2 : iN = (f + 1) + n' := by have := HIQ.out; omega
        have hfit2 : 2 ≤ 4 + (k8 : Int) - 2 * (n' : Int) := by
          have hfit := HR.out.from7.sane.fit
          rw [HR.out.tail, HR.out.head, HR.out.size] at hfit
          omega
        obtain ⟨L1, D1, u1, u2, u3, u4, u5, hrn1⟩ := HRD.out.app (by omega) (by omega) hfit2
        rw [← hiN2, ← HYS.out] at u1 u2 u3 u4
        clear hiN2 hfit2
        have HU := Lib.hid u5
        have HRN := Lib.hid hrn1
        refine (HI14.out.appendF HRD.out.from7 A14 c14 60 ys HBY.out HYL.out HYB.out (by rw [HYL.out]; decide) u1 u2 u3 u4).mono ?_
        rintro e w8 ⟨rfl, hin8, hf8⟩
        have HI8 := Lib.hid hin8
        have HF8 := Lib.hid (HI14.out.fr HF14.out hf8)
        have HO8 := Lib.hid (own_keep HO14.out hf8 (fun k hk h => HAP.out k hk h))
        have hsz8 := hf8.size
        clear u1 u2 u3 u4 u5 hrn1 hin8 hf8
        go_wp2_with fail
        refine (HI8.out.force HU.out rfl rfl).mono ?_
        rintro e w9 ⟨rfl, hin9, hf9⟩
        have HI9 := Lib.hid hin9
        have HF9 := Lib.hid (HI8.out.fr HF8.out hf9)
        have HO9 := Lib.hid (own_keep HO8.out hf9 (fun k hk h => HAP.out k hk h))
        have hsz9 := hf9.size
        have hbz : w.heap.size ≤ w9.heap.size := HF9.out.size
        have HLT9 : Hid (∀ k, Lv lg db lb mb k → k < w9.heap.size) := Lib.hid (fun k hk => by have := HLT14.out k hk; omega)
        clear hin9 hf9 hsz8 hsz9
        go_wp2_with (at_builtin; refine wpList_append_one2 rfl (.tmp 96) (.tmp 98) 69 3 8 (.int .i64 0) rfl und_ints info_int rfl (by decide) w.heap.size (.slice (some ⟨b13, 0, none⟩) iN c13) ((places2 iN).map (Value.int .i64)) (.int .i64 (2 * (iN : Int))) (by rfl) (by rfl) rfl (by rw [List.length_map, places2_len]; exact HO9.out) hbz (by rw [List.length_map, places2_len]; omega) ?_; intro v10 w10 hown10 hf10 hat10)
        rw [List.length_map, places2_len] at hown10
        have hfr10 : Fr F0 w w10 := HF9.out.trans hf10 (fun k hk => .inr (own_base HO9.out k hk))
        have hkeep : ∀ k, Lv lg db lb mb k → ¬ (Value.ownBlock (.slice (some ⟨b13, 0, none⟩) iN c13) = some k) := fun k hk h => HAP.out k h hk
        have hin10 : LogIn w.heap.size w10 lg db lb mb _ _ := HI9.out.keepL hf10 hkeep
        go_roundg (n0 - (iN + 1))
        case measure => have hiN := HIQ.out; omega
        case rel =>
          have hiN := HIQ.out
          refine ⟨(f + 1), n' + 1, by omega, by omega, by first | rfl | (go_num), by first | rfl | (go_num), ?_, _, _, hin10, HRN.out, fun k hk h => ?_, fun k hk => ?_, hfr10⟩
          · have e1 : (f + 1) + (n' + 1) = iN + 1 := by omega
            rw [e1, places2_snoc, List.map_append]
            exact hown10
          · rcases hat10 with h2 | h2
            · exact HAP.out k (h2 ▸ hk) h
            · have h3 := HLT9.out k h
              rw [h2] at hk
              have := Option.some.inj hk
              omega
          · have h3 := HLT9.out k hk
            have h4 := hf10.size
            omega
    · have hin : iN = n0 := by omega
      subst hin
      have hiN := HIQ.out
      have htl := HR.out.tail
      have hhd := HR.out.head
      rw [← hiN] at htl
      have hop := HR.out.opens
      rw [htl, hhd] at hop
      have HOP := Lib.hid hop
      have HTL := Lib.hid htl
      have HHD := Lib.hid hhd
      have HSB := Lib.hid (HR.out.from7.bys)
      have HMAY : Hid (logMay (D.crash []) 1 (4 + (k8 : Int)) (2 * (f : Int)) 2 = 0) := Lib.hid (logMay_new (n := 16) (by decide) (by omega) (by omega) (by omega) (by omega) (by decide) (by decide) rfl (by rw [Dev.crash_len]; exact HR.out.from7.good.laid))
      have hov13 := HO.out
      obtain ⟨A13, c13, rfl, hv13, -, -, -⟩ := ValsAt.of_own hov13
      have HV13 := Lib.hid hv13
      have hA13 : ∀ ad, A13 = some ad → ¬ Lv lg db lb mb ad.block := by
        intro ad e
        subst e
        refine HAP.out _ ?_
        rcases hov13.2 with ⟨h, _⟩ | ⟨g, cap, cur, h, _⟩
        · cases h
        · cases h; rfl
      have HA13 := Lib.hid hA13
      have HNC : Hid ((nn : Int) = (iN : Int) - (f : Int)) := Lib.hid (by omega)
      have HNI : Hid (f + nn ≤ iN) := Lib.hid (by omega)
      clear htl hhd hop hv13 hov13 hA13 hiN hj hlt hif
      go_wp2_with fail
      refine (head7_c HI.out.log).mono ?_
      rintro e w4 ⟨rfl, rfl⟩
      rw [HHD.out]
      go_wp2_with fail
      refine (crash_c HI.out.dev none 0 [] 0 rfl ⟨fun h => by simp at h⟩ (fun ad e => by cases e) (by decide)).mono ?_
      rintro e w5 ⟨rfl, hd5, hf5⟩
      have HD5 := Lib.hid hd5
      have HL5 := Lib.hid (HI.out.log.keep hf5 HI.out.ap)
      have HF5 := Lib.hid (HI.out.fr HF.out (hf5.mono (fun _ h => .inr h)))
      have HV5 := Lib.hid (HV13.out.keep hf5 (fun ad e h => HA13.out ad e (.inr h)))
      clear hd5 hf5
      have hf2a : (0 : Int) ≤ 2 * (f : Int) := by omega
      go_wp2_with fail
      refine (wopen_c HD5.out (HSB.out.crash []) 1 (4 + (k8 : Int)) (2 * (f : Int)) 2).mono ?_
      rintro e w6 ⟨-, hgood, hf6⟩
      obtain ⟨lg2, v8, rfl, -, hlog8, hrecs8⟩ := hgood HMAY.out
      obtain ⟨A8, c8, rfl, hra8, hrc8, -⟩ := OwnRowB.reads (head := recHead) (byt := fun x : Int × List Int => x.2) (hd := 1) (fun _ => rfl) hrecs8
      rw [HOP.out] at hra8
      have hlen8 : (opened (D.crash []) 1 (4 + (k8 : Int)) (2 * (f : Int)) 2).1.length = nn := by rw [HOP.out, recsAt_len, recs60_len]
      rw [hlen8]
      have hT8 : (openL (D.crash []) 1 (4 + (k8 : Int)) (2 * (f : Int)) 2).r.tail = 2 * (iN : Int) := by show (opened (D.crash []) 1 (4 + (k8 : Int)) (2 * (f : Int)) 2).2 = _; rw [HOP.out]
      have HT8 := Lib.hid hT8
      have HL8 := Lib.hid hlog8
      have HL6 := Lib.hid (HL5.out.keep0 hf6)
      have HF6 := Lib.hid (HF5.out.then0 hf6)
      have HV6 := Lib.hid (HV5.out.keep0 hf6)
      have HRA := Lib.hid hra8
      have hnn0 : (0 : Int) ≤ (nn : Int) := Int.natCast_nonneg _
      clear hgood hf6 hlog8 hrecs8 hra8 hrc8 hlen8 hT8
      have hnnc : (iN : Int) - (f : Int) = (nn : Int) := by have := HNC.out; omega
      go_wp2_with fail
      refine (tail7_c HL8.out).mono ?_
      rintro e w7 ⟨rfl, rfl⟩
      rw [HT8.out]
      go_wp2_with fail
      refine (tail7_c HL6.out).mono ?_
      rintro e w7 ⟨rfl, rfl⟩
      rw [HTL.out]
      go_wp2_with fail
      clear hnnc
      go_loopg [22] nn (fun kq x22 wr => ∃ t : Nat, t ≤ nn ∧ kq = nn - t ∧ x22 = .int .i64 (t : Int) ∧ Fr F0 w6 wr)
      case atStart => exact ⟨0, by omega, rfl, rfl, Fr.refl _ _⟩
      case round =>
        obtain ⟨t, ht, rfl, rfl, hF⟩ := hrel
        have t0 : (0 : Int) ≤ (t : Int) := Int.natCast_nonneg _
        by_cases htn : t < nn
        · have t1 : (t : Int) < (nn : Int) := by omega
          obtain ⟨q, hq⟩ : ∃ q, q = f + t := ⟨_, rfl⟩
          have hqr : (f : Int) + (t : Int) = (q : Int) := by omega
          have q0 : (0 : Int) ≤ (q : Int) := Int.natCast_nonneg _
          have q1 : (q : Int) ≤ 63 := by have := HNI.out; omega
          have q2 : (q : Int) < (iN : Int) := by have := HNI.out; omega
          have HQU : Hid (IntKind.u8.wrap (q : Int) = (q : Int)) := Lib.hid (by rw [IntKind.wrap_u8]; omega)
          obtain ⟨ys8, hys8⟩ : ∃ ys, ys = someL 60 (q : Int) := ⟨_, rfl⟩
          have HYS := Lib.hid hys8
          have HYL : Hid (ys8.length = 60) := Lib.hid (by rw [hys8, someL_len])
          obtain ⟨b8, off8, B8, cB8, rfl, g1, g2, g3, g4⟩ := (HRA.out.keep0 hF).row t (2 * (q : Int), ys8) (by
            rw [recsAt60 _ _ _ _ htn, hys8, hq]
            congr 2
            omega)
          obtain ⟨ad13, rfl, hc13⟩ := (HV6.out.keep0 hF).cells (by rw [List.length_map, places2_len]; omega)
          have kc : ∀ (p : Addr) (u : Value), wr.cell? p = some u → ∀ wx, Fr F0 wr wx → wx.cell? p = some u := fun p u h wx hG => (World.cell?_of_block (w := wr) (hG.block _ (World.block_lt_of_cell? wr _ h) (fun h => h))).trans h
          have kc0 := kc ⟨b8, off8 + t * 2, none⟩ (.int .i64 (2 * (q : Int))) (g1 0 _ rfl)
          have kc1 := kc ⟨b8, off8 + t * 2 + 1, none⟩ (.slice B8 60 cB8) (by have := HYL.out; rw [← this]; exact g2)
          have kd0 := kc (ad13.add q) (.int .i64 (2 * (q : Int))) (hc13 q _ (by rw [List.getElem?_map, places2_at _ _ (by omega)]; rfl))
          have HB8 := Lib.hid g3
          clear g1 g2 g3 g4 hc13 kc hys8 hq
          go_wp2_with fail
          refine wp_region_free (S := F0) [false, false, false, false, false, false, false, false, false, false, false, false, false, false, false, false, false, false, false, false, false, false, false, false, false, false, false, false, false, false, false, false, false, false, false, false, false, false, false, false, false, false, false, false, false, false, false, false, false, false, false, false, false, false, false, false, false, false, false, false, false, false, false, false, false, false, false, false, false, false, false, false, false, false, false, false, false, false, false, false, false, false, false, false, false, false, false, false, false, false, false, false, false, false, false, false, false, false, false, false, false, false, false, false, false, false, false, false, false, false, false, false, false, false, false, false, false, false, false, false, false, false, false, false, false, false, false, false, false, false, false, false, false, false, false, false, true, true, true, true, true, true, true, true, true, true, true, true, true, true, true, true, true, true, true, true, true, true, true, true, true, true, true, false, false, false, false, false, false, false, false, false, false, false, false, false, false, false, false, false, false, false, false, false, false, false, false, false, false, false, false, false, false, false, false, false, false] [.eq (.slice (some ⟨b8, off8, none⟩) nn c8), .eq (.int .i64 (t : Int)), .eq (.pointer (some ⟨b8, off8 + t * 2, none⟩)), .eq (.pointer (some ⟨b8, off8 + t * 2, none⟩)), .eq (.int .i64 (2 * (q : Int))), .eq (.slice (some ad13) iN c13), .eq (.int .i64 (f : Int)), .eq (.int .i64 (t : Int)), .eq (.int .i64 (q : Int)), .eq (.pointer (some (ad13.add q))), .eq (.int .i64 (2 * (q : Int))), .eq (.bool false), .eq (.bool false), .eq (.slice (some ⟨b8, off8, none⟩) nn c8), .eq (.int .i64 (t : Int)), .eq (.pointer (some ⟨b8, off8 + t * 2, none⟩)), .eq (.pointer (some ⟨b8, off8 + t * 2 + 1, none⟩)), .eq (.slice B8 60 cB8), .eq (.string (strOfNums ys8)), .eq (.int .i64 (f : Int)), .eq (.int .i64 (t : Int)), .eq (.int .i64 (q : Int)), .eq (.int .u8 (q : Int)), ⟨fun v w' => ∃ A c, v = .slice A 60 c ∧ BytesAt w' A 60 ys8, fun v w' w'' ⟨A, c, h1, h2⟩ hf => ⟨A, c, h1, h2.keep0 hf⟩⟩, .eq (.string (strOfNums ys8)), .eq (.bool false), .eq (.bool false)] (by kernel_rfl) (by kernel_rfl) (by rfl) (fun us => ?steps) (fun us wr hG hall => ?fin)
          case steps =>
            simp only [fillL, Nat.reduceAdd]
            refine stepsHold.cons (fun wx hG hd K hK => ?_) ?_
            · rw [if_pos (wanted_none rfl)]
              refine wp_value (w2 := wx) (v := .slice (some ⟨b8, off8, none⟩) nn c8) ?_ (hK _ _ rfl (Fr.refl _ _))
              clear hd hG hK
              go_simp
            refine stepsHold.cons (fun wx hG hd K hK => ?_) ?_
            · rw [if_pos (wanted_none rfl)]
              refine wp_value (w2 := wx) (v := .int .i64 (t : Int)) ?_ (hK _ _ rfl (Fr.refl _ _))
              clear hd hG hK
              go_simp
            refine stepsHold.cons (fun wx hG hd K hK => ?_) ?_
            · have h136 : us 136 = (.slice (some ⟨b8, off8, none⟩) nn c8) := deps_get hd 0 rfl rfl rfl rfl rfl
              have h137 : us 137 = (.int .i64 (t : Int)) := deps_get hd 1 rfl rfl rfl rfl rfl
              rw [if_pos (wanted_none rfl)]
              refine wp_value (w2 := wx) (v := .pointer (some ⟨b8, off8 + t * 2, none⟩)) ?_ (hK _ _ rfl (Fr.refl _ _))
              clear hd hG hK
              go_simp
            refine stepsHold.cons (fun wx hG hd K hK => ?_) ?_
            · have h138 : us 138 = (.pointer (some ⟨b8, off8 + t * 2, none⟩)) := deps_get hd 0 rfl rfl rfl rfl rfl
              rw [if_pos (wanted_none rfl)]
              refine wp_value (w2 := wx) (v := .pointer (some ⟨b8, off8 + t * 2, none⟩)) ?_ (hK _ _ rfl (Fr.refl _ _))
              clear hd hG hK
              go_simp
            refine stepsHold.cons (fun wx hG hd K hK => ?_) ?_
            · have h139 : us 139 = (.pointer (some ⟨b8, off8 + t * 2, none⟩)) := deps_get hd 0 rfl rfl rfl rfl rfl
              rw [if_pos (wanted_none rfl)]
              have hc := kc0 wx hG
              refine wp_value (w2 := wx) (v := .int .i64 (2 * (q : Int))) ?_ (hK _ _ rfl (Fr.refl _ _))
              clear hd hK
              go_simp
            refine stepsHold.cons (fun wx hG hd K hK => ?_) ?_
            · rw [if_pos (wanted_none rfl)]
              refine wp_value (w2 := wx) (v := .slice (some ad13) iN c13) ?_ (hK _ _ rfl (Fr.refl _ _))
              clear hd hG hK
              go_simp
            refine stepsHold.cons (fun wx hG hd K hK => ?_) ?_
            · rw [if_pos (wanted_none rfl)]
              refine wp_value (w2 := wx) (v := .int .i64 (f : Int)) ?_ (hK _ _ rfl (Fr.refl _ _))
              clear hd hG hK
              go_simp
            refine stepsHold.cons (fun wx hG hd K hK => ?_) ?_
            · rw [if_pos (wanted_none rfl)]
              refine wp_value (w2 := wx) (v := .int .i64 (t : Int)) ?_ (hK _ _ rfl (Fr.refl _ _))
              clear hd hG hK
              go_simp
            refine stepsHold.cons (fun wx hG hd K hK => ?_) ?_
            · have h142 : us 142 = (.int .i64 (f : Int)) := deps_get hd 0 rfl rfl rfl rfl rfl
              have h143 : us 143 = (.int .i64 (t : Int)) := deps_get hd 1 rfl rfl rfl rfl rfl
              rw [if_pos (wanted_none rfl)]
              refine wp_value (w2 := wx) (v := .int .i64 (q : Int)) ?_ (hK _ _ rfl (Fr.refl _ _))
              clear hd hG hK
              go_simp
              first | done | (rw [IntKind.wrap_i64]; omega)
            refine stepsHold.cons (fun wx hG hd K hK => ?_) ?_
            · have h141 : us 141 = (.slice (some ad13) iN c13) := deps_get hd 0 rfl rfl rfl rfl rfl
              have h144 : us 144 = (.int .i64 (q : Int)) := deps_get hd 1 rfl rfl rfl rfl rfl
              rw [if_pos (wanted_none rfl)]
              refine wp_value (w2 := wx) (v := .pointer (some (ad13.add q))) ?_ (hK _ _ rfl (Fr.refl _ _))
              clear hd hG hK
              go_simp
            refine stepsHold.cons (fun wx hG hd K hK => ?_) ?_
            · have h145 : us 145 = (.pointer (some (ad13.add q))) := deps_get hd 0 rfl rfl rfl rfl rfl
              rw [if_pos (wanted_none rfl)]
              have hc := kd0 wx hG
              refine wp_value (w2 := wx) (v := .int .i64 (2 * (q : Int))) ?_ (hK _ _ rfl (Fr.refl _ _))
              clear hd hK
              go_simp
            refine stepsHold.cons (fun wx hG hd K hK => ?_) ?_
            · have h140 : us 140 = (.int .i64 (2 * (q : Int))) := deps_get hd 0 rfl rfl rfl rfl rfl
              have h146 : us 146 = (.int .i64 (2 * (q : Int))) := deps_get hd 1 rfl rfl rfl rfl rfl
              rw [if_pos (wanted_none rfl)]
              refine wp_value (w2 := wx) (v := .bool false) ?_ (hK _ _ rfl (Fr.refl _ _))
              clear hd hG hK
              go_simp
            refine stepsHold.cons (fun wx hG hd K hK => ?_) ?_
            · have h147 : us 147 = (.bool false) := deps_get hd 0 rfl rfl rfl rfl rfl
              rw [if_pos (wanted_none rfl)]
              refine wp_value (w2 := wx) (v := .bool false) ?_ (hK _ _ rfl (Fr.refl _ _))
              clear hd hG hK
              go_simp
            refine stepsHold.cons (fun wx hG hd K hK => ?_) ?_
            · have h148 : us 148 = (.bool false) := deps_get hd 0 rfl rfl rfl rfl rfl
              rw [if_pos (wanted_yes rfl rfl rfl rfl h148)]
              refine wp_value (w2 := wx) (v := .slice (some ⟨b8, off8, none⟩) nn c8) ?_ (hK _ _ rfl (Fr.refl _ _))
              clear hd hG hK
              go_simp
            refine stepsHold.cons (fun wx hG hd K hK => ?_) ?_
            · have h148 : us 148 = (.bool false) := deps_get hd 0 rfl rfl rfl rfl rfl
              rw [if_pos (wanted_yes rfl rfl rfl rfl h148)]
              refine wp_value (w2 := wx) (v := .int .i64 (t : Int)) ?_ (hK _ _ rfl (Fr.refl _ _))
              clear hd hG hK
              go_simp
            refine stepsHold.cons (fun wx hG hd K hK => ?_) ?_
            · have h149 : us 149 = (.slice (some ⟨b8, off8, none⟩) nn c8) := deps_get hd 0 rfl rfl rfl rfl rfl
              have h150 : us 150 = (.int .i64 (t : Int)) := deps_get hd 1 rfl rfl rfl rfl rfl
              have h148 : us 148 = (.bool false) := deps_get hd 2 rfl rfl rfl rfl rfl
              rw [if_pos (wanted_yes rfl rfl rfl rfl h148)]
              refine wp_value (w2 := wx) (v := .pointer (some ⟨b8, off8 + t * 2, none⟩)) ?_ (hK _ _ rfl (Fr.refl _ _))
              clear hd hG hK
              go_simp
            refine stepsHold.cons (fun wx hG hd K hK => ?_) ?_
            · have h151 : us 151 = (.pointer (some ⟨b8, off8 + t * 2, none⟩)) := deps_get hd 0 rfl rfl rfl rfl rfl
              have h148 : us 148 = (.bool false) := deps_get hd 1 rfl rfl rfl rfl rfl
              rw [if_pos (wanted_yes rfl rfl rfl rfl h148)]
              refine wp_value (w2 := wx) (v := .pointer (some ⟨b8, off8 + t * 2 + 1, none⟩)) ?_ (hK _ _ rfl (Fr.refl _ _))
              clear hd hG hK
              go_simp
            refine stepsHold.cons (fun wx hG hd K hK => ?_) ?_
            · have h152 : us 152 = (.pointer (some ⟨b8, off8 + t * 2 + 1, none⟩)) := deps_get hd 0 rfl rfl rfl rfl rfl
              have h148 : us 148 = (.bool false) := deps_get hd 1 rfl rfl rfl rfl rfl
              rw [if_pos (wanted_yes rfl rfl rfl rfl h148)]
              have hc := kc1 wx hG
              refine wp_value (w2 := wx) (v := .slice B8 60 cB8) ?_ (hK _ _ rfl (Fr.refl _ _))
              clear hd hK
              go_simp
            refine stepsHold.cons (fun wx hG hd K hK => ?_) ?_
            · have h153 : us 153 = (.slice B8 60 cB8) := deps_get hd 0 rfl rfl rfl rfl rfl
              have h148 : us 148 = (.bool false) := deps_get hd 1 rfl rfl rfl rfl rfl
              rw [if_pos (wanted_yes rfl rfl rfl rfl h148)]
              have hr := conv_at ((HB8.out.keep0 hG).at_) und_bytes und_u8 und7_string cB8
              rw [HYL.out] at hr
              refine wp_value (w2 := wx) (v := .string (strOfNums ys8)) ?_ (hK _ _ rfl (Fr.refl _ _))
              clear hd hK
              go_simp
            refine stepsHold.cons (fun wx hG hd K hK => ?_) ?_
            · have h148 : us 148 = (.bool false) := deps_get hd 0 rfl rfl rfl rfl rfl
              rw [if_pos (wanted_yes rfl rfl rfl rfl h148)]
              refine wp_value (w2 := wx) (v := .int .i64 (f : Int)) ?_ (hK _ _ rfl (Fr.refl _ _))
              clear hd hG hK
              go_simp
            refine stepsHold.cons (fun wx hG hd K hK => ?_) ?_
            · have h148 : us 148 = (.bool false) := deps_get hd 0 rfl rfl rfl rfl rfl
              rw [if_pos (wanted_yes rfl rfl rfl rfl h148)]
              refine wp_value (w2 := wx) (v := .int .i64 (t : Int)) ?_ (hK _ _ rfl (Fr.refl _ _))
              clear hd hG hK
              go_simp
            refine stepsHold.cons (fun wx hG hd K hK => ?_) ?_
            · have h155 : us 155 = (.int .i64 (f : Int)) := deps_get hd 0 rfl rfl rfl rfl rfl
              have h156 : us 156 = (.int .i64 (t : Int)) := deps_get hd 1 rfl rfl rfl rfl rfl
              have h148 : us 148 = (.bool false) := deps_get hd 2 rfl rfl rfl rfl rfl
              rw [if_pos (wanted_yes rfl rfl rfl rfl h148)]
              refine wp_value (w2 := wx) (v := .int .i64 (q : Int)) ?_ (hK _ _ rfl (Fr.refl _ _))
              clear hd hG hK
              go_simp
              first | done | (rw [IntKind.wrap_i64]; omega)
            refine stepsHold.cons (fun wx hG hd K hK => ?_) ?_
            · have h157 : us 157 = (.int .i64 (q : Int)) := deps_get hd 0 rfl rfl rfl rfl rfl
              have h148 : us 148 = (.bool false) := deps_get hd 1 rfl rfl rfl rfl rfl
              rw [if_pos (wanted_yes rfl rfl rfl rfl h148)]
              have hw := HQU.out
              refine wp_value (w2 := wx) (v := .int .u8 (q : Int)) ?_ (hK _ _ rfl (Fr.refl _ _))
              clear hd hG hK
              go_simp
            refine stepsHold.cons (fun wx hG hd K hK => ?_) ?_
            · have h158 : us 158 = (.int .u8 (q : Int)) := deps_get hd 0 rfl rfl rfl rfl rfl
              have h148 : us 148 = (.bool false) := deps_get hd 1 rfl rfl rfl rfl rfl
              rw [if_pos (wanted_yes rfl rfl rfl rfl h148)]
              refine wp_call (w2 := wx) (f := 46) (args := #[.int .i64 60, .int .u8 (q : Int)]) ?_ ?_
              · clear hd hK
                go_simp
              · refine (some60_c (q : Int) (by omega) (by omega)).mono ?_
                rintro e w9 ⟨A9, c9, rfl, hby9, hf9⟩
                have h9 := hby9.at_
                rw [← HYS.out, HYL.out] at h9
                exact ⟨_, rfl, hK _ _ ⟨A9, c9, rfl, h9⟩ hf9⟩
            refine stepsHold.cons (fun wx hG hd K hK => ?_) ?_
            · have h159 := deps_get hd 0 rfl rfl rfl rfl rfl
              have h148 : us 148 = (.bool false) := deps_get hd 1 rfl rfl rfl rfl rfl
              rw [if_pos (wanted_yes rfl rfl rfl rfl h148)]
              obtain ⟨A9, c9, e9, h9⟩ := h159
              have hr := conv_at h9 und_bytes und_u8 und7_string c9
              refine wp_value (w2 := wx) (v := .string (strOfNums ys8)) ?_ (hK _ _ rfl (Fr.refl _ _))
              clear hd hK
              go_simp
            refine stepsHold.cons (fun wx hG hd K hK => ?_) ?_
            · have h154 : us 154 = (.string (strOfNums ys8)) := deps_get hd 0 rfl rfl rfl rfl rfl
              have h160 : us 160 = (.string (strOfNums ys8)) := deps_get hd 1 rfl rfl rfl rfl rfl
              have h148 : us 148 = (.bool false) := deps_get hd 2 rfl rfl rfl rfl rfl
              rw [if_pos (wanted_yes rfl rfl rfl rfl h148)]
              refine wp_value (w2 := wx) (v := .bool false) ?_ (hK _ _ rfl (Fr.refl _ _))
              clear hd hG hK
              go_simp
            refine stepsHold.cons (fun wx hG hd K hK => ?_) ?_
            · have h148 : us 148 = (.bool false) := deps_get hd 0 rfl rfl rfl rfl rfl
              have h161 : us 161 = (.bool false) := deps_get hd 1 rfl rfl rfl rfl rfl
              rw [if_pos (wanted_none rfl)]
              refine wp_value (w2 := wx) (v := .bool false) ?_ (hK _ _ rfl (Fr.refl _ _))
              clear hd hG hK
              go_simp
            exact stepsHold.nil
          case fin =>
            have h136 : us 136 = (.slice (some ⟨b8, off8, none⟩) nn c8) := all_get hall 0 rfl rfl rfl
            have h137 : us 137 = (.int .i64 (t : Int)) := all_get hall 1 rfl rfl rfl
            have h138 : us 138 = (.pointer (some ⟨b8, off8 + t * 2, none⟩)) := all_get hall 2 rfl rfl rfl
            have h139 : us 139 = (.pointer (some ⟨b8, off8 + t * 2, none⟩)) := all_get hall 3 rfl rfl rfl
            have h140 : us 140 = (.int .i64 (2 * (q : Int))) := all_get hall 4 rfl rfl rfl
            have h141 : us 141 = (.slice (some ad13) iN c13) := all_get hall 5 rfl rfl rfl
            have h142 : us 142 = (.int .i64 (f : Int)) := all_get hall 6 rfl rfl rfl
            have h143 : us 143 = (.int .i64 (t : Int)) := all_get hall 7 rfl rfl rfl
            have h144 : us 144 = (.int .i64 (q : Int)) := all_get hall 8 rfl rfl rfl
            have h145 : us 145 = (.pointer (some (ad13.add q))) := all_get hall 9 rfl rfl rfl
            have h146 : us 146 = (.int .i64 (2 * (q : Int))) := all_get hall 10 rfl rfl rfl
            have h147 : us 147 = (.bool false) := all_get hall 11 rfl rfl rfl
            have h148 : us 148 = (.bool false) := all_get hall 12 rfl rfl rfl
            have h149 : us 149 = (.slice (some ⟨b8, off8, none⟩) nn c8) := all_get hall 13 rfl rfl rfl
            have h150 : us 150 = (.int .i64 (t : Int)) := all_get hall 14 rfl rfl rfl
            have h151 : us 151 = (.pointer (some ⟨b8, off8 + t * 2, none⟩)) := all_get hall 15 rfl rfl rfl
            have h152 : us 152 = (.pointer (some ⟨b8, off8 + t * 2 + 1, none⟩)) := all_get hall 16 rfl rfl rfl
            have h153 : us 153 = (.slice B8 60 cB8) := all_get hall 17 rfl rfl rfl
            have h154 : us 154 = (.string (strOfNums ys8)) := all_get hall 18 rfl rfl rfl
            have h155 : us 155 = (.int .i64 (f : Int)) := all_get hall 19 rfl rfl rfl
            have h156 : us 156 = (.int .i64 (t : Int)) := all_get hall 20 rfl rfl rfl
            have h157 : us 157 = (.int .i64 (q : Int)) := all_get hall 21 rfl rfl rfl
            have h158 : us 158 = (.int .u8 (q : Int)) := all_get hall 22 rfl rfl rfl
            have h159 := all_get hall 23 rfl rfl rfl
            have h160 : us 160 = (.string (strOfNums ys8)) := all_get hall 24 rfl rfl rfl
            have h161 : us 161 = (.bool false) := all_get hall 25 rfl rfl rfl
            have h162 : us 162 = (.bool false) := all_get hall 26 rfl rfl rfl
            simp only [fillL, Nat.reduceAdd]
            clear hall
            simp only [h136, h137, h138, h139, h140, h141, h142, h143, h144, h145, h146, h147, h148, h149, h150, h151, h152, h153, h154, h155, h156, h157, h158, h160, h161, h162]
            clear h136 h137 h138 h139 h140 h141 h142 h143 h144 h145 h146 h147 h148 h149 h150 h151 h152 h153 h154 h155 h156 h157 h158 h160 h161 h162
            go_wp2_with fail
            go_roundg (nn - (t + 1))
            case measure => omega
            case rel => exact ⟨t + 1, by omega, rfl, by first | rfl | (go_num), hF.then0 hG⟩
        · have htn : t = nn := by omega
          subst htn
          have HFF := Lib.hid (HF6.out.then0 hF)
          go_wp2_with fail
          refine (append7_nil _).mono ?_
          rintro e w10 ⟨rfl, rfl⟩
          go_wp2_with fail
          refine (force7_nil).mono ?_
          rintro e w10 ⟨rfl, rfl⟩
          go_wp2_with fail
          refine (wdrop_nil _).mono ?_
          rintro e w10 ⟨rfl, rfl⟩
          go_wp2_with fail
          refine (nil7_c.1).mono ?_
          rintro e w10 ⟨rfl, rfl⟩
          go_wp2_with fail
          refine (nil7_c.2.1).mono ?_
          rintro e w10 ⟨rfl, rfl⟩
          go_wp2_with fail
          refine (nil7_c.2.2.1).mono ?_
          rintro e w10 ⟨rfl, rfl⟩
          go_wp2_with fail
          refine (nil7_c.2.2.2).mono ?_
          rintro e w10 ⟨rfl, rfl⟩
          go_wp2_with fail
          go_ret
          exact ⟨rfl, HFF.out⟩
end
end Go.Proofs.YtdeckbdaencjnaaDoor

