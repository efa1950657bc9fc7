/-
  heronrylaw07: WalEpochs. Conditions: none.
-/
import Derived.Test.YtdeckbdaencjnaaDoorL7g
import Derived.Test.YtdeckbdaencjnaaDoorP7l
set_option linter.unusedVariables false
set_option linter.unusedSimpArgs false
namespace Go.Proofs.YtdeckbdaencjnaaDoor
open Go.RowKit
theorem run_upto_recs (A : Option Addr) (n c m : Nat) (hm : m ≤ c) (W : World) :
    (Instr.slice 72 (.slice A n c) none (some (.int .i64 (m : Int))) none).run Tryd.prog W = .ok (.slice A m c) W := by
  obtain ⟨i, hi, hzz⟩ := Option.map_eq_some_iff.1 info_rec
  simp only [Prod.mk.injEq] at hzz
  have hel : Tryd.prog.elem 72 = 79 := by simp [Program.elem, und_recs]
  have hu : Tryd.prog.underlying 72 = some (.slice (Tryd.prog.elem 72)) := by rw [hel]; exact und_recs
  rw [run_slice_h W 72 A n c hu .i64 (m : Int) (Int.natCast_nonneg _) (by omega), hel]
  simp [sizeOf, typeInfo, hi, hzz.2.1, sliced, Result.andThen]
  try (cases A <;> simp [Addr.add])
/-- A log's own block holds no bytes. -/
theorem LogAt.no_bytes {w : World} {lg db : Nat} {L : Lg} (h : LogAt w lg db L) {ad : Addr} {c : Nat} {xs : List Int} (hb : Byt w (some ad) c xs) (hp : 0 < xs.length) : ad.block ≠ lg := by
  intro e
  obtain ⟨ad', e', hc⟩ := hb.at_.2 hp
  cases e'
  have h0 := hc 0 (.int .u8 (xs[0]'hp)) (by simp [hp])
  obtain ⟨b9, o9, s9⟩ := ad
  have hb' : b9 = lg := e
  subst hb'
  have h1 : w.cell? ((⟨b9, o9, s9⟩ : Addr).add 0) = some (.int .u8 (xs[0]'hp)) := h0
  have hs9 : s9 = none := World.cell?_spot h1
  subst hs9
  have h2 : w.cell? ⟨b9, o9 + 0, none⟩ = some (.int .u8 (xs[0]'hp)) := h1
  have hrow := h.row
  rw [cell_of hrow] at h2
  rw [List.getElem?_toArray] at h2
  have hm := List.mem_of_getElem? h2
  simp [Lg.cells] at hm
theorem bools_lt {w : World} {A : Option Addr} {bs : List Bool} (hB : ValsAt w A (bs.map Value.bool)) : ∀ ad, A = some ad → 0 < bs.length → ad.block < w.heap.size := by
  intro ad e hp
  subst e
  obtain ⟨ad', e', hc⟩ := hB.cells (by simpa using hp)
  cases e'
  have h0 := hc 0 (.bool (bs[0]'hp)) (by simp [hp])
  have h1 := World.block_lt_of_cell? w _ h0
  simpa [Addr.add] using h1
/-- A slice of no elements, just made. -/
theorem own_empty (W : World) (t : TypeId) : (W.alloc (.cells #[] t)).ownsRow W.heap.size t 2 (.slice (some ⟨W.heap.size, 0, none⟩) 0 0) 0 [] :=
  ⟨by simp, .inr ⟨W.heap.size, 0, #[], rfl, Nat.le_refl _, heap_alloc_new W _, Nat.le_refl _, by simp [maxLen], by simp, by simp⟩⟩
theorem row_apart {w : World} {ly db lb mb base : Nat} {L : Lg} (hl : LogAt w ly db L) (hlt : ∀ k, Lv ly db lb mb k → k < w.heap.size) (hd : ∀ k, Dv db lb mb k → k < base) {t : TypeId} {ad : Addr} {c : Nat} {xs : List Int} (hb : Byt (w.alloc (.cells #[] t)) (some ad) c xs) (hp : 0 < xs.length) (hbase : base ≤ ad.block) :
    (Value.slice (some ⟨w.heap.size, 0, none⟩) 0 0).ownBlock ≠ some ad.block ∧ ¬ Lv ly db lb mb ad.block := by
  have hfa : Fr F0 w (w.alloc (.cells #[] t)) := (Fr.refl _ w).alloc _
  refine ⟨fun h => ?_, fun h => ?_⟩
  · simp only [Value.ownBlock, Option.some.injEq] at h
    obtain ⟨ad', e', hc⟩ := hb.at_.2 hp
    cases e'
    have h0 := hc 0 (.int .u8 (xs[0]'hp)) (by simp [hp])
    obtain ⟨b9, o9, s9⟩ := ad
    have hb' : w.heap.size = b9 := h
    subst hb'
    have h1 : (w.alloc (.cells #[] t)).cell? ((⟨w.heap.size, o9, s9⟩ : Addr).add 0) = some (.int .u8 (xs[0]'hp)) := h0
    have hs9 : s9 = none := World.cell?_spot h1
    subst hs9
    have h2 : (w.alloc (.cells #[] t)).cell? ⟨w.heap.size, o9 + 0, none⟩ = some (.int .u8 (xs[0]'hp)) := h1
    rw [cell_of (heap_alloc_new w _)] at h2
    simp at h2
  · rcases h with h | h
    · exact (hl.keep0 hfa).no_bytes hb hp h
    · have := hd _ h; omega
section
variable {w : World}
set_option maxRecDepth 100000 in
set_option maxHeartbeats 8000000 in
theorem epochs_walk (A0 : Option Addr) (n0 c0 : Nat) (xs : List Int) (A1 : Option Addr) (n1 c1 : Nat) (zs : List Int) (A2 : Option Addr) (n2 c2 : Nat) (bs : List Bool) (A3 : Option Addr) (n3 c3 : Nat) (ds : List Bool)
    (hl0 : xs.length = n0) (hV0 : ValsAt w A0 (xs.map (Value.int .i64))) (hn0 : n0 ≤ 9223372036854775807) (hl1 : zs.length = n1) (hV1 : ValsAt w A1 (zs.map (Value.int .i64))) (hn1 : n1 ≤ 9223372036854775807)
    (hl2 : bs.length = n2) (hB2 : ValsAt w A2 (bs.map Value.bool)) (hn2 : n2 ≤ 9223372036854775807) (hl3 : ds.length = n3) (hB3 : ValsAt w A3 (ds.map Value.bool)) (hn3 : n3 ≤ 9223372036854775807) :
    Calls Tryd.prog 10 #[.slice A0 n0 c0, .slice A1 n1 c1, .slice A2 n2 c2, .slice A3 n3 c3] w fun e w' => e = .returned (.bool true) ∧ Fr F0 w w' := by
  have HL0 := Lib.hid hl0
  have HV0 := Lib.hid hV0
  have HL1 := Lib.hid hl1
  have HV1 := Lib.hid hV1
  have HL2 := Lib.hid hl2
  have HV2 := Lib.hid hB2
  have HL3 := Lib.hid hl3
  have HV3 := Lib.hid hB3
  have HAB2 : Hid (∀ ad, A2 = some ad → 0 < bs.length → ad.block < w.heap.size) := Lib.hid (bools_lt hB2)
  have HAB3 : Hid (∀ ad, A3 = some ad → 0 < ds.length → ad.block < w.heap.size) := Lib.hid (bools_lt hB3)
  clear hl0 hl1 hl2 hl3 hV0 hV1 hB2 hB3
  have a0 : (0 : Int) ≤ (n0 : Int) := Int.natCast_nonneg _
  have a1 : (0 : Int) ≤ (n1 : Int) := Int.natCast_nonneg _
  have a2 : (0 : Int) ≤ (n2 : Int) := Int.natCast_nonneg _
  have a3 : (0 : Int) ≤ (n3 : Int) := Int.natCast_nonneg _
  by_cases hbig0 : 12 < n0
  · have hb0 : (12 : Int) < (n0 : Int) := by omega
    go_enter Tryd.func10, Tryd.ntmps10
    go_wp2_with fail
    refine (awake7_c).mono ?_
    rintro e w1 ⟨rfl, hf1⟩
    go_wp2_with fail
    go_ret
    exact ⟨rfl, hf1⟩
  have hb0 : ¬ (12 : Int) < (n0 : Int) := by omega
  by_cases hbig1 : 12 < n1
  · have hb1 : (12 : Int) < (n1 : Int) := by omega
    go_enter Tryd.func10, Tryd.ntmps10
    go_wp2_with fail
    refine (awake7_c).mono ?_
    rintro e w1 ⟨rfl, hf1⟩
    go_wp2_with fail
    go_ret
    exact ⟨rfl, hf1⟩
  have hb1 : ¬ (12 : Int) < (n1 : Int) := by omega
  by_cases hbig2 : 100 < n2
  · have hb2 : (100 : Int) < (n2 : Int) := by omega
    go_enter Tryd.func10, Tryd.ntmps10
    go_wp2_with fail
    refine (awake7_c).mono ?_
    rintro e w1 ⟨rfl, hf1⟩
    go_wp2_with fail
    go_ret
    exact ⟨rfl, hf1⟩
  have hb2 : ¬ (100 : Int) < (n2 : Int) := by omega
  by_cases hbig3 : 100 < n3
  · have hb3 : (100 : Int) < (n3 : Int) := by omega
    go_enter Tryd.func10, Tryd.ntmps10
    go_wp2_with fail
    refine (awake7_c).mono ?_
    rintro e w1 ⟨rfl, hf1⟩
    go_wp2_with fail
    go_ret
    exact ⟨rfl, hf1⟩
  have hb3 : ¬ (100 : Int) < (n3 : Int) := by omega
  obtain ⟨p1, p2, p3⟩ := Laid.new (n := 64) (from_ := 0) (size := 64) (head := 0) (epoch := 1) ring0_sane (by decide) (by decide) (by decide)
  have P1 := Lib.hid p1
  have P3 := Lib.hid p3
  have PN : Hid (logMay (Dev.new 64) 0 64 0 1 = 0) := Lib.hid (logMay_new (n := 64) (by decide) (by decide) (by decide) (by decide) (by decide) (by decide) (by decide) rfl (by simp [Dev.new]))
  clear p1 p2 p3
  go_enter Tryd.func10, Tryd.ntmps10
  go_wp2_with fail
  refine (awake7_c).mono ?_
  rintro e w1 ⟨rfl, hf1⟩
  go_wp2_with fail
  refine (new_c 64 (by decide) (by decide) _).mono ?_
  rintro e w2 ⟨db, lb, mb, rfl, h1, q1, q2, q3, hf2⟩
  go_wp2_with fail
  refine (wopen_c h1 (SecBys.new 64) 0 64 0 1).mono ?_
  rintro e w3 ⟨-, hgood, hf3⟩
  obtain ⟨lg, v3, rfl, hlg, hlog, -⟩ := hgood PN.out
  rw [P1.out] at hlog
  have HIN : Hid (LogIn w.heap.size w3 lg db lb mb ⟨⟨0, 64, 0, 0⟩, 1, 0, false⟩ (Dev.new 64)) := Lib.hid (by
    have z1 := hf1.size
    have z2 := hf2.size
    refine ⟨hlog, h1.keep0 hf3, ?_, ?_⟩
    · have := h1.lt
      rintro (h | h | h) <;> omega
    · rintro k (h | h | h | h) <;> omega)
  have HF3 := Lib.hid ((hf1.then0 hf2).then0 hf3)
  clear hgood hlog h1 q1 q2 q3 hlg hf1 hf2 hf3
  go_wp2_with fail
  go_loopg [15] n0 (fun kq x15 wr => ∃ j : Nat, j ≤ n0 ∧ kq = n0 - j ∧ x15 = .int .i64 (j : Int) ∧ ∃ L D R, R.length ≤ j ∧ LogIn w.heap.size wr lg db lb mb L D ∧ Laid L D 64 R (fun _ => zsec) ∧ (L.epoch = 1 ∧ L.r.from_ = 0 ∧ L.r.size = 64 ∧ L.r.head = 0) ∧ D.laid = (Dev.new 64).laid ∧ Fr F0 w wr)
  case atStart => exact ⟨0, by omega, rfl, rfl, _, _, [], Nat.le_refl _, HIN.out, P3.out, ⟨rfl, rfl, rfl, rfl⟩, rfl, HF3.out⟩
  case round =>
    obtain ⟨j, hj, rfl, rfl, L, D, R, hRj, hin, hlaid, hnum, hld, hfr⟩ := hrel
    have HI := Lib.hid hin
    have HLA := Lib.hid hlaid
    have HNU := Lib.hid hnum
    have HLD := Lib.hid hld
    have HF := Lib.hid hfr
    clear hin hlaid hnum hfr hld
    by_cases hlt : j < n0
    · have j0 : (0 : Int) ≤ (j : Int) := Int.natCast_nonneg _
      have j1 : (j : Int) < (n0 : Int) := by omega
      obtain ⟨x, hx⟩ : ∃ x, xs[j]? = some x := ⟨xs[j]'(by rw [HL0.out]; exact hlt), List.getElem?_eq_getElem _⟩
      obtain ⟨ad, rfl, hc⟩ := (HV0.out.keep0 HF.out).cells (by rw [List.length_map, HL0.out]; omega)
      have gx : wr.cell? (ad.add j) = some (.int .i64 x) := hc j _ (by simp [hx])
      obtain ⟨m, hm⟩ : ∃ m : Nat, x % 128 = (m : Int) := ⟨(x % 128).toNat, by omega⟩
      have hm1 : m < 128 := by omega
      have hband : bits .and .i64 x 127 = (m : Int) := by rw [← hm]; exact i64_and x 7 (by decide)
      have hjb : IntKind.u8.wrap (j : Int) = (j : Int) := by rw [IntKind.wrap_u8]; omega
      clear hc hx hm
      go_wp2_with fail
      refine (some_c m (by omega) (j : Int) (by omega) (by omega)).mono ?_
      rintro e w4 ⟨v4, rfl, hov⟩
      obtain ⟨A4, c4, rfl, hby, -⟩ := hov.byt
      have HI4 := Lib.hid (HI.out.keep0 hov.fr)
      have HF4 := Lib.hid (HF.out.then0 hov.fr)
      have HBY := Lib.hid hby
      obtain ⟨ys, hys⟩ : ∃ ys, ys = someL m (j : Int) := ⟨_, rfl⟩
      rw [← hys] at HBY ⊢
      have HYB : Hid (Bys ys) := Lib.hid (by rw [hys]; exact someL_bys _ _)
      have HYL : Hid (ys.length ≤ 44000) := Lib.hid (by rw [hys, someL_len]; omega)
      clear hov hby hys
      go_wp2_with fail
      refine (HI4.out.append HLA.out A4 c4 ys HBY.out HYB.out HYL.out).mono ?_
      rintro e w5 ⟨rfl, hin5, hf5⟩
      have HI5 := Lib.hid hin5
      have HF5 := Lib.hid (HI4.out.fr HF4.out hf5)
      clear hin5 hf5
      go_wp2_with fail
      go_roundg (n0 - (j + 1))
      case measure => omega
      case rel =>
        obtain ⟨e1, e2, e3, e4⟩ := HNU.out
        rcases HLA.out.app HYB.out HYL.out with ⟨_, _, u2, u3, u4, u5, _⟩ | ⟨u2, u3, _, u5, ul, hla7⟩
        · have h5 := HI5.out
          rw [u4, u5] at h5
          exact ⟨j + 1, by omega, rfl, by first | rfl | (go_num), _, _, R, by omega, h5, HLA.out, HNU.out, HLD.out, HF5.out⟩
        · have h5 := HI5.out
          rw [u5] at h5
          exact ⟨j + 1, by omega, rfl, by first | rfl | (go_num), _, _, R ++ [ys], by rw [List.length_append]; simp; omega, h5, hla7, ⟨e1, e2, e3, e4⟩, by rw [ul]; exact HLD.out, HF5.out⟩
    · have hjn : j = n0 := by omega
      subst hjn
      obtain ⟨M, last, hep1, hMR⟩ := Ep1.of HLA.out HNU.out.1 HNU.out.2.1 HNU.out.2.2.1 HNU.out.2.2.2 HLD.out bs
      have HE1 := Lib.hid hep1
      have HB0 := Lib.hid HLA.out.bys
      have HM12 : Hid (M.length ≤ 12) := Lib.hid (by omega)
      obtain ⟨D2, hD2⟩ : ∃ D2, D2 = D.crash bs := ⟨_, rfl⟩
      have HDD := Lib.hid hD2
      rw [← hD2] at HE1
      have HMAY2 : Hid (logMay D2 0 64 0 2 = 0) := Lib.hid (logMay_new (n := 64) (by decide) (by decide) (by decide) (by decide) (by decide) (by decide) (by decide) HE1.out.good.gone HE1.out.good.laid)
      have HT0 : Hid (0 ≤ endAt 0 M) := Lib.hid (by have := endAt_ge M 0; omega)
      clear hep1 hMR hD2 hRj hlt hj
      go_wp2_with fail
      refine (crash_c HI.out.dev A2 c2 bs n2 HL2.out (HV2.out.keep0 HF.out) (fun ad e hp h => by have h1 := HAB2.out ad e hp; have h2 := HI.out.new _ (.inr h); omega) (by omega)).mono ?_
      rintro e w5 ⟨rfl, hd5, hf5⟩
      rw [← HDD.out] at hd5
      have HD5 := Lib.hid hd5
      have HF5 := Lib.hid (HI.out.fr HF.out (hf5.mono (fun _ h => .inr h)))
      have HNEW : Hid (∀ k, Dv db lb mb k → w.heap.size ≤ k) := Lib.hid (fun k hk => HI.out.new k (.inr hk))
      clear hd5 hf5
      go_wp2_with fail
      refine (wopen_c HD5.out HE1.out.bys 0 64 0 2).mono ?_
      rintro e w6 ⟨-, hgood, hf6⟩
      obtain ⟨ly, v6, rfl, hly, hlog6, hrecs6⟩ := hgood HMAY2.out
      rw [HE1.out.opened] at hrecs6
      have HIY : Hid (LogIn w.heap.size w6 ly db lb mb (openL D2 0 64 0 2) D2) := Lib.hid (by
        have z1 := HF5.out.size
        refine ⟨hlog6, HD5.out.keep0 hf6, ?_, ?_⟩
        · have := HD5.out.lt
          rintro (h | h | h) <;> omega
        · rintro k (h | h)
          · omega
          · exact HNEW.out k h)
      have HLT : Hid (∀ k, Lv ly db lb mb k → k < w6.heap.size) := Lib.hid (fun k hk => by
        have h1 := HIY.out.log.lt
        obtain ⟨h2, h3, h4⟩ := HIY.out.dev.lt
        rcases hk with h | h | h | h <;> omega)
      have HF6 := Lib.hid (HF5.out.then0 hf6)
      have HR6 := Lib.hid hrecs6
      have HDLT : Hid (∀ k, Dv db lb mb k → k < w5.heap.size) := Lib.hid (fun k hk => by
        obtain ⟨h2, h3, h4⟩ := HD5.out.lt
        rcases hk with h | h | h <;> omega)
      obtain ⟨A17, c17, hv17, -, hc17, -⟩ := OwnRowB.reads (head := recHead) (byt := fun x : Int × List Int => x.2) (hd := 1) (fun _ => rfl) hrecs6
      obtain ⟨ml, hml⟩ : ∃ ml, ml = M.length := ⟨_, rfl⟩
      have hv17' : v6 = .slice A17 ml c17 := by rw [hv17, hml]; simp [recsAt_len]
      subst hv17'
      have HML := Lib.hid hml
      have hml12 : ml ≤ 12 := by rw [hml]; exact HM12.out
      have ml0 : (0 : Int) ≤ (ml : Int) := Int.natCast_nonneg _
      clear hgood hly hlog6 hrecs6 hf6 hv17 hc17 hml
      go_wp2_with (at_builtin; refine wpList_append_rowN_all (t := 79) (hd := 1) (head := recHead) (byt := fun x : Int × List Int => x.2) (N := fun k => ¬ Lv ly db lb mb k) rfl (.tmp 83) (.tmp 84) 72 32 (.agg #[.int .i64 0, .slice none 0 0]) rfl und_recs info_rec rfl (by decide) (fun _ => rfl) (fun _ u hu => by simp at hu; subst hu; rfl) w6.heap.size w5.heap.size (.slice (some ⟨w6.heap.size, 0, none⟩) 0 0) (.slice A17 ml c17) (recsAt 0 M) (by rfl) (by rfl) (own_empty _ _) (HR6.out.keep ((Fr.refl F0 w6).alloc _)) (fun ad c xs hb hp hbase => by exact row_apart HIY.out.log HLT.out HDLT.out hb hp hbase) (by simp) (by rw [recsAt_len]; have := HM12.out; omega) ?_; intro v19 w7 hown7 hf7)
      have hfr7 : Fr F0 w w7 := HF6.out.trans (((Fr.refl F0 w6).alloc _).of0.trans hf7 (fun k hk => .inl hk)) (fun k hk => by
        simp only [Value.ownBlock, Option.some.injEq] at hk
        exact .inr (by have := HF6.out.size; omega))
      have HIY7 := Lib.hid ((HIY.out.keep0 ((Fr.refl F0 w6).alloc _)).keepL hf7 (fun k hk h => by
        simp only [Value.ownBlock, Option.some.injEq] at h
        have := HLT.out k hk
        omega))
      have hsz7 : w6.heap.size ≤ w7.heap.size := by have := hf7.size; simp at this; omega
      have HO7 := Lib.hid hown7
      have HF7 := Lib.hid hfr7
      have HEP : Hid (Ep2 D2 (endAt 0 M) (openL D2 0 64 0 2) D2 []) := Lib.hid HE1.out.next
      clear hown7 hf7 hfr7
      go_wp2_with fail
      go_loopg [19, 20, 21, 22, 23] n1 (fun kq x19 x20 x21 x22 x23 wr => ∃ j : Nat, j ≤ n1 ∧ kq = n1 - j ∧ x20 = .int .i64 (j : Int) ∧ ∃ L D R, R.length ≤ j ∧ LogIn w.heap.size wr ly db lb mb L D ∧ Ep2 D2 (endAt 0 M) L D R ∧ OwnRowN recHead (fun x : Int × List Int => x.2) 1 79 (fun k => ¬ Lv ly db lb mb k) wr w6.heap.size x19 (recsAt 0 M ++ recsAt (endAt 0 M) R) ∧ Fr F0 w wr ∧ w6.heap.size ≤ wr.heap.size)
      case atStart => exact ⟨0, by omega, rfl, rfl, _, _, [], Nat.le_refl _, HIY7.out, HEP.out, by simpa [recsAt] using HO7.out, HF7.out, hsz7⟩
      case round =>
        obtain ⟨j, hj, rfl, rfl, L, D, R, hRj, hin, hep, hown, hfr, hsz⟩ := hrel
        have HI := Lib.hid hin
        have HEP := Lib.hid hep
        have HO := Lib.hid hown
        have HF := Lib.hid hfr
        clear hin hep hown hfr
        by_cases hlt : j < n1
        · have j0 : (0 : Int) ≤ (j : Int) := Int.natCast_nonneg _
          have j1 : (j : Int) < (n1 : Int) := by omega
          obtain ⟨x, hx⟩ : ∃ x, zs[j]? = some x := ⟨zs[j]'(by rw [HL1.out]; exact hlt), List.getElem?_eq_getElem _⟩
          obtain ⟨ad, rfl, hc⟩ := (HV1.out.keep0 HF.out).cells (by rw [List.length_map, HL1.out]; omega)
          have gx : wr.cell? (ad.add j) = some (.int .i64 x) := hc j _ (by simp [hx])
          obtain ⟨m, hm⟩ : ∃ m : Nat, x % 128 = (m : Int) := ⟨(x % 128).toNat, by omega⟩
          have hm1 : m < 128 := by omega
          have hband : bits .and .i64 x 127 = (m : Int) := by rw [← hm]; exact i64_and x 7 (by decide)
          have hjb : IntKind.u8.wrap (j : Int) = (j : Int) := by rw [IntKind.wrap_u8]; omega
          have hjc : IntKind.u8.wrap (100 + (j : Int)) = 100 + (j : Int) := by rw [IntKind.wrap_u8]; omega
          clear hc hx hm
          go_wp2_with fail
          refine (some_c m (by omega) (100 + (j : Int)) (by omega) (by omega)).mono ?_
          rintro e w8 ⟨v8, rfl, hov⟩
          obtain ⟨A8, c8, rfl, hby, hnew⟩ := hov.byt
          have HI8 := Lib.hid (HI.out.keep0 hov.fr)
          have HF8 := Lib.hid (HF.out.then0 hov.fr)
          have HO8 := Lib.hid (HO.out.keep hov.fr)
          have HBY := Lib.hid hby
          obtain ⟨ys, hys⟩ : ∃ ys, ys = someL m (100 + (j : Int)) := ⟨_, rfl⟩
          rw [← hys] at HBY ⊢
          have HYB : Hid (Bys ys) := Lib.hid (by rw [hys]; exact someL_bys _ _)
          have HYL : Hid (ys.length ≤ 44000) := Lib.hid (by rw [hys, someL_len]; omega)
          have HNW : Hid (∀ ad, A8 = some ad → wr.heap.size ≤ ad.block) := Lib.hid hnew
          have HS8 : Hid (wr.heap.size ≤ w8.heap.size) := Lib.hid hov.fr.size
          clear hov hby hys hnew gx hband hjb hjc
          go_wp2_with fail
          refine (append7_c HI8.out.log HI8.out.dev HI8.out.ap HEP.out.from7.sane HEP.out.from7.e0 HEP.out.from7.e1 A8 ys.length c8 ys HBY.out rfl HYB.out HYL.out).mono ?_
          rintro e w9 ⟨rfl, hl9, hd9, hf9⟩
          have HI9 := Lib.hid (HI8.out.step hl9 hd9)
          have HF9 := Lib.hid (HI8.out.fr HF8.out hf9)
          have HO9 := Lib.hid (HO8.out.keepS hf9 (fun k hk h => h hk) (fun k hk h => by have h1 := HLT.out k hk; have h2 := HO8.out.base_le _ h; omega))
          have HB9 := Lib.hid (HBY.out.keep hf9 (fun hp ad e h => by have h1 := HNW.out ad e; have h2 := HLT.out _ h; omega))
          have HS9 : Hid (wr.heap.size ≤ w9.heap.size) := Lib.hid (Nat.le_trans HS8.out hf9.size)
          clear hl9 hd9 hf9
          rcases HEP.out.app HT0.out HYB.out HYL.out with ⟨g1, g2, g3⟩ | ⟨g1, g2, hep9⟩
          · obtain ⟨ap, hap⟩ : ∃ ap, ap = L.appP D ys := ⟨_, rfl⟩
            rw [g1, ← hap]
            rw [g2, g3] at HI9
            clear g1 g2 g3 hap
            go_wp2_with fail
            go_roundg (n1 - (j + 1))
            case measure => omega
            case rel => exact ⟨j + 1, by omega, rfl, by first | rfl | (go_num), _, _, R, by omega, HI9.out, HEP.out, HO9.out, HF9.out, Nat.le_trans hsz HS9.out⟩
          · have HEP9 := Lib.hid hep9
            rw [g1, g2]
            obtain ⟨ap, hap⟩ : ∃ ap, ap = endAt (endAt 0 M) R := ⟨_, rfl⟩
            rw [← hap]
            have HAP := Lib.hid hap
            have HLEN : Hid ((recsAt 0 M ++ recsAt (endAt 0 M) R).length ≤ 24 ) := Lib.hid (by rw [List.length_append, recsAt_len, recsAt_len]; have := HM12.out; omega)
            clear g1 g2 hep9 hap
            go_wp2_with (at_builtin; refine wpList_append_rowN (t := 79) (hd := 1) (head := recHead) (byt := fun x : Int × List Int => x.2) (N := fun k => ¬ Lv ly db lb mb k) rfl (.tmp 109) (.tmp 113) 72 32 (.agg #[.int .i64 0, .slice none 0 0]) rfl und_recs info_rec rfl (by decide) (fun _ => rfl) (fun _ u hu => by simp at hu; subst hu; rfl) w6.heap.size u19 (recsAt 0 M ++ recsAt (endAt 0 M) R) (ap, ys) A8 c8 w9.heap.size rfl (by rfl) (by rfl) HO9.out HB9.out HYB.out (fun ad e hp => ⟨fun h => by have h1 := HNW.out ad e; have h2 := HO.out.lt _ h; omega, fun h => by have h1 := HNW.out ad e; have h2 := HLT.out _ h; omega⟩) (by have := HS9.out; omega) (by have := HLEN.out; omega) ?_; intro v10 w10 hown10 hf10)
            have HI10 := Lib.hid (HI9.out.keepL hf10 (fun k hk h => by have h1 := HLT.out k hk; have h2 := HO.out.base_le _ h; omega))
            have HF10 := Lib.hid (HF9.out.trans hf10 (fun k hk => .inr (by have h2 := HO.out.base_le _ hk; have h3 := HF6.out.size; omega)))
            have HO10 := Lib.hid hown10
            have HS10 : Hid (wr.heap.size ≤ w10.heap.size) := Lib.hid (Nat.le_trans HS9.out hf10.size)
            clear hown10 hf10
            go_wp2_with fail
            go_roundg (n1 - (j + 1))
            case measure => omega
            case rel => exact ⟨j + 1, by omega, rfl, by first | rfl | (go_num), _, _, R ++ [ys], by rw [List.length_append]; simp; omega, HI10.out, HEP9.out, (by rw [recsAt_snoc, ← List.append_assoc, ← HAP.out]; exact HO10.out), HF10.out, Nat.le_trans hsz HS10.out⟩
        · have hjn : j = n1 := by omega
          subst hjn
          have hR12 : R.length ≤ 12 := by omega
          have HR12 := Lib.hid hR12
          clear hlt hj hRj hR12
          obtain ⟨h2, hh2⟩ : ∃ h2 : Nat, n3 % 2 = h2 := ⟨_, rfl⟩
          have hbandh : bits .and .i64 (n3 : Int) 1 = (h2 : Int) := by
            have h5 := i64_and (n3 : Int) 1 (by decide)
            have h6 : (n3 : Int) % 2 = (h2 : Int) := by omega
            rw [← h6]
            exact h5
          obtain ⟨A19, c19, hv19, hra19, -, -⟩ := OwnRowC.reads (head := recHead) (byt := fun x : Int × List Int => x.2) (hd := 1) (fun _ => rfl) HO.out.toC
          obtain ⟨an, han⟩ : ∃ an, an = M.length + R.length := ⟨_, rfl⟩
          have hv19' : u19 = .slice A19 an c19 := by rw [hv19, han]; simp [recsAt_len]
          subst hv19'
          have HAN := Lib.hid han
          have an0 : (0 : Int) ≤ (an : Int) := Int.natCast_nonneg _
          have hmlan : ml ≤ an := by rw [han, HML.out]; omega
          have han24 : an ≤ 24 := by rw [han]; have := HM12.out; have := HR12.out; omega
          clear hv19 hra19 han
          by_cases hodd : h2 = 1
          · subst hodd
            obtain ⟨f1, f2, f3, f4, _, _⟩ := HEP.out.from7.force
            have HOP := Lib.hid (HEP.out.forced HE1.out ds)
            have HGD := Lib.hid f4.good
            have HGB := Lib.hid f4.bys
            have HFE := Lib.hid f1
            clear f1 f2 f4 hh2
            go_wp2_with fail
            refine (HI.out.force HFE.out rfl f3).mono ?_
            rintro e w10 ⟨rfl, hin10, hf10⟩
            have HI10 := Lib.hid hin10
            have HF10 := Lib.hid (HI.out.fr HF.out hf10)
            have HO10 := Lib.hid (HO.out.keepS hf10 (fun k hk h => h hk) (fun k hk h => by have h1 := HLT.out k hk; have h2 := HO.out.base_le _ h; omega))
            obtain ⟨D4, hD4⟩ : ∃ D4, D4 = D.flush := ⟨_, rfl⟩
            rw [← hD4] at HI10 HOP HGD HGB
            have HEX : Hid (∃ m2, m2 ≤ R.length ∧ (opened (D4.crash ds) 0 64 0 3).1 = recsAt 0 M ++ recsAt (endAt 0 M) (R.take m2) ∧ an ≤ M.length + m2) := Lib.hid ⟨R.length, Nat.le_refl _, by rw [List.take_length]; exact HOP.out, by rw [HAN.out]; omega⟩
            clear hin10 hf10 hD4 f3
            obtain ⟨m2, g1, g2, g3⟩ := HEX.out
            obtain ⟨mm, hmm⟩ : ∃ mm, mm = M.length + m2 := ⟨_, rfl⟩
            obtain ⟨recs, hrecs⟩ : ∃ recs, recs = recsAt 0 M ++ recsAt (endAt 0 M) (R.take m2) := ⟨_, rfl⟩
            have HMM : Hid (recs.length = mm) := Lib.hid (by rw [hrecs, hmm, List.length_append, recsAt_len, recsAt_len, List.length_take]; omega)
            have HTK : Hid ((recsAt 0 M ++ recsAt (endAt 0 M) R).take mm = recs) := Lib.hid (by
              rw [hrecs, hmm, List.take_append, recsAt_len, List.take_of_length_le (by rw [recsAt_len]; omega), recsAt_take]
              congr 2
              omega)
            rw [← hrecs] at g2
            have HOPN := Lib.hid g2
            have hmm1 : ¬ mm < an := by omega
            have hmm2a : mm ≤ an := by rw [hmm, HAN.out]; omega
            have hmm2 : ¬ an < mm := by omega
            have hmm24 : mm ≤ 24 := by omega
            have mm0 : (0 : Int) ≤ (mm : Int) := Int.natCast_nonneg _
            have HMAY3 : Hid (logMay (D4.crash ds) 0 64 0 3 = 0) := Lib.hid (logMay_new (n := 64) (by decide) (by decide) (by decide) (by decide) (by decide) (by decide) (by decide) rfl (by rw [Dev.crash_len]; exact HGD.out.laid))
            clear g1 g2 g3 hmm hrecs HEX
            go_wp2_with fail
            refine (crash_c HI10.out.dev A3 c3 ds n3 HL3.out (HV3.out.keep0 HF10.out) (fun ad e hp h => by have h1 := HAB3.out ad e hp; have h2 := HI10.out.new _ (.inr h); omega) (by omega)).mono ?_
            rintro e w11 ⟨rfl, hd11, hf11⟩
            have HD11 := Lib.hid hd11
            have HF11 := Lib.hid (HI10.out.fr HF10.out (hf11.mono (fun _ h => .inr h)))
            have HO11 := Lib.hid (HO10.out.keepS hf11 (fun k hk h => h (.inr hk)) (fun k hk h => by have h1 := HLT.out k (.inr hk); have h2 := HO10.out.base_le _ h; omega))
            clear hd11 hf11
            go_wp2_with fail
            refine (wopen_c HD11.out (HGB.out.crash ds) 0 64 0 3).mono ?_
            rintro e w12 ⟨-, hgood, hf12⟩
            obtain ⟨lz, v26, rfl, -, -, hrecs12⟩ := hgood HMAY3.out
            obtain ⟨A26, c26, hv26, hra26, -, -⟩ := OwnRowB.reads (head := recHead) (byt := fun x : Int × List Int => x.2) (hd := 1) (fun _ => rfl) hrecs12
            rw [HOPN.out] at hra26
            rw [HOPN.out, HMM.out] at hv26
            subst hv26
            have HR26 := Lib.hid hra26
            have HFZ := Lib.hid (HF11.out.then0 hf12)
            obtain ⟨A19', c19', hv19', hra19, hc19, -⟩ := OwnRowC.reads (head := recHead) (byt := fun x : Int × List Int => x.2) (hd := 1) (fun _ => rfl) (HO11.out.keep hf12).toC
            have hl19 : (recsAt 0 M ++ recsAt (endAt 0 M) R).length = an := by rw [List.length_append, recsAt_len, recsAt_len, HAN.out]
            rw [hl19] at hv19' hc19
            cases hv19'
            have hr19 := RowsAt.take hra19 mm
            rw [HTK.out] at hr19
            have HR19 := Lib.hid hr19
            have HSL : Hid (∀ W, (Instr.slice 72 (.slice A19 an c19) none (some (.int .i64 (mm : Int))) none).run Tryd.prog W = .ok (.slice A19 mm c19) W) := Lib.hid (fun W => run_upto_recs A19 an c19 mm (by omega) W)
            clear hgood hf12 hrecs12 hra26 hra19 hc19 hl19 hr19
            go_wp2_with fail
            refine wp_region_free (S := F0) [false, false, false, false, false, false, false, false, true, false, false, false, false, false, false, false, false, false, false, false, false, false, false, false, false, false, false, false, false, false, false, false, false, false, false, false, false, false, false, false, false, false, false, false, false, false, false, false, false, false, false, false, false, false, false, false, false, false, false, false, false, false, false, false, false, false, false, false, false, false, false, false, false, false, false, false, false, false, false, false, false, false, false, false, false, false, false, false, false, false, false, false, false, false, false, false, false, false, false, false, false, false, false, false, false, false, false, false, false, false, false, false, false, false, false, false, false, false, false, false, false, false, false, false, false, false, false, false, false, false, false, false, false, false, false, false, false, false, false, false, false, false, false, false, false, false, false, false, false, false, false, false, false, false, false, false, false, false, false, false, true, true, true, true, true, true, true, true, true, true, true] [.eq (.bool true), .eq (.bool true), .eq (.slice A26 mm c26), ⟨fun v w1 => ∃ A c, v = .slice A mm c ∧ RowsAt recHead (fun x : Int × List Int => x.2) 1 w1 A recs, fun v w1 w2 ⟨A, c, h1, h2⟩ hf => ⟨A, c, h1, h2.keep0 hf⟩⟩, .eq (.slice A19 an c19), .eq (.slice A26 mm c26), .eq (.int .i64 (mm : Int)), .eq (.slice A19 mm c19), ⟨fun v w1 => ∃ A c, v = .slice A mm c ∧ RowsAt recHead (fun x : Int × List Int => x.2) 1 w1 A recs, fun v w1 w2 ⟨A, c, h1, h2⟩ hf => ⟨A, c, h1, h2.keep0 hf⟩⟩, .eq (.bool true), .eq (.bool true), .eq (.bool true)] (by kernel_rfl) (by kernel_rfl) (by rfl) (fun us => ?steps) (fun us w12 hG hall => ?fin)
            case steps =>
              simp only [fillL, Nat.reduceAdd]
              refine stepsHold.cons (fun wx hG hd K hK => ?_) ?_
              · rw [if_pos (wanted_none rfl)]
                refine wp_value (w2 := wx) (v := .bool true) ?_ (hK _ _ rfl (Fr.refl _ _))
                clear hd hG hK
                go_simp
              refine stepsHold.cons (fun wx hG hd K hK => ?_) ?_
              · have h160 : us 160 = (.bool true) := deps_get hd 0 rfl rfl rfl rfl rfl
                rw [if_pos (wanted_none rfl)]
                refine wp_value (w2 := wx) (v := .bool true) ?_ (hK _ _ rfl (Fr.refl _ _))
                clear hd hG hK
                go_simp
              refine stepsHold.cons (fun wx hG hd K hK => ?_) ?_
              · have h161 : us 161 = (.bool true) := deps_get hd 0 rfl rfl rfl rfl rfl
                rw [if_pos (wanted_yes rfl rfl rfl rfl h161)]
                refine wp_value (w2 := wx) (v := .slice A26 mm c26) ?_ (hK _ _ rfl (Fr.refl _ _))
                clear hd hG hK
                go_simp
              refine stepsHold.cons (fun wx hG hd K hK => ?_) ?_
              · have h162 : us 162 = (.slice A26 mm c26) := deps_get hd 0 rfl rfl rfl rfl rfl
                have h161 : us 161 = (.bool true) := deps_get hd 1 rfl rfl rfl rfl rfl
                rw [if_pos (wanted_yes rfl rfl rfl rfl h161)]
                refine wp_call (w2 := wx) (f := 49) (args := #[.slice A26 mm c26]) ?_ ?_
                · clear hd hK
                  go_simp
                · refine (theirs7_c A26 mm c26 recs (HR26.out.keep0 hG) HMM.out (by omega)).mono ?_
                  rintro e w9 ⟨v9, rfl, ho9, hf9⟩
                  obtain ⟨A9, c9, hv9, hra9, -, -⟩ := OwnRowC.reads (head := recHead) (byt := fun x : Int × List Int => x.2) (hd := 1) (fun _ => rfl) ho9
                  rw [HMM.out] at hv9
                  subst hv9
                  exact ⟨_, rfl, hK _ _ ⟨A9, c9, rfl, hra9⟩ hf9⟩
              refine stepsHold.cons (fun wx hG hd K hK => ?_) ?_
              · have h161 : us 161 = (.bool true) := deps_get hd 0 rfl rfl rfl rfl rfl
                rw [if_pos (wanted_yes rfl rfl rfl rfl h161)]
                refine wp_value (w2 := wx) (v := .slice A19 an c19) ?_ (hK _ _ rfl (Fr.refl _ _))
                clear hd hG hK
                go_simp
              refine stepsHold.cons (fun wx hG hd K hK => ?_) ?_
              · have h161 : us 161 = (.bool true) := deps_get hd 0 rfl rfl rfl rfl rfl
                rw [if_pos (wanted_yes rfl rfl rfl rfl h161)]
                refine wp_value (w2 := wx) (v := .slice A26 mm c26) ?_ (hK _ _ rfl (Fr.refl _ _))
                clear hd hG hK
                go_simp
              refine stepsHold.cons (fun wx hG hd K hK => ?_) ?_
              · have h165 : us 165 = (.slice A26 mm c26) := deps_get hd 0 rfl rfl rfl rfl rfl
                have h161 : us 161 = (.bool true) := deps_get hd 1 rfl rfl rfl rfl rfl
                rw [if_pos (wanted_yes rfl rfl rfl rfl h161)]
                refine wp_value (w2 := wx) (v := .int .i64 (mm : Int)) ?_ (hK _ _ rfl (Fr.refl _ _))
                clear hd hG hK
                go_simp
              refine stepsHold.cons (fun wx hG hd K hK => ?_) ?_
              · have h164 : us 164 = (.slice A19 an c19) := deps_get hd 0 rfl rfl rfl rfl rfl
                have h166 : us 166 = (.int .i64 (mm : Int)) := deps_get hd 1 rfl rfl rfl rfl rfl
                have h161 : us 161 = (.bool true) := deps_get hd 2 rfl rfl rfl rfl rfl
                rw [if_pos (wanted_yes rfl rfl rfl rfl h161)]
                have hr := HSL.out wx
                refine wp_value (w2 := wx) (v := .slice A19 mm c19) ?_ (hK _ _ rfl (Fr.refl _ _))
                clear hd hK
                go_simp
              refine stepsHold.cons (fun wx hG hd K hK => ?_) ?_
              · have h167 : us 167 = (.slice A19 mm c19) := deps_get hd 0 rfl rfl rfl rfl rfl
                have h161 : us 161 = (.bool true) := deps_get hd 2 rfl rfl rfl rfl rfl
                rw [if_pos (wanted_yes rfl rfl rfl rfl h161)]
                refine wp_call (w2 := wx) (f := 49) (args := #[.slice A19 mm c19]) ?_ ?_
                · clear hd hK
                  go_simp
                · refine (theirs7_c A19 mm c19 recs (HR19.out.keep0 hG) HMM.out (by omega)).mono ?_
                  rintro e w9 ⟨v9, rfl, ho9, hf9⟩
                  obtain ⟨A9, c9, hv9, hra9, -, -⟩ := OwnRowC.reads (head := recHead) (byt := fun x : Int × List Int => x.2) (hd := 1) (fun _ => rfl) ho9
                  rw [HMM.out] at hv9
                  subst hv9
                  exact ⟨_, rfl, hK _ _ ⟨A9, c9, rfl, hra9⟩ hf9⟩
              refine stepsHold.cons (fun wx hG hd K hK => ?_) ?_
              · have h163 := deps_get hd 0 rfl rfl rfl rfl rfl
                have h168 := deps_get hd 1 rfl rfl rfl rfl rfl
                have h161 : us 161 = (.bool true) := deps_get hd 3 rfl rfl rfl rfl rfl
                rw [if_pos (wanted_yes rfl rfl rfl rfl h161)]
                obtain ⟨A3, c3, e3, v3⟩ := h163
                obtain ⟨A8, c8, e8, v8⟩ := h168
                refine wp_call (w2 := wx) (f := 48) (args := #[.slice A3 mm c3, .slice A8 mm c8]) ?_ ?_
                · clear hd hK
                  go_simp
                · refine (same7_c A3 A8 mm c3 c8 recs v3 v8 HMM.out (by omega)).mono ?_
                  rintro e w9 ⟨rfl, hf9⟩
                  exact ⟨_, rfl, hK _ _ rfl hf9⟩
              refine stepsHold.cons (fun wx hG hd K hK => ?_) ?_
              · have h161 : us 161 = (.bool true) := deps_get hd 0 rfl rfl rfl rfl rfl
                have h169 : us 169 = (.bool true) := deps_get hd 1 rfl rfl rfl rfl rfl
                rw [if_pos (wanted_none rfl)]
                refine wp_value (w2 := wx) (v := .bool true) ?_ (hK _ _ rfl (Fr.refl _ _))
                clear hd hG hK
                go_simp
              refine stepsHold.cons (fun wx hG hd K hK => ?_) ?_
              · have h170 : us 170 = (.bool true) := deps_get hd 0 rfl rfl rfl rfl rfl
                rw [if_pos (wanted_none rfl)]
                refine wp_value (w2 := wx) (v := .bool true) ?_ (hK _ _ rfl (Fr.refl _ _))
                clear hd hG hK
                go_simp
              exact stepsHold.nil
            case fin =>
              have h160 : us 160 = (.bool true) := all_get hall 0 rfl rfl rfl
              have h161 : us 161 = (.bool true) := all_get hall 1 rfl rfl rfl
              have h162 : us 162 = (.slice A26 mm c26) := all_get hall 2 rfl rfl rfl
              have h163 := all_get hall 3 rfl rfl rfl
              have h164 : us 164 = (.slice A19 an c19) := all_get hall 4 rfl rfl rfl
              have h165 : us 165 = (.slice A26 mm c26) := all_get hall 5 rfl rfl rfl
              have h166 : us 166 = (.int .i64 (mm : Int)) := all_get hall 6 rfl rfl rfl
              have h167 : us 167 = (.slice A19 mm c19) := all_get hall 7 rfl rfl rfl
              have h168 := all_get hall 8 rfl rfl rfl
              have h169 : us 169 = (.bool true) := all_get hall 9 rfl rfl rfl
              have h170 : us 170 = (.bool true) := all_get hall 10 rfl rfl rfl
              have h8 : us 8 = (.bool true) := all_get hall 11 rfl rfl rfl
              simp only [fillL, Nat.reduceAdd]
              clear hall
              simp only [h160, h161, h162, h164, h165, h166, h167, h169, h170, h8]
              clear h160 h161 h162 h164 h165 h166 h167 h169 h170 h8
              go_wp2_with fail
              go_ret
              exact ⟨rfl, HFZ.out.then0 hG⟩
          · have hodd0 : h2 = 0 := by omega
            subst hodd0
            have HEX : Hid (∃ m2, m2 ≤ R.length ∧ (opened (D.crash ds) 0 64 0 3).1 = recsAt 0 M ++ recsAt (endAt 0 M) (R.take m2) ∧ ml ≤ M.length + m2) := Lib.hid (by
              obtain ⟨m2, g1, g2⟩ := HEP.out.crash HE1.out ds
              exact ⟨m2, g1, g2, by rw [HML.out]; omega⟩)
            have HGD := Lib.hid HEP.out.from7.good
            have HGB := Lib.hid HEP.out.from7.bys
            obtain ⟨D4, hD4⟩ : ∃ D4, D4 = D := ⟨_, rfl⟩
            rw [← hD4] at HI HEX HGD HGB
            have HI10 := HI
            have HF10 := HF
            have HO10 := HO
            clear hD4 hodd hh2
            obtain ⟨m2, g1, g2, g3⟩ := HEX.out
            obtain ⟨mm, hmm⟩ : ∃ mm, mm = M.length + m2 := ⟨_, rfl⟩
            obtain ⟨recs, hrecs⟩ : ∃ recs, recs = recsAt 0 M ++ recsAt (endAt 0 M) (R.take m2) := ⟨_, rfl⟩
            have HMM : Hid (recs.length = mm) := Lib.hid (by rw [hrecs, hmm, List.length_append, recsAt_len, recsAt_len, List.length_take]; omega)
            have HTK : Hid ((recsAt 0 M ++ recsAt (endAt 0 M) R).take mm = recs) := Lib.hid (by
              rw [hrecs, hmm, List.take_append, recsAt_len, List.take_of_length_le (by rw [recsAt_len]; omega), recsAt_take]
              congr 2
              omega)
            rw [← hrecs] at g2
            have HOPN := Lib.hid g2
            have hmm1 : ¬ mm < ml := by omega
            have hmm2a : mm ≤ an := by rw [hmm, HAN.out]; omega
            have hmm2 : ¬ an < mm := by omega
            have hmm24 : mm ≤ 24 := by omega
            have mm0 : (0 : Int) ≤ (mm : Int) := Int.natCast_nonneg _
            have HMAY3 : Hid (logMay (D4.crash ds) 0 64 0 3 = 0) := Lib.hid (logMay_new (n := 64) (by decide) (by decide) (by decide) (by decide) (by decide) (by decide) (by decide) rfl (by rw [Dev.crash_len]; exact HGD.out.laid))
            clear g1 g2 g3 hmm hrecs HEX
            go_wp2_with fail
            refine (crash_c HI10.out.dev A3 c3 ds n3 HL3.out (HV3.out.keep0 HF10.out) (fun ad e hp h => by have h1 := HAB3.out ad e hp; have h2 := HI10.out.new _ (.inr h); omega) (by omega)).mono ?_
            rintro e w11 ⟨rfl, hd11, hf11⟩
            have HD11 := Lib.hid hd11
            have HF11 := Lib.hid (HI10.out.fr HF10.out (hf11.mono (fun _ h => .inr h)))
            have HO11 := Lib.hid (HO10.out.keepS hf11 (fun k hk h => h (.inr hk)) (fun k hk h => by have h1 := HLT.out k (.inr hk); have h2 := HO10.out.base_le _ h; omega))
            clear hd11 hf11
            go_wp2_with fail
            refine (wopen_c HD11.out (HGB.out.crash ds) 0 64 0 3).mono ?_
            rintro e w12 ⟨-, hgood, hf12⟩
            obtain ⟨lz, v26, rfl, -, -, hrecs12⟩ := hgood HMAY3.out
            obtain ⟨A26, c26, hv26, hra26, -, -⟩ := OwnRowB.reads (head := recHead) (byt := fun x : Int × List Int => x.2) (hd := 1) (fun _ => rfl) hrecs12
            rw [HOPN.out] at hra26
            rw [HOPN.out, HMM.out] at hv26
            subst hv26
            have HR26 := Lib.hid hra26
            have HFZ := Lib.hid (HF11.out.then0 hf12)
            obtain ⟨A19', c19', hv19', hra19, hc19, -⟩ := OwnRowC.reads (head := recHead) (byt := fun x : Int × List Int => x.2) (hd := 1) (fun _ => rfl) (HO11.out.keep hf12).toC
            have hl19 : (recsAt 0 M ++ recsAt (endAt 0 M) R).length = an := by rw [List.length_append, recsAt_len, recsAt_len, HAN.out]
            rw [hl19] at hv19' hc19
            cases hv19'
            have hr19 := RowsAt.take hra19 mm
            rw [HTK.out] at hr19
            have HR19 := Lib.hid hr19
            have HSL : Hid (∀ W, (Instr.slice 72 (.slice A19 an c19) none (some (.int .i64 (mm : Int))) none).run Tryd.prog W = .ok (.slice A19 mm c19) W) := Lib.hid (fun W => run_upto_recs A19 an c19 mm (by omega) W)
            clear hgood hf12 hrecs12 hra26 hra19 hc19 hl19 hr19
            go_wp2_with fail
            refine wp_region_free (S := F0) [false, false, false, false, false, false, false, false, true, false, false, false, false, false, false, false, false, false, false, false, false, false, false, false, false, false, false, false, false, false, false, false, false, false, false, false, false, false, false, false, false, false, false, false, false, false, false, false, false, false, false, false, false, false, false, false, false, false, false, false, false, false, false, false, false, false, false, false, false, false, false, false, false, false, false, false, false, false, false, false, false, false, false, false, false, false, false, false, false, false, false, false, false, false, false, false, false, false, false, false, false, false, false, false, false, false, false, false, false, false, false, false, false, false, false, false, false, false, false, false, false, false, false, false, false, false, false, false, false, false, false, false, false, false, false, false, false, false, false, false, false, false, false, false, false, false, false, false, false, false, false, false, false, false, false, false, false, false, false, false, true, true, true, true, true, true, true, true, true, true, true] [.eq (.bool true), .eq (.bool true), .eq (.slice A26 mm c26), ⟨fun v w1 => ∃ A c, v = .slice A mm c ∧ RowsAt recHead (fun x : Int × List Int => x.2) 1 w1 A recs, fun v w1 w2 ⟨A, c, h1, h2⟩ hf => ⟨A, c, h1, h2.keep0 hf⟩⟩, .eq (.slice A19 an c19), .eq (.slice A26 mm c26), .eq (.int .i64 (mm : Int)), .eq (.slice A19 mm c19), ⟨fun v w1 => ∃ A c, v = .slice A mm c ∧ RowsAt recHead (fun x : Int × List Int => x.2) 1 w1 A recs, fun v w1 w2 ⟨A, c, h1, h2⟩ hf => ⟨A, c, h1, h2.keep0 hf⟩⟩, .eq (.bool true), .eq (.bool true), .eq (.bool true)] (by kernel_rfl) (by kernel_rfl) (by rfl) (fun us => ?steps) (fun us w12 hG hall => ?fin)
            case steps =>
              simp only [fillL, Nat.reduceAdd]
              refine stepsHold.cons (fun wx hG hd K hK => ?_) ?_
              · rw [if_pos (wanted_none rfl)]
                refine wp_value (w2 := wx) (v := .bool true) ?_ (hK _ _ rfl (Fr.refl _ _))
                clear hd hG hK
                go_simp
              refine stepsHold.cons (fun wx hG hd K hK => ?_) ?_
              · have h160 : us 160 = (.bool true) := deps_get hd 0 rfl rfl rfl rfl rfl
                rw [if_pos (wanted_none rfl)]
                refine wp_value (w2 := wx) (v := .bool true) ?_ (hK _ _ rfl (Fr.refl _ _))
                clear hd hG hK
                go_simp
              refine stepsHold.cons (fun wx hG hd K hK => ?_) ?_
              · have h161 : us 161 = (.bool true) := deps_get hd 0 rfl rfl rfl rfl rfl
                rw [if_pos (wanted_yes rfl rfl rfl rfl h161)]
                refine wp_value (w2 := wx) (v := .slice A26 mm c26) ?_ (hK _ _ rfl (Fr.refl _ _))
                clear hd hG hK
                go_simp
              refine stepsHold.cons (fun wx hG hd K hK => ?_) ?_
              · have h162 : us 162 = (.slice A26 mm c26) := deps_get hd 0 rfl rfl rfl rfl rfl
                have h161 : us 161 = (.bool true) := deps_get hd 1 rfl rfl rfl rfl rfl
                rw [if_pos (wanted_yes rfl rfl rfl rfl h161)]
                refine wp_call (w2 := wx) (f := 49) (args := #[.slice A26 mm c26]) ?_ ?_
                · clear hd hK
                  go_simp
                · refine (theirs7_c A26 mm c26 recs (HR26.out.keep0 hG) HMM.out (by omega)).mono ?_
                  rintro e w9 ⟨v9, rfl, ho9, hf9⟩
                  obtain ⟨A9, c9, hv9, hra9, -, -⟩ := OwnRowC.reads (head := recHead) (byt := fun x : Int × List Int => x.2) (hd := 1) (fun _ => rfl) ho9
                  rw [HMM.out] at hv9
                  subst hv9
                  exact ⟨_, rfl, hK _ _ ⟨A9, c9, rfl, hra9⟩ hf9⟩
              refine stepsHold.cons (fun wx hG hd K hK => ?_) ?_
              · have h161 : us 161 = (.bool true) := deps_get hd 0 rfl rfl rfl rfl rfl
                rw [if_pos (wanted_yes rfl rfl rfl rfl h161)]
                refine wp_value (w2 := wx) (v := .slice A19 an c19) ?_ (hK _ _ rfl (Fr.refl _ _))
                clear hd hG hK
                go_simp
              refine stepsHold.cons (fun wx hG hd K hK => ?_) ?_
              · have h161 : us 161 = (.bool true) := deps_get hd 0 rfl rfl rfl rfl rfl
                rw [if_pos (wanted_yes rfl rfl rfl rfl h161)]
                refine wp_value (w2 := wx) (v := .slice A26 mm c26) ?_ (hK _ _ rfl (Fr.refl _ _))
                clear hd hG hK
                go_simp
              refine stepsHold.cons (fun wx hG hd K hK => ?_) ?_
              · have h165 : us 165 = (.slice A26 mm c26) := deps_get hd 0 rfl rfl rfl rfl rfl
                have h161 : us 161 = (.bool true) := deps_get hd 1 rfl rfl rfl rfl rfl
                rw [if_pos (wanted_yes rfl rfl rfl rfl h161)]
                refine wp_value (w2 := wx) (v := .int .i64 (mm : Int)) ?_ (hK _ _ rfl (Fr.refl _ _))
                clear hd hG hK
                go_simp
              refine stepsHold.cons (fun wx hG hd K hK => ?_) ?_
              · have h164 : us 164 = (.slice A19 an c19) := deps_get hd 0 rfl rfl rfl rfl rfl
                have h166 : us 166 = (.int .i64 (mm : Int)) := deps_get hd 1 rfl rfl rfl rfl rfl
                have h161 : us 161 = (.bool true) := deps_get hd 2 rfl rfl rfl rfl rfl
                rw [if_pos (wanted_yes rfl rfl rfl rfl h161)]
                have hr := HSL.out wx
                refine wp_value (w2 := wx) (v := .slice A19 mm c19) ?_ (hK _ _ rfl (Fr.refl _ _))
                clear hd hK
                go_simp
              refine stepsHold.cons (fun wx hG hd K hK => ?_) ?_
              · have h167 : us 167 = (.slice A19 mm c19) := deps_get hd 0 rfl rfl rfl rfl rfl
                have h161 : us 161 = (.bool true) := deps_get hd 2 rfl rfl rfl rfl rfl
                rw [if_pos (wanted_yes rfl rfl rfl rfl h161)]
                refine wp_call (w2 := wx) (f := 49) (args := #[.slice A19 mm c19]) ?_ ?_
                · clear hd hK
                  go_simp
                · refine (theirs7_c A19 mm c19 recs (HR19.out.keep0 hG) HMM.out (by omega)).mono ?_
                  rintro e w9 ⟨v9, rfl, ho9, hf9⟩
                  obtain ⟨A9, c9, hv9, hra9, -, -⟩ := OwnRowC.reads (head := recHead) (byt := fun x : Int × List Int => x.2) (hd := 1) (fun _ => rfl) ho9
                  rw [HMM.out] at hv9
                  subst hv9
                  exact ⟨_, rfl, hK _ _ ⟨A9, c9, rfl, hra9⟩ hf9⟩
              refine stepsHold.cons (fun wx hG hd K hK => ?_) ?_
              · have h163 := deps_get hd 0 rfl rfl rfl rfl rfl
                have h168 := deps_get hd 1 rfl rfl rfl rfl rfl
                have h161 : us 161 = (.bool true) := deps_get hd 3 rfl rfl rfl rfl rfl
                rw [if_pos (wanted_yes rfl rfl rfl rfl h161)]
                obtain ⟨A3, c3, e3, v3⟩ := h163
                obtain ⟨A8, c8, e8, v8⟩ := h168
                refine wp_call (w2 := wx) (f := 48) (args := #[.slice A3 mm c3, .slice A8 mm c8]) ?_ ?_
                · clear hd hK
                  go_simp
                · refine (same7_c A3 A8 mm c3 c8 recs v3 v8 HMM.out (by omega)).mono ?_
                  rintro e w9 ⟨rfl, hf9⟩
                  exact ⟨_, rfl, hK _ _ rfl hf9⟩
              refine stepsHold.cons (fun wx hG hd K hK => ?_) ?_
              · have h161 : us 161 = (.bool true) := deps_get hd 0 rfl rfl rfl rfl rfl
                have h169 : us 169 = (.bool true) := deps_get hd 1 rfl rfl rfl rfl rfl
                rw [if_pos (wanted_none rfl)]
                refine wp_value (w2 := wx) (v := .bool true) ?_ (hK _ _ rfl (Fr.refl _ _))
                clear hd hG hK
                go_simp
              refine stepsHold.cons (fun wx hG hd K hK => ?_) ?_
              · have h170 : us 170 = (.bool true) := deps_get hd 0 rfl rfl rfl rfl rfl
                rw [if_pos (wanted_none rfl)]
                refine wp_value (w2 := wx) (v := .bool true) ?_ (hK _ _ rfl (Fr.refl _ _))
                clear hd hG hK
                go_simp
              exact stepsHold.nil
            case fin =>
              have h160 : us 160 = (.bool true) := all_get hall 0 rfl rfl rfl
              have h161 : us 161 = (.bool true) := all_get hall 1 rfl rfl rfl
              have h162 : us 162 = (.slice A26 mm c26) := all_get hall 2 rfl rfl rfl
              have h163 := all_get hall 3 rfl rfl rfl
              have h164 : us 164 = (.slice A19 an c19) := all_get hall 4 rfl rfl rfl
              have h165 : us 165 = (.slice A26 mm c26) := all_get hall 5 rfl rfl rfl
              have h166 : us 166 = (.int .i64 (mm : Int)) := all_get hall 6 rfl rfl rfl
              have h167 : us 167 = (.slice A19 mm c19) := all_get hall 7 rfl rfl rfl
              have h168 := all_get hall 8 rfl rfl rfl
              have h169 : us 169 = (.bool true) := all_get hall 9 rfl rfl rfl
              have h170 : us 170 = (.bool true) := all_get hall 10 rfl rfl rfl
              have h8 : us 8 = (.bool true) := all_get hall 11 rfl rfl rfl
              simp only [fillL, Nat.reduceAdd]
              clear hall
              simp only [h160, h161, h162, h164, h165, h166, h167, h169, h170, h8]
              clear h160 h161 h162 h164 h165 h166 h167 h169 h170 h8
              go_wp2_with fail
              go_ret
              exact ⟨rfl, HFZ.out.then0 hG⟩
end
end Go.Proofs.YtdeckbdaencjnaaDoor
