/-
  heronrylaw07: WalKeeps. Conditions: none.
-/
import Derived.Test.YtdeckbdaencjnaaDoorL7f
set_option linter.unusedVariables false
set_option linter.unusedSimpArgs false
namespace Go.Proofs.YtdeckbdaencjnaaDoor
open Go.RowKit
theorem Kept.congr {E : Int} {r r' : Rg} {D : Dev} {n : Nat} {R : List (List Int)} {s : Nat} (h : Kept E r D n R s) (h1 : r'.from_ = r.from_) (h2 : r'.size = r.size) (h3 : r'.head = r.head) : Kept E r' D n R s := by
  obtain ⟨f, z, hd, tl⟩ := r
  obtain ⟨f', z', hd', tl'⟩ := r'
  simp only at h1 h2 h3
  subst h1; subst h2; subst h3
  exact ⟨h.sized, h.bys, h.ok, h.fits, h.cur, h.laid, h.most, h.safe⟩
def ring5 : Rg := ⟨2, 60, 5, 5⟩
theorem ring5_sane : ring5.Sane := ⟨by decide, by decide, by decide, by decide, by decide, by decide, by decide, by decide⟩
/-- A log on a device with a budget: all records, and how many are safe. -/
structure KeepsIn (L : Lg) (D : Dev) (R : List (List Int)) (s : Nat) : Prop where
  kept : Kept 7 ring5 D 64 R s
  epoch : L.epoch = 7
  from_ : L.r.from_ = 2
  size : L.r.size = 60
  head : L.r.head = 5
  sane : L.r.Sane
  live : D.gone = false → Alive L D R
  dead : D.gone = true → L.broken = true
theorem KeepsIn.keptL {L : Lg} {D : Dev} {R : List (List Int)} {s : Nat} (h : KeepsIn L D R s) : Kept L.epoch L.r D 64 R s := by
  rw [h.epoch]
  exact h.kept.congr (by rw [h.from_]; rfl) (by rw [h.size]; rfl) (by rw [h.head]; rfl)
theorem KeepsIn.new (b : Int) : KeepsIn ⟨⟨2, 60, 5, 5⟩, 7, 5, false⟩ ((Dev.new 64).budgeted b) [] 0 := by
  have hz : ∀ q, ring5.sc ((Dev.new 64).budgeted b) q = zsec := fun q => Dev.new_sc (n := 64) ring5_sane (by decide) q
  refine ⟨⟨⟨by simp [Dev.new, Dev.budgeted], by simp [Dev.new, Dev.budgeted]⟩, (SecBys.new 64).budgeted b, trivial, by simp [flat, ring5], fun i _ => .inl (hz _), fun i hi => .inl ?_, Nat.le_refl _, fun i hi => by simp [flat] at hi⟩, rfl, rfl, rfl, rfl, ring5_sane, fun _ => ⟨rfl, rfl, rfl, fun i hi => by simp [flat] at hi⟩, fun h => by cases h⟩
  have h4 := Rg.sec_in (n := 64) ring5_sane (by decide) (ring5.head + i)
  show (List.replicate 64 zsec).getD (ring5.sec (ring5.head + i)).toNat [] = zsec
  rw [List.getD_eq_getElem?_getD, List.getElem?_replicate_of_lt (by omega)]
  rfl
theorem KeepsIn.app {L : Lg} {D : Dev} {R : List (List Int)} {s : Nat} (h : KeepsIn L D R s) (hg : D.gone = false) {b : List Int} (hb : Bys b) (hn : b.length ≤ 44000) :
    (L.appE D b = 5 ∧ L.app D b = L ∧ L.appD D b = D) ∨ ((L.appE D b = 0 ∨ L.appE D b = 11) ∧ KeepsIn (L.app D b) (L.appD D b) (R ++ [b]) s) := by
  have e0 := h.epoch
  have e1 := h.from_
  have e2 := h.size
  have e3 := h.head
  rcases h.keptL.app (h.live hg) h.sane (by rw [e1, e2]; decide) (by rw [e0]; decide) (by rw [e0]; decide) hb hn with h1 | ⟨h1, h2, h3, h4, h5, h6, h7, h8⟩ | ⟨h1, h2, h3, h4⟩
  · exact .inl h1
  · refine .inr ⟨.inl h1, ?_⟩
    rw [h2]
    have hk : Kept 7 ring5 (L.appD D b) 64 (R ++ [b]) s := by
      rw [e0] at h3
      exact h3.congr (by rw [e1]; rfl) (by rw [e2]; rfl) (by rw [e3]; rfl)
    obtain ⟨f0, f1, s0, s1, h0, ht, t1, ft⟩ := h.sane
    refine ⟨hk, e0, e1, e2, e3, ⟨f0, f1, s0, s1, h0, by show L.r.head ≤ L.r.tail + _; omega, by show L.r.tail + _ ≤ _; omega, by show L.r.tail + _ - L.r.head ≤ L.r.size; omega⟩, fun _ => ⟨(h.live hg).brk, h4, h5, h8⟩, fun hd => ?_⟩
    rw [h4] at hd; cases hd
  · refine .inr ⟨.inr h1, ?_⟩
    rw [h2]
    have hk : Kept 7 ring5 (L.appD D b) 64 (R ++ [b]) s := by
      rw [e0] at h3
      exact h3.congr (by rw [e1]; rfl) (by rw [e2]; rfl) (by rw [e3]; rfl)
    exact ⟨hk, e0, e1, e2, e3, h.sane, fun hd => (by rw [h4] at hd; cases hd), fun _ => rfl⟩
theorem KeepsIn.force {L : Lg} {D : Dev} {R : List (List Int)} {s : Nat} (h : KeepsIn L D R s) :
    (L.forceE D = 0 ∧ KeepsIn (L.force D) (L.forceD D) R R.length) ∨ (L.forceE D = 11 ∧ KeepsIn (L.force D) (L.forceD D) R s) := by
  have e0 := h.epoch
  have e1 := h.from_
  have e2 := h.size
  have e3 := h.head
  cases hg : D.gone with
  | true =>
    have hb := h.dead hg
    have h1 : L.force D = L := by unfold Lg.force; rw [if_pos hb]
    have h2 : L.forceD D = D := by unfold Lg.forceD; rw [if_pos hb]
    rw [h1, h2]
    exact .inr ⟨by unfold Lg.forceE; rw [if_pos hb], h⟩
  | false =>
    rcases h.keptL.force (h.live hg) h.sane (by rw [e1, e2]; decide) with ⟨h1, h2, h3, h4⟩ | ⟨h1, h2, h3, h4⟩
    · left
      rw [h2]
      have hk : Kept 7 ring5 (L.forceD D) 64 R R.length := by
        rw [e0] at h3
        exact h3.congr (by rw [e1]; rfl) (by rw [e2]; rfl) (by rw [e3]; rfl)
      exact ⟨h1, hk, e0, e1, e2, e3, h.sane, fun _ => h4, fun hd => by rw [h4.gone] at hd; cases hd⟩
    · right
      rw [h2]
      have hk : Kept 7 ring5 (L.forceD D) 64 R s := by
        rw [e0] at h3
        exact h3.congr (by rw [e1]; rfl) (by rw [e2]; rfl) (by rw [e3]; rfl)
      exact ⟨h1, hk, e0, e1, e2, e3, h.sane, fun hd => (by rw [h4] at hd; cases hd), fun _ => rfl⟩
theorem recsAt_at : ∀ (R : List (List Int)) (a : Int) (t : Nat) (b : List Int), R[t]? = some b → ∃ q, (recsAt a R)[t]? = some (q, b)
  | [], a, t, b, h => by simp at h
  | x :: R, a, 0, b, h => ⟨a, by simp at h; subst h; rfl⟩
  | x :: R, a, t + 1, b, h => by
    obtain ⟨q, hq⟩ := recsAt_at R (a + need x.length) t b (by simpa using h)
    exact ⟨q, by simpa [recsAt] using hq⟩
theorem bytes_list (hh : True) : ∀ a : List Int, ((fun _ : List Int => ([] : List Value)) a).length = 0 := fun _ => rfl
section
variable {w : World}
set_option maxRecDepth 100000 in
set_option maxHeartbeats 8000000 in
theorem keeps7_walk (A0 : Option Addr) (n0 c0 : Nat) (xs : List Int) (bu : Int) (A2 : Option Addr) (n2 c2 : Nat) (bs : List Bool) (hl0 : xs.length = n0) (hV0 : ValsAt w A0 (xs.map (Value.int .i64))) (hn0 : n0 ≤ 9223372036854775807)
    (hl2 : bs.length = n2) (hB2 : ValsAt w A2 (bs.map Value.bool)) (hn2 : n2 ≤ 9223372036854775807) :
    Calls Tryd.prog 11 #[.slice A0 n0 c0, .int .i64 bu, .slice A2 n2 c2] w fun e w' => e = .returned (.bool true) ∧ Fr F0 w w' := by
  have HL0 := Lib.hid hl0
  have HV0 := Lib.hid hV0
  have HL2 := Lib.hid hl2
  have HV2 := Lib.hid hB2
  clear hl0 hl2 hV0
  have a0 : (0 : Int) ≤ (n0 : Int) := Int.natCast_nonneg _
  have a2 : (0 : Int) ≤ (n2 : Int) := Int.natCast_nonneg _
  by_cases hbig : 20 < n0
  · have hb0 : (20 : Int) < (n0 : Int) := by omega
    clear hB2
    go_enter Tryd.func11, Tryd.ntmps11
    go_wp2_with fail
    refine (awake7_c).mono ?_
    rintro e w1 ⟨rfl, hf1⟩
    go_wp2_with fail
    go_ret
    exact ⟨rfl, hf1⟩
  have hb0 : ¬ (20 : Int) < (n0 : Int) := by omega
  by_cases hbig2 : 100 < n2
  · have hb2 : (100 : Int) < (n2 : Int) := by omega
    clear hB2
    go_enter Tryd.func11, Tryd.ntmps11
    go_wp2_with fail
    refine (awake7_c).mono ?_
    rintro e w1 ⟨rfl, hf1⟩
    go_wp2_with fail
    go_ret
    exact ⟨rfl, hf1⟩
  have hb2 : ¬ (100 : Int) < (n2 : Int) := by omega
  have HAB : Hid (∀ ad, A2 = some ad → 0 < bs.length → ad.block < w.heap.size) := Lib.hid (by
    intro ad e hp
    subst e
    obtain ⟨ad', e', hc⟩ := hB2.cells (by simpa using hp)
    cases e'
    have h0 := hc 0 (.bool (bs[0]'hp)) (by simp [hp])
    have h1 := World.block_lt_of_cell? w _ h0
    simpa [Addr.add] using h1)
  clear hB2
  obtain ⟨bq, hbq⟩ : ∃ m : Nat, bu % 64 = (m : Int) := ⟨(bu % 64).toNat, by omega⟩
  have hbq1 : bq < 64 := by omega
  have hbandb : bits .and .i64 bu 63 = (bq : Int) := by rw [← hbq]; exact i64_and bu 6 (by decide)
  clear hbq
  have P1 : Hid (openL (Dev.new 64) 2 60 5 7 = ⟨⟨2, 60, 5, 5⟩, 7, 5, false⟩) := Lib.hid (Laid.new (n := 64) (from_ := 2) (size := 60) (head := 5) (epoch := 7) ring5_sane (by decide) (by decide) (by decide)).1
  have P2 : Hid ((opened (Dev.new 64) 2 60 5 7).1 = []) := Lib.hid (Laid.new (n := 64) (from_ := 2) (size := 60) (head := 5) (epoch := 7) ring5_sane (by decide) (by decide) (by decide)).2.1
  have PN : Hid (logMay (Dev.new 64) 2 60 5 7 = 0) := Lib.hid (logMay_new (n := 64) (by decide) (by decide) (by decide) (by decide) (by decide) (by decide) (by decide) rfl (by simp [Dev.new]))
  go_enter Tryd.func11, Tryd.ntmps11
  go_wp2_with fail
  refine (awake7_c).mono ?_
  rintro e w1 ⟨rfl, hf1⟩
  go_wp2_with fail
  refine (new_c 64 (by decide) (by decide) _).mono ?_
  rintro e w2 ⟨db, lb, mb, rfl, h1, n1, n2', n3, hf2⟩
  go_wp2_with fail
  refine (wopen_c h1 (SecBys.new 64) 2 60 5 7).mono ?_
  rintro e w3 ⟨-, hgood, hf3⟩
  obtain ⟨lg, v3, rfl, hlg, hlog, hrec3⟩ := hgood PN.out
  rw [P1.out] at hlog
  obtain ⟨A3, c3, hv3, -, -, -⟩ := OwnRowB.reads (head := recHead) (byt := fun x : Int × List Int => x.2) (hd := 1) (fun _ => rfl) hrec3
  rw [P2.out] at hv3
  have hv3' : v3 = .slice A3 0 c3 := hv3
  subst hv3'
  have HIN0 : Hid (LogIn w.heap.size w3 lg db lb mb ⟨⟨2, 60, 5, 5⟩, 7, 5, false⟩ (Dev.new 64)) := Lib.hid (by
    have z1 := hf1.size
    have z2 := hf2.size
    refine ⟨hlog, h1.keep0 hf3, ?_, ?_⟩
    · have := h1.lt
      rintro (h | h | h) <;> omega
    · rintro k (h | h | h | h) <;> omega)
  have HF3 := Lib.hid ((hf1.then0 hf2).then0 hf3)
  clear hgood hlog h1 n1 n2' n3 hlg hf1 hf2 hf3 hrec3 hv3
  have bq0 : (0 : Int) ≤ (bq : Int) := Int.natCast_nonneg _
  go_wp2_with fail
  refine (budget_c HIN0.out.dev (bq : Int) (by omega)).mono ?_
  rintro e w4 ⟨rfl, hd4, hf4⟩
  have HIN : Hid (LogIn w.heap.size w4 lg db lb mb ⟨⟨2, 60, 5, 5⟩, 7, 5, false⟩ ((Dev.new 64).budgeted (bq : Int))) := Lib.hid (HIN0.out.step (HIN0.out.log.keep hf4 (fun h => HIN0.out.ap (.inl h))) hd4)
  have HF4 := Lib.hid (HIN0.out.fr HF3.out (hf4.mono (fun k h => .inr (.inl h))))
  have HLT : Hid (∀ k, Lv lg db lb mb k → k < w4.heap.size) := Lib.hid (fun k hk => by
    have h1 := HIN.out.log.lt
    obtain ⟨h2, h3, h4⟩ := HIN.out.dev.lt
    rcases hk with h | h | h | h <;> omega)
  clear hd4 hf4
  go_wp2_with fail
  go_loopg [13, 14, 15, 16, 17, 18] n0 (fun kq x13 x14 x15 x16 x17 x18 wr => ∃ j : Nat, j ≤ n0 ∧ kq = n0 - j ∧ x15 = .int .i64 (j : Int) ∧ ∃ L D R s, x14 = .int .i64 ((s : Nat) : Int) ∧ R.length ≤ j ∧ OwnSecs wr w4.heap.size x13 R ∧ LogIn w.heap.size wr lg db lb mb L D ∧ KeepsIn L D R s ∧ Fr F0 w wr ∧ w4.heap.size ≤ wr.heap.size)
  case atStart => exact ⟨0, by omega, rfl, rfl, _, _, [], 0, rfl, Nat.le_refl _, OwnRowB.nil _ _, HIN.out, KeepsIn.new _, HF4.out, Nat.le_refl _⟩
  case round =>
    obtain ⟨j, hj, rfl, rfl, L, D, R, s, rfl, hRj, hown, hin, hkeep, hfr, hsz⟩ := hrel
    have HI := Lib.hid hin
    have HK := Lib.hid hkeep
    have HF := Lib.hid hfr
    have HO := Lib.hid hown
    clear hin hkeep hfr hown
    have s0 : (0 : Int) ≤ (s : Int) := Int.natCast_nonneg _
    have j0 : (0 : Int) ≤ (j : Int) := Int.natCast_nonneg _
    by_cases hlt : j < n0
    · have j1 : (j : Int) < (n0 : Int) := by omega
      cases hg : D.gone with
      | true =>
        go_wp2_with fail
        refine (gone_c HI.out.dev).mono ?_
        rintro e w5 ⟨rfl, rfl⟩
        rw [hg]
        clear hg
        have hopn := HK.out.kept.opens ring5_sane (by decide) (by decide) bs (epoch := 8) (by decide)
        obtain ⟨hgc, mm, hm1, hm2, hop⟩ := hopn
        have HOP : Hid (opened (D.crash bs) 2 60 5 8 = (recsAt 5 (R.take mm), endAt 5 (R.take mm))) := Lib.hid hop
        have HMAY : Hid (logMay (D.crash bs) 2 60 5 8 = 0) := Lib.hid (logMay_new (n := 64) (by decide) (by decide) (by decide) (by decide) (by decide) (by decide) (by decide) rfl hgc.laid)
        have HSB := Lib.hid (HK.out.kept.bys)
        obtain ⟨A9, c9, hv9, hra9, -, -⟩ := OwnRowB.reads (head := fun _ : List Int => []) (byt := fun x : List Int => x) (hd := 0) (fun _ => rfl) HO.out
        subst hv9
        obtain ⟨rn, hrn⟩ : ∃ rn, rn = R.length := ⟨_, rfl⟩
        have hslen := HK.out.kept.most
        rw [← hrn] at hm1 hslen ⊢
        have HRN := Lib.hid hrn
        have HRA9 := Lib.hid hra9
        have rn0 : (0 : Int) ≤ (rn : Int) := Int.natCast_nonneg _
        have mm0 : (0 : Int) ≤ (mm : Int) := Int.natCast_nonneg _
        have mm1 : ¬ mm < s := by omega
        have mm2 : ¬ rn < mm := by omega
        clear hop hgc hra9 hrn
        go_wp2_with fail
        refine (crash_c HI.out.dev A2 c2 bs n2 HL2.out (HV2.out.keep0 HF.out) (fun ad e hp h => by have h1 := HAB.out ad e hp; have h2 := HI.out.new _ (.inr h); omega) (by omega)).mono ?_
        rintro e w10 ⟨rfl, hd10, hf10⟩
        have HD10 := Lib.hid hd10
        have HF10 := Lib.hid (HI.out.fr HF.out (hf10.mono (fun _ h => .inr h)))
        have HO10 := Lib.hid (HO.out.keepS hf10 (fun k hk => HLT.out k (.inr hk)))
        clear hd10 hf10
        go_wp2_with fail
        refine (wopen_c HD10.out (HSB.out.crash bs) 2 60 5 8).mono ?_
        rintro e w11 ⟨-, hgood, hf11⟩
        obtain ⟨lg2, v11, rfl, -, -, hrecs⟩ := hgood HMAY.out
        obtain ⟨A11, c11, rfl, hra11, -, -⟩ := OwnRowB.reads (head := recHead) (byt := fun x : Int × List Int => x.2) (hd := 1) (fun _ => rfl) hrecs
        have hlen11 : (opened (D.crash bs) 2 60 5 8).1.length = mm := by rw [HOP.out, recsAt_len, List.length_take, ← HRN.out]; omega
        rw [hlen11]
        rw [HOP.out] at hra11
        have HR11 := Lib.hid hra11
        have HF11 := Lib.hid (HF10.out.then0 hf11)
        obtain ⟨A9', c9', hv9', hra9', -, -⟩ := OwnRowB.reads (head := fun _ : List Int => []) (byt := fun x : List Int => x) (hd := 0) (fun _ => rfl) (HO10.out.keep hf11)
        cases hv9'
        have HR9 := Lib.hid hra9'
        have HMR : Hid (mm ≤ rn) := Lib.hid hm1
        clear hgood hf11 hrecs hra11 hlen11 hra9' hm1 hm2 hslen
        go_wp2_with fail
        go_loopg [22] mm (fun kq x22 wr => ∃ t : Nat, t ≤ mm ∧ kq = mm - t ∧ x22 = .int .i64 (t : Int) ∧ Fr F0 w11 wr)
        case atStart => exact ⟨0, by omega, rfl, rfl, Fr.refl _ _⟩
        case round =>
          obtain ⟨t, ht, rfl, rfl, hF⟩ := hrel
          have t0 : (0 : Int) ≤ (t : Int) := Int.natCast_nonneg _
          by_cases htn : t < mm
          · have t1 : (t : Int) < (mm : Int) := by omega
            have t2 : (t : Int) < (rn : Int) := by have := HMR.out; omega
            have t3 : (t : Int) ≤ 20 := by have := HMR.out; have := HRN.out; omega
            obtain ⟨ys8, hys8⟩ : ∃ y, R[t]? = some y := ⟨R[t]'(by rw [← HRN.out]; have := HMR.out; omega), List.getElem?_eq_getElem _⟩
            obtain ⟨q, hq⟩ := recsAt_at (R.take mm) 5 t ys8 (by rw [List.getElem?_take_of_lt htn]; exact hys8)
            obtain ⟨b8, off8, B8, cB8, rfl, g1, g2, g3, g4⟩ := (HR11.out.keep0 hF).row t _ hq
            obtain ⟨b9, off9, B9, cB9, rfl, g5, g6, g7, g8⟩ := (HR9.out.keep0 hF).row t _ hys8
            have kc : ∀ (p : Addr) (u : Value), wr.cell? p = some u → ∀ wx, Fr F0 wr wx → wx.cell? p = some u := fun p u h wx hG => (World.cell?_of_block (w := wr) (hG.block _ (World.block_lt_of_cell? wr _ h) (fun h => h))).trans h
            have kc1 := kc ⟨b8, off8 + t * 2 + 1, none⟩ (.slice B8 ys8.length cB8) g2
            have kd1 := kc ⟨b9, off9 + t, none⟩ (.slice B9 ys8.length cB9) (by
              have g6' : wr.cell? ⟨b9, off9 + t * (0 + 1) + 0, none⟩ = some (.slice B9 ys8.length cB9) := g6
              simpa using g6')
            have HB8 := Lib.hid g3
            have HB9 := Lib.hid g7
            clear g1 g2 g3 g4 g5 g6 g7 g8 kc hq hys8
            go_wp2_with fail
            refine wp_region_free (S := F0) [false, false, false, false, false, false, false, false, false, false, false, false, false, false, false, false, false, false, false, false, false, false, false, false, false, false, false, false, false, false, false, false, false, false, false, false, false, false, false, false, false, false, false, false, false, false, false, false, false, false, false, false, false, false, false, false, false, false, false, false, false, false, false, false, false, false, false, false, false, false, false, false, false, false, false, false, false, false, false, false, false, false, false, false, false, false, false, false, false, false, false, false, false, false, false, false, false, false, false, false, false, false, false, false, false, false, false, false, false, false, false, false, false, false, false, false, false, false, false, false, false, false, false, false, false, false, false, false, false, false, false, false, false, false, true, true, true, true, true, true, true, true, true, true, true, true, false] [.eq (.slice (some ⟨b8, off8, none⟩) mm c11), .eq (.int .i64 (t : Int)), .eq (.pointer (some ⟨b8, off8 + t * 2, none⟩)), .eq (.pointer (some ⟨b8, off8 + t * 2 + 1, none⟩)), .eq (.slice B8 ys8.length cB8), .eq (.string (strOfNums ys8)), .eq (.slice (some ⟨b9, off9, none⟩) rn c9), .eq (.int .i64 (t : Int)), .eq (.pointer (some ⟨b9, off9 + t, none⟩)), .eq (.slice B9 ys8.length cB9), .eq (.string (strOfNums ys8)), .eq (.bool false)] (by kernel_rfl) (by kernel_rfl) (by rfl) (fun us => ?steps) (fun us wr hG hall => ?fin)
            case steps =>
              simp only [fillL, Nat.reduceAdd]
              refine stepsHold.cons (fun wx hG hd K hK => ?_) ?_
              · rw [if_pos (wanted_none rfl)]
                refine wp_value (w2 := wx) (v := .slice (some ⟨b8, off8, none⟩) mm c11) ?_ (hK _ _ rfl (Fr.refl _ _))
                clear hd hG hK
                go_simp
              refine stepsHold.cons (fun wx hG hd K hK => ?_) ?_
              · rw [if_pos (wanted_none rfl)]
                refine wp_value (w2 := wx) (v := .int .i64 (t : Int)) ?_ (hK _ _ rfl (Fr.refl _ _))
                clear hd hG hK
                go_simp
              refine stepsHold.cons (fun wx hG hd K hK => ?_) ?_
              · have h134 : us 134 = (.slice (some ⟨b8, off8, none⟩) mm c11) := deps_get hd 0 rfl rfl rfl rfl rfl
                have h135 : us 135 = (.int .i64 (t : Int)) := deps_get hd 1 rfl rfl rfl rfl rfl
                rw [if_pos (wanted_none rfl)]
                refine wp_value (w2 := wx) (v := .pointer (some ⟨b8, off8 + t * 2, none⟩)) ?_ (hK _ _ rfl (Fr.refl _ _))
                clear hd hG hK
                go_simp
              refine stepsHold.cons (fun wx hG hd K hK => ?_) ?_
              · have h136 : us 136 = (.pointer (some ⟨b8, off8 + t * 2, none⟩)) := deps_get hd 0 rfl rfl rfl rfl rfl
                rw [if_pos (wanted_none rfl)]
                refine wp_value (w2 := wx) (v := .pointer (some ⟨b8, off8 + t * 2 + 1, none⟩)) ?_ (hK _ _ rfl (Fr.refl _ _))
                clear hd hG hK
                go_simp
              refine stepsHold.cons (fun wx hG hd K hK => ?_) ?_
              · have h137 : us 137 = (.pointer (some ⟨b8, off8 + t * 2 + 1, none⟩)) := deps_get hd 0 rfl rfl rfl rfl rfl
                rw [if_pos (wanted_none rfl)]
                have hc := kc1 wx hG
                refine wp_value (w2 := wx) (v := .slice B8 ys8.length cB8) ?_ (hK _ _ rfl (Fr.refl _ _))
                clear hd hK
                go_simp
              refine stepsHold.cons (fun wx hG hd K hK => ?_) ?_
              · have h138 : us 138 = (.slice B8 ys8.length cB8) := deps_get hd 0 rfl rfl rfl rfl rfl
                rw [if_pos (wanted_none rfl)]
                have hr := conv_at ((HB8.out.keep0 hG).at_) und_bytes und_u8 und7_string cB8
                refine wp_value (w2 := wx) (v := .string (strOfNums ys8)) ?_ (hK _ _ rfl (Fr.refl _ _))
                clear hd hK
                go_simp
              refine stepsHold.cons (fun wx hG hd K hK => ?_) ?_
              · rw [if_pos (wanted_none rfl)]
                refine wp_value (w2 := wx) (v := .slice (some ⟨b9, off9, none⟩) rn c9) ?_ (hK _ _ rfl (Fr.refl _ _))
                clear hd hG hK
                go_simp
              refine stepsHold.cons (fun wx hG hd K hK => ?_) ?_
              · rw [if_pos (wanted_none rfl)]
                refine wp_value (w2 := wx) (v := .int .i64 (t : Int)) ?_ (hK _ _ rfl (Fr.refl _ _))
                clear hd hG hK
                go_simp
              refine stepsHold.cons (fun wx hG hd K hK => ?_) ?_
              · have h140 : us 140 = (.slice (some ⟨b9, off9, none⟩) rn c9) := deps_get hd 0 rfl rfl rfl rfl rfl
                have h141 : us 141 = (.int .i64 (t : Int)) := deps_get hd 1 rfl rfl rfl rfl rfl
                rw [if_pos (wanted_none rfl)]
                refine wp_value (w2 := wx) (v := .pointer (some ⟨b9, off9 + t, none⟩)) ?_ (hK _ _ rfl (Fr.refl _ _))
                clear hd hG hK
                go_simp
              refine stepsHold.cons (fun wx hG hd K hK => ?_) ?_
              · have h142 : us 142 = (.pointer (some ⟨b9, off9 + t, none⟩)) := deps_get hd 0 rfl rfl rfl rfl rfl
                rw [if_pos (wanted_none rfl)]
                have hc := kd1 wx hG
                refine wp_value (w2 := wx) (v := .slice B9 ys8.length cB9) ?_ (hK _ _ rfl (Fr.refl _ _))
                clear hd hK
                go_simp
              refine stepsHold.cons (fun wx hG hd K hK => ?_) ?_
              · have h143 : us 143 = (.slice B9 ys8.length cB9) := deps_get hd 0 rfl rfl rfl rfl rfl
                rw [if_pos (wanted_none rfl)]
                have hr := conv_at ((HB9.out.keep0 hG).at_) und_bytes und_u8 und7_string cB9
                refine wp_value (w2 := wx) (v := .string (strOfNums ys8)) ?_ (hK _ _ rfl (Fr.refl _ _))
                clear hd hK
                go_simp
              refine stepsHold.cons (fun wx hG hd K hK => ?_) ?_
              · have h139 : us 139 = (.string (strOfNums ys8)) := deps_get hd 0 rfl rfl rfl rfl rfl
                have h144 : us 144 = (.string (strOfNums ys8)) := deps_get hd 1 rfl rfl rfl rfl rfl
                rw [if_pos (wanted_none rfl)]
                refine wp_value (w2 := wx) (v := .bool false) ?_ (hK _ _ rfl (Fr.refl _ _))
                clear hd hG hK
                go_simp
              exact stepsHold.nil
            case fin =>
              have h134 : us 134 = (.slice (some ⟨b8, off8, none⟩) mm c11) := all_get hall 0 rfl rfl rfl
              have h135 : us 135 = (.int .i64 (t : Int)) := all_get hall 1 rfl rfl rfl
              have h136 : us 136 = (.pointer (some ⟨b8, off8 + t * 2, none⟩)) := all_get hall 2 rfl rfl rfl
              have h137 : us 137 = (.pointer (some ⟨b8, off8 + t * 2 + 1, none⟩)) := all_get hall 3 rfl rfl rfl
              have h138 : us 138 = (.slice B8 ys8.length cB8) := all_get hall 4 rfl rfl rfl
              have h139 : us 139 = (.string (strOfNums ys8)) := all_get hall 5 rfl rfl rfl
              have h140 : us 140 = (.slice (some ⟨b9, off9, none⟩) rn c9) := all_get hall 6 rfl rfl rfl
              have h141 : us 141 = (.int .i64 (t : Int)) := all_get hall 7 rfl rfl rfl
              have h142 : us 142 = (.pointer (some ⟨b9, off9 + t, none⟩)) := all_get hall 8 rfl rfl rfl
              have h143 : us 143 = (.slice B9 ys8.length cB9) := all_get hall 9 rfl rfl rfl
              have h144 : us 144 = (.string (strOfNums ys8)) := all_get hall 10 rfl rfl rfl
              have h145 : us 145 = (.bool false) := all_get hall 11 rfl rfl rfl
              simp only [fillL, Nat.reduceAdd]
              clear hall
              simp only [h134, h135, h136, h137, h138, h139, h140, h141, h142, h143, h144, h145]
              clear h134 h135 h136 h137 h138 h139 h140 h141 h142 h143 h144 h145
              go_wp2_with fail
              go_roundg (mm - (t + 1))
              case measure => omega
              case rel => exact ⟨t + 1, by omega, rfl, by first | rfl | (go_num), hF.then0 hG⟩
          · have htn : t = mm := by omega
            subst htn
            go_wp2_with fail
            go_ret
            exact ⟨rfl, HF11.out.then0 hF⟩
      | false =>
        obtain ⟨x, hx⟩ : ∃ x, xs[j]? = some x := ⟨xs[j]'(by rw [HL0.out]; exact hlt), List.getElem?_eq_getElem _⟩
        obtain ⟨ad, rfl, hc⟩ := (HV0.out.keep0 HF.out).cells (by rw [List.length_map, HL0.out]; omega)
        have gx : wr.cell? (ad.add j) = some (.int .i64 x) := hc j _ (by simp [hx])
        obtain ⟨adw, hadw, hcw⟩ := HV0.out.cells (by rw [List.length_map, HL0.out]; omega)
        cases hadw
        have HGX : Hid (∀ wx, Fr F0 w wx → wx.cell? (ad.add j) = some (.int .i64 x)) := Lib.hid (fun wx hG => by
          have h0 : w.cell? (ad.add j) = some (.int .i64 x) := hcw j _ (by simp [hx])
          exact (World.cell?_of_block (w := w) (hG.block _ (World.block_lt_of_cell? w _ h0) (fun h => h))).trans h0)
        obtain ⟨m, hm⟩ : ∃ m : Nat, x % 128 = (m : Int) := ⟨(x % 128).toNat, by omega⟩
        have hm1 : m < 128 := by omega
        have hband : bits .and .i64 x 127 = (m : Int) := by rw [← hm]; exact i64_and x 7 (by decide)
        have hjb : IntKind.u8.wrap (j : Int) = (j : Int) := by rw [IntKind.wrap_u8]; omega
        have HG := Lib.hid hg
        clear hc hx hm hcw hg
        go_wp2_with fail
        refine (gone_c HI.out.dev).mono ?_
        rintro e w5 ⟨rfl, rfl⟩
        rw [HG.out]
        go_wp2_with fail
        refine (some_c m (by omega) (j : Int) (by omega) (by omega)).mono ?_
        rintro e w5 ⟨v5, rfl, hov⟩
        obtain ⟨A5, c5, rfl, hby, hnew⟩ := hov.byt
        have HI5 := Lib.hid (HI.out.keep0 hov.fr)
        have HF5 := Lib.hid (HF.out.then0 hov.fr)
        have HO5 := Lib.hid (HO.out.keep hov.fr)
        have HBY := Lib.hid hby
        obtain ⟨ys, hys⟩ : ∃ ys, ys = someL m (j : Int) := ⟨_, rfl⟩
        rw [← hys] at HBY ⊢
        have HYB : Hid (Bys ys) := Lib.hid (by rw [hys]; exact someL_bys _ _)
        have HYL : Hid (ys.length ≤ 44000) := Lib.hid (by rw [hys, someL_len]; omega)
        have HNW : Hid (∀ ad, A5 = some ad → wr.heap.size ≤ ad.block) := Lib.hid hnew
        have HS5 : Hid (wr.heap.size ≤ w5.heap.size) := Lib.hid hov.fr.size
        clear hov hby hys hnew gx hband
        go_wp2_with fail
        refine (append7_c HI5.out.log HI5.out.dev HI5.out.ap HK.out.sane (by rw [HK.out.epoch]; decide) (by rw [HK.out.epoch]; decide) A5 ys.length c5 ys HBY.out rfl HYB.out HYL.out).mono ?_
        rintro e w6 ⟨rfl, hl6, hd6, hf6⟩
        have HI6 := Lib.hid (HI5.out.step hl6 hd6)
        have HF6 := Lib.hid (HI5.out.fr HF5.out hf6)
        have HO6 := Lib.hid (HO5.out.keepS hf6 (fun k hk => HLT.out k hk))
        have HB6 := Lib.hid (HBY.out.keep hf6 (fun hp ad e h => by have h1 := HNW.out ad e; have h2 := HLT.out _ h; omega))
        have HS6 : Hid (wr.heap.size ≤ w6.heap.size) := Lib.hid (Nat.le_trans HS5.out hf6.size)
        have gx := HGX.out _ HF6.out
        obtain ⟨ap, hap⟩ : ∃ ap, ap = L.appP D ys := ⟨_, rfl⟩
        rw [← hap]
        clear hl6 hd6 hf6 hap
        rcases HK.out.app HG.out HYB.out HYL.out with ⟨u1, u2, u3⟩ | ⟨u1, hk6⟩
        · rw [u1]
          rw [u2, u3] at HI6
          have HK6 := HK
          clear u1 u2 u3
          by_cases h128 : bits .and .i64 x 128 = 128
          · rcases HK6.out.force with ⟨f1, hk7⟩ | ⟨f1, hk7⟩
            · have HK7 := Lib.hid hk7
              have HFE := Lib.hid f1
              clear f1 hk7
              go_wp2_with fail
              refine (HI6.out.force HFE.out rfl rfl).mono ?_
              rintro e w7 ⟨rfl, hin7, hf7⟩
              have HI7 := Lib.hid hin7
              have HF7 := Lib.hid (HI6.out.fr HF6.out hf7)
              have HO7 := Lib.hid (HO6.out.keepS hf7 (fun k hk => HLT.out k hk))
              have HS7 : Hid (wr.heap.size ≤ w7.heap.size) := Lib.hid (Nat.le_trans HS6.out hf7.size)
              clear hin7 hf7 gx
              obtain ⟨A13, c13, hv13, -, -, -⟩ := OwnRowB.reads (head := fun _ : List Int => []) (byt := fun x : List Int => x) (hd := 0) (fun _ => rfl) HO7.out
              subst hv13
              go_wp2_with fail
              go_roundg (n0 - (j + 1))
              case measure => omega
              case rel => exact ⟨j + 1, by omega, rfl, by first | rfl | (go_num), _, _, R, (R).length, rfl, by omega, HO7.out, HI7.out, HK7.out, HF7.out, Nat.le_trans hsz HS7.out⟩
            · have HK7 := Lib.hid hk7
              have HFE := Lib.hid f1
              clear f1 hk7
              go_wp2_with fail
              refine (HI6.out.force HFE.out rfl rfl).mono ?_
              rintro e w7 ⟨rfl, hin7, hf7⟩
              have HI7 := Lib.hid hin7
              have HF7 := Lib.hid (HI6.out.fr HF6.out hf7)
              have HO7 := Lib.hid (HO6.out.keepS hf7 (fun k hk => HLT.out k hk))
              have HS7 : Hid (wr.heap.size ≤ w7.heap.size) := Lib.hid (Nat.le_trans HS6.out hf7.size)
              clear hin7 hf7 gx
              go_wp2_with fail
              go_roundg (n0 - (j + 1))
              case measure => omega
              case rel => exact ⟨j + 1, by omega, rfl, by first | rfl | (go_num), _, _, R, s, rfl, by omega, HO7.out, HI7.out, HK7.out, HF7.out, Nat.le_trans hsz HS7.out⟩
          · skip
            go_wp2_with fail
            go_roundg (n0 - (j + 1))
            case measure => omega
            case rel => exact ⟨j + 1, by omega, rfl, by first | rfl | (go_num), _, _, R, s, rfl, by omega, HO6.out, HI6.out, HK6.out, HF6.out, Nat.le_trans hsz HS6.out⟩
        · have HK6 := Lib.hid hk6
          clear hk6
          have hApp : ∀ (E : Int), (E = 0 ∨ E = 11) → True := fun _ _ => trivial
          rcases u1 with u1 | u1
          · rw [u1]
            clear u1 hApp
            by_cases h128 : bits .and .i64 x 128 = 128
            · rcases HK6.out.force with ⟨f1, hk7⟩ | ⟨f1, hk7⟩
              · have HK7 := Lib.hid hk7
                have HFE := Lib.hid f1
                clear f1 hk7
                go_wp2_with (at_builtin; refine wpList_append_rowB (t := 24) (hd := 0) (head := fun _ : List Int => []) (byt := fun x : List Int => x) rfl (.tmp 78) (.tmp 80) 84 24 (.slice none 0 0) rfl und_bytess info_bytes rfl (by decide) (fun _ => rfl) (fun _ u hu => by simp at hu) w4.heap.size u13 R ys A5 c5 w6.heap.size rfl (by rfl) (by rfl) HO6.out HB6.out HYB.out (fun ad e hp => ⟨fun h => by have h1 := HNW.out ad e; have h2 := HO.out.lt _ h; omega, by have h1 := HNW.out ad e; omega⟩) (by have := HS6.out; omega) (by omega) ?_; intro v8 w8 hown8 hf8; have HHF := Lib.hid hf8; have HO8 := Lib.hid hown8; have gx := HGX.out _ (HF6.out.trans hf8 (fun k hk => .inr (by have h2 := HO.out.base_le _ hk; have h3 := HF4.out.size; omega))); clear hown8 hf8)
                have hLv : ∀ k, Lv lg db lb mb k → ¬ (u13.ownBlock = some k) := fun k hk h => by have h1 := HLT.out k hk; have h2 := HO.out.base_le _ h; omega
                have HI6 := Lib.hid (HI6.out.keepL HHF.out hLv)
                have HF6 := Lib.hid (HF6.out.trans HHF.out (fun k hk => .inr (by have h2 := HO.out.base_le _ hk; have h3 := HF4.out.size; omega)))
                have HS6 : Hid (wr.heap.size ≤ w8.heap.size) := Lib.hid (Nat.le_trans HS6.out HHF.out.size)
                clear hLv HHF
                refine (HI6.out.force HFE.out rfl rfl).mono ?_
                rintro e w7 ⟨rfl, hin7, hf7⟩
                have HI7 := Lib.hid hin7
                have HF7 := Lib.hid (HI6.out.fr HF6.out hf7)
                have HO7 := Lib.hid (HO8.out.keepS hf7 (fun k hk => HLT.out k hk))
                have HS7 : Hid (wr.heap.size ≤ w7.heap.size) := Lib.hid (Nat.le_trans HS6.out hf7.size)
                clear hin7 hf7 gx
                obtain ⟨A13, c13, hv13, -, -, -⟩ := OwnRowB.reads (head := fun _ : List Int => []) (byt := fun x : List Int => x) (hd := 0) (fun _ => rfl) HO7.out
                have hrl : (R ++ [ys]).length = R.length + 1 := by simp
                rw [hrl] at hv13
                subst hv13
                go_wp2_with fail
                go_roundg (n0 - (j + 1))
                case measure => omega
                case rel => exact ⟨j + 1, by omega, rfl, by first | rfl | (go_num), _, _, (R ++ [ys]), ((R ++ [ys])).length, by simp, by (rw [List.length_append]; simp; omega), HO7.out, HI7.out, HK7.out, HF7.out, Nat.le_trans hsz HS7.out⟩
              · have HK7 := Lib.hid hk7
                have HFE := Lib.hid f1
                clear f1 hk7
                go_wp2_with (at_builtin; refine wpList_append_rowB (t := 24) (hd := 0) (head := fun _ : List Int => []) (byt := fun x : List Int => x) rfl (.tmp 78) (.tmp 80) 84 24 (.slice none 0 0) rfl und_bytess info_bytes rfl (by decide) (fun _ => rfl) (fun _ u hu => by simp at hu) w4.heap.size u13 R ys A5 c5 w6.heap.size rfl (by rfl) (by rfl) HO6.out HB6.out HYB.out (fun ad e hp => ⟨fun h => by have h1 := HNW.out ad e; have h2 := HO.out.lt _ h; omega, by have h1 := HNW.out ad e; omega⟩) (by have := HS6.out; omega) (by omega) ?_; intro v8 w8 hown8 hf8; have HHF := Lib.hid hf8; have HO8 := Lib.hid hown8; have gx := HGX.out _ (HF6.out.trans hf8 (fun k hk => .inr (by have h2 := HO.out.base_le _ hk; have h3 := HF4.out.size; omega))); clear hown8 hf8)
                have hLv : ∀ k, Lv lg db lb mb k → ¬ (u13.ownBlock = some k) := fun k hk h => by have h1 := HLT.out k hk; have h2 := HO.out.base_le _ h; omega
                have HI6 := Lib.hid (HI6.out.keepL HHF.out hLv)
                have HF6 := Lib.hid (HF6.out.trans HHF.out (fun k hk => .inr (by have h2 := HO.out.base_le _ hk; have h3 := HF4.out.size; omega)))
                have HS6 : Hid (wr.heap.size ≤ w8.heap.size) := Lib.hid (Nat.le_trans HS6.out HHF.out.size)
                clear hLv HHF
                refine (HI6.out.force HFE.out rfl rfl).mono ?_
                rintro e w7 ⟨rfl, hin7, hf7⟩
                have HI7 := Lib.hid hin7
                have HF7 := Lib.hid (HI6.out.fr HF6.out hf7)
                have HO7 := Lib.hid (HO8.out.keepS hf7 (fun k hk => HLT.out k hk))
                have HS7 : Hid (wr.heap.size ≤ w7.heap.size) := Lib.hid (Nat.le_trans HS6.out hf7.size)
                clear hin7 hf7 gx
                go_wp2_with fail
                go_roundg (n0 - (j + 1))
                case measure => omega
                case rel => exact ⟨j + 1, by omega, rfl, by first | rfl | (go_num), _, _, (R ++ [ys]), s, rfl, by (rw [List.length_append]; simp; omega), HO7.out, HI7.out, HK7.out, HF7.out, Nat.le_trans hsz HS7.out⟩
            · skip
              go_wp2_with (at_builtin; refine wpList_append_rowB (t := 24) (hd := 0) (head := fun _ : List Int => []) (byt := fun x : List Int => x) rfl (.tmp 78) (.tmp 80) 84 24 (.slice none 0 0) rfl und_bytess info_bytes rfl (by decide) (fun _ => rfl) (fun _ u hu => by simp at hu) w4.heap.size u13 R ys A5 c5 w6.heap.size rfl (by rfl) (by rfl) HO6.out HB6.out HYB.out (fun ad e hp => ⟨fun h => by have h1 := HNW.out ad e; have h2 := HO.out.lt _ h; omega, by have h1 := HNW.out ad e; omega⟩) (by have := HS6.out; omega) (by omega) ?_; intro v8 w8 hown8 hf8; have HHF := Lib.hid hf8; have HO8 := Lib.hid hown8; have gx := HGX.out _ (HF6.out.trans hf8 (fun k hk => .inr (by have h2 := HO.out.base_le _ hk; have h3 := HF4.out.size; omega))); clear hown8 hf8)
              have hLv : ∀ k, Lv lg db lb mb k → ¬ (u13.ownBlock = some k) := fun k hk h => by have h1 := HLT.out k hk; have h2 := HO.out.base_le _ h; omega
              have HI6 := Lib.hid (HI6.out.keepL HHF.out hLv)
              have HF6 := Lib.hid (HF6.out.trans HHF.out (fun k hk => .inr (by have h2 := HO.out.base_le _ hk; have h3 := HF4.out.size; omega)))
              have HS6 : Hid (wr.heap.size ≤ w8.heap.size) := Lib.hid (Nat.le_trans HS6.out HHF.out.size)
              clear hLv HHF
              go_roundg (n0 - (j + 1))
              case measure => omega
              case rel => exact ⟨j + 1, by omega, rfl, by first | rfl | (go_num), _, _, (R ++ [ys]), s, rfl, by (rw [List.length_append]; simp; omega), HO8.out, HI6.out, HK6.out, HF6.out, Nat.le_trans hsz HS6.out⟩
          · rw [u1]
            clear u1 hApp
            by_cases h128 : bits .and .i64 x 128 = 128
            · rcases HK6.out.force with ⟨f1, hk7⟩ | ⟨f1, hk7⟩
              · have HK7 := Lib.hid hk7
                have HFE := Lib.hid f1
                clear f1 hk7
                go_wp2_with (at_builtin; refine wpList_append_rowB (t := 24) (hd := 0) (head := fun _ : List Int => []) (byt := fun x : List Int => x) rfl (.tmp 78) (.tmp 80) 84 24 (.slice none 0 0) rfl und_bytess info_bytes rfl (by decide) (fun _ => rfl) (fun _ u hu => by simp at hu) w4.heap.size u13 R ys A5 c5 w6.heap.size rfl (by rfl) (by rfl) HO6.out HB6.out HYB.out (fun ad e hp => ⟨fun h => by have h1 := HNW.out ad e; have h2 := HO.out.lt _ h; omega, by have h1 := HNW.out ad e; omega⟩) (by have := HS6.out; omega) (by omega) ?_; intro v8 w8 hown8 hf8; have HHF := Lib.hid hf8; have HO8 := Lib.hid hown8; have gx := HGX.out _ (HF6.out.trans hf8 (fun k hk => .inr (by have h2 := HO.out.base_le _ hk; have h3 := HF4.out.size; omega))); clear hown8 hf8)
                have hLv : ∀ k, Lv lg db lb mb k → ¬ (u13.ownBlock = some k) := fun k hk h => by have h1 := HLT.out k hk; have h2 := HO.out.base_le _ h; omega
                have HI6 := Lib.hid (HI6.out.keepL HHF.out hLv)
                have HF6 := Lib.hid (HF6.out.trans HHF.out (fun k hk => .inr (by have h2 := HO.out.base_le _ hk; have h3 := HF4.out.size; omega)))
                have HS6 : Hid (wr.heap.size ≤ w8.heap.size) := Lib.hid (Nat.le_trans HS6.out HHF.out.size)
                clear hLv HHF
                refine (HI6.out.force HFE.out rfl rfl).mono ?_
                rintro e w7 ⟨rfl, hin7, hf7⟩
                have HI7 := Lib.hid hin7
                have HF7 := Lib.hid (HI6.out.fr HF6.out hf7)
                have HO7 := Lib.hid (HO8.out.keepS hf7 (fun k hk => HLT.out k hk))
                have HS7 : Hid (wr.heap.size ≤ w7.heap.size) := Lib.hid (Nat.le_trans HS6.out hf7.size)
                clear hin7 hf7 gx
                obtain ⟨A13, c13, hv13, -, -, -⟩ := OwnRowB.reads (head := fun _ : List Int => []) (byt := fun x : List Int => x) (hd := 0) (fun _ => rfl) HO7.out
                have hrl : (R ++ [ys]).length = R.length + 1 := by simp
                rw [hrl] at hv13
                subst hv13
                go_wp2_with fail
                go_roundg (n0 - (j + 1))
                case measure => omega
                case rel => exact ⟨j + 1, by omega, rfl, by first | rfl | (go_num), _, _, (R ++ [ys]), ((R ++ [ys])).length, by simp, by (rw [List.length_append]; simp; omega), HO7.out, HI7.out, HK7.out, HF7.out, Nat.le_trans hsz HS7.out⟩
              · have HK7 := Lib.hid hk7
                have HFE := Lib.hid f1
                clear f1 hk7
                go_wp2_with (at_builtin; refine wpList_append_rowB (t := 24) (hd := 0) (head := fun _ : List Int => []) (byt := fun x : List Int => x) rfl (.tmp 78) (.tmp 80) 84 24 (.slice none 0 0) rfl und_bytess info_bytes rfl (by decide) (fun _ => rfl) (fun _ u hu => by simp at hu) w4.heap.size u13 R ys A5 c5 w6.heap.size rfl (by rfl) (by rfl) HO6.out HB6.out HYB.out (fun ad e hp => ⟨fun h => by have h1 := HNW.out ad e; have h2 := HO.out.lt _ h; omega, by have h1 := HNW.out ad e; omega⟩) (by have := HS6.out; omega) (by omega) ?_; intro v8 w8 hown8 hf8; have HHF := Lib.hid hf8; have HO8 := Lib.hid hown8; have gx := HGX.out _ (HF6.out.trans hf8 (fun k hk => .inr (by have h2 := HO.out.base_le _ hk; have h3 := HF4.out.size; omega))); clear hown8 hf8)
                have hLv : ∀ k, Lv lg db lb mb k → ¬ (u13.ownBlock = some k) := fun k hk h => by have h1 := HLT.out k hk; have h2 := HO.out.base_le _ h; omega
                have HI6 := Lib.hid (HI6.out.keepL HHF.out hLv)
                have HF6 := Lib.hid (HF6.out.trans HHF.out (fun k hk => .inr (by have h2 := HO.out.base_le _ hk; have h3 := HF4.out.size; omega)))
                have HS6 : Hid (wr.heap.size ≤ w8.heap.size) := Lib.hid (Nat.le_trans HS6.out HHF.out.size)
                clear hLv HHF
                refine (HI6.out.force HFE.out rfl rfl).mono ?_
                rintro e w7 ⟨rfl, hin7, hf7⟩
                have HI7 := Lib.hid hin7
                have HF7 := Lib.hid (HI6.out.fr HF6.out hf7)
                have HO7 := Lib.hid (HO8.out.keepS hf7 (fun k hk => HLT.out k hk))
                have HS7 : Hid (wr.heap.size ≤ w7.heap.size) := Lib.hid (Nat.le_trans HS6.out hf7.size)
                clear hin7 hf7 gx
                go_wp2_with fail
                go_roundg (n0 - (j + 1))
                case measure => omega
                case rel => exact ⟨j + 1, by omega, rfl, by first | rfl | (go_num), _, _, (R ++ [ys]), s, rfl, by (rw [List.length_append]; simp; omega), HO7.out, HI7.out, HK7.out, HF7.out, Nat.le_trans hsz HS7.out⟩
            · skip
              go_wp2_with (at_builtin; refine wpList_append_rowB (t := 24) (hd := 0) (head := fun _ : List Int => []) (byt := fun x : List Int => x) rfl (.tmp 78) (.tmp 80) 84 24 (.slice none 0 0) rfl und_bytess info_bytes rfl (by decide) (fun _ => rfl) (fun _ u hu => by simp at hu) w4.heap.size u13 R ys A5 c5 w6.heap.size rfl (by rfl) (by rfl) HO6.out HB6.out HYB.out (fun ad e hp => ⟨fun h => by have h1 := HNW.out ad e; have h2 := HO.out.lt _ h; omega, by have h1 := HNW.out ad e; omega⟩) (by have := HS6.out; omega) (by omega) ?_; intro v8 w8 hown8 hf8; have HHF := Lib.hid hf8; have HO8 := Lib.hid hown8; have gx := HGX.out _ (HF6.out.trans hf8 (fun k hk => .inr (by have h2 := HO.out.base_le _ hk; have h3 := HF4.out.size; omega))); clear hown8 hf8)
              have hLv : ∀ k, Lv lg db lb mb k → ¬ (u13.ownBlock = some k) := fun k hk h => by have h1 := HLT.out k hk; have h2 := HO.out.base_le _ h; omega
              have HI6 := Lib.hid (HI6.out.keepL HHF.out hLv)
              have HF6 := Lib.hid (HF6.out.trans HHF.out (fun k hk => .inr (by have h2 := HO.out.base_le _ hk; have h3 := HF4.out.size; omega)))
              have HS6 : Hid (wr.heap.size ≤ w8.heap.size) := Lib.hid (Nat.le_trans HS6.out HHF.out.size)
              clear hLv HHF
              go_roundg (n0 - (j + 1))
              case measure => omega
              case rel => exact ⟨j + 1, by omega, rfl, by first | rfl | (go_num), _, _, (R ++ [ys]), s, rfl, by (rw [List.length_append]; simp; omega), HO8.out, HI6.out, HK6.out, HF6.out, Nat.le_trans hsz HS6.out⟩
    · have hjn : j = n0 := by omega
      subst hjn
      clear hlt
      have hopn := HK.out.kept.opens ring5_sane (by decide) (by decide) bs (epoch := 8) (by decide)
      obtain ⟨hgc, mm, hm1, hm2, hop⟩ := hopn
      have HOP : Hid (opened (D.crash bs) 2 60 5 8 = (recsAt 5 (R.take mm), endAt 5 (R.take mm))) := Lib.hid hop
      have HMAY : Hid (logMay (D.crash bs) 2 60 5 8 = 0) := Lib.hid (logMay_new (n := 64) (by decide) (by decide) (by decide) (by decide) (by decide) (by decide) (by decide) rfl hgc.laid)
      have HSB := Lib.hid (HK.out.kept.bys)
      obtain ⟨A9, c9, hv9, hra9, -, -⟩ := OwnRowB.reads (head := fun _ : List Int => []) (byt := fun x : List Int => x) (hd := 0) (fun _ => rfl) HO.out
      subst hv9
      obtain ⟨rn, hrn⟩ : ∃ rn, rn = R.length := ⟨_, rfl⟩
      have hslen := HK.out.kept.most
      rw [← hrn] at hm1 hslen ⊢
      have HRN := Lib.hid hrn
      have HRA9 := Lib.hid hra9
      have rn0 : (0 : Int) ≤ (rn : Int) := Int.natCast_nonneg _
      have mm0 : (0 : Int) ≤ (mm : Int) := Int.natCast_nonneg _
      have mm1 : ¬ mm < s := by omega
      have mm2 : ¬ rn < mm := by omega
      clear hop hgc hra9 hrn
      go_wp2_with fail
      refine (crash_c HI.out.dev A2 c2 bs n2 HL2.out (HV2.out.keep0 HF.out) (fun ad e hp h => by have h1 := HAB.out ad e hp; have h2 := HI.out.new _ (.inr h); omega) (by omega)).mono ?_
      rintro e w10 ⟨rfl, hd10, hf10⟩
      have HD10 := Lib.hid hd10
      have HF10 := Lib.hid (HI.out.fr HF.out (hf10.mono (fun _ h => .inr h)))
      have HO10 := Lib.hid (HO.out.keepS hf10 (fun k hk => HLT.out k (.inr hk)))
      clear hd10 hf10
      go_wp2_with fail
      refine (wopen_c HD10.out (HSB.out.crash bs) 2 60 5 8).mono ?_
      rintro e w11 ⟨-, hgood, hf11⟩
      obtain ⟨lg2, v11, rfl, -, -, hrecs⟩ := hgood HMAY.out
      obtain ⟨A11, c11, rfl, hra11, -, -⟩ := OwnRowB.reads (head := recHead) (byt := fun x : Int × List Int => x.2) (hd := 1) (fun _ => rfl) hrecs
      have hlen11 : (opened (D.crash bs) 2 60 5 8).1.length = mm := by rw [HOP.out, recsAt_len, List.length_take, ← HRN.out]; omega
      rw [hlen11]
      rw [HOP.out] at hra11
      have HR11 := Lib.hid hra11
      have HF11 := Lib.hid (HF10.out.then0 hf11)
      obtain ⟨A9', c9', hv9', hra9', -, -⟩ := OwnRowB.reads (head := fun _ : List Int => []) (byt := fun x : List Int => x) (hd := 0) (fun _ => rfl) (HO10.out.keep hf11)
      cases hv9'
      have HR9 := Lib.hid hra9'
      have HMR : Hid (mm ≤ rn) := Lib.hid hm1
      clear hgood hf11 hrecs hra11 hlen11 hra9' hm1 hm2 hslen
      go_wp2_with fail
      go_loopg [22] mm (fun kq x22 wr => ∃ t : Nat, t ≤ mm ∧ kq = mm - t ∧ x22 = .int .i64 (t : Int) ∧ Fr F0 w11 wr)
      case atStart => exact ⟨0, by omega, rfl, rfl, Fr.refl _ _⟩
      case round =>
        obtain ⟨t, ht, rfl, rfl, hF⟩ := hrel
        have t0 : (0 : Int) ≤ (t : Int) := Int.natCast_nonneg _
        by_cases htn : t < mm
        · have t1 : (t : Int) < (mm : Int) := by omega
          have t2 : (t : Int) < (rn : Int) := by have := HMR.out; omega
          have t3 : (t : Int) ≤ 20 := by have := HMR.out; have := HRN.out; omega
          obtain ⟨ys8, hys8⟩ : ∃ y, R[t]? = some y := ⟨R[t]'(by rw [← HRN.out]; have := HMR.out; omega), List.getElem?_eq_getElem _⟩
          obtain ⟨q, hq⟩ := recsAt_at (R.take mm) 5 t ys8 (by rw [List.getElem?_take_of_lt htn]; exact hys8)
          obtain ⟨b8, off8, B8, cB8, rfl, g1, g2, g3, g4⟩ := (HR11.out.keep0 hF).row t _ hq
          obtain ⟨b9, off9, B9, cB9, rfl, g5, g6, g7, g8⟩ := (HR9.out.keep0 hF).row t _ hys8
          have kc : ∀ (p : Addr) (u : Value), wr.cell? p = some u → ∀ wx, Fr F0 wr wx → wx.cell? p = some u := fun p u h wx hG => (World.cell?_of_block (w := wr) (hG.block _ (World.block_lt_of_cell? wr _ h) (fun h => h))).trans h
          have kc1 := kc ⟨b8, off8 + t * 2 + 1, none⟩ (.slice B8 ys8.length cB8) g2
          have kd1 := kc ⟨b9, off9 + t, none⟩ (.slice B9 ys8.length cB9) (by
            have g6' : wr.cell? ⟨b9, off9 + t * (0 + 1) + 0, none⟩ = some (.slice B9 ys8.length cB9) := g6
            simpa using g6')
          have HB8 := Lib.hid g3
          have HB9 := Lib.hid g7
          clear g1 g2 g3 g4 g5 g6 g7 g8 kc hq hys8
          go_wp2_with fail
          refine wp_region_free (S := F0) [false, false, false, false, false, false, false, false, false, false, false, false, false, false, false, false, false, false, false, false, false, false, false, false, false, false, false, false, false, false, false, false, false, false, false, false, false, false, false, false, false, false, false, false, false, false, false, false, false, false, false, false, false, false, false, false, false, false, false, false, false, false, false, false, false, false, false, false, false, false, false, false, false, false, false, false, false, false, false, false, false, false, false, false, false, false, false, false, false, false, false, false, false, false, false, false, false, false, false, false, false, false, false, false, false, false, false, false, false, false, false, false, false, false, false, false, false, false, false, false, false, false, false, false, false, false, false, false, false, false, false, false, false, false, true, true, true, true, true, true, true, true, true, true, true, true, false] [.eq (.slice (some ⟨b8, off8, none⟩) mm c11), .eq (.int .i64 (t : Int)), .eq (.pointer (some ⟨b8, off8 + t * 2, none⟩)), .eq (.pointer (some ⟨b8, off8 + t * 2 + 1, none⟩)), .eq (.slice B8 ys8.length cB8), .eq (.string (strOfNums ys8)), .eq (.slice (some ⟨b9, off9, none⟩) rn c9), .eq (.int .i64 (t : Int)), .eq (.pointer (some ⟨b9, off9 + t, none⟩)), .eq (.slice B9 ys8.length cB9), .eq (.string (strOfNums ys8)), .eq (.bool false)] (by kernel_rfl) (by kernel_rfl) (by rfl) (fun us => ?steps) (fun us wr hG hall => ?fin)
          case steps =>
            simp only [fillL, Nat.reduceAdd]
            refine stepsHold.cons (fun wx hG hd K hK => ?_) ?_
            · rw [if_pos (wanted_none rfl)]
              refine wp_value (w2 := wx) (v := .slice (some ⟨b8, off8, none⟩) mm c11) ?_ (hK _ _ rfl (Fr.refl _ _))
              clear hd hG hK
              go_simp
            refine stepsHold.cons (fun wx hG hd K hK => ?_) ?_
            · rw [if_pos (wanted_none rfl)]
              refine wp_value (w2 := wx) (v := .int .i64 (t : Int)) ?_ (hK _ _ rfl (Fr.refl _ _))
              clear hd hG hK
              go_simp
            refine stepsHold.cons (fun wx hG hd K hK => ?_) ?_
            · have h134 : us 134 = (.slice (some ⟨b8, off8, none⟩) mm c11) := deps_get hd 0 rfl rfl rfl rfl rfl
              have h135 : us 135 = (.int .i64 (t : Int)) := deps_get hd 1 rfl rfl rfl rfl rfl
              rw [if_pos (wanted_none rfl)]
              refine wp_value (w2 := wx) (v := .pointer (some ⟨b8, off8 + t * 2, none⟩)) ?_ (hK _ _ rfl (Fr.refl _ _))
              clear hd hG hK
              go_simp
            refine stepsHold.cons (fun wx hG hd K hK => ?_) ?_
            · have h136 : us 136 = (.pointer (some ⟨b8, off8 + t * 2, none⟩)) := deps_get hd 0 rfl rfl rfl rfl rfl
              rw [if_pos (wanted_none rfl)]
              refine wp_value (w2 := wx) (v := .pointer (some ⟨b8, off8 + t * 2 + 1, none⟩)) ?_ (hK _ _ rfl (Fr.refl _ _))
              clear hd hG hK
              go_simp
            refine stepsHold.cons (fun wx hG hd K hK => ?_) ?_
            · have h137 : us 137 = (.pointer (some ⟨b8, off8 + t * 2 + 1, none⟩)) := deps_get hd 0 rfl rfl rfl rfl rfl
              rw [if_pos (wanted_none rfl)]
              have hc := kc1 wx hG
              refine wp_value (w2 := wx) (v := .slice B8 ys8.length cB8) ?_ (hK _ _ rfl (Fr.refl _ _))
              clear hd hK
              go_simp
            refine stepsHold.cons (fun wx hG hd K hK => ?_) ?_
            · have h138 : us 138 = (.slice B8 ys8.length cB8) := deps_get hd 0 rfl rfl rfl rfl rfl
              rw [if_pos (wanted_none rfl)]
              have hr := conv_at ((HB8.out.keep0 hG).at_) und_bytes und_u8 und7_string cB8
              refine wp_value (w2 := wx) (v := .string (strOfNums ys8)) ?_ (hK _ _ rfl (Fr.refl _ _))
              clear hd hK
              go_simp
            refine stepsHold.cons (fun wx hG hd K hK => ?_) ?_
            · rw [if_pos (wanted_none rfl)]
              refine wp_value (w2 := wx) (v := .slice (some ⟨b9, off9, none⟩) rn c9) ?_ (hK _ _ rfl (Fr.refl _ _))
              clear hd hG hK
              go_simp
            refine stepsHold.cons (fun wx hG hd K hK => ?_) ?_
            · rw [if_pos (wanted_none rfl)]
              refine wp_value (w2 := wx) (v := .int .i64 (t : Int)) ?_ (hK _ _ rfl (Fr.refl _ _))
              clear hd hG hK
              go_simp
            refine stepsHold.cons (fun wx hG hd K hK => ?_) ?_
            · have h140 : us 140 = (.slice (some ⟨b9, off9, none⟩) rn c9) := deps_get hd 0 rfl rfl rfl rfl rfl
              have h141 : us 141 = (.int .i64 (t : Int)) := deps_get hd 1 rfl rfl rfl rfl rfl
              rw [if_pos (wanted_none rfl)]
              refine wp_value (w2 := wx) (v := .pointer (some ⟨b9, off9 + t, none⟩)) ?_ (hK _ _ rfl (Fr.refl _ _))
              clear hd hG hK
              go_simp
            refine stepsHold.cons (fun wx hG hd K hK => ?_) ?_
            · have h142 : us 142 = (.pointer (some ⟨b9, off9 + t, none⟩)) := deps_get hd 0 rfl rfl rfl rfl rfl
              rw [if_pos (wanted_none rfl)]
              have hc := kd1 wx hG
              refine wp_value (w2 := wx) (v := .slice B9 ys8.length cB9) ?_ (hK _ _ rfl (Fr.refl _ _))
              clear hd hK
              go_simp
            refine stepsHold.cons (fun wx hG hd K hK => ?_) ?_
            · have h143 : us 143 = (.slice B9 ys8.length cB9) := deps_get hd 0 rfl rfl rfl rfl rfl
              rw [if_pos (wanted_none rfl)]
              have hr := conv_at ((HB9.out.keep0 hG).at_) und_bytes und_u8 und7_string cB9
              refine wp_value (w2 := wx) (v := .string (strOfNums ys8)) ?_ (hK _ _ rfl (Fr.refl _ _))
              clear hd hK
              go_simp
            refine stepsHold.cons (fun wx hG hd K hK => ?_) ?_
            · have h139 : us 139 = (.string (strOfNums ys8)) := deps_get hd 0 rfl rfl rfl rfl rfl
              have h144 : us 144 = (.string (strOfNums ys8)) := deps_get hd 1 rfl rfl rfl rfl rfl
              rw [if_pos (wanted_none rfl)]
              refine wp_value (w2 := wx) (v := .bool false) ?_ (hK _ _ rfl (Fr.refl _ _))
              clear hd hG hK
              go_simp
            exact stepsHold.nil
          case fin =>
            have h134 : us 134 = (.slice (some ⟨b8, off8, none⟩) mm c11) := all_get hall 0 rfl rfl rfl
            have h135 : us 135 = (.int .i64 (t : Int)) := all_get hall 1 rfl rfl rfl
            have h136 : us 136 = (.pointer (some ⟨b8, off8 + t * 2, none⟩)) := all_get hall 2 rfl rfl rfl
            have h137 : us 137 = (.pointer (some ⟨b8, off8 + t * 2 + 1, none⟩)) := all_get hall 3 rfl rfl rfl
            have h138 : us 138 = (.slice B8 ys8.length cB8) := all_get hall 4 rfl rfl rfl
            have h139 : us 139 = (.string (strOfNums ys8)) := all_get hall 5 rfl rfl rfl
            have h140 : us 140 = (.slice (some ⟨b9, off9, none⟩) rn c9) := all_get hall 6 rfl rfl rfl
            have h141 : us 141 = (.int .i64 (t : Int)) := all_get hall 7 rfl rfl rfl
            have h142 : us 142 = (.pointer (some ⟨b9, off9 + t, none⟩)) := all_get hall 8 rfl rfl rfl
            have h143 : us 143 = (.slice B9 ys8.length cB9) := all_get hall 9 rfl rfl rfl
            have h144 : us 144 = (.string (strOfNums ys8)) := all_get hall 10 rfl rfl rfl
            have h145 : us 145 = (.bool false) := all_get hall 11 rfl rfl rfl
            simp only [fillL, Nat.reduceAdd]
            clear hall
            simp only [h134, h135, h136, h137, h138, h139, h140, h141, h142, h143, h144, h145]
            clear h134 h135 h136 h137 h138 h139 h140 h141 h142 h143 h144 h145
            go_wp2_with fail
            go_roundg (mm - (t + 1))
            case measure => omega
            case rel => exact ⟨t + 1, by omega, rfl, by first | rfl | (go_num), hF.then0 hG⟩
        · have htn : t = mm := by omega
          subst htn
          go_wp2_with fail
          go_ret
          exact ⟨rfl, HF11.out.then0 hF⟩
end
end Go.Proofs.YtdeckbdaencjnaaDoor
