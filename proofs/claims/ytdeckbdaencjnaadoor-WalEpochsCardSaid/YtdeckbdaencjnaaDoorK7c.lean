/-
  wal: Append. Conditions: none.
-/
import Derived.Test.YtdeckbdaencjnaaDoorK7b
import Derived.Test.YtdeckbdaencjnaaDoorTurn2
set_option linter.unusedVariables false
set_option linter.unusedSimpArgs false
namespace Go.Proofs.YtdeckbdaencjnaaDoor
open Go.RowKit
def AppJ (lg db lb mb : Nat) (L : Lg) (D D' : Dev) (fe : Int) : Nat → (Nat → Value) → World → Prop
  | 0, _, w => LogAt w lg db L ∧ DevAt Tryd.prog 3 w db lb mb D
  | 1, _, w => LogAt w lg db L ∧ DevAt Tryd.prog 3 w db lb mb D'
  | _, _, w => LogAt w lg db (L.tried fe) ∧ DevAt Tryd.prog 3 w db lb mb D'
theorem AppJ.keep {lg db lb mb : Nat} {L : Lg} {D D' : Dev} {fe : Int} : ∀ (k : Nat) (us us' : Nat → Value) (w' w'' : World), AppJ lg db lb mb L D D' fe k us w' → (∀ d ∈ ([] : List Nat), us' d = us d) → Fr F0 w' w'' → AppJ lg db lb mb L D D' fe k us' w''
  | 0, _, _, _, _, h, _, hf => ⟨h.1.keep0 hf, h.2.keep0 hf⟩
  | 1, _, _, _, _, h, _, hf => ⟨h.1.keep0 hf, h.2.keep0 hf⟩
  | _ + 2, _, _, _, _, h, _, hf => ⟨h.1.keep0 hf, h.2.keep0 hf⟩
structure AppRet (w w' : World) (e : Ending) (lg db lb mb : Nat) (L : Lg) (D : Dev) (xs : List Int) : Prop where
  val : e = .returned (.tuple #[.int .i64 (L.appP D xs), .int .i64 (L.appE D xs)])
  log : LogAt w' lg db (L.app D xs)
  dev : DevAt Tryd.prog 3 w' db lb mb (L.appD D xs)
  fr : Fr (Lv lg db lb mb) w w'
section
variable {w w' : World} {lg db lb mb : Nat} {L : Lg} {D : Dev}
set_option maxRecDepth 100000 in
set_option maxHeartbeats 4000000 in
theorem append7_c (h : LogAt w lg db L) (hD : DevAt Tryd.prog 3 w db lb mb D) (hap : ¬ Dv db lb mb lg) (hr : L.r.Sane) (he0 : 0 ≤ L.epoch) (he1 : L.epoch ≤ 4294967295) (A : Option Addr) (n c : Nat) (xs : List Int) (hA : Byt w A c xs) (hl : xs.length = n) (hb : Bys xs) (hn : n ≤ 44000) :
    Calls Tryd.prog 45 #[.pointer (some ⟨lg, 0, none⟩), .slice A n c] w fun e w' => AppRet w w' e lg db lb mb L D xs := by
  have HH := Lib.hid h
  have HD := Lib.hid hD
  have HAP := Lib.hid hap
  have HS := Lib.hid hr
  have HE0 := Lib.hid he0
  have HE1 := Lib.hid he1
  have HA := Lib.hid hA
  have HL := Lib.hid hl
  have HB := Lib.hid hb
  have HN := Lib.hid hn
  clear hap he0 he1 hA hl hb hn
  cases hb : L.broken with
  | true =>
    have hE : L.appE D xs = 11 := by unfold Lg.appE; rw [if_pos hb]
    have hP : L.appP D xs = 0 := by unfold Lg.appP; rw [hE]; rfl
    have hL : L.app D xs = L := by unfold Lg.app; rw [if_pos hb]
    have hDD : L.appD D xs = D := by unfold Lg.appD; rw [if_pos hb]
    have HR : Hid (L.appE D xs = 11 ∧ L.appP D xs = 0 ∧ L.app D xs = L ∧ L.appD D xs = D) := Lib.hid ⟨hE, hP, hL, hDD⟩
    have HBR := Lib.hid hb
    clear hE hL hDD hP hb h hD hr
    go_enter Tryd.func45, Tryd.ntmps45
    go_wp2_with fail
    refine (wgone_c HH.out).mono ?_
    rintro e w1 ⟨rfl, rfl⟩
    rw [HBR.out]
    go_wp2_with fail
    go_ret2
    obtain ⟨r1, r2, r3, r4⟩ := HR.out
    exact ⟨by rw [r1, r2]; rfl, by rw [r3]; exact HH.out, by rw [r4]; exact HD.out, Fr.refl _ _⟩
  | false =>
    have hnb : ¬ L.broken = true := by rw [hb]; decide
    obtain ⟨dd, hu, hd⟩ := und_ring
    have HU := Lib.hid hu
    have HDD := Lib.hid hd
    have HLR := Lib.hid h.ring
    have HBR := Lib.hid hb
    have HNB := Lib.hid hnb
    obtain ⟨c0, c1, c2, c3, c4, c5, c6, c7, hz⟩ := h.cells
    obtain ⟨f0, f1, s0, s1, hh0, hht, ht1, hfit⟩ := hr
    clear hu hd hb hnb h hD hz
    go_enter Tryd.func45, Tryd.ntmps45
    go_wp2_with fail
    refine (wgone_c HH.out).mono ?_
    rintro e w1 ⟨rfl, rfl⟩
    rw [HBR.out]
    go_wp2_with fail
    refine (cut_ok L.epoch L.r.tail HE0.out HE1.out (by omega) (by omega) A n c xs HA.out HL.out HB.out HN.out).mono ?_
    rintro e w1 ⟨v, rfl, hown, hf⟩
    obtain ⟨nd, hnd⟩ : ∃ nd, nd = need n := ⟨_, rfl⟩
    have hnd0 : need xs.length = nd := by rw [HL.out, ← hnd]
    have hcl : (cutL L.epoch L.r.tail xs).length = nd := by unfold cutL; rw [List.length_map, List.length_range, hnd0]
    have hbd : nd ≤ 1001 ∧ 1 ≤ nd := by
      have h1 := need_tight n
      have h2 := need_pos n
      have h3 := HN.out
      omega
    have HCL := Lib.hid hcl
    have HND := Lib.hid hnd0
    obtain ⟨A2, cc, rfl, hrows, hc2, hm2⟩ := OwnRowB.reads (fun _ => rfl) hown
    have HO := Lib.hid hown
    have HF := Lib.hid hf
    have HL1 := Lib.hid (HH.out.keep0 hf)
    have HD1 := Lib.hid (HD.out.keep0 hf)
    have HLR := Lib.hid (HH.out.keep0 hf).ring
    rw [hcl] at HO hc2 ⊢
    obtain ⟨hnd2, hnd1⟩ := hbd
    have i0 : (1 : Int) ≤ (nd : Int) := by omega
    have i1 : (nd : Int) ≤ 1001 := by omega
    clear hown hf hrows hnd hcl hnd0 c0 c1 c2 c3 c4 c5 c6 c7
    go_wp2_with (refine wpList_load_at rfl 122 (.tmp 36) rfl lg 0 (by rfl) L.r.cells dd HLR.out HU.out HDD.out size_ring ?_)
    refine (take7_c L.r HS.out (nd : Int) (by omega) (by omega)).mono ?_
    rintro e w2 ⟨rfl, hf⟩
    have HF2 := Lib.hid (HF.out.then0 hf)
    have HO2 := Lib.hid (HO.out.keep hf)
    have HL2 := Lib.hid (HL1.out.keep0 hf)
    have HD2 := Lib.hid (HD1.out.keep0 hf)
    obtain ⟨te, hte⟩ : ∃ te, te = L.r.takeE (nd : Int) := ⟨_, rfl⟩
    obtain ⟨tr, htr⟩ : ∃ tr, tr = L.r.takeR (nd : Int) := ⟨_, rfl⟩
    rw [← hte, ← htr]
    have HTE := Lib.hid hte
    have HTR := Lib.hid htr
    have hz12 := hf.size
    have hfull : L.full xs = te := by unfold Lg.full; rw [HND.out, hte]
    have HFU := Lib.hid hfull
    have R0 : Hid ((w2.alloc (.cells #[.int .i64 0, .int .i64 0, .int .i64 0, .int .i64 0] 122)).heap[w2.heap.size]? = some (.cells Rg.zero.cells.toArray 122 (0, 0))) := Lib.hid (alloc_at rfl _)
    clear hf hte htr hfull
    by_cases he : te = 0
    · subst he
      go_wp2_with (refine wpList_store_to rfl 122 (.tmp 9) (.tmp 41) rfl w2.heap.size 0 tr.cells (by rfl) (by rfl) 122 Rg.zero.cells R0.out size_ring (Nat.le_refl 4) (Rg.one _) ?_; intro w3 h3 hf3; have H3 := Lib.hid h3; have HF3 := Lib.hid hf3; clear h3 hf3)
      have hLB : ∀ k, Lv lg db lb mb k → k < w.heap.size := by
        have h1 := HH.out.lt
        obtain ⟨h2, h3, h4⟩ := HD.out.lt
        rintro k (rfl | rfl | rfl | rfl) <;> assumption
      have HLB := Lib.hid hLB
      obtain ⟨gb, hgb⟩ : ∃ gb, gb = w2.heap.size := ⟨_, rfl⟩
      have hgl : w.heap.size ≤ gb := by have := HF2.out.size; omega
      have hff : Fr F0 w2 w3 := ((Fr.refl _ _).alloc _).trans HF3.out (fun i hi => .inr (by omega))
      have HFF := Lib.hid (HF2.out.then0 hff)
      have HO3 := Lib.hid (HO2.out.keep hff)
      have HL3 := Lib.hid (HL2.out.keep0 hff)
      have HD3 := Lib.hid (HD2.out.keep0 hff)
      have HGL := Lib.hid hgl
      have htr : tr = L.r.taken (nd : Int) := by rw [HTR.out]; unfold Rg.takeR; rw [← HTE.out]; rfl
      rw [← hgb] at H3 ⊢
      have HTR := Lib.hid htr
      have hlay : (L.lay xs).length = nd := by unfold Lg.lay; rw [List.length_map, List.length_range, HND.out]
      have HLAY := Lib.hid hlay
      clear hLB hgb hgl hff R0 HF3 htr hlay hz12
      go_loopg [10, 11, 12, 48] nd (fun kq x10 x11 x12 x48 wr => ∃ j : Nat, j ≤ nd ∧ kq = nd - j ∧ x48 = .int .i64 (j : Int) ∧ ∃ Dj, LogAt wr lg db L ∧ DevAt Tryd.prog 3 wr db lb mb Dj ∧ OwnSecs wr w.heap.size (.slice A2 nd cc) (cutL L.epoch L.r.tail xs) ∧ wr.heap[gb]? = some (.cells tr.cells.toArray 122 (0, 0)) ∧ Fr (Lv lg db lb mb) w wr ∧ D.wrs (L.lay xs) = Dj.wrs ((L.lay xs).drop j) ∧ D.wrsE (L.lay xs) = Dj.wrsE ((L.lay xs).drop j))
      case atStart => exact ⟨0, by omega, rfl, rfl, D, HL3.out, HD3.out, HO3.out, H3.out, HFF.out.mono (fun _ h => h.elim), rfl, rfl⟩
      case round =>
        obtain ⟨j, hj, rfl, rfl, Dj, hlog, hdev, hown, hgr, hfr, hw1, hw2⟩ := hrel
        have HLJ := Lib.hid hlog
        have HDJ := Lib.hid hdev
        have HOJ := Lib.hid hown
        have HGJ := Lib.hid hgr
        have HFJ := Lib.hid hfr
        have HW1 := Lib.hid hw1
        have HW2 := Lib.hid hw2
        clear hlog hdev hgr hfr hw1 hw2
        by_cases hlt : j < nd
        · have j0 : (0 : Int) ≤ (j : Int) := Int.natCast_nonneg _
          have j1 : (j : Int) < (nd : Int) := by omega
          obtain ⟨s, hs⟩ : ∃ s, s = (piece L.epoch L.r.tail xs j).sec := ⟨_, rfl⟩
          obtain ⟨i, hi⟩ : ∃ i, i = L.r.sec (L.r.tail + (j : Int)) := ⟨_, rfl⟩
          have hcj : (cutL L.epoch L.r.tail xs)[j]? = some s := by
            unfold cutL
            rw [HND.out, List.getElem?_map, List.getElem?_range hlt, hs]; rfl
          have hlj : (L.lay xs).drop j = (i, s) :: (L.lay xs).drop (j + 1) := by
            have hjl : j < (L.lay xs).length := by rw [HLAY.out]; exact hlt
            have hg : (L.lay xs)[j]? = some (i, s) := by
              unfold Lg.lay
              rw [HND.out, List.getElem?_map, List.getElem?_range hlt, hs, hi]; rfl
            rw [List.getElem?_eq_getElem hjl] at hg
            rw [← List.getElem_cons_drop hjl, Option.some.inj hg]
          have HLJJ := Lib.hid hlj
          have HI := Lib.hid hi
          obtain ⟨gc, cc', B, cB, hv2, -, hcell, hby, hbys, hbb⟩ := hown.elem (fun _ => rfl) j s hcj
          obtain ⟨rfl, -, rfl⟩ : A2 = some ⟨gc, 0, none⟩ ∧ nd = (cutL L.epoch L.r.tail xs).length ∧ cc = cc' := by simpa using hv2
          have hbn : 0 < s.length → ∀ ad, B = some ad → ¬ Lv lg db lb mb ad.block := fun hp ad e hk => by
            have h1 := hbb ad e hp
            have h2 := HLB.out _ hk
            omega
          have HBY := Lib.hid hby.at_
          obtain ⟨m, hm⟩ : ∃ m, m = s.length := ⟨_, rfl⟩
          replace hcell : wr.cell? ⟨gc, j, none⟩ = some (.slice B s.length cB) := by
            have e : j * ((([] : List Value).length) + 1) + ([] : List Value).length = j := by simp
            rw [e] at hcell
            exact hcell
          rw [← hm] at HBY hbn hcell
          have HBN := Lib.hid hbn
          obtain ⟨fe, hfe⟩ : ∃ fe, fe = Dj.writeE i s := ⟨_, rfl⟩
          have HFE := Lib.hid hfe
          have HJ0 : Hid (LogAt wr lg db L ∧ DevAt Tryd.prog 3 wr db lb mb Dj) := Lib.hid ⟨HLJ.out, HDJ.out⟩
          clear hown hcj hlj hi hby hbn hfe hbys hm hv2 hbb
          go_upto_region 13 with fail
          refine wp_region_turn2 (S := Lv lg db lb mb) [false, false, false, false, false, false, false, false, false, false, false, false, true, false, false, false, false, false, false, false, false, false, false, false, false, false, false, false, false, false, false, false, false, false, false, false, false, false, false, false, false, false, false, false, false, false, false, false, false, false, false, false, false, true, true, true, true, true, true, true, true, true, true, true, true, true, true, true, true, false, false, false, false, false, false, false, false, false] [.eq (.pointer (some ⟨lg, 0, none⟩)), .eq (.pointer (some ⟨lg, 0, none⟩)), .eq (.pointer (some ⟨lg, 0, none⟩)), .eq (.pointer (some ⟨lg, 4, none⟩)), .eq (.pointer (some ⟨db, 0, none⟩)), .eq (.pointer (some ⟨lg, 0, none⟩)), .eq (.pointer (some ⟨lg, 0, none⟩)), .eq (.pointer (some ⟨lg, 0, none⟩)), .eq (.agg #[.int .i64 L.r.from_, .int .i64 L.r.size, .int .i64 L.r.head, .int .i64 L.r.tail]), .eq (.int .i64 L.r.tail), .eq (.int .i64 (j : Int)), .eq (.int .i64 (L.r.tail + (j : Int))), .eq (.int .i64 i), .eq (.slice B m cB), .eq (.int .i64 fe), .eq (.int .i64 fe), .eq (.int .i64 fe)] (AppJ lg db lb mb L Dj (Dj.write i s) fe) [none, none, none, none, none, none, none, none, none, none, none, none, none, none, some 0, some 1, none] [1, 0, 0, 0, 0, 0, 0, 0, 0, 0, 0, 0, 0, 0, 1, 2, 2] [] 2 (by kernel_rfl) (by kernel_rfl) (by rfl) (by kernel_rfl) (by kernel_rfl) ?hJ ?hJ0 (fun us => ?steps) (fun us wz hG hJ hall => ?fin)
          case hJ =>
            exact AppJ.keep
          case hJ0 =>
            exact HJ0.out
          case steps =>
            simp only [fillL, Nat.reduceAdd]
            refine stepsTurn2.cons (fun wx kk hG hkk hJ hd K hK => ?_) ?_
            · rw [if_pos (wanted_none rfl)]
              refine wp_value (w2 := wx) (v := .pointer (some ⟨lg, 0, none⟩)) ?_ (hK _ _ rfl (Fr.refl _ _))
              clear hd hG hK hJ
              go_simp
            refine stepsTurn2.cons (fun wx kk hG hkk hJ hd K hK => ?_) ?_
            · obtain rfl : kk = 0 := Nat.le_zero.1 hkk
              rw [if_pos (wanted_none rfl)]
              refine wp_value (w2 := wx) (v := .pointer (some ⟨lg, 0, none⟩)) ?_ (hK _ _ rfl (Fr.refl _ _))
              clear hd hG hK hJ
              go_simp
            refine stepsTurn2.cons (fun wx kk hG hkk hJ hd K hK => ?_) ?_
            · have h54 : us 54 = (.pointer (some ⟨lg, 0, none⟩)) := deps_get hd 0 rfl rfl rfl rfl rfl
              obtain rfl : kk = 0 := Nat.le_zero.1 hkk
              rw [if_pos (wanted_none rfl)]
              refine wp_value (w2 := wx) (v := .pointer (some ⟨lg, 0, none⟩)) ?_ (hK _ _ rfl (Fr.refl _ _))
              clear hd hG hK hJ
              go_simp
            refine stepsTurn2.cons (fun wx kk hG hkk hJ hd K hK => ?_) ?_
            · have h55 : us 55 = (.pointer (some ⟨lg, 0, none⟩)) := deps_get hd 0 rfl rfl rfl rfl rfl
              obtain rfl : kk = 0 := Nat.le_zero.1 hkk
              rw [if_pos (wanted_none rfl)]
              refine wp_value (w2 := wx) (v := .pointer (some ⟨lg, 4, none⟩)) ?_ (hK _ _ rfl (Fr.refl _ _))
              clear hd hG hK hJ
              go_simp
            refine stepsTurn2.cons (fun wx kk hG hkk hJ hd K hK => ?_) ?_
            · have h56 : us 56 = (.pointer (some ⟨lg, 4, none⟩)) := deps_get hd 0 rfl rfl rfl rfl rfl
              obtain rfl : kk = 0 := Nat.le_zero.1 hkk
              rw [if_pos (wanted_none rfl)]
              obtain ⟨c0, c1, c2, c3, c4, c5, c6, c7, hz⟩ := hJ.1.cells
              clear hJ hz
              refine wp_value (w2 := wx) (v := .pointer (some ⟨db, 0, none⟩)) ?_ (hK _ _ rfl (Fr.refl _ _))
              clear hd hK
              go_simp
            refine stepsTurn2.cons (fun wx kk hG hkk hJ hd K hK => ?_) ?_
            · obtain rfl : kk = 0 := Nat.le_zero.1 hkk
              rw [if_pos (wanted_none rfl)]
              refine wp_value (w2 := wx) (v := .pointer (some ⟨lg, 0, none⟩)) ?_ (hK _ _ rfl (Fr.refl _ _))
              clear hd hG hK hJ
              go_simp
            refine stepsTurn2.cons (fun wx kk hG hkk hJ hd K hK => ?_) ?_
            · have h58 : us 58 = (.pointer (some ⟨lg, 0, none⟩)) := deps_get hd 0 rfl rfl rfl rfl rfl
              obtain rfl : kk = 0 := Nat.le_zero.1 hkk
              rw [if_pos (wanted_none rfl)]
              refine wp_value (w2 := wx) (v := .pointer (some ⟨lg, 0, none⟩)) ?_ (hK _ _ rfl (Fr.refl _ _))
              clear hd hG hK hJ
              go_simp
            refine stepsTurn2.cons (fun wx kk hG hkk hJ hd K hK => ?_) ?_
            · have h59 : us 59 = (.pointer (some ⟨lg, 0, none⟩)) := deps_get hd 0 rfl rfl rfl rfl rfl
              obtain rfl : kk = 0 := Nat.le_zero.1 hkk
              rw [if_pos (wanted_none rfl)]
              refine wp_value (w2 := wx) (v := .pointer (some ⟨lg, 0, none⟩)) ?_ (hK _ _ rfl (Fr.refl _ _))
              clear hd hG hK hJ
              go_simp
            refine stepsTurn2.cons (fun wx kk hG hkk hJ hd K hK => ?_) ?_
            · have h60 : us 60 = (.pointer (some ⟨lg, 0, none⟩)) := deps_get hd 0 rfl rfl rfl rfl rfl
              obtain rfl : kk = 0 := Nat.le_zero.1 hkk
              rw [if_pos (wanted_none rfl)]
              obtain ⟨c0, c1, c2, c3, c4, c5, c6, c7, hz⟩ := hJ.1.cells
              clear hJ hz
              refine wp_value (w2 := wx) (v := .agg #[.int .i64 L.r.from_, .int .i64 L.r.size, .int .i64 L.r.head, .int .i64 L.r.tail]) ?_ (hK _ _ rfl (Fr.refl _ _))
              clear hd hK
              go_simp
            refine stepsTurn2.cons (fun wx kk hG hkk hJ hd K hK => ?_) ?_
            · obtain rfl : kk = 0 := Nat.le_zero.1 hkk
              rw [if_pos (wanted_none rfl)]
              refine wp_value (w2 := wx) (v := .int .i64 L.r.tail) ?_ (hK _ _ rfl (Fr.refl _ _))
              clear hd hG hK hJ
              go_simp
            refine stepsTurn2.cons (fun wx kk hG hkk hJ hd K hK => ?_) ?_
            · obtain rfl : kk = 0 := Nat.le_zero.1 hkk
              rw [if_pos (wanted_none rfl)]
              refine wp_value (w2 := wx) (v := .int .i64 (j : Int)) ?_ (hK _ _ rfl (Fr.refl _ _))
              clear hd hG hK hJ
              go_simp
            refine stepsTurn2.cons (fun wx kk hG hkk hJ hd K hK => ?_) ?_
            · have h62 : us 62 = (.int .i64 L.r.tail) := deps_get hd 0 rfl rfl rfl rfl rfl
              have h63 : us 63 = (.int .i64 (j : Int)) := deps_get hd 1 rfl rfl rfl rfl rfl
              obtain rfl : kk = 0 := Nat.le_zero.1 hkk
              rw [if_pos (wanted_none rfl)]
              refine wp_value (w2 := wx) (v := .int .i64 (L.r.tail + (j : Int))) ?_ (hK _ _ rfl (Fr.refl _ _))
              clear hd hG hK hJ
              go_simp
              first | done | (rw [IntKind.wrap_i64]; omega)
            refine stepsTurn2.cons (fun wx kk hG hkk hJ hd K hK => ?_) ?_
            · have h61 : us 61 = (.agg #[.int .i64 L.r.from_, .int .i64 L.r.size, .int .i64 L.r.head, .int .i64 L.r.tail]) := deps_get hd 0 rfl rfl rfl rfl rfl
              have h64 : us 64 = (.int .i64 (L.r.tail + (j : Int))) := deps_get hd 1 rfl rfl rfl rfl rfl
              obtain rfl : kk = 0 := Nat.le_zero.1 hkk
              rw [if_pos (wanted_none rfl)]
              refine wp_call (w2 := wx) (f := 82) (args := #[.agg #[.int .i64 L.r.from_, .int .i64 L.r.size, .int .i64 L.r.head, .int .i64 L.r.tail], .int .i64 (L.r.tail + (j : Int))]) ?_ ?_
              · clear hd hK
                go_simp
              · refine (sector_c L.r HS.out (L.r.tail + (j : Int)) (by omega) (by omega)).mono ?_
                rintro e w9 ⟨rfl, hf9⟩
                rw [← HI.out]
                exact ⟨_, rfl, hK _ _ rfl hf9⟩
            refine stepsTurn2.cons (fun wx kk hG hkk hJ hd K hK => ?_) ?_
            · obtain rfl : kk = 0 := Nat.le_zero.1 hkk
              rw [if_pos (wanted_none rfl)]
              refine wp_value (w2 := wx) (v := .slice B m cB) ?_ (hK _ _ rfl (Fr.refl _ _))
              clear hd hG hK hJ
              go_simp
            refine stepsTurn2.cons (fun wx hG hJ hd K hK => ?_) ?_
            · have h57 : us 57 = (.pointer (some ⟨db, 0, none⟩)) := deps_get hd 0 rfl rfl rfl rfl rfl
              have h65 : us 65 = (.int .i64 i) := deps_get hd 1 rfl rfl rfl rfl rfl
              have h66 : us 66 = (.slice B m cB) := deps_get hd 2 rfl rfl rfl rfl rfl
              rw [if_pos (wanted_none rfl)]
              refine wp_call (w2 := wx) (f := 21) (args := #[.pointer (some ⟨db, 0, none⟩), .int .i64 i, .slice B m cB]) ?_ ?_
              · clear hd hK
                go_simp
              · refine (write_c hJ.2 i B cB s m (HBY.out.keep hG (fun hp ad e h => HBN.out hp ad e h)) (fun hp ad e h => HBN.out hp ad e (.inr (.inl h)))).mono ?_
                rintro e w9 ⟨rfl, g1, hf⟩
                rw [← HFE.out]
                exact ⟨_, rfl, hK _ _ rfl (hf.mono (fun _ h => .inr h)) ⟨hJ.1.keep hf HAP.out, g1⟩⟩
            refine stepsTurn2.cons (fun wx hG hJ hd K hK => ?_) ?_
            · have h53 : us 53 = (.pointer (some ⟨lg, 0, none⟩)) := deps_get hd 0 rfl rfl rfl rfl rfl
              have h67 : us 67 = (.int .i64 fe) := deps_get hd 1 rfl rfl rfl rfl rfl
              rw [if_pos (wanted_none rfl)]
              refine wp_call (w2 := wx) (f := 81) (args := #[.pointer (some ⟨lg, 0, none⟩), .int .i64 fe]) ?_ ?_
              · clear hd hK
                go_simp
              · refine (try7_c hJ.1 fe HBR.out).mono ?_
                rintro e w9 ⟨rfl, g1, hf⟩
                exact ⟨_, rfl, hK _ _ rfl (hf.mono (fun _ h => .inl h)) ⟨g1, hJ.2.keep hf (fun h => HAP.out (.inl h.symm)) (fun h => HAP.out (.inr (.inl h.symm))) (fun h => HAP.out (.inr (.inr h.symm)))⟩⟩
            refine stepsTurn2.cons (fun wx kk hG hkk hJ hd K hK => ?_) ?_
            · have h68 : us 68 = (.int .i64 fe) := deps_get hd 0 rfl rfl rfl rfl rfl
              rw [if_pos (wanted_none rfl)]
              refine wp_value (w2 := wx) (v := .int .i64 fe) ?_ (hK _ _ rfl (Fr.refl _ _))
              clear hd hG hK hJ
              go_simp
            exact stepsTurn2.nil
          case fin =>
            have h53 : us 53 = (.pointer (some ⟨lg, 0, none⟩)) := all_get hall 0 rfl rfl rfl
            have h54 : us 54 = (.pointer (some ⟨lg, 0, none⟩)) := all_get hall 1 rfl rfl rfl
            have h55 : us 55 = (.pointer (some ⟨lg, 0, none⟩)) := all_get hall 2 rfl rfl rfl
            have h56 : us 56 = (.pointer (some ⟨lg, 4, none⟩)) := all_get hall 3 rfl rfl rfl
            have h57 : us 57 = (.pointer (some ⟨db, 0, none⟩)) := all_get hall 4 rfl rfl rfl
            have h58 : us 58 = (.pointer (some ⟨lg, 0, none⟩)) := all_get hall 5 rfl rfl rfl
            have h59 : us 59 = (.pointer (some ⟨lg, 0, none⟩)) := all_get hall 6 rfl rfl rfl
            have h60 : us 60 = (.pointer (some ⟨lg, 0, none⟩)) := all_get hall 7 rfl rfl rfl
            have h61 : us 61 = (.agg #[.int .i64 L.r.from_, .int .i64 L.r.size, .int .i64 L.r.head, .int .i64 L.r.tail]) := all_get hall 8 rfl rfl rfl
            have h62 : us 62 = (.int .i64 L.r.tail) := all_get hall 9 rfl rfl rfl
            have h63 : us 63 = (.int .i64 (j : Int)) := all_get hall 10 rfl rfl rfl
            have h64 : us 64 = (.int .i64 (L.r.tail + (j : Int))) := all_get hall 11 rfl rfl rfl
            have h65 : us 65 = (.int .i64 i) := all_get hall 12 rfl rfl rfl
            have h66 : us 66 = (.slice B m cB) := all_get hall 13 rfl rfl rfl
            have h67 : us 67 = (.int .i64 fe) := all_get hall 14 rfl rfl rfl
            have h68 : us 68 = (.int .i64 fe) := all_get hall 15 rfl rfl rfl
            have h12 : us 12 = (.int .i64 fe) := all_get hall 16 rfl rfl rfl
            simp only [fillL, Nat.reduceAdd]
            clear hall
            simp only [h53, h54, h55, h56, h57, h58, h59, h60, h61, h62, h63, h64, h65, h66, h67, h68, h12]
            clear h53 h54 h55 h56 h57 h58 h59 h60 h61 h62 h63 h64 h65 h66 h67 h68 h12
            have HG9 := Lib.hid hG
            have HLN : Hid (LogAt wz lg db (L.tried fe)) := Lib.hid hJ.1
            have HDN : Hid (DevAt Tryd.prog 3 wz db lb mb (Dj.write i s)) := Lib.hid hJ.2
            have HFN : Hid (Fr (Lv lg db lb mb) w wz) := Lib.hid (HFJ.out.trans hG (fun k hk => .inl hk))
            clear hG hJ
            by_cases hz : fe = 0
            · have ht : L.tried fe = L := by simp [Lg.tried, hz, ← HBR.out]
              rw [ht] at HLN
              have hwe : ¬ Dj.writeE i s ≠ 0 := by rw [← HFE.out]; simpa using hz
              have h1 : D.wrs (L.lay xs) = (Dj.write i s).wrs ((L.lay xs).drop (j + 1)) := by rw [HW1.out, HLJJ.out, Dev.wrs, if_neg hwe]
              have h2 : D.wrsE (L.lay xs) = (Dj.write i s).wrsE ((L.lay xs).drop (j + 1)) := by rw [HW2.out, HLJJ.out, Dev.wrsE, if_neg hwe]
              have HN1 := Lib.hid h1
              have HN2 := Lib.hid h2
              have HG2 := Lib.hid (HG9.out.keep HGJ.out (fun hk => by have h1 := HLB.out _ hk; have h2 := HGL.out; omega))
              have HO2 := Lib.hid (HOJ.out.keepS HG9.out HLB.out)
              clear ht hwe h1 h2
              subst hz
              go_wp2_with fail
              go_roundg (nd - (j + 1))
              case measure => omega
              case rel => exact ⟨j + 1, by omega, rfl, by first | rfl | (go_num), _, HLN.out, HDN.out, HO2.out, HG2.out, HFN.out, HN1.out, HN2.out⟩
            · have ht : L.tried fe = { L with broken := true } := by simp [Lg.tried, hz]
              rw [ht] at HLN
              have hwe : Dj.writeE i s ≠ 0 := by rw [← HFE.out]; exact hz
              have h1 : D.wrs (L.lay xs) = Dj.write i s := by rw [HW1.out, HLJJ.out, Dev.wrs, if_pos hwe]
              have h2 : D.wrsE (L.lay xs) = fe := by rw [HW2.out, HLJJ.out, Dev.wrsE, if_pos hwe, HFE.out]
              have hE1 : L.appE D xs = fe := by unfold Lg.appE; rw [if_neg HNB.out, HFU.out, if_neg (by simp), h2]
              have hP1 : L.appP D xs = 0 := by unfold Lg.appP; rw [hE1, if_neg hz]
              have hL1 : L.app D xs = { L with broken := true } := by unfold Lg.app; rw [if_neg HNB.out, HFU.out, if_neg (by simp), h2, if_pos hz]
              have hD1 : L.appD D xs = Dj.write i s := by unfold Lg.appD; rw [if_neg HNB.out, HFU.out, if_neg (by simp), h1]
              have HR : Hid (L.appE D xs = fe ∧ L.appP D xs = 0 ∧ L.app D xs = { L with broken := true } ∧ L.appD D xs = Dj.write i s) := Lib.hid ⟨hE1, hP1, hL1, hD1⟩
              have hb9 : (fe != 0) = true := by simp [hz]
              clear ht hwe h1 h2 hE1 hP1 hL1 hD1 hz
              go_wp2_with fail
              go_ret2
              obtain ⟨r1, r2, r3, r4⟩ := HR.out
              exact ⟨by rw [r1, r2]; rfl, by rw [r3]; exact HLN.out, by rw [r4]; exact HDN.out, HFN.out⟩
        · have hjn : j = nd := by omega
          have hdrop : (L.lay xs).drop j = [] := List.drop_eq_nil_of_le (by rw [HLAY.out]; omega)
          have hD : D.wrs (L.lay xs) = Dj := by rw [HW1.out, hdrop]; rfl
          have hE : D.wrsE (L.lay xs) = 0 := by rw [HW2.out, hdrop]; rfl
          have hE1 : L.appE D xs = 0 := by unfold Lg.appE; rw [if_neg HNB.out, HFU.out, if_neg (by simp), hE]
          have hP1 : L.appP D xs = L.r.tail := by unfold Lg.appP; rw [if_pos hE1]
          have hL1 : L.app D xs = { L with r := tr } := by unfold Lg.app; rw [if_neg HNB.out, HFU.out, if_neg (by simp), hE, if_neg (by simp), HTR.out, HND.out]
          have hD1 : L.appD D xs = Dj := by unfold Lg.appD; rw [if_neg HNB.out, HFU.out, if_neg (by simp), hD]
          have HR : Hid (L.appE D xs = 0 ∧ L.appP D xs = L.r.tail ∧ L.app D xs = { L with r := tr } ∧ L.appD D xs = Dj) := Lib.hid ⟨hE1, hP1, hL1, hD1⟩
          clear hdrop hD hE hE1 hP1 hL1 hD1 hown hjn
          obtain ⟨k0, k1, k2, k3⟩ := (show RgAt wr gb tr from ⟨_, HGJ.out⟩).all
          go_wp2_with (refine wpList_store_to rfl 122 (.tmp 76) (.tmp 74) rfl lg 0 tr.cells (by rfl) (by rfl) 124 (L.cells db) HLJ.out.row size_ring (by show 0 + 4 ≤ 8; decide) (Rg.one _) ?_; intro w4 h4 hf4; have H4 := Lib.hid h4; have HF4 := Lib.hid hf4; clear h4 hf4)
          go_ret2
          obtain ⟨r1, r2, r3, r4⟩ := HR.out
          exact ⟨by rw [r1, r2]; rfl, by rw [r3]; exact ⟨H4.out⟩, by rw [r4]; exact HDJ.out.keep HF4.out (fun h => HAP.out (.inl h.symm)) (fun h => HAP.out (.inr (.inl h.symm))) (fun h => HAP.out (.inr (.inr h.symm))), HFJ.out.trans HF4.out (fun k hk => .inl (.inl hk))⟩
    · have hb1 : (te != 0) = true := by simp [he]
      have HR : Hid (L.appE D xs = te ∧ L.appP D xs = 0 ∧ L.app D xs = L ∧ L.appD D xs = D) := Lib.hid (by
        have hE : L.appE D xs = te := by unfold Lg.appE; rw [if_neg HNB.out, HFU.out, if_pos he]
        refine ⟨hE, ?_, ?_, ?_⟩
        · unfold Lg.appP; rw [hE, if_neg he]
        · unfold Lg.app; rw [if_neg HNB.out, HFU.out, if_pos he]
        · unfold Lg.appD; rw [if_neg HNB.out, HFU.out, if_pos he])
      clear he
      go_wp2_with (refine wpList_store_to rfl 122 (.tmp 9) (.tmp 41) rfl w2.heap.size 0 tr.cells (by rfl) (by rfl) 122 Rg.zero.cells R0.out size_ring (Nat.le_refl 4) (Rg.one _) ?_; intro w3 h3 hf3; have H3 := Lib.hid h3; have HF3 := Lib.hid hf3; clear h3 hf3)
      go_ret2
      obtain ⟨r1, r2, r3, r4⟩ := HR.out
      have hff : Fr F0 w w3 := (HF2.out.alloc _).trans HF3.out (fun i hi => .inr (by rw [hi]; exact HF2.out.size))
      exact ⟨by rw [r1, r2]; rfl, by rw [r3]; exact HH.out.keep0 hff, by rw [r4]; exact HD.out.keep0 hff, hff.mono (fun _ h => h.elim)⟩
end
end Go.Proofs.YtdeckbdaencjnaaDoor
