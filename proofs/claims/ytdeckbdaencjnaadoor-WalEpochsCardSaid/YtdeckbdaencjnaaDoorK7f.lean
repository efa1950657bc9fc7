/-
  wal: Open. Conditions: none.
-/
import Derived.Test.YtdeckbdaencjnaaDoorK7e
set_option linter.unusedVariables false
set_option linter.unusedSimpArgs false
namespace Go.Proofs.YtdeckbdaencjnaaDoor
open Go.RowKit
abbrev recHead (x : Int × List Int) : List Value := [.int .i64 x.1]
abbrev OwnRecs (w : World) (base : Nat) (v : Value) (l : List (Int × List Int)) : Prop := OwnRowB recHead (fun x => x.2) 1 79 w base v l
abbrev RecsAt (w : World) (A : Option Addr) (l : List (Int × List Int)) : Prop := RowsAt recHead (fun x => x.2) 1 w A l
theorem und_recs : Tryd.prog.underlying 72 = some (.slice 79) := Tryd.underlying72
theorem info_rec : (Tryd.prog.info? 79).map (fun i => (i.zero, i.size, i.bytes)) = some (some (.agg #[.int .i64 0, .slice none 0 0]), 2, 32) := by kernel_rfl
def openL (D : Dev) (from_ size head epoch : Int) : Lg := ⟨⟨from_, size, head, (opened D from_ size head epoch).2⟩, epoch, (opened D from_ size head epoch).2, false⟩
structure WOpenRet (w w' : World) (e : Ending) (db : Nat) (D : Dev) (from_ size head epoch : Int) : Prop where
  bad : logMay D from_ size head epoch ≠ 0 → e = .returned (.tuple #[.pointer none, .slice none 0 0, .int .i64 (logMay D from_ size head epoch)])
  good : logMay D from_ size head epoch = 0 → ∃ lg v, e = .returned (.tuple #[.pointer (some ⟨lg, 0, none⟩), v, .int .i64 0]) ∧ w.heap.size ≤ lg ∧ LogAt w' lg db (openL D from_ size head epoch) ∧ OwnRecs w' w.heap.size v (opened D from_ size head epoch).1
  fr : Fr F0 w w'
/-- Does the scan stop here? -/
def Stops (epoch : Int) (g : Gat) (at_ last : Int) : Prop := g.e ≠ 0 ∨ epoch ≤ g.epoch ∨ g.epoch < last ∨ 1099511627776 < at_ + g.count
theorem scan_stop {epoch at_ last : Int} {l : List (List Int)} (f : Nat) (h : Stops epoch (gather l at_) at_ last) : scan epoch (f + 1) l at_ last = ([], at_) := by
  unfold scan
  exact if_pos h
theorem scan_go {epoch at_ last : Int} {l : List (List Int)} (f : Nat) (h : ¬ Stops epoch (gather l at_) at_ last) : scan epoch (f + 1) l at_ last =
    ((at_, (gather l at_).data) :: (scan epoch f (l.drop (gather l at_).count.toNat) (at_ + (gather l at_).count) (gather l at_).epoch).1, (scan epoch f (l.drop (gather l at_).count.toNat) (at_ + (gather l at_).count) (gather l at_).epoch).2) := by
  conv => lhs; unfold scan
  exact if_neg h
theorem run_from2 (A : Option Addr) (n c m : Nat) (hm : m ≤ n) (W : World) :
    (Instr.slice 84 (.slice A n c) (some (.int .i64 (m : Int))) none none).run Tryd.prog W = .ok (.slice (if c = m then A else A.map (·.add m)) (n - m) (c - m)) W := by
  obtain ⟨i, hi, hzz⟩ := Option.map_eq_some_iff.1 info_bytes
  simp only [Prod.mk.injEq] at hzz
  have hel : Tryd.prog.elem 84 = 24 := by simp [Program.elem, und_bytess]
  have hu : Tryd.prog.underlying 84 = some (.slice (Tryd.prog.elem 84)) := by rw [hel]; exact und_bytess
  rw [run_slice_l W 84 A n c hu .i64 (m : Int) (Int.natCast_nonneg _) (by omega), hel]
  simp [sizeOf, typeInfo, hi, hzz.2.1, sliced, Result.andThen]
theorem SecsAt.from {w : World} {A : Option Addr} {l : List (List Int)} (h : SecsAt w A l) (c m : Nat) (hc : l.length ≤ c) : SecsAt w (if c = m then A else A.map (·.add m)) (l.drop m) := by
  by_cases hm : c = m
  · rw [if_pos hm, List.drop_eq_nil_of_le (by omega)]
    exact RowsAt.nil _
  · rw [if_neg hm]
    have := RowsAt.drop h m
    simpa using this
theorem gather_epoch {l : List (List Int)} {at_ : Int} (h : (gather l at_).e = 0) : (gather l at_).epoch ≤ 4294967295 := by
  cases l with
  | nil => simp [gather, Gat.no] at h
  | cons b l =>
    unfold gather at h ⊢
    simp only at h ⊢
    by_cases c1 : readE b ≠ 0
    · rw [if_pos c1] at h; exact absurd h c1
    rw [if_neg c1] at h ⊢
    have hok := (Pc.of_readE (b := b) (by simpa using c1)).1
    have := gatherOn_count (b :: l) 0 at_ [] (by omega) (by have := hok.c0; omega) h
    rw [this.2.2]
    exact hok.e1
theorem gatherOn_bys {E C : Int} : ∀ (l : List (List Int)) (k a : Int) (acc : List Int), (∀ b ∈ l, Bys b) → Bys acc → Bys (gatherOn E C l k a acc).data
  | [], k, a, acc, _, _ => Bys.nil
  | b :: l, k, a, acc, hb, ha => by
    unfold gatherOn
    have hd : Bys (acc ++ (pcOf b).data) := ha.app (((hb b (by simp)).drop _).take _)
    split
    · exact Bys.nil
    split
    · exact Bys.nil
    split
    · exact hd
    · exact gatherOn_bys l _ _ _ (fun x hx => hb x (by simp [hx])) hd
theorem gather_bys {l : List (List Int)} {at_ : Int} (h : ∀ b ∈ l, Bys b) : Bys (gather l at_).data := by
  cases l with
  | nil => exact Bys.nil
  | cons b l =>
    unfold gather
    simp only
    split
    · exact Bys.nil
    · exact gatherOn_bys _ _ _ _ h Bys.nil
section
variable {w w' : World} {lg db lb mb : Nat} {L : Lg} {D : Dev}
set_option maxRecDepth 100000 in
set_option maxHeartbeats 4000000 in
theorem wopen_c (hD : DevAt Tryd.prog 3 w db lb mb D) (hb : SecBys D) (from_ size head epoch : Int) :
    Calls Tryd.prog 44 #[.pointer (some ⟨db, 0, none⟩), .int .i64 from_, .int .i64 size, .int .i64 head, .int .i64 epoch] w fun e w' => WOpenRet w w' e db D from_ size head epoch := by
  have HD := Lib.hid hD
  have HB := Lib.hid hb
  obtain ⟨r, hr⟩ : ∃ r, r = logMay D from_ size head epoch := ⟨_, rfl⟩
  have HR := Lib.hid hr
  by_cases hr0 : r = 0
  · subst hr0
    have hg : D.gone = false := by
      unfold logMay at hr
      cases hgn : D.gone with
      | false => rfl
      | true => rw [if_pos hgn] at hr; cases hr
    have HG := Lib.hid hg
    obtain ⟨f0, s1, fit, hh0, hh1, e0, e1⟩ : 0 ≤ from_ ∧ 1 ≤ size ∧ from_ + size ≤ (D.laid.length : Int) ∧ 0 ≤ head ∧ head ≤ 1099511627776 ∧ 1 ≤ epoch ∧ epoch ≤ 4294967295 := by
      unfold logMay at hr
      rw [if_neg (by rw [hg]; decide)] at hr
      by_cases h1 : from_ < 0 ∨ size < 1 ∨ (D.laid.length : Int) < size ∨ (D.laid.length : Int) - size < from_
      · rw [if_pos h1] at hr; cases hr
      rw [if_neg h1] at hr
      by_cases h2 : head < 0 ∨ 1099511627776 < head ∨ epoch < 1 ∨ 4294967295 < epoch
      · rw [if_pos h2] at hr; cases hr
      omega
    have hn1 := hD.ok.most
    obtain ⟨L0, hL0⟩ : ∃ L0 : Lg, L0 = ⟨⟨from_, size, head, head⟩, epoch, 0, false⟩ := ⟨_, rfl⟩
    have hsane : L0.r.Sane := by
      rw [hL0]
      exact ⟨f0, by show from_ ≤ 4096; omega, s1, by show size ≤ 4096; omega, hh0, by show head ≤ head; omega, hh1, by show head - head ≤ size; omega⟩
    have HSA := Lib.hid hsane
    have HL0 := Lib.hid hL0
    clear hr hg hD hb hsane hL0
    go_enter Tryd.func44, Tryd.ntmps44
    go_wp2_with fail
    refine (wmay_c HD.out from_ size head epoch).mono ?_
    rintro e w1 ⟨rfl, rfl⟩
    rw [← HR.out]
    go_wp2_with fail
    obtain ⟨lg, hlg⟩ : ∃ lg, lg = w.heap.size := ⟨_, rfl⟩
    obtain ⟨w1, hw1⟩ : ∃ w1, w1 = w.alloc (.cells #[.int .i64 from_, .int .i64 size, .int .i64 head, .int .i64 head, .pointer (some ⟨db, 0, none⟩), .int .i64 epoch, .int .i64 0, .bool false] 124) := ⟨_, rfl⟩
    rw [← hw1, ← hlg]
    have hf1 : Fr F0 w w1 := by rw [hw1]; exact (Fr.refl _ _).alloc _
    have HLG1 : Hid (LogAt w1 lg db L0) := Lib.hid ⟨by rw [hw1, HL0.out]; exact alloc_at hlg _⟩
    have HD1 := Lib.hid (HD.out.keep0 hf1)
    have HF1 := Lib.hid hf1
    have hlgz : w.heap.size ≤ lg := by omega
    have HLGZ := Lib.hid hlgz
    have hl1 := HLG1.out.lt
    clear hw1 hlg hf1 hlgz
    have hrd := wread_c HLG1.out HD1.out HG.out HSA.out (by rw [HL0.out]; exact fit) HB.out
    rw [show L0.r.head = head by rw [HL0.out]] at hrd
    refine hrd.mono ?_
    rintro e w2 ⟨v, rfl, hown, hf2⟩
    obtain ⟨all, hall⟩ : ∃ all, all = ringSecs D L0.r := ⟨_, rfl⟩
    rw [← hall] at hown
    have HALL := Lib.hid hall
    have hln : all.length = size.toNat := by rw [hall, HL0.out]; unfold ringSecs; rw [List.length_map, List.length_range]
    have HLN := Lib.hid hln
    have H64 : Hid (∀ b ∈ all, b.length = 64) := Lib.hid (by
      rw [hall]
      intro b hb
      unfold ringSecs at hb
      obtain ⟨i, hi, rfl⟩ := List.mem_map.1 hb
      have hi' := List.mem_range.1 hi
      apply at_len HD.out.ok
      have hs := HSA.out
      have m0 := Int.emod_nonneg (L0.r.head + i) (show L0.r.size ≠ 0 by have := hs.s0; omega)
      have m1 := Int.emod_lt_of_pos (L0.r.head + i) (show 0 < L0.r.size by have := hs.s0; omega)
      have hff : L0.r.from_ = from_ := by rw [HL0.out]
      have hss : L0.r.size = size := by rw [HL0.out]
      unfold Rg.sec
      omega)
    obtain ⟨A2, c9, rfl, hrows, hc2, hm2⟩ := OwnRowB.reads (fun _ => rfl) hown
    have HROWS := Lib.hid hrows
    have HF2 := Lib.hid (HF1.out.then0 hf2)
    have HLG2 := Lib.hid (HLG1.out.keep0 hf2)
    have hl2 := HLG2.out.lt
    have HOP : Hid (opened D from_ size head epoch = scan epoch (size.toNat + 1) all head 0) := Lib.hid (by unfold opened; rw [hall, HL0.out])
    clear hrd hown hall hrows hf2 hln
    go_wp2_with fail
    go_loopg [15, 17, 18, 19, 20, 21, 22, 23] (all.length) (fun kq x15 x17 x18 x19 x20 x21 x22 x23 wr => ∃ (rest : List (List Int)) (at_ last : Int) (dn : List (Int × List Int)) (f c : Nat) (A : Option Addr), kq = rest.length ∧ x15 = .slice A rest.length c ∧ x18 = .int .i64 at_ ∧ x19 = .int .i64 last ∧ rest.length ≤ c ∧ c ≤ 9223372036854775807 ∧ SecsAt w2 A rest ∧ OwnRecs wr w2.heap.size x17 dn ∧ Fr F0 w2 wr ∧ rest.length < f ∧
      scan epoch (size.toNat + 1) all head 0 = (dn ++ (scan epoch f rest at_ last).1, (scan epoch f rest at_ last).2) ∧ 0 ≤ at_ ∧ at_ ≤ 1099511627776 ∧ (∀ b ∈ rest, b.length = 64) ∧ dn.length + rest.length ≤ 4096)
    case atStart => exact ⟨all, head, 0, [], size.toNat + 1, c9, A2, rfl, rfl, rfl, rfl, hc2, hm2, HROWS.out, OwnRowB.nil _ _, Fr.refl _ _, by rw [HLN.out]; omega, by simp, hh0, hh1, H64.out, by rw [HLN.out]; simp; omega⟩
    case round =>
      obtain ⟨rest, at_, last, dn, f, c, A, rfl, rfl, rfl, rfl, hrc, hcm, hsec, hown, hfr, hfl, hscan, ha0, ha1, h64, hdn⟩ := hrel
      obtain ⟨f, rfl⟩ : ∃ f', f = f' + 1 := ⟨f - 1, by omega⟩
      have HSEC := Lib.hid hsec
      have HO := Lib.hid hown
      have HFR := Lib.hid hfr
      have HSCAN := Lib.hid hscan
      have HR64 := Lib.hid h64
      have hcnt := gather_count (l := rest) (at_ := at_)
      obtain ⟨n, hn⟩ : ∃ n, n = rest.length := ⟨_, rfl⟩
      have HN := Lib.hid hn
      rw [← hn] at hfl hdn hrc ⊢
      have hn5 : n ≤ 5000 := by omega
      clear hsec hown hfr hscan h64 hn
      go_wp2_with fail
      refine (gather_c A n c rest HN.out.symm (RowsAt.keep0 HSEC.out HFR.out) HR64.out hn5 at_ ha0 (by omega)).mono ?_
      rintro e w3 ⟨v, rfl, hov⟩
      obtain ⟨g, hg⟩ : ∃ g, g = gather rest at_ := ⟨_, rfl⟩
      have HGA := Lib.hid hg
      have HGB : Hid (Bys g.data) := Lib.hid (by
        rw [hg]
        refine gather_bys (fun b hb => ?_)
        obtain ⟨i, hi, rfl⟩ := List.mem_iff_getElem.1 hb
        obtain ⟨_, _, _, _, _, _, _, _, h4⟩ := HSEC.out.row i _ (List.getElem?_eq_getElem hi)
        exact h4)
      rw [← hg] at hov hcnt ⊢
      have HF3 := Lib.hid (HFR.out.then0 hov.fr)
      have HO3 := Lib.hid (HO.out.keep hov.fr)
      have HL3 := Lib.hid (HLG2.out.keep0 (HFR.out.then0 hov.fr))
      obtain ⟨c0, c1, c2, c3, c4, c5, c6, c7, hz⟩ := HL3.out.cells
      have hz3 := hz 3
      have hR3 : (w3.setCell ⟨lg, 3, none⟩ (.int .i64 at_)).heap[lg]? = some (.cells #[.int .i64 L0.r.from_, .int .i64 L0.r.size, .int .i64 L0.r.head, .int .i64 at_, .pointer (some ⟨db, 0, none⟩), .int .i64 L0.epoch, .int .i64 L0.safe, .bool L0.broken] 124 (0, 0)) := set_cell HL3.out.row 3 (.int .i64 at_)
      have c6' : (w3.setCell ⟨lg, 3, none⟩ (.int .i64 at_)).cell? ⟨lg, 6, none⟩ = some (.int .i64 L0.safe) := by rw [cell_of hR3]; rfl
      have hz6' := free_of hR3 6
      have hgE := gather_epoch (l := rest) (at_ := at_)
      rw [← hg] at hgE
      have FIN : Hid (Stops epoch g at_ last → WOpenRet w ((w3.setCell ⟨lg, 3, none⟩ (.int .i64 at_)).setCell ⟨lg, 6, none⟩ (.int .i64 at_)) (.returned (.tuple #[.pointer (some ⟨lg, 0, none⟩), u17, .int .i64 0])) db D from_ size head epoch) := Lib.hid (by
        intro hst
        rw [hg] at hst
        have hop : opened D from_ size head epoch = (dn, at_) := by rw [HOP.out, HSCAN.out, scan_stop f hst]; simp
        have hfs : Fr (fun k => k = lg) w3 ((w3.setCell ⟨lg, 3, none⟩ (.int .i64 at_)).setCell ⟨lg, 6, none⟩ (.int .i64 at_)) := ((Fr.refl _ _).setCell (by exact .inl rfl) _).setCell (by exact .inl rfl) _
        refine ⟨fun h => absurd HR.out.symm h, fun _ => ⟨lg, u17, rfl, HLGZ.out, ?_, ?_⟩, (HF2.out.then0 HF3.out).trans hfs (fun i hi => .inr (by rw [hi]; exact HLGZ.out))⟩
        · have h1 := set_cell hR3 6 (.int .i64 at_)
          refine ⟨?_⟩
          rw [h1]
          unfold openL
          rw [hop, HL0.out]
          rfl
        · rw [hop]
          exact OwnRowB.down (HO3.out.keepS hfs (fun k hk => by rw [hk]; exact hl2)) HF2.out.size)
      have hv := hov.byt
      have HOV := Lib.hid hov
      clear hz hov hg
      by_cases a1 : g.e = 0
      · obtain ⟨n1, n2, n3, n4⟩ := hcnt a1 (fun _ _ => trivial)
        rw [← HN.out] at n2
        have hgE := hgE a1
        obtain ⟨ge, hge⟩ : ∃ x, x = g.e := ⟨_, rfl⟩
        obtain ⟨gE, hgEE⟩ : ∃ x, x = g.epoch := ⟨_, rfl⟩
        obtain ⟨gC, hgC⟩ : ∃ x, x = g.count := ⟨_, rfl⟩
        have HGE := Lib.hid hgEE
        have HGC := Lib.hid hgC
        rw [← hge] at a1 ⊢
        rw [← hgEE] at hgE n4 ⊢
        rw [← hgC] at n1 n2 n3 ⊢
        have HG0 : Hid (g.e = 0) := Lib.hid (by rw [← hge]; exact a1)
        subst a1
        clear hge hgEE hgC hcnt
        by_cases a2 : epoch ≤ gE
        · have FIN := Lib.hid (FIN.out (.inr (.inl (by rw [← HGE.out]; exact a2))))
          go_wp2_with fail
          go_ret3
          exact FIN.out
        by_cases a3 : gE < last
        · have FIN := Lib.hid (FIN.out (.inr (.inr (.inl (by rw [← HGE.out]; exact a3)))))
          go_wp2_with fail
          go_ret3
          exact FIN.out
        by_cases a4 : 1099511627776 < at_ + gC
        · have FIN := Lib.hid (FIN.out (.inr (.inr (.inr (by rw [← HGC.out]; exact a4)))))
          go_wp2_with fail
          go_ret3
          exact FIN.out
        clear FIN c0 c1 c2 c3 c4 c5 c6 c7 hR3 c6' hz6' hz3
        obtain ⟨m, rfl⟩ : ∃ m : Nat, gC = (m : Int) := ⟨gC.toNat, by omega⟩
        obtain ⟨B, cB, rfl, hby, hnew⟩ := hv
        have HBB := Lib.hid hby
        have hap : ∀ ad, B = some ad → 0 < g.data.length → u17.ownBlock ≠ some ad.block ∧ w2.heap.size ≤ ad.block := fun ad e _ => by
          have h1 := hnew ad e
          have h3 := HFR.out.size
          refine ⟨fun hk => ?_, by omega⟩
          have h2 := HO.out.lt _ hk
          omega
        have HAP := Lib.hid hap
        have hsz3 : w2.heap.size ≤ w3.heap.size := HF3.out.size
        have hgo : scan epoch (f + 1) rest at_ last = ((at_, g.data) :: (scan epoch f (rest.drop m) (at_ + m) gE).1, (scan epoch f (rest.drop m) (at_ + m) gE).2) := by
          have hns : ¬ Stops epoch (gather rest at_) at_ last := by
            rw [← HGA.out]
            rintro (h | h | h | h)
            · exact h HG0.out
            · rw [← HGE.out] at h; exact a2 h
            · rw [← HGE.out] at h; exact a3 h
            · rw [← HGC.out] at h; exact a4 h
          rw [scan_go f hns, ← HGA.out, ← HGC.out, ← HGE.out]
          simp
        have HGO := Lib.hid hgo
        have hrun := run_from2 A n c m (by omega)
        have HSD := Lib.hid (SecsAt.from HSEC.out c m (by rw [← HN.out]; exact hrc))
        have HDR : Hid ((rest.drop m).length = n - m) := Lib.hid (by rw [List.length_drop, ← HN.out])
        obtain ⟨Ak, hAk⟩ : ∃ Ak, Ak = (if c = m then A else A.map (·.add m)) := ⟨_, rfl⟩
        rw [← hAk] at hrun HSD
        clear hby hnew hap hgo hAk
        go_wp2_with (at_builtin; refine wpList_append_rowB (t := 79) (hd := 1) (head := recHead) (byt := fun x : Int × List Int => x.2) rfl (.tmp 89) (.tmp 93) 72 32 (.agg #[.int .i64 0, .slice none 0 0]) rfl und_recs info_rec rfl (by decide) (fun _ => rfl) (fun _ u hu => by simp at hu; subst hu; rfl) w2.heap.size u17 dn (at_, g.data) B cB w3.heap.size rfl (by rfl) (by rfl) HO3.out HBB.out HGB.out HAP.out (by omega) (by omega) ?_; intro v4 w4 hown4 hf4)
        go_roundg (n - m)
        case measure => rw [← HN.out]; omega
        case rel =>
          refine ⟨rest.drop m, at_ + m, gE, dn ++ [(at_, g.data)], f, c - m, Ak, HDR.out.symm, by rw [HDR.out], by first | rfl | (go_num), rfl, by rw [HDR.out]; omega, by omega, HSD.out, hown4, (HF3.out).trans hf4 (fun i hi => .inr (HO3.out.base_le i hi)), by rw [HDR.out]; omega, ?_, by omega, by omega, fun b hb => HR64.out b (List.mem_of_mem_drop hb), by rw [HDR.out, List.length_append, List.length_singleton]; omega⟩
          rw [HSCAN.out, HGO.out]
          simp
      · have hb1 : (g.e != 0) = true := by simp [a1]
        have FIN := Lib.hid (FIN.out (.inl a1))
        clear hcnt hgE a1
        go_wp2_with fail
        go_ret3
        exact FIN.out
  · have hrb : (r != 0) = true := by simp [hr0]
    have HR0 := Lib.hid hr0
    clear hr hr0 hD hb
    go_enter Tryd.func44, Tryd.ntmps44
    go_wp2_with fail
    refine (wmay_c HD.out from_ size head epoch).mono ?_
    rintro e w1 ⟨rfl, rfl⟩
    rw [← HR.out]
    go_wp2_with fail
    go_ret3
    exact ⟨fun _ => by rw [← HR.out]; rfl, fun h => absurd (HR.out.trans h) HR0.out, Fr.refl _ _⟩
end
end Go.Proofs.YtdeckbdaencjnaaDoor
