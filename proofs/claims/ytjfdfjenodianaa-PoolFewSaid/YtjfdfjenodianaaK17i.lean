/-
  A pool's Clean, and Unpin. Conditions: none.
-/
import Derived.Test.YtjfdfjenodianaaK17h
set_option linter.unusedVariables false
set_option linter.unusedSimpArgs false
namespace Go.Proofs.Ytjfdfjenodianaa
open Go.RowKit
/-- Frames are written, one behind the other. -/
def cleanF : List Int → Pl → Dev → Pl × Dev
  | [], P, D => (P, D)
  | a :: l, P, D =>
    match P.idx a with
    | none => (P, D)
    | some i => cleanF l { P with fs := P.fs.set i { P.fs.getD i Fm.zero with dirty := false } } (D.write a (P.fs.getD i Fm.zero).b)
theorem idx_some {P : Pl} {a : Int} {i : Nat} (h : P.idx a = some i) : ∃ f, P.fs[i]? = some f ∧ f.at_ = a := by
  unfold Pl.idx at h
  rw [List.findIdx?_eq_some_iff_getElem] at h
  obtain ⟨h1, h2, _⟩ := h
  exact ⟨P.fs[i], List.getElem?_eq_getElem h1, by simpa using h2⟩
theorem idx_of_mem {P : Pl} {a : Int} (h : a ∈ P.fs.map Fm.at_) : ∃ i, P.idx a = some i := by
  cases hx : P.idx a with
  | some i => exact ⟨i, rfl⟩
  | none =>
    unfold Pl.idx at hx
    rw [List.findIdx?_eq_none_iff] at hx
    obtain ⟨f, hf, he⟩ := List.mem_map.1 h
    have := hx f hf
    simp [he] at this
section
variable {w : World} {M : Nat → Prop} {pb db lb mb : Nat} {P : Pl} {v : Value} {fbs : List Nat} {D : Dev}
theorem FmAt.dirtied {b : Nat} {f : Fm} (h : FmAt w M b f) (u : Bool) : FmAt (w.setCell ⟨b, 2, none⟩ (.bool u)) M b { f with dirty := u } := by
  obtain ⟨A, c, hr, hby, hm⟩ := h.ex
  refine ⟨⟨A, c, ?_, hby.keep (S := fun k => k = b) ((Fr.refl (fun k => k = b) w).setCell (p := ⟨b, 2, none⟩) (.inl rfl) _) (fun hp ad e hs => ?_), hm⟩, h.len⟩
  · rw [set_cell hr]
    rfl
  · subst e
    exact hby.ne hp hr (fm_no_u8 f _ c) hs
set_option maxRecDepth 100000 in
theorem clean_nil : Calls Try.prog 14 #[.pointer none] w fun e w' => e = .returned (.int .i64 11) ∧ Fr F0 w w' := by
  go_enter Try.func14, Try.ntmps14
  go_wp2_with fail
  go_ret
  exact ⟨rfl, (Fr.refl _ _).alloc _⟩
/-- What Clean leaves. -/
structure CleanRet (w w' : World) (e : Ending) (M : Nat → Prop) (pb db lb mb : Nat) (R : Pl × Dev) (v : Value) (fbs : List Nat) : Prop where
  he : e = .returned (.int .i64 0)
  pool : PoolAt w' pb db M R.1 v fbs
  dev : DevAt Try.prog 3 w' db lb mb R.2
  fr : Fr (fun k => M k ∨ Dv db lb mb k) w w'
set_option maxRecDepth 100000 in
set_option maxHeartbeats 2000000 in
theorem clean_c {n : Nat} (h : PoolAt w pb db M P v fbs) (hD : DevAt Try.prog 3 w db lb mb D) (hg : GoodD D n) (ok : PoolOk P n) (hMD : ∀ k, Dv db lb mb k → ¬ M k) :
    Calls Try.prog 14 #[.pointer (some ⟨pb, 0, none⟩)] w fun e w' => CleanRet w w' e M pb db lb mb (cleanF (P.listed fun f => f.dirty && P.may f) P D) v fbs := by
  have hmf : ∀ (fn : Fn) (first cap : Array Value) (w : World), (Instr.makeFunc fn first cap).run Try.prog w = .ok (.func fn first cap) w := fun _ _ _ _ => rfl
  have hl64 : P.fs.length ≤ 64 := by have := ok.room1; have := ok.fit; omega
  have H64 := Lib.hid hl64
  have HA := Lib.hid ((Fr.refl F0 w).alloc (.cells #[.pointer (some ⟨pb, 0, none⟩)] 29))
  have HP := Lib.hid (h.keep0 HA.out)
  have HDV := Lib.hid (hD.keep0 HA.out)
  have HG := Lib.hid hg
  have OK := Lib.hid ok
  have HMD := Lib.hid hMD
  have hx : (w.alloc (.cells #[.pointer (some ⟨pb, 0, none⟩)] 29)).heap[w.heap.size]? = some (.cells #[.pointer (some ⟨pb, 0, none⟩)] 29 (0, 0)) := heap_alloc_new w _
  have HX := Lib.hid hx
  have hxc : (w.alloc (.cells #[.pointer (some ⟨pb, 0, none⟩)] 29)).cell? ⟨w.heap.size, 0, none⟩ = some (.pointer (some ⟨pb, 0, none⟩)) := by rw [cell_of hx]; rfl
  have HXN : Hid (¬ M w.heap.size ∧ ¬ Dv db lb mb w.heap.size) := Lib.hid ⟨fun hm => by have := h.mlt _ hm; omega, fun hk => by
    obtain ⟨h2, h3, h4⟩ := hD.lt
    rcases hk with h6 | h6 | h6 <;> omega⟩
  have HML : Hid (∀ k, M k ∨ Dv db lb mb k → k < w.heap.size) := Lib.hid (fun k hk => by
    rcases hk with hk | hk
    · exact h.mlt k hk
    · obtain ⟨h2, h3, h4⟩ := hD.lt
      rcases hk with h6 | h6 | h6 <;> omega)
  obtain ⟨l, hl⟩ : ∃ l, l = P.listed (fun f => f.dirty && P.may f) := ⟨_, rfl⟩
  obtain ⟨R, hR⟩ : ∃ R, R = cleanF l P D := ⟨_, rfl⟩
  rw [← hl, ← hR]
  have hmem : ∀ a ∈ l, a ∈ P.fs.map Fm.at_ := by
    intro a ha
    rw [hl] at ha
    unfold Pl.listed at ha
    rw [List.mem_mergeSort] at ha
    unfold Pl.ats at ha
    obtain ⟨f, hf, he⟩ := List.mem_map.1 ha
    exact List.mem_map.2 ⟨f, (List.mem_filter.1 hf).1, he⟩
  have hln : l.length ≤ 64 := by
    rw [hl]
    unfold Pl.listed Pl.ats
    rw [List.length_mergeSort, List.length_map]
    have := List.length_filter_le (fun f : Fm => f.dirty && P.may f) P.fs
    omega
  have HLL := Lib.hid hl
  have HRR := Lib.hid hR
  have HME := Lib.hid hmem
  have HLN := Lib.hid hln
  clear h hD hg ok hMD hl64 hx hl hR hmem hln
  go_enter Try.func14, Try.ntmps14
  go_wp2_with fail
  refine (places_clean HP.out H64.out w.heap.size hxc).mono ?_
  rintro e w1 hli
  rw [← HLL.out] at hli
  obtain ⟨A, c, rfl, hva, hnew, hf1⟩ := hli.ex
  have HV := Lib.hid hva
  have HF1 := Lib.hid (HA.out.then0 hf1)
  have HNW : Hid (∀ ad, A = some ad → w.heap.size ≤ ad.block) := Lib.hid (fun ad e => by have h5 := hnew ad e; have h6 := HA.out.size; omega)
  have HP1 := Lib.hid (HP.out.keep0 hf1)
  have HD1 := Lib.hid (HDV.out.keep0 hf1)
  have HX1 := Lib.hid (hf1.keep0 HX.out)
  have l0 : (0 : Int) ≤ (l.length : Int) := Int.natCast_nonneg _
  obtain ⟨m, hm⟩ : ∃ m, m = l.length := ⟨_, rfl⟩
  have HMM := Lib.hid hm
  rw [← hm] at l0 ⊢
  clear hli hva hnew hf1 hm hxc
  generalize w.heap.size = bx at *
  go_wp2_with fail
  go_loopg [13] m (fun kq x13 wr => ∃ j : Nat, j ≤ m ∧ kq = m - j ∧ x13 = .int .i64 (j : Int) ∧ ∃ Pj Dj, PoolAt wr pb db M Pj v fbs ∧ DevAt Try.prog 3 wr db lb mb Dj ∧ GoodD Dj n ∧ Pj.fs.map Fm.at_ = P.fs.map Fm.at_ ∧ R = cleanF (l.drop j) Pj Dj ∧ Fr (fun k => M k ∨ Dv db lb mb k) w1 wr)
  case atStart => exact ⟨0, by omega, rfl, rfl, P, D, HP1.out, HD1.out, HG.out, rfl, by rw [List.drop_zero]; exact HRR.out, Fr.refl _ _⟩
  case round =>
    obtain ⟨j, hj, rfl, rfl, Pj, Dj, hp, hd, hg, hat, hr, hF⟩ := hrel
    have HPJ := Lib.hid hp
    have HDJ := Lib.hid hd
    have HGJ := Lib.hid hg
    have HAT := Lib.hid hat
    have HRJ := Lib.hid hr
    have HF := Lib.hid hF
    clear hp hd hg hat hr hF
    by_cases hlt : j < m
    · have j0 : (0 : Int) ≤ (j : Int) := Int.natCast_nonneg _
      have j1 : (j : Int) < (m : Int) := by omega
      have j2 : (j : Int) ≤ 64 := by have := HLN.out; have := HMM.out; omega
      obtain ⟨a, ha⟩ : ∃ a, l[j]? = some a := ⟨l[j]'(by rw [← HMM.out]; exact hlt), List.getElem?_eq_getElem _⟩
      have hva := HV.out.keep HF.out (fun ad e hk => by have h5 := HNW.out ad e; have h6 := HML.out _ hk; omega)
      obtain ⟨ad, rfl, hc⟩ := hva.cells (by rw [List.length_map, ← HMM.out]; omega)
      have gx : wr.cell? (ad.add j) = some (.int .i64 a) := hc j _ (by rw [List.getElem?_map, ha]; rfl)
      have hbx : wr.heap[bx]? = some (.cells #[.pointer (some ⟨pb, 0, none⟩)] 29 (0, 0)) := HF.out.keep HX1.out (fun hk => by
        rcases hk with hk | hk
        · exact HXN.out.1 hk
        · exact HXN.out.2 hk)
      have HBX := Lib.hid hbx
      have gb : wr.cell? ⟨bx, 0, none⟩ = some (.pointer (some ⟨pb, 0, none⟩)) := by rw [cell_of hbx]; rfl
      have hame : a ∈ P.fs.map Fm.at_ := HME.out a (List.mem_of_getElem? ha)
      obtain ⟨i, hi⟩ := idx_of_mem (P := Pj) (a := a) (by rw [HAT.out]; exact hame)
      obtain ⟨f, hf, hfa⟩ := idx_some hi
      obtain ⟨b, hb⟩ : ∃ b, fbs[i]? = some b := ⟨fbs[i]'(by rw [HPJ.out.len]; exact (List.getElem?_eq_some_iff.1 hf).1), List.getElem?_eq_getElem _⟩
      have hgd : fptr fbs (some i) = .pointer (some ⟨b, 0, none⟩) := by
        show Value.pointer (some ⟨fbs.getD i 0, 0, none⟩) = _
        rw [getD_of hb]
      have HI := Lib.hid hi
      have HFI := Lib.hid hf
      have HBI := Lib.hid hb
      have HGD := Lib.hid hgd
      have HFA := Lib.hid hfa
      have HPLA : Hid (0 ≤ a ∧ a < (n : Int)) := Lib.hid (by
        obtain ⟨g, hg, he⟩ := List.mem_map.1 hame
        have := OK.out.places g hg
        rw [he] at this
        exact this)
      have hl64 : Pj.fs.length ≤ 64 := by
        have h5 := congrArg List.length HAT.out
        rw [List.length_map, List.length_map] at h5
        have := H64.out
        omega
      have HJ64 := Lib.hid hl64
      have HAJ := Lib.hid ha
      clear hc ha hva hbx hame hi hf hfa hb hgd hl64
      go_wp2_with fail
      refine (find_c HPJ.out a HJ64.out).mono ?_
      rintro e w4 ⟨rfl, hf4⟩
      rw [HI.out, HGD.out]
      have HP4 := Lib.hid (HPJ.out.keep0 hf4)
      have HD4 := Lib.hid (HDJ.out.keep0 hf4)
      have HF4 := Lib.hid (HF.out.then0 hf4)
      obtain ⟨d0, d1, d2, d3, d4, d5, x1, x3, x4, x5⟩ := HP4.out.cells
      have hfm := HP4.out.fr i f b HFI.out HBI.out
      obtain ⟨f0, f2, f3, f4, f5, y1, y2, y3, y4, y5, Ab, cb, f1, hby, hmb⟩ := hfm.cells
      have HFM := Lib.hid hfm
      have HBY := Lib.hid hby
      have HMB : Hid (∀ ad, Ab = some ad → M ad.block) := Lib.hid (fun ad e => (hmb ad e).1)
      have gb4 : w4.cell? ⟨bx, 0, none⟩ = some (.pointer (some ⟨pb, 0, none⟩)) := by
        rw [cell_of (hf4.keep0 HBX.out)]; rfl
      clear hf4 hfm hby hmb d1 d2 d3 d4 d5 x1 x3 x4 x5 f0 f2 f3 f4 f5 y1 y2 y3 y4 y5 gx gb
      go_wp2_with fail
      go_still_tail 9, (by kernel_rfl)
      change wpList _ _ _ _ _ w4.drew
      have HP5 := Lib.hid (HP4.out.keep0 ((Fr.refl F0 w4).drew))
      have HD5 := Lib.hid (HD4.out.keep0 ((Fr.refl F0 w4).drew))
      have HB5 := Lib.hid (HBY.out.keep0 ((Fr.refl F0 w4).drew))
      have HF5 := Lib.hid (HF4.out.drew)
      clear d0 f1 gb4
      generalize w4.drew = w5 at *
      have hb64 : BytesAt w5 Ab 64 f.b := by have := HB5.out.at_; rw [HFM.out.len] at this; exact this
      have HB64 := Lib.hid hb64
      obtain ⟨g1, g2, -, -, -, -⟩ := HGJ.out.write HPLA.out.1 HPLA.out.2 (s := f.b) (by rw [HFM.out.len]; decide)
      have HG1 := Lib.hid g1
      have HG2 := Lib.hid g2
      clear hb64 g1 g2
      go_wp2_with fail
      refine (write_c HD5.out a Ab cb f.b 64 HB64.out (fun hp ad e h => HMD.out _ (.inl rfl) (by have := HMB.out ad e; rw [h] at this; exact this))).mono ?_
      rintro e w6 ⟨rfl, hd6, hf6⟩
      rw [HG1.out]
      have HD6 := Lib.hid hd6
      have HP6 := Lib.hid (HP5.out.keep hf6 (fun k hk hm => HMD.out k hk hm))
      have HF6 := Lib.hid (HF5.out.trans hf6 (fun k hk => .inl (.inr hk)))
      obtain ⟨f0, f2, f3, f4, f5, y1, y2, y3, y4, y5, -⟩ := (HP6.out.fr i f b HFI.out HBI.out).cells
      clear hd6 hf6 f0 f3 f4 f5 y1 y3 y4 y5
      go_wp2_with fail
      have hfr : Fr (fun k => k = b) w6 (w6.setCell ⟨b, 2, none⟩ (.bool false)) := (Fr.refl (fun k => k = b) w6).setCell (p := ⟨b, 2, none⟩) (.inl rfl) _
      have hset := HP6.out.set HFI.out HBI.out hfr ((HP6.out.fr i f b HFI.out HBI.out).dirtied false)
      have hbM : M b := HP6.out.mf b (List.mem_of_getElem? HBI.out)
      have hdev := HD6.out.keep hfr (fun e => HMD.out _ (.inl rfl) (e ▸ hbM)) (fun e => HMD.out _ (.inr (.inl rfl)) (e ▸ hbM)) (fun e => HMD.out _ (.inr (.inr rfl)) (e ▸ hbM))
      go_roundg (m - (j + 1))
      case measure => omega
      case rel =>
        refine ⟨j + 1, by omega, rfl, by first | rfl | (go_num), _, _, hset, hdev, HG2.out, ?_, ?_, HF6.out.trans hfr (fun k hk => .inl (.inl (hk ▸ hbM)))⟩
        · show (Pj.fs.set i { f with dirty := false }).map Fm.at_ = _
          rw [List.map_set, ← HAT.out]
          apply List.ext_getElem?
          intro q
          by_cases hq : i = q
          · subst hq
            rw [List.getElem?_set_self (by rw [List.length_map]; exact (List.getElem?_eq_some_iff.1 HFI.out).1), List.getElem?_map, HFI.out]
            rfl
          · rw [List.getElem?_set_ne hq]
        · rw [HRJ.out]
          have hdr : l.drop j = a :: l.drop (j + 1) := by
            rw [List.drop_eq_getElem_cons (by rw [← HMM.out]; exact hlt)]
            have := (List.getElem?_eq_some_iff.1 HAJ.out).2
            rw [this]
          rw [hdr]
          conv => lhs; unfold cleanF
          rw [HI.out]
          simp only [getD_of HFI.out]
    · have hjn : j = m := by omega
      subst hjn
      go_wp2_with fail
      go_ret
      have hnil : l.drop j = [] := by rw [HMM.out, List.drop_length]
      have hRe := HRJ.out
      rw [hnil] at hRe
      have h1 : R.1 = Pj := by rw [hRe]; rfl
      have h2 : R.2 = Dj := by rw [hRe]; rfl
      exact ⟨rfl, by rw [h1]; exact HPJ.out, by rw [h2]; exact HDJ.out, (HF1.out.of0).trans HF.out (fun k hk => .inl hk)⟩
/-- What Unpin leaves. -/
inductive UnpinRet (w w' : World) (e : Ending) (M : Nat → Prop) (pb db : Nat) (P : Pl) (v : Value) (fbs : List Nat) (a : Int) : Prop
  | no (h : ∀ i f, P.idx a = some i → P.fs[i]? = some f → f.pins = 0) (he : e = .returned (.int .i64 7)) (hf : Fr F0 w w') : UnpinRet w w' e M pb db P v fbs a
  | yes (i : Nat) (f : Fm) (hi : P.idx a = some i) (hf : P.fs[i]? = some f) (hp : f.pins ≠ 0) (he : e = .returned (.int .i64 0)) (ht : PoolAt w' pb db M { P with fs := P.fs.set i { f with pins := f.pins - 1 } } v fbs) (hfr : Fr M w w') : UnpinRet w w' e M pb db P v fbs a
set_option maxRecDepth 100000 in
set_option maxHeartbeats 1000000 in
theorem unpin_c (h : PoolAt w pb db M P v fbs) (a : Int) (hn : P.fs.length ≤ 64) (hpins : ∀ (i : Nat) (f : Fm), P.fs[i]? = some f → 0 ≤ f.pins ∧ f.pins ≤ 1000000) :
    Calls Try.prog 23 #[.pointer (some ⟨pb, 0, none⟩), .int .i64 a] w fun e w' => UnpinRet w w' e M pb db P v fbs a := by
  have HP := Lib.hid h
  have HPI := Lib.hid hpins
  clear h hpins
  cases hx : P.idx a with
  | none =>
    have HX := Lib.hid hx
    have hgd : fptr fbs none = .pointer none := rfl
    clear hx
    go_enter Try.func23, Try.ntmps23
    go_wp2_with fail
    refine (find_c HP.out a hn).mono ?_
    rintro e w1 ⟨rfl, hf1⟩
    rw [HX.out, hgd]
    have HF1 := Lib.hid hf1
    clear hf1 hgd
    go_wp2_with fail
    go_ret
    exact .no (fun i f hi => by rw [HX.out] at hi; cases hi) rfl HF1.out
  | some i =>
    obtain ⟨f, hf, hfa⟩ := idx_some hx
    obtain ⟨b, hb⟩ : ∃ b, fbs[i]? = some b := ⟨fbs[i]'(by rw [HP.out.len]; exact (List.getElem?_eq_some_iff.1 hf).1), List.getElem?_eq_getElem _⟩
    have hgd : fptr fbs (some i) = .pointer (some ⟨b, 0, none⟩) := by
      show Value.pointer (some ⟨fbs.getD i 0, 0, none⟩) = _
      rw [getD_of hb]
    have HX := Lib.hid hx
    have HFI := Lib.hid hf
    have HBI := Lib.hid hb
    have HGD := Lib.hid hgd
    obtain ⟨p0, p1⟩ := HPI.out i f hf
    clear hx hf hfa hb hgd
    by_cases hp0 : f.pins = 0
    · have HP0 := Lib.hid hp0
      go_enter Try.func23, Try.ntmps23
      go_wp2_with fail
      refine (find_c HP.out a hn).mono ?_
      rintro e w1 ⟨rfl, hf1⟩
      rw [HX.out, HGD.out]
      have HF1 := Lib.hid hf1
      have f4 := ((HP.out.keep0 hf1).fr i f b HFI.out HBI.out).cells.2.2.2.1
      rw [hp0] at f4
      clear hf1 hp0 p0 p1
      go_wp2_with fail
      go_ret
      exact .no (fun i' f' hi hf' => by rw [HX.out] at hi; cases hi; rw [HFI.out] at hf'; cases hf'; exact HP0.out) rfl HF1.out
    · go_enter Try.func23, Try.ntmps23
      go_wp2_with fail
      refine (find_c HP.out a hn).mono ?_
      rintro e w1 ⟨rfl, hf1⟩
      rw [HX.out, HGD.out]
      have HF1 := Lib.hid hf1
      have HP1 := Lib.hid (HP.out.keep0 hf1)
      obtain ⟨f0, f2, f3, f4, f5, y1, y2, y3, y4, y5, -⟩ := (HP1.out.fr i f b HFI.out HBI.out).cells
      clear hf1 f0 f2 f3 f5 y1 y2 y3 y5
      go_wp2_with fail
      go_ret
      have hfr : Fr (fun k => k = b) w1 (w1.setCell ⟨b, 4, none⟩ (.int .i64 (f.pins - 1))) := (Fr.refl (fun k => k = b) w1).setCell (p := ⟨b, 4, none⟩) (.inl rfl) _
      have hset := HP1.out.set HFI.out HBI.out hfr ((HP1.out.fr i f b HFI.out HBI.out).pinned (f.pins - 1))
      have hbM : M b := HP.out.mf b (List.mem_of_getElem? HBI.out)
      exact .yes i f HX.out HFI.out hp0 rfl hset ((HF1.out.of0 (S := M)).trans hfr (fun k hk => .inl (hk ▸ hbM)))
end
end Go.Proofs.Ytjfdfjenodianaa
