/-
  A pool's Put, Pin, Unpin, Safe, Reads. Conditions: none.
-/
import Derived.Test.YtjfdfjenodianaaK17f
set_option linter.unusedVariables false
set_option linter.unusedSimpArgs false
namespace Go.Proofs.Ytjfdfjenodianaa
open Go.RowKit
theorem und_u8 : Try.prog.underlying 5 = some (.int .u8) := by kernel_rfl
theorem info_u8 : (Try.prog.info? 5).map (fun i => (i.zero, i.size, i.bytes)) = some (some (.int .u8 0), 1, 1) := by kernel_rfl
def putFm (f : Fm) (xs : List Int) (lsn : Int) : Fm := { f with b := pad64 xs, dirty := true, lsn := if f.dirty = true then max lsn f.lsn else lsn }
section
variable {w : World} {M : Nat → Prop} {pb db lb mb : Nat} {P : Pl} {v : Value} {fbs : List Nat} {D : Dev}
/-- What Put leaves. -/
inductive PutRet (w w' : World) (e : Ending) (M : Nat → Prop) (pb db lb mb : Nat) (H : Option Nat × Pl × Dev) (xs : List Int) (lsn : Int) : Prop
  | no (M' : Nat → Prop) (v' : Value) (fbs' : List Nat) (ht : PoolTo w w' M M' pb db lb mb H.2.1 H.2.2 v' fbs') (ho : H.1 = none) (he : e = .returned (.int .i64 5)) : PutRet w w' e M pb db lb mb H xs lsn
  | yes (M' : Nat → Prop) (v' : Value) (fbs' : List Nat) (i : Nat) (f : Fm) (ho : H.1 = some i) (hf : H.2.1.fs[i]? = some f) (ht : PoolTo w w' M M' pb db lb mb { H.2.1 with fs := H.2.1.fs.set i (putFm f xs lsn) } H.2.2 v' fbs') (he : e = .returned (.int .i64 0)) : PutRet w w' e M pb db lb mb H xs lsn
set_option maxRecDepth 100000 in
theorem pput_big (A : Option Addr) (n c : Nat) (a lsn : Int) (hn : 64 < n) (pb : Nat) : Calls Try.prog 12 #[.pointer (some ⟨pb, 0, none⟩), .int .i64 a, .slice A n c, .int .i64 lsn] w fun e w' => e = .returned (.int .i64 1) ∧ w = w' := by
  have h1 : (64 : Int) < (n : Int) := by omega
  go_enter Try.func12, Try.ntmps12
  go_wp2_with fail
  go_ret
  exact ⟨rfl, rfl⟩
set_option maxRecDepth 100000 in
theorem pput_nil (v : Value) (a lsn : Int) : Calls Try.prog 12 #[.pointer none, .int .i64 a, v, .int .i64 lsn] w fun e w' => e = .returned (.int .i64 11) ∧ w = w' := by
  go_enter Try.func12, Try.ntmps12
  go_wp2_with fail
  refine (hold_nil a).mono ?_
  rintro e w1 ⟨rfl, rfl⟩
  go_wp2_with fail
  go_ret
  exact ⟨rfl, rfl⟩
set_option maxRecDepth 100000 in
theorem pget_nil (a : Int) : Calls Try.prog 15 #[.pointer none, .int .i64 a] w fun e w' => e = .returned (.tuple #[.slice none 0 0, .int .i64 11]) ∧ w = w' := by
  go_enter Try.func15, Try.ntmps15
  go_wp2_with fail
  refine (hold_nil a).mono ?_
  rintro e w1 ⟨rfl, rfl⟩
  go_wp2_with fail
  go_ret2
  exact ⟨rfl, rfl⟩
set_option maxRecDepth 100000 in
theorem pin_nil (a : Int) : Calls Try.prog 22 #[.pointer none, .int .i64 a] w fun e w' => e = .returned (.int .i64 11) ∧ w = w' := by
  go_enter Try.func22, Try.ntmps22
  go_wp2_with fail
  refine (hold_nil a).mono ?_
  rintro e w1 ⟨rfl, rfl⟩
  go_wp2_with fail
  go_ret
  exact ⟨rfl, rfl⟩
set_option maxRecDepth 100000 in
theorem unpin_nil (a : Int) : Calls Try.prog 23 #[.pointer none, .int .i64 a] w fun e w' => e = .returned (.int .i64 11) ∧ w = w' := by
  go_enter Try.func23, Try.ntmps23
  go_wp2_with fail
  go_ret
  exact ⟨rfl, rfl⟩
set_option maxRecDepth 100000 in
theorem psafe_nil (a : Int) : Calls Try.prog 13 #[.pointer none, .int .i64 a] w fun e w' => e = .returned (.tuple #[]) ∧ w = w' := by
  go_enter Try.func13, Try.ntmps13
  go_wp2_with fail
  go_end0
  exact ⟨rfl, rfl⟩
set_option maxRecDepth 100000 in
theorem preads_c (h : PoolAt w pb db M P v fbs) : Calls Try.prog 20 #[.pointer (some ⟨pb, 0, none⟩)] w fun e w' => e = .returned (.int .i64 P.reads) ∧ w = w' := by
  obtain ⟨c0, c1, c2, c3, c4, c5, z1, z3, z4, z5⟩ := h.cells
  go_enter Try.func20, Try.ntmps20
  go_wp2_with fail
  go_ret
  exact ⟨rfl, rfl⟩
set_option maxRecDepth 100000 in
theorem preads_nil : Calls Try.prog 20 #[.pointer none] w fun e w' => e = .returned (.int .i64 0) ∧ w = w' := by
  go_enter Try.func20, Try.ntmps20
  go_wp2_with fail
  go_ret
  exact ⟨rfl, rfl⟩
set_option maxRecDepth 100000 in
theorem psafe_c (h : PoolAt w pb db M P v fbs) (l : Int) : Calls Try.prog 13 #[.pointer (some ⟨pb, 0, none⟩), .int .i64 l] w fun e w' => e = .returned (.tuple #[]) ∧ PoolAt w' pb db M { P with safe := max P.safe l } v fbs ∧ Fr (fun k => k = pb) w w' := by
  obtain ⟨c0, c1, c2, c3, c4, c5, z1, z3, z4, z5⟩ := h.cells
  have HP := Lib.hid h
  have fin : ∀ s : Int, s = max P.safe l → PoolAt (w.setCell ⟨pb, 4, none⟩ (.int .i64 s)) pb db M { P with safe := max P.safe l } v fbs := fun s hs => by
    rw [← hs]
    exact HP.out.pool (P' := { P with safe := s }) ((Fr.refl (fun k => k = pb) w).setCell (p := ⟨pb, 4, none⟩) (.inl rfl) _) rfl (by rw [set_cell HP.out.row]; rfl)
  have HFIN := Lib.hid fin
  clear h fin
  by_cases hl : l ≤ P.safe
  · go_enter Try.func13, Try.ntmps13
    go_wp2_with fail
    go_end0
    exact ⟨rfl, HFIN.out _ (by omega), (Fr.refl (fun k => k = pb) w).setCell (p := ⟨pb, 4, none⟩) (.inl rfl) _⟩
  · go_enter Try.func13, Try.ntmps13
    go_wp2_with fail
    go_end0
    exact ⟨rfl, HFIN.out _ (by omega), (Fr.refl (fun k => k = pb) w).setCell (p := ⟨pb, 4, none⟩) (.inl rfl) _⟩
/-- A pin more, or one less. -/
theorem FmAt.pinned {b : Nat} {f : Fm} (h : FmAt w M b f) (u : Int) : FmAt (w.setCell ⟨b, 4, none⟩ (.int .i64 u)) M b { f with pins := u } := by
  obtain ⟨A, c, hr, hby, hm⟩ := h.ex
  refine ⟨⟨A, c, ?_, hby.keep (S := fun k => k = b) ((Fr.refl (fun k => k = b) w).setCell (p := ⟨b, 4, none⟩) (.inl rfl) _) (fun hp ad e hs => ?_), hm⟩, h.len⟩
  · rw [set_cell hr]
    rfl
  · subst e
    exact hby.ne hp hr (fm_no_u8 f _ c) hs
/-- What Pin leaves. -/
inductive PinRet (w w' : World) (e : Ending) (M : Nat → Prop) (pb db lb mb : Nat) (H : Option Nat × Pl × Dev) : Prop
  | no (M' : Nat → Prop) (v' : Value) (fbs' : List Nat) (ht : PoolTo w w' M M' pb db lb mb H.2.1 H.2.2 v' fbs') (ho : H.1 = none) (he : e = .returned (.int .i64 5)) : PinRet w w' e M pb db lb mb H
  | yes (M' : Nat → Prop) (v' : Value) (fbs' : List Nat) (i : Nat) (f : Fm) (ho : H.1 = some i) (hf : H.2.1.fs[i]? = some f) (ht : PoolTo w w' M M' pb db lb mb { H.2.1 with fs := H.2.1.fs.set i { f with pins := f.pins + 1 } } H.2.2 v' fbs') (he : e = .returned (.int .i64 0)) : PinRet w w' e M pb db lb mb H
set_option maxRecDepth 100000 in
set_option maxHeartbeats 1000000 in
theorem pin_c {n : Nat} (h : PoolAt w pb db M P v fbs) (hD : DevAt Try.prog 3 w db lb mb D) (hg : GoodD D n) (ok : PoolOk P n) (hMD : ∀ k, Dv db lb mb k → ¬ M k) (a : Nat) (a1 : a < n) (r0 : 0 ≤ P.reads) (r1 : P.reads ≤ 1000000)
    (hpins : ∀ (i : Nat) (f : Fm), (P.hold D a).2.1.fs[i]? = some f → 0 ≤ f.pins ∧ f.pins ≤ 1000000) :
    Calls Try.prog 22 #[.pointer (some ⟨pb, 0, none⟩), .int .i64 (a : Int)] w fun e w' => PinRet w w' e M pb db lb mb (P.hold D a) := by
  have HP := Lib.hid h
  have HDV := Lib.hid hD
  have HG := Lib.hid hg
  have OK := Lib.hid ok
  have HMD := Lib.hid hMD
  clear h hD hg ok hMD
  obtain ⟨H, hH⟩ : ∃ H, H = P.hold D a := ⟨_, rfl⟩
  rw [← hH]
  rw [← hH] at hpins
  have HH := Lib.hid hH
  have HPI := Lib.hid hpins
  clear hH hpins
  go_enter Try.func22, Try.ntmps22
  go_wp2_with fail
  refine (hold_to HP.out HDV.out HG.out OK.out HMD.out a a1 r0 r1).mono ?_
  rintro e w1 ⟨v', fbs', rfl, ht⟩
  rw [← HH.out] at ht ⊢
  obtain ⟨o, Q, D'⟩ := H
  have HT := Lib.hid ht
  clear ht
  cases o with
  | none =>
    have hv : holdV fbs' none = .tuple #[.pointer none, .int .i64 5] := rfl
    rw [hv]
    go_wp2_with fail
    go_ret
    exact .no _ v' fbs' HT.out rfl rfl
  | some i =>
    have hi : i < Q.fs.length := hold_lt HH.out.symm
    obtain ⟨f, hf⟩ : ∃ f, Q.fs[i]? = some f := ⟨Q.fs[i]'hi, List.getElem?_eq_getElem _⟩
    obtain ⟨b, hb⟩ : ∃ b, fbs'[i]? = some b := ⟨fbs'[i]'(by rw [HT.out.pool.len]; exact hi), List.getElem?_eq_getElem _⟩
    have hv : holdV fbs' (some i) = .tuple #[.pointer (some ⟨b, 0, none⟩), .int .i64 0] := by
      show Value.tuple #[.pointer (some ⟨fbs'.getD i 0, 0, none⟩), .int .i64 0] = _
      rw [getD_of hb]
    rw [hv]
    obtain ⟨p0, p1⟩ := HPI.out i f hf
    obtain ⟨f0, f2, f3, f4, f5, y1, y2, y3, y4, y5, -⟩ := (HT.out.pool.fr i f b hf hb).cells
    have HFI := Lib.hid hf
    have HBI := Lib.hid hb
    clear hf hb hv f0 f2 f3 f5 y1 y2 y3 y5 hi
    go_wp2_with fail
    go_ret
    have hfr : Fr (fun k => k = b) w1 (w1.setCell ⟨b, 4, none⟩ (.int .i64 (f.pins + 1))) := (Fr.refl (fun k => k = b) w1).setCell (p := ⟨b, 4, none⟩) (.inl rfl) _
    have hset := HT.out.pool.set HFI.out HBI.out hfr ((HT.out.pool.fr i f b HFI.out HBI.out).pinned (f.pins + 1))
    have hbm : More M w w1 b := HT.out.pool.mf b (List.mem_of_getElem? HBI.out)
    have hbd : ∀ k, Dv db lb mb k → k ≠ b := fun k hk e => by
      subst e
      rcases hbm with h5 | h5
      · exact HMD.out _ hk h5
      · obtain ⟨h2, h3, h4⟩ := HDV.out.lt
        rcases hk with h6 | h6 | h6 <;> omega
    refine .yes (More M w w1) v' fbs' i f rfl HFI.out ⟨HT.out.sub, hset, HT.out.dev.keep hfr (fun e => hbd _ (.inl rfl) e) (fun e => hbd _ (.inr (.inl rfl)) e) (fun e => hbd _ (.inr (.inr rfl)) e), HT.out.fr.trans hfr (fun k hk => ?_)⟩ rfl
    subst hk
    rcases hbm with h5 | h5
    · exact .inl (.inl h5)
    · exact .inr h5.1
/-- The frame behind a Put. -/
theorem put_done {w1 w2 w5 : World} {v' : Value} {fbs' : List Nat} {i b : Nat} {f : Fm} {Q : Pl} {D D' : Dev} {xs : List Int} {lsn l' : Int} {A' Ao A5 : Option Addr} {nx c' co c5 m : Nat} (ht : PoolTo w w1 M (More M w w1) pb db lb mb Q D' v' fbs') (hf : Q.fs[i]? = some f) (hb : fbs'[i]? = some b)
    (hDV : DevAt Try.prog 3 w db lb mb D) (hMD : ∀ k, Dv db lb mb k → ¬ M k) (hf2 : Fr F0 w1 w2) (hf5 : Fr (fun k => (Value.slice A' nx c').ownBlock = some k) w2 w5) (hne : ∀ k, (Value.slice A' nx c').ownBlock = some k → w1.heap.size ≤ k)
    (hr5 : w5.heap[b]? = some (.cells (f.cells Ao co).toArray 61 (0, 0))) (ho5 : w5.ownsRow w1.heap.size 5 1 (.slice A5 64 c5) 64 (xs.map (Value.int .u8) ++ List.replicate m (.int .u8 0))) (hxl : xs.length = nx) (hm : nx + m = 64) (hl' : (if f.dirty = true then max lsn f.lsn else lsn) = l') :
    PutRet w (((w5.setCell ⟨b, 1, none⟩ (.slice A5 64 c5)).setCell ⟨b, 2, none⟩ (.bool true)).setCell ⟨b, 3, none⟩ (.int .i64 l')) (.returned (.int .i64 0)) M pb db lb mb (some i, Q, D') xs lsn := by
  have h15 : Fr F0 w1 w5 := ⟨(hf2.os ▸ hf5.os : _), (hf2.tape ▸ hf5.tape : _), (hf2.output ▸ hf5.output : _), Nat.le_trans hf2.size hf5.size, fun k hk _ => by
    rw [hf5.block k (Nat.lt_of_lt_of_le hk hf2.size) (fun e => by have := hne k e; omega), hf2.block k hk (fun h => h)]⟩
  have hp5 := ht.pool.keep0 h15
  have hfB : Fr (fun k => k = b) w5 (((w5.setCell ⟨b, 1, none⟩ (.slice A5 64 c5)).setCell ⟨b, 2, none⟩ (.bool true)).setCell ⟨b, 3, none⟩ (.int .i64 l')) :=
    (((Fr.refl (fun k => k = b) w5).setCell (p := ⟨b, 1, none⟩) (.inl rfl) _).setCell (p := ⟨b, 2, none⟩) (.inl rfl) _).setCell (p := ⟨b, 3, none⟩) (.inl rfl) _
  have hxs : xs.map (Value.int .u8) ++ List.replicate m (.int .u8 0) = (pad64 xs).map (Value.int .u8) := by
    unfold pad64
    rw [List.map_append, List.map_replicate, hxl, show 64 - nx = m by omega]
  have hpl : (pad64 xs).length = 64 := pad64_len xs (by omega)
  rw [hxs] at ho5
  have hbM : More M w w1 b := ht.pool.mf b (List.mem_of_getElem? hb)
  have hbd : ∀ k, Dv db lb mb k → k ≠ b := fun k hk e => by
    subst e
    rcases hbM with h5 | h5
    · exact hMD _ hk h5
    · obtain ⟨h2, h3, h4⟩ := hDV.lt
      rcases hk with h6 | h6 | h6 <;> omega
  have hs : w1.heap.size ≤ w5.heap.size := h15.size
  have hsB := hfB.size
  have hmore := hp5.mono (N := More M w w5) (fun k hk => hk.imp id (fun h => ⟨h.1, by omega⟩)) (fun k hk => hk.elim (fun h5 => by
    have := ht.pool.mlt k (.inl h5); omega) (fun h5 => h5.2))
  obtain ⟨g, cap, cur, hg, hgb, hgh, hg1, hg2, hg3, hg4⟩ : ∃ g cap cur, (Value.slice A5 64 c5) = .slice (some ⟨g, 0, none⟩) 64 cap ∧ w1.heap.size ≤ g ∧ w5.heap[g]? = some (.cells cur 5 (0, 0)) ∧ 64 ≤ cap ∧ cap ≤ maxLen ∧ cur.size = cap * 1 ∧ cur.toList.take (64 * 1) = (pad64 xs).map (Value.int .u8) := by
    rcases ho5.2 with ⟨h, h0⟩ | ⟨g, cap, cur, h, r⟩
    · cases h0
    · exact ⟨g, cap, cur, h, r⟩
  have hgw : w.heap.size ≤ w1.heap.size := ht.fr.size
  have hgb' : g ≠ b := fun e => by
    have h5 := ht.pool.mlt b hbM
    omega
  have hga : A5 = some ⟨g, 0, none⟩ ∧ c5 = cap := by cases hg; exact ⟨rfl, rfl⟩
  obtain ⟨rfl, rfl⟩ := hga
  have hnewrow : (((w5.setCell ⟨b, 1, none⟩ (.slice (some ⟨g, 0, none⟩) 64 c5)).setCell ⟨b, 2, none⟩ (.bool true)).setCell ⟨b, 3, none⟩ (.int .i64 l')).heap[b]? = some (.cells ((putFm f xs lsn).cells (some ⟨g, 0, none⟩) c5).toArray 61 (0, 0)) := by
    rw [set_cell (set_cell (set_cell hr5 1 _) 2 _) 3 _]
    unfold putFm
    rw [hl']
    rfl
  have hbytes : BytesAt w5 (some ⟨g, 0, none⟩) 64 (pad64 xs) := by
    refine ⟨hpl, fun _ => ⟨_, rfl, fun j u hj => ?_⟩⟩
    exact ho5.cells rfl j u hj
  have hfm : FmAt (((w5.setCell ⟨b, 1, none⟩ (.slice (some ⟨g, 0, none⟩) 64 c5)).setCell ⟨b, 2, none⟩ (.bool true)).setCell ⟨b, 3, none⟩ (.int .i64 l')) (Dat (More M w w5) v') b (putFm f xs lsn) := by
    refine ⟨⟨some ⟨g, 0, none⟩, c5, hnewrow, ⟨?_, by show (pad64 xs).length ≤ c5; omega, by simp only [maxLen] at hg2; omega⟩, fun ad e => ?_⟩, hpl⟩
    · show BytesAt _ _ (pad64 xs).length (pad64 xs)
      rw [hpl]
      exact hbytes.keep hfB (fun _ ad e hk => by cases e; exact hgb' hk)
    · cases e
      refine ⟨.inr ⟨by show w.heap.size ≤ g; omega, lt_of_block hgh⟩, fun hk => ?_⟩
      have h5 := ht.pool.mlt g (ht.pool.vn g hk).2.2
      omega
  have hset := hmore.set hf hb hfB hfm
  refine .yes (More M w w5) v' fbs' i f rfl hf ⟨fun k hk => hk.imp id (fun h => h.1), hset, (ht.dev.keep0 h15).keep hfB (fun e => hbd _ (.inl rfl) e) (fun e => hbd _ (.inr (.inl rfl)) e) (fun e => hbd _ (.inr (.inr rfl)) e), (ht.fr.then0 h15).trans hfB (fun k hk => ?_)⟩ rfl
  subst hk
  rcases hbM with h5 | h5
  · exact .inl (.inl h5)
  · exact .inr h5.1
set_option maxRecDepth 100000 in
set_option maxHeartbeats 2000000 in
theorem pput_c {n : Nat} (h : PoolAt w pb db M P v fbs) (hD : DevAt Try.prog 3 w db lb mb D) (hg : GoodD D n) (ok : PoolOk P n) (hMD : ∀ k, Dv db lb mb k → ¬ M k) (a : Nat) (a1 : a < n) (r0 : 0 ≤ P.reads) (r1 : P.reads ≤ 1000000)
    (A : Option Addr) (nx cx : Nat) (xs : List Int) (hA : BytesAt w A nx xs) (hnx : nx ≤ 64) (hAM : ∀ ad, A = some ad → 0 < nx → ad.block < w.heap.size ∧ ¬ M ad.block ∧ ¬ Dv db lb mb ad.block) (lsn : Int) (l0 : 0 ≤ lsn) :
    Calls Try.prog 12 #[.pointer (some ⟨pb, 0, none⟩), .int .i64 (a : Int), .slice A nx cx, .int .i64 lsn] w fun e w' => PutRet w w' e M pb db lb mb (P.hold D a) xs lsn := by
  have HP := Lib.hid h
  have HDV := Lib.hid hD
  have HG := Lib.hid hg
  have OK := Lib.hid ok
  have HMD := Lib.hid hMD
  have HA := Lib.hid hA
  have HAM := Lib.hid hAM
  have hn64 : ¬ (64 : Int) < (nx : Int) := by omega
  have hl0 : ¬ lsn < 0 := by omega
  clear h hD hg ok hA hAM
  obtain ⟨H, hH⟩ : ∃ H, H = P.hold D a := ⟨_, rfl⟩
  rw [← hH]
  have HH := Lib.hid hH
  clear hH
  go_enter Try.func12, Try.ntmps12
  go_wp2_with fail
  refine (hold_to HP.out HDV.out HG.out OK.out HMD.out a a1 r0 r1).mono ?_
  rintro e w1 ⟨v', fbs', rfl, ht⟩
  rw [← HH.out] at ht ⊢
  obtain ⟨o, Q, D'⟩ := H
  have HT := Lib.hid ht
  clear ht
  cases o with
  | none =>
    have hv : holdV fbs' none = .tuple #[.pointer none, .int .i64 5] := rfl
    rw [hv]
    go_wp2_with fail
    go_ret
    exact .no _ v' fbs' HT.out rfl rfl
  | some i =>
    have hi : i < Q.fs.length := hold_lt HH.out.symm
    obtain ⟨f, hf⟩ : ∃ f, Q.fs[i]? = some f := ⟨Q.fs[i]'hi, List.getElem?_eq_getElem _⟩
    obtain ⟨b, hb⟩ : ∃ b, fbs'[i]? = some b := ⟨fbs'[i]'(by rw [HT.out.pool.len]; exact hi), List.getElem?_eq_getElem _⟩
    have hv : holdV fbs' (some i) = .tuple #[.pointer (some ⟨b, 0, none⟩), .int .i64 0] := by
      show Value.tuple #[.pointer (some ⟨fbs'.getD i 0, 0, none⟩), .int .i64 0] = _
      rw [getD_of hb]
    rw [hv]
    have hfm := HT.out.pool.fr i f b hf hb
    obtain ⟨f0, f2, f3, f4, f5, y1, y2, y3, y4, y5, -⟩ := hfm.cells
    obtain ⟨Ao, co, hro, hbyo, -⟩ := hfm.ex
    have HRO := Lib.hid hro
    have HFI := Lib.hid hf
    have HBI := Lib.hid hb
    have HA1 : Hid (BytesAt w1 A nx xs) := Lib.hid (HA.out.keep HT.out.fr (fun hp ad e hk => by
      obtain ⟨q1, q2, q3⟩ := HAM.out ad e hp
      rcases hk with hk | hk
      · exact q2 hk
      · exact q3 hk))
    obtain ⟨l', hl'⟩ : ∃ l', l' = (if f.dirty = true then max lsn f.lsn else lsn) := ⟨_, rfl⟩
    have HL' := Lib.hid hl'
    obtain ⟨m, hm⟩ : ∃ m : Nat, nx + m = 64 := ⟨64 - nx, by omega⟩
    have hmn : (64 : Int) - (nx : Int) = (m : Int) := by omega
    have HM := Lib.hid hm
    have hbw1 : b < w1.heap.size := lt_of_block hro
    have HBW := Lib.hid hbw1
    clear hf hb hv hfm f0 f4 f5 y4 y5 hi hro hbyo hl' hm hbw1 y1 y2 y3
    rcases Bool.eq_false_or_eq_true f.dirty with hd | hd
    · rw [hd] at f2
      have HLW : Hid (l' = max lsn f.lsn) := Lib.hid (by rw [HL'.out, if_pos hd])
      clear hd
      go_wp2_with fail
      refine (clone17_c A nx cx xs HA1.out (by omega)).mono ?_
      rintro e w2 ⟨A', c', rfl, hc1, hc3, hc2, hf2⟩
      have HC2 := Lib.hid hc2
      have HC3 := Lib.hid hc3
      have HF2 := Lib.hid hf2
      have hxl : (xs.map (Value.int .u8)).length = nx := by rw [List.length_map]; exact HA1.out.len
      have HXL := Lib.hid hxl
      have HRB := Lib.hid (hf2.keep0 HRO.out)
      have hbne : ∀ k, (Value.slice A' nx c').ownBlock = some k → w1.heap.size ≤ k := fun k hk => own_base hc3 k hk
      have HBNE := Lib.hid hbne
      clear hc1 hc2 hc3 hf2 hxl hbne
      go_wp2_with (at_builtin; refine wpList_append_zeros rfl (.tmp 43) (.tmp 46) 33 3 5 1 (.int .u8 0) .i64 rfl und_bytes und_int info_u8 rfl rfl w1.heap.size (.slice A' nx c') (xs.map (Value.int .u8)) .i64 m (by rfl) (by rfl) (by rw [HXL.out]; exact HC3.out) HF2.out.size (by rw [HXL.out]; omega) (by rw [HXL.out]; omega) ?_; intro v5 w5 hown5 hf5; rw [HXL.out, HM.out] at hown5; obtain ⟨A5, c5, hv5, -, -, -, -⟩ := ValsAt.of_own hown5; subst hv5; have HO5 := Lib.hid hown5; have HF5 := Lib.hid hf5; have hr5 := hf5.keep HRB.out (fun e => by have h5 := HBNE.out _ e; have h6 := HBW.out; omega); have HR5 := Lib.hid hr5; have s1 : w5.frozen? ⟨b, 1, none⟩ = false := free_of hr5 1; have t1 : w5.cell? ⟨b, 1, none⟩ = some (.slice Ao 64 co) := (by rw [cell_of hr5]; rfl); have hr6 := set_cell hr5 1 (.slice A5 64 c5); have s2 : (w5.setCell ⟨b, 1, none⟩ (.slice A5 64 c5)).frozen? ⟨b, 2, none⟩ = false := free_of hr6 2; have t2 : (w5.setCell ⟨b, 1, none⟩ (.slice A5 64 c5)).cell? ⟨b, 2, none⟩ = some (.bool f.dirty) := (by rw [cell_of hr6]; rfl); have hr7 := set_cell hr6 2 (.bool true); have s3 : ((w5.setCell ⟨b, 1, none⟩ (.slice A5 64 c5)).setCell ⟨b, 2, none⟩ (.bool true)).frozen? ⟨b, 3, none⟩ = false := free_of hr7 3; have t3 : ((w5.setCell ⟨b, 1, none⟩ (.slice A5 64 c5)).setCell ⟨b, 2, none⟩ (.bool true)).cell? ⟨b, 3, none⟩ = some (.int .i64 f.lsn) := (by rw [cell_of hr7]; rfl); clear hown5 hf5 hr5 hr6 hr7)
      go_ret
      exact put_done HT.out HFI.out HBI.out HDV.out HMD.out HF2.out HF5.out HBNE.out HR5.out HO5.out HA1.out.len HM.out (by rw [← HL'.out]; exact HLW.out)
    · rw [hd] at f2
      have HLW : Hid (l' = lsn) := Lib.hid (by rw [HL'.out, if_neg (by rw [hd]; decide)])
      clear hd
      go_wp2_with fail
      refine (clone17_c A nx cx xs HA1.out (by omega)).mono ?_
      rintro e w2 ⟨A', c', rfl, hc1, hc3, hc2, hf2⟩
      have HC2 := Lib.hid hc2
      have HC3 := Lib.hid hc3
      have HF2 := Lib.hid hf2
      have hxl : (xs.map (Value.int .u8)).length = nx := by rw [List.length_map]; exact HA1.out.len
      have HXL := Lib.hid hxl
      have HRB := Lib.hid (hf2.keep0 HRO.out)
      have hbne : ∀ k, (Value.slice A' nx c').ownBlock = some k → w1.heap.size ≤ k := fun k hk => own_base hc3 k hk
      have HBNE := Lib.hid hbne
      clear hc1 hc2 hc3 hf2 hxl hbne
      go_wp2_with (at_builtin; refine wpList_append_zeros rfl (.tmp 43) (.tmp 46) 33 3 5 1 (.int .u8 0) .i64 rfl und_bytes und_int info_u8 rfl rfl w1.heap.size (.slice A' nx c') (xs.map (Value.int .u8)) .i64 m (by rfl) (by rfl) (by rw [HXL.out]; exact HC3.out) HF2.out.size (by rw [HXL.out]; omega) (by rw [HXL.out]; omega) ?_; intro v5 w5 hown5 hf5; rw [HXL.out, HM.out] at hown5; obtain ⟨A5, c5, hv5, -, -, -, -⟩ := ValsAt.of_own hown5; subst hv5; have HO5 := Lib.hid hown5; have HF5 := Lib.hid hf5; have hr5 := hf5.keep HRB.out (fun e => by have h5 := HBNE.out _ e; have h6 := HBW.out; omega); have HR5 := Lib.hid hr5; have s1 : w5.frozen? ⟨b, 1, none⟩ = false := free_of hr5 1; have t1 : w5.cell? ⟨b, 1, none⟩ = some (.slice Ao 64 co) := (by rw [cell_of hr5]; rfl); have hr6 := set_cell hr5 1 (.slice A5 64 c5); have s2 : (w5.setCell ⟨b, 1, none⟩ (.slice A5 64 c5)).frozen? ⟨b, 2, none⟩ = false := free_of hr6 2; have t2 : (w5.setCell ⟨b, 1, none⟩ (.slice A5 64 c5)).cell? ⟨b, 2, none⟩ = some (.bool f.dirty) := (by rw [cell_of hr6]; rfl); have hr7 := set_cell hr6 2 (.bool true); have s3 : ((w5.setCell ⟨b, 1, none⟩ (.slice A5 64 c5)).setCell ⟨b, 2, none⟩ (.bool true)).frozen? ⟨b, 3, none⟩ = false := free_of hr7 3; have t3 : ((w5.setCell ⟨b, 1, none⟩ (.slice A5 64 c5)).setCell ⟨b, 2, none⟩ (.bool true)).cell? ⟨b, 3, none⟩ = some (.int .i64 f.lsn) := (by rw [cell_of hr7]; rfl); clear hown5 hf5 hr5 hr6 hr7)
      go_ret
      exact put_done HT.out HFI.out HBI.out HDV.out HMD.out HF2.out HF5.out HBNE.out HR5.out HO5.out HA1.out.len HM.out (by rw [← HL'.out]; exact HLW.out)
end
end Go.Proofs.Ytjfdfjenodianaa
