/-
  A pool's hold as one plain function; New, Get, Pin, Unpin, Safe, Reads. Conditions: none.
-/
import Derived.Test.YtjfdfjenodianaaK17e
set_option linter.unusedVariables false
set_option linter.unusedSimpArgs false
namespace Go.Proofs.Ytjfdfjenodianaa
open Go.RowKit
def newFm (a : Nat) (b : List Int) : Fm := ⟨(a : Int), b, false, 0, 0, true⟩
def Fm.zero : Fm := ⟨0, [], false, 0, 0, false⟩
/-- Where a sector is held then, the pool and the device. -/
def Pl.hold (P : Pl) (D : Dev) (a : Nat) : Option Nat × Pl × Dev :=
  match P.idx (a : Int) with
  | some i => (some i, { P with fs := P.fs.set i { P.fs.getD i Fm.zero with used := true } }, D)
  | none =>
    if (P.fs.length : Int) < P.room then (some P.fs.length, { P with fs := P.fs ++ [newFm a (D.at a)], reads := P.reads + 1 }, D)
    else match P.round (2 * P.fs.length) with
      | (none, Q) => (none, Q, D)
      | (some i, Q) =>
        let D' := if (Q.fs.getD i Fm.zero).dirty = true then D.write (Q.fs.getD i Fm.zero).at_ (Q.fs.getD i Fm.zero).b else D
        (some i, { Q with fs := Q.fs.set i (newFm a (D'.at a)), reads := P.reads + 1 }, D')
def holdV (fbs : List Nat) : Option Nat → Value
  | none => .tuple #[.pointer none, .int .i64 5]
  | some i => .tuple #[.pointer (some ⟨fbs.getD i 0, 0, none⟩), .int .i64 0]
theorem getD_of {α : Type} {l : List α} {i : Nat} {x d : α} (h : l[i]? = some x) : l.getD i d = x := by rw [List.getD_eq_getElem?_getD, h]; rfl
theorem Pl.round_idx (P : Pl) {k i : Nat} (h : (P.round k).1 = some i) : i < (P.round k).2.fs.length := by
  rw [Pl.round_fs]
  exact Pl.round_lt k P i h
theorem hold_lt {P Q : Pl} {D D' : Dev} {a i : Nat} (h : P.hold D a = (some i, Q, D')) : i < Q.fs.length := by
  unfold Pl.hold at h
  split at h
  · rename_i j hj
    simp only [Prod.mk.injEq, Option.some.injEq] at h
    obtain ⟨rfl, rfl, -⟩ := h
    unfold Pl.idx at hj
    rw [List.findIdx?_eq_some_iff_getElem] at hj
    simpa using hj.1
  · split at h
    · simp only [Prod.mk.injEq, Option.some.injEq] at h
      obtain ⟨rfl, rfl, -⟩ := h
      simp
    · split at h
      · cases h
      · rename_i j Q' hj
        simp only [Prod.mk.injEq, Option.some.injEq] at h
        obtain ⟨rfl, rfl, -⟩ := h
        have h5 : (P.round (2 * P.fs.length)).1 = some j := by rw [hj]
        have h6 := Pl.round_idx P h5
        rw [hj] at h6
        simpa using h6
section
variable {w : World} {M : Nat → Prop} {pb db lb mb : Nat} {P : Pl} {v : Value} {fbs : List Nat} {D : Dev}
/-- What an operation on a pool leaves. -/
structure PoolTo (w w' : World) (M M' : Nat → Prop) (pb db lb mb : Nat) (P' : Pl) (D' : Dev) (v' : Value) (fbs' : List Nat) : Prop where
  sub : ∀ k, M' k → M k ∨ w.heap.size ≤ k
  pool : PoolAt w' pb db M' P' v' fbs'
  dev : DevAt Try.prog 3 w' db lb mb D'
  fr : Fr (fun k => M k ∨ Dv db lb mb k) w w'
theorem hold_to {n : Nat} (h : PoolAt w pb db M P v fbs) (hD : DevAt Try.prog 3 w db lb mb D) (hg : GoodD D n) (ok : PoolOk P n) (hMD : ∀ k, Dv db lb mb k → ¬ M k) (a : Nat) (a1 : a < n) (r0 : 0 ≤ P.reads) (r1 : P.reads ≤ 1000000) :
    Calls Try.prog 25 #[.pointer (some ⟨pb, 0, none⟩), .int .i64 (a : Int)] w fun e w' => ∃ v' fbs', e = .returned (holdV fbs' (P.hold D a).1) ∧ PoolTo w w' M (More M w w') pb db lb mb (P.hold D a).2.1 (P.hold D a).2.2 v' fbs' := by
  refine (hold_c h hD hg ok hMD a a1 r0 r1).mono ?_
  intro e w' hr
  cases hr with
  | hit i f b hx hi hb he hp hd hf =>
    have hh : P.hold D a = (some i, { P with fs := P.fs.set i { f with used := true } }, D) := by unfold Pl.hold; rw [hx]; simp only [getD_of hi]
    rw [hh]
    exact ⟨v, fbs, by rw [he]; show _ = Ending.returned (.tuple #[.pointer (some ⟨fbs.getD i 0, 0, none⟩), .int .i64 0]); rw [getD_of hb], fun k hk => hk.imp id (fun h => h.1), hp, hd, hf⟩
  | full hx hr ho he hp hd hf =>
    have hh : P.hold D a = (none, (P.round (2 * P.fs.length)).2, D) := by
      unfold Pl.hold
      rw [hx]
      simp only
      rw [if_neg hr]
      have : P.round (2 * P.fs.length) = (none, (P.round (2 * P.fs.length)).2) := by rw [← ho]
      rw [this]
    rw [hh]
    exact ⟨v, fbs, he, fun k hk => hk.imp id (fun h => h.1), hp, hd, hf⟩
  | new v' nb hx hr he hp hd hf =>
    have hh : P.hold D a = (some P.fs.length, { P with fs := P.fs ++ [newFm a (D.at a)], reads := P.reads + 1 }, D) := by
      unfold Pl.hold
      rw [hx]
      simp only
      rw [if_pos hr]
    rw [hh]
    rw [Int.toNat_natCast] at hp
    refine ⟨v', fbs ++ [nb], ?_, fun k hk => hk.imp id (fun h => h.1), hp, hd, hf⟩
    rw [he]
    show _ = Ending.returned (.tuple #[.pointer (some ⟨(fbs ++ [nb]).getD P.fs.length 0, 0, none⟩), .int .i64 0])
    have : (fbs ++ [nb]).getD P.fs.length 0 = nb := by
      rw [List.getD_eq_getElem?_getD, ← h.len, List.getElem?_append_right (Nat.le_refl _), Nat.sub_self]
      rfl
    rw [this]
  | old i f b D' hD' hx hr ho hi hb he hp hd hf =>
    have hh : P.hold D a = (some i, { (P.round (2 * P.fs.length)).2 with fs := (P.round (2 * P.fs.length)).2.fs.set i (newFm a (D'.at a)), reads := P.reads + 1 }, D') := by
      unfold Pl.hold
      rw [hx]
      simp only
      rw [if_neg hr]
      have : P.round (2 * P.fs.length) = (some i, (P.round (2 * P.fs.length)).2) := by rw [← ho]
      rw [this]
      simp only [getD_of hi, ← hD']
    rw [hh]
    rw [Int.toNat_natCast] at hp
    exact ⟨v, fbs, by rw [he]; show _ = Ending.returned (.tuple #[.pointer (some ⟨fbs.getD i 0, 0, none⟩), .int .i64 0]); rw [getD_of hb], fun k hk => hk.imp id (fun h => h.1), hp, hd, hf⟩
set_option maxRecDepth 100000 in
theorem hold_nil (a : Int) : Calls Try.prog 25 #[.pointer none, .int .i64 a] w fun e w' => e = .returned (.tuple #[.pointer none, .int .i64 11]) ∧ w = w' := by
  go_enter Try.func25, Try.ntmps25
  go_wp2_with fail
  refine (pgone_nil).mono ?_
  rintro e w1 ⟨rfl, rfl⟩
  go_wp2_with fail
  go_ret2
  exact ⟨rfl, rfl⟩
set_option maxRecDepth 100000 in
/-- A new pool. -/
theorem pnew_c (hD : DevAt Try.prog 3 w db lb mb D) (hg : D.gone = false) (k : Int) (k0 : 1 ≤ k) (k1 : k ≤ 64) :
    Calls Try.prog 11 #[.pointer (some ⟨db, 0, none⟩), .int .i64 k] w fun e w' => ∃ pb, e = .returned (.tuple #[.pointer (some ⟨pb, 0, none⟩), .int .i64 0]) ∧ w.heap.size ≤ pb ∧ PoolAt w' pb db (fun x => x = pb) ⟨[], k, 0, 0, 0⟩ (.slice none 0 0) [] ∧ Fr F0 w w' := by
  have HD := Lib.hid hD
  have HG := Lib.hid hg
  have b0 : ¬ k < 1 := by omega
  have b1 : ¬ 64 < k := by omega
  clear hD hg
  go_enter Try.func11, Try.ntmps11
  go_wp2_with fail
  refine (gone_c HD.out).mono ?_
  rintro e w1 ⟨rfl, rfl⟩
  rw [HG.out]
  go_wp2_with fail
  go_ret2
  refine ⟨_, rfl, Nat.le_refl _, ⟨alloc_at rfl _, own_nil _ _ _ _, rfl, fun i f b hi => by simp at hi, by simp, by simp, fun k hk => by simp [Value.ownBlock] at hk, rfl, fun b hb => by simp at hb, fun k hk => by rw [hk]; simp⟩, (Fr.refl _ _).alloc _⟩
theorem clone17_c (A : Option Addr) (n c : Nat) (xs : List Int) (hA : BytesAt w A n xs) (hn : n ≤ 1000000) :
    Calls Try.prog 26 #[.slice A n c] w fun e w' => ∃ A' c', e = .returned (.slice A' n c') ∧ Byt w' A' c' xs ∧ w'.ownsRow w.heap.size 5 1 (.slice A' n c') n (xs.map (Value.int .u8)) ∧ (∀ ad, A' = some ad → w.heap.size ≤ ad.block) ∧ Fr F0 w w' := by
  have hl := hA.len
  cases A with
  | none =>
    refine (Try.bytes_Clone_nil n c w).mono ?_
    rintro e w' ⟨rfl, rfl⟩
    have h0 : n = 0 := by
      rcases Nat.eq_zero_or_pos n with h | h
      · exact h
      · obtain ⟨ad, e, _⟩ := hA.cells h
        cases e
    subst h0
    obtain rfl : xs = [] := List.eq_nil_of_length_eq_zero hl
    exact ⟨none, 0, rfl, ⟨⟨rfl, fun h => absurd h (by decide)⟩, Nat.le_refl _, by decide⟩, own_nil _ _ _ _, (fun ad h => by cases h), Fr.refl _ _⟩
  | some ad =>
    refine (Try.bytes_Clone_at ad n c xs w hl (by omega) (fun i hi => ?_)).mono ?_
    · obtain ⟨ad', e', hc⟩ := hA.cells (by omega)
      cases e'
      exact hc i _ (by rw [List.getElem?_map, List.getElem?_eq_getElem (by omega)]; simp [List.getD_eq_getElem?_getD, List.getElem?_eq_getElem (show i < xs.length by omega)])
    · rintro e w' ⟨v', rfl, hown, -, hbel⟩
      have hf := Fr.of_below hbel
      have hown' := hown
      rcases hown.2 with ⟨rfl, h0⟩ | ⟨g, cap, cur, rfl, hb, hh, h1, h2, h3, h4⟩
      · subst h0
        obtain rfl : xs = [] := List.eq_nil_of_length_eq_zero hl
        exact ⟨none, 0, rfl, ⟨⟨rfl, fun h => absurd h (by decide)⟩, Nat.le_refl _, by decide⟩, hown', (fun ad h => by cases h), hf⟩
      · refine ⟨some ⟨g, 0, none⟩, cap, rfl, ⟨⟨rfl, fun hp => ⟨_, rfl, fun j u hj => hown'.cells rfl j u hj⟩⟩, by omega, by simp only [maxLen] at h2; omega⟩, hown', (fun ad h => by cases h; exact hb), hf⟩
/-- What Get leaves. -/
inductive GetRet (w w' : World) (e : Ending) (M : Nat → Prop) (pb db lb mb : Nat) (H : Option Nat × Pl × Dev) : Prop
  | no (M' : Nat → Prop) (v' : Value) (fbs' : List Nat) (ht : PoolTo w w' M M' pb db lb mb H.2.1 H.2.2 v' fbs') (ho : H.1 = none) (he : e = .returned (.tuple #[.slice none 0 0, .int .i64 5])) : GetRet w w' e M pb db lb mb H
  | yes (M' : Nat → Prop) (v' : Value) (fbs' : List Nat) (ht : PoolTo w w' M M' pb db lb mb H.2.1 H.2.2 v' fbs') (i : Nat) (f : Fm) (A : Option Addr) (c : Nat) (ho : H.1 = some i) (hf : H.2.1.fs[i]? = some f) (he : e = .returned (.tuple #[.slice A 64 c, .int .i64 0])) (hb : Byt w' A c f.b) (hl : f.b.length = 64) (hA : ∀ ad, A = some ad → w.heap.size ≤ ad.block ∧ ¬ M' ad.block) : GetRet w w' e M pb db lb mb H
set_option maxRecDepth 100000 in
set_option maxHeartbeats 1000000 in
theorem pget_c {n : Nat} (h : PoolAt w pb db M P v fbs) (hD : DevAt Try.prog 3 w db lb mb D) (hg : GoodD D n) (ok : PoolOk P n) (hMD : ∀ k, Dv db lb mb k → ¬ M k) (a : Nat) (a1 : a < n) (r0 : 0 ≤ P.reads) (r1 : P.reads ≤ 1000000) :
    Calls Try.prog 15 #[.pointer (some ⟨pb, 0, none⟩), .int .i64 (a : Int)] w fun e w' => GetRet w w' e M pb db lb mb (P.hold D a) := by
  have HP := Lib.hid h
  have HDV := Lib.hid hD
  have HG := Lib.hid hg
  have OK := Lib.hid ok
  have HMD := Lib.hid hMD
  clear h hD hg ok hMD
  obtain ⟨H, hH⟩ : ∃ H, H = P.hold D a := ⟨_, rfl⟩
  rw [← hH]
  have HH := Lib.hid hH
  clear hH
  go_enter Try.func15, Try.ntmps15
  go_wp2_with fail
  refine (hold_to HP.out HDV.out HG.out OK.out HMD.out a a1 r0 r1).mono ?_
  rintro e w1 ⟨v', fbs', rfl, ht⟩
  rw [← HH.out] at ht ⊢
  obtain ⟨o, Q, D'⟩ := H
  have HT := Lib.hid ht
  clear ht
  cases o with
  | none =>
    have hv : holdV fbs' none = .tuple #[.pointer none, .int .i64 5] := rfl
    rw [hv]
    go_wp2_with fail
    go_ret2
    exact .no _ v' fbs' HT.out rfl rfl
  | some i =>
    have hi : i < Q.fs.length := hold_lt HH.out.symm
    obtain ⟨f, hf⟩ : ∃ f, Q.fs[i]? = some f := ⟨Q.fs[i]'hi, List.getElem?_eq_getElem _⟩
    obtain ⟨b, hb⟩ : ∃ b, fbs'[i]? = some b := ⟨fbs'[i]'(by rw [HT.out.pool.len]; exact hi), List.getElem?_eq_getElem _⟩
    have hv : holdV fbs' (some i) = .tuple #[.pointer (some ⟨b, 0, none⟩), .int .i64 0] := by
      show Value.tuple #[.pointer (some ⟨fbs'.getD i 0, 0, none⟩), .int .i64 0] = _
      rw [getD_of hb]
    rw [hv]
    have hfm := HT.out.pool.fr i f b hf hb
    obtain ⟨f0, f2, f3, f4, f5, y1, y2, y3, y4, y5, Ab, cb, f1, hby, hmb⟩ := hfm.cells
    have HBY : Hid (BytesAt w1 Ab 64 f.b) := Lib.hid (by have h5 := hby.at_; rw [hfm.len] at h5; exact h5)
    have HLN := Lib.hid hfm.len
    have HFI := Lib.hid hf
    clear hf hb hv hfm hby hmb f0 f2 f3 f4 f5 y1 y2 y3 y4 y5 hi
    go_wp2_with fail
    refine (clone17_c Ab 64 cb f.b HBY.out (by decide)).mono ?_
    rintro e w2 ⟨A', c', rfl, hc1, -, hc2, hf2⟩
    have HC1 := Lib.hid hc1
    have HC2 := Lib.hid hc2
    have HF2 := Lib.hid hf2
    clear hc1 hc2 hf2
    go_wp2_with fail
    go_ret2
    refine .yes (More M w w1) v' fbs' ⟨HT.out.sub, HT.out.pool.keep0 HF2.out, HT.out.dev.keep0 HF2.out, HT.out.fr.then0 HF2.out⟩ i f A' c' rfl HFI.out rfl HC1.out HLN.out (fun ad e => ⟨?_, ?_⟩)
    · have h5 := HC2.out ad e
      have h6 := HT.out.fr.size
      omega
    · intro hm
      have h5 := HC2.out ad e
      have h6 := HT.out.pool.mlt _ hm
      omega
end
end Go.Proofs.Ytjfdfjenodianaa
