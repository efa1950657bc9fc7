/-
  A pool of sectors as plain data, where it lies in memory; find, gone, may. Conditions: none.
-/
import Derived.Test.YtjfdfjenodianaaDevD
import Derived.Test.YtjfdfjenodianaaShelf
import Derived.Test.YtjfdfjenodianaaTurn2
import Derived.Test.YtjfdfjenodianaaAppZ
set_option linter.unusedVariables false
set_option linter.unusedSimpArgs false
namespace Go.Proofs.Ytjfdfjenodianaa
open Go.RowKit
structure Fm where
  at_ : Int
  b : List Int
  dirty : Bool
  lsn : Int
  pins : Int
  used : Bool
structure Pl where
  fs : List Fm
  room : Int
  hand : Nat
  safe : Int
  reads : Int
/-- Where a sector's frame is. -/
def Pl.idx (P : Pl) (a : Int) : Option Nat := P.fs.findIdx? fun f => f.at_ == a
def Pl.may (P : Pl) (f : Fm) : Bool := decide (f.lsn ≤ P.safe)
def Pl.goes (P : Pl) (f : Fm) : Bool := decide (f.pins = 0) && (!f.dirty || P.may f)
def Pl.turn (P : Pl) : Pl :=
  match P.fs[P.hand]? with
  | none => P
  | some f => { P with hand := (P.hand + 1) % P.fs.length, fs := P.fs.set P.hand { f with used := f.used && !P.goes f } }
def Pl.stop (P : Pl) : Bool :=
  match P.fs[P.hand]? with
  | none => false
  | some f => P.goes f && !f.used
def Pl.round : Nat → Pl → Option Nat × Pl
  | 0, P => (none, P)
  | n + 1, P => if P.stop = true then (some P.hand, P.turn) else Pl.round n P.turn
def idxInt : Option Nat → Int
  | none => -1
  | some i => (i : Int)
/-- A slice that is read, of a capacity. -/
structure Byt (w : World) (A : Option Addr) (c : Nat) (xs : List Int) : Prop where
  at_ : BytesAt w A xs.length xs
  cap : xs.length ≤ c
  big : c ≤ 9223372036854775807
theorem Byt.keep0 {w w' : World} {A : Option Addr} {c : Nat} {xs : List Int} (h : Byt w A c xs) (hf : Fr F0 w w') : Byt w' A c xs := ⟨h.at_.keep0 hf, h.cap, h.big⟩
theorem Byt.keep {S : Nat → Prop} {w w' : World} {A : Option Addr} {c : Nat} {xs : List Int} (h : Byt w A c xs) (hf : Fr S w w') (hA : 0 < xs.length → ∀ ad, A = some ad → ¬ S ad.block) : Byt w' A c xs := ⟨h.at_.keep hf hA, h.cap, h.big⟩
/-- Bytes do not lie in a block of other cells. -/
theorem Byt.ne {w : World} {ad : Addr} {c k : Nat} {xs : List Int} {cs : List Value} {t : TypeId} (hb : Byt w (some ad) c xs) (hp : 0 < xs.length) (hk : w.heap[k]? = some (.cells cs.toArray t (0, 0))) (hcs : ∀ x, Value.int .u8 x ∉ cs) : ad.block ≠ k := by
  intro e
  obtain ⟨ad', e', hc⟩ := hb.at_.cells hp
  cases e'
  have h0 := hc 0 (.int .u8 (xs[0]'hp)) (by simp [hp])
  obtain ⟨b9, o9, s9⟩ := ad
  have hb' : b9 = k := e
  subst hb'
  have h1 : w.cell? ((⟨b9, o9, s9⟩ : Addr).add 0) = some (.int .u8 (xs[0]'hp)) := h0
  have hs9 : s9 = none := World.cell?_spot h1
  subst hs9
  have h2 : w.cell? ⟨b9, o9 + 0, none⟩ = some (.int .u8 (xs[0]'hp)) := h1
  rw [cell_of hk, List.getElem?_toArray] at h2
  exact hcs _ (List.mem_of_getElem? h2)
def Fm.cells (f : Fm) (A : Option Addr) (c : Nat) : List Value := [.int .i64 f.at_, .slice A 64 c, .bool f.dirty, .int .i64 f.lsn, .int .i64 f.pins, .bool f.used]
/-- A frame in memory, its blocks all of M. -/
structure FmAt (w : World) (M : Nat → Prop) (fb : Nat) (f : Fm) : Prop where
  ex : ∃ A c, w.heap[fb]? = some (.cells (f.cells A c).toArray 61 (0, 0)) ∧ Byt w A c f.b ∧ ∀ ad, A = some ad → M ad.block
  len : f.b.length = 64
theorem FmAt.keep {S M : Nat → Prop} {w w' : World} {fb : Nat} {f : Fm} (h : FmAt w M fb f) (hf : Fr S w w') (h1 : ¬ S fb) (h2 : ∀ k, S k → ¬ M k ∨ (∃ cs : List Value, ∃ t, w.heap[k]? = some (.cells cs.toArray t (0, 0)) ∧ ∀ x, Value.int .u8 x ∉ cs)) : FmAt w' M fb f := by
  obtain ⟨A, c, e1, e2, e3⟩ := h.ex
  refine ⟨⟨A, c, hf.keep e1 h1, e2.keep hf (fun hp ad e hs => ?_), e3⟩, h.len⟩
  subst e
  rcases h2 _ hs with h | ⟨cs, t, h, h'⟩
  · exact h (e3 _ rfl)
  · exact e2.ne hp h h' rfl
def Pl.cells (P : Pl) (db : Nat) (v : Value) : List Value := [.pointer (some ⟨db, 0, none⟩), v, .int .i64 P.room, .int .i64 (P.hand : Int), .int .i64 P.safe, .int .i64 P.reads]
abbrev ptrs (fbs : List Nat) : List Value := fbs.map fun (b : Nat) => Value.pointer (some ⟨b, 0, none⟩)
/-- Blocks of a pool's, but not its row of frames. -/
abbrev Dat (M : Nat → Prop) (v : Value) (k : Nat) : Prop := M k ∧ v.ownBlock ≠ some k
/-- A pool in memory, all its blocks of M: the frames' slice, their blocks. -/
structure PoolAt (w : World) (pb db : Nat) (M : Nat → Prop) (P : Pl) (v : Value) (fbs : List Nat) : Prop where
  row : w.heap[pb]? = some (.cells (P.cells db v).toArray 56 (0, 0))
  own : w.ownsRow 0 57 1 v P.fs.length (ptrs fbs)
  len : fbs.length = P.fs.length
  fr : ∀ (i : Nat) (f : Fm) (b : Nat), P.fs[i]? = some f → fbs[i]? = some b → FmAt w (Dat M v) b f
  nd : fbs.Nodup
  pn : pb ∉ fbs
  vn : ∀ k, v.ownBlock = some k → k ≠ pb ∧ k ∉ fbs ∧ M k
  mp : M pb
  mf : ∀ b ∈ fbs, M b
  mlt : ∀ k, M k → k < w.heap.size
theorem PoolAt.keep {S M : Nat → Prop} {w w' : World} {pb db : Nat} {P : Pl} {v : Value} {fbs : List Nat} (h : PoolAt w pb db M P v fbs) (hf : Fr S w w') (hS : ∀ k, S k → ¬ M k) : PoolAt w' pb db M P v fbs :=
  ⟨hf.keep h.row (fun hs => hS _ hs h.mp), own_keep h.own hf (fun k hk hs => hS _ hs (h.vn k hk).2.2), h.len, fun i f b hi hb => (h.fr i f b hi hb).keep hf (fun hs => hS _ hs (h.mf b (List.mem_of_getElem? hb))) (fun k hs => .inl (fun hn => hS k hs hn.1)), h.nd, h.pn, h.vn, h.mp, h.mf, fun k hk => Nat.lt_of_lt_of_le (h.mlt k hk) hf.size⟩
theorem PoolAt.keep0 {M : Nat → Prop} {w w' : World} {pb db : Nat} {P : Pl} {v : Value} {fbs : List Nat} (h : PoolAt w pb db M P v fbs) (hf : Fr F0 w w') : PoolAt w' pb db M P v fbs := h.keep hf (fun _ h => h.elim)
theorem PoolAt.cells {M : Nat → Prop} {w : World} {pb db : Nat} {P : Pl} {v : Value} {fbs : List Nat} (h : PoolAt w pb db M P v fbs) : w.cell? ⟨pb, 0, none⟩ = some (.pointer (some ⟨db, 0, none⟩)) ∧ w.cell? ⟨pb, 1, none⟩ = some v ∧ w.cell? ⟨pb, 2, none⟩ = some (.int .i64 P.room) ∧ w.cell? ⟨pb, 3, none⟩ = some (.int .i64 (P.hand : Int)) ∧ w.cell? ⟨pb, 4, none⟩ = some (.int .i64 P.safe) ∧ w.cell? ⟨pb, 5, none⟩ = some (.int .i64 P.reads) ∧
    w.frozen? ⟨pb, 1, none⟩ = false ∧ w.frozen? ⟨pb, 3, none⟩ = false ∧ w.frozen? ⟨pb, 4, none⟩ = false ∧ w.frozen? ⟨pb, 5, none⟩ = false := by
  have hr := h.row
  refine ⟨by rw [cell_of hr]; rfl, by rw [cell_of hr]; rfl, by rw [cell_of hr]; rfl, by rw [cell_of hr]; rfl, by rw [cell_of hr]; rfl, by rw [cell_of hr]; rfl, free_of hr _, free_of hr _, free_of hr _, free_of hr _⟩
theorem FmAt.cells {M : Nat → Prop} {w : World} {fb : Nat} {f : Fm} (h : FmAt w M fb f) : w.cell? ⟨fb, 0, none⟩ = some (.int .i64 f.at_) ∧ w.cell? ⟨fb, 2, none⟩ = some (.bool f.dirty) ∧ w.cell? ⟨fb, 3, none⟩ = some (.int .i64 f.lsn) ∧ w.cell? ⟨fb, 4, none⟩ = some (.int .i64 f.pins) ∧ w.cell? ⟨fb, 5, none⟩ = some (.bool f.used) ∧
    w.frozen? ⟨fb, 1, none⟩ = false ∧ w.frozen? ⟨fb, 2, none⟩ = false ∧ w.frozen? ⟨fb, 3, none⟩ = false ∧ w.frozen? ⟨fb, 4, none⟩ = false ∧ w.frozen? ⟨fb, 5, none⟩ = false ∧ ∃ A c, w.cell? ⟨fb, 1, none⟩ = some (.slice A 64 c) ∧ Byt w A c f.b ∧ ∀ ad, A = some ad → M ad.block := by
  obtain ⟨A, c, hr, e2, e3⟩ := h.ex
  refine ⟨by rw [cell_of hr]; rfl, by rw [cell_of hr]; rfl, by rw [cell_of hr]; rfl, by rw [cell_of hr]; rfl, by rw [cell_of hr]; rfl, free_of hr _, free_of hr _, free_of hr _, free_of hr _, free_of hr _, A, c, by rw [cell_of hr]; rfl, e2, e3⟩
section
variable {w : World} {M : Nat → Prop} {pb db lb mb : Nat} {P : Pl} {v : Value} {fbs : List Nat} {D : Dev}
set_option maxRecDepth 100000 in
theorem find1_c (fb bx : Nat) (f : Fm) (a : Int) (h : FmAt w M fb f) (hx : w.cell? ⟨bx, 0, none⟩ = some (.int .i64 a)) : Calls Try.prog 40 #[.pointer (some ⟨fb, 0, none⟩), .pointer (some ⟨bx, 0, none⟩)] w fun e w' => e = .returned (.bool (f.at_ == a)) ∧ Fr F0 w w' := by
  have h0 := h.cells.1
  go_enter Try.func40, Try.ntmps40
  go_wp2_with fail
  go_still (by kernel_rfl)
  go_wp2_with fail
  go_ret
  exact ⟨rfl, (Fr.refl _ _).drew⟩
set_option maxRecDepth 100000 in
set_option maxHeartbeats 1000000 in
theorem index17_c (h : PoolAt w pb db M P v fbs) (bx : Nat) (a : Int) (hx : w.cell? ⟨bx, 0, none⟩ = some (.int .i64 a)) (hn : P.fs.length ≤ 64) :
    Calls Try.prog 39 #[v, .func (.func 40) #[] #[.pointer (some ⟨bx, 0, none⟩)]] w fun e w' => e = .returned (.int .i64 (idxInt (P.idx a))) ∧ Fr F0 w w' := by
  have HP := Lib.hid h
  have HX := Lib.hid hx
  obtain ⟨A, c, rfl, hv, -, -, -⟩ := ValsAt.of_own h.own
  have HV := Lib.hid hv
  obtain ⟨n, hnn⟩ : ∃ n, n = P.fs.length := ⟨_, rfl⟩
  have HN := Lib.hid hnn
  rw [← hnn] at hn
  rw [← hnn]
  have n0 : (0 : Int) ≤ (n : Int) := Int.natCast_nonneg _
  clear h hx hv hnn
  go_enter Try.func39, Try.ntmps39
  go_wp2_with fail
  go_loopg [8] n (fun kq x8 wr => ∃ j : Nat, j ≤ n ∧ kq = n - j ∧ x8 = .int .i64 (j : Int) ∧ Fr F0 w wr ∧ ∀ i f, i < j → P.fs[i]? = some f → f.at_ ≠ a)
  case atStart => exact ⟨0, by omega, rfl, rfl, Fr.refl _ _, fun i f h => by omega⟩
  case round =>
    obtain ⟨j, hj, rfl, rfl, hF, hnone⟩ := hrel
    have HF := Lib.hid hF
    have HNO := Lib.hid hnone
    clear hF hnone
    by_cases hlt : j < n
    · have j0 : (0 : Int) ≤ (j : Int) := Int.natCast_nonneg _
      have j1 : (j : Int) < (n : Int) := by omega
      obtain ⟨f, hf⟩ : ∃ f, P.fs[j]? = some f := ⟨P.fs[j]'(by rw [← HN.out]; exact hlt), List.getElem?_eq_getElem _⟩
      obtain ⟨b, hb⟩ : ∃ b, fbs[j]? = some b := ⟨fbs[j]'(by rw [HP.out.len, ← HN.out]; exact hlt), List.getElem?_eq_getElem _⟩
      obtain ⟨ad, rfl, hc⟩ := (HV.out.keep0 HF.out).cells (by rw [List.length_map, HP.out.len, ← HN.out]; omega)
      have gx : wr.cell? (ad.add j) = some (.pointer (some ⟨b, 0, none⟩)) := hc j _ (by rw [List.getElem?_map, hb]; rfl)
      have HFM := Lib.hid ((HP.out.keep0 HF.out).fr j f b hf hb)
      have HXR : Hid (wr.cell? ⟨bx, 0, none⟩ = some (.int .i64 a)) := Lib.hid ((World.cell?_of_block (w := w) (HF.out.block _ (World.block_lt_of_cell? w _ HX.out) (fun h => h))).trans HX.out)
      have HFJ := Lib.hid hf
      clear hc hf hb
      by_cases hat : f.at_ = a
      · go_wp2_with fail
        refine (find1_c b bx f a HFM.out HXR.out).mono ?_
        rintro e w4 ⟨rfl, hf4⟩
        have hq : (f.at_ == a) = true := by simp [hat]
        rw [hq]
        have HF4 := Lib.hid (HF.out.then0 hf4)
        clear hf4
        go_wp2_with fail
        go_ret
        refine ⟨?_, HF4.out⟩
        have hidx : P.idx a = some j := by
          unfold Pl.idx
          rw [List.findIdx?_eq_some_iff_getElem]
          have hl : j < P.fs.length := (List.getElem?_eq_some_iff.1 HFJ.out).1
          refine ⟨hl, ?_, fun i hi => ?_⟩
          · have := (List.getElem?_eq_some_iff.1 HFJ.out).2
            rw [this]; simp [hat]
          · have := HNO.out i _ hi (List.getElem?_eq_getElem (by omega))
            simpa using this
        rw [hidx]
        rfl
      · go_wp2_with fail
        refine (find1_c b bx f a HFM.out HXR.out).mono ?_
        rintro e w4 ⟨rfl, hf4⟩
        have hq : (f.at_ == a) = false := by simp [hat]
        rw [hq]
        have HF4 := Lib.hid (HF.out.then0 hf4)
        clear hf4
        go_wp2_with fail
        go_roundg (n - (j + 1))
        case measure => omega
        case rel =>
          refine ⟨j + 1, by omega, rfl, by first | rfl | (go_num), HF4.out, fun i f' hi hf' => ?_⟩
          by_cases hij : i < j
          · exact HNO.out i f' hij hf'
          · have hij' : i = j := by omega
            subst hij'
            rw [HFJ.out] at hf'
            cases hf'
            exact hat
    · have hjn : j = n := by omega
      subst hjn
      go_wp2_with fail
      go_ret
      refine ⟨?_, HF.out⟩
      have hidx : P.idx a = none := by
        unfold Pl.idx
        rw [List.findIdx?_eq_none_iff]
        intro f hf
        obtain ⟨i, hi⟩ := List.mem_iff_getElem?.1 hf
        have := HNO.out i f (by rw [HN.out]; exact (List.getElem?_eq_some_iff.1 hi).1) hi
        simpa using this
      rw [hidx]
      rfl
set_option maxRecDepth 100000 in
theorem pgone_c (h : PoolAt w pb db M P v fbs) (hD : DevAt Try.prog 3 w db lb mb D) : Calls Try.prog 36 #[.pointer (some ⟨pb, 0, none⟩)] w fun e w' => e = .returned (.bool D.gone) ∧ w = w' := by
  obtain ⟨c0, c1, c2, c3, c4, c5, z1, z3, z4, z5⟩ := h.cells
  have HD := Lib.hid hD
  clear hD h
  go_enter Try.func36, Try.ntmps36
  go_wp2_with fail
  refine (gone_c HD.out).mono ?_
  rintro e w1 ⟨rfl, rfl⟩
  go_wp2_with fail
  go_ret
  exact ⟨rfl, rfl⟩
set_option maxRecDepth 100000 in
theorem pgone_nil : Calls Try.prog 36 #[.pointer none] w fun e w' => e = .returned (.bool true) ∧ w = w' := by
  go_enter Try.func36, Try.ntmps36
  go_wp2_with fail
  go_ret
  exact ⟨rfl, rfl⟩
set_option maxRecDepth 100000 in
theorem pmay_c {N : Nat → Prop} (h : PoolAt w pb db M P v fbs) (fb : Nat) (f : Fm) (hf : FmAt w N fb f) : Calls Try.prog 29 #[.pointer (some ⟨pb, 0, none⟩), .pointer (some ⟨fb, 0, none⟩)] w fun e w' => e = .returned (.bool (P.may f)) ∧ Fr F0 w w' := by
  obtain ⟨c0, c1, c2, c3, c4, c5, z1, z3, z4, z5⟩ := h.cells
  obtain ⟨f0, f2, f3, f4, f5, -⟩ := hf.cells
  go_enter Try.func29, Try.ntmps29
  go_wp2_with fail
  go_still (by kernel_rfl)
  go_wp2_with fail
  go_ret
  exact ⟨rfl, (Fr.refl _ _).drew⟩
end
end Go.Proofs.Ytjfdfjenodianaa
