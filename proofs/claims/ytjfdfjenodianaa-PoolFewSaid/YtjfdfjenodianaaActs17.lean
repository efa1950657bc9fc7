/-
  Layer 17: the things that are done, as an argument holds them; are they few? Conditions: none.
-/
import Derived.Test.YtjfdfjenodianaaL17c
import Derived.Test.YtjfdfjenodianaaArgAid
set_option linter.unusedVariables false
set_option linter.unusedSimpArgs false
namespace Go.Proofs.Ytjfdfjenodianaa
open Go.RowKit Go.Deep Go.ChangeShapes Go.WideShapes Go.ChangeAt

structure Act1 where
  what : Int
  pos : Int
  lsn : Int
  bA : Option Addr
  bn : Nat
  bc : Nat
  b : List Int
def Act1.cells (x : Act1) : List Value := [.int .i64 x.what, .int .i64 x.pos, .int .i64 x.lsn, .slice x.bA x.bn x.bc]
structure ActOk (w : World) (x : Act1) : Prop where
  b : BytesAt w x.bA x.bn x.b
  bb : ∀ y ∈ x.b, 0 ≤ y ∧ y ≤ 255
  bm : x.bn ≤ 9223372036854775807
  w1 : (Lit.int .i64 x.what).wf = true
  w2 : (Lit.int .i64 x.pos).wf = true
  w3 : (Lit.int .i64 x.lsn).wf = true
theorem ActOk.keep0 {w w' : World} {x : Act1} (h : ActOk w x) (hf : Fr F0 w w') : ActOk w' x := ⟨h.b.keep0 hf, h.bb, h.bm, h.w1, h.w2, h.w3⟩
structure ActsAt (w : World) (A : Option Addr) (n : Nat) (l : List Act1) : Prop where
  len : l.length = n
  cells : ValsAt w A (l.flatMap Act1.cells)
  ok : ∀ x ∈ l, ActOk w x
theorem ActsAt.keep0 {w w' : World} {A : Option Addr} {n : Nat} {l : List Act1} (h : ActsAt w A n l) (hf : Fr F0 w w') : ActsAt w' A n l := ⟨h.len, h.cells.keep0 hf, fun x hx => (h.ok x hx).keep0 hf⟩
theorem ActsAt.get {w : World} {A : Option Addr} {n : Nat} {l : List Act1} (h : ActsAt w A n l) {i : Nat} (hi : i < n) :
    ∃ b off x, A = some ⟨b, off, none⟩ ∧ l[i]? = some x ∧ ActOk w x ∧ w.cell? ⟨b, off + i * 4, none⟩ = some (.int .i64 x.what) ∧ w.cell? ⟨b, off + i * 4 + 1, none⟩ = some (.int .i64 x.pos) ∧
      w.cell? ⟨b, off + i * 4 + 2, none⟩ = some (.int .i64 x.lsn) ∧ w.cell? ⟨b, off + i * 4 + 3, none⟩ = some (.slice x.bA x.bn x.bc) := by
  have hl := h.len
  have hil : i < l.length := by omega
  have hx : l[i]? = some l[i] := List.getElem?_eq_getElem hil
  have hfl := cells_flat_len Act1.cells l (m := 4) (fun _ _ => rfl)
  obtain ⟨ad, e, hc⟩ := h.cells.cells (by rw [hfl]; omega)
  obtain ⟨b, off, spot⟩ := ad
  have hx0 : l[0]? = some l[0] := List.getElem?_eq_getElem (by omega)
  have hspot : spot = none := by
    have := hc _ _ (cells_flat_at Act1.cells l (m := 4) (fun _ _ => rfl) 0 0 _ _ hx0 rfl)
    simpa [Addr.add] using World.cell?_spot this
  subst hspot
  have at_ : ∀ k v, (l.flatMap Act1.cells)[i * 4 + k]? = some v → w.cell? ⟨b, off + i * 4 + k, none⟩ = some v := fun k v hv => by
    have := hc _ _ hv
    rw [add_at] at this
    rw [Nat.add_assoc]; exact this
  refine ⟨b, off, l[i], e, hx, h.ok _ (List.mem_of_getElem? hx), ?_, ?_, ?_, ?_⟩
  · exact at_ 0 _ (cells_flat_at Act1.cells l (m := 4) (fun _ _ => rfl) i 0 _ _ hx rfl)
  · exact at_ 1 _ (cells_flat_at Act1.cells l (m := 4) (fun _ _ => rfl) i 1 _ _ hx rfl)
  · exact at_ 2 _ (cells_flat_at Act1.cells l (m := 4) (fun _ _ => rfl) i 2 _ _ hx rfl)
  · exact at_ 3 _ (cells_flat_at Act1.cells l (m := 4) (fun _ _ => rfl) i 3 _ _ hx rfl)

section
variable {H : Type} {enc : TypeId × Value → H} {W : World} {base : Nat}
theorem act_one (fuel : Nat) (cs : List Value) (y : DataW H × List MemPlace) (hl : cs.length = 4) (h : DataW.trod enc Try.prog W base (fun _ => true) true fuel 35 cs = some y) : ∃ x : Act1, cs = x.cells ∧ ActOk W x := by
  obtain ⟨fs, hfs⟩ : ∃ fs : Array Field, Try.prog.underlying 35 = some (.struct fs) := ⟨_, Try.underlying35⟩
  obtain ⟨xs, k, hk, hxy, _, hxl, hf⟩ := DataW.trod_struct Try.underlying35 h
  match xs, hxl, cs, hl with
  | [y0, y1, y2, y3], _, [v0, v1, v2, v3], _ =>
    have g0 := hf 0 _ rfl
    have g1 := hf 1 _ rfl
    have g2 := hf 2 _ rfl
    have g3 := hf 3 _ rfl
    have ci : Try.prog.cellsOf 3 = 1 := by kernel_rfl
    have cb : Try.prog.cellsOf 33 = 1 := by kernel_rfl
    simp [ci, cb] at g0 g1 g2 g3
    obtain ⟨n0, e0, _, w0⟩ := DataW.trod_int Try.underlying3 g0
    obtain ⟨n1, e1, _, w1⟩ := DataW.trod_int Try.underlying3 g1
    obtain ⟨n2, e2, _, w2⟩ := DataW.trod_int Try.underlying3 g2
    obtain ⟨A3, l3, c3, b3, e3, hb3, hr3, hm3⟩ := cells_bytes Try.underlying33 Try.underlying5 (by kernel_rfl) g3
    simp at e0 e1 e2 e3
    subst e0; subst e1; subst e2; subst e3
    exact ⟨⟨n0, n1, n2, A3, l3, c3, b3⟩, rfl, ⟨hb3, hr3, hm3, w0, w1, w2⟩⟩
/-- A slice of things that are done that came in. -/
theorem arg_acts {a : Option Addr} {len cap : Nat} {d : DataW H} {p : List MemPlace} (h : DataW.Trod enc Try.prog W base (fun _ => true) true 22 (.slice a len cap) d p) :
    ∃ l : List Act1, ActsAt W a len l ∧ len ≤ 9223372036854775807 := by
  obtain ⟨fuel, hf⟩ := h
  obtain ⟨A, n, c, l, hcs, hl, hok, hv, hm⟩ := cells_structs Act1.cells (ActOk W) (m := 4) Try.underlying22 (by kernel_rfl) act_one hf
  simp [Value.cells] at hcs
  obtain ⟨rfl, rfl, rfl⟩ := hcs
  exact ⟨l, ⟨hl, hv, fun x hx => (hok x hx).2⟩, hm⟩
end

def smallB (l : List Act1) : Bool := decide (l.length ≤ 60) && l.all fun x => decide (x.bn ≤ 100)
theorem smallB_get {l : List Act1} (h : smallB l = true) {i : Nat} {x : Act1} (hx : l[i]? = some x) : l.length ≤ 60 ∧ x.bn ≤ 100 := by
  simp [smallB] at h
  have := h.2 x (List.mem_of_getElem? hx)
  omega

section
variable {w : World}
set_option maxRecDepth 100000 in
set_option maxHeartbeats 1000000 in
theorem small_c (A : Option Addr) (n c : Nat) (l : List Act1) (hA : ActsAt w A n l) (hn : n ≤ 9223372036854775807) :
    Calls Try.prog 9 #[.slice A n c] w fun e w' => e = .returned (.bool (smallB l)) ∧ Fr F0 w w' := by
  have HL := Lib.hid hA.len
  by_cases hbig : 60 < n
  · have hbig' : (60 : Int) < (n : Int) := by omega
    have : smallB l = false := by have := HL.out; simp [smallB]; intro; omega
    rw [this]
    go_enter Try.func9, Try.ntmps9
    go_wp2_with fail
    go_ret
    exact ⟨rfl, Fr.refl _ _⟩
  have hbig' : ¬ (60 : Int) < (n : Int) := by omega
  go_enter Try.func9, Try.ntmps9
  go_wp2_with fail
  go_loopg [3] n (fun kq v wr => ∃ j : Nat, j ≤ n ∧ kq = n - j ∧ v = .int .i64 (j : Int) ∧ (∀ i x, i < j → l[i]? = some x → x.bn ≤ 100) ∧ Fr F0 w wr)
  case atStart => exact ⟨0, by omega, rfl, rfl, fun i x hi => by omega, Fr.refl _ _⟩
  case round =>
    obtain ⟨j, hj, rfl, rfl, hall, hfr⟩ := hrel
    by_cases hlt : j < n
    · have hj0 : (0 : Int) ≤ (j : Int) := Int.natCast_nonneg _
      have hj1 : (j : Int) < (n : Int) := by omega
      obtain ⟨b, off, x, rfl, hx, hok, c0, c1, c2, c3⟩ := (hA.keep0 hfr).get hlt
      have HX := Lib.hid hx
      clear hx c0 c1
      by_cases h1 : 100 < x.bn
      · have h1' : (100 : Int) < (x.bn : Int) := by omega
        have hs : smallB l = false := by
          cases hs' : smallB l with
          | false => rfl
          | true => have := smallB_get hs' HX.out; omega
        have HS := Lib.hid hs
        clear hs
        go_wp2_with fail
        go_ret
        exact ⟨by rw [HS.out]; rfl, hfr⟩
      · have h1' : ¬ (100 : Int) < (x.bn : Int) := by omega
        go_wp2_with fail
        go_roundg (n - (j + 1))
        case measure => omega
        case rel =>
          refine ⟨j + 1, by omega, rfl, by first | rfl | (go_num), fun i y hi hy => ?_, hfr⟩
          by_cases hij : i < j
          · exact hall i y hij hy
          · have : i = j := by omega
            subst this
            rw [HX.out] at hy
            cases hy
            omega
    · have hjn : j = n := by omega
      subst hjn
      have hs : smallB l = true := by
        have hl := HL.out
        simp [smallB]
        refine ⟨by omega, fun x hx => ?_⟩
        obtain ⟨i, hi⟩ := List.getElem?_of_mem hx
        have := (List.getElem?_eq_some_iff.1 hi).1
        exact hall i x (by omega) hi
      have HS := Lib.hid hs
      clear hs
      go_wp2_with fail
      go_ret
      exact ⟨by rw [HS.out]; rfl, hfr⟩
end
end Go.Proofs.Ytjfdfjenodianaa
