/-
  Layer 11: the things that are done, as an argument holds them. Conditions: none.
-/
import Derived.Test.YtgbaijfgmeealaaGreatT9g
import Derived.Test.YtgbaijfgmeealaaGreatArgAid
set_option linter.unusedVariables false
set_option linter.unusedSimpArgs false
namespace Go.Proofs.YtgbaijfgmeealaaGreat
open Go.RowKit Go.Deep Go.ChangeShapes Go.WideShapes Go.ChangeAt

structure Act1 where
  what : Int
  tx : Int
  block : Int
  mode : Int
def Act1.cells (x : Act1) : List Value := [.int .i64 x.what, .int .i64 x.tx, .int .i64 x.block, .int .i64 x.mode]
structure ActOk (w : World) (x : Act1) : Prop where
  w1 : (Lit.int .i64 x.what).wf = true
  w2 : (Lit.int .i64 x.tx).wf = true
  w3 : (Lit.int .i64 x.block).wf = true
  w4 : (Lit.int .i64 x.mode).wf = true
theorem ActOk.keep0 {w w' : World} {x : Act1} (h : ActOk w x) (hf : Fr F0 w w') : ActOk w' x := ⟨h.w1, h.w2, h.w3, h.w4⟩
structure ActsAt (w : World) (A : Option Addr) (n : Nat) (l : List Act1) : Prop where
  len : l.length = n
  cells : ValsAt w A (l.flatMap Act1.cells)
  ok : ∀ x ∈ l, ActOk w x
theorem ActsAt.keep0 {w w' : World} {A : Option Addr} {n : Nat} {l : List Act1} (h : ActsAt w A n l) (hf : Fr F0 w w') : ActsAt w' A n l := ⟨h.len, h.cells.keep0 hf, fun x hx => (h.ok x hx).keep0 hf⟩
theorem ActsAt.get {w : World} {A : Option Addr} {n : Nat} {l : List Act1} (h : ActsAt w A n l) {i : Nat} (hi : i < n) :
    ∃ b off x, A = some ⟨b, off, none⟩ ∧ l[i]? = some x ∧ ActOk w x ∧ w.cell? ⟨b, off + i * 4, none⟩ = some (.int .i64 x.what) ∧ w.cell? ⟨b, off + i * 4 + 1, none⟩ = some (.int .i64 x.tx) ∧
      w.cell? ⟨b, off + i * 4 + 2, none⟩ = some (.int .i64 x.block) ∧ w.cell? ⟨b, off + i * 4 + 3, none⟩ = some (.int .i64 x.mode) := by
  have hl := h.len
  have hil : i < l.length := by omega
  have hx : l[i]? = some l[i] := List.getElem?_eq_getElem hil
  have hfl := cells_flat_len Act1.cells l (m := 4) (fun _ _ => rfl)
  obtain ⟨ad, e, hc⟩ := h.cells.cells (by rw [hfl]; omega)
  obtain ⟨b, off, spot⟩ := ad
  have hx0 : l[0]? = some l[0] := List.getElem?_eq_getElem (by omega)
  have hspot : spot = none := by
    have := hc _ _ (cells_flat_at Act1.cells l (m := 4) (fun _ _ => rfl) 0 0 _ _ hx0 rfl)
    simpa [Addr.add] using World.cell?_spot this
  subst hspot
  have at_ : ∀ k v, (l.flatMap Act1.cells)[i * 4 + k]? = some v → w.cell? ⟨b, off + i * 4 + k, none⟩ = some v := fun k v hv => by
    have := hc _ _ hv
    rw [add_at] at this
    rw [Nat.add_assoc]; exact this
  refine ⟨b, off, l[i], e, hx, h.ok _ (List.mem_of_getElem? hx), ?_, ?_, ?_, ?_⟩
  · exact at_ 0 _ (cells_flat_at Act1.cells l (m := 4) (fun _ _ => rfl) i 0 _ _ hx rfl)
  · exact at_ 1 _ (cells_flat_at Act1.cells l (m := 4) (fun _ _ => rfl) i 1 _ _ hx rfl)
  · exact at_ 2 _ (cells_flat_at Act1.cells l (m := 4) (fun _ _ => rfl) i 2 _ _ hx rfl)
  · exact at_ 3 _ (cells_flat_at Act1.cells l (m := 4) (fun _ _ => rfl) i 3 _ _ hx rfl)

section
variable {H : Type} {enc : TypeId × Value → H} {W : World} {base : Nat}
set_option maxRecDepth 100000 in
theorem act_one (fuel : Nat) (cs : List Value) (y : DataW H × List MemPlace) (hl : cs.length = 4) (h : DataW.trod enc Tryz.prog W base (fun _ => true) true fuel 57 cs = some y) : ∃ x : Act1, cs = x.cells ∧ ActOk W x := by
  obtain ⟨fs, hfs⟩ : ∃ fs : Array Field, Tryz.prog.underlying 57 = some (.struct fs) := ⟨_, Tryz.underlying57⟩
  obtain ⟨xs, k, hk, hxy, _, hxl, hf⟩ := DataW.trod_struct Tryz.underlying57 h
  match xs, hxl, cs, hl with
  | [y0, y1, y2, y3], _, [v0, v1, v2, v3], _ =>
    have g0 := hf 0 _ rfl
    have g1 := hf 1 _ rfl
    have g2 := hf 2 _ rfl
    have g3 := hf 3 _ rfl
    have ci : Tryz.prog.cellsOf 3 = 1 := by kernel_rfl
    simp [ci] at g0 g1 g2 g3
    obtain ⟨n0, e0, _, w0⟩ := DataW.trod_int Tryz.underlying3 g0
    obtain ⟨n1, e1, _, w1⟩ := DataW.trod_int Tryz.underlying3 g1
    obtain ⟨n2, e2, _, w2⟩ := DataW.trod_int Tryz.underlying3 g2
    obtain ⟨n3, e3, _, w3⟩ := DataW.trod_int Tryz.underlying3 g3
    simp at e0 e1 e2 e3
    subst e0; subst e1; subst e2; subst e3
    exact ⟨⟨n0, n1, n2, n3⟩, rfl, ⟨w0, w1, w2, w3⟩⟩
/-- A slice of things that are done that came in. -/
theorem arg_acts {a : Option Addr} {len cap : Nat} {d : DataW H} {p : List MemPlace} (h : DataW.Trod enc Tryz.prog W base (fun _ => true) true 22 (.slice a len cap) d p) :
    ∃ l : List Act1, ActsAt W a len l ∧ len ≤ 9223372036854775807 := by
  obtain ⟨fuel, hf⟩ := h
  obtain ⟨A, n, c, l, hcs, hl, hok, hv, hm⟩ := cells_structs Act1.cells (ActOk W) (m := 4) Tryz.underlying22 (by kernel_rfl) act_one hf
  simp [Value.cells] at hcs
  obtain ⟨rfl, rfl, rfl⟩ := hcs
  exact ⟨l, ⟨hl, hv, fun x hx => (hok x hx).2⟩, hm⟩
end

end Go.Proofs.YtgbaijfgmeealaaGreat
