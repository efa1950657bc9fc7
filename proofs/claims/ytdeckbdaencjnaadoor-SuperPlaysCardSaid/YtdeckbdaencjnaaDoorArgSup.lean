/-
  The document's Super as an argument. Conditions: none.
-/
import Derived.Test.YtdeckbdaencjnaaDoorS8
import Derived.Test.YtdeckbdaencjnaaDoorW1
import Derived.Test.YtdeckbdaencjnaaDoorRowAid
import Derived.Deep.Fields
set_option linter.unusedVariables false
set_option linter.unusedSimpArgs false
namespace Go.Proofs.YtdeckbdaencjnaaDoor
open Go.ChangeShapes Go.WideShapes Go.ChangeAt Go.RowKit Go.Deep
section
variable {H : Type} {enc : TypeId × Value → H} {W : World} {base : Nat}
/-- A slice of bytes that came in, with its capacity. -/
theorem arg_byt {P : Program} {t e : TypeId} {a : Option Addr} {len cap : Nat} {d : DataW H} {p : List MemPlace} (ht : P.underlying t = some (.slice e)) (he : P.underlying e = some (.int .u8)) (hc : P.cellsOf e = 1)
    (h : DataW.Trod enc P W base (fun _ => true) true t (.slice a len cap) d p) : ∃ xs : List Int, xs.length = len ∧ Byt W a cap xs ∧ Bys xs := by
  obtain ⟨xs, h1, h2, h3⟩ := arg_bytes ht he hc h
  obtain ⟨fuel, hf⟩ := h
  have hcap : len ≤ cap ∧ cap ≤ 9223372036854775807 := by
    rcases open_ints ht he hc hf with ⟨hcs, _⟩ | ⟨x, l, c, zs, hcs, _, hl, hm, hz, _, hcell, hwz⟩
    · simp [Value.cells] at hcs
      obtain ⟨rfl, rfl, rfl⟩ := hcs
      omega
    · simp [Value.cells] at hcs
      obtain ⟨rfl, rfl, rfl⟩ := hcs
      simp only [maxLen] at hm
      omega
  have hl := h1.len
  exact ⟨xs, hl, ⟨by rw [hl]; exact h1, by omega, hcap.2⟩, h2⟩
set_option maxRecDepth 100000 in
theorem arg_sup {r : Reach} {b0 : Nat} {v : Value} {d : DataW H} {p : List MemPlace} (hval : Value.okWide Tryd.prog W r b0 23 v) (h : DataW.Trod enc Tryd.prog W base (fun _ => true) true 23 v d p) :
    ∃ s : Sup, v = .agg #[.int .i64 s.version, .int .i64 s.epoch, .int .i64 s.blocks, .int .i64 s.counters, .int .i64 s.log, .int .i64 s.head, .int .i64 s.applied] ∧ True := by
  obtain ⟨cs, rfl, hcs⟩ := okWide_struct Tryd.underlying23 hval
  obtain ⟨fuel, h⟩ := h
  have hl : cs.toList.length = 7 := by
    have : Tryd.prog.cellsOf 23 = 7 := by kernel_rfl
    rw [Array.length_toList, hcs, this]
  obtain ⟨xs, k, hk, hxy, _, hxl, hf⟩ := DataW.trod_struct Tryd.underlying23 h
  obtain ⟨l, rfl⟩ : ∃ l : List Value, cs = l.toArray := ⟨cs.toList, by simp⟩
  simp only [Value.cells] at hf hl
  match xs, hxl, l, hl with
  | [y0, y1, y2, y3, y4, y5, y6], _, [v0, v1, v2, v3, v4, v5, v6], _ =>
    have g0 := hf 0 _ rfl
    have g1 := hf 1 _ rfl
    have g2 := hf 2 _ rfl
    have g3 := hf 3 _ rfl
    have g4 := hf 4 _ rfl
    have g5 := hf 5 _ rfl
    have g6 := hf 6 _ rfl
    have ci : Tryd.prog.cellsOf 3 = 1 := by kernel_rfl
    simp [ci] at g0 g1 g2 g3 g4 g5 g6
    obtain ⟨n0, e0, _, w0⟩ := DataW.trod_int Tryd.underlying3 g0
    obtain ⟨n1, e1, _, w1⟩ := DataW.trod_int Tryd.underlying3 g1
    obtain ⟨n2, e2, _, w2⟩ := DataW.trod_int Tryd.underlying3 g2
    obtain ⟨n3, e3, _, w3⟩ := DataW.trod_int Tryd.underlying3 g3
    obtain ⟨n4, e4, _, w4⟩ := DataW.trod_int Tryd.underlying3 g4
    obtain ⟨n5, e5, _, w5⟩ := DataW.trod_int Tryd.underlying3 g5
    obtain ⟨n6, e6, _, w6⟩ := DataW.trod_int Tryd.underlying3 g6
    simp at e0 e1 e2 e3 e4 e5 e6
    subst e0; subst e1; subst e2; subst e3; subst e4; subst e5; subst e6
    exact ⟨⟨n0, n1, n2, n3, n4, n5, n6⟩, rfl, trivial⟩
end
end Go.Proofs.YtdeckbdaencjnaaDoor
