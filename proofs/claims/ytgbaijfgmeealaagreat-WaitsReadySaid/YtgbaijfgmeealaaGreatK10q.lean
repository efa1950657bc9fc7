/-
  Boxes beside rows. Conditions: none.
-/
import Derived.Test.YtgbaijfgmeealaaGreatK10k
import Derived.Deep.CutBlock
set_option linter.unusedVariables false
set_option linter.unusedSimpArgs false
namespace Go.Proofs.YtgbaijfgmeealaaGreat
open Go.RowKit
theorem SrAt.notIn {α : Type} {m : Nat} {f : α → List Value} {w : World} {A : Option Addr} {L : List α} {tb : Nat} {cs : Array Value} {t : TypeId} (hm : ∀ x, (f x).length = m) (h : SrAt m f w A L) (hb : w.heap[tb]? = some (.cells cs t (0, 0))) (hcs : cs.size < m) (hL : 0 < L.length) : ∀ ad, A = some ad → ad.block ≠ tb := by
  rintro ad rfl rfl
  obtain ⟨b, off, e, hc⟩ := h.get (List.getElem?_eq_getElem hL) (by rw [hm]; omega)
  cases e
  have hlt : m - 1 < (f (L[0]'hL)).length := by rw [hm]; omega
  have hk : (f (L[0]'hL))[m - 1]? = some ((f (L[0]'hL))[m - 1]'hlt) := List.getElem?_eq_getElem hlt
  have h5 := hc (m - 1) _ hk
  rw [cell_of hb] at h5
  have := (Array.getElem?_eq_some_iff.1 h5).1
  omega
/-- A row stays where a small block beside it turns. -/
theorem SlV.box {α : Type} {m : Nat} {f : α → List Value} {w w' : World} {v : Value} {L : List α} {tb : Nat} {cs : Array Value} {t : TypeId} (hm : ∀ x, (f x).length = m) (h : SlV m f w v L) (hb : w.heap[tb]? = some (.cells cs t (0, 0))) (hcs : cs.size < m) (hf : Fr (fun k => k = tb) w w') : SlV m f w' v L := by
  obtain ⟨A, c, rfl, hs, h1, h2⟩ := h.ex
  exact ⟨A, c, rfl, hs.keep hf (fun ad e hL hk => hs.notIn hm hb hcs hL ad e hk), h1, h2⟩
theorem SlV.exn {α : Type} {m : Nat} {f : α → List Value} {w : World} {v : Value} {L : List α} (h : SlV m f w v L) {n : Nat} (hn : L.length = n) : ∃ A c, v = .slice A n c := by
  obtain ⟨A, c, e, -⟩ := h.ex
  exact ⟨A, c, by rw [e, hn]⟩
theorem falls_of {L : List Tx9} (h : (List.range L.length).all (fun i => decide ((L.getD i Tx9.zero).parent < (i : Int))) = true) : Falls L := by
  intro i x hx
  rw [List.all_eq_true] at h
  have hi := (List.getElem?_eq_some_iff.1 hx).1
  have := h i (List.mem_range.2 hi)
  rw [List.getD_eq_getElem?_getD, hx] at this
  simpa using this
/-- The box of a tree: its two cells. -/
theorem tree_box {W : World} {tb : Nat} {v v' : Value} {clk clk' : Int} {A : Option Addr} {n c : Nat} (hv' : v' = .slice A n c) (h : W.heap[tb]? = some (.cells #[v, .int .i64 clk] 31 (0, 0))) :
    (W.setRow tb (splat [v, .int .i64 clk] 0 [v', .int .i64 clk']).toArray).heap[tb]? = some (.cells #[v', .int .i64 clk'] 31 (0, 0)) ∧ Fr (fun k => k = tb) W (W.setRow tb (splat [v, .int .i64 clk] 0 [v', .int .i64 clk']).toArray) :=
  ⟨by rw [setRow_heap _ _ _ _ _ _ h]; rfl, (Fr.refl _ _).setRow (by exact .inl rfl) _⟩
end Go.Proofs.YtgbaijfgmeealaaGreat
