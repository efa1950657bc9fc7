/-
  Rows of elements of several cells: copied over, one element put in between. Conditions: none.
-/
import Derived.Test.YtgbaijfgmeealaaRowT
import Derived.Lib.AppendZerosOnto
set_option linter.unusedVariables false
set_option linter.unusedSimpArgs false
namespace Go.Proofs.Ytgbaijfgmeealaa
open Go.RowKit
def insAt {α : Type} (L : List α) (i : Nat) (y : α) : List α := L.take i ++ y :: L.drop i
section
variable {P : Program}
/-- copy(dst, src), dst of a row, src read. -/
theorem run_copy_rowS (w : World) (dT sT ty elem : TypeId) (g o dLen dCap : Nat) (a : Addr) (sLen sCap : Nat) (cur : List Value) (t : TypeId) (cs : List Value) (k m : Nat)
    (hu : P.underlying dT = some (.slice elem)) (hs : (P.info? elem).map (·.size) = some m) (hg : w.heap[g]? = some (.cells cur.toArray t (0, 0))) (hk : k = Nat.min sLen dLen) (hn : cs.length = k * m)
    (hsrc : ∀ j v, cs[j]? = some v → w.cell? (a.add j) = some v) (hfit : o + cs.length ≤ cur.length) (h1 : ∀ v ∈ cs, v.oneCell' = true) :
    (Builtin.copy_ #[dT, sT] ty #[.slice (some ⟨g, o, none⟩) dLen dCap, .slice (some a) sLen sCap]).run P w = .ok (goInt k) (w.setRow g (splat cur o cs).toArray) := by
  have hl := run_loadCells_list (P := P) w a cs hsrc
  have hst : (storeCells ⟨g, o, none⟩ cs).run P w = .ok () (w.setRow g (splat cur o cs).toArray) := by
    rw [storeCells_shift, Nat.add_zero]; exact run_storeCells_mid g t cs o cur w hg hfit h1
  cases hq : P.info? elem with
  | none => simp [hq] at hs
  | some i =>
    have hi : i.size = m := by simpa [hq] using hs
    rw [hn] at hl
    subst hk
    simp [Builtin.copy_, run_underlying hu, Builtin.lenOf, Builtin.firstCells, sizeOf, typeInfo, hq, hi, hl, hst]
theorem wpList_copy_at {ops : Array Oper} {rest : List Oper} {o : Oper} {a : Act} {Q : Exit → Act → World → Prop} {w : World} (hgd : o.guard = none) (d s : Operand) (t t' : TypeId)
    (ho : o.op = .call { callee := .builtin .copy, args := #[d, s], argTypes := #[t, t'] }) (v u : Value) (hd : a.eval d = v) (hs : a.eval s = u) {v' : Value} {w' : World}
    (hr : ∀ ty, (Builtin.copy_ #[t, t'] ty #[v, u]).run P w = .ok v' w') (h : wpList P ops Q rest (a.put o.dst v') w') : wpList P ops Q (o :: rest) a w := by
  refine wpList_plain hgd fun K hK => ?_
  unfold Oper.wp execOp
  simp only [ho, resolve, invoke, builtin, Sem.run_bind, Sem.run_pure, Result.andThen_ok, List.map_toArray, List.map_cons, List.map_nil, hd, hs, hr]
  exact hK _ _ h
theorem wpList_append_at {ops : Array Oper} {rest : List Oper} {o : Oper} {a : Act} {Q : Exit → Act → World → Prop} {w : World} (hgd : o.guard = none) (d s : Operand) (t t' : TypeId)
    (ho : o.op = .call { callee := .builtin .append, args := #[d, s], argTypes := #[t, t'] }) (v u : Value) (hd : a.eval d = v) (hs : a.eval s = u) {v' : Value} {w' : World}
    (hr : ∀ ty, (Builtin.append_ #[t, t'] ty #[v, u]).run P w = .ok v' w') (h : wpList P ops Q rest (a.put o.dst v') w') : wpList P ops Q (o :: rest) a w := by
  refine wpList_plain hgd fun K hK => ?_
  unfold Oper.wp execOp
  simp only [ho, resolve, invoke, builtin, Sem.run_bind, Sem.run_pure, Result.andThen_ok, List.map_toArray, List.map_cons, List.map_nil, hd, hs, hr]
  exact hK _ _ h
end
theorem splat_up {α : Type} (cur Y B : List α) (a1 a2 : Nat) (h : a2 = a1 + Y.length) (h2 : a2 + B.length ≤ cur.length) : splat (splat cur a2 B) a1 Y = cur.take a1 ++ Y ++ B ++ cur.drop (a2 + B.length) := by
  have e0 : (splat cur a2 B).take a1 = cur.take a1 := by
    unfold splat
    rw [List.append_assoc, List.take_append_of_le_length (by rw [List.length_take]; omega), List.take_take]
    congr 1; omega
  have e1 : (splat cur a2 B).drop (a1 + Y.length) = B ++ cur.drop (a2 + B.length) := by
    unfold splat
    rw [← h, List.append_assoc, List.drop_left' (by rw [List.length_take]; omega)]
  show (splat cur a2 B).take a1 ++ Y ++ (splat cur a2 B).drop (a1 + Y.length) = _
  rw [e0, e1]
  simp only [List.append_assoc]
theorem splat_dn {α : Type} (cur Y B : List α) (a1 a2 : Nat) (h : a2 = a1 + Y.length) (h2 : a2 + B.length ≤ cur.length) : splat (splat cur a1 Y) a2 B = cur.take a1 ++ Y ++ B ++ cur.drop (a2 + B.length) := by
  have e0 : (splat cur a1 Y).take a2 = cur.take a1 ++ Y := by
    unfold splat
    rw [List.take_left' (by rw [List.length_append, List.length_take]; omega)]
  have e1 : (splat cur a1 Y).drop (a2 + B.length) = cur.drop (a2 + B.length) := by
    unfold splat
    rw [← h, List.drop_append, List.drop_eq_nil_of_le (by rw [List.length_append, List.length_take]; omega), List.nil_append, List.drop_drop, List.length_append, List.length_take]
    congr 1; omega
  show (splat cur a1 Y).take a2 ++ B ++ (splat cur a1 Y).drop (a2 + B.length) = _
  rw [e0, e1]
section
variable {α : Type} {m : Nat} {f : α → List Value}
theorem insAt_len (L : List α) {i : Nat} (hi : i ≤ L.length) (y : α) : (insAt L i y).length = L.length + 1 := by unfold insAt; simp; omega
theorem insAt_flat (L : List α) (i : Nat) (y : α) : (insAt L i y).flatMap f = (L.take i).flatMap f ++ f y ++ (L.drop i).flatMap f := by unfold insAt; rw [List.flatMap_append, List.flatMap_cons, List.append_assoc]
theorem insAt_end (L : List α) (y : α) : insAt L L.length y = L ++ [y] := by unfold insAt; simp
theorem flat_drop (hm : ∀ x, (f x).length = m) (L : List α) {i : Nat} (hi : i ≤ L.length) : (L.flatMap f).drop (i * m) = (L.drop i).flatMap f := by
  have l1 : ((L.take i).flatMap f).length = i * m := by
    rw [cells_flat_len f _ (fun x _ => hm x), List.length_take]
    congr 1
    omega
  conv => lhs; rw [← List.take_append_drop i L, List.flatMap_append]
  rw [List.drop_left' l1]
/-- What lies there when an element has been put in between. -/
theorem own_ins {w : World} {base g cap : Nat} {t : TypeId} {L : List α} (hm : ∀ x, (f x).length = m) {i : Nat} (hi : i ≤ L.length) (y : α) {cur : List Value} {tl : List Value}
    (hh : w.heap[g]? = some (.cells ((L.take i).flatMap f ++ f y ++ (L.drop i).flatMap f ++ tl).toArray t (0, 0))) (hb : base ≤ g) (h1 : L.length + 1 ≤ cap) (h2 : cap ≤ maxLen) (h3 : ((L.take i).flatMap f ++ f y ++ (L.drop i).flatMap f ++ tl).length = cap * m) :
    w.ownsRow base t m (.slice (some ⟨g, 0, none⟩) (L.length + 1) cap) (L.length + 1) ((insAt L i y).flatMap f) := by
  have hl := cells_flat_len f (insAt L i y) (fun x _ => hm x)
  rw [insAt_len L hi] at hl
  refine own_of_parts hh hb h1 h2 h3 hl ?_
  rw [← insAt_flat, List.take_left' hl]
end
end Go.Proofs.Ytgbaijfgmeealaa
