/-
  Laws at operations: an array made, loaded out of and stored into the middle of a row; a map's store. Conditions: none.
-/
import Derived.Test.YtgbaijfgmeealaaGreatHeap
import Derived.Laws.CopyOwn
import Derived.Deep.RegionLaw
import Derived.StillTailTactics
import Derived.Deep.QuietTactic
import Derived.BigQuiet
import Derived.Maps.AppendAt
import Derived.OwnWalk
import Derived.Deep.AppendLies
import Derived.Laws.BytesArg
import Derived.Laws.BitsLemmas
set_option linter.unusedVariables false
set_option linter.unusedSimpArgs false
namespace Go.Proofs.YtgbaijfgmeealaaGreat
open Go.RowKit
open Go.ChangeMaps (setBlock)

section
variable {P : Program}
/-- A struct's or an array's type. -/
def aggDesc : TypeDesc → Bool | .struct _ => true | .array _ _ => true | _ => false
theorem run_alloc_of (e : TypeId) (z : Value) (hz : (P.info? e).map (·.zero) = some (some z)) (w : World) : (Instr.alloc e true (.tuple #[])).run P w = .ok (.pointer (some ⟨w.heap.size, 0, none⟩)) (w.alloc (.cells z.cells e)) := by
  obtain ⟨i, hi, hzz⟩ := Option.map_eq_some_iff.1 hz
  simp [Instr.alloc, zeroValue, typeInfo, hi, hzz, newVar, newRow]

theorem add_at (g off j : Nat) : (⟨g, off, none⟩ : Addr).add j = ⟨g, off + j, none⟩ := by unfold Addr.add; split <;> simp_all

theorem setRow_alloc (w : World) (c c' : Array Value) (t : TypeId) : (w.alloc (.cells c t)).setRow w.heap.size c' = w.alloc (.cells c' t) := by
  unfold World.setRow World.alloc
  simp only [World.mk.injEq, and_true]
  apply Array.ext_getElem?
  intro i
  simp only [Array.getElem?_modify, Array.getElem?_push]
  by_cases h : i = w.heap.size
  · subst h; simp
  · rw [if_neg (fun e => h e.symm), if_neg h, if_neg h]

/-- A store of a whole array into the variable that was made last. -/
theorem wp_store_fresh {o : Oper} {a : Act} {w : World} {K : Act → World → Prop} {Q : Exit → Act → World → Prop} (ty : TypeId) (x y : Operand) (ho : o.op = .store ty x y)
    (cells : Array Value) (hx : a.eval x = .pointer (some ⟨w.heap.size, 0, none⟩)) (hy : a.eval y = .agg cells)
    (t : TypeId) (old : Array Value) (hi : (P.info? ty).map (·.size) = some cells.size) (hold : old.size = cells.size) (h1 : cells.all (·.oneCell') = true)
    (h : K (a.put o.dst undef) (w.alloc (.cells cells t))) : o.wp P a (w.alloc (.cells old t)) K Q := by
  refine wp_store_row ty x y ho w.heap.size cells hx hy t old (heap_alloc_new w _) hi hold h1 ?_
  rw [setRow_alloc]; exact h
theorem wpList_store_fresh {ops : Array Oper} {rest : List Oper} {o : Oper} {a : Act} {w : World} {Q : Exit → Act → World → Prop} (hgd : o.guard = none) (ty : TypeId) (x y : Operand) (ho : o.op = .store ty x y)
    (cells : Array Value) (hx : a.eval x = .pointer (some ⟨w.heap.size, 0, none⟩)) (hy : a.eval y = .agg cells)
    (t : TypeId) (old : Array Value) (hi : (P.info? ty).map (·.size) = some cells.size) (hold : old.size = cells.size) (h1 : cells.all (·.oneCell') = true)
    (h : wpList P ops Q rest (a.put o.dst undef) (w.alloc (.cells cells t))) : wpList P ops Q (o :: rest) a (w.alloc (.cells old t)) :=
  wpList_plain hgd fun _ hK => wp_store_fresh ty x y ho cells hx hy t old hi hold h1 (hK _ _ h)

/-- An array loaded out of a row, at whatever place. -/
theorem run_loadVar_at (w : World) (g off : Nat) (ty : TypeId) (cs : List Value) (d : TypeDesc) (hc : ∀ j v, cs[j]? = some v → w.cell? ⟨g, off + j, none⟩ = some v)
    (hu : P.underlying ty = some d) (hd : aggDesc d = true) (hi : (P.info? ty).map (·.size) = some cs.length) :
    (loadVar ty ⟨g, off, none⟩).run P w = .ok (.agg cs.toArray) w := by
  have hl : (loadCells ⟨g, off, none⟩ cs.length).run P w = .ok cs.toArray w :=
    run_loadCells_list (P := P) w ⟨g, off, none⟩ cs (fun j v hv => by rw [add_at]; exact hc j v hv)
  cases hq : P.info? ty with
  | none => simp [hq] at hi
  | some i =>
    have hs : i.size = cs.length := by simpa [hq] using hi
    have hagg : (isAgg ty).run P w = .ok true w := by
      unfold isAgg
      rw [Sem.run_bind, run_underlying hu w]
      cases d <;> simp_all [aggDesc]
    simp [loadVar, Sem.run_bind, hagg, sizeOf, typeInfo, hq, hs, hl]
theorem wp_load_at {o : Oper} {a : Act} {w : World} {K : Act → World → Prop} {Q : Exit → Act → World → Prop} (ty : TypeId) (x : Operand) (ho : o.op = .load ty x)
    (g off : Nat) (hx : a.eval x = .pointer (some ⟨g, off, none⟩)) (cs : List Value) (d : TypeDesc) (hc : ∀ j v, cs[j]? = some v → w.cell? ⟨g, off + j, none⟩ = some v)
    (hu : P.underlying ty = some d) (hd : aggDesc d = true) (hi : (P.info? ty).map (·.size) = some cs.length)
    (h : K (a.put o.dst (.agg cs.toArray)) w) : o.wp P a w K Q := by
  unfold Oper.wp execOp
  simp only [ho, hx, Instr.loadAt, Instr.sureAddr, Sem.run_bind, Sem.run_pure, Result.andThen_ok, run_loadVar_at w g off ty cs d hc hu hd hi]
  exact h
theorem wpList_load_at {ops : Array Oper} {rest : List Oper} {o : Oper} {a : Act} {w : World} {Q : Exit → Act → World → Prop} (hgd : o.guard = none) (ty : TypeId) (x : Operand) (ho : o.op = .load ty x)
    (g off : Nat) (hx : a.eval x = .pointer (some ⟨g, off, none⟩)) (cs : List Value) (d : TypeDesc) (hc : ∀ j v, cs[j]? = some v → w.cell? ⟨g, off + j, none⟩ = some v)
    (hu : P.underlying ty = some d) (hd : aggDesc d = true) (hi : (P.info? ty).map (·.size) = some cs.length)
    (h : wpList P ops Q rest (a.put o.dst (.agg cs.toArray)) w) : wpList P ops Q (o :: rest) a w :=
  wpList_plain hgd fun _ hK => wp_load_at ty x ho g off hx cs d hc hu hd hi (hK _ _ h)

/-- Cells stored one behind the other into the middle of a row. -/
theorem storeCells_shift (g off : Nat) : ∀ (vs : List Value) (i : Nat), storeCells ⟨g, off, none⟩ vs i = storeCells ⟨g, 0, none⟩ vs (off + i)
  | [], _ => rfl
  | v :: vs, i => by
    simp only [storeCells, add_at, Nat.zero_add]
    rw [storeCells_shift g off vs (i + 1)]
    rfl

/-- A list with some of its elements anew. -/
def splat {α : Type} (cur : List α) (off : Nat) (cs : List α) : List α := cur.take off ++ cs ++ cur.drop (off + cs.length)
theorem splat_length {α : Type} (cur : List α) (off : Nat) (cs : List α) (h : off + cs.length ≤ cur.length) : (splat cur off cs).length = cur.length := by simp [splat]; omega

theorem splat_nil {α : Type} (cur : List α) (off : Nat) : splat cur off [] = cur := by simp [splat]
theorem splat_cons {α : Type} (cur : List α) (off : Nat) (v : α) (vs : List α) (h : off + 1 + vs.length ≤ cur.length) : splat (cur.set off v) (off + 1) vs = splat cur off (v :: vs) := by
  apply List.ext_getElem?
  intro k
  simp only [splat, List.getElem?_append, List.length_take, List.length_set, List.length_cons, List.length_append, List.getElem?_take, List.getElem?_set, List.getElem?_drop]
  by_cases h1 : k < off
  · simp [show k < min (off + 1) cur.length by omega, show k < min off cur.length by omega, show k < off + 1 by omega, h1, show off ≠ k by omega, show k < min (off + 1) cur.length + vs.length by omega, show k < min off cur.length + (vs.length + 1) by omega]
  · by_cases h2 : k = off
    · subst h2
      simp [show k < min (k + 1) cur.length by omega, show min k cur.length = k by omega, show k < cur.length by omega, show k < min (k + 1) cur.length + vs.length by omega]
    · by_cases h3 : k < off + 1 + vs.length
      · simp [show min (off + 1) cur.length = off + 1 by omega, show min off cur.length = off by omega, show ¬ k < off + 1 by omega, show k < off + 1 + vs.length by omega, show ¬ k < off by omega, show k < off + (vs.length + 1) by omega, show k - off = (k - (off + 1)) + 1 by omega]
      · simp [show min (off + 1) cur.length = off + 1 by omega, show min off cur.length = off by omega, show ¬ k < off + 1 + vs.length by omega, show ¬ k < off + (vs.length + 1) by omega]
        rw [if_neg (by omega)]
        congr 1
        omega

theorem run_storeCells_mid (g : Nat) (t : TypeId) : ∀ (vs : List Value) (off : Nat) (cur : List Value) (w : World), w.heap[g]? = some (.cells cur.toArray t (0, 0)) → off + vs.length ≤ cur.length → (∀ v ∈ vs, v.oneCell' = true) →
    (storeCells ⟨g, 0, none⟩ vs off).run P w = .ok () (w.setRow g (splat cur off vs).toArray)
  | [], off, cur, w, hg, _, _ => by
    have hh : (w.setRow g cur.toArray).heap = w.heap := by
      apply Array.ext_getElem?
      intro k
      by_cases hk : k = g
      · subst hk; rw [setRow_heap w k _ _ t _ hg, hg]
      · exact setRow_other w g k _ hk
    have this : w.setRow g cur.toArray = w := by
      have h2 : w.setRow g cur.toArray = { w with heap := (w.setRow g cur.toArray).heap } := rfl
      rw [h2, hh]
    simp [storeCells, splat_nil, this]
  | v :: rest, off, cur, w, hg, hl, h1 => by
    have hi : off < cur.toArray.size := by simp at hl ⊢; omega
    have hcell : w.cell? ⟨g, off, none⟩ = some cur.toArray[off] := by simp [World.cell?, hg, hi]
    have hfro : w.frozen? ⟨g, off, none⟩ = false := by simp [World.frozen?, hg]
    have hst : (store ((⟨g, 0, none⟩ : Addr).add off) v).run P w = .ok () (w.setRow g (cur.set off v).toArray) := by
      rw [add_at, Nat.zero_add, run_store P w _ v _ (h1 v (by simp)), hcell]
      simp [hfro, setCell_eq_setRow w g off cur.toArray t (0, 0) v hg]
    have ih := run_storeCells_mid g t rest (off + 1) (cur.set off v) (w.setRow g (cur.set off v).toArray) (setRow_heap w g cur.toArray _ t _ hg) (by simp at hl ⊢; omega) (fun x hx => h1 x (by simp [hx]))
    simp only [storeCells, Sem.run_bind, hst, Result.andThen_ok, ih, setRow_setRow, splat_cons cur off v rest (by simp at hl; omega)]

theorem run_storeVar_at (w : World) (g off : Nat) (t ty : TypeId) (cur cs : List Value) (hg : w.heap[g]? = some (.cells cur.toArray t (0, 0))) (hi : (P.info? ty).map (·.size) = some cs.length)
    (hfit : off + cs.length ≤ cur.length) (h1 : ∀ v ∈ cs, v.oneCell' = true) :
    (storeVar ty ⟨g, off, none⟩ (.agg cs.toArray)).run P w = .ok () (w.setRow g (splat cur off cs).toArray) := by
  have hst : (storeCells ⟨g, off, none⟩ cs).run P w = .ok () (w.setRow g (splat cur off cs).toArray) := by
    rw [storeCells_shift, Nat.add_zero]
    exact run_storeCells_mid g t cs off cur w hg hfit h1
  cases hq : P.info? ty with
  | none => simp [hq] at hi
  | some i =>
    have hs : cs.length = i.size := by simp [hq] at hi; omega
    simp [storeVar, sizeOf, typeInfo, Value.cells, hq, hs, hst]

theorem wp_store_at {o : Oper} {a : Act} {w : World} {K : Act → World → Prop} {Q : Exit → Act → World → Prop} (ty : TypeId) (x y : Operand) (ho : o.op = .store ty x y)
    (g off : Nat) (cs : List Value) (hx : a.eval x = .pointer (some ⟨g, off, none⟩)) (hy : a.eval y = .agg cs.toArray)
    (t : TypeId) (cur : List Value) (hg : w.heap[g]? = some (.cells cur.toArray t (0, 0))) (hi : (P.info? ty).map (·.size) = some cs.length)
    (hfit : off + cs.length ≤ cur.length) (h1 : ∀ v ∈ cs, v.oneCell' = true)
    (h : K (a.put o.dst undef) (w.setRow g (splat cur off cs).toArray)) : o.wp P a w K Q := by
  unfold Oper.wp execOp
  simp only [ho, hx, hy, Instr.storeAt, Instr.sureAddr, Sem.run_bind, Sem.run_pure, Result.andThen_ok, run_storeVar_at w g off t ty cur cs hg hi hfit h1]
  exact h
theorem wpList_store_at {ops : Array Oper} {rest : List Oper} {o : Oper} {a : Act} {w : World} {Q : Exit → Act → World → Prop} (hgd : o.guard = none) (ty : TypeId) (x y : Operand) (ho : o.op = .store ty x y)
    (g off : Nat) (cs : List Value) (hx : a.eval x = .pointer (some ⟨g, off, none⟩)) (hy : a.eval y = .agg cs.toArray)
    (t : TypeId) (cur : List Value) (hg : w.heap[g]? = some (.cells cur.toArray t (0, 0))) (hi : (P.info? ty).map (·.size) = some cs.length)
    (hfit : off + cs.length ≤ cur.length) (h1 : ∀ v ∈ cs, v.oneCell' = true)
    (h : wpList P ops Q rest (a.put o.dst undef) (w.setRow g (splat cur off cs).toArray)) : wpList P ops Q (o :: rest) a w :=
  wpList_plain hgd fun _ hK => wp_store_at ty x y ho g off cs hx hy t cur hg hi hfit h1 (hK _ _ h)

/-- The same where nothing but reads goes on. -/
theorem wpStill_load_at {ops : Array Oper} {rest : List Oper} {o : Oper} {a : Act} {w : World} {Q : Act → Prop} (hgd : o.guard = none) (ty : TypeId) (x : Operand) (ho : o.op = .load ty x)
    (g off : Nat) (hx : a.eval x = .pointer (some ⟨g, off, none⟩)) (cs : List Value) (d : TypeDesc) (hc : ∀ j v, cs[j]? = some v → w.cell? ⟨g, off + j, none⟩ = some v)
    (hu : P.underlying ty = some d) (hd : aggDesc d = true) (hi : (P.info? ty).map (·.size) = some cs.length)
    (h : wpStill P ops w Q rest (a.put o.dst (.agg cs.toArray))) : wpStill P ops w Q (o :: rest) a := by
  have hw : Region.wanted o (yielded ops a.tmps) = true := by simp [Region.wanted, hgd]
  unfold wpStill
  rw [if_pos hw]
  unfold Oper.still execOp
  simp only [ho, hx, Instr.loadAt, Instr.sureAddr, Sem.run_bind, Sem.run_pure, Result.andThen_ok, run_loadVar_at w g off ty cs d hc hu hd hi]
  exact ⟨rfl, h⟩

/-- A look-up where nothing but reads goes on. -/
theorem wpStill_lookup_is {ops : Array Oper} {rest : List Oper} {o : Oper} {a : Act} {w : World} {Q : Act → Prop} (hgd : o.guard = none) (t : TypeId) (m x : Operand) (co : Bool) (ho : o.op = .lookup t m x co)
    {k e : TypeId} {es : Array MapEntry} {clock : Nat} {f : Value → Option Value} (K : Go.Maps.Keyed P k) (ht : P.underlying t = some (.map k e)) (b : Nat) (hb : w.heap[b]? = some (.map es clock)) (hM : MapIs P k es clock f)
    (hm : a.eval m = .map (some b)) (key : Value) {kl : Lit} (hx : a.eval x = key) (hkey : keyOf P k key = some kl) {z : Value} (hz : (zeroValue e).run P w = .ok z w)
    (h : wpStill P ops w Q rest (a.put o.dst (if co then .tuple #[(f key).getD z, .bool (f key).isSome] else (f key).getD z))) : wpStill P ops w Q (o :: rest) a := by
  have hw : Region.wanted o (yielded ops a.tmps) = true := by simp [Region.wanted, hgd]
  unfold wpStill
  rw [if_pos hw]
  unfold Oper.still execOp
  simp only [ho, hm, hx, Sem.run_bind, hM.look K ht hb hkey hz co, Result.andThen_ok]
  exact ⟨rfl, h⟩

/-- A store into a map. -/
theorem wpList_mapUpdate_is {w : World} {ops : Array Oper} {rest : List Oper} {o : Oper} {a : Act} {Q : Exit → Act → World → Prop}
    (hg : o.guard = none) (m x v : Operand) (t : TypeId) (hop : o.op = Op.mapUpdate t m x v) {k e : TypeId} {es : Array MapEntry} {clock : Nat} {f : Value → Option Value}
    (K : Go.Maps.Keyed P k) (ht : P.underlying t = some (.map k e)) (b : Nat) (hb : w.heap[b]? = some (.map es clock)) (hM : MapIs P k es clock f)
    (hm : a.eval m = .map (some b)) (key val : Value) {kl : Lit} (hx : a.eval x = key) (hv : a.eval v = val) (hkey : keyOf P k key = some kl)
    (hK : ∀ es' clock', MapIs P k es' clock' (upd f key val) → wpList P ops Q rest (a.put o.dst undef) (setBlock w b (.map es' clock'))) :
    wpList P ops Q (o :: rest) a w := by
  refine wpList_plain hg fun K' hK' => ?_
  obtain ⟨es', c', hrun, hM'⟩ := hM.store K ht hb hkey val
  unfold Oper.wp
  simp [execOp, hop, hm, hx, hv, hrun, Result.andThen]
  exact hK' _ _ (hK es' c' hM')
end

/-! ### A slice that the call itself builds -/
section
variable {P : Program}
theorem own_base {w : World} {base : Nat} {e : TypeId} {size n : Nat} {v : Value} {xs : List Value} (h : w.ownsRow base e size v n xs) (k : Nat) (hk : v.ownBlock = some k) : base ≤ k := by
  rcases h.2 with ⟨rfl, _⟩ | ⟨g, cap, cur, rfl, hb, _⟩
  · simp [Value.ownBlock] at hk
  · have : g = k := by simpa [Value.ownBlock] using hk
    omega
theorem own_cells {w : World} {base : Nat} {e : TypeId} {size n : Nat} {v : Value} {xs : List Value} (h : w.ownsRow base e size v n xs) (k : Nat) (hk : v.ownBlock = some k) : ∃ c, w.heap[k]? = some (.cells c e (0, 0)) := by
  rcases h.2 with ⟨rfl, _⟩ | ⟨g, cap, cur, rfl, hb, hh, _⟩
  · simp [Value.ownBlock] at hk
  · have : g = k := by simpa [Value.ownBlock] using hk
    subst this
    exact ⟨_, hh⟩
theorem own_keep {S : Nat → Prop} {w w' : World} {base : Nat} {e : TypeId} {size n : Nat} {v : Value} {xs : List Value} (h : w.ownsRow base e size v n xs) (hf : Fr S w w') (hS : ∀ k, v.ownBlock = some k → ¬ S k) : w'.ownsRow base e size v n xs := by
  refine ⟨h.1, ?_⟩
  rcases h.2 with h2 | ⟨g, cap, cur, rfl, hb, hh, r⟩
  · exact .inl h2
  · exact .inr ⟨g, cap, cur, rfl, hb, hf.keep hh (hS g rfl), r⟩
theorem own_keep0 {w w' : World} {base : Nat} {e : TypeId} {size n : Nat} {v : Value} {xs : List Value} (h : w.ownsRow base e size v n xs) (hf : Fr F0 w w') : w'.ownsRow base e size v n xs := own_keep h hf (fun _ _ h => h)
theorem own_nil (W : World) (base : Nat) (e : TypeId) (size : Nat) : W.ownsRow base e size (.slice none 0 0) 0 [] := ⟨by simp, .inl ⟨rfl, rfl⟩⟩

/-- append(v, y), v a slice of the call's own, y of one cell: behind the box of y. -/
theorem wpList_append_one {ops : Array Oper} {rest : List Oper} {o : Oper} {a : Act} {Q : Exit → Act → World → Prop} {W : World} (hgd : o.guard = none) (s x : Operand) (t e : TypeId) (bytes : Nat) (z : Value)
    (ho : o.op = .call { callee := .builtin .append, args := #[s, x], argTypes := #[t, t] })
    (ht : P.underlying t = some (.slice e)) (hinfo : (P.info? e).map (fun i => (i.zero, i.size, i.bytes)) = some (some z, 1, bytes)) (hz : z.cells.size = 1) (hb0 : 0 < bytes)
    (base : Nat) (v : Value) (xs : List Value) (y : Value) (hs : a.eval s = v) (hx : a.eval x = .slice (some ⟨W.heap.size, 0, none⟩) 1 1) (h1 : y.oneCell' = true)
    (HO : W.ownsRow base e 1 v xs.length xs) (hbase : base ≤ W.heap.size) (hl : (xs.length + 1) * bytes ≤ 140737488355328)
    (h : ∀ v1 w1, w1.ownsRow base e 1 v1 (xs.length + 1) (xs ++ [y]) → Fr (fun k => v.ownBlock = some k) W w1 → wpList P ops Q rest (a.put o.dst v1) w1) :
    wpList P ops Q (o :: rest) a (W.alloc (.cells #[y] e)) := by
  obtain ⟨i0, hi, hzz⟩ := Option.map_eq_some_iff.1 hinfo
  simp only [Prod.mk.injEq] at hzz
  obtain ⟨hz0, hz1, hz2⟩ := hzz
  have hlen : xs.length + 1 ≤ 140737488355328 := Nat.le_trans (Nat.le_mul_of_pos_right _ hb0) hl
  refine wpList_append_own_at (W.alloc (.cells #[y] e)) hgd s x t ho base e i0 z 1 bytes ht hi hz0 hz1 hz2 hz (by omega) v xs.length xs hs (HO.alloc _) ⟨W.heap.size, 0, none⟩ 1 1 [y] hx rfl
    (World.news_of_block (cs := #[y]) (t := e) (fr := (0, 0)) (heap_alloc_new W _)) (by simpa using h1) (by simp only [maxLen]; omega) hl (by simp; omega) ?_
  intro v1 w1 hown hg _ hat
  exact h v1 w1 (by simpa using hown) (((Fr.refl _ W).alloc _).grown hg (fun k hk => .inl hk))
end

/-! ### Values that are read -/
/-- Cells of one value each lie behind an address; of none nothing is known. -/
structure ValsAt (w : World) (A : Option Addr) (vs : List Value) : Prop where
  cells : 0 < vs.length → ∃ ad, A = some ad ∧ ∀ j v, vs[j]? = some v → w.cell? (ad.add j) = some v
theorem ValsAt.keep {S : Nat → Prop} {w w' : World} {A : Option Addr} {vs : List Value} (h : ValsAt w A vs) (hf : Fr S w w') (hA : ∀ ad, A = some ad → ¬ S ad.block) : ValsAt w' A vs := by
  refine ⟨fun hn => ?_⟩
  obtain ⟨ad, e, hc⟩ := h.cells hn
  refine ⟨ad, e, fun j v hv => ?_⟩
  have hcell := hc j v hv
  have hlt := World.block_lt_of_cell? w _ hcell
  have hbl : (ad.add j).block = ad.block := by unfold Addr.add; split <;> rfl
  rw [World.cell?_of_block (w := w) (hf.block _ hlt (by rw [hbl]; exact hA ad e))]
  exact hcell
theorem ValsAt.keep0 {w w' : World} {A : Option Addr} {vs : List Value} (h : ValsAt w A vs) (hf : Fr F0 w w') : ValsAt w' A vs := h.keep hf (fun _ _ h => h)
theorem ValsAt.of_own {w : World} {base : Nat} {e : TypeId} {n : Nat} {v : Value} {xs : List Value} (h : w.ownsRow base e 1 v n xs) : ∃ A c, v = .slice A n c ∧ ValsAt w A xs ∧ xs.length = n ∧ n ≤ c ∧ (∀ ad, A = some ad → base ≤ ad.block) := by
  have hl : xs.length = n := by simpa using h.1
  rcases h.2 with ⟨rfl, rfl⟩ | ⟨g, cap, cur, rfl, hb, hh, h1, h2, h3, h4⟩
  · refine ⟨none, 0, rfl, ⟨fun hp => absurd hp (by omega)⟩, hl, Nat.le_refl _, fun ad h => by cases h⟩
  · refine ⟨_, cap, rfl, ⟨fun hp => ⟨_, rfl, fun j u hj => h.cells rfl j u hj⟩⟩, hl, h1, fun ad h => by cases h; exact hb⟩

/-! ### Bytes that are read -/
/-- n bytes lie behind an address; of none nothing is known. -/
structure BytesAt (w : World) (A : Option Addr) (n : Nat) (xs : List Int) : Prop where
  len : xs.length = n
  cells : 0 < n → ∃ ad, A = some ad ∧ ∀ j v, (xs.map (Value.int .u8))[j]? = some v → w.cell? (ad.add j) = some v
theorem BytesAt.keep {S : Nat → Prop} {w w' : World} {A : Option Addr} {n : Nat} {xs : List Int} (h : BytesAt w A n xs) (hf : Fr S w w') (hA : 0 < n → ∀ ad, A = some ad → ¬ S ad.block) : BytesAt w' A n xs := by
  refine ⟨h.len, fun hn => ?_⟩
  obtain ⟨ad, e, hc⟩ := h.cells hn
  refine ⟨ad, e, fun j v hv => ?_⟩
  have hcell := hc j v hv
  have hlt := World.block_lt_of_cell? w _ hcell
  have hbl : (ad.add j).block = ad.block := by unfold Addr.add; split <;> rfl
  rw [World.cell?_of_block (w := w) (hf.block _ hlt (by rw [hbl]; exact hA hn ad e))]
  exact hcell
theorem BytesAt.keep0 {w w' : World} {A : Option Addr} {n : Nat} {xs : List Int} (h : BytesAt w A n xs) (hf : Fr F0 w w') : BytesAt w' A n xs := h.keep hf (fun _ _ _ h => h)
theorem BytesAt.lt {w : World} {ad : Addr} {n : Nat} {xs : List Int} (h : BytesAt w (some ad) n xs) (hn : 0 < n) : ad.block < w.heap.size := by
  obtain ⟨ad', e, hc⟩ := h.cells hn
  cases e
  have hl := h.len
  have := World.block_lt_of_cell? w _ (hc 0 (.int .u8 (xs[0]'(by omega))) (by simp))
  have hbl : (ad.add 0).block = ad.block := by unfold Addr.add; split <;> rfl
  omega
theorem BytesAt.of_block {w : World} {b : Nat} {xs : List Int} {t : TypeId} {fr : Nat × Nat} (h : w.heap[b]? = some (.cells (xs.map (Value.int .u8)).toArray t fr)) : BytesAt w (some ⟨b, 0, none⟩) xs.length xs := by
  refine ⟨rfl, fun _ => ⟨_, rfl, fun j v hv => ?_⟩⟩
  rw [add_at]
  simp only [World.cell?, h]
  simpa using hv
theorem BytesAt.nil (w : World) (A : Option Addr) : BytesAt w A 0 [] := ⟨rfl, fun h => absurd h (by omega)⟩

/-- A string of bytes that are read. -/
theorem conv_at {P : Program} {w : World} {A : Option Addr} {n : Nat} {xs : List Int} (h : BytesAt w A n xs) {src dst e : TypeId} (hs : P.underlying src = some (.slice e)) (he : P.underlying e = some (.int .u8)) (hd : P.underlying dst = some .string) (c : Nat) :
    (convert src dst (.slice A n c)).run P w = .ok (.string (strOfNums xs)) w := by
  cases A with
  | none =>
    have h0 : n = 0 := by
      rcases Nat.eq_zero_or_pos n with h0 | h0
      · exact h0
      · obtain ⟨ad, e, _⟩ := h.cells h0
        cases e
    subst h0
    obtain rfl : xs = [] := List.eq_nil_of_length_eq_zero h.len
    exact run_convert_bytes_nil w src e hs he 0 c dst hd
  | some ad =>
    have hl : (loadCells ad n).run P w = .ok (xs.map (Value.int .u8)).toArray w := by
      have := run_loadCells_list (P := P) w ad (xs.map (Value.int .u8)) (fun j v hj => by
        have hjl : j < xs.length := by
          have := (List.getElem?_eq_some_iff.1 hj).1
          simpa using this
        obtain ⟨ad', e', hc⟩ := h.cells (by rw [← h.len]; omega)
        cases e'
        exact hc j v hj)
      simpa [h.len] using this
    rw [run_convert_bytes_string w src dst e _ n c hs he hd, run_bytesToString w _ n c xs hl, foldl_push_bytes]
    simp [strOfNums, ByteArray.empty, ByteArray.emptyWithCapacity]
    rfl

theorem BytesAt.take {w : World} {A : Option Addr} {n : Nat} {xs : List Int} (h : BytesAt w A n xs) (m : Nat) (hm : m ≤ n) : BytesAt w A m (xs.take m) := by
  have hl := h.len
  refine ⟨by simp; omega, fun hp => ?_⟩
  obtain ⟨ad, e, hc⟩ := h.cells (by omega)
  refine ⟨ad, e, fun j v hv => hc j v ?_⟩
  rw [List.map_take] at hv
  have hj : j < m := by
    have := (List.getElem?_eq_some_iff.1 hv).1
    simp at this
    omega
  rwa [List.getElem?_take_of_lt hj] at hv

/-- x & (2^m - 1). -/
theorem i64_and (n : Int) (m : Nat) (hm : m ≤ 62) : bits .and .i64 n (2 ^ m - 1) = n % 2 ^ m := by
  have hpos : 0 < 2 ^ m := Nat.two_pow_pos m
  have hle : 2 ^ m ≤ 2 ^ 62 := Nat.pow_le_pow_right (by decide) hm
  have hc : ((2 : Int) ^ m - 1) = ((2 ^ m - 1 : Nat) : Int) := by
    rw [Int.natCast_sub hpos]; simp
  have h127 : (BitVec.ofInt 64 ((2 ^ m - 1 : Nat) : Int)).toNat = 2 ^ m - 1 := by
    rw [BitVec.ofInt_natCast, BitVec.toNat_ofNat]
    exact Nat.mod_eq_of_lt (by omega)
  have key : (BitVec.ofInt 64 n &&& BitVec.ofInt 64 ((2 ^ m - 1 : Nat) : Int)).toNat = (n % ((2 ^ 64 : Nat) : Int)).toNat % 2 ^ m := by
    rw [BitVec.toNat_and, BitVec.toNat_ofInt, h127, Nat.and_two_pow_sub_one_eq_mod]
  show IntKind.i64.wrap ((BitVec.ofInt 64 n &&& BitVec.ofInt 64 ((2 : Int) ^ m - 1)).toNat : Nat) = n % 2 ^ m
  rw [hc, key, IntKind.wrap_i64]
  have hd : ((2 ^ 64 : Nat) : Int) = (2 : Int) ^ m * 2 ^ (64 - m) := by
    rw [← Int.pow_add, show m + (64 - m) = 64 by omega]; rfl
  have hmod : (((n % ((2 ^ 64 : Nat) : Int)).toNat % 2 ^ m : Nat) : Int) = n % 2 ^ m := by
    have h0 : 0 ≤ n % ((2 ^ 64 : Nat) : Int) := Int.emod_nonneg _ (by decide)
    rw [Int.natCast_emod, Int.toNat_of_nonneg h0, hd]
    simp only [Int.natCast_pow]
    exact Int.emod_emod_of_dvd _ (Int.dvd_mul_right _ _)
  rw [hmod]
  have h1 : 0 ≤ n % (2 : Int) ^ m := Int.emod_nonneg _ (by have := Int.pow_pos (n := 2) (m := m) (by decide); omega)
  have h2 : n % (2 : Int) ^ m < 2 ^ m := Int.emod_lt_of_pos _ (Int.pow_pos (by decide))
  have h3 : (2 : Int) ^ m ≤ 4611686018427387904 := by
    have : ((2 ^ m : Nat) : Int) ≤ ((2 ^ 62 : Nat) : Int) := by exact_mod_cast hle
    simpa using this
  omega
end Go.Proofs.YtgbaijfgmeealaaGreat
