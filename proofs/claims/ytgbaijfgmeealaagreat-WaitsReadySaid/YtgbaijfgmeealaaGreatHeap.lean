/-
  Words on the heap for this seat's walks: 'Fr', what a call leaves alone; 'MapIs', what a map's block holds, as a function; single rows of cells. Conditions: none.
-/
import Derived.WalkKit
import Derived.Handy
import Derived.Maps.OwnOps
import Derived.Maps.RangeRun
import Derived.Maps.RangeWalk
import Derived.Laws.Rows
import Derived.Deep.Draws
import Derived.Lib.Hide
set_option linter.unusedVariables false
set_option linter.unusedSimpArgs false
namespace Go.Proofs.YtgbaijfgmeealaaGreat
open Go.RowKit
open Go.ChangeMaps (setBlock)
open Go.Maps (Keyed)

/-- Of what stood in w, only the blocks of S may have turned. -/
structure Fr (S : Nat → Prop) (w w' : World) : Prop where
  os : w'.os = w.os
  tape : w'.tape = w.tape
  output : w'.output = w.output
  size : w.heap.size ≤ w'.heap.size
  block : ∀ k, k < w.heap.size → ¬ S k → w'.heap[k]? = w.heap[k]?

/-- No block of what stood. -/
abbrev F0 : Nat → Prop := fun _ => False

theorem Fr.refl (S : Nat → Prop) (w : World) : Fr S w w := ⟨rfl, rfl, rfl, Nat.le_refl _, fun _ _ _ => rfl⟩
theorem Fr.trans {S S' : Nat → Prop} {a b c : World} (h : Fr S a b) (k : Fr S' b c) (hS : ∀ i, S' i → S i ∨ a.heap.size ≤ i) : Fr S a c :=
  ⟨k.os.trans h.os, k.tape.trans h.tape, k.output.trans h.output, Nat.le_trans h.size k.size, fun i hi hn =>
    (k.block i (Nat.lt_of_lt_of_le hi h.size) (fun hs => by
      rcases hS i hs with h' | h'
      · exact hn h'
      · omega)).trans (h.block i hi hn)⟩
theorem Fr.then0 {S : Nat → Prop} {a b c : World} (h : Fr S a b) (k : Fr F0 b c) : Fr S a c := h.trans k (fun _ h => h.elim)
theorem Fr.mono {S S' : Nat → Prop} {w w' : World} (h : Fr S w w') (hS : ∀ i, S i → S' i) : Fr S' w w' :=
  ⟨h.os, h.tape, h.output, h.size, fun i hi hn => h.block i hi (fun hs => hn (hS i hs))⟩
theorem Fr.of0 {S : Nat → Prop} {w w' : World} (h : Fr F0 w w') : Fr S w w' := h.mono (fun _ h => h.elim)
theorem Fr.drew {S : Nat → Prop} {a w : World} (h : Fr S a w) : Fr S a w.drew := ⟨h.os, h.tape, h.output, h.size, h.block⟩
theorem Fr.drewN {S : Nat → Prop} {a w : World} (h : Fr S a w) (n : Nat) : Fr S a (w.drewN n) := ⟨h.os, h.tape, h.output, h.size, h.block⟩
theorem Fr.alloc {S : Nat → Prop} {a w : World} (h : Fr S a w) (o : Obj) : Fr S a (w.alloc o) :=
  ⟨h.os, h.tape, h.output, Nat.le_trans h.size (by simp), fun k hk hn => (Below.heap_alloc w o k (Nat.lt_of_lt_of_le hk h.size)).trans (h.block k hk hn)⟩
theorem Fr.setCell {S : Nat → Prop} {a w : World} (h : Fr S a w) {p : Addr} (hp : S p.block ∨ a.heap.size ≤ p.block) (v : Value) : Fr S a (w.setCell p v) :=
  ⟨h.os, h.tape, h.output, Nat.le_trans h.size (by simp [World.setCell]), fun k hk hn =>
    (Below.heap_setCell w p v k (fun e => by
      subst e
      rcases hp with h' | h'
      · exact hn h'
      · omega)).trans (h.block k hk hn)⟩
theorem Fr.setBlock {S : Nat → Prop} {a w : World} (h : Fr S a w) {b : Nat} (hp : S b ∨ a.heap.size ≤ b) (o : Obj) : Fr S a (setBlock w b o) :=
  ⟨h.os, h.tape, h.output, Nat.le_trans h.size (by simp [ChangeMaps.setBlock]), fun k hk hn => by
    have hne : b ≠ k := fun e => by
      subst e
      rcases hp with h' | h'
      · exact hn h'
      · omega
    have : (ChangeMaps.setBlock w b o).heap[k]? = w.heap[k]? := by simp [ChangeMaps.setBlock, Array.getElem?_setIfInBounds_ne hne]
    exact this.trans (h.block k hk hn)⟩
theorem Fr.setRow {S : Nat → Prop} {a w : World} (h : Fr S a w) {b : Nat} (hp : S b ∨ a.heap.size ≤ b) (cs : Array Value) : Fr S a (w.setRow b cs) :=
  ⟨h.os, h.tape, h.output, Nat.le_trans h.size (by simp), fun k hk hn => by
    have hne : k ≠ b := fun e => by
      subst e
      rcases hp with h' | h'
      · exact hn h'
      · omega
    exact (setRow_other w b k cs hne).trans (h.block k hk hn)⟩
theorem Fr.grown {S : Nat → Prop} {a w w' : World} {row : Option Nat} (h : Fr S a w) (hg : w.grownBy w' row) (hr : ∀ k, row = some k → S k ∨ a.heap.size ≤ k) : Fr S a w' :=
  ⟨hg.os.trans h.os, hg.tape.trans h.tape, hg.output.trans h.output, Nat.le_trans h.size hg.size, fun k hk hn =>
    (hg.block k (Nat.lt_of_lt_of_le hk h.size) (fun e => by
      rcases hr k e.symm with h' | h'
      · exact hn h'
      · omega)).trans (h.block k hk hn)⟩
theorem Fr.below {w w' : World} (h : Fr F0 w w') : Below w.heap.size w w' := ⟨h.os, h.tape, h.output, h.size, fun k hk => h.block k hk (fun h => h)⟩
theorem Fr.of_below {w w' : World} (h : Below w.heap.size w w') : Fr F0 w w' := ⟨h.os, h.tape, h.output, h.size, fun k hk _ => h.block k hk⟩
theorem Fr.keep {S : Nat → Prop} {w w' : World} (h : Fr S w w') {b : Nat} {o : Obj} (hb : w.heap[b]? = some o) (hn : ¬ S b) : w'.heap[b]? = some o :=
  (h.block b (lt_of_block hb) hn).trans hb
theorem Fr.keep0 {w w' : World} (h : Fr F0 w w') {b : Nat} {o : Obj} (hb : w.heap[b]? = some o) : w'.heap[b]? = some o := h.keep hb (fun h => h)

/-- A row of cells: what each holds, that none is frozen. -/
theorem cell_of {w : World} {b : Nat} {cs : Array Value} {t : TypeId} (h : w.heap[b]? = some (.cells cs t (0, 0))) (j : Nat) : w.cell? ⟨b, j, none⟩ = cs[j]? := by simp [World.cell?, h]
theorem free_of {w : World} {b : Nat} {cs : Array Value} {t : TypeId} (h : w.heap[b]? = some (.cells cs t (0, 0))) (j : Nat) : w.frozen? ⟨b, j, none⟩ = false := by simp [World.frozen?, h]
theorem keep_alloc {w : World} {b : Nat} {o : Obj} (h : w.heap[b]? = some o) (o' : Obj) : (w.alloc o').heap[b]? = some o := (Below.heap_alloc w o' b (lt_of_block h)).trans h
theorem alloc_at {w : World} {b : Nat} (h : b = w.heap.size) (o : Obj) : (w.alloc o).heap[b]? = some o := by subst h; exact heap_alloc_new w o
theorem keep_setCell {w : World} {b : Nat} {o : Obj} (h : w.heap[b]? = some o) {a : Addr} (hne : b ≠ a.block) (v : Value) : (w.setCell a v).heap[b]? = some o := (Below.heap_setCell w a v b hne).trans h
theorem set_cell {w : World} {b : Nat} {cs : Array Value} {t : TypeId} (h : w.heap[b]? = some (.cells cs t (0, 0))) (j : Nat) (v : Value) : (w.setCell ⟨b, j, none⟩ v).heap[b]? = some (.cells (cs.setIfInBounds j v) t (0, 0)) := heap_setCell_same w b j cs t v h
theorem keep_setBlock {w : World} {b c : Nat} {o : Obj} (h : w.heap[b]? = some o) (hne : b ≠ c) (o' : Obj) : (setBlock w c o').heap[b]? = some o := by
  have : (ChangeMaps.setBlock w c o').heap[b]? = w.heap[b]? := by simp [ChangeMaps.setBlock, Array.getElem?_setIfInBounds_ne (Ne.symm hne)]
  exact this.trans h
theorem set_block {w : World} {b : Nat} {o : Obj} (h : w.heap[b]? = some o) (o' : Obj) : (setBlock w b o').heap[b]? = some o' := by
  simp [ChangeMaps.setBlock, lt_of_block h]

/-! ### Maps -/
/-- The entries of a map's block, as a function of the key. -/
structure MapIs (P : Program) (k : TypeId) (es : Array MapEntry) (clock : Nat) (f : Value → Option Value) : Prop where
  keys : ∀ e ∈ es.toList, ∃ l, keyOf P k e.key = some l
  holds : ∀ e ∈ es.toList, f e.key = some e.val
  all : ∀ x v, f x = some v → ∃ e ∈ es.toList, e.key = x ∧ e.val = v
  apart : es.toList.Pairwise (fun x y => x.key ≠ y.key)
  born : ∀ e ∈ es.toList, e.born < clock
  once : (es.toList.map (·.born)).Nodup

open Classical in
/-- The function with one value anew. -/
noncomputable def upd (f : Value → Option Value) (x v : Value) : Value → Option Value := fun y => if y = x then some v else f y
theorem upd_same (f : Value → Option Value) (x v : Value) : upd f x v x = some v := by simp [upd]
theorem upd_other (f : Value → Option Value) (x v : Value) {y : Value} (h : y ≠ x) : upd f x v y = f y := by simp [upd, h]

section
variable {P : Program} {k e t : TypeId} {es : Array MapEntry} {clock : Nat} {f : Value → Option Value} {w : World} {b : Nat}
theorem MapIs.empty (P : Program) (k : TypeId) (clock : Nat) : MapIs P k #[] clock (fun _ => none) :=
  ⟨by simp, by simp, by simp, by simp, by simp, by simp⟩

/-- A look-up, comma-ok or not. -/
theorem MapIs.look (h : MapIs P k es clock f) (K : Keyed P k) (ht : P.underlying t = some (.map k e)) (hb : w.heap[b]? = some (.map es clock)) {x : Value} {lx : Lit} (hx : keyOf P k x = some lx) {z : Value} (hz : (zeroValue e).run P w = .ok z w) (c : Bool) :
    (Instr.lookup t (.map (some b)) x c).run P w = .ok (if c then .tuple #[(f x).getD z, .bool (f x).isSome] else (f x).getD z) w := by
  have hget : (getObj b).run P w = .ok (.map es clock) w := MapKept.run_getObj_map hb
  rcases K.find w hx es.toList h.keys with ⟨h1, h2⟩ | ⟨j, e0, h1, h2, h3⟩
  · have hf : f x = none := by
      cases hfx : f x with
      | none => rfl
      | some v =>
        obtain ⟨e0, he0, hk, _⟩ := h.all x v hfx
        exact absurd hk (h2 e0 he0)
    simp [Instr.lookup, run_underlying ht, hget, K.check w _ hx, h1, hz, Result.andThen, hf]
  · have hf : f x = some e0.val := by rw [← h3]; exact h.holds e0 (List.mem_of_getElem? h2)
    simp [Instr.lookup, run_underlying ht, hget, K.check w _ hx, h1, Result.andThen, hf]

theorem pairwise_push {es : Array MapEntry} {x : Value} {v : Value} {n : Nat} (h : es.toList.Pairwise (fun x y => x.key ≠ y.key)) (hn : ∀ e ∈ es.toList, e.key ≠ x) : (es.push ⟨x, v, n⟩).toList.Pairwise (fun x y => x.key ≠ y.key) := by
  rw [Array.toList_push, List.pairwise_append]
  refine ⟨h, by simp, ?_⟩
  intro a ha c hc
  simp at hc
  subst hc
  exact hn a ha

/-- A store: the key's value is the new one, all others stay. -/
theorem MapIs.store (h : MapIs P k es clock f) (K : Keyed P k) (ht : P.underlying t = some (.map k e)) (hb : w.heap[b]? = some (.map es clock)) {x : Value} {lx : Lit} (hx : keyOf P k x = some lx) (v : Value) :
    ∃ es' clock', (Instr.mapUpdate t (.map (some b)) x v).run P w = .ok () (setBlock w b (.map es' clock')) ∧ MapIs P k es' clock' (upd f x v) := by
  rcases K.find w hx es.toList h.keys with ⟨h1, h2⟩ | ⟨j, e0, h1, h2, h3⟩
  · refine ⟨es.push ⟨x, v, clock⟩, clock + 1, ?_, ?_, ?_, ?_, pairwise_push h.apart h2, ?_, ?_⟩
    · simp [Instr.mapUpdate, run_underlying ht, MapKept.run_getObj_map hb, K.check w false hx, h1, MapKept.run_setObj_map _ hb, Result.andThen, ChangeMaps.setBlock]
    · intro y hy
      simp at hy
      rcases hy with hy | rfl
      · exact h.keys y (by simpa using hy)
      · exact ⟨lx, hx⟩
    · intro y hy
      simp at hy
      rcases hy with hy | rfl
      · have hne := h2 y (by simpa using hy)
        rw [upd_other _ _ _ hne]; exact h.holds y (by simpa using hy)
      · exact upd_same _ _ _
    · intro y u hy
      by_cases hyx : y = x
      · subst hyx
        rw [upd_same] at hy
        exact ⟨⟨y, v, clock⟩, by simp, rfl, by simpa using hy⟩
      · rw [upd_other _ _ _ hyx] at hy
        obtain ⟨e0, he0, hk, hv⟩ := h.all y u hy
        exact ⟨e0, by simp at he0 ⊢; exact .inl he0, hk, hv⟩
    · intro y hy
      simp at hy
      rcases hy with hy | rfl
      · have := h.born y (by simpa using hy); omega
      · simp
    · rw [Array.toList_push, List.map_append, List.nodup_append]
      refine ⟨h.once, by simp, ?_⟩
      intro a ha c hc
      simp at hc ha
      obtain ⟨y, hy, rfl⟩ := ha
      have := h.born y (by simpa using hy)
      omega
  · have hj : es[j]? = some e0 := by simpa using h2
    have hm0 : e0 ∈ es.toList := List.mem_of_getElem? h2
    have hjl : j < es.toList.length := (List.getElem?_eq_some_iff.1 h2).1
    have hset : (es.modify j (fun e' => { e' with key := x, val := v })).toList = es.toList.set j ⟨x, v, e0.born⟩ := by
      rw [Array.toList_modify, ChangeMaps.modify_eq_set _ _ _ _ h2]
    have hkeys : (es.toList.set j ⟨x, v, e0.born⟩).map (·.key) = es.toList.map (·.key) := by
      rw [List.map_set]
      apply List.ext_getElem
      · simp
      · intro i hi1 hi2
        simp only [List.getElem_set, List.getElem_map]
        split
        · rename_i e1; subst e1
          have := (List.getElem?_eq_some_iff.1 h2).2
          rw [this, h3]
        · rfl
    have hborn : (es.toList.set j ⟨x, v, e0.born⟩).map (·.born) = es.toList.map (·.born) := by
      rw [List.map_set]
      apply List.ext_getElem
      · simp
      · intro i hi1 hi2
        simp only [List.getElem_set, List.getElem_map]
        split
        · rename_i e1; subst e1
          have := (List.getElem?_eq_some_iff.1 h2).2
          rw [this]
        · rfl
    have hother : ∀ y ∈ es.toList, y.key ≠ x → y ∈ es.toList.set j ⟨x, v, e0.born⟩ := by
      intro y hy hne
      obtain ⟨i, hi, rfl⟩ := List.getElem_of_mem hy
      have hij : j ≠ i := fun e1 => by
        subst e1
        have := (List.getElem?_eq_some_iff.1 h2).2
        exact hne (by rw [this, h3])
      refine List.mem_of_getElem? (i := i) ?_
      rw [List.getElem?_set_ne hij]
      simp [hi]
    have hcases : ∀ y ∈ es.toList.set j ⟨x, v, e0.born⟩, y = ⟨x, v, e0.born⟩ ∨ (y ∈ es.toList ∧ y.key ≠ x) := by
      intro y hy
      obtain ⟨i, hi, rfl⟩ := List.getElem_of_mem hy
      rw [List.getElem_set]
      have hi' : i < es.toList.length := by simpa using hi
      by_cases hij : j = i
      · left; simp [hij]
      · right
        simp only [hij, if_false]
        refine ⟨List.getElem_mem _, fun hk => ?_⟩
        have hp := List.pairwise_iff_getElem.1 h.apart
        have h2' := (List.getElem?_eq_some_iff.1 h2).2
        rcases Nat.lt_or_ge i j with hlt | hge
        · exact hp i j hi' hjl hlt (by rw [hk, h2', h3])
        · exact hp j i hjl hi' (by omega) (by rw [hk, h2', h3])
    refine ⟨es.modify j (fun e' => { e' with key := x, val := v }), clock, ?_, ?_, ?_, ?_, ?_, ?_, ?_⟩
    · simp [Instr.mapUpdate, run_underlying ht, MapKept.run_getObj_map hb, K.check w false hx, h1, hj, h3, K.stays w hx, MapKept.run_setObj_map _ hb, Result.andThen, ChangeMaps.setBlock]
    · intro y hy
      rw [hset] at hy
      rcases hcases y hy with rfl | ⟨hy, _⟩
      · exact ⟨lx, hx⟩
      · exact h.keys y hy
    · intro y hy
      rw [hset] at hy
      rcases hcases y hy with rfl | ⟨hy, hne⟩
      · exact upd_same _ _ _
      · rw [upd_other _ _ _ hne]; exact h.holds y hy
    · intro y u hy
      rw [hset]
      by_cases hyx : y = x
      · subst hyx
        rw [upd_same] at hy
        exact ⟨⟨y, v, e0.born⟩, List.mem_of_getElem? (i := j) (by simp at hjl; simp [hjl]), rfl, by simpa using hy⟩
      · rw [upd_other _ _ _ hyx] at hy
        obtain ⟨e1, he1, hk, hv⟩ := h.all y u hy
        exact ⟨e1, hother e1 he1 (by rw [hk]; exact hyx), hk, hv⟩
    · rw [hset]
      have h5 : (es.toList.map (fun x : MapEntry => x.key)).Pairwise (fun a b => a ≠ b) := List.pairwise_map.2 h.apart
      rw [← hkeys] at h5
      exact List.pairwise_map.1 h5
    · intro y hy
      rw [hset] at hy
      rcases hcases y hy with rfl | ⟨hy, _⟩
      · exact h.born e0 hm0
      · exact h.born y hy
    · rw [hset, hborn]; exact h.once

/-- Emptied. -/
theorem MapIs.clear (ht : P.underlying t = some (.map k e)) (hb : w.heap[b]? = some (.map es clock)) (ty : TypeId) :
    (Builtin.clear_ #[t] ty #[.map (some b)]).run P w = .ok (.tuple #[]) (setBlock w b (.map #[] clock)) := by
  simp [Builtin.clear_, run_underlying ht, MapKept.run_getObj_map hb, MapKept.run_setObj_map _ hb, Result.andThen, ChangeMaps.setBlock]
end
end Go.Proofs.YtgbaijfgmeealaaGreat
