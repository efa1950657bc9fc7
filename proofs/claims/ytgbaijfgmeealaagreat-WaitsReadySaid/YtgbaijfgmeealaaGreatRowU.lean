/-
  Rows whose elements are of several cells each: read, owned, appended to. Own rows of elements of several cells: one element anew, the last ones cleared, cut. Rows of elements of several cells: copied over, one element put in between. Conditions: none.
-/
import Derived.Test.YtgbaijfgmeealaaGreatLaws
import Derived.Test.YtgbaijfgmeealaaGreatArgAid
import Derived.Lib.AppendZerosOnto

set_option linter.unusedVariables false
set_option linter.unusedSimpArgs false
namespace Go.Proofs.YtgbaijfgmeealaaGreat
open Go.RowKit
section
variable {α : Type} {m : Nat} {f : α → List Value}
/-- A row of such elements that is read. -/
structure SrAt {α : Type} (m : Nat) (f : α → List Value) (w : World) (A : Option Addr) (L : List α) : Prop where
  cell : ∀ (i k : Nat) (x : α) (v : Value), L[i]? = some x → (f x)[k]? = some v → ∃ b off, A = some ⟨b, off, none⟩ ∧ w.cell? ⟨b, off + i * m + k, none⟩ = some v
theorem SrAt.keep {S : Nat → Prop} {w w' : World} {A : Option Addr} {L : List α} (h : SrAt m f w A L) (hf : Fr S w w') (hA : ∀ ad, A = some ad → 0 < L.length → ¬ S ad.block) : SrAt m f w' A L := by
  refine ⟨fun i k x v hx hv => ?_⟩
  obtain ⟨b, off, rfl, hc⟩ := h.cell i k x v hx hv
  refine ⟨b, off, rfl, ?_⟩
  have hl := World.block_lt_of_cell? w _ hc
  refine (World.cell?_of_block (w := w) (hf.block b hl (hA _ rfl ?_))).trans hc
  have := (List.getElem?_eq_some_iff.1 hx).1
  omega
theorem SrAt.keep0 {w w' : World} {A : Option Addr} {L : List α} (h : SrAt m f w A L) (hf : Fr F0 w w') : SrAt m f w' A L := h.keep hf (fun _ _ _ h => h)
theorem SrAt.get {w : World} {A : Option Addr} {L : List α} (h : SrAt m f w A L) {i : Nat} {x : α} (hx : L[i]? = some x) (hp : 0 < (f x).length) : ∃ b off, A = some ⟨b, off, none⟩ ∧ ∀ k v, (f x)[k]? = some v → w.cell? ⟨b, off + i * m + k, none⟩ = some v := by
  obtain ⟨b, off, e, _⟩ := h.cell i 0 x _ hx (List.getElem?_eq_getElem hp)
  refine ⟨b, off, e, fun k v hv => ?_⟩
  obtain ⟨b', off', e', hc⟩ := h.cell i k x v hx hv
  rw [e] at e'
  cases e'
  exact hc
theorem SrAt.lt {w : World} {ad : Addr} {L : List α} (h : SrAt m f w (some ad) L) (hp : 0 < L.length) (hf : ∀ x, 0 < (f x).length) : ad.block < w.heap.size := by
  obtain ⟨b, off, e, hc⟩ := h.get (List.getElem?_eq_getElem hp) (hf _)
  cases e
  have h5 := hc 0 _ (List.getElem?_eq_getElem (hf _))
  exact World.block_lt_of_cell? w ⟨b, off + 0 * m + 0, none⟩ h5
theorem SrAt.nil (m : Nat) (f : α → List Value) (w : World) (A : Option Addr) : SrAt m f w A [] := ⟨fun i k x v hx => by simp at hx⟩
theorem SrAt.flat {w : World} {b off : Nat} {L : List α} (hm : ∀ x, (f x).length = m) (h : SrAt m f w (some ⟨b, off, none⟩) L) : ∀ j u, (L.flatMap f)[j]? = some u → w.cell? ((⟨b, off, none⟩ : Addr).add j) = some u := by
  intro j u hu
  obtain ⟨i, k, x, rfl, hk, hx, hv⟩ := cells_flat_of f L (fun x _ => hm x) j u hu
  obtain ⟨b', off', e, hc⟩ := h.cell i k x u hx hv
  cases e
  rw [add_at, ← Nat.add_assoc]
  exact hc
theorem SrAt.of_own {w : World} {base : Nat} {t : TypeId} {v : Value} {L : List α} (hm : ∀ x, (f x).length = m) (h : w.ownsRow base t m v L.length (L.flatMap f)) :
    ∃ A c, v = .slice A L.length c ∧ SrAt m f w A L ∧ L.length ≤ c ∧ (∀ ad, A = some ad → base ≤ ad.block) ∧ (A = none → L = [] ∧ c = 0) ∧ ∀ ad, A = some ad → ad.spot = none := by
  rcases h.2 with ⟨rfl, h0⟩ | ⟨g, cap, cur, rfl, hb, hh, h1, h2, h3, h4⟩
  · have hL : L = [] := List.eq_nil_of_length_eq_zero h0
    subst hL
    exact ⟨none, 0, rfl, SrAt.nil _ _ _ _, Nat.le_refl _, fun ad h => (by cases h), fun _ => ⟨rfl, rfl⟩, fun ad h => (by cases h)⟩
  · refine ⟨_, cap, rfl, ⟨fun i k x v hx hv => ⟨g, 0, rfl, ?_⟩⟩, h1, fun ad h => (by cases h; exact hb), fun h => (by cases h), fun ad h => (by cases h; rfl)⟩
    have hu := cells_flat_at f L (fun x _ => hm x) i k x v hx hv
    have hu2 := hu
    rw [← h4, List.getElem?_take] at hu2
    split at hu2
    · rw [cell_of hh, Nat.zero_add]
      simpa using hu2
    · cases hu2
/-- A slice of such elements. -/
structure SlV {α : Type} (m : Nat) (f : α → List Value) (w : World) (v : Value) (L : List α) : Prop where
  ex : ∃ A c, v = .slice A L.length c ∧ SrAt m f w A L ∧ (A = none → L = [] ∧ c = 0) ∧ ∀ ad, A = some ad → ad.spot = none
theorem SlV.keep0 {w w' : World} {v : Value} {L : List α} (h : SlV m f w v L) (hf : Fr F0 w w') : SlV m f w' v L := by
  obtain ⟨A, c, e, h1, h2⟩ := h.ex
  exact ⟨A, c, e, h1.keep0 hf, h2⟩
theorem SlV.of_own {w : World} {base : Nat} {t : TypeId} {v : Value} {L : List α} (hm : ∀ x, (f x).length = m) (h : w.ownsRow base t m v L.length (L.flatMap f)) : SlV m f w v L := by
  obtain ⟨A, c, e, h1, _, _, h2⟩ := SrAt.of_own hm h
  exact ⟨A, c, e, h1, h2⟩
theorem SlV.nil (m : Nat) (f : α → List Value) (w : World) : SlV m f w (.slice none 0 0) [] := ⟨none, 0, rfl, SrAt.nil _ _ _ _, fun _ => ⟨rfl, rfl⟩, fun ad h => (by cases h)⟩
theorem own_empty (W : World) (base : Nat) (t : TypeId) (m : Nat) (hb : base ≤ W.heap.size) : (W.alloc (.cells #[] t)).ownsRow base t m (.slice (some ⟨W.heap.size, 0, none⟩) 0 0) 0 [] :=
  ⟨by simp, .inr ⟨W.heap.size, 0, #[], rfl, hb, alloc_at rfl _, Nat.le_refl _, Nat.zero_le _, by simp, by simp⟩⟩
/-- append(v, l...), l such elements that are read. -/
theorem wpList_append_rowS {P : Program} {ops : Array Oper} {rest : List Oper} {o : Oper} {a : Act} {Q : Exit → Act → World → Prop} {W : World} (hgd : o.guard = none) (s x : Operand) (ts : TypeId) {t : TypeId} (bytes : Nat) (z : Value)
    (ho : o.op = .call { callee := .builtin .append, args := #[s, x], argTypes := #[ts, ts] })
    (ht : P.underlying ts = some (.slice t)) (hinfo : (P.info? t).map (fun i => (i.zero, i.size, i.bytes)) = some (some z, m, bytes)) (hz : z.cells.size = m) (hm0 : 0 < m) (hb0 : 0 < bytes)
    (hm : ∀ x, (f x).length = m) (h1 : ∀ x, ∀ u ∈ f x, u.oneCell' = true)
    (base : Nat) (v : Value) (l news : List α) (b off c : Nat) (hs : a.eval s = v) (hx : a.eval x = .slice (some ⟨b, off, none⟩) news.length c)
    (HO : W.ownsRow base t m v l.length (l.flatMap f)) (hnews : SrAt m f W (some ⟨b, off, none⟩) news) (hbase : base ≤ W.heap.size) (hl : (l.length + news.length) * bytes ≤ 140737488355328)
    (h : ∀ v1 w1, w1.ownsRow base t m v1 (l ++ news).length ((l ++ news).flatMap f) → Fr (fun k => v.ownBlock = some k) W w1 → (v1.ownBlock = v.ownBlock ∨ v1.ownBlock = some W.heap.size) → wpList P ops Q rest (a.put o.dst v1) w1) :
    wpList P ops Q (o :: rest) a W := by
  obtain ⟨i0, hi, hzz⟩ := Option.map_eq_some_iff.1 hinfo
  simp only [Prod.mk.injEq] at hzz
  obtain ⟨hz0, hz1, hz2⟩ := hzz
  have hlen : l.length + news.length ≤ 140737488355328 := Nat.le_trans (Nat.le_mul_of_pos_right _ hb0) hl
  refine wpList_append_own_at W hgd s x ts ho base t i0 z m bytes ht hi hz0 hz1 hz2 hz hm0 v l.length _ hs HO ⟨b, off, none⟩ news.length c (news.flatMap f) hx (cells_flat_len f news (fun x _ => hm x))
    (hnews.flat hm) (fun u hu => ?_) (by simp only [maxLen]; omega) hl hbase ?_
  · obtain ⟨y, _, hu⟩ := List.mem_flatMap.1 hu
    exact h1 y u hu
  · intro v1 w1 hown hg _ hat
    refine h v1 w1 ?_ ((Fr.refl _ W).grown hg (fun k hk => .inl hk)) hat
    rw [List.length_append, List.flatMap_append]
    exact hown
/-- append(v, y), y an element that was just laid. -/
theorem wpList_append_oneS {P : Program} {ops : Array Oper} {rest : List Oper} {o : Oper} {a : Act} {Q : Exit → Act → World → Prop} {W : World} (hgd : o.guard = none) (s x : Operand) (ts : TypeId) {t : TypeId} (bytes : Nat) (z : Value)
    (ho : o.op = .call { callee := .builtin .append, args := #[s, x], argTypes := #[ts, ts] })
    (ht : P.underlying ts = some (.slice t)) (hinfo : (P.info? t).map (fun i => (i.zero, i.size, i.bytes)) = some (some z, m, bytes)) (hz : z.cells.size = m) (hm0 : 0 < m) (hb0 : 0 < bytes)
    (hm : ∀ x, (f x).length = m) (h1 : ∀ x, ∀ u ∈ f x, u.oneCell' = true)
    (base : Nat) (v : Value) (l : List α) (y : α) (B : Nat) (hB : B = W.heap.size) (hs : a.eval s = v) (hx : a.eval x = .slice (some ⟨B, 0, none⟩) 1 1)
    (HO : W.ownsRow base t m v l.length (l.flatMap f)) (hbase : base ≤ W.heap.size) (hl : (l.length + 1) * bytes ≤ 140737488355328)
    (h : ∀ v1 w1, w1.ownsRow base t m v1 (l ++ [y]).length ((l ++ [y]).flatMap f) → Fr (fun k => v.ownBlock = some k) W w1 → (v1.ownBlock = v.ownBlock ∨ v1.ownBlock = some (W.heap.size + 1)) → wpList P ops Q rest (a.put o.dst v1) w1) :
    wpList P ops Q (o :: rest) a (W.alloc (.cells (f y).toArray t)) := by
  subst hB
  have hfa : Fr F0 W (W.alloc (.cells (f y).toArray t)) := (Fr.refl _ W).alloc _
  refine wpList_append_rowS (news := [y]) hgd s x ts bytes z ho ht hinfo hz hm0 hb0 hm h1 base v l W.heap.size 0 1 hs hx (own_keep0 HO hfa) ⟨fun i k x' u hx' hu => ⟨W.heap.size, 0, rfl, ?_⟩⟩ (by simp; omega) (by simpa using hl) ?_
  · cases i with
    | succ i => simp at hx'
    | zero =>
      simp at hx'
      subst hx'
      rw [cell_of (alloc_at rfl _)]
      simpa using hu
  · intro v1 w1 h2 hf hat
    refine h v1 w1 h2 (hfa.of0.trans hf (fun k hk => .inl hk)) ?_
    rcases hat with hat | hat
    · exact .inl hat
    · right; rw [hat]; simp
end
end Go.Proofs.YtgbaijfgmeealaaGreat
set_option linter.unusedVariables false
set_option linter.unusedSimpArgs false
namespace Go.Proofs.YtgbaijfgmeealaaGreat
open Go.RowKit
section
variable {α : Type} {m : Nat} {f : α → List Value}
theorem own_parts {w : World} {base g n cap : Nat} {t : TypeId} {L : List α} (h : w.ownsRow base t m (.slice (some ⟨g, 0, none⟩) n cap) n (L.flatMap f)) :
    ∃ rest, w.heap[g]? = some (.cells ((L.flatMap f) ++ rest).toArray t (0, 0)) ∧ base ≤ g ∧ n ≤ cap ∧ cap ≤ maxLen ∧ ((L.flatMap f) ++ rest).length = cap * m := by
  rcases h.2 with ⟨hv, _⟩ | ⟨g', cap', cur, hv, hb, hh, h1, h2, h3, h4⟩
  · cases hv
  · cases hv
    have e : cur.toList = (L.flatMap f) ++ cur.toList.drop (n * m) := by rw [← h4, List.take_append_drop]
    refine ⟨cur.toList.drop (n * m), ?_, hb, h1, h2, ?_⟩
    · rw [← e]; simpa using hh
    · rw [← e]; simpa using h3
theorem own_of_parts {w : World} {base g n cap : Nat} {t : TypeId} {xs cur : List Value} (hh : w.heap[g]? = some (.cells cur.toArray t (0, 0))) (hb : base ≤ g) (h1 : n ≤ cap) (h2 : cap ≤ maxLen) (h3 : cur.length = cap * m) (hx : xs.length = n * m) (h4 : cur.take (n * m) = xs) :
    w.ownsRow base t m (.slice (some ⟨g, 0, none⟩) n cap) n xs := ⟨hx, .inr ⟨g, cap, cur.toArray, rfl, hb, hh, h1, h2, by simpa using h3, by simpa using h4⟩⟩
theorem flat_split (hm : ∀ x, (f x).length = m) {L : List α} {i : Nat} (hi : i < L.length) : L.flatMap f = (L.take i).flatMap f ++ (f L[i] ++ (L.drop (i + 1)).flatMap f) ∧ ((L.take i).flatMap f).length = i * m := by
  constructor
  · have h1 := List.take_append_drop i L
    conv => lhs; rw [← h1]
    rw [List.flatMap_append, List.drop_eq_getElem_cons hi, List.flatMap_cons]
  · rw [cells_flat_len f _ (fun x _ => hm x), List.length_take]
    congr 1
    omega
theorem splat_mid {β : Type} (F1 X F2 Y : List β) (h : Y.length = X.length) : splat (F1 ++ (X ++ F2)) F1.length Y = F1 ++ (Y ++ F2) := by
  unfold splat
  rw [h, List.take_left, ← List.append_assoc F1 X F2, ← List.length_append, List.drop_left, List.append_assoc]
theorem flat_splat (hm : ∀ x, (f x).length = m) {L : List α} {i : Nat} (hi : i < L.length) (y : α) (rest : List Value) : splat ((L.flatMap f) ++ rest) (i * m) (f y) = (L.set i y).flatMap f ++ rest := by
  obtain ⟨e1, l1⟩ := flat_split hm hi
  have hset : L.set i y = L.take i ++ y :: L.drop (i + 1) := List.set_eq_take_append_cons_drop .. |>.trans (by rw [if_pos hi])
  rw [hset, List.flatMap_append, List.flatMap_cons, e1]
  have h5 := splat_mid ((L.take i).flatMap f) (f L[i]) ((L.drop (i + 1)).flatMap f ++ rest) (f y) (by rw [hm, hm])
  rw [l1] at h5
  simpa [List.append_assoc] using h5
theorem flat_take (hm : ∀ x, (f x).length = m) (L : List α) (rest : List Value) {i : Nat} (hi : i ≤ L.length) : ((L.flatMap f) ++ rest).take (i * m) = (L.take i).flatMap f := by
  have h1 := List.take_append_drop i L
  have l1 : ((L.take i).flatMap f).length = i * m := by
    rw [cells_flat_len f _ (fun x _ => hm x), List.length_take]
    congr 1
    omega
  conv => lhs; rw [← h1]
  rw [List.flatMap_append, List.append_assoc, List.take_append_of_le_length (by omega), List.take_of_length_le (by omega)]
theorem splat_take {β : Type} (cur : List β) (off : Nat) (cs : List β) (h : off ≤ cur.length) : (splat cur off cs).take off = cur.take off := by
  unfold splat
  rw [List.append_assoc, List.take_append_of_le_length (by rw [List.length_take]; omega), List.take_of_length_le (by rw [List.length_take]; omega)]
/-- One element anew. -/
theorem own_set {w : World} {base g n cap : Nat} {t : TypeId} {L : List α} (hm : ∀ x, (f x).length = m) (h : w.ownsRow base t m (.slice (some ⟨g, 0, none⟩) n cap) n (L.flatMap f)) (hn : L.length = n) {i : Nat} (hi : i < n) (y : α) :
    ∃ cur : List Value, w.heap[g]? = some (.cells cur.toArray t (0, 0)) ∧ i * m + (f y).length ≤ cur.length ∧ (w.setRow g (splat cur (i * m) (f y)).toArray).ownsRow base t m (.slice (some ⟨g, 0, none⟩) n cap) n ((L.set i y).flatMap f) := by
  subst hn
  obtain ⟨rest, hh, hb, h1, h2, h3⟩ := own_parts h
  have hfl := cells_flat_len f L (fun x _ => hm x)
  have him : i * m + m ≤ L.length * m := by rw [← Nat.succ_mul]; exact Nat.mul_le_mul_right m hi
  refine ⟨_, hh, by rw [List.length_append, hfl, hm]; omega, ?_⟩
  rw [flat_splat hm hi]
  have hfl2 := cells_flat_len f (L.set i y) (fun x _ => hm x)
  rw [List.length_set] at hfl2
  refine own_of_parts (setRow_heap _ _ _ _ _ _ hh) hb h1 h2 ?_ hfl2 ?_
  · rw [List.length_append, hfl2]; rw [List.length_append, hfl] at h3; omega
  · rw [List.take_append_of_le_length (by omega), List.take_of_length_le (by omega)]
theorem zero_len (z : Value) (n : Nat) : (Builtin.zeroCells z.cells n).toList.length = n * z.cells.size := by simp [Builtin.zeroCells]
/-- clear(s[i:]), and what s[:i] holds then. -/
theorem own_clear {P : Program} {w : World} {base g n cap : Nat} {t ts : TypeId} {L : List α} (hm : ∀ x, (f x).length = m) (h : w.ownsRow base t m (.slice (some ⟨g, 0, none⟩) n cap) n (L.flatMap f)) (hn : L.length = n) {i : Nat} (hi : i < n) (c : Nat) (ty : TypeId)
    (ht : P.underlying ts = some (.slice t)) {z : Value} (hv : ∀ w, (zeroValue t).run P w = .ok z w) (hz : z.cells.size = m) (h1 : ∀ u ∈ z.cells, u.oneCell' = true) (hm0 : 0 < m) :
    ∃ w', (Builtin.clear_ #[ts] ty #[.slice (some ⟨g, i * m, none⟩) (n - i) c]).run P w = .ok (.tuple #[]) w' ∧ w'.ownsRow base t m (.slice (some ⟨g, 0, none⟩) i cap) i ((L.take i).flatMap f) ∧ Fr (fun k => k = g) w w' := by
  subst hn
  obtain ⟨rest, hh, hb, hc1, hc2, hc3⟩ := own_parts h
  have hfl := cells_flat_len f L (fun x _ => hm x)
  have hzl := zero_len z (L.length - i)
  have him : i * m + (L.length - i) * m = L.length * m := by rw [← Nat.add_mul]; congr 1; omega
  have hlc : L.length * m ≤ cap * m := Nat.mul_le_mul_right m hc1
  have hlen : i * m + (Builtin.zeroCells z.cells (L.length - i)).toList.length ≤ ((L.flatMap f) ++ rest).length := by rw [hzl, hz, hc3]; omega
  have hone : ∀ u ∈ (Builtin.zeroCells z.cells (L.length - i)).toList, u.oneCell' = true := by
    intro u hu
    simp only [Builtin.zeroCells, Array.toList_map, List.mem_map, Array.mem_toList_iff, Array.mem_range] at hu
    obtain ⟨q, hq, rfl⟩ := hu
    have hlt : q % z.cells.size < z.cells.size := Nat.mod_lt _ (by omega)
    rw [getElem!_pos z.cells _ hlt]
    exact h1 _ (Array.getElem_mem hlt)
  have hst := run_storeCells_mid (P := P) g t (Builtin.zeroCells z.cells (L.length - i)).toList (i * m) _ w hh hlen hone
  have hst2 : (storeCells ⟨g, i * m, none⟩ (Builtin.zeroCells z.cells (L.length - i)).toList).run P w = .ok () (w.setRow g (splat ((L.flatMap f) ++ rest) (i * m) (Builtin.zeroCells z.cells (L.length - i)).toList).toArray) := by
    rw [storeCells_shift, Nat.add_zero]; exact hst
  refine ⟨w.setRow g (splat ((L.flatMap f) ++ rest) (i * m) (Builtin.zeroCells z.cells (L.length - i)).toList).toArray, ?_, ?_, (Fr.refl _ _).setRow (by exact .inl rfl) _⟩
  · obtain ⟨q, hq⟩ : ∃ q, L.length - i = q + 1 := ⟨L.length - i - 1, by omega⟩
    rw [hq] at hst2 ⊢
    simp [Builtin.clear_, run_underlying ht, hv, hst2]
  · have hil : i * m ≤ ((L.flatMap f) ++ rest).length := by omega
    refine own_of_parts (setRow_heap _ _ _ _ _ _ hh) hb (by omega) hc2 (by rw [splat_length _ _ _ hlen]; exact hc3) ?_ ?_
    · rw [cells_flat_len f _ (fun x _ => hm x), List.length_take]; congr 1; omega
    · rw [splat_take _ _ _ hil, flat_take hm L rest (by omega)]
end
end Go.Proofs.YtgbaijfgmeealaaGreat
set_option linter.unusedVariables false
set_option linter.unusedSimpArgs false
namespace Go.Proofs.YtgbaijfgmeealaaGreat
open Go.RowKit
def insAt {α : Type} (L : List α) (i : Nat) (y : α) : List α := L.take i ++ y :: L.drop i
section
variable {P : Program}
/-- copy(dst, src), dst of a row, src read. -/
theorem run_copy_rowS (w : World) (dT sT ty elem : TypeId) (g o dLen dCap : Nat) (a : Addr) (sLen sCap : Nat) (cur : List Value) (t : TypeId) (cs : List Value) (k m : Nat)
    (hu : P.underlying dT = some (.slice elem)) (hs : (P.info? elem).map (·.size) = some m) (hg : w.heap[g]? = some (.cells cur.toArray t (0, 0))) (hk : k = Nat.min sLen dLen) (hn : cs.length = k * m)
    (hsrc : ∀ j v, cs[j]? = some v → w.cell? (a.add j) = some v) (hfit : o + cs.length ≤ cur.length) (h1 : ∀ v ∈ cs, v.oneCell' = true) :
    (Builtin.copy_ #[dT, sT] ty #[.slice (some ⟨g, o, none⟩) dLen dCap, .slice (some a) sLen sCap]).run P w = .ok (goInt k) (w.setRow g (splat cur o cs).toArray) := by
  have hl := run_loadCells_list (P := P) w a cs hsrc
  have hst : (storeCells ⟨g, o, none⟩ cs).run P w = .ok () (w.setRow g (splat cur o cs).toArray) := by
    rw [storeCells_shift, Nat.add_zero]; exact run_storeCells_mid g t cs o cur w hg hfit h1
  cases hq : P.info? elem with
  | none => simp [hq] at hs
  | some i =>
    have hi : i.size = m := by simpa [hq] using hs
    rw [hn] at hl
    subst hk
    simp [Builtin.copy_, run_underlying hu, Builtin.lenOf, Builtin.firstCells, sizeOf, typeInfo, hq, hi, hl, hst]
theorem wpList_copy_at {ops : Array Oper} {rest : List Oper} {o : Oper} {a : Act} {Q : Exit → Act → World → Prop} {w : World} (hgd : o.guard = none) (d s : Operand) (t t' : TypeId)
    (ho : o.op = .call { callee := .builtin .copy, args := #[d, s], argTypes := #[t, t'] }) (v u : Value) (hd : a.eval d = v) (hs : a.eval s = u) {v' : Value} {w' : World}
    (hr : ∀ ty, (Builtin.copy_ #[t, t'] ty #[v, u]).run P w = .ok v' w') (h : wpList P ops Q rest (a.put o.dst v') w') : wpList P ops Q (o :: rest) a w := by
  refine wpList_plain hgd fun K hK => ?_
  unfold Oper.wp execOp
  simp only [ho, resolve, invoke, builtin, Sem.run_bind, Sem.run_pure, Result.andThen_ok, List.map_toArray, List.map_cons, List.map_nil, hd, hs, hr]
  exact hK _ _ h
theorem wpList_append_at {ops : Array Oper} {rest : List Oper} {o : Oper} {a : Act} {Q : Exit → Act → World → Prop} {w : World} (hgd : o.guard = none) (d s : Operand) (t t' : TypeId)
    (ho : o.op = .call { callee := .builtin .append, args := #[d, s], argTypes := #[t, t'] }) (v u : Value) (hd : a.eval d = v) (hs : a.eval s = u) {v' : Value} {w' : World}
    (hr : ∀ ty, (Builtin.append_ #[t, t'] ty #[v, u]).run P w = .ok v' w') (h : wpList P ops Q rest (a.put o.dst v') w') : wpList P ops Q (o :: rest) a w := by
  refine wpList_plain hgd fun K hK => ?_
  unfold Oper.wp execOp
  simp only [ho, resolve, invoke, builtin, Sem.run_bind, Sem.run_pure, Result.andThen_ok, List.map_toArray, List.map_cons, List.map_nil, hd, hs, hr]
  exact hK _ _ h
end
theorem splat_up {α : Type} (cur Y B : List α) (a1 a2 : Nat) (h : a2 = a1 + Y.length) (h2 : a2 + B.length ≤ cur.length) : splat (splat cur a2 B) a1 Y = cur.take a1 ++ Y ++ B ++ cur.drop (a2 + B.length) := by
  have e0 : (splat cur a2 B).take a1 = cur.take a1 := by
    unfold splat
    rw [List.append_assoc, List.take_append_of_le_length (by rw [List.length_take]; omega), List.take_take]
    congr 1; omega
  have e1 : (splat cur a2 B).drop (a1 + Y.length) = B ++ cur.drop (a2 + B.length) := by
    unfold splat
    rw [← h, List.append_assoc, List.drop_left' (by rw [List.length_take]; omega)]
  show (splat cur a2 B).take a1 ++ Y ++ (splat cur a2 B).drop (a1 + Y.length) = _
  rw [e0, e1]
  simp only [List.append_assoc]
theorem splat_dn {α : Type} (cur Y B : List α) (a1 a2 : Nat) (h : a2 = a1 + Y.length) (h2 : a2 + B.length ≤ cur.length) : splat (splat cur a1 Y) a2 B = cur.take a1 ++ Y ++ B ++ cur.drop (a2 + B.length) := by
  have e0 : (splat cur a1 Y).take a2 = cur.take a1 ++ Y := by
    unfold splat
    rw [List.take_left' (by rw [List.length_append, List.length_take]; omega)]
  have e1 : (splat cur a1 Y).drop (a2 + B.length) = cur.drop (a2 + B.length) := by
    unfold splat
    rw [← h, List.drop_append, List.drop_eq_nil_of_le (by rw [List.length_append, List.length_take]; omega), List.nil_append, List.drop_drop, List.length_append, List.length_take]
    congr 1; omega
  show (splat cur a1 Y).take a2 ++ B ++ (splat cur a1 Y).drop (a2 + B.length) = _
  rw [e0, e1]
section
variable {α : Type} {m : Nat} {f : α → List Value}
theorem insAt_len (L : List α) {i : Nat} (hi : i ≤ L.length) (y : α) : (insAt L i y).length = L.length + 1 := by unfold insAt; simp; omega
theorem insAt_flat (L : List α) (i : Nat) (y : α) : (insAt L i y).flatMap f = (L.take i).flatMap f ++ f y ++ (L.drop i).flatMap f := by unfold insAt; rw [List.flatMap_append, List.flatMap_cons, List.append_assoc]
theorem insAt_end (L : List α) (y : α) : insAt L L.length y = L ++ [y] := by unfold insAt; simp
theorem flat_drop (hm : ∀ x, (f x).length = m) (L : List α) {i : Nat} (hi : i ≤ L.length) : (L.flatMap f).drop (i * m) = (L.drop i).flatMap f := by
  have l1 : ((L.take i).flatMap f).length = i * m := by
    rw [cells_flat_len f _ (fun x _ => hm x), List.length_take]
    congr 1
    omega
  conv => lhs; rw [← List.take_append_drop i L, List.flatMap_append]
  rw [List.drop_left' l1]
/-- What lies there when an element has been put in between. -/
theorem own_ins {w : World} {base g cap : Nat} {t : TypeId} {L : List α} (hm : ∀ x, (f x).length = m) {i : Nat} (hi : i ≤ L.length) (y : α) {cur : List Value} {tl : List Value}
    (hh : w.heap[g]? = some (.cells ((L.take i).flatMap f ++ f y ++ (L.drop i).flatMap f ++ tl).toArray t (0, 0))) (hb : base ≤ g) (h1 : L.length + 1 ≤ cap) (h2 : cap ≤ maxLen) (h3 : ((L.take i).flatMap f ++ f y ++ (L.drop i).flatMap f ++ tl).length = cap * m) :
    w.ownsRow base t m (.slice (some ⟨g, 0, none⟩) (L.length + 1) cap) (L.length + 1) ((insAt L i y).flatMap f) := by
  have hl := cells_flat_len f (insAt L i y) (fun x _ => hm x)
  rw [insAt_len L hi] at hl
  refine own_of_parts hh hb h1 h2 h3 hl ?_
  rw [← insAt_flat, List.take_left' hl]
end
end Go.Proofs.YtgbaijfgmeealaaGreat
