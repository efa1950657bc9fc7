/-
  Rows whose elements are of several cells each: read, owned, appended to. Conditions: none.
-/
import Derived.Test.YtgbaijfgmeealaaLaws
import Derived.Test.YtgbaijfgmeealaaArgAid
set_option linter.unusedVariables false
set_option linter.unusedSimpArgs false
namespace Go.Proofs.Ytgbaijfgmeealaa
open Go.RowKit
section
variable {α : Type} {m : Nat} {f : α → List Value}
/-- A row of such elements that is read. -/
structure SrAt {α : Type} (m : Nat) (f : α → List Value) (w : World) (A : Option Addr) (L : List α) : Prop where
  cell : ∀ (i k : Nat) (x : α) (v : Value), L[i]? = some x → (f x)[k]? = some v → ∃ b off, A = some ⟨b, off, none⟩ ∧ w.cell? ⟨b, off + i * m + k, none⟩ = some v
theorem SrAt.keep {S : Nat → Prop} {w w' : World} {A : Option Addr} {L : List α} (h : SrAt m f w A L) (hf : Fr S w w') (hA : ∀ ad, A = some ad → 0 < L.length → ¬ S ad.block) : SrAt m f w' A L := by
  refine ⟨fun i k x v hx hv => ?_⟩
  obtain ⟨b, off, rfl, hc⟩ := h.cell i k x v hx hv
  refine ⟨b, off, rfl, ?_⟩
  have hl := World.block_lt_of_cell? w _ hc
  refine (World.cell?_of_block (w := w) (hf.block b hl (hA _ rfl ?_))).trans hc
  have := (List.getElem?_eq_some_iff.1 hx).1
  omega
theorem SrAt.keep0 {w w' : World} {A : Option Addr} {L : List α} (h : SrAt m f w A L) (hf : Fr F0 w w') : SrAt m f w' A L := h.keep hf (fun _ _ _ h => h)
theorem SrAt.get {w : World} {A : Option Addr} {L : List α} (h : SrAt m f w A L) {i : Nat} {x : α} (hx : L[i]? = some x) (hp : 0 < (f x).length) : ∃ b off, A = some ⟨b, off, none⟩ ∧ ∀ k v, (f x)[k]? = some v → w.cell? ⟨b, off + i * m + k, none⟩ = some v := by
  obtain ⟨b, off, e, _⟩ := h.cell i 0 x _ hx (List.getElem?_eq_getElem hp)
  refine ⟨b, off, e, fun k v hv => ?_⟩
  obtain ⟨b', off', e', hc⟩ := h.cell i k x v hx hv
  rw [e] at e'
  cases e'
  exact hc
theorem SrAt.lt {w : World} {ad : Addr} {L : List α} (h : SrAt m f w (some ad) L) (hp : 0 < L.length) (hf : ∀ x, 0 < (f x).length) : ad.block < w.heap.size := by
  obtain ⟨b, off, e, hc⟩ := h.get (List.getElem?_eq_getElem hp) (hf _)
  cases e
  have h5 := hc 0 _ (List.getElem?_eq_getElem (hf _))
  exact World.block_lt_of_cell? w ⟨b, off + 0 * m + 0, none⟩ h5
theorem SrAt.nil (m : Nat) (f : α → List Value) (w : World) (A : Option Addr) : SrAt m f w A [] := ⟨fun i k x v hx => by simp at hx⟩
theorem SrAt.flat {w : World} {b off : Nat} {L : List α} (hm : ∀ x, (f x).length = m) (h : SrAt m f w (some ⟨b, off, none⟩) L) : ∀ j u, (L.flatMap f)[j]? = some u → w.cell? ((⟨b, off, none⟩ : Addr).add j) = some u := by
  intro j u hu
  obtain ⟨i, k, x, rfl, hk, hx, hv⟩ := cells_flat_of f L (fun x _ => hm x) j u hu
  obtain ⟨b', off', e, hc⟩ := h.cell i k x u hx hv
  cases e
  rw [add_at, ← Nat.add_assoc]
  exact hc
theorem SrAt.of_own {w : World} {base : Nat} {t : TypeId} {v : Value} {L : List α} (hm : ∀ x, (f x).length = m) (h : w.ownsRow base t m v L.length (L.flatMap f)) :
    ∃ A c, v = .slice A L.length c ∧ SrAt m f w A L ∧ L.length ≤ c ∧ (∀ ad, A = some ad → base ≤ ad.block) ∧ (A = none → L = [] ∧ c = 0) ∧ ∀ ad, A = some ad → ad.spot = none := by
  rcases h.2 with ⟨rfl, h0⟩ | ⟨g, cap, cur, rfl, hb, hh, h1, h2, h3, h4⟩
  · have hL : L = [] := List.eq_nil_of_length_eq_zero h0
    subst hL
    exact ⟨none, 0, rfl, SrAt.nil _ _ _ _, Nat.le_refl _, fun ad h => (by cases h), fun _ => ⟨rfl, rfl⟩, fun ad h => (by cases h)⟩
  · refine ⟨_, cap, rfl, ⟨fun i k x v hx hv => ⟨g, 0, rfl, ?_⟩⟩, h1, fun ad h => (by cases h; exact hb), fun h => (by cases h), fun ad h => (by cases h; rfl)⟩
    have hu := cells_flat_at f L (fun x _ => hm x) i k x v hx hv
    have hu2 := hu
    rw [← h4, List.getElem?_take] at hu2
    split at hu2
    · rw [cell_of hh, Nat.zero_add]
      simpa using hu2
    · cases hu2
/-- A slice of such elements. -/
structure SlV {α : Type} (m : Nat) (f : α → List Value) (w : World) (v : Value) (L : List α) : Prop where
  ex : ∃ A c, v = .slice A L.length c ∧ SrAt m f w A L ∧ (A = none → L = [] ∧ c = 0) ∧ ∀ ad, A = some ad → ad.spot = none
theorem SlV.keep0 {w w' : World} {v : Value} {L : List α} (h : SlV m f w v L) (hf : Fr F0 w w') : SlV m f w' v L := by
  obtain ⟨A, c, e, h1, h2⟩ := h.ex
  exact ⟨A, c, e, h1.keep0 hf, h2⟩
theorem SlV.of_own {w : World} {base : Nat} {t : TypeId} {v : Value} {L : List α} (hm : ∀ x, (f x).length = m) (h : w.ownsRow base t m v L.length (L.flatMap f)) : SlV m f w v L := by
  obtain ⟨A, c, e, h1, _, _, h2⟩ := SrAt.of_own hm h
  exact ⟨A, c, e, h1, h2⟩
theorem SlV.nil (m : Nat) (f : α → List Value) (w : World) : SlV m f w (.slice none 0 0) [] := ⟨none, 0, rfl, SrAt.nil _ _ _ _, fun _ => ⟨rfl, rfl⟩, fun ad h => (by cases h)⟩
theorem own_empty (W : World) (base : Nat) (t : TypeId) (m : Nat) (hb : base ≤ W.heap.size) : (W.alloc (.cells #[] t)).ownsRow base t m (.slice (some ⟨W.heap.size, 0, none⟩) 0 0) 0 [] :=
  ⟨by simp, .inr ⟨W.heap.size, 0, #[], rfl, hb, alloc_at rfl _, Nat.le_refl _, Nat.zero_le _, by simp, by simp⟩⟩
/-- append(v, l...), l such elements that are read. -/
theorem wpList_append_rowS {P : Program} {ops : Array Oper} {rest : List Oper} {o : Oper} {a : Act} {Q : Exit → Act → World → Prop} {W : World} (hgd : o.guard = none) (s x : Operand) (ts : TypeId) {t : TypeId} (bytes : Nat) (z : Value)
    (ho : o.op = .call { callee := .builtin .append, args := #[s, x], argTypes := #[ts, ts] })
    (ht : P.underlying ts = some (.slice t)) (hinfo : (P.info? t).map (fun i => (i.zero, i.size, i.bytes)) = some (some z, m, bytes)) (hz : z.cells.size = m) (hm0 : 0 < m) (hb0 : 0 < bytes)
    (hm : ∀ x, (f x).length = m) (h1 : ∀ x, ∀ u ∈ f x, u.oneCell' = true)
    (base : Nat) (v : Value) (l news : List α) (b off c : Nat) (hs : a.eval s = v) (hx : a.eval x = .slice (some ⟨b, off, none⟩) news.length c)
    (HO : W.ownsRow base t m v l.length (l.flatMap f)) (hnews : SrAt m f W (some ⟨b, off, none⟩) news) (hbase : base ≤ W.heap.size) (hl : (l.length + news.length) * bytes ≤ 140737488355328)
    (h : ∀ v1 w1, w1.ownsRow base t m v1 (l ++ news).length ((l ++ news).flatMap f) → Fr (fun k => v.ownBlock = some k) W w1 → (v1.ownBlock = v.ownBlock ∨ v1.ownBlock = some W.heap.size) → wpList P ops Q rest (a.put o.dst v1) w1) :
    wpList P ops Q (o :: rest) a W := by
  obtain ⟨i0, hi, hzz⟩ := Option.map_eq_some_iff.1 hinfo
  simp only [Prod.mk.injEq] at hzz
  obtain ⟨hz0, hz1, hz2⟩ := hzz
  have hlen : l.length + news.length ≤ 140737488355328 := Nat.le_trans (Nat.le_mul_of_pos_right _ hb0) hl
  refine wpList_append_own_at W hgd s x ts ho base t i0 z m bytes ht hi hz0 hz1 hz2 hz hm0 v l.length _ hs HO ⟨b, off, none⟩ news.length c (news.flatMap f) hx (cells_flat_len f news (fun x _ => hm x))
    (hnews.flat hm) (fun u hu => ?_) (by simp only [maxLen]; omega) hl hbase ?_
  · obtain ⟨y, _, hu⟩ := List.mem_flatMap.1 hu
    exact h1 y u hu
  · intro v1 w1 hown hg _ hat
    refine h v1 w1 ?_ ((Fr.refl _ W).grown hg (fun k hk => .inl hk)) hat
    rw [List.length_append, List.flatMap_append]
    exact hown
/-- append(v, y), y an element that was just laid. -/
theorem wpList_append_oneS {P : Program} {ops : Array Oper} {rest : List Oper} {o : Oper} {a : Act} {Q : Exit → Act → World → Prop} {W : World} (hgd : o.guard = none) (s x : Operand) (ts : TypeId) {t : TypeId} (bytes : Nat) (z : Value)
    (ho : o.op = .call { callee := .builtin .append, args := #[s, x], argTypes := #[ts, ts] })
    (ht : P.underlying ts = some (.slice t)) (hinfo : (P.info? t).map (fun i => (i.zero, i.size, i.bytes)) = some (some z, m, bytes)) (hz : z.cells.size = m) (hm0 : 0 < m) (hb0 : 0 < bytes)
    (hm : ∀ x, (f x).length = m) (h1 : ∀ x, ∀ u ∈ f x, u.oneCell' = true)
    (base : Nat) (v : Value) (l : List α) (y : α) (B : Nat) (hB : B = W.heap.size) (hs : a.eval s = v) (hx : a.eval x = .slice (some ⟨B, 0, none⟩) 1 1)
    (HO : W.ownsRow base t m v l.length (l.flatMap f)) (hbase : base ≤ W.heap.size) (hl : (l.length + 1) * bytes ≤ 140737488355328)
    (h : ∀ v1 w1, w1.ownsRow base t m v1 (l ++ [y]).length ((l ++ [y]).flatMap f) → Fr (fun k => v.ownBlock = some k) W w1 → (v1.ownBlock = v.ownBlock ∨ v1.ownBlock = some (W.heap.size + 1)) → wpList P ops Q rest (a.put o.dst v1) w1) :
    wpList P ops Q (o :: rest) a (W.alloc (.cells (f y).toArray t)) := by
  subst hB
  have hfa : Fr F0 W (W.alloc (.cells (f y).toArray t)) := (Fr.refl _ W).alloc _
  refine wpList_append_rowS (news := [y]) hgd s x ts bytes z ho ht hinfo hz hm0 hb0 hm h1 base v l W.heap.size 0 1 hs hx (own_keep0 HO hfa) ⟨fun i k x' u hx' hu => ⟨W.heap.size, 0, rfl, ?_⟩⟩ (by simp; omega) (by simpa using hl) ?_
  · cases i with
    | succ i => simp at hx'
    | zero =>
      simp at hx'
      subst hx'
      rw [cell_of (alloc_at rfl _)]
      simpa using hu
  · intro v1 w1 h2 hf hat
    refine h v1 w1 h2 (hfa.of0.trans hf (fun k hk => .inl hk)) ?_
    rcases hat with hat | hat
    · exact .inl hat
    · right; rw [hat]; simp
end
end Go.Proofs.Ytgbaijfgmeealaa
