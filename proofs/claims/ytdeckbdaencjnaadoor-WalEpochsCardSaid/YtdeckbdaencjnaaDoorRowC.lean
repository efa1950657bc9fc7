/-
  Rows of elements that each end in a slice of bytes: owned, read, appended to. Rows of elements that end in a slice of bytes which may lie anywhere apart from the row: read, appended to. Conditions: none.
-/
import Derived.Test.YtdeckbdaencjnaaDoorW1
set_option linter.unusedVariables false
set_option linter.unusedSimpArgs false
namespace Go.Proofs.YtdeckbdaencjnaaDoor
open Go.RowKit
section
variable {α : Type} (head : α → List Value) (byt : α → List Int)
/-- An element's cells. -/
def elB (x : α × (Option Addr × Nat)) : List Value := head x.1 ++ [.slice x.2.1 (byt x.1).length x.2.2]
theorem elB_flat_len {hd : Nat} (hh : ∀ a, (head a).length = hd) : ∀ (l : List (α × (Option Addr × Nat))), (l.flatMap (elB head byt)).length = l.length * (hd + 1)
  | [] => by simp
  | x :: l => by rw [List.flatMap_cons, List.length_append, elB_flat_len hh l]; simp [elB, hh, Nat.succ_mul]; omega
theorem elB_flat_at {hd : Nat} (hh : ∀ a, (head a).length = hd) : ∀ (l : List (α × (Option Addr × Nat))) (i k : Nat) (x : α × (Option Addr × Nat)) (v : Value), l[i]? = some x → (elB head byt x)[k]? = some v → (l.flatMap (elB head byt))[i * (hd + 1) + k]? = some v
  | [], i, k, x, v, h, _ => by simp at h
  | y :: l, 0, k, x, v, h, hv => by
    simp at h; subst h
    have hk : k < (elB head byt y).length := (List.getElem?_eq_some_iff.1 hv).1
    rw [List.flatMap_cons, List.getElem?_append_left (by omega), Nat.zero_mul, Nat.zero_add]; exact hv
  | y :: l, i + 1, k, x, v, h, hv => by
    have hy : (elB head byt y).length = hd + 1 := by simp [elB, hh]
    rw [List.flatMap_cons, List.getElem?_append_right (by rw [hy, Nat.succ_mul]; omega)]
    have := elB_flat_at hh l i k x v (by simpa using h) hv
    rw [← this]; congr 1; rw [hy, Nat.succ_mul]; omega
/-- Rows that are read. -/
structure RowsAt (hd : Nat) (w : World) (A : Option Addr) (l : List α) : Prop where
  row : ∀ i a, l[i]? = some a → ∃ b off B c, A = some ⟨b, off, none⟩ ∧ (∀ j u, (head a)[j]? = some u → w.cell? ⟨b, off + i * (hd + 1) + j, none⟩ = some u) ∧ w.cell? ⟨b, off + i * (hd + 1) + hd, none⟩ = some (.slice B (byt a).length c) ∧ Byt w B c (byt a) ∧ Bys (byt a)
/-- Rows of the call's own. -/
structure OwnRowB (hd : Nat) (t : TypeId) (w : World) (base : Nat) (v : Value) (l : List α) : Prop where
  ex : ∃ ss : List (Option Addr × Nat), ss.length = l.length ∧ w.ownsRow base t (hd + 1) v l.length ((l.zip ss).flatMap (elB head byt)) ∧ ∀ (i : Nat) (a : α) (s : Option Addr × Nat), l[i]? = some a → ss[i]? = some s → Byt w s.1 s.2 (byt a) ∧ Bys (byt a) ∧ (∀ ad, s.1 = some ad → 0 < (byt a).length → v.ownBlock ≠ some ad.block ∧ base ≤ ad.block)
variable {head : α → List Value} {byt : α → List Int} {hd : Nat} {t : TypeId} {w w' : World} {base : Nat} {v : Value} {l : List α} {A : Option Addr}
theorem RowsAt.keep0 (h : RowsAt head byt hd w A l) (hf : Fr F0 w w') : RowsAt head byt hd w' A l := by
  refine ⟨fun i a ha => ?_⟩
  obtain ⟨b, off, B, c, e, h1, h2, h3, h4⟩ := h.row i a ha
  have kc : ∀ p u, w.cell? p = some u → w'.cell? p = some u := fun p u h => (World.cell?_of_block (w := w) (hf.block _ (World.block_lt_of_cell? w _ h) (fun h => h))).trans h
  exact ⟨b, off, B, c, e, fun j u hu => kc _ _ (h1 j u hu), kc _ _ h2, h3.keep0 hf, h4⟩
theorem RowsAt.keepBase {S : Nat → Prop} {lim : Nat} (h : RowsAt head byt hd w A l) (hf : Fr S w w') (hS : ∀ k, S k → lim ≤ k) (hl : w.heap.size ≤ lim) : RowsAt head byt hd w' A l := by
  have hf0 : ∀ k, k < w.heap.size → w'.heap[k]? = w.heap[k]? := fun k hk => hf.block k hk (fun hs => by have := hS k hs; omega)
  exact h.keep0 ⟨hf.os, hf.tape, hf.output, hf.size, fun k hk _ => hf0 k hk⟩
theorem RowsAt.drop (h : RowsAt head byt hd w A l) (n : Nat) : RowsAt head byt hd w (A.map (·.add (n * (hd + 1)))) (l.drop n) := by
  refine ⟨fun i a ha => ?_⟩
  rw [List.getElem?_drop] at ha
  obtain ⟨b, off, B, c, rfl, h1, h2, h3, h4⟩ := h.row (n + i) a ha
  refine ⟨b, off + n * (hd + 1), B, c, by simp [add_at], fun j u hu => ?_, ?_, h3, h4⟩
  · have := h1 j u hu
    rw [Nat.add_mul, ← Nat.add_assoc] at this
    exact this
  · rw [Nat.add_mul, ← Nat.add_assoc] at h2
    exact h2
theorem RowsAt.nil (A : Option Addr) : RowsAt head byt hd w A ([] : List α) := ⟨fun i a h => by simp at h⟩
theorem OwnRowB.nil (w : World) (base : Nat) : OwnRowB head byt hd t w base (.slice none 0 0) ([] : List α) := ⟨[], rfl, by simpa using own_nil w base t (hd + 1), fun i a s h => by simp at h⟩
theorem OwnRowB.reads (hh : ∀ a, (head a).length = hd) (h : OwnRowB head byt hd t w base v l) : ∃ A c, v = .slice A l.length c ∧ RowsAt head byt hd w A l ∧ l.length ≤ c ∧ c ≤ 9223372036854775807 := by
  obtain ⟨ss, hs, ho, he⟩ := h.ex
  obtain ⟨hl, ho⟩ := ho
  rcases ho with ⟨rfl, hn⟩ | ⟨g, cap, cur, rfl, hb, hg, hc, hm, hsz, htk⟩
  · obtain rfl : l = [] := List.eq_nil_of_length_eq_zero hn
    exact ⟨none, 0, rfl, RowsAt.nil _, Nat.le_refl _, by decide⟩
  · refine ⟨some ⟨g, 0, none⟩, cap, rfl, ⟨fun i a ha => ?_⟩, hc, by simp only [maxLen] at hm; omega⟩
    have hi : i < l.length := (List.getElem?_eq_some_iff.1 ha).1
    obtain ⟨s, hsi⟩ : ∃ s, ss[i]? = some s := ⟨ss[i], List.getElem?_eq_getElem (by omega)⟩
    have hz : (l.zip ss)[i]? = some (a, s) := by rw [List.getElem?_zip_eq_some]; exact ⟨ha, hsi⟩
    obtain ⟨h1, h2, h3⟩ := he i a s ha hsi
    have cell : ∀ k u, (elB head byt (a, s))[k]? = some u → w.cell? ⟨g, 0 + i * (hd + 1) + k, none⟩ = some u := by
      intro k u hu
      have h4 := elB_flat_at head byt hh (l.zip ss) i k (a, s) u hz hu
      have hlt := (List.getElem?_eq_some_iff.1 h4).1
      rw [elB_flat_len head byt hh] at hlt
      rw [← htk] at h4
      have hzl : (l.zip ss).length = l.length := by rw [List.length_zip]; omega
      rw [hzl] at hlt
      rw [List.getElem?_take_of_lt hlt] at h4
      rw [cell_of hg, Nat.zero_add]
      simpa using h4
    refine ⟨g, 0, s.1, s.2, rfl, fun j u hu => ?_, ?_, h1, h2⟩
    · have hj : j < (head a).length := (List.getElem?_eq_some_iff.1 hu).1
      exact cell j u (by rw [elB, List.getElem?_append_left hj]; exact hu)
    · refine cell hd _ ?_
      rw [elB, List.getElem?_append_right (by simp [hh])]
      simp [hh]
/-- An element of the call's own rows, and its bytes lie in a block of the call's own. -/
theorem OwnRowB.elem (hh : ∀ a, (head a).length = hd) (h : OwnRowB head byt hd t w base v l) (i : Nat) (a : α) (ha : l[i]? = some a) : ∃ b c B cB, v = .slice (some ⟨b, 0, none⟩) l.length c ∧ (∀ j u, (head a)[j]? = some u → w.cell? ⟨b, i * (hd + 1) + j, none⟩ = some u) ∧ w.cell? ⟨b, i * (hd + 1) + hd, none⟩ = some (.slice B (byt a).length cB) ∧ Byt w B cB (byt a) ∧ Bys (byt a) ∧ (∀ ad, B = some ad → 0 < (byt a).length → base ≤ ad.block) := by
  have hi : i < l.length := (List.getElem?_eq_some_iff.1 ha).1
  obtain ⟨ss, hs, ho, he⟩ := h.ex
  obtain ⟨hl, ho⟩ := ho
  rcases ho with ⟨rfl, hn⟩ | ⟨g, cap, cur, rfl, hb, hg, hc, hm, hsz, htk⟩
  · omega
  obtain ⟨s, hsi⟩ : ∃ s, ss[i]? = some s := ⟨ss[i], List.getElem?_eq_getElem (by omega)⟩
  have hz : (l.zip ss)[i]? = some (a, s) := by rw [List.getElem?_zip_eq_some]; exact ⟨ha, hsi⟩
  obtain ⟨h1, h2, h3⟩ := he i a s ha hsi
  have cell : ∀ k u, (elB head byt (a, s))[k]? = some u → w.cell? ⟨g, i * (hd + 1) + k, none⟩ = some u := by
    intro k u hu
    have h4 := elB_flat_at head byt hh (l.zip ss) i k (a, s) u hz hu
    have hlt := (List.getElem?_eq_some_iff.1 h4).1
    rw [elB_flat_len head byt hh] at hlt
    rw [← htk] at h4
    have hzl : (l.zip ss).length = l.length := by rw [List.length_zip]; omega
    rw [hzl] at hlt
    rw [List.getElem?_take_of_lt hlt] at h4
    rw [cell_of hg]
    simpa using h4
  refine ⟨g, cap, s.1, s.2, rfl, fun j u hu => ?_, ?_, h1, h2, fun ad e hp => (h3 ad e hp).2⟩
  · have hj : j < (head a).length := (List.getElem?_eq_some_iff.1 hu).1
    exact cell j u (by rw [elB, List.getElem?_append_left hj]; exact hu)
  · refine cell hd _ ?_
    rw [elB, List.getElem?_append_right (by simp [hh])]
    simp [hh]
theorem OwnRowB.keep (h : OwnRowB head byt hd t w base v l) (hf : Fr F0 w w') : OwnRowB head byt hd t w' base v l := by
  obtain ⟨ss, hs, ho, he⟩ := h.ex
  exact ⟨ss, hs, own_keep0 ho hf, fun i a s ha hsi => ⟨(he i a s ha hsi).1.keep0 hf, (he i a s ha hsi).2⟩⟩
theorem OwnRowB.keepS {S : Nat → Prop} (h : OwnRowB head byt hd t w base v l) (hf : Fr S w w') (hS : ∀ k, S k → k < base) : OwnRowB head byt hd t w' base v l := by
  obtain ⟨ss, hs, ho, he⟩ := h.ex
  refine ⟨ss, hs, own_keep ho hf (fun k hk hsk => ?_), fun i a s ha hsi => ⟨(he i a s ha hsi).1.keep hf (fun hp ad e hsk => ?_), (he i a s ha hsi).2⟩⟩
  · have h1 := own_base ho k hk
    have h2 := hS k hsk
    omega
  · have h1 := ((he i a s ha hsi).2.2 ad e hp).2
    have h2 := hS _ hsk
    omega
theorem OwnRowB.base_le (h : OwnRowB head byt hd t w base v l) (k : Nat) (hk : v.ownBlock = some k) : base ≤ k := by
  obtain ⟨ss, hs, ho, he⟩ := h.ex
  exact own_base ho k hk
theorem OwnRowB.lt (h : OwnRowB head byt hd t w base v l) (k : Nat) (hk : v.ownBlock = some k) : k < w.heap.size := by
  obtain ⟨ss, hs, ho, he⟩ := h.ex
  obtain ⟨c, hc⟩ := own_cells ho k hk
  exact lt_of_block hc
/-- append(v, y), y an element that was just laid, its bytes apart from the row. -/
theorem wpList_append_rowB {P : Program} {ops : Array Oper} {rest : List Oper} {o : Oper} {a : Act} {Q : Exit → Act → World → Prop} {W : World} (hgd : o.guard = none) (s x : Operand) (ts : TypeId) (bytes : Nat) (z : Value)
    (ho : o.op = .call { callee := .builtin .append, args := #[s, x], argTypes := #[ts, ts] })
    (ht : P.underlying ts = some (.slice t)) (hinfo : (P.info? t).map (fun i => (i.zero, i.size, i.bytes)) = some (some z, hd + 1, bytes)) (hz : z.cells.size = hd + 1) (hb0 : 0 < bytes)
    (hh : ∀ a, (head a).length = hd) (h1 : ∀ a, ∀ u ∈ head a, u.oneCell' = true)
    (base : Nat) (v : Value) (l : List α) (y : α) (B : Option Addr) (c : Nat) (b : Nat) (hbW : b = W.heap.size) (hs : a.eval s = v) (hx : a.eval x = .slice (some ⟨b, 0, none⟩) 1 1)
    (HO : OwnRowB head byt hd t W base v l) (HB : Byt W B c (byt y)) (HY : Bys (byt y)) (hap : ∀ ad, B = some ad → 0 < (byt y).length → v.ownBlock ≠ some ad.block ∧ base ≤ ad.block)
    (hbase : base ≤ W.heap.size) (hl : (l.length + 1) * bytes ≤ 140737488355328)
    (h : ∀ v1 w1, OwnRowB head byt hd t w1 base v1 (l ++ [y]) → Fr (fun k => v.ownBlock = some k) W w1 → wpList P ops Q rest (a.put o.dst v1) w1) :
    wpList P ops Q (o :: rest) a (W.alloc (.cells (elB head byt (y, (B, c))).toArray t)) := by
  subst hbW
  obtain ⟨i0, hi, hzz⟩ := Option.map_eq_some_iff.1 hinfo
  simp only [Prod.mk.injEq] at hzz
  obtain ⟨hz0, hz1, hz2⟩ := hzz
  obtain ⟨ss, hss, ho', he⟩ := HO.ex
  have hlen : l.length + 1 ≤ 140737488355328 := Nat.le_trans (Nat.le_mul_of_pos_right _ hb0) hl
  have hyl : (elB head byt (y, (B, c))).length = hd + 1 := by simp [elB, hh]
  have hone : ∀ u ∈ elB head byt (y, (B, c)), u.oneCell' = true := by
    intro u hu
    rw [elB, List.mem_append] at hu
    rcases hu with hu | hu
    · exact h1 y u hu
    · simp at hu; subst hu; rfl
  refine wpList_append_own_at (W.alloc (.cells (elB head byt (y, (B, c))).toArray t)) hgd s x ts ho base t i0 z (hd + 1) bytes ht hi hz0 hz1 hz2 hz (by omega) v l.length _ hs (ho'.alloc _) ⟨W.heap.size, 0, none⟩ 1 1 (elB head byt (y, (B, c))) hx (by rw [hyl, Nat.one_mul])
    (World.news_of_block (cs := (elB head byt (y, (B, c))).toArray) (t := t) (fr := (0, 0)) (heap_alloc_new W _)) hone (by simp only [maxLen]; omega) hl (by simp; omega) ?_
  intro v1 w1 hown hg _ hat
  have hfr : Fr (fun k => v.ownBlock = some k) W w1 := ((Fr.refl _ W).alloc _).grown hg (fun k hk => .inl hk)
  have hszW : (W.alloc (.cells (elB head byt (y, (B, c))).toArray t)).heap.size = W.heap.size + 1 := by simp
  refine h v1 w1 ⟨ss ++ [(B, c)], by simp [hss], ?_, ?_⟩ hfr
  · have hzip : (l ++ [y]).zip (ss ++ [(B, c)]) = l.zip ss ++ [(y, (B, c))] := by rw [List.zip_append hss.symm]; rfl
    rw [hzip, List.flatMap_append, List.length_append]
    simpa using hown
  · intro i a' s' ha' hs'
    -- what is there of an element, and that its block is not the new row's
    have key : ∀ (B' : Option Addr) (c' : Nat) (ys : List Int), Byt W B' c' ys → (∀ ad, B' = some ad → 0 < ys.length → v.ownBlock ≠ some ad.block ∧ base ≤ ad.block) → Byt w1 B' c' ys ∧ (∀ ad, B' = some ad → 0 < ys.length → v1.ownBlock ≠ some ad.block ∧ base ≤ ad.block) := by
      intro B' c' ys hby hap'
      refine ⟨hby.keep hfr (fun hp ad e hk => (hap' ad e hp).1 hk), fun ad e hp => ⟨fun hk => ?_, (hap' ad e hp).2⟩⟩
      subst e
      have hlt := hby.at_.lt hp
      rcases hat with hat | hat
      · rw [hat] at hk; exact (hap' ad rfl hp).1 hk
      · rw [hat, hszW] at hk
        have := Option.some.inj hk
        omega
    rcases Nat.lt_or_ge i l.length with hi' | hi'
    · rw [List.getElem?_append_left hi'] at ha'
      rw [List.getElem?_append_left (by omega)] at hs'
      obtain ⟨g1, g2, g3⟩ := he i a' s' ha' hs'
      obtain ⟨k1, k2⟩ := key _ _ _ g1 g3
      exact ⟨k1, g2, k2⟩
    · have hil : i = l.length := by
        have := (List.getElem?_eq_some_iff.1 ha').1
        simp at this
        omega
      subst hil
      rw [List.getElem?_append_right (Nat.le_refl _)] at ha'
      rw [← hss, List.getElem?_append_right (Nat.le_refl _)] at hs'
      simp at ha' hs'
      subst ha'; subst hs'
      obtain ⟨k1, k2⟩ := key _ _ _ HB hap
      exact ⟨k1, HY, k2⟩
end
end Go.Proofs.YtdeckbdaencjnaaDoor
set_option linter.unusedVariables false
set_option linter.unusedSimpArgs false
namespace Go.Proofs.YtdeckbdaencjnaaDoor
open Go.RowKit
section
variable {α : Type} (head : α → List Value) (byt : α → List Int)
/-- A row of the call's own, whose elements' bytes may be another's. -/
structure OwnRowC (hd : Nat) (t : TypeId) (w : World) (base : Nat) (v : Value) (l : List α) : Prop where
  ex : ∃ ss : List (Option Addr × Nat), ss.length = l.length ∧ w.ownsRow base t (hd + 1) v l.length ((l.zip ss).flatMap (elB head byt)) ∧ ∀ (i : Nat) (a : α) (s : Option Addr × Nat), l[i]? = some a → ss[i]? = some s → Byt w s.1 s.2 (byt a) ∧ Bys (byt a) ∧ (∀ ad, s.1 = some ad → 0 < (byt a).length → v.ownBlock ≠ some ad.block)
variable {head : α → List Value} {byt : α → List Int} {hd : Nat} {t : TypeId} {w w' : World} {base : Nat} {v : Value} {l : List α} {A : Option Addr}
theorem OwnRowC.nil (w : World) (base : Nat) : OwnRowC head byt hd t w base (.slice none 0 0) ([] : List α) := ⟨[], rfl, by simpa using own_nil w base t (hd + 1), fun i a s h => by simp at h⟩
theorem OwnRowB.toC (h : OwnRowB head byt hd t w base v l) : OwnRowC head byt hd t w base v l := by
  obtain ⟨ss, hs, ho, he⟩ := h.ex
  exact ⟨ss, hs, ho, fun i a s ha hsi => ⟨(he i a s ha hsi).1, (he i a s ha hsi).2.1, fun ad e hp => ((he i a s ha hsi).2.2 ad e hp).1⟩⟩
theorem OwnRowC.reads (hh : ∀ a, (head a).length = hd) (h : OwnRowC head byt hd t w base v l) : ∃ A c, v = .slice A l.length c ∧ RowsAt head byt hd w A l ∧ l.length ≤ c ∧ c ≤ 9223372036854775807 := by
  obtain ⟨ss, hs, ho, he⟩ := h.ex
  obtain ⟨hl, ho⟩ := ho
  rcases ho with ⟨rfl, hn⟩ | ⟨g, cap, cur, rfl, hb, hg, hc, hm, hsz, htk⟩
  · obtain rfl : l = [] := List.eq_nil_of_length_eq_zero hn
    exact ⟨none, 0, rfl, RowsAt.nil _, Nat.le_refl _, by decide⟩
  · refine ⟨some ⟨g, 0, none⟩, cap, rfl, ⟨fun i a ha => ?_⟩, hc, by simp only [maxLen] at hm; omega⟩
    have hi : i < l.length := (List.getElem?_eq_some_iff.1 ha).1
    obtain ⟨s, hsi⟩ : ∃ s, ss[i]? = some s := ⟨ss[i], List.getElem?_eq_getElem (by omega)⟩
    have hz : (l.zip ss)[i]? = some (a, s) := by rw [List.getElem?_zip_eq_some]; exact ⟨ha, hsi⟩
    obtain ⟨h1, h2, h3⟩ := he i a s ha hsi
    have cell : ∀ k u, (elB head byt (a, s))[k]? = some u → w.cell? ⟨g, 0 + i * (hd + 1) + k, none⟩ = some u := by
      intro k u hu
      have h4 := elB_flat_at head byt hh (l.zip ss) i k (a, s) u hz hu
      have hlt := (List.getElem?_eq_some_iff.1 h4).1
      rw [elB_flat_len head byt hh] at hlt
      rw [← htk] at h4
      have hzl : (l.zip ss).length = l.length := by rw [List.length_zip]; omega
      rw [hzl] at hlt
      rw [List.getElem?_take_of_lt hlt] at h4
      rw [cell_of hg, Nat.zero_add]
      simpa using h4
    refine ⟨g, 0, s.1, s.2, rfl, fun j u hu => ?_, ?_, h1, h2⟩
    · have hj : j < (head a).length := (List.getElem?_eq_some_iff.1 hu).1
      exact cell j u (by rw [elB, List.getElem?_append_left hj]; exact hu)
    · refine cell hd _ ?_
      rw [elB, List.getElem?_append_right (by simp [hh])]
      simp [hh]
theorem OwnRowC.keep (h : OwnRowC head byt hd t w base v l) (hf : Fr F0 w w') : OwnRowC head byt hd t w' base v l := by
  obtain ⟨ss, hs, ho, he⟩ := h.ex
  exact ⟨ss, hs, own_keep0 ho hf, fun i a s ha hsi => ⟨(he i a s ha hsi).1.keep0 hf, (he i a s ha hsi).2⟩⟩
theorem OwnRowC.base_le (h : OwnRowC head byt hd t w base v l) (k : Nat) (hk : v.ownBlock = some k) : base ≤ k := by
  obtain ⟨ss, hs, ho, he⟩ := h.ex
  exact own_base ho k hk
theorem OwnRowC.lt (h : OwnRowC head byt hd t w base v l) (k : Nat) (hk : v.ownBlock = some k) : k < w.heap.size := by
  obtain ⟨ss, hs, ho, he⟩ := h.ex
  obtain ⟨c, hc⟩ := own_cells ho k hk
  exact lt_of_block hc
/-- append(v, y..), y elements that were just laid in a block of their own, their bytes apart from the row. -/
theorem wpList_append_rowCs {P : Program} {ops : Array Oper} {rest : List Oper} {o : Oper} {a : Act} {Q : Exit → Act → World → Prop} {W : World} (hgd : o.guard = none) (s x : Operand) (ts : TypeId) (bytes : Nat) (z : Value)
    (ho : o.op = .call { callee := .builtin .append, args := #[s, x], argTypes := #[ts, ts] })
    (ht : P.underlying ts = some (.slice t)) (hinfo : (P.info? t).map (fun i => (i.zero, i.size, i.bytes)) = some (some z, hd + 1, bytes)) (hz : z.cells.size = hd + 1) (hb0 : 0 < bytes)
    (hh : ∀ a, (head a).length = hd) (h1 : ∀ a, ∀ u ∈ head a, u.oneCell' = true)
    (base : Nat) (v : Value) (l m : List α) (tt : List (Option Addr × Nat)) (hmt : tt.length = m.length) (b : Nat) (off c : Nat) (hs : a.eval s = v) (hx : a.eval x = .slice (some ⟨b, off, none⟩) m.length c)
    (HO : OwnRowC head byt hd t W base v l) (hnews : ∀ j u, ((m.zip tt).flatMap (elB head byt))[j]? = some u → W.cell? ((⟨b, off, none⟩ : Addr).add j) = some u)
    (HB : ∀ (i : Nat) (y : α) (s : Option Addr × Nat), m[i]? = some y → tt[i]? = some s → Byt W s.1 s.2 (byt y) ∧ Bys (byt y) ∧ ∀ ad, s.1 = some ad → 0 < (byt y).length → v.ownBlock ≠ some ad.block)
    (hbase : base ≤ W.heap.size) (hl : (l.length + m.length) * bytes ≤ 140737488355328)
    (h : ∀ v1 w1, OwnRowC head byt hd t w1 base v1 (l ++ m) → Fr (fun k => v.ownBlock = some k) W w1 → (v1.ownBlock = v.ownBlock ∨ v1.ownBlock = some W.heap.size) → wpList P ops Q rest (a.put o.dst v1) w1) :
    wpList P ops Q (o :: rest) a W := by
  obtain ⟨i0, hi, hzz⟩ := Option.map_eq_some_iff.1 hinfo
  simp only [Prod.mk.injEq] at hzz
  obtain ⟨hz0, hz1, hz2⟩ := hzz
  obtain ⟨ss, hss, ho', he⟩ := HO.ex
  have hlen : l.length + m.length ≤ 140737488355328 := Nat.le_trans (Nat.le_mul_of_pos_right _ hb0) hl
  have hzl : (m.zip tt).length = m.length := by rw [List.length_zip]; omega
  have hone : ∀ u ∈ (m.zip tt).flatMap (elB head byt), u.oneCell' = true := by
    intro u hu
    obtain ⟨y, _, hu⟩ := List.mem_flatMap.1 hu
    rw [elB, List.mem_append] at hu
    rcases hu with hu | hu
    · exact h1 y.1 u hu
    · simp at hu; subst hu; rfl
  refine wpList_append_own_at W hgd s x ts ho base t i0 z (hd + 1) bytes ht hi hz0 hz1 hz2 hz (by omega) v l.length _ hs ho' ⟨b, off, none⟩ m.length c ((m.zip tt).flatMap (elB head byt)) hx (by rw [elB_flat_len head byt hh, hzl])
    hnews hone (by simp only [maxLen]; omega) hl hbase ?_
  intro v1 w1 hown hg _ hat
  have hfr : Fr (fun k => v.ownBlock = some k) W w1 := (Fr.refl _ W).grown hg (fun k hk => .inl hk)
  refine h v1 w1 ⟨ss ++ tt, by simp [hss, hmt], ?_, ?_⟩ hfr hat
  · have hzip : (l ++ m).zip (ss ++ tt) = l.zip ss ++ m.zip tt := by rw [List.zip_append hss.symm]
    rw [hzip, List.flatMap_append, List.length_append]
    exact hown
  · intro i a' s' ha' hs'
    have key : ∀ (B' : Option Addr) (c' : Nat) (ys : List Int), Byt W B' c' ys → (∀ ad, B' = some ad → 0 < ys.length → v.ownBlock ≠ some ad.block) → Byt w1 B' c' ys ∧ (∀ ad, B' = some ad → 0 < ys.length → v1.ownBlock ≠ some ad.block) := by
      intro B' c' ys hby hap'
      refine ⟨hby.keep hfr (fun hp ad e hk => hap' ad e hp hk), fun ad e hp hk => ?_⟩
      subst e
      have hlt := hby.at_.lt hp
      rcases hat with hat | hat
      · rw [hat] at hk; exact hap' ad rfl hp hk
      · rw [hat] at hk
        have := Option.some.inj hk
        omega
    rcases Nat.lt_or_ge i l.length with hi' | hi'
    · rw [List.getElem?_append_left hi'] at ha'
      rw [List.getElem?_append_left (by omega)] at hs'
      obtain ⟨g1, g2, g3⟩ := he i a' s' ha' hs'
      obtain ⟨k1, k2⟩ := key _ _ _ g1 g3
      exact ⟨k1, g2, k2⟩
    · rw [List.getElem?_append_right hi'] at ha'
      rw [List.getElem?_append_right (by omega), hss] at hs'
      obtain ⟨g1, g2, g3⟩ := HB _ a' s' ha' hs'
      obtain ⟨k1, k2⟩ := key _ _ _ g1 g3
      exact ⟨k1, g2, k2⟩
/-- append(v, y), y an element that was just laid. -/
theorem wpList_append_rowC {P : Program} {ops : Array Oper} {rest : List Oper} {o : Oper} {a : Act} {Q : Exit → Act → World → Prop} {W : World} (hgd : o.guard = none) (s x : Operand) (ts : TypeId) (bytes : Nat) (z : Value)
    (ho : o.op = .call { callee := .builtin .append, args := #[s, x], argTypes := #[ts, ts] })
    (ht : P.underlying ts = some (.slice t)) (hinfo : (P.info? t).map (fun i => (i.zero, i.size, i.bytes)) = some (some z, hd + 1, bytes)) (hz : z.cells.size = hd + 1) (hb0 : 0 < bytes)
    (hh : ∀ a, (head a).length = hd) (h1 : ∀ a, ∀ u ∈ head a, u.oneCell' = true)
    (base : Nat) (v : Value) (l : List α) (y : α) (B : Option Addr) (c : Nat) (b : Nat) (hbW : b = W.heap.size) (hs : a.eval s = v) (hx : a.eval x = .slice (some ⟨b, 0, none⟩) 1 1)
    (HO : OwnRowC head byt hd t W base v l) (HB : Byt W B c (byt y)) (HY : Bys (byt y)) (hap : ∀ ad, B = some ad → 0 < (byt y).length → v.ownBlock ≠ some ad.block)
    (hbase : base ≤ W.heap.size) (hl : (l.length + 1) * bytes ≤ 140737488355328)
    (h : ∀ v1 w1, OwnRowC head byt hd t w1 base v1 (l ++ [y]) → Fr (fun k => v.ownBlock = some k) W w1 → wpList P ops Q rest (a.put o.dst v1) w1) :
    wpList P ops Q (o :: rest) a (W.alloc (.cells (elB head byt (y, (B, c))).toArray t)) := by
  subst hbW
  have hfa : Fr F0 W (W.alloc (.cells (elB head byt (y, (B, c))).toArray t)) := (Fr.refl _ W).alloc _
  refine wpList_append_rowCs (m := [y]) (tt := [(B, c)]) hgd s x ts bytes z ho ht hinfo hz hb0 hh h1 base v l rfl W.heap.size 0 1 hs hx (HO.keep hfa) ?_ ?_ (by simp; omega) (by simpa using hl) ?_
  · have : ([y].zip [(B, c)]).flatMap (elB head byt) = elB head byt (y, (B, c)) := by simp
    rw [this]
    exact World.news_of_block (cs := (elB head byt (y, (B, c))).toArray) (t := t) (fr := (0, 0)) (heap_alloc_new W _)
  · intro i y' s' hy' hs'
    cases i with
    | succ i => simp at hy'
    | zero =>
      simp at hy' hs'
      subst hy'; subst hs'
      exact ⟨HB.keep0 hfa, HY, hap⟩
  · intro v1 w1 h2 hf _
    exact h v1 w1 h2 ((hfa.of0).trans hf (fun k hk => .inl hk))
/-- The same, as one operation of a region that draws its order. -/
theorem wp_append_rowC {P : Program} {o : Oper} {a : Act} {K : Act → World → Prop} {Q : Exit → Act → World → Prop} {W : World} (s x : Operand) (ts : TypeId) (bytes : Nat) (z : Value)
    (ho : o.op = .call { callee := .builtin .append, args := #[s, x], argTypes := #[ts, ts] })
    (ht : P.underlying ts = some (.slice t)) (hinfo : (P.info? t).map (fun i => (i.zero, i.size, i.bytes)) = some (some z, hd + 1, bytes)) (hz : z.cells.size = hd + 1) (hb0 : 0 < bytes)
    (hh : ∀ a, (head a).length = hd) (h1 : ∀ a, ∀ u ∈ head a, u.oneCell' = true)
    (base : Nat) (v : Value) (l : List α) (y : α) (B : Option Addr) (c : Nat) (b : Nat) (hs : a.eval s = v) (hx : a.eval x = .slice (some ⟨b, 0, none⟩) 1 1)
    (hbW : W.heap[b]? = some (.cells (elB head byt (y, (B, c))).toArray t (0, 0)))
    (HO : OwnRowC head byt hd t W base v l) (HB : Byt W B c (byt y)) (HY : Bys (byt y)) (hap : ∀ ad, B = some ad → 0 < (byt y).length → v.ownBlock ≠ some ad.block)
    (hbase : base ≤ W.heap.size) (hl : (l.length + 1) * bytes ≤ 140737488355328)
    (h : ∀ v1 w1, OwnRowC head byt hd t w1 base v1 (l ++ [y]) → Fr (fun k => v.ownBlock = some k) W w1 → K (a.put o.dst v1) w1) : o.wp P a W K Q := by
  obtain ⟨i0, hi, hzz⟩ := Option.map_eq_some_iff.1 hinfo
  simp only [Prod.mk.injEq] at hzz
  obtain ⟨hz0, hz1, hz2⟩ := hzz
  obtain ⟨ss, hss, ho', he⟩ := HO.ex
  have hlen : l.length + 1 ≤ 140737488355328 := Nat.le_trans (Nat.le_mul_of_pos_right _ hb0) hl
  have hyl : (elB head byt (y, (B, c))).length = hd + 1 := by simp [elB, hh]
  have hone : ∀ u ∈ elB head byt (y, (B, c)), u.oneCell' = true := by
    intro u hu
    rw [elB, List.mem_append] at hu
    rcases hu with hu | hu
    · exact h1 y u hu
    · simp at hu; subst hu; rfl
  obtain ⟨v1, w1, hr, hown, hg, _, hat⟩ := run_append_own_at (P := P) W base ts o.type t i0 z (hd + 1) bytes ht hi hz0 hz1 hz2 hz (by omega) v l.length _ ho' ⟨b, 0, none⟩ 1 1 (elB head byt (y, (B, c))) (by rw [hyl, Nat.one_mul])
    (World.news_of_block (cs := (elB head byt (y, (B, c))).toArray) (t := t) (fr := (0, 0)) hbW) hone (by simp only [maxLen]; omega) hl hbase
  have hfr : Fr (fun k => v.ownBlock = some k) W w1 := (Fr.refl _ W).grown hg (fun k hk => .inl hk)
  unfold Oper.wp execOp
  simp only [ho, resolve, invoke, builtin, Sem.run_bind, Sem.run_pure, Result.andThen_ok, List.map_toArray, List.map_cons, List.map_nil, hs, hx, hr]
  refine h v1 w1 ⟨ss ++ [(B, c)], by simp [hss], ?_, ?_⟩ hfr
  · have hzip : (l ++ [y]).zip (ss ++ [(B, c)]) = l.zip ss ++ [(y, (B, c))] := by rw [List.zip_append hss.symm]; rfl
    rw [hzip, List.flatMap_append, List.length_append]
    simpa using hown
  · intro i a' s' ha' hs'
    have key : ∀ (B' : Option Addr) (c' : Nat) (ys : List Int), Byt W B' c' ys → (∀ ad, B' = some ad → 0 < ys.length → v.ownBlock ≠ some ad.block) → Byt w1 B' c' ys ∧ (∀ ad, B' = some ad → 0 < ys.length → v1.ownBlock ≠ some ad.block) := by
      intro B' c' ys hby hap'
      refine ⟨hby.keep hfr (fun hp ad e hk => hap' ad e hp hk), fun ad e hp hk => ?_⟩
      subst e
      have hlt := hby.at_.lt hp
      rcases hat with hat | hat
      · rw [hat] at hk; exact hap' ad rfl hp hk
      · rw [hat] at hk
        have := Option.some.inj hk
        omega
    rcases Nat.lt_or_ge i l.length with hi' | hi'
    · rw [List.getElem?_append_left hi'] at ha'
      rw [List.getElem?_append_left (by omega)] at hs'
      obtain ⟨g1, g2, g3⟩ := he i a' s' ha' hs'
      obtain ⟨k1, k2⟩ := key _ _ _ g1 g3
      exact ⟨k1, g2, k2⟩
    · have hil : i = l.length := by
        have := (List.getElem?_eq_some_iff.1 ha').1
        simp at this
        omega
      subst hil
      rw [List.getElem?_append_right (Nat.le_refl _)] at ha'
      rw [← hss, List.getElem?_append_right (Nat.le_refl _)] at hs'
      simp at ha' hs'
      subst ha'; subst hs'
      obtain ⟨k1, k2⟩ := key _ _ _ HB hap
      exact ⟨k1, HY, k2⟩
/-- What is kept through a region that appends once, at the slot d, and lays it in the slot e. -/
def AppCJ (head : α → List Value) (byt : α → List Int) (hd : Nat) (t : TypeId) (base : Nat) (v : Value) (l m : List α) (d e : Nat) : Nat → (Nat → Value) → World → Prop
  | 0, us, w => OwnRowC head byt hd t w base v l ∧ us e = v
  | 1, us, w => OwnRowC head byt hd t w base (us d) (l ++ m)
  | _ + 2, us, w => OwnRowC head byt hd t w base (us e) (l ++ m)
theorem AppCJ.keep {l m : List α} {d e : Nat} : ∀ (k : Nat) (us us' : Nat → Value) (w' w'' : World), AppCJ head byt hd t base v l m d e k us w' → (∀ x ∈ [d, e], us' x = us x) → Fr F0 w' w'' → AppCJ head byt hd t base v l m d e k us' w''
  | 0, us, us', w', w'', h, hu, hf => ⟨OwnRowC.keep h.1 hf, by rw [hu e (by simp)]; exact h.2⟩
  | 1, us, us', w', w'', h, hu, hf => by
    have e1 := hu d (by simp)
    show OwnRowC head byt hd t w'' base (us' d) (l ++ m)
    rw [e1]
    exact OwnRowC.keep h hf
  | k + 2, us, us', w', w'', h, hu, hf => by
    have e1 := hu e (by simp)
    show OwnRowC head byt hd t w'' base (us' e) (l ++ m)
    rw [e1]
    exact OwnRowC.keep h hf
end
end Go.Proofs.YtdeckbdaencjnaaDoor
