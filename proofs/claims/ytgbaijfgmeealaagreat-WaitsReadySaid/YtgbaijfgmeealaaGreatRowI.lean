/-
  Rows of elements that each end in a slice of integers: the call's own; read, appended to. Conditions: none.
-/
import Derived.Test.YtgbaijfgmeealaaGreatT9g
set_option linter.unusedVariables false
set_option linter.unusedSimpArgs false
namespace Go.Proofs.YtgbaijfgmeealaaGreat
open Go.RowKit
section
variable {α : Type} (head : α → List Value) (tl : α → List Int)
/-- An element's cells. -/
def elI (x : α × (Option Addr × Nat)) : List Value := head x.1 ++ [.slice x.2.1 (tl x.1).length x.2.2]
theorem elI_flat_len {hd : Nat} (hh : ∀ a, (head a).length = hd) : ∀ (l : List (α × (Option Addr × Nat))), (l.flatMap (elI head tl)).length = l.length * (hd + 1)
  | [] => by simp
  | x :: l => by rw [List.flatMap_cons, List.length_append, elI_flat_len hh l]; simp [elI, hh, Nat.succ_mul]; omega
theorem elI_flat_at {hd : Nat} (hh : ∀ a, (head a).length = hd) : ∀ (l : List (α × (Option Addr × Nat))) (i k : Nat) (x : α × (Option Addr × Nat)) (v : Value), l[i]? = some x → (elI head tl x)[k]? = some v → (l.flatMap (elI head tl))[i * (hd + 1) + k]? = some v
  | [], i, k, x, v, h, _ => by simp at h
  | y :: l, 0, k, x, v, h, hv => by
    simp at h; subst h
    have hk : k < (elI head tl y).length := (List.getElem?_eq_some_iff.1 hv).1
    rw [List.flatMap_cons, List.getElem?_append_left (by omega), Nat.zero_mul, Nat.zero_add]; exact hv
  | y :: l, i + 1, k, x, v, h, hv => by
    have hy : (elI head tl y).length = hd + 1 := by simp [elI, hh]
    rw [List.flatMap_cons, List.getElem?_append_right (by rw [hy, Nat.succ_mul]; omega)]
    have := elI_flat_at hh l i k x v (by simpa using h) hv
    rw [← this]; congr 1; rw [hy, Nat.succ_mul]; omega
/-- Rows of the call's own. -/
structure OwnRowI (hd : Nat) (t : TypeId) (w : World) (base : Nat) (v : Value) (l : List α) : Prop where
  ex : ∃ ss : List (Option Addr × Nat), ss.length = l.length ∧ w.ownsRow base t (hd + 1) v l.length ((l.zip ss).flatMap (elI head tl)) ∧ ∀ (i : Nat) (a : α) (s : Option Addr × Nat), l[i]? = some a → ss[i]? = some s → ValsAt w s.1 ((tl a).map (Value.int .i64)) ∧ (0 < (tl a).length → ∀ ad, s.1 = some ad → v.ownBlock ≠ some ad.block ∧ base ≤ ad.block)
variable {head : α → List Value} {tl : α → List Int} {hd : Nat} {t : TypeId} {w w' : World} {base : Nat} {v : Value} {l : List α} {A : Option Addr}
theorem OwnRowI.nil (w : World) (base : Nat) : OwnRowI head tl hd t w base (.slice none 0 0) ([] : List α) := ⟨[], rfl, by simpa using own_nil w base t (hd + 1), fun i a s h => by simp at h⟩
theorem OwnRowI.keep (h : OwnRowI head tl hd t w base v l) (hf : Fr F0 w w') : OwnRowI head tl hd t w' base v l := by
  obtain ⟨ss, hs, ho, he⟩ := h.ex
  exact ⟨ss, hs, own_keep0 ho hf, fun i a s ha hsi => ⟨(he i a s ha hsi).1.keep0 hf, (he i a s ha hsi).2⟩⟩
theorem OwnRowI.base_le (h : OwnRowI head tl hd t w base v l) (k : Nat) (hk : v.ownBlock = some k) : base ≤ k := by
  obtain ⟨ss, hs, ho, he⟩ := h.ex
  exact own_base ho k hk
theorem OwnRowI.lt (h : OwnRowI head tl hd t w base v l) (k : Nat) (hk : v.ownBlock = some k) : k < w.heap.size := by
  obtain ⟨ss, hs, ho, he⟩ := h.ex
  obtain ⟨c, hc⟩ := own_cells ho k hk
  exact lt_of_block hc
theorem ValsAt.of_nil {w : World} {A : Option Addr} : ValsAt w A [] := ⟨fun h => absurd h (by simp)⟩
theorem ValsAt.keepI {S : Nat → Prop} {xs : List Int} (h : ValsAt w A (xs.map (Value.int .i64))) (hf : Fr S w w') (hA : 0 < xs.length → ∀ ad, A = some ad → ¬ S ad.block) : ValsAt w' A (xs.map (Value.int .i64)) := by
  cases xs with
  | nil => exact ValsAt.of_nil
  | cons x xs => exact h.keep hf (hA (by simp))
theorem OwnRowI.val (h : OwnRowI head tl hd t w base v l) : ∃ A c, v = .slice A l.length c ∧ l.length ≤ c := by
  obtain ⟨ss, hs, ho, he⟩ := h.ex
  rcases ho.2 with ⟨rfl, hn⟩ | ⟨g, cap, cur, rfl, hb, hh, h1, -⟩
  · exact ⟨none, 0, by rw [hn], by omega⟩
  · exact ⟨_, _, rfl, h1⟩
/-- An element of the rows. -/
theorem OwnRowI.elem (hh : ∀ a, (head a).length = hd) (h : OwnRowI head tl hd t w base v l) (i : Nat) (a : α) (ha : l[i]? = some a) : ∃ b c B cB, v = .slice (some ⟨b, 0, none⟩) l.length c ∧ (∀ j u, (head a)[j]? = some u → w.cell? ⟨b, i * (hd + 1) + j, none⟩ = some u) ∧ w.cell? ⟨b, i * (hd + 1) + hd, none⟩ = some (.slice B (tl a).length cB) ∧ ValsAt w B ((tl a).map (Value.int .i64)) ∧ (0 < (tl a).length → ∀ ad, B = some ad → base ≤ ad.block) := by
  have hi : i < l.length := (List.getElem?_eq_some_iff.1 ha).1
  obtain ⟨ss, hs, ho, he⟩ := h.ex
  obtain ⟨hl, ho⟩ := ho
  rcases ho with ⟨rfl, hn⟩ | ⟨g, cap, cur, rfl, hb, hg, hc, hm, hsz, htk⟩
  · omega
  obtain ⟨s, hsi⟩ : ∃ s, ss[i]? = some s := ⟨ss[i], List.getElem?_eq_getElem (by omega)⟩
  have hz : (l.zip ss)[i]? = some (a, s) := by rw [List.getElem?_zip_eq_some]; exact ⟨ha, hsi⟩
  obtain ⟨h1, h3⟩ := he i a s ha hsi
  have cell : ∀ k u, (elI head tl (a, s))[k]? = some u → w.cell? ⟨g, i * (hd + 1) + k, none⟩ = some u := by
    intro k u hu
    have h4 := elI_flat_at head tl hh (l.zip ss) i k (a, s) u hz hu
    have hlt := (List.getElem?_eq_some_iff.1 h4).1
    rw [elI_flat_len head tl hh] at hlt
    rw [← htk] at h4
    have hzl : (l.zip ss).length = l.length := by rw [List.length_zip]; omega
    rw [hzl] at hlt
    rw [List.getElem?_take_of_lt hlt] at h4
    rw [cell_of hg]
    simpa using h4
  refine ⟨g, cap, s.1, s.2, rfl, fun j u hu => ?_, ?_, h1, fun hp ad e => (h3 hp ad e).2⟩
  · have hj : j < (head a).length := (List.getElem?_eq_some_iff.1 hu).1
    exact cell j u (by rw [elI, List.getElem?_append_left hj]; exact hu)
  · refine cell hd _ ?_
    rw [elI, List.getElem?_append_right (by simp [hh])]
    simp [hh]
/-- An append, as one operation of a region that draws its order. -/
theorem wp_append_rowI {P : Program} {o : Oper} {a : Act} {K : Act → World → Prop} {Q : Exit → Act → World → Prop} {W : World} (s x : Operand) (ts : TypeId) (bytes : Nat) (z : Value)
    (ho : o.op = .call { callee := .builtin .append, args := #[s, x], argTypes := #[ts, ts] })
    (ht : P.underlying ts = some (.slice t)) (hinfo : (P.info? t).map (fun i => (i.zero, i.size, i.bytes)) = some (some z, hd + 1, bytes)) (hz : z.cells.size = hd + 1) (hb0 : 0 < bytes)
    (hh : ∀ a, (head a).length = hd) (h1 : ∀ a, ∀ u ∈ head a, u.oneCell' = true)
    (base : Nat) (v : Value) (l : List α) (y : α) (B : Option Addr) (c : Nat) (b : Nat) (hs : a.eval s = v) (hx : a.eval x = .slice (some ⟨b, 0, none⟩) 1 1)
    (hbW : W.heap[b]? = some (.cells (elI head tl (y, (B, c))).toArray t (0, 0)))
    (HO : OwnRowI head tl hd t W base v l) (HB : ValsAt W B ((tl y).map (Value.int .i64))) (hap : 0 < (tl y).length → ∀ ad, B = some ad → v.ownBlock ≠ some ad.block ∧ base ≤ ad.block)
    (hbase : base ≤ W.heap.size) (hl : (l.length + 1) * bytes ≤ 140737488355328)
    (h : ∀ v1 w1, OwnRowI head tl hd t w1 base v1 (l ++ [y]) → Fr (fun k => v.ownBlock = some k) W w1 → K (a.put o.dst v1) w1) : o.wp P a W K Q := by
  obtain ⟨i0, hi, hzz⟩ := Option.map_eq_some_iff.1 hinfo
  simp only [Prod.mk.injEq] at hzz
  obtain ⟨hz0, hz1, hz2⟩ := hzz
  obtain ⟨ss, hss, ho', he⟩ := HO.ex
  have hlen : l.length + 1 ≤ 140737488355328 := Nat.le_trans (Nat.le_mul_of_pos_right _ hb0) hl
  have hyl : (elI head tl (y, (B, c))).length = hd + 1 := by simp [elI, hh]
  have hone : ∀ u ∈ elI head tl (y, (B, c)), u.oneCell' = true := by
    intro u hu
    rw [elI, List.mem_append] at hu
    rcases hu with hu | hu
    · exact h1 y u hu
    · simp at hu; subst hu; rfl
  obtain ⟨v1, w1, hr, hown, hg, _, hat⟩ := run_append_own_at (P := P) W base ts o.type t i0 z (hd + 1) bytes ht hi hz0 hz1 hz2 hz (by omega) v l.length _ ho' ⟨b, 0, none⟩ 1 1 (elI head tl (y, (B, c))) (by rw [hyl, Nat.one_mul])
    (World.news_of_block (cs := (elI head tl (y, (B, c))).toArray) (t := t) (fr := (0, 0)) hbW) hone (by simp only [maxLen]; omega) hl hbase
  have hfr : Fr (fun k => v.ownBlock = some k) W w1 := (Fr.refl _ W).grown hg (fun k hk => .inl hk)
  unfold Oper.wp execOp
  simp only [ho, resolve, invoke, builtin, Sem.run_bind, Sem.run_pure, Result.andThen_ok, List.map_toArray, List.map_cons, List.map_nil, hs, hx, hr]
  refine h v1 w1 ⟨ss ++ [(B, c)], by simp [hss], ?_, ?_⟩ hfr
  · have hzip : (l ++ [y]).zip (ss ++ [(B, c)]) = l.zip ss ++ [(y, (B, c))] := by rw [List.zip_append hss.symm]; rfl
    rw [hzip, List.flatMap_append, List.length_append]
    simpa using hown
  · intro i a' s' ha' hs'
    have key : ∀ (B' : Option Addr) (ys : List Int), ValsAt W B' (ys.map (Value.int .i64)) → (0 < ys.length → ∀ ad, B' = some ad → v.ownBlock ≠ some ad.block ∧ base ≤ ad.block) → ValsAt w1 B' (ys.map (Value.int .i64)) ∧ (0 < ys.length → ∀ ad, B' = some ad → v1.ownBlock ≠ some ad.block ∧ base ≤ ad.block) := by
      intro B' ys hby hap'
      refine ⟨hby.keepI hfr (fun hp ad e hk => (hap' hp ad e).1 hk), fun hp ad e => ⟨fun hk => ?_, (hap' hp ad e).2⟩⟩
      subst e
      have hlt : ad.block < W.heap.size := by
        obtain ⟨b', off', e', hc⟩ := hby.plain (by rw [List.length_map]; exact hp)
        cases e'
        exact World.block_lt_of_cell? W _ (hc 0 _ (List.getElem?_eq_getElem (by rw [List.length_map]; exact hp)))
      rcases hat with hat | hat
      · rw [hat] at hk
        exact (hap' hp ad rfl).1 hk
      · rw [hat] at hk
        have := Option.some.inj hk
        omega
    by_cases hil : i < l.length
    · rw [List.getElem?_append_left hil] at ha'
      rw [List.getElem?_append_left (by omega)] at hs'
      exact key _ _ (he i a' s' ha' hs').1 (he i a' s' ha' hs').2
    · have hi0 : i = l.length := by
        have := (List.getElem?_eq_some_iff.1 ha').1
        simp at this
        omega
      subst hi0
      rw [List.getElem?_append_right (Nat.le_refl _)] at ha'
      rw [List.getElem?_append_right (by omega), hss] at hs'
      simp at ha' hs'
      subst ha'; subst hs'
      exact key _ _ HB hap
end
end Go.Proofs.YtgbaijfgmeealaaGreat
