/-
  Rules for an append of one element in a drawn region. Conditions: none.
-/
import Derived.Test.YtgbaijfgmeealaaGreatT9g
import Derived.Test.YtgbaijfgmeealaaGreatTurn2
set_option linter.unusedVariables false
set_option linter.unusedSimpArgs false
namespace Go.Proofs.YtgbaijfgmeealaaGreat
open Go.RowKit
section
variable {α : Type} {m : Nat} {f : α → List Value}
/-- An append of one element, as one operation of a region that draws its order. -/
theorem wp_append_oneS {P : Program} {o : Oper} {a : Act} {K : Act → World → Prop} {Q : Exit → Act → World → Prop} {W : World} {t : TypeId} (s x : Operand) (ts : TypeId) (bytes : Nat) (z : Value)
    (ho : o.op = .call { callee := .builtin .append, args := #[s, x], argTypes := #[ts, ts] })
    (ht : P.underlying ts = some (.slice t)) (hinfo : (P.info? t).map (fun i => (i.zero, i.size, i.bytes)) = some (some z, m, bytes)) (hz : z.cells.size = m) (hm0 : 0 < m) (hb0 : 0 < bytes)
    (hm : ∀ x, (f x).length = m) (h1 : ∀ x, ∀ u ∈ f x, u.oneCell' = true)
    (base : Nat) (v : Value) (l : List α) (y : α) (b : Nat) (hs : a.eval s = v) (hx : a.eval x = .slice (some ⟨b, 0, none⟩) 1 1)
    (hbW : W.heap[b]? = some (.cells (f y).toArray t (0, 0)))
    (HO : W.ownsRow base t m v l.length (l.flatMap f)) (hbase : base ≤ W.heap.size) (hl : (l.length + 1) * bytes ≤ 140737488355328)
    (h : ∀ v1 w1, w1.ownsRow base t m v1 (l ++ [y]).length ((l ++ [y]).flatMap f) → Fr (fun k => v.ownBlock = some k) W w1 → K (a.put o.dst v1) w1) : o.wp P a W K Q := by
  obtain ⟨i0, hi, hzz⟩ := Option.map_eq_some_iff.1 hinfo
  simp only [Prod.mk.injEq] at hzz
  obtain ⟨hz0, hz1, hz2⟩ := hzz
  have hlen : l.length + 1 ≤ 140737488355328 := Nat.le_trans (Nat.le_mul_of_pos_right _ hb0) hl
  obtain ⟨v1, w1, hr, hown, hg, _, hat⟩ := run_append_own_at (P := P) W base ts o.type t i0 z m bytes ht hi hz0 hz1 hz2 hz (by omega) v l.length _ HO ⟨b, 0, none⟩ 1 1 (f y) (by rw [hm, Nat.one_mul])
    (World.news_of_block (cs := (f y).toArray) (t := t) (fr := (0, 0)) hbW) (h1 y) (by simp only [maxLen]; omega) hl hbase
  have hfr : Fr (fun k => v.ownBlock = some k) W w1 := (Fr.refl _ W).grown hg (fun k hk => .inl hk)
  unfold Oper.wp execOp
  simp only [ho, resolve, invoke, builtin, Sem.run_bind, Sem.run_pure, Result.andThen_ok, List.map_toArray, List.map_cons, List.map_nil, hs, hx, hr]
  refine h v1 w1 ?_ hfr
  rw [List.flatMap_append, List.length_append]
  simpa using hown
end
def AppSJ {α : Type} (m : Nat) (f : α → List Value) (t : TypeId) (base : Nat) (v : Value) (l : List α) (y : α) (s s' : Nat) (k : Nat) (us : Nat → Value) (w : World) : Prop :=
  match k with
  | 0 => w.ownsRow base t m v l.length (l.flatMap f) ∧ us s' = v
  | 1 => w.ownsRow base t m (us s) (l ++ [y]).length ((l ++ [y]).flatMap f)
  | _ => w.ownsRow base t m (us s') (l ++ [y]).length ((l ++ [y]).flatMap f)
theorem AppSJ.keep {α : Type} {m : Nat} {f : α → List Value} {t : TypeId} {base : Nat} {v : Value} {l : List α} {y : α} {s s' : Nat} : ∀ (k : Nat) (us us' : Nat → Value) (w' w'' : World), AppSJ m f t base v l y s s' k us w' → (∀ d ∈ [s, s'], us' d = us d) → Fr F0 w' w'' → AppSJ m f t base v l y s s' k us' w''
  | 0, us, us', w', w'', h, hd, hf => ⟨own_keep0 h.1 hf, by rw [hd s' (by simp)]; exact h.2⟩
  | 1, us, us', w', w'', h, hd, hf => by
    show w''.ownsRow base t m (us' s) _ _
    rw [hd s (by simp)]
    exact own_keep0 h hf
  | k + 2, us, us', w', w'', h, hd, hf => by
    show w''.ownsRow base t m (us' s') _ _
    rw [hd s' (by simp)]
    exact own_keep0 h hf
end Go.Proofs.YtgbaijfgmeealaaGreat
