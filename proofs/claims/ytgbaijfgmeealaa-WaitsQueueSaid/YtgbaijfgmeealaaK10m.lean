/-
  Layer 10: theirs, SameLocks of the same. Conditions: none.
-/
import Derived.Test.YtgbaijfgmeealaaT9g
import Derived.Test.YtgbaijfgmeealaaTurn2
set_option linter.unusedVariables false
set_option linter.unusedSimpArgs false
namespace Go.Proofs.Ytgbaijfgmeealaa
open Go.RowKit
theorem info_rlock : (Try.prog.info? 93).map (fun i => (i.zero, i.size, i.bytes)) = some (some (.agg #[.int .i64 0, .int .i64 0, .int .i64 0, .int .i64 0]), 4, 32) := by kernel_rfl
theorem SrAt.four {w : World} {b off : Nat} {L : List Lk} {j : Nat} {x : Lk} (h : SrAt 4 Lk.cells w (some ⟨b, off, none⟩) L) (hx : L[j]? = some x) : ∀ wz, Fr F0 w wz → wz.cell? ⟨b, off + j * 4, none⟩ = some (.int .i64 x.block) ∧ wz.cell? ⟨b, off + j * 4 + 1, none⟩ = some (.int .i64 x.tx) ∧ wz.cell? ⟨b, off + j * 4 + 2, none⟩ = some (.int .i64 x.held) ∧ wz.cell? ⟨b, off + j * 4 + 3, none⟩ = some (.int .i64 x.kept) := by
  intro wz hf
  obtain ⟨b', off', e, hc⟩ := (h.keep0 hf).get hx (Lk.pos _)
  cases e
  exact ⟨hc 0 _ rfl, hc 1 _ rfl, hc 2 _ rfl, hc 3 _ rfl⟩
section
variable {α : Type} {m : Nat} {f : α → List Value}
/-- An append of one element, as one operation of a region that draws its order. -/
theorem wp_append_oneS {P : Program} {o : Oper} {a : Act} {K : Act → World → Prop} {Q : Exit → Act → World → Prop} {W : World} {t : TypeId} (s x : Operand) (ts : TypeId) (bytes : Nat) (z : Value)
    (ho : o.op = .call { callee := .builtin .append, args := #[s, x], argTypes := #[ts, ts] })
    (ht : P.underlying ts = some (.slice t)) (hinfo : (P.info? t).map (fun i => (i.zero, i.size, i.bytes)) = some (some z, m, bytes)) (hz : z.cells.size = m) (hm0 : 0 < m) (hb0 : 0 < bytes)
    (hm : ∀ x, (f x).length = m) (h1 : ∀ x, ∀ u ∈ f x, u.oneCell' = true)
    (base : Nat) (v : Value) (l : List α) (y : α) (b : Nat) (hs : a.eval s = v) (hx : a.eval x = .slice (some ⟨b, 0, none⟩) 1 1)
    (hbW : W.heap[b]? = some (.cells (f y).toArray t (0, 0)))
    (HO : W.ownsRow base t m v l.length (l.flatMap f)) (hbase : base ≤ W.heap.size) (hl : (l.length + 1) * bytes ≤ 140737488355328)
    (h : ∀ v1 w1, w1.ownsRow base t m v1 (l ++ [y]).length ((l ++ [y]).flatMap f) → Fr (fun k => v.ownBlock = some k) W w1 → K (a.put o.dst v1) w1) : o.wp P a W K Q := by
  obtain ⟨i0, hi, hzz⟩ := Option.map_eq_some_iff.1 hinfo
  simp only [Prod.mk.injEq] at hzz
  obtain ⟨hz0, hz1, hz2⟩ := hzz
  have hlen : l.length + 1 ≤ 140737488355328 := Nat.le_trans (Nat.le_mul_of_pos_right _ hb0) hl
  obtain ⟨v1, w1, hr, hown, hg, _, hat⟩ := run_append_own_at (P := P) W base ts o.type t i0 z m bytes ht hi hz0 hz1 hz2 hz (by omega) v l.length _ HO ⟨b, 0, none⟩ 1 1 (f y) (by rw [hm, Nat.one_mul])
    (World.news_of_block (cs := (f y).toArray) (t := t) (fr := (0, 0)) hbW) (h1 y) (by simp only [maxLen]; omega) hl hbase
  have hfr : Fr (fun k => v.ownBlock = some k) W w1 := (Fr.refl _ W).grown hg (fun k hk => .inl hk)
  unfold Oper.wp execOp
  simp only [ho, resolve, invoke, builtin, Sem.run_bind, Sem.run_pure, Result.andThen_ok, List.map_toArray, List.map_cons, List.map_nil, hs, hx, hr]
  refine h v1 w1 ?_ hfr
  rw [List.flatMap_append, List.length_append]
  simpa using hown
end
def AppSJ {α : Type} (m : Nat) (f : α → List Value) (t : TypeId) (base : Nat) (v : Value) (l : List α) (y : α) (s s' : Nat) (k : Nat) (us : Nat → Value) (w : World) : Prop :=
  match k with
  | 0 => w.ownsRow base t m v l.length (l.flatMap f) ∧ us s' = v
  | 1 => w.ownsRow base t m (us s) (l ++ [y]).length ((l ++ [y]).flatMap f)
  | _ => w.ownsRow base t m (us s') (l ++ [y]).length ((l ++ [y]).flatMap f)
theorem AppSJ.keep {α : Type} {m : Nat} {f : α → List Value} {t : TypeId} {base : Nat} {v : Value} {l : List α} {y : α} {s s' : Nat} : ∀ (k : Nat) (us us' : Nat → Value) (w' w'' : World), AppSJ m f t base v l y s s' k us w' → (∀ d ∈ [s, s'], us' d = us d) → Fr F0 w' w'' → AppSJ m f t base v l y s s' k us' w''
  | 0, us, us', w', w'', h, hd, hf => ⟨own_keep0 h.1 hf, by rw [hd s' (by simp)]; exact h.2⟩
  | 1, us, us', w', w'', h, hd, hf => by
    show w''.ownsRow base t m (us' s) _ _
    rw [hd s (by simp)]
    exact own_keep0 h hf
  | k + 2, us, us', w', w'', h, hd, hf => by
    show w''.ownsRow base t m (us' s') _ _
    rw [hd s' (by simp)]
    exact own_keep0 h hf
section
variable {w : World} {v : Value} {L : List Lk}
set_option maxRecDepth 100000 in
set_option maxHeartbeats 4000000 in
theorem theirs_c (h : SlV 4 Lk.cells w v L) (hn : L.length ≤ 100000) : Calls Try.prog 22 #[v] w fun e w' => ∃ v', e = .returned v' ∧ SlV 4 Lk.cells w' v' L ∧ Fr F0 w w' := by
  obtain ⟨A, c, rfl, hs, -⟩ := h.ex
  have HS := Lib.hid hs
  obtain ⟨n, hnn⟩ : ∃ n, n = L.length := ⟨_, rfl⟩
  have HN := Lib.hid hnn
  rw [← hnn]
  have n0 : (0 : Int) ≤ (n : Int) := Int.natCast_nonneg _
  have hn2 : n ≤ 100000 := by omega
  clear h hs hnn
  go_enter Try.func22, Try.ntmps22
  go_wp2_with fail
  go_loopg [3, 4] n (fun kq x3 x4 wr => ∃ j : Nat, j ≤ n ∧ kq = n - j ∧ x4 = .int .i64 (j : Int) ∧ wr.ownsRow w.heap.size 93 4 x3 (L.take j).length ((L.take j).flatMap Lk.cells) ∧ Fr F0 w wr)
  case atStart => exact ⟨0, by omega, rfl, rfl, own_nil _ _ _ _, Fr.refl _ _⟩
  case round =>
    obtain ⟨j, hj, rfl, rfl, hown, hf⟩ := hrel
    have HO := Lib.hid hown
    have HF := Lib.hid hf
    clear hown hf
    have j0 : (0 : Int) ≤ (j : Int) := Int.natCast_nonneg _
    by_cases hlt : j < n
    · have j1 : (j : Int) < (n : Int) := by omega
      have hjl : j < L.length := by have := HN.out; omega
      obtain ⟨b, off, rfl, -⟩ := (HS.out.keep0 HF.out).get (List.getElem?_eq_getElem hjl) (Lk.pos _)
      have hx := List.getElem?_eq_getElem hjl
      obtain ⟨x, hxe⟩ : ∃ x, x = L[j] := ⟨_, rfl⟩
      rw [← hxe] at hx
      have HX := Lib.hid hx
      obtain ⟨q0, q1, q2, q3⟩ := SrAt.four (HS.out.keep0 HF.out) hx wr (Fr.refl _ _)
      have HT : Hid (L.take (j + 1) = L.take j ++ [x]) := Lib.hid (by rw [List.take_add_one, hx]; rfl)
      have hw1 : IntKind.i64.wrap ((j : Int) + 1) = (j : Int) + 1 := by rw [IntKind.wrap_i64]; omega
      have HZ : Hid (w.heap.size ≤ wr.heap.size) := Lib.hid HF.out.size
      have HSN : Hid (∀ g, wr.heap.size ≤ g → ¬ u3.ownBlock = some g) := Lib.hid (fun g hg e => by
        obtain ⟨cc, hcc⟩ := own_cells HO.out _ e
        have := lt_of_block hcc
        omega)
      have hbw : b < w.heap.size := (HS.out.lt (by omega) Lk.pos)
      have HKC : Hid (∀ wx, Fr (fun k => u3.ownBlock = some k) wr wx → wx.cell? ⟨b, off + j * 4, none⟩ = some (.int .i64 x.block) ∧ wx.cell? ⟨b, off + j * 4 + 1, none⟩ = some (.int .i64 x.tx) ∧ wx.cell? ⟨b, off + j * 4 + 2, none⟩ = some (.int .i64 x.held) ∧ wx.cell? ⟨b, off + j * 4 + 3, none⟩ = some (.int .i64 x.kept)) := Lib.hid (fun wx hf =>
        SrAt.four ((HS.out.keep0 HF.out).keep hf (fun ad e hp hk => by cases e; have := own_ge HO.out hk; have e2 : w.heap.size ≤ b := this; omega)) hx wx (Fr.refl _ _))
      have HLEN : Hid (((L.take j).length + 1) * 32 ≤ 140737488355328) := Lib.hid (by rw [List.length_take]; omega)
      clear hx hxe q0 q1 q2 q3
      obtain ⟨x1, x2, x3, x4⟩ := x
      simp only at HKC
      go_wp2_with fail
      refine wp_region_turn2 (S := (fun k => u3.ownBlock = some k)) [false, false, false, true, false, false, false, false, false, false, false, true, true, true, true, true, true, true, true, true, true, true, true, true, true, true, true, true, true, true, true, true, true, true, true, false] [.eq (u3), .eq (.slice (some ⟨b, off, none⟩) n c), .eq (.int .i64 (j : Int)), .eq (.pointer (some ⟨b, off + j * 4, none⟩)), .eq (.pointer (some ⟨b, off + j * 4, none⟩)), .eq (.int .i64 x1), .eq (.slice (some ⟨b, off, none⟩) n c), .eq (.int .i64 (j : Int)), .eq (.pointer (some ⟨b, off + j * 4, none⟩)), .eq (.pointer (some ⟨b, off + j * 4 + 1, none⟩)), .eq (.int .i64 x2), .eq (.slice (some ⟨b, off, none⟩) n c), .eq (.int .i64 (j : Int)), .eq (.pointer (some ⟨b, off + j * 4, none⟩)), .eq (.pointer (some ⟨b, off + j * 4 + 2, none⟩)), .eq (.int .i64 x3), .eq (.slice (some ⟨b, off, none⟩) n c), .eq (.int .i64 (j : Int)), .eq (.pointer (some ⟨b, off + j * 4, none⟩)), .eq (.pointer (some ⟨b, off + j * 4 + 3, none⟩)), .eq (.int .i64 x4), .eq (.agg #[.int .i64 x1, .int .i64 x2, .int .i64 x3, .int .i64 x4]), ⟨fun v w1 => ∃ g, v = .slice (some ⟨g, 0, none⟩) 1 1 ∧ wr.heap.size ≤ g ∧ w1.heap[g]? = some (.cells (Lk.cells ⟨x1, x2, x3, x4⟩).toArray 93 (0, 0)), fun v w1 w2 ⟨g, h1, h2, h3⟩ hf => ⟨g, h1, h2, hf.keep h3 (HSN.out g h2)⟩⟩, .any, .any] (AppSJ 4 Lk.cells 93 w.heap.size u3 (L.take j) ⟨x1, x2, x3, x4⟩ 34 3) [none, none, none, none, none, none, none, none, none, none, none, none, none, none, none, none, none, none, none, none, none, none, none, some 0, some 1] [0, 0, 0, 0, 0, 0, 0, 0, 0, 0, 0, 0, 0, 0, 0, 0, 0, 0, 0, 0, 0, 0, 0, 1, 2] [34, 3] 2 (by kernel_rfl) (by kernel_rfl) (by rfl) (by kernel_rfl) (by kernel_rfl) ?hJ ?hJ0 (fun us => ?steps) (fun us wz hG hJ hall => ?fin)
      case hJ =>
        exact AppSJ.keep
      case hJ0 =>
        exact ⟨HO.out, rfl⟩
      case steps =>
        simp only [fillL, Nat.reduceAdd]
        refine stepsTurn2.cons (fun wx kk hG hkk hJ hd K hK => ?_) ?_
        · -- no edge to slot 3
          obtain rfl : kk = 0 := Nat.le_zero.1 hkk
          rw [if_pos (wanted_none rfl)]
          refine wp_value (w2 := wx) (v := u3) ?_ (hK _ _ rfl (Fr.refl _ _))
          have h3 : us 3 = u3 := hJ.2
          clear hd hK hG hJ
          go_simp
          try exact h3
        refine stepsTurn2.cons (fun wx kk hG hkk hJ hd K hK => ?_) ?_
        · obtain rfl : kk = 0 := Nat.le_zero.1 hkk
          rw [if_pos (wanted_none rfl)]
          refine wp_value (w2 := wx) (v := .slice (some ⟨b, off, none⟩) n c) ?_ (hK _ _ rfl (Fr.refl _ _))
          clear hd hG hK hJ
          go_simp
        refine stepsTurn2.cons (fun wx kk hG hkk hJ hd K hK => ?_) ?_
        · obtain rfl : kk = 0 := Nat.le_zero.1 hkk
          rw [if_pos (wanted_none rfl)]
          refine wp_value (w2 := wx) (v := .int .i64 (j : Int)) ?_ (hK _ _ rfl (Fr.refl _ _))
          clear hd hG hK hJ
          go_simp
        refine stepsTurn2.cons (fun wx kk hG hkk hJ hd K hK => ?_) ?_
        · have h12 : us 12 = (.slice (some ⟨b, off, none⟩) n c) := deps_get hd 0 rfl rfl rfl rfl rfl
          have h13 : us 13 = (.int .i64 (j : Int)) := deps_get hd 1 rfl rfl rfl rfl rfl
          obtain rfl : kk = 0 := Nat.le_zero.1 hkk
          rw [if_pos (wanted_none rfl)]
          refine wp_value (w2 := wx) (v := .pointer (some ⟨b, off + j * 4, none⟩)) ?_ (hK _ _ rfl (Fr.refl _ _))
          clear hd hG hK hJ
          go_simp
        refine stepsTurn2.cons (fun wx kk hG hkk hJ hd K hK => ?_) ?_
        · have h14 : us 14 = (.pointer (some ⟨b, off + j * 4, none⟩)) := deps_get hd 0 rfl rfl rfl rfl rfl
          obtain rfl : kk = 0 := Nat.le_zero.1 hkk
          rw [if_pos (wanted_none rfl)]
          refine wp_value (w2 := wx) (v := .pointer (some ⟨b, off + j * 4, none⟩)) ?_ (hK _ _ rfl (Fr.refl _ _))
          clear hd hG hK hJ
          go_simp
        refine stepsTurn2.cons (fun wx kk hG hkk hJ hd K hK => ?_) ?_
        · have h15 : us 15 = (.pointer (some ⟨b, off + j * 4, none⟩)) := deps_get hd 0 rfl rfl rfl rfl rfl
          obtain rfl : kk = 0 := Nat.le_zero.1 hkk
          rw [if_pos (wanted_none rfl)]
          obtain ⟨q0, q1, q2, q3⟩ := HKC.out wx hG
          clear hJ
          refine wp_value (w2 := wx) (v := .int .i64 x1) ?_ (hK _ _ rfl (Fr.refl _ _))
          clear hd hK
          go_simp
        refine stepsTurn2.cons (fun wx kk hG hkk hJ hd K hK => ?_) ?_
        · obtain rfl : kk = 0 := Nat.le_zero.1 hkk
          rw [if_pos (wanted_none rfl)]
          refine wp_value (w2 := wx) (v := .slice (some ⟨b, off, none⟩) n c) ?_ (hK _ _ rfl (Fr.refl _ _))
          clear hd hG hK hJ
          go_simp
        refine stepsTurn2.cons (fun wx kk hG hkk hJ hd K hK => ?_) ?_
        · obtain rfl : kk = 0 := Nat.le_zero.1 hkk
          rw [if_pos (wanted_none rfl)]
          refine wp_value (w2 := wx) (v := .int .i64 (j : Int)) ?_ (hK _ _ rfl (Fr.refl _ _))
          clear hd hG hK hJ
          go_simp
        refine stepsTurn2.cons (fun wx kk hG hkk hJ hd K hK => ?_) ?_
        · have h17 : us 17 = (.slice (some ⟨b, off, none⟩) n c) := deps_get hd 0 rfl rfl rfl rfl rfl
          have h18 : us 18 = (.int .i64 (j : Int)) := deps_get hd 1 rfl rfl rfl rfl rfl
          obtain rfl : kk = 0 := Nat.le_zero.1 hkk
          rw [if_pos (wanted_none rfl)]
          refine wp_value (w2 := wx) (v := .pointer (some ⟨b, off + j * 4, none⟩)) ?_ (hK _ _ rfl (Fr.refl _ _))
          clear hd hG hK hJ
          go_simp
        refine stepsTurn2.cons (fun wx kk hG hkk hJ hd K hK => ?_) ?_
        · have h19 : us 19 = (.pointer (some ⟨b, off + j * 4, none⟩)) := deps_get hd 0 rfl rfl rfl rfl rfl
          obtain rfl : kk = 0 := Nat.le_zero.1 hkk
          rw [if_pos (wanted_none rfl)]
          refine wp_value (w2 := wx) (v := .pointer (some ⟨b, off + j * 4 + 1, none⟩)) ?_ (hK _ _ rfl (Fr.refl _ _))
          clear hd hG hK hJ
          go_simp
        refine stepsTurn2.cons (fun wx kk hG hkk hJ hd K hK => ?_) ?_
        · have h20 : us 20 = (.pointer (some ⟨b, off + j * 4 + 1, none⟩)) := deps_get hd 0 rfl rfl rfl rfl rfl
          obtain rfl : kk = 0 := Nat.le_zero.1 hkk
          rw [if_pos (wanted_none rfl)]
          obtain ⟨q0, q1, q2, q3⟩ := HKC.out wx hG
          clear hJ
          refine wp_value (w2 := wx) (v := .int .i64 x2) ?_ (hK _ _ rfl (Fr.refl _ _))
          clear hd hK
          go_simp
        refine stepsTurn2.cons (fun wx kk hG hkk hJ hd K hK => ?_) ?_
        · obtain rfl : kk = 0 := Nat.le_zero.1 hkk
          rw [if_pos (wanted_none rfl)]
          refine wp_value (w2 := wx) (v := .slice (some ⟨b, off, none⟩) n c) ?_ (hK _ _ rfl (Fr.refl _ _))
          clear hd hG hK hJ
          go_simp
        refine stepsTurn2.cons (fun wx kk hG hkk hJ hd K hK => ?_) ?_
        · obtain rfl : kk = 0 := Nat.le_zero.1 hkk
          rw [if_pos (wanted_none rfl)]
          refine wp_value (w2 := wx) (v := .int .i64 (j : Int)) ?_ (hK _ _ rfl (Fr.refl _ _))
          clear hd hG hK hJ
          go_simp
        refine stepsTurn2.cons (fun wx kk hG hkk hJ hd K hK => ?_) ?_
        · have h22 : us 22 = (.slice (some ⟨b, off, none⟩) n c) := deps_get hd 0 rfl rfl rfl rfl rfl
          have h23 : us 23 = (.int .i64 (j : Int)) := deps_get hd 1 rfl rfl rfl rfl rfl
          obtain rfl : kk = 0 := Nat.le_zero.1 hkk
          rw [if_pos (wanted_none rfl)]
          refine wp_value (w2 := wx) (v := .pointer (some ⟨b, off + j * 4, none⟩)) ?_ (hK _ _ rfl (Fr.refl _ _))
          clear hd hG hK hJ
          go_simp
        refine stepsTurn2.cons (fun wx kk hG hkk hJ hd K hK => ?_) ?_
        · have h24 : us 24 = (.pointer (some ⟨b, off + j * 4, none⟩)) := deps_get hd 0 rfl rfl rfl rfl rfl
          obtain rfl : kk = 0 := Nat.le_zero.1 hkk
          rw [if_pos (wanted_none rfl)]
          refine wp_value (w2 := wx) (v := .pointer (some ⟨b, off + j * 4 + 2, none⟩)) ?_ (hK _ _ rfl (Fr.refl _ _))
          clear hd hG hK hJ
          go_simp
        refine stepsTurn2.cons (fun wx kk hG hkk hJ hd K hK => ?_) ?_
        · have h25 : us 25 = (.pointer (some ⟨b, off + j * 4 + 2, none⟩)) := deps_get hd 0 rfl rfl rfl rfl rfl
          obtain rfl : kk = 0 := Nat.le_zero.1 hkk
          rw [if_pos (wanted_none rfl)]
          obtain ⟨q0, q1, q2, q3⟩ := HKC.out wx hG
          clear hJ
          refine wp_value (w2 := wx) (v := .int .i64 x3) ?_ (hK _ _ rfl (Fr.refl _ _))
          clear hd hK
          go_simp
        refine stepsTurn2.cons (fun wx kk hG hkk hJ hd K hK => ?_) ?_
        · obtain rfl : kk = 0 := Nat.le_zero.1 hkk
          rw [if_pos (wanted_none rfl)]
          refine wp_value (w2 := wx) (v := .slice (some ⟨b, off, none⟩) n c) ?_ (hK _ _ rfl (Fr.refl _ _))
          clear hd hG hK hJ
          go_simp
        refine stepsTurn2.cons (fun wx kk hG hkk hJ hd K hK => ?_) ?_
        · obtain rfl : kk = 0 := Nat.le_zero.1 hkk
          rw [if_pos (wanted_none rfl)]
          refine wp_value (w2 := wx) (v := .int .i64 (j : Int)) ?_ (hK _ _ rfl (Fr.refl _ _))
          clear hd hG hK hJ
          go_simp
        refine stepsTurn2.cons (fun wx kk hG hkk hJ hd K hK => ?_) ?_
        · have h27 : us 27 = (.slice (some ⟨b, off, none⟩) n c) := deps_get hd 0 rfl rfl rfl rfl rfl
          have h28 : us 28 = (.int .i64 (j : Int)) := deps_get hd 1 rfl rfl rfl rfl rfl
          obtain rfl : kk = 0 := Nat.le_zero.1 hkk
          rw [if_pos (wanted_none rfl)]
          refine wp_value (w2 := wx) (v := .pointer (some ⟨b, off + j * 4, none⟩)) ?_ (hK _ _ rfl (Fr.refl _ _))
          clear hd hG hK hJ
          go_simp
        refine stepsTurn2.cons (fun wx kk hG hkk hJ hd K hK => ?_) ?_
        · have h29 : us 29 = (.pointer (some ⟨b, off + j * 4, none⟩)) := deps_get hd 0 rfl rfl rfl rfl rfl
          obtain rfl : kk = 0 := Nat.le_zero.1 hkk
          rw [if_pos (wanted_none rfl)]
          refine wp_value (w2 := wx) (v := .pointer (some ⟨b, off + j * 4 + 3, none⟩)) ?_ (hK _ _ rfl (Fr.refl _ _))
          clear hd hG hK hJ
          go_simp
        refine stepsTurn2.cons (fun wx kk hG hkk hJ hd K hK => ?_) ?_
        · have h30 : us 30 = (.pointer (some ⟨b, off + j * 4 + 3, none⟩)) := deps_get hd 0 rfl rfl rfl rfl rfl
          obtain rfl : kk = 0 := Nat.le_zero.1 hkk
          rw [if_pos (wanted_none rfl)]
          obtain ⟨q0, q1, q2, q3⟩ := HKC.out wx hG
          clear hJ
          refine wp_value (w2 := wx) (v := .int .i64 x4) ?_ (hK _ _ rfl (Fr.refl _ _))
          clear hd hK
          go_simp
        refine stepsTurn2.cons (fun wx kk hG hkk hJ hd K hK => ?_) ?_
        · have h16 : us 16 = (.int .i64 x1) := deps_get hd 0 rfl rfl rfl rfl rfl
          have h21 : us 21 = (.int .i64 x2) := deps_get hd 1 rfl rfl rfl rfl rfl
          have h26 : us 26 = (.int .i64 x3) := deps_get hd 2 rfl rfl rfl rfl rfl
          have h31 : us 31 = (.int .i64 x4) := deps_get hd 3 rfl rfl rfl rfl rfl
          obtain rfl : kk = 0 := Nat.le_zero.1 hkk
          rw [if_pos (wanted_none rfl)]
          refine wp_value (w2 := wx) (v := .agg #[.int .i64 x1, .int .i64 x2, .int .i64 x3, .int .i64 x4]) ?_ (hK _ _ rfl (Fr.refl _ _))
          clear hd hG hK hJ
          go_simp
        refine stepsTurn2.cons (fun wx kk hG hkk hJ hd K hK => ?_) ?_
        · have h32 : us 32 = (.agg #[.int .i64 x1, .int .i64 x2, .int .i64 x3, .int .i64 x4]) := deps_get hd 0 rfl rfl rfl rfl rfl
          obtain rfl : kk = 0 := Nat.le_zero.1 hkk
          rw [if_pos (wanted_none rfl)]
          refine wp_value (w2 := wx.alloc (.cells (Lk.cells ⟨x1, x2, x3, x4⟩).toArray 93)) (v := .slice (some ⟨wx.heap.size, 0, none⟩) 1 1) ?_ (hK _ _ ⟨_, rfl, hG.size, alloc_at rfl _⟩ ((Fr.refl _ _).alloc _))
          clear hd hK hG hJ
          go_simp
          try rfl
        refine stepsTurn2.cons (fun wx hG hJ hd K hK => ?_) ?_
        · have h11 : us 11 = (u3) := deps_get hd 0 rfl rfl rfl rfl rfl
          have h33 := deps_get hd 1 rfl rfl rfl rfl rfl
          rw [if_pos (wanted_none rfl)]
          have h11 : us 11 = u3 := h11
          obtain ⟨g, hg1, hg2, hg3⟩ := h33
          have hsz9 := hG.size
          refine wp_append_oneS (t := 93) (m := 4) (f := Lk.cells) (.tmp 11) (.tmp 33) 55 32 (.agg #[.int .i64 0, .int .i64 0, .int .i64 0, .int .i64 0]) rfl Try.underlying55 info_rlock rfl (by decide) (by decide) Lk.len Lk.one w.heap.size u3 (L.take j) ⟨x1, x2, x3, x4⟩ g (by exact h11) (by exact hg1) hg3 hJ.1 (by have := HZ.out; omega) HLEN.out ?_
          intro v1 w1 hown1 hf1
          exact hK v1 w1 trivial hf1 (by simpa [AppSJ, updD] using hown1)
        refine stepsTurn2.cons (fun wx hG hJ hd K hK => ?_) ?_
        · have h34 := deps_get hd 0 rfl rfl rfl rfl rfl
          rw [if_pos (wanted_none rfl)]
          refine wp_value (w2 := wx) (v := us 34) ?_ (hK _ _ trivial (Fr.refl _ _) (by simpa [AppSJ, updD] using hJ))
          clear hd hK hG hJ
          go_simp
        exact stepsTurn2.nil
      case fin =>
        have h11 : us 11 = (u3) := all_get hall 0 rfl rfl rfl
        have h12 : us 12 = (.slice (some ⟨b, off, none⟩) n c) := all_get hall 1 rfl rfl rfl
        have h13 : us 13 = (.int .i64 (j : Int)) := all_get hall 2 rfl rfl rfl
        have h14 : us 14 = (.pointer (some ⟨b, off + j * 4, none⟩)) := all_get hall 3 rfl rfl rfl
        have h15 : us 15 = (.pointer (some ⟨b, off + j * 4, none⟩)) := all_get hall 4 rfl rfl rfl
        have h16 : us 16 = (.int .i64 x1) := all_get hall 5 rfl rfl rfl
        have h17 : us 17 = (.slice (some ⟨b, off, none⟩) n c) := all_get hall 6 rfl rfl rfl
        have h18 : us 18 = (.int .i64 (j : Int)) := all_get hall 7 rfl rfl rfl
        have h19 : us 19 = (.pointer (some ⟨b, off + j * 4, none⟩)) := all_get hall 8 rfl rfl rfl
        have h20 : us 20 = (.pointer (some ⟨b, off + j * 4 + 1, none⟩)) := all_get hall 9 rfl rfl rfl
        have h21 : us 21 = (.int .i64 x2) := all_get hall 10 rfl rfl rfl
        have h22 : us 22 = (.slice (some ⟨b, off, none⟩) n c) := all_get hall 11 rfl rfl rfl
        have h23 : us 23 = (.int .i64 (j : Int)) := all_get hall 12 rfl rfl rfl
        have h24 : us 24 = (.pointer (some ⟨b, off + j * 4, none⟩)) := all_get hall 13 rfl rfl rfl
        have h25 : us 25 = (.pointer (some ⟨b, off + j * 4 + 2, none⟩)) := all_get hall 14 rfl rfl rfl
        have h26 : us 26 = (.int .i64 x3) := all_get hall 15 rfl rfl rfl
        have h27 : us 27 = (.slice (some ⟨b, off, none⟩) n c) := all_get hall 16 rfl rfl rfl
        have h28 : us 28 = (.int .i64 (j : Int)) := all_get hall 17 rfl rfl rfl
        have h29 : us 29 = (.pointer (some ⟨b, off + j * 4, none⟩)) := all_get hall 18 rfl rfl rfl
        have h30 : us 30 = (.pointer (some ⟨b, off + j * 4 + 3, none⟩)) := all_get hall 19 rfl rfl rfl
        have h31 : us 31 = (.int .i64 x4) := all_get hall 20 rfl rfl rfl
        have h32 : us 32 = (.agg #[.int .i64 x1, .int .i64 x2, .int .i64 x3, .int .i64 x4]) := all_get hall 21 rfl rfl rfl
        have h33 := all_get hall 22 rfl rfl rfl
        have h34 := all_get hall 23 rfl rfl rfl
        have h3 := all_get hall 24 rfl rfl rfl
        simp only [fillL, Nat.reduceAdd]
        clear hall
        simp only [h11, h12, h13, h14, h15, h16, h17, h18, h19, h20, h21, h22, h23, h24, h25, h26, h27, h28, h29, h30, h31, h32]
        clear h11 h12 h13 h14 h15 h16 h17 h18 h19 h20 h21 h22 h23 h24 h25 h26 h27 h28 h29 h30 h31 h32
        have hown9 : wz.ownsRow w.heap.size 93 4 (us 3) (L.take j ++ [(⟨x1, x2, x3, x4⟩ : Lk)]).length ((L.take j ++ [(⟨x1, x2, x3, x4⟩ : Lk)]).flatMap Lk.cells) := hJ
        have HFZ := HF.out.trans hG (fun k hk => .inr (own_ge HO.out hk))
        clear hJ hG
        go_wp2_with fail
        go_roundg (n - (j + 1))
        case measure => omega
        case rel => exact ⟨j + 1, by omega, rfl, by first | rfl | (go_num), by rw [HT.out]; exact hown9, HFZ⟩
    · have hjn : j = n := by omega
      subst hjn
      go_wp2_with fail
      go_ret
      have h1 : L.take j = L := by rw [HN.out, List.take_length]
      have h2 := SlV.of_own Lk.len HO.out
      rw [h1] at h2
      exact ⟨_, rfl, h2, HF.out⟩
set_option maxRecDepth 100000 in
set_option maxHeartbeats 4000000 in
theorem same_c {v2 : Value} (h : SlV 4 Lk.cells w v L) (h2 : SlV 4 Lk.cells w v2 L) (hn : L.length ≤ 100000) : Calls Try.prog 21 #[v, v2] w fun e w' => e = .returned (.bool true) ∧ Fr F0 w w' := by
  obtain ⟨A, c, rfl, hs, -⟩ := h.ex
  obtain ⟨A2, c2, rfl, hs2, -⟩ := h2.ex
  have HS := Lib.hid hs
  have HS2 := Lib.hid hs2
  obtain ⟨n, hnn⟩ : ∃ n, n = L.length := ⟨_, rfl⟩
  have HN := Lib.hid hnn
  rw [← hnn]
  have n0 : (0 : Int) ≤ (n : Int) := Int.natCast_nonneg _
  have hn2 : n ≤ 100000 := by omega
  clear h h2 hs hs2 hnn
  go_enter Try.func21, Try.ntmps21
  go_wp2_with fail
  go_loopg [5] n (fun kq x5 wr => ∃ j : Nat, j ≤ n ∧ kq = n - j ∧ x5 = .int .i64 (j : Int) ∧ Fr F0 w wr)
  case atStart => exact ⟨0, by omega, rfl, rfl, Fr.refl _ _⟩
  case round =>
    obtain ⟨j, hj, rfl, rfl, hf⟩ := hrel
    have HF := Lib.hid hf
    clear hf
    have j0 : (0 : Int) ≤ (j : Int) := Int.natCast_nonneg _
    by_cases hlt : j < n
    · have j1 : (j : Int) < (n : Int) := by omega
      have hjl : j < L.length := by have := HN.out; omega
      obtain ⟨b, off, rfl, -⟩ := (HS.out.keep0 HF.out).get (List.getElem?_eq_getElem hjl) (Lk.pos _)
      obtain ⟨b2, off2, rfl, -⟩ := (HS2.out.keep0 HF.out).get (List.getElem?_eq_getElem hjl) (Lk.pos _)
      have hx := List.getElem?_eq_getElem hjl
      obtain ⟨x, hxe⟩ : ∃ x, x = L[j] := ⟨_, rfl⟩
      rw [← hxe] at hx
      have HC1 := Lib.hid (SrAt.four (HS.out.keep0 HF.out) hx)
      have HC2 := Lib.hid (SrAt.four (HS2.out.keep0 HF.out) hx)
      have hw1 : IntKind.i64.wrap ((j : Int) + 1) = (j : Int) + 1 := by rw [IntKind.wrap_i64]; omega
      clear hx hxe
      obtain ⟨x1, x2, x3, x4⟩ := x
      simp only at HC1 HC2
      go_wp2_with fail
      refine wp_region_free (S := F0) [false, false, false, false, false, false, false, false, false, false, false, false, false, false, false, false, false, true, true, true, true, true, true, true, true, true] [.eq (.slice (some ⟨b, off, none⟩) n c), .eq (.int .i64 (j : Int)), .eq (.pointer (some ⟨b, off + j * 4, none⟩)), .eq (.agg #[.int .i64 x1, .int .i64 x2, .int .i64 x3, .int .i64 x4]), .eq (.slice (some ⟨b2, off2, none⟩) n c2), .eq (.int .i64 (j : Int)), .eq (.pointer (some ⟨b2, off2 + j * 4, none⟩)), .eq (.agg #[.int .i64 x1, .int .i64 x2, .int .i64 x3, .int .i64 x4]), .eq (.bool false)] (by kernel_rfl) (by kernel_rfl) (by rfl) (fun us => ?steps) (fun us wz hG hall => ?fin)
      case steps =>
        simp only [fillL, Nat.reduceAdd]
        refine stepsHold.cons (fun wx hG hd K hK => ?_) ?_
        · rw [if_pos (wanted_none rfl)]
          refine wp_value (w2 := wx) (v := .slice (some ⟨b, off, none⟩) n c) ?_ (hK _ _ rfl (Fr.refl _ _))
          clear hd hG hK
          go_simp
        refine stepsHold.cons (fun wx hG hd K hK => ?_) ?_
        · rw [if_pos (wanted_none rfl)]
          refine wp_value (w2 := wx) (v := .int .i64 (j : Int)) ?_ (hK _ _ rfl (Fr.refl _ _))
          clear hd hG hK
          go_simp
        refine stepsHold.cons (fun wx hG hd K hK => ?_) ?_
        · have h17 : us 17 = (.slice (some ⟨b, off, none⟩) n c) := deps_get hd 0 rfl rfl rfl rfl rfl
          have h18 : us 18 = (.int .i64 (j : Int)) := deps_get hd 1 rfl rfl rfl rfl rfl
          rw [if_pos (wanted_none rfl)]
          refine wp_value (w2 := wx) (v := .pointer (some ⟨b, off + j * 4, none⟩)) ?_ (hK _ _ rfl (Fr.refl _ _))
          clear hd hG hK
          go_simp
        refine stepsHold.cons (fun wx hG hd K hK => ?_) ?_
        · have h19 : us 19 = (.pointer (some ⟨b, off + j * 4, none⟩)) := deps_get hd 0 rfl rfl rfl rfl rfl
          rw [if_pos (wanted_none rfl)]
          obtain ⟨q0, q1, q2, q3⟩ := HC1.out wx hG
          refine wp_value (w2 := wx) (v := .agg #[.int .i64 x1, .int .i64 x2, .int .i64 x3, .int .i64 x4]) ?_ (hK _ _ rfl (Fr.refl _ _))
          clear hd hK
          go_simp
        refine stepsHold.cons (fun wx hG hd K hK => ?_) ?_
        · rw [if_pos (wanted_none rfl)]
          refine wp_value (w2 := wx) (v := .slice (some ⟨b2, off2, none⟩) n c2) ?_ (hK _ _ rfl (Fr.refl _ _))
          clear hd hG hK
          go_simp
        refine stepsHold.cons (fun wx hG hd K hK => ?_) ?_
        · rw [if_pos (wanted_none rfl)]
          refine wp_value (w2 := wx) (v := .int .i64 (j : Int)) ?_ (hK _ _ rfl (Fr.refl _ _))
          clear hd hG hK
          go_simp
        refine stepsHold.cons (fun wx hG hd K hK => ?_) ?_
        · have h21 : us 21 = (.slice (some ⟨b2, off2, none⟩) n c2) := deps_get hd 0 rfl rfl rfl rfl rfl
          have h22 : us 22 = (.int .i64 (j : Int)) := deps_get hd 1 rfl rfl rfl rfl rfl
          rw [if_pos (wanted_none rfl)]
          refine wp_value (w2 := wx) (v := .pointer (some ⟨b2, off2 + j * 4, none⟩)) ?_ (hK _ _ rfl (Fr.refl _ _))
          clear hd hG hK
          go_simp
        refine stepsHold.cons (fun wx hG hd K hK => ?_) ?_
        · have h23 : us 23 = (.pointer (some ⟨b2, off2 + j * 4, none⟩)) := deps_get hd 0 rfl rfl rfl rfl rfl
          rw [if_pos (wanted_none rfl)]
          obtain ⟨q0, q1, q2, q3⟩ := HC2.out wx hG
          refine wp_value (w2 := wx) (v := .agg #[.int .i64 x1, .int .i64 x2, .int .i64 x3, .int .i64 x4]) ?_ (hK _ _ rfl (Fr.refl _ _))
          clear hd hK
          go_simp
        refine stepsHold.cons (fun wx hG hd K hK => ?_) ?_
        · have h20 : us 20 = (.agg #[.int .i64 x1, .int .i64 x2, .int .i64 x3, .int .i64 x4]) := deps_get hd 0 rfl rfl rfl rfl rfl
          have h24 : us 24 = (.agg #[.int .i64 x1, .int .i64 x2, .int .i64 x3, .int .i64 x4]) := deps_get hd 1 rfl rfl rfl rfl rfl
          rw [if_pos (wanted_none rfl)]
          refine wp_value (w2 := wx) (v := .bool false) ?_ (hK _ _ rfl (Fr.refl _ _))
          clear hd hG hK
          go_simp
        exact stepsHold.nil
      case fin =>
        have h17 : us 17 = (.slice (some ⟨b, off, none⟩) n c) := all_get hall 0 rfl rfl rfl
        have h18 : us 18 = (.int .i64 (j : Int)) := all_get hall 1 rfl rfl rfl
        have h19 : us 19 = (.pointer (some ⟨b, off + j * 4, none⟩)) := all_get hall 2 rfl rfl rfl
        have h20 : us 20 = (.agg #[.int .i64 x1, .int .i64 x2, .int .i64 x3, .int .i64 x4]) := all_get hall 3 rfl rfl rfl
        have h21 : us 21 = (.slice (some ⟨b2, off2, none⟩) n c2) := all_get hall 4 rfl rfl rfl
        have h22 : us 22 = (.int .i64 (j : Int)) := all_get hall 5 rfl rfl rfl
        have h23 : us 23 = (.pointer (some ⟨b2, off2 + j * 4, none⟩)) := all_get hall 6 rfl rfl rfl
        have h24 : us 24 = (.agg #[.int .i64 x1, .int .i64 x2, .int .i64 x3, .int .i64 x4]) := all_get hall 7 rfl rfl rfl
        have h25 : us 25 = (.bool false) := all_get hall 8 rfl rfl rfl
        simp only [fillL, Nat.reduceAdd]
        clear hall
        simp only [h17, h18, h19, h20, h21, h22, h23, h24, h25]
        clear h17 h18 h19 h20 h21 h22 h23 h24 h25
        go_wp2_with fail
        go_roundg (n - (j + 1))
        case measure => omega
        case rel => exact ⟨j + 1, by omega, rfl, by first | rfl | (go_num), HF.out.then0 hG⟩
    · have hjn : j = n := by omega
      subst hjn
      go_wp2_with fail
      go_ret
      exact ⟨rfl, HF.out⟩
end
end Go.Proofs.Ytgbaijfgmeealaa
