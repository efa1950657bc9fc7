/-
  heronry/pool: what Clean leaves, plainly. Conditions: none.
-/
import Derived.Test.YtjfdfjenodianaaL17a
set_option linter.unusedVariables false
set_option linter.unusedSimpArgs false
namespace Go.Proofs.Ytjfdfjenodianaa
open Go.RowKit
theorem at_inj : ∀ (fs : List Fm), (fs.map Fm.at_).Nodup → ∀ f ∈ fs, ∀ g ∈ fs, f.at_ = g.at_ → f = g
  | [], _, f, hf, _, _, _ => by simp at hf
  | x :: l, h, f, hf, g, hg, e => by
    rw [List.map_cons, List.nodup_cons] at h
    rcases List.mem_cons.1 hf with h1 | h1
    · rcases List.mem_cons.1 hg with h2 | h2
      · rw [h1, h2]
      · exact absurd (by rw [← h1, e]; exact List.mem_map_of_mem h2) h.1
    · rcases List.mem_cons.1 hg with h2 | h2
      · exact absurd (by rw [← h2, ← e]; exact List.mem_map_of_mem h1) h.1
      · exact at_inj l h.2 f h1 g h2 e
/-- The frames of such places, clean. -/
def washed (l : List Int) (f : Fm) : Fm := if f.at_ ∈ l then { f with dirty := false } else f
theorem washed_at (l : List Int) (f : Fm) : (washed l f).at_ = f.at_ := by unfold washed; split <;> rfl
theorem washed_b (l : List Int) (f : Fm) : (washed l f).b = f.b := by unfold washed; split <;> rfl
theorem set_washed {fs : List Fm} (hnd : (fs.map Fm.at_).Nodup) {i : Nat} {f : Fm} (h : fs[i]? = some f) : fs.set i { f with dirty := false } = fs.map (washed [f.at_]) := by
  apply List.ext_getElem?
  intro q
  rw [List.getElem?_map]
  by_cases hq : i = q
  · subst hq
    rw [List.getElem?_set_self (List.getElem?_eq_some_iff.1 h).1, h]
    simp [washed]
  · rw [List.getElem?_set_ne hq]
    cases hx : fs[q]? with
    | none => rfl
    | some g =>
      have hne : g.at_ ≠ f.at_ := by
        intro e
        obtain ⟨h1, h2⟩ := List.getElem?_eq_some_iff.1 h
        obtain ⟨h3, h4⟩ := List.getElem?_eq_some_iff.1 hx
        have := (List.pairwise_iff_getElem.1 hnd)
        rcases Nat.lt_or_gt_of_ne hq with hlt | hlt
        · exact this i q (by simpa using h1) (by simpa using h3) hlt (by simp [h2, h4, e])
        · exact this q i (by simpa using h3) (by simpa using h1) hlt (by simp [h2, h4, e])
      simp [washed, hne]
theorem washed_washed (a : Int) (l : List Int) (f : Fm) : washed l (washed [a] f) = washed (a :: l) f := by
  have h1 := washed_at [a] f
  by_cases ha : f.at_ = a <;> by_cases hl : f.at_ ∈ l <;> simp [washed, ha, hl] <;> simp_all
/-- What Clean leaves. -/
structure Washed (l : List Int) (P P' : Pl) (D D' : Dev) (n : Nat) : Prop where
  pool : P' = { P with fs := P.fs.map (washed l) }
  wf : PoolWf P' D' n
  on : ∀ f ∈ P.fs, f.at_ ∈ l → D'.at f.at_.toNat = f.b
  off : ∀ j : Nat, (j : Int) ∉ l → D'.at j = D.at j
  spent : D'.spent = D.spent + l.length
theorem cleanF_is (n : Nat) : ∀ (l : List Int) (P : Pl) (D : Dev), PoolWf P D n → (∀ a ∈ l, a ∈ P.fs.map Fm.at_) → 0 ≤ D.spent → D.spent + l.length < 2 ^ 62 → Washed l P (cleanF l P D).1 D (cleanF l P D).2 n
  | [], P, D, h, hl, s0, s1 => by
    have hw : P.fs.map (washed []) = P.fs := by
      rw [List.map_congr_left (g := id) (fun f _ => by simp [washed]), List.map_id]
    exact ⟨by show P = _; rw [hw], h, fun f hf hm => by simp at hm, fun j _ => rfl, by show D.spent = D.spent + 0; omega⟩
  | a :: l, P, D, h, hl, s0, s1 => by
    obtain ⟨i, hi⟩ := idx_of_mem (hl a (List.mem_cons_self ..))
    obtain ⟨f, hf, rfl⟩ := idx_some hi
    have hfm : f ∈ P.fs := List.mem_of_getElem? hf
    have hlen := h.lens f hfm
    obtain ⟨p0, p1⟩ := h.ok.places f hfm
    have hset := set_washed h.nd hf
    have h1 : PoolWf { P with fs := P.fs.set i { f with dirty := false } } D n := h.set hf rfl hlen
    have h2 := h1.write p0 p1 hlen
    obtain ⟨_, _, _, w4, w5, w6⟩ := h.good.write p0 p1 (s := f.b) (by omega)
    rw [pad64_full hlen] at w4
    rw [List.length_cons] at s1
    have hsp : (D.write f.at_ f.b).spent = D.spent + 1 := by
      rw [w5]
      unfold wrap64
      omega
    have hc : cleanF (f.at_ :: l) P D = cleanF l { P with fs := P.fs.set i { f with dirty := false } } (D.write f.at_ f.b) := by
      show (match P.idx f.at_ with | none => (P, D) | some i => cleanF l { P with fs := P.fs.set i { P.fs.getD i Fm.zero with dirty := false } } (D.write f.at_ (P.fs.getD i Fm.zero).b)) = _
      rw [hi]
      simp only [getD_of hf]
    rw [hc]
    have ih := cleanF_is n l _ _ h2 (fun a ha => by
      show a ∈ (P.fs.set i { f with dirty := false }).map Fm.at_
      rw [set_map_at (f' := { f with dirty := false }) hf rfl]
      exact hl a (List.mem_cons_of_mem _ ha)) (by rw [hsp]; omega) (by rw [hsp]; omega)
    obtain ⟨e1, e2, e3, e4, e5⟩ := ih
    refine ⟨?_, e2, ?_, ?_, ?_⟩
    · rw [e1]
      show ({ P with fs := (P.fs.set i { f with dirty := false }).map (washed l) } : Pl) = _
      rw [hset, List.map_map]
      congr 1
      exact List.map_congr_left (fun g _ => washed_washed f.at_ l g)
    · intro g hg hm
      by_cases hgl : g.at_ ∈ l
      · have := e3 (washed [f.at_] g) (by
          show _ ∈ P.fs.set i { f with dirty := false }
          rw [hset]
          exact List.mem_map_of_mem hg) (by rw [washed_at]; exact hgl)
        rw [washed_at, washed_b] at this
        exact this
      · rcases List.mem_cons.1 hm with hm | hm
        · obtain rfl := at_inj _ h.nd g hg f hfm hm
          rw [e4 g.at_.toNat (by rw [Int.toNat_of_nonneg p0]; exact hgl), w4]
        · exact absurd hm hgl
    · intro j hj
      rw [e4 j (fun hm => hj (List.mem_cons_of_mem _ hm)), w6 j (fun e => hj (by
        rw [← e, Int.toNat_of_nonneg p0]
        exact List.mem_cons_self ..))]
    · rw [e5, hsp, List.length_cons]
      omega
end Go.Proofs.Ytjfdfjenodianaa
