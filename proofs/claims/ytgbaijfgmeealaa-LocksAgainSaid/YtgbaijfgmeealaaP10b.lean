/-
  Layer 10: tables of locks, plainly: with, Find, Pass, Ask. Conditions: none.
-/
import Derived.Test.YtgbaijfgmeealaaK10k
set_option linter.unusedVariables false
set_option linter.unusedSimpArgs false
namespace Go.Proofs.Ytgbaijfgmeealaa
open Go.RowKit
abbrev Rise (L : List Lk) : Prop := L.Pairwise fun x y => ordI x y < 0
theorem ordI_gt {x y : Lk} : 0 < ordI x y ↔ ordI y x < 0 := by
  have h1 := @ordI_lt x y
  have h2 := @ordI_eq x y
  have h3 := @ordI_lt y x
  omega
theorem withL_lt {a y : Lk} {l : List Lk} (h : ordI a y < 0) : withL (a :: l) y = a :: withL l y := by
  have e1 : placeL (a :: l) y = placeL l y + 1 := by
    unfold placeL
    rw [List.countP_cons_of_pos (by simpa using h)]
  have e2 : isL (a :: l) y = isL l y := by
    unfold isL
    rw [List.any_cons]
    have : decide (ordI a y = 0) = false := by simp; omega
    rw [this, Bool.false_or]
  unfold withL
  rw [e1, e2]
  split
  · rfl
  · rfl
theorem place_zero {y : Lk} {l : List Lk} (h : ∀ x ∈ l, 0 ≤ ordI x y) : placeL l y = 0 := by
  unfold placeL
  rw [List.countP_eq_zero]
  intro x hx
  have := h x hx
  simp
  omega
theorem rise_ge {a y : Lk} {l : List Lk} (hs : Rise (a :: l)) (h : 0 ≤ ordI a y) : ∀ x ∈ l, 0 < ordI x y := by
  intro x hx
  have h1 := (List.pairwise_cons.1 hs).1 x hx
  have h2 := @ordI_lt a x
  have h3 := @ordI_lt a y
  have h4 := @ordI_lt x y
  have h5 := @ordI_eq x y
  omega
theorem withL_eq {a y : Lk} {l : List Lk} (hs : Rise (a :: l)) (h : ordI a y = 0) : withL (a :: l) y = y :: l := by
  have e1 : placeL (a :: l) y = 0 := place_zero (fun x hx => by
    rcases List.mem_cons.1 hx with rfl | hx
    · omega
    · exact Int.le_of_lt (rise_ge hs (by omega) x hx))
  have e2 : isL (a :: l) y = true := by
    unfold isL
    rw [List.any_cons]
    simp [h]
  unfold withL
  rw [e1, e2]
  rfl
theorem withL_gt {a y : Lk} {l : List Lk} (hs : Rise (a :: l)) (h : 0 < ordI a y) : withL (a :: l) y = y :: a :: l := by
  have h0 : ∀ x ∈ a :: l, 0 < ordI x y := fun x hx => by
    rcases List.mem_cons.1 hx with rfl | hx
    · exact h
    · exact rise_ge hs (by omega) x hx
  have e1 : placeL (a :: l) y = 0 := place_zero (fun x hx => Int.le_of_lt (h0 x hx))
  have e2 : isL (a :: l) y = false := by
    unfold isL
    rw [List.any_eq_false]
    intro x hx
    have := h0 x hx
    simp
    omega
  unfold withL
  rw [e1, e2]
  rfl
theorem withL_nil (y : Lk) : withL [] y = [y] := rfl
theorem withL_mem {y x : Lk} : ∀ {L : List Lk}, Rise L → (x ∈ withL L y ↔ x = y ∨ (x ∈ L ∧ ordI x y ≠ 0))
  | [], _ => by simp [withL_nil]
  | a :: l, hs => by
    have hl := (List.pairwise_cons.1 hs).2
    rcases Int.lt_trichotomy (ordI a y) 0 with h | h | h
    · rw [withL_lt h, List.mem_cons, withL_mem hl, List.mem_cons]
      constructor
      · rintro (rfl | rfl | ⟨h1, h2⟩)
        · exact .inr ⟨.inl rfl, by omega⟩
        · exact .inl rfl
        · exact .inr ⟨.inr h1, h2⟩
      · rintro (rfl | ⟨rfl | h1, h2⟩)
        · exact .inr (.inl rfl)
        · exact .inl rfl
        · exact .inr (.inr ⟨h1, h2⟩)
    · rw [withL_eq hs h, List.mem_cons, List.mem_cons]
      constructor
      · rintro (rfl | h1)
        · exact .inl rfl
        · exact .inr ⟨.inr h1, by have := rise_ge (y := y) hs (by omega) x h1; omega⟩
      · rintro (rfl | ⟨rfl | h1, h2⟩)
        · exact .inl rfl
        · exact absurd h h2
        · exact .inr h1
    · rw [withL_gt hs h, List.mem_cons]
      constructor
      · rintro (rfl | h1)
        · exact .inl rfl
        · refine .inr ⟨h1, ?_⟩
          rcases List.mem_cons.1 h1 with rfl | h1
          · omega
          · have := rise_ge (y := y) hs (by omega) x h1; omega
      · rintro (rfl | ⟨h1, h2⟩)
        · exact .inl rfl
        · exact .inr h1
theorem withL_rise {y : Lk} : ∀ {L : List Lk}, Rise L → Rise (withL L y)
  | [], _ => by rw [withL_nil]; exact List.pairwise_singleton _ _
  | a :: l, hs => by
    have hl := List.pairwise_cons.1 hs
    rcases Int.lt_trichotomy (ordI a y) 0 with h | h | h
    · rw [withL_lt h]
      refine List.pairwise_cons.2 ⟨fun x hx => ?_, withL_rise hl.2⟩
      rcases (withL_mem hl.2).1 hx with rfl | ⟨h1, -⟩
      · exact h
      · exact hl.1 x h1
    · rw [withL_eq hs h]
      refine List.pairwise_cons.2 ⟨fun x hx => ordI_gt.1 (rise_ge hs (by omega) x hx), hl.2⟩
    · rw [withL_gt hs h]
      refine List.pairwise_cons.2 ⟨fun x hx => ?_, hs⟩
      rcases List.mem_cons.1 hx with rfl | hx
      · exact ordI_gt.1 h
      · exact ordI_gt.1 (rise_ge hs (by omega) x hx)
theorem withL_same {y : Lk} : ∀ {L : List Lk}, Rise L → y ∈ L → withL L y = L
  | a :: l, hs, hy => by
    have hl := List.pairwise_cons.1 hs
    rcases List.mem_cons.1 hy with rfl | hy
    · rw [withL_eq hs (ordI_eq.2 ⟨rfl, rfl⟩)]
    · rw [withL_lt (hl.1 y hy), withL_same hl.2 hy]
theorem withL_sane {y : Lk} {L : List Lk} (h : SaneL L) (hy : y.sound = true) : SaneL (withL L y) :=
  ⟨fun x hx => by
    rcases (withL_mem h.rise).1 hx with rfl | ⟨h1, -⟩
    · exact hy
    · exact h.sound x h1, withL_rise h.rise⟩
theorem rise_uniq {x y : Lk} : ∀ {L : List Lk}, Rise L → x ∈ L → y ∈ L → x.block = y.block → x.tx = y.tx → x = y
  | a :: l, hs, hx, hy, hb, ht => by
    have hl := List.pairwise_cons.1 hs
    have h0 := ordI_eq.2 ⟨hb, ht⟩
    have h0' := ordI_eq.2 ⟨hb.symm, ht.symm⟩
    rcases List.mem_cons.1 hx with e1 | hx1
    · rcases List.mem_cons.1 hy with e2 | hy1
      · rw [e1, e2]
      · have := hl.1 y hy1; rw [e1] at h0; omega
    · rcases List.mem_cons.1 hy with e2 | hy1
      · have := hl.1 x hx1; rw [e2] at h0'; omega
      · exact rise_uniq hl.2 hx1 hy1 hb ht
theorem findL_nil (tx b : Int) : findL [] tx b = ⟨b, tx, 0, 0⟩ := rfl
theorem findL_cons (a : Lk) (l : List Lk) (tx b : Int) : findL (a :: l) tx b = if ordI a ⟨b, tx, 0, 0⟩ = 0 then a else findL l tx b := by
  unfold findL
  rw [List.findIdx?_cons]
  by_cases h : ordI a ⟨b, tx, 0, 0⟩ = 0
  · rw [if_pos h]
    simp [h]
  · rw [if_neg h]
    simp only [h, decide_false, if_false, Bool.false_eq_true]
    cases hc : List.findIdx? (fun x => decide (ordI x ⟨b, tx, 0, 0⟩ = 0)) l with
    | none => simp
    | some i => simp
theorem findL_case (tx b : Int) : ∀ (L : List Lk), (findL L tx b ∈ L ∧ (findL L tx b).tx = tx ∧ (findL L tx b).block = b) ∨ ((∀ x ∈ L, ¬ (x.tx = tx ∧ x.block = b)) ∧ findL L tx b = ⟨b, tx, 0, 0⟩)
  | [] => .inr ⟨by simp, rfl⟩
  | a :: l => by
    rw [findL_cons]
    by_cases h : ordI a ⟨b, tx, 0, 0⟩ = 0
    · rw [if_pos h]
      have := ordI_eq.1 h
      exact .inl ⟨List.mem_cons_self, this.2, this.1⟩
    · rw [if_neg h]
      rcases findL_case tx b l with ⟨h1, h2⟩ | ⟨h1, h2⟩
      · exact .inl ⟨List.mem_cons_of_mem _ h1, h2⟩
      · refine .inr ⟨fun x hx => ?_, h2⟩
        rcases List.mem_cons.1 hx with rfl | hx
        · rintro ⟨e1, e2⟩
          exact h (ordI_eq.2 ⟨e2, e1⟩)
        · exact h1 x hx
theorem findL_key (L : List Lk) (tx b : Int) : (findL L tx b).tx = tx ∧ (findL L tx b).block = b := by
  rcases findL_case tx b L with ⟨-, h1, h2⟩ | ⟨-, h⟩
  · exact ⟨h1, h2⟩
  · rw [h]; exact ⟨rfl, rfl⟩
theorem findL_mem {L : List Lk} (hs : Rise L) {x : Lk} (hx : x ∈ L) : findL L x.tx x.block = x := by
  rcases findL_case x.tx x.block L with ⟨h0, h1, h2⟩ | ⟨h, -⟩
  · exact rise_uniq hs h0 hx h2 h1
  · exact absurd ⟨rfl, rfl⟩ (h x hx)
theorem findL_of {L : List Lk} (hs : Rise L) {x : Lk} (hx : x ∈ L) {tx b : Int} (ht : x.tx = tx) (hb : x.block = b) : findL L tx b = x := by
  subst ht; subst hb; exact findL_mem hs hx
theorem findL_no {L : List Lk} {tx b : Int} (h : ∀ x ∈ L, ¬ (x.tx = tx ∧ x.block = b)) : findL L tx b = ⟨b, tx, 0, 0⟩ := by
  rcases findL_case tx b L with ⟨h0, h1, h2⟩ | ⟨-, h2⟩
  · exact absurd ⟨h1, h2⟩ (h _ h0)
  · exact h2
/-- What is found depends on the locks of that name alone. -/
theorem findL_congr {L M : List Lk} (hL : Rise L) (hM : Rise M) {tx b : Int} (h : ∀ x, x.tx = tx → x.block = b → (x ∈ L ↔ x ∈ M)) : findL L tx b = findL M tx b := by
  rcases findL_case tx b L with ⟨h0, h1, h2⟩ | ⟨h1, h2⟩
  · exact (findL_of hM ((h _ h1 h2).1 h0) h1 h2).symm
  · rw [h2, findL_no]
    exact fun x hx hk => h1 x ((h x hk.1 hk.2).2 hx) hk
theorem ofL_mem {L : List Lk} {tx : Int} {x : Lk} : x ∈ ofL L tx ↔ x ∈ L ∧ x.tx = tx := by
  unfold ofL
  rw [List.mem_filter]
  simp
theorem freeL_mem {L : List Lk} {ls : List Int} {x : Lk} : x ∈ freeL L ls ↔ x ∈ L ∧ x.tx ∉ ls := by
  unfold freeL
  rw [List.mem_filter]
  simp
theorem ofL_rise {L : List Lk} (h : Rise L) (tx : Int) : Rise (ofL L tx) := List.Pairwise.sublist List.filter_sublist h
theorem freeL_rise {L : List Lk} (h : Rise L) (ls : List Int) : Rise (freeL L ls) := List.Pairwise.sublist List.filter_sublist h
theorem freeL_sane {L : List Lk} (h : SaneL L) (ls : List Int) : SaneL (freeL L ls) := ⟨fun x hx => h.sound x (freeL_mem.1 hx).1, freeL_rise h.rise ls⟩
theorem ofL_sane {L : List Lk} (h : SaneL L) (tx : Int) : SaneL (ofL L tx) := ⟨fun x hx => h.sound x (ofL_mem.1 hx).1, ofL_rise h.rise tx⟩
theorem ofL_free_len (L : List Lk) (tx : Int) : (freeL L [tx]).length + (ofL L tx).length = L.length := by
  unfold freeL ofL
  induction L with
  | nil => rfl
  | cons a l ih =>
    by_cases h : a.tx = tx
    · rw [List.filter_cons_of_neg (by simp [h]), List.filter_cons_of_pos (by simp [h])]
      simp only [List.length_cons]
      omega
    · rw [List.filter_cons_of_pos (by simp [h]), List.filter_cons_of_neg (by simp [h])]
      simp only [List.length_cons]
      omega
structure Soft (x : Lk) : Prop where
  b0 : 0 ≤ x.block
  b1 : x.block < 256
  t0 : 0 ≤ x.tx
  t1 : x.tx < 64
  h0 : 0 ≤ x.held
  h1 : x.held ≤ 2
  k0 : 0 ≤ x.kept
  k1 : x.kept ≤ 2
  s : 0 < x.strong
theorem sound_iff {x : Lk} : x.sound = true ↔ Soft x := by
  unfold Lk.sound modeB
  simp only [Bool.and_eq_true, decide_eq_true_eq]
  constructor
  · rintro ⟨⟨⟨⟨⟨⟨a, b⟩, c⟩, d⟩, e⟩, f⟩, g⟩
    exact ⟨a, b, c, d, e.1, e.2, f.1, f.2, g⟩
  · intro h
    exact ⟨⟨⟨⟨⟨⟨h.b0, h.b1⟩, h.t0⟩, h.t1⟩, ⟨h.h0, h.h1⟩⟩, ⟨h.k0, h.k1⟩⟩, h.s⟩
theorem ints_len : ∀ (l : List Int) (lo hi : Int), lo ≤ hi → l.Pairwise (· < ·) → (∀ x ∈ l, lo ≤ x ∧ x < hi) → (l.length : Int) ≤ hi - lo
  | [], lo, hi, h, _, _ => by simp; omega
  | a :: l, lo, hi, h, hp, hb => by
    have h1 := hb a List.mem_cons_self
    have h2 := ints_len l (a + 1) hi (by omega) (List.pairwise_cons.1 hp).2 (fun x hx => by
      have h3 := (List.pairwise_cons.1 hp).1 x hx
      have h4 := hb x (List.mem_cons_of_mem _ hx)
      omega)
    simp only [List.length_cons]
    omega
theorem sane_len {L : List Lk} (h : SaneL L) : L.length ≤ 16384 := by
  have h1 := ints_len (L.map fun x => x.block * 64 + x.tx) 0 16384 (by decide) (by
    rw [List.pairwise_map]
    refine List.Pairwise.imp_of_mem ?_ h.rise
    intro a b ha hb hab
    have h2 := sound_iff.1 (h.sound a ha)
    have h3 := sound_iff.1 (h.sound b hb)
    have h4 := ordI_lt.1 hab
    have := h2.t0; have := h2.t1; have := h3.t0; have := h3.t1
    omega) (fun x hx => by
    obtain ⟨y, hy, rfl⟩ := List.mem_map.1 hx
    have h2 := sound_iff.1 (h.sound y hy)
    have := h2.t0; have := h2.t1; have := h2.b0; have := h2.b1
    omega)
  rw [List.length_map] at h1
  omega
/-- Pass. -/
def keepF (x : Lk) (s : Int) : Lk := { x with kept := max x.kept s }
def keepL (out : List Lk) (p : Int) (l : Lk) : Lk := keepF (findL out p l.block) l.strong
def passTo (p : Int) (ls : List Lk) (out : List Lk) : List Lk := ls.foldl (fun out l => withL out (keepL out p l)) out
def passL (L : List Lk) (tx p : Int) : List Lk := if p < 0 then freeL L [tx] else passTo p (ofL L tx) (freeL L [tx])
theorem passTo_succ (p : Int) (ls out : List Lk) {j : Nat} {x : Lk} (h : ls[j]? = some x) : passTo p (ls.take (j + 1)) out = withL (passTo p (ls.take j) out) (keepL (passTo p (ls.take j) out) p x) := by
  have e : ls.take (j + 1) = ls.take j ++ [x] := by rw [List.take_add_one, h]; rfl
  unfold passTo
  rw [e, List.foldl_append]
  rfl
theorem keepL_key (out : List Lk) (p : Int) (l : Lk) : (keepL out p l).tx = p ∧ (keepL out p l).block = l.block := findL_key out p l.block
theorem keepL_sound {out : List Lk} {p : Int} {l : Lk} (h : SaneL out) (hl : l.sound = true) (p0 : 0 ≤ p) (p1 : p < 64) : (keepL out p l).sound = true := by
  rw [sound_iff] at hl ⊢
  have hk := keepL_key out p l
  have hs : 0 < l.strong := hl.s
  have hm : 0 ≤ l.strong ∧ l.strong ≤ 2 := by
    unfold Lk.strong
    have := hl.h0; have := hl.h1; have := hl.k0; have := hl.k1
    omega
  have hf : 0 ≤ (findL out p l.block).held ∧ (findL out p l.block).held ≤ 2 ∧ 0 ≤ (findL out p l.block).kept ∧ (findL out p l.block).kept ≤ 2 := by
    rcases findL_case p l.block out with ⟨h0, -⟩ | ⟨-, h0⟩
    · have := sound_iff.1 (h.sound _ h0)
      exact ⟨this.h0, this.h1, this.k0, this.k1⟩
    · rw [h0]; exact ⟨Int.le_refl _, by show (0 : Int) ≤ 2; decide, Int.le_refl _, by show (0 : Int) ≤ 2; decide⟩
  have e1 : (keepL out p l).held = (findL out p l.block).held := rfl
  have e2 : (keepL out p l).kept = max (findL out p l.block).kept l.strong := rfl
  refine ⟨by rw [hk.2]; exact hl.b0, by rw [hk.2]; exact hl.b1, by rw [hk.1]; exact p0, by rw [hk.1]; exact p1, by rw [e1]; exact hf.1, by rw [e1]; exact hf.2.1, by rw [e2]; omega, by rw [e2]; omega, ?_⟩
  unfold Lk.strong at hs ⊢
  rw [e1, e2]
  unfold Lk.strong
  omega
theorem passTo_sane {p : Int} (p0 : 0 ≤ p) (p1 : p < 64) : ∀ (ls out : List Lk), SaneL out → (∀ x ∈ ls, x.sound = true) → SaneL (passTo p ls out)
  | [], out, h, _ => h
  | l :: r, out, h, hl => passTo_sane p0 p1 r _ (withL_sane h (keepL_sound h (hl l List.mem_cons_self) p0 p1)) (fun x hx => hl x (List.mem_cons_of_mem _ hx))
theorem passTo_mem {p : Int} : ∀ (ls out : List Lk), Rise out → ls.Pairwise (fun a b => a.block ≠ b.block) → ∀ x, (x ∈ passTo p ls out ↔ (x ∈ out ∧ ¬ (x.tx = p ∧ ∃ l ∈ ls, l.block = x.block)) ∨ ∃ l ∈ ls, x = keepL out p l)
  | [], out, h, _, x => by
    show x ∈ out ↔ _
    simp
  | l :: r, out, h, hp, x => by
    have hpc := List.pairwise_cons.1 hp
    have hk := keepL_key out p l
    have hkeep : ∀ m ∈ r, keepL (withL out (keepL out p l)) p m = keepL out p m := by
      intro m hm
      have hf : findL (withL out (keepL out p l)) p m.block = findL out p m.block := by
        refine findL_congr (withL_rise h) h (fun y hy1 hy2 => ?_)
        rw [withL_mem h]
        constructor
        · rintro (rfl | ⟨h1, -⟩)
          · exact absurd (hk.2.symm.trans hy2) (hpc.1 m hm)
          · exact h1
        · intro h1
          refine .inr ⟨h1, fun e => ?_⟩
          exact hpc.1 m hm (hk.2.symm.trans ((ordI_eq.1 e).1.symm.trans hy2))
      show keepF (findL (withL out (keepL out p l)) p m.block) m.strong = keepF (findL out p m.block) m.strong
      rw [hf]
    have ih := passTo_mem (p := p) r (withL out (keepL out p l)) (withL_rise h) hpc.2 x
    have e0 : passTo p (l :: r) out = passTo p r (withL out (keepL out p l)) := rfl
    rw [e0, ih, withL_mem h]
    constructor
    · rintro (⟨rfl | ⟨h1, h2⟩, h3⟩ | ⟨m, hm, rfl⟩)
      · exact .inr ⟨l, List.mem_cons_self, rfl⟩
      · refine .inl ⟨h1, ?_⟩
        rintro ⟨e1, m, hm, e2⟩
        rcases List.mem_cons.1 hm with rfl | hm
        · exact h2 (ordI_eq.2 ⟨by rw [hk.2]; exact e2.symm, by rw [hk.1]; exact e1⟩)
        · exact h3 ⟨e1, m, hm, e2⟩
      · exact .inr ⟨m, List.mem_cons_of_mem _ hm, hkeep m hm⟩
    · rintro (⟨h1, h2⟩ | ⟨m, hm, rfl⟩)
      · refine .inl ⟨.inr ⟨h1, fun e => h2 ⟨(ordI_eq.1 e).2.trans hk.1, l, List.mem_cons_self, ((ordI_eq.1 e).1.trans hk.2).symm⟩⟩, ?_⟩
        rintro ⟨e1, m, hm, e2⟩
        exact h2 ⟨e1, m, List.mem_cons_of_mem _ hm, e2⟩
      · rcases List.mem_cons.1 hm with rfl | hm
        · refine .inl ⟨.inl rfl, ?_⟩
          rintro ⟨-, m', hm', e2⟩
          exact hpc.1 m' hm' (e2.trans hk.2).symm
        · exact .inr ⟨m, hm, (hkeep m hm).symm⟩
theorem ofL_blocks {L : List Lk} (h : Rise L) (tx : Int) : (ofL L tx).Pairwise (fun a b => a.block ≠ b.block) := by
  refine List.Pairwise.imp_of_mem ?_ (ofL_rise h tx)
  intro a b ha hb hab e
  have h1 := (ofL_mem.1 ha).2
  have h2 := (ofL_mem.1 hb).2
  have h3 := ordI_lt.1 hab
  omega
theorem passL_sane {L : List Lk} {tx p : Int} (h : SaneL L) (p1 : p < 64) : SaneL (passL L tx p) := by
  unfold passL
  split
  · exact freeL_sane h _
  · exact passTo_sane (by omega) p1 _ _ (freeL_sane h _) (ofL_sane h tx).sound
theorem passL_mem {L : List Lk} {tx p : Int} (h : Rise L) (p0 : 0 ≤ p) (hne : p ≠ tx) {x : Lk} : x ∈ passL L tx p ↔ (x ∈ L ∧ x.tx ≠ tx ∧ ¬ (x.tx = p ∧ ∃ l ∈ L, l.tx = tx ∧ l.block = x.block)) ∨ ∃ l ∈ L, l.tx = tx ∧ x = keepL L p l := by
  unfold passL
  rw [if_neg (by omega), passTo_mem _ _ (freeL_rise h _) (ofL_blocks h tx)]
  have hk : ∀ l, keepL (freeL L [tx]) p l = keepL L p l := by
    intro l
    have hf : findL (freeL L [tx]) p l.block = findL L p l.block := by
      refine findL_congr (freeL_rise h _) h (fun y hy1 hy2 => ?_)
      rw [freeL_mem]
      constructor
      · exact fun h1 => h1.1
      · exact fun h1 => ⟨h1, by simp; omega⟩
    show keepF (findL (freeL L [tx]) p l.block) l.strong = keepF (findL L p l.block) l.strong
    rw [hf]
  constructor
  · rintro (⟨h1, h2⟩ | ⟨l, hl, rfl⟩)
    · rw [freeL_mem] at h1
      refine .inl ⟨h1.1, by simpa using h1.2, fun ⟨e1, l, hl, e2, e3⟩ => h2 ⟨e1, l, ofL_mem.2 ⟨hl, e2⟩, e3⟩⟩
    · rw [ofL_mem] at hl
      exact .inr ⟨l, hl.1, hl.2, hk l⟩
  · rintro (⟨h1, h2, h3⟩ | ⟨l, hl, e, rfl⟩)
    · refine .inl ⟨freeL_mem.2 ⟨h1, by simpa using h2⟩, fun ⟨e1, l, hl, e2⟩ => h3 ⟨e1, l, (ofL_mem.1 hl).1, (ofL_mem.1 hl).2, e2⟩⟩
    · exact .inr ⟨l, ofL_mem.2 ⟨hl, e⟩, (hk l).symm⟩
end Go.Proofs.Ytgbaijfgmeealaa
