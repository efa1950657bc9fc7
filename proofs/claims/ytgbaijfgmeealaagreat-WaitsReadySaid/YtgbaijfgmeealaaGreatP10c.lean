/-
  Layer 10: tables of locks, plainly: with, Find, Pass, Ask. Layer 10: transactions in one another, and their locks: what holds whatever is done. Conditions: none.
-/
import Derived.Test.YtgbaijfgmeealaaGreatK10k

set_option linter.unusedVariables false
set_option linter.unusedSimpArgs false
namespace Go.Proofs.YtgbaijfgmeealaaGreat
open Go.RowKit
abbrev Rise (L : List Lk) : Prop := L.Pairwise fun x y => ordI x y < 0
theorem ordI_gt {x y : Lk} : 0 < ordI x y ↔ ordI y x < 0 := by
  have h1 := @ordI_lt x y
  have h2 := @ordI_eq x y
  have h3 := @ordI_lt y x
  omega
theorem withL_lt {a y : Lk} {l : List Lk} (h : ordI a y < 0) : withL (a :: l) y = a :: withL l y := by
  have e1 : placeL (a :: l) y = placeL l y + 1 := by
    unfold placeL
    rw [List.countP_cons_of_pos (by simpa using h)]
  have e2 : isL (a :: l) y = isL l y := by
    unfold isL
    rw [List.any_cons]
    have : decide (ordI a y = 0) = false := by simp; omega
    rw [this, Bool.false_or]
  unfold withL
  rw [e1, e2]
  split
  · rfl
  · rfl
theorem place_zero {y : Lk} {l : List Lk} (h : ∀ x ∈ l, 0 ≤ ordI x y) : placeL l y = 0 := by
  unfold placeL
  rw [List.countP_eq_zero]
  intro x hx
  have := h x hx
  simp
  omega
theorem rise_ge {a y : Lk} {l : List Lk} (hs : Rise (a :: l)) (h : 0 ≤ ordI a y) : ∀ x ∈ l, 0 < ordI x y := by
  intro x hx
  have h1 := (List.pairwise_cons.1 hs).1 x hx
  have h2 := @ordI_lt a x
  have h3 := @ordI_lt a y
  have h4 := @ordI_lt x y
  have h5 := @ordI_eq x y
  omega
theorem withL_eq {a y : Lk} {l : List Lk} (hs : Rise (a :: l)) (h : ordI a y = 0) : withL (a :: l) y = y :: l := by
  have e1 : placeL (a :: l) y = 0 := place_zero (fun x hx => by
    rcases List.mem_cons.1 hx with rfl | hx
    · omega
    · exact Int.le_of_lt (rise_ge hs (by omega) x hx))
  have e2 : isL (a :: l) y = true := by
    unfold isL
    rw [List.any_cons]
    simp [h]
  unfold withL
  rw [e1, e2]
  rfl
theorem withL_gt {a y : Lk} {l : List Lk} (hs : Rise (a :: l)) (h : 0 < ordI a y) : withL (a :: l) y = y :: a :: l := by
  have h0 : ∀ x ∈ a :: l, 0 < ordI x y := fun x hx => by
    rcases List.mem_cons.1 hx with rfl | hx
    · exact h
    · exact rise_ge hs (by omega) x hx
  have e1 : placeL (a :: l) y = 0 := place_zero (fun x hx => Int.le_of_lt (h0 x hx))
  have e2 : isL (a :: l) y = false := by
    unfold isL
    rw [List.any_eq_false]
    intro x hx
    have := h0 x hx
    simp
    omega
  unfold withL
  rw [e1, e2]
  rfl
theorem withL_nil (y : Lk) : withL [] y = [y] := rfl
theorem withL_mem {y x : Lk} : ∀ {L : List Lk}, Rise L → (x ∈ withL L y ↔ x = y ∨ (x ∈ L ∧ ordI x y ≠ 0))
  | [], _ => by simp [withL_nil]
  | a :: l, hs => by
    have hl := (List.pairwise_cons.1 hs).2
    rcases Int.lt_trichotomy (ordI a y) 0 with h | h | h
    · rw [withL_lt h, List.mem_cons, withL_mem hl, List.mem_cons]
      constructor
      · rintro (rfl | rfl | ⟨h1, h2⟩)
        · exact .inr ⟨.inl rfl, by omega⟩
        · exact .inl rfl
        · exact .inr ⟨.inr h1, h2⟩
      · rintro (rfl | ⟨rfl | h1, h2⟩)
        · exact .inr (.inl rfl)
        · exact .inl rfl
        · exact .inr (.inr ⟨h1, h2⟩)
    · rw [withL_eq hs h, List.mem_cons, List.mem_cons]
      constructor
      · rintro (rfl | h1)
        · exact .inl rfl
        · exact .inr ⟨.inr h1, by have := rise_ge (y := y) hs (by omega) x h1; omega⟩
      · rintro (rfl | ⟨rfl | h1, h2⟩)
        · exact .inl rfl
        · exact absurd h h2
        · exact .inr h1
    · rw [withL_gt hs h, List.mem_cons]
      constructor
      · rintro (rfl | h1)
        · exact .inl rfl
        · refine .inr ⟨h1, ?_⟩
          rcases List.mem_cons.1 h1 with rfl | h1
          · omega
          · have := rise_ge (y := y) hs (by omega) x h1; omega
      · rintro (rfl | ⟨h1, h2⟩)
        · exact .inl rfl
        · exact .inr h1
theorem withL_rise {y : Lk} : ∀ {L : List Lk}, Rise L → Rise (withL L y)
  | [], _ => by rw [withL_nil]; exact List.pairwise_singleton _ _
  | a :: l, hs => by
    have hl := List.pairwise_cons.1 hs
    rcases Int.lt_trichotomy (ordI a y) 0 with h | h | h
    · rw [withL_lt h]
      refine List.pairwise_cons.2 ⟨fun x hx => ?_, withL_rise hl.2⟩
      rcases (withL_mem hl.2).1 hx with rfl | ⟨h1, -⟩
      · exact h
      · exact hl.1 x h1
    · rw [withL_eq hs h]
      refine List.pairwise_cons.2 ⟨fun x hx => ordI_gt.1 (rise_ge hs (by omega) x hx), hl.2⟩
    · rw [withL_gt hs h]
      refine List.pairwise_cons.2 ⟨fun x hx => ?_, hs⟩
      rcases List.mem_cons.1 hx with rfl | hx
      · exact ordI_gt.1 h
      · exact ordI_gt.1 (rise_ge hs (by omega) x hx)
theorem withL_same {y : Lk} : ∀ {L : List Lk}, Rise L → y ∈ L → withL L y = L
  | a :: l, hs, hy => by
    have hl := List.pairwise_cons.1 hs
    rcases List.mem_cons.1 hy with rfl | hy
    · rw [withL_eq hs (ordI_eq.2 ⟨rfl, rfl⟩)]
    · rw [withL_lt (hl.1 y hy), withL_same hl.2 hy]
theorem withL_sane {y : Lk} {L : List Lk} (h : SaneL L) (hy : y.sound = true) : SaneL (withL L y) :=
  ⟨fun x hx => by
    rcases (withL_mem h.rise).1 hx with rfl | ⟨h1, -⟩
    · exact hy
    · exact h.sound x h1, withL_rise h.rise⟩
theorem rise_uniq {x y : Lk} : ∀ {L : List Lk}, Rise L → x ∈ L → y ∈ L → x.block = y.block → x.tx = y.tx → x = y
  | a :: l, hs, hx, hy, hb, ht => by
    have hl := List.pairwise_cons.1 hs
    have h0 := ordI_eq.2 ⟨hb, ht⟩
    have h0' := ordI_eq.2 ⟨hb.symm, ht.symm⟩
    rcases List.mem_cons.1 hx with e1 | hx1
    · rcases List.mem_cons.1 hy with e2 | hy1
      · rw [e1, e2]
      · have := hl.1 y hy1; rw [e1] at h0; omega
    · rcases List.mem_cons.1 hy with e2 | hy1
      · have := hl.1 x hx1; rw [e2] at h0'; omega
      · exact rise_uniq hl.2 hx1 hy1 hb ht
theorem findL_nil (tx b : Int) : findL [] tx b = ⟨b, tx, 0, 0⟩ := rfl
theorem findL_cons (a : Lk) (l : List Lk) (tx b : Int) : findL (a :: l) tx b = if ordI a ⟨b, tx, 0, 0⟩ = 0 then a else findL l tx b := by
  unfold findL
  rw [List.findIdx?_cons]
  by_cases h : ordI a ⟨b, tx, 0, 0⟩ = 0
  · rw [if_pos h]
    simp [h]
  · rw [if_neg h]
    simp only [h, decide_false, if_false, Bool.false_eq_true]
    cases hc : List.findIdx? (fun x => decide (ordI x ⟨b, tx, 0, 0⟩ = 0)) l with
    | none => simp
    | some i => simp
theorem findL_case (tx b : Int) : ∀ (L : List Lk), (findL L tx b ∈ L ∧ (findL L tx b).tx = tx ∧ (findL L tx b).block = b) ∨ ((∀ x ∈ L, ¬ (x.tx = tx ∧ x.block = b)) ∧ findL L tx b = ⟨b, tx, 0, 0⟩)
  | [] => .inr ⟨by simp, rfl⟩
  | a :: l => by
    rw [findL_cons]
    by_cases h : ordI a ⟨b, tx, 0, 0⟩ = 0
    · rw [if_pos h]
      have := ordI_eq.1 h
      exact .inl ⟨List.mem_cons_self, this.2, this.1⟩
    · rw [if_neg h]
      rcases findL_case tx b l with ⟨h1, h2⟩ | ⟨h1, h2⟩
      · exact .inl ⟨List.mem_cons_of_mem _ h1, h2⟩
      · refine .inr ⟨fun x hx => ?_, h2⟩
        rcases List.mem_cons.1 hx with rfl | hx
        · rintro ⟨e1, e2⟩
          exact h (ordI_eq.2 ⟨e2, e1⟩)
        · exact h1 x hx
theorem findL_key (L : List Lk) (tx b : Int) : (findL L tx b).tx = tx ∧ (findL L tx b).block = b := by
  rcases findL_case tx b L with ⟨-, h1, h2⟩ | ⟨-, h⟩
  · exact ⟨h1, h2⟩
  · rw [h]; exact ⟨rfl, rfl⟩
theorem findL_mem {L : List Lk} (hs : Rise L) {x : Lk} (hx : x ∈ L) : findL L x.tx x.block = x := by
  rcases findL_case x.tx x.block L with ⟨h0, h1, h2⟩ | ⟨h, -⟩
  · exact rise_uniq hs h0 hx h2 h1
  · exact absurd ⟨rfl, rfl⟩ (h x hx)
theorem findL_of {L : List Lk} (hs : Rise L) {x : Lk} (hx : x ∈ L) {tx b : Int} (ht : x.tx = tx) (hb : x.block = b) : findL L tx b = x := by
  subst ht; subst hb; exact findL_mem hs hx
theorem findL_no {L : List Lk} {tx b : Int} (h : ∀ x ∈ L, ¬ (x.tx = tx ∧ x.block = b)) : findL L tx b = ⟨b, tx, 0, 0⟩ := by
  rcases findL_case tx b L with ⟨h0, h1, h2⟩ | ⟨-, h2⟩
  · exact absurd ⟨h1, h2⟩ (h _ h0)
  · exact h2
/-- What is found depends on the locks of that name alone. -/
theorem findL_congr {L M : List Lk} (hL : Rise L) (hM : Rise M) {tx b : Int} (h : ∀ x, x.tx = tx → x.block = b → (x ∈ L ↔ x ∈ M)) : findL L tx b = findL M tx b := by
  rcases findL_case tx b L with ⟨h0, h1, h2⟩ | ⟨h1, h2⟩
  · exact (findL_of hM ((h _ h1 h2).1 h0) h1 h2).symm
  · rw [h2, findL_no]
    exact fun x hx hk => h1 x ((h x hk.1 hk.2).2 hx) hk
theorem ofL_mem {L : List Lk} {tx : Int} {x : Lk} : x ∈ ofL L tx ↔ x ∈ L ∧ x.tx = tx := by
  unfold ofL
  rw [List.mem_filter]
  simp
theorem freeL_mem {L : List Lk} {ls : List Int} {x : Lk} : x ∈ freeL L ls ↔ x ∈ L ∧ x.tx ∉ ls := by
  unfold freeL
  rw [List.mem_filter]
  simp
theorem ofL_rise {L : List Lk} (h : Rise L) (tx : Int) : Rise (ofL L tx) := List.Pairwise.sublist List.filter_sublist h
theorem freeL_rise {L : List Lk} (h : Rise L) (ls : List Int) : Rise (freeL L ls) := List.Pairwise.sublist List.filter_sublist h
theorem freeL_sane {L : List Lk} (h : SaneL L) (ls : List Int) : SaneL (freeL L ls) := ⟨fun x hx => h.sound x (freeL_mem.1 hx).1, freeL_rise h.rise ls⟩
theorem ofL_sane {L : List Lk} (h : SaneL L) (tx : Int) : SaneL (ofL L tx) := ⟨fun x hx => h.sound x (ofL_mem.1 hx).1, ofL_rise h.rise tx⟩
theorem ofL_free_len (L : List Lk) (tx : Int) : (freeL L [tx]).length + (ofL L tx).length = L.length := by
  unfold freeL ofL
  induction L with
  | nil => rfl
  | cons a l ih =>
    by_cases h : a.tx = tx
    · rw [List.filter_cons_of_neg (by simp [h]), List.filter_cons_of_pos (by simp [h])]
      simp only [List.length_cons]
      omega
    · rw [List.filter_cons_of_pos (by simp [h]), List.filter_cons_of_neg (by simp [h])]
      simp only [List.length_cons]
      omega
structure Soft (x : Lk) : Prop where
  b0 : 0 ≤ x.block
  b1 : x.block < 256
  t0 : 0 ≤ x.tx
  t1 : x.tx < 64
  h0 : 0 ≤ x.held
  h1 : x.held ≤ 2
  k0 : 0 ≤ x.kept
  k1 : x.kept ≤ 2
  s : 0 < x.strong
theorem sound_iff {x : Lk} : x.sound = true ↔ Soft x := by
  unfold Lk.sound modeB
  simp only [Bool.and_eq_true, decide_eq_true_eq]
  constructor
  · rintro ⟨⟨⟨⟨⟨⟨a, b⟩, c⟩, d⟩, e⟩, f⟩, g⟩
    exact ⟨a, b, c, d, e.1, e.2, f.1, f.2, g⟩
  · intro h
    exact ⟨⟨⟨⟨⟨⟨h.b0, h.b1⟩, h.t0⟩, h.t1⟩, ⟨h.h0, h.h1⟩⟩, ⟨h.k0, h.k1⟩⟩, h.s⟩
theorem ints_len : ∀ (l : List Int) (lo hi : Int), lo ≤ hi → l.Pairwise (· < ·) → (∀ x ∈ l, lo ≤ x ∧ x < hi) → (l.length : Int) ≤ hi - lo
  | [], lo, hi, h, _, _ => by simp; omega
  | a :: l, lo, hi, h, hp, hb => by
    have h1 := hb a List.mem_cons_self
    have h2 := ints_len l (a + 1) hi (by omega) (List.pairwise_cons.1 hp).2 (fun x hx => by
      have h3 := (List.pairwise_cons.1 hp).1 x hx
      have h4 := hb x (List.mem_cons_of_mem _ hx)
      omega)
    simp only [List.length_cons]
    omega
theorem sane_len {L : List Lk} (h : SaneL L) : L.length ≤ 16384 := by
  have h1 := ints_len (L.map fun x => x.block * 64 + x.tx) 0 16384 (by decide) (by
    rw [List.pairwise_map]
    refine List.Pairwise.imp_of_mem ?_ h.rise
    intro a b ha hb hab
    have h2 := sound_iff.1 (h.sound a ha)
    have h3 := sound_iff.1 (h.sound b hb)
    have h4 := ordI_lt.1 hab
    have := h2.t0; have := h2.t1; have := h3.t0; have := h3.t1
    omega) (fun x hx => by
    obtain ⟨y, hy, rfl⟩ := List.mem_map.1 hx
    have h2 := sound_iff.1 (h.sound y hy)
    have := h2.t0; have := h2.t1; have := h2.b0; have := h2.b1
    omega)
  rw [List.length_map] at h1
  omega
/-- Pass. -/
def keepF (x : Lk) (s : Int) : Lk := { x with kept := max x.kept s }
def keepL (out : List Lk) (p : Int) (l : Lk) : Lk := keepF (findL out p l.block) l.strong
def passTo (p : Int) (ls : List Lk) (out : List Lk) : List Lk := ls.foldl (fun out l => withL out (keepL out p l)) out
def passL (L : List Lk) (tx p : Int) : List Lk := if p < 0 then freeL L [tx] else passTo p (ofL L tx) (freeL L [tx])
theorem passTo_succ (p : Int) (ls out : List Lk) {j : Nat} {x : Lk} (h : ls[j]? = some x) : passTo p (ls.take (j + 1)) out = withL (passTo p (ls.take j) out) (keepL (passTo p (ls.take j) out) p x) := by
  have e : ls.take (j + 1) = ls.take j ++ [x] := by rw [List.take_add_one, h]; rfl
  unfold passTo
  rw [e, List.foldl_append]
  rfl
theorem keepL_key (out : List Lk) (p : Int) (l : Lk) : (keepL out p l).tx = p ∧ (keepL out p l).block = l.block := findL_key out p l.block
theorem keepL_sound {out : List Lk} {p : Int} {l : Lk} (h : SaneL out) (hl : l.sound = true) (p0 : 0 ≤ p) (p1 : p < 64) : (keepL out p l).sound = true := by
  rw [sound_iff] at hl ⊢
  have hk := keepL_key out p l
  have hs : 0 < l.strong := hl.s
  have hm : 0 ≤ l.strong ∧ l.strong ≤ 2 := by
    unfold Lk.strong
    have := hl.h0; have := hl.h1; have := hl.k0; have := hl.k1
    omega
  have hf : 0 ≤ (findL out p l.block).held ∧ (findL out p l.block).held ≤ 2 ∧ 0 ≤ (findL out p l.block).kept ∧ (findL out p l.block).kept ≤ 2 := by
    rcases findL_case p l.block out with ⟨h0, -⟩ | ⟨-, h0⟩
    · have := sound_iff.1 (h.sound _ h0)
      exact ⟨this.h0, this.h1, this.k0, this.k1⟩
    · rw [h0]; exact ⟨Int.le_refl _, by show (0 : Int) ≤ 2; decide, Int.le_refl _, by show (0 : Int) ≤ 2; decide⟩
  have e1 : (keepL out p l).held = (findL out p l.block).held := rfl
  have e2 : (keepL out p l).kept = max (findL out p l.block).kept l.strong := rfl
  refine ⟨by rw [hk.2]; exact hl.b0, by rw [hk.2]; exact hl.b1, by rw [hk.1]; exact p0, by rw [hk.1]; exact p1, by rw [e1]; exact hf.1, by rw [e1]; exact hf.2.1, by rw [e2]; omega, by rw [e2]; omega, ?_⟩
  unfold Lk.strong at hs ⊢
  rw [e1, e2]
  unfold Lk.strong
  omega
theorem passTo_sane {p : Int} (p0 : 0 ≤ p) (p1 : p < 64) : ∀ (ls out : List Lk), SaneL out → (∀ x ∈ ls, x.sound = true) → SaneL (passTo p ls out)
  | [], out, h, _ => h
  | l :: r, out, h, hl => passTo_sane p0 p1 r _ (withL_sane h (keepL_sound h (hl l List.mem_cons_self) p0 p1)) (fun x hx => hl x (List.mem_cons_of_mem _ hx))
theorem passTo_mem {p : Int} : ∀ (ls out : List Lk), Rise out → ls.Pairwise (fun a b => a.block ≠ b.block) → ∀ x, (x ∈ passTo p ls out ↔ (x ∈ out ∧ ¬ (x.tx = p ∧ ∃ l ∈ ls, l.block = x.block)) ∨ ∃ l ∈ ls, x = keepL out p l)
  | [], out, h, _, x => by
    show x ∈ out ↔ _
    simp
  | l :: r, out, h, hp, x => by
    have hpc := List.pairwise_cons.1 hp
    have hk := keepL_key out p l
    have hkeep : ∀ m ∈ r, keepL (withL out (keepL out p l)) p m = keepL out p m := by
      intro m hm
      have hf : findL (withL out (keepL out p l)) p m.block = findL out p m.block := by
        refine findL_congr (withL_rise h) h (fun y hy1 hy2 => ?_)
        rw [withL_mem h]
        constructor
        · rintro (rfl | ⟨h1, -⟩)
          · exact absurd (hk.2.symm.trans hy2) (hpc.1 m hm)
          · exact h1
        · intro h1
          refine .inr ⟨h1, fun e => ?_⟩
          exact hpc.1 m hm (hk.2.symm.trans ((ordI_eq.1 e).1.symm.trans hy2))
      show keepF (findL (withL out (keepL out p l)) p m.block) m.strong = keepF (findL out p m.block) m.strong
      rw [hf]
    have ih := passTo_mem (p := p) r (withL out (keepL out p l)) (withL_rise h) hpc.2 x
    have e0 : passTo p (l :: r) out = passTo p r (withL out (keepL out p l)) := rfl
    rw [e0, ih, withL_mem h]
    constructor
    · rintro (⟨rfl | ⟨h1, h2⟩, h3⟩ | ⟨m, hm, rfl⟩)
      · exact .inr ⟨l, List.mem_cons_self, rfl⟩
      · refine .inl ⟨h1, ?_⟩
        rintro ⟨e1, m, hm, e2⟩
        rcases List.mem_cons.1 hm with rfl | hm
        · exact h2 (ordI_eq.2 ⟨by rw [hk.2]; exact e2.symm, by rw [hk.1]; exact e1⟩)
        · exact h3 ⟨e1, m, hm, e2⟩
      · exact .inr ⟨m, List.mem_cons_of_mem _ hm, hkeep m hm⟩
    · rintro (⟨h1, h2⟩ | ⟨m, hm, rfl⟩)
      · refine .inl ⟨.inr ⟨h1, fun e => h2 ⟨(ordI_eq.1 e).2.trans hk.1, l, List.mem_cons_self, ((ordI_eq.1 e).1.trans hk.2).symm⟩⟩, ?_⟩
        rintro ⟨e1, m, hm, e2⟩
        exact h2 ⟨e1, m, List.mem_cons_of_mem _ hm, e2⟩
      · rcases List.mem_cons.1 hm with rfl | hm
        · refine .inl ⟨.inl rfl, ?_⟩
          rintro ⟨-, m', hm', e2⟩
          exact hpc.1 m' hm' (e2.trans hk.2).symm
        · exact .inr ⟨m, hm, (hkeep m hm).symm⟩
theorem ofL_blocks {L : List Lk} (h : Rise L) (tx : Int) : (ofL L tx).Pairwise (fun a b => a.block ≠ b.block) := by
  refine List.Pairwise.imp_of_mem ?_ (ofL_rise h tx)
  intro a b ha hb hab e
  have h1 := (ofL_mem.1 ha).2
  have h2 := (ofL_mem.1 hb).2
  have h3 := ordI_lt.1 hab
  omega
theorem passL_sane {L : List Lk} {tx p : Int} (h : SaneL L) (p1 : p < 64) : SaneL (passL L tx p) := by
  unfold passL
  split
  · exact freeL_sane h _
  · exact passTo_sane (by omega) p1 _ _ (freeL_sane h _) (ofL_sane h tx).sound
theorem passL_mem {L : List Lk} {tx p : Int} (h : Rise L) (p0 : 0 ≤ p) (hne : p ≠ tx) {x : Lk} : x ∈ passL L tx p ↔ (x ∈ L ∧ x.tx ≠ tx ∧ ¬ (x.tx = p ∧ ∃ l ∈ L, l.tx = tx ∧ l.block = x.block)) ∨ ∃ l ∈ L, l.tx = tx ∧ x = keepL L p l := by
  unfold passL
  rw [if_neg (by omega), passTo_mem _ _ (freeL_rise h _) (ofL_blocks h tx)]
  have hk : ∀ l, keepL (freeL L [tx]) p l = keepL L p l := by
    intro l
    have hf : findL (freeL L [tx]) p l.block = findL L p l.block := by
      refine findL_congr (freeL_rise h _) h (fun y hy1 hy2 => ?_)
      rw [freeL_mem]
      constructor
      · exact fun h1 => h1.1
      · exact fun h1 => ⟨h1, by simp; omega⟩
    show keepF (findL (freeL L [tx]) p l.block) l.strong = keepF (findL L p l.block) l.strong
    rw [hf]
  constructor
  · rintro (⟨h1, h2⟩ | ⟨l, hl, rfl⟩)
    · rw [freeL_mem] at h1
      refine .inl ⟨h1.1, by simpa using h1.2, fun ⟨e1, l, hl, e2, e3⟩ => h2 ⟨e1, l, ofL_mem.2 ⟨hl, e2⟩, e3⟩⟩
    · rw [ofL_mem] at hl
      exact .inr ⟨l, hl.1, hl.2, hk l⟩
  · rintro (⟨h1, h2, h3⟩ | ⟨l, hl, e, rfl⟩)
    · refine .inl ⟨freeL_mem.2 ⟨h1, by simpa using h2⟩, fun ⟨e1, l, hl, e2⟩ => h3 ⟨e1, l, (ofL_mem.1 hl).1, (ofL_mem.1 hl).2, e2⟩⟩
    · exact .inr ⟨l, ofL_mem.2 ⟨hl, e⟩, (hk l).symm⟩
end Go.Proofs.YtgbaijfgmeealaaGreat
set_option linter.unusedVariables false
set_option linter.unusedSimpArgs false
namespace Go.Proofs.YtgbaijfgmeealaaGreat
open Go.RowKit
theorem isId_iff {X : List Tx9} {a : Int} : isId X a = true ↔ 0 ≤ a ∧ a < (X.length : Int) := by
  unfold isId
  rw [Bool.and_eq_true, decide_eq_true_eq, decide_eq_true_eq]
theorem height_more {X : List Tx9} (hF : Falls X) : ∀ (n : Nat) (id : Int), id < (n : Int) → height X (n + 1) id = height X n id
  | 0, id, h => by
    show (if isId X id = true then height X 0 (upOf X id) + 1 else 0) = 0
    rw [if_neg (by rw [isId_iff]; omega)]
  | n + 1, id, h => by
    show (if isId X id = true then height X (n + 1) (upOf X id) + 1 else 0) = (if isId X id = true then height X n (upOf X id) + 1 else 0)
    by_cases hi : isId X id = true
    · rw [if_pos hi, if_pos hi, height_more hF n _ (by have := upOf_lt hF hi; omega)]
    · rw [if_neg hi, if_neg hi]
theorem Lh_eq {X : List Tx9} (hF : Falls X) (id : Int) : Lh X id = if isId X id = true then Lh X (upOf X id) + 1 else 0 := by
  unfold Lh
  by_cases hi : isId X id = true
  · rw [if_pos hi]
    obtain ⟨n, hn⟩ : ∃ n, X.length = n + 1 := ⟨X.length - 1, by have := isId_iff.1 hi; omega⟩
    rw [hn, height_more hF n (upOf X id) (by have := upOf_lt hF hi; have := isId_iff.1 hi; omega)]
    show (if isId X id = true then height X n (upOf X id) + 1 else 0) = _
    rw [if_pos hi]
  · rw [if_neg hi]
    cases hn : X.length with
    | zero => rfl
    | succ n =>
      show (if isId X id = true then height X n (upOf X id) + 1 else 0) = _
      rw [if_neg hi]
/-- Stands in. -/
def In (X : List Tx9) (a b : Int) : Prop := withinB X a b = true
theorem in_iff {X : List Tx9} (hF : Falls X) {a b : Int} : In X a b ↔ isId X a = true ∧ (a = b ∨ In X (upOf X a) b) := by
  unfold In
  have h0 : withinB X a b = (List.range (Lh X a)).any fun k => climb X a k == b := rfl
  have h1 : withinB X (upOf X a) b = (List.range (Lh X (upOf X a))).any fun k => climb X (upOf X a) k == b := rfl
  rw [h0, h1, Lh_eq hF a]
  by_cases hi : isId X a = true
  · rw [if_pos hi, List.range_succ_eq_map, List.any_cons, List.any_map]
    have e : ((fun k => climb X a k == b) ∘ Nat.succ) = fun k => climb X (upOf X a) k == b := by
      funext k
      show (climb X a (k + 1) == b) = _
      rw [climb_up]
    rw [e]
    simp [hi, climb]
  · rw [if_neg hi]
    simp [hi]
theorem in_self {X : List Tx9} (hF : Falls X) {a : Int} (h : isId X a = true) : In X a a := (in_iff hF).2 ⟨h, .inl rfl⟩
theorem in_up {X : List Tx9} (hF : Falls X) {a b : Int} (h : In X a b) (hne : a ≠ b) : In X (upOf X a) b := ((in_iff hF).1 h).2.resolve_left hne
theorem in_of_up {X : List Tx9} (hF : Falls X) {a b : Int} (hi : isId X a = true) (h : In X (upOf X a) b) : In X a b := (in_iff hF).2 ⟨hi, .inr h⟩
theorem in_ind {X : List Tx9} (hF : Falls X) (P : Int → Prop) (step : ∀ a, isId X a = true → (∀ a', a' < a → P a') → P a) (out : ∀ a, ¬ isId X a = true → P a) : ∀ a, P a := by
  have h : ∀ n : Nat, ∀ a : Int, a < (n : Int) → P a := by
    intro n
    induction n with
    | zero => intro a ha; exact out a (by rw [isId_iff]; omega)
    | succ n ih =>
      intro a ha
      by_cases hi : isId X a = true
      · exact step a hi (fun a' ha' => ih a' (by omega))
      · exact out a hi
  intro a
  exact h (a.toNat + 1) a (by omega)
theorem in_le {X : List Tx9} (hF : Falls X) (b : Int) : ∀ a, In X a b → isId X b = true ∧ b ≤ a := by
  refine in_ind hF _ ?_ ?_
  · intro a hi ih h
    rcases ((in_iff hF).1 h).2 with rfl | h1
    · exact ⟨hi, Int.le_refl _⟩
    · have h2 := ih _ (upOf_lt hF hi) h1
      have := upOf_lt hF hi
      exact ⟨h2.1, by omega⟩
  · intro a hi h
    exact absurd ((in_iff hF).1 h).1 hi
theorem in_trans {X : List Tx9} (hF : Falls X) {b c : Int} (hbc : In X b c) : ∀ a, In X a b → In X a c := by
  refine in_ind hF _ ?_ ?_
  · intro a hi ih h
    rcases ((in_iff hF).1 h).2 with rfl | h1
    · exact hbc
    · exact in_of_up hF hi (ih _ (upOf_lt hF hi) h1)
  · intro a hi h
    exact absurd ((in_iff hF).1 h).1 hi
/-- Who stands in depends on the parents alone. -/
theorem in_congr {X Y : List Tx9} (hl : X.length = Y.length) (hu : ∀ a, upOf X a = upOf Y a) (a b : Int) : withinB X a b = withinB Y a b := by
  have hc : ∀ k a, climb X a k = climb Y a k := by
    intro k
    induction k with
    | zero => intro a; rfl
    | succ k ih => intro a; show upOf X (climb X a k) = upOf Y (climb Y a k); rw [ih, hu]
  have hi : ∀ a, isId X a = isId Y a := fun a => by unfold isId; rw [hl]
  have hh : ∀ n a, height X n a = height Y n a := by
    intro n
    induction n with
    | zero => intro a; rfl
    | succ n ih =>
      intro a
      show (if isId X a = true then height X n (upOf X a) + 1 else 0) = (if isId Y a = true then height Y n (upOf Y a) + 1 else 0)
      rw [hi, ih, hu]
  unfold withinB Lh
  rw [hl, hh]
  congr 1
  funext k
  rw [hc]
theorem upOf_append {X : List Tx9} {x : Tx9} {a : Int} (h : isId X a = true) : upOf (X ++ [x]) a = upOf X a := by
  have h1 := isId_iff.1 h
  unfold upOf
  rw [List.getD_eq_getElem?_getD, List.getD_eq_getElem?_getD, List.getElem?_append_left (by omega)]
theorem isId_append {X : List Tx9} {x : Tx9} {a : Int} : isId (X ++ [x]) a = true ↔ isId X a = true ∨ a = (X.length : Int) := by
  rw [isId_iff, isId_iff, List.length_append]
  simp
  omega
theorem falls_append {X : List Tx9} (hF : Falls X) {x : Tx9} (h : x.parent < (X.length : Int)) : Falls (X ++ [x]) := by
  intro i y hy
  by_cases hi : i < X.length
  · rw [List.getElem?_append_left hi] at hy
    exact hF i y hy
  · rw [List.getElem?_append_right (by omega)] at hy
    have h0 : i - X.length = 0 := by
      have := (List.getElem?_eq_some_iff.1 hy).1
      simp at this
      omega
    rw [h0] at hy
    simp at hy
    subst hy
    omega
theorem in_append {X : List Tx9} (hF : Falls X) {x : Tx9} (hx : x.parent < (X.length : Int)) (b : Int) : ∀ a, a < (X.length : Int) → (In (X ++ [x]) a b ↔ In X a b) := by
  refine in_ind hF _ ?_ ?_
  · intro a hi ih ha
    rw [in_iff hF, in_iff (falls_append hF hx), upOf_append hi, isId_append, ih _ (upOf_lt hF hi) (by have := upOf_lt hF hi; omega)]
    simp [hi]
  · intro a hi ha
    rw [in_iff hF, in_iff (falls_append hF hx), isId_append]
    have : ¬ a = (X.length : Int) := by omega
    simp [hi, this]
theorem stateOf_append {X : List Tx9} {x : Tx9} {a : Int} (h : isId X a = true) : stateOf (X ++ [x]) a = stateOf X a := by
  have h1 := isId_iff.1 h
  unfold stateOf
  rw [List.getD_eq_getElem?_getD, List.getD_eq_getElem?_getD, List.getElem?_append_left (by omega)]
/-- Some of them end. -/
def endT (x : Tx9) (st c : Int) : Tx9 := { x with state := st, ended := c }
def endL (X : List Tx9) (ids : List Int) (st c : Int) : List Tx9 := X.mapIdx fun i x => if ids.contains (i : Int) then endT x st c else x
theorem endL_len (X : List Tx9) (ids : List Int) (st c : Int) : (endL X ids st c).length = X.length := by simp [endL]
theorem endL_at (X : List Tx9) (ids : List Int) (st c : Int) (i : Nat) : (endL X ids st c)[i]? = X[i]?.map fun x => if ids.contains (i : Int) then endT x st c else x := by simp [endL]
theorem endL_nil (X : List Tx9) (st c : Int) : endL X [] st c = X := by
  apply List.ext_getElem?
  intro i
  rw [endL_at]
  cases X[i]? <;> simp
theorem endL_step (X : List Tx9) (ids : List Int) (st c : Int) {k : Nat} {x : Tx9} (hx : (endL X ids st c)[k]? = some x) : endL X (ids ++ [(k : Int)]) st c = (endL X ids st c).set k (endT x st c) := by
  apply List.ext_getElem?
  intro i
  rw [endL_at]
  by_cases h : i = k
  · subst h
    have hl := (List.getElem?_eq_some_iff.1 hx).1
    rw [List.getElem?_set_self hl]
    rw [endL_at] at hx
    obtain ⟨y, hy, rfl⟩ := Option.map_eq_some_iff.1 hx
    rw [hy]
    simp only [Option.map_some]
    rw [if_pos (by simp)]
    split <;> rfl
  · rw [List.getElem?_set_ne (by omega), endL_at]
    have : (ids ++ [(k : Int)]).contains (i : Int) = ids.contains (i : Int) := by
      rw [List.contains_append]
      have : ¬ (i : Int) = (k : Int) := by omega
      simp [this]
    rw [this]
theorem endL_up (X : List Tx9) (ids : List Int) (st c a : Int) : upOf (endL X ids st c) a = upOf X a := by
  unfold upOf
  rw [List.getD_eq_getElem?_getD, List.getD_eq_getElem?_getD, endL_at]
  cases X[a.toNat]? with
  | none => rfl
  | some x =>
    simp only [Option.map_some, Option.getD_some]
    split <;> rfl
theorem endL_in (X : List Tx9) (ids : List Int) (st c a b : Int) : withinB (endL X ids st c) a b = withinB X a b := in_congr (endL_len X ids st c) (endL_up X ids st c) a b
theorem endL_state {X : List Tx9} {ids : List Int} {st c a : Int} (h : isId X a = true) : stateOf (endL X ids st c) a = if a ∈ ids then st else stateOf X a := by
  have h1 := isId_iff.1 h
  obtain ⟨n, rfl⟩ : ∃ n : Nat, a = (n : Int) := ⟨a.toNat, by omega⟩
  have hn : n < X.length := by omega
  unfold stateOf
  rw [List.getD_eq_getElem?_getD, List.getD_eq_getElem?_getD, Int.toNat_natCast, endL_at, List.getElem?_eq_getElem hn]
  simp only [Option.map_some, Option.getD_some, List.contains_iff_mem]
  split <;> rfl
theorem endL_falls {X : List Tx9} (hF : Falls X) (ids : List Int) (st c : Int) : Falls (endL X ids st c) := by
  intro i x hx
  rw [endL_at] at hx
  obtain ⟨y, hy, rfl⟩ := Option.map_eq_some_iff.1 hx
  have := hF i y hy
  split
  · exact this
  · exact this
theorem stateOf_at {X : List Tx9} {i : Nat} {x : Tx9} (h : X[i]? = some x) : stateOf X (i : Int) = x.state := by
  unfold stateOf
  rw [List.getD_eq_getElem?_getD, Int.toNat_natCast, h]
  rfl
theorem upOf_at {X : List Tx9} {i : Nat} {x : Tx9} (h : X[i]? = some x) : upOf X (i : Int) = x.parent := by
  unfold upOf
  rw [List.getD_eq_getElem?_getD, Int.toNat_natCast, h]
  rfl
theorem insL_mem {X : List Tx9} {id k : Int} {test : Tx9 → Bool} : k ∈ insL X id test ↔ ∃ (i : Nat) (x : Tx9), X[i]? = some x ∧ k = (i : Int) ∧ test x = true ∧ In X (i : Int) id := by
  unfold insL insTo insB In
  rw [List.mem_map]
  constructor
  · rintro ⟨i, hi, rfl⟩
    rw [List.mem_filter] at hi
    cases hx : X[i]? with
    | none => rw [hx] at hi; simp at hi
    | some x =>
      rw [hx] at hi
      simp only [Bool.and_eq_true] at hi
      exact ⟨i, x, hx, rfl, hi.2.1, hi.2.2⟩
  · rintro ⟨i, x, hx, rfl, h1, h2⟩
    refine ⟨i, List.mem_filter.2 ⟨List.mem_range.2 (List.getElem?_eq_some_iff.1 hx).1, ?_⟩, rfl⟩
    rw [hx]
    simp [h1, h2]
/-- Commit, Abort. -/
def commitE (X : List Tx9) (id : Int) : Int := if isId X id = false then 6 else if insL X id liveB ≠ [id] then 7 else 0
def abortE (X : List Tx9) (id : Int) : Int := if isId X id = false then 6 else if stateOf X id ≠ 1 then 7 else 0
def commitX (X : List Tx9) (id c : Int) : List Tx9 := endL X (insL X id liveB) 2 (c + 1)
def abortX (X : List Tx9) (id c : Int) : List Tx9 := endL X (insL X id undoB) 3 (c + 1)
/-- What holds, whatever is done. -/
structure Grn (X : List Tx9) (L : List Lk) : Prop where
  falls : Falls X
  low : ∀ x ∈ X, -1 ≤ x.parent
  len : X.length ≤ 64
  sane : SaneL L
  live : ∀ l ∈ L, isId X l.tx = true ∧ stateOf X l.tx = 1
  up : ∀ a, isId X a = true → stateOf X a = 1 → upOf X a ≠ -1 → stateOf X (upOf X a) = 1
  apart : ∀ a ∈ L, ∀ b ∈ L, a.block = b.block → a.strong = 2 → In X a.tx b.tx ∨ In X b.tx a.tx
theorem Grn.nil : Grn [] [] := ⟨fun i x h => by simp at h, by simp, by decide, ⟨by simp, by simp⟩, by simp, fun a h => by rw [isId_iff] at h; simp at h; omega, by simp⟩
theorem Grn.low' {X : List Tx9} {L : List Lk} (h : Grn X L) {a : Int} (ha : isId X a = true) : -1 ≤ upOf X a := by
  have h1 := isId_iff.1 ha
  obtain ⟨n, rfl⟩ : ∃ n : Nat, a = (n : Int) := ⟨a.toNat, by omega⟩
  have hn : n < X.length := by omega
  rw [upOf_at (List.getElem?_eq_getElem hn)]
  exact h.low _ (List.getElem_mem hn)
theorem Grn.begin {X : List Tx9} {L : List Lk} (h : Grn X L) {p c : Int} (hp : p = -1 ∨ isId X p = true) (hE : beginE X p = 0) : Grn (X ++ [⟨p, 1, c, 0⟩]) L := by
  have hlen : X.length < 64 := by
    unfold beginE at hE
    split at hE
    · cases hE
    · split at hE
      · cases hE
      · omega
  have hst : p ≠ -1 → stateOf X p = 1 := fun hne => by
    unfold beginE at hE
    split at hE
    · cases hE
    · rename_i h0
      rcases Classical.em (stateOf X p = 1) with h1 | h1
      · exact h1
      · exact absurd ⟨hne, h1⟩ h0
  have hpl : p < (X.length : Int) := by
    rcases hp with rfl | hp
    · omega
    · exact (isId_iff.1 hp).2
  refine ⟨falls_append h.falls hpl, ?_, by rw [List.length_append]; simp; omega, h.sane, ?_, ?_, ?_⟩
  · intro x hx
    rcases List.mem_append.1 hx with hx | hx
    · exact h.low x hx
    · simp at hx
      subst hx
      show -1 ≤ p
      rcases hp with rfl | hp
      · decide
      · have := isId_iff.1 hp; omega
  · intro l hl
    have h1 := h.live l hl
    exact ⟨isId_append.2 (.inl h1.1), by rw [stateOf_append h1.1]; exact h1.2⟩
  · intro a ha hs hne
    rcases isId_append.1 ha with hi | hi
    · rw [upOf_append hi] at hne ⊢
      rw [stateOf_append hi] at hs
      have h2 := h.up a hi hs hne
      have h3 := h.low' hi
      have h4 := upOf_lt h.falls hi
      have h5 := (isId_iff.1 hi).2
      rw [stateOf_append (isId_iff.2 ⟨by omega, by omega⟩)]
      exact h2
    · subst hi
      have e : upOf (X ++ [⟨p, 1, c, 0⟩]) (X.length : Int) = p := upOf_at (x := ⟨p, 1, c, 0⟩) (by simp)
      rw [e] at hne ⊢
      rw [stateOf_append (hp.resolve_left hne)]
      exact hst hne
  · intro a ha b hb he hs
    have ha1 := isId_iff.1 (h.live a ha).1
    have hb1 := isId_iff.1 (h.live b hb).1
    rw [in_append h.falls hpl _ _ ha1.2, in_append h.falls hpl _ _ hb1.2]
    exact h.apart a ha b hb he hs
theorem ask_in {X : List Tx9} {L : List Lk} {tx b m : Int} (h : againstL X L tx b m = []) {l : Lk} (hl : l ∈ L) (hb : l.block = b) (hm : mostOf m < l.strong) : In X tx l.tx := by
  unfold againstL at h
  rw [List.map_eq_nil_iff, List.filter_eq_nil_iff] at h
  have h1 := h l hl
  unfold agB at h1
  simp [hb, hm] at h1
  exact h1
theorem askE_zero {X : List Tx9} {L : List Lk} {tx b m : Int} (h : askE X L tx b m = 0) : isId X tx = true ∧ stateOf X tx = 1 ∧ againstL X L tx b m = [] := by
  unfold askE at h
  split at h
  · cases h
  · rename_i h0
    split at h
    · cases h
    · rename_i h1
      split at h
      · cases h
      · rename_i h2
        exact ⟨isId_iff.2 (by omega), by simpa using h1, by simpa using h2⟩
theorem askX_key (L : List Lk) (tx b m : Int) : (askX L tx b m).tx = tx ∧ (askX L tx b m).block = b := findL_key L tx b
theorem askX_sound {L : List Lk} {tx b m : Int} (h : SaneL L) (hb : 0 ≤ b ∧ b < 256) (ht : 0 ≤ tx ∧ tx < 64) (hm : m = 1 ∨ m = 2) : (askX L tx b m).sound = true := by
  rw [sound_iff]
  have hk := askX_key L tx b m
  have hf : 0 ≤ (findL L tx b).held ∧ (findL L tx b).held ≤ 2 ∧ 0 ≤ (findL L tx b).kept ∧ (findL L tx b).kept ≤ 2 := by
    rcases findL_case tx b L with ⟨h0, -⟩ | ⟨-, h0⟩
    · have := sound_iff.1 (h.sound _ h0)
      exact ⟨this.h0, this.h1, this.k0, this.k1⟩
    · rw [h0]; exact ⟨Int.le_refl _, by show (0 : Int) ≤ 2; decide, Int.le_refl _, by show (0 : Int) ≤ 2; decide⟩
  have e1 : (askX L tx b m).held = max (findL L tx b).held m := rfl
  have e2 : (askX L tx b m).kept = (findL L tx b).kept := rfl
  refine ⟨by rw [hk.2]; exact hb.1, by rw [hk.2]; exact hb.2, by rw [hk.1]; exact ht.1, by rw [hk.1]; exact ht.2, by rw [e1]; omega, by rw [e1]; omega, by rw [e2]; omega, by rw [e2]; omega, ?_⟩
  unfold Lk.strong
  rw [e1, e2]
  omega
theorem askX_strong {L : List Lk} {tx b m : Int} (hm : m = 1 ∨ m = 2) (h : (askX L tx b m).strong = 2) : m = 2 ∨ (findL L tx b ∈ L ∧ (findL L tx b).strong = 2) := by
  have e1 : (askX L tx b m).held = max (findL L tx b).held m := rfl
  have e2 : (askX L tx b m).kept = (findL L tx b).kept := rfl
  unfold Lk.strong at h
  rw [e1, e2] at h
  rcases hm with rfl | rfl
  · right
    have hs : (findL L tx b).strong = 2 := by unfold Lk.strong; omega
    refine ⟨?_, hs⟩
    rcases findL_case tx b L with ⟨h0, -⟩ | ⟨-, h0⟩
    · exact h0
    · rw [h0] at hs; exact absurd hs (by show ¬ max (0 : Int) 0 = 2; decide)
  · exact .inl rfl
theorem Grn.ask {X : List Tx9} {L : List Lk} (h : Grn X L) {tx b m : Int} (hb : 0 ≤ b ∧ b < 256) (hm : m = 1 ∨ m = 2) (hE : askE X L tx b m = 0) : Grn X (askL L tx b m) := by
  obtain ⟨hi, hst, hag⟩ := askE_zero hE
  have hk := askX_key L tx b m
  have hi' := isId_iff.1 hi
  have hlen := h.len
  refine ⟨h.falls, h.low, h.len, withL_sane h.sane (askX_sound h.sane hb ⟨hi'.1, by omega⟩ hm), ?_, h.up, ?_⟩
  · intro l hl
    rcases (withL_mem h.sane.rise).1 hl with rfl | ⟨h1, -⟩
    · rw [hk.1]; exact ⟨hi, hst⟩
    · exact h.live l h1
  · have hone : ∀ l ∈ L, l.block = b → ((askX L tx b m).strong = 2 ∨ l.strong = 2) → In X tx l.tx ∨ In X l.tx tx := by
      intro l hl he hs
      have hsl := (sound_iff.1 (h.sane.sound l hl)).s
      rcases hs with hs | hs
      · rcases askX_strong hm hs with rfl | ⟨h1, h2⟩
        · exact .inl (ask_in hag hl he hsl)
        · have h3 := h.apart _ h1 l hl (by rw [(findL_key L tx b).2, he]) h2
          rwa [(findL_key L tx b).1] at h3
      · refine .inl (ask_in hag hl he ?_)
        rcases hm with rfl | rfl
        · rw [hs]; decide
        · exact hsl
    intro x hx y hy he hs
    rcases (withL_mem h.sane.rise).1 hx with rfl | ⟨hx1, -⟩
    · rcases (withL_mem h.sane.rise).1 hy with rfl | ⟨hy1, -⟩
      · rw [hk.1]; exact .inl (in_self h.falls hi)
      · rw [hk.1]
        rw [hk.2] at he
        exact hone y hy1 he.symm (.inl hs)
    · rcases (withL_mem h.sane.rise).1 hy with rfl | ⟨hy1, -⟩
      · rw [hk.1]
        rw [hk.2] at he
        exact (hone x hx1 he (.inr hs)).symm
      · exact h.apart x hx1 y hy1 he hs
theorem keepL_strong {L : List Lk} {p : Int} {l : Lk} (h : (keepL L p l).strong = 2) (hl : l.strong ≤ 2) : l.strong = 2 ∨ (findL L p l.block ∈ L ∧ (findL L p l.block).strong = 2) := by
  have e1 : (keepL L p l).held = (findL L p l.block).held := rfl
  have e2 : (keepL L p l).kept = max (findL L p l.block).kept l.strong := rfl
  have h3 : max (findL L p l.block).held (max (findL L p l.block).kept l.strong) = 2 := by
    unfold Lk.strong at h
    rw [e1, e2] at h
    exact h
  rcases Classical.em (l.strong = 2) with h0 | h0
  · exact .inl h0
  · right
    have hs : (findL L p l.block).strong = 2 := by
      show max (findL L p l.block).held (findL L p l.block).kept = 2
      omega
    refine ⟨?_, hs⟩
    rcases findL_case p l.block L with ⟨h1, -⟩ | ⟨-, h1⟩
    · exact h1
    · rw [h1] at hs; exact absurd hs (by show ¬ max (0 : Int) 0 = 2; decide)
theorem strong_le {x : Lk} (h : x.sound = true) : 0 < x.strong ∧ x.strong ≤ 2 := by
  rw [sound_iff] at h
  have := h.s
  refine ⟨this, ?_⟩
  unfold Lk.strong
  have := h.h1; have := h.k1
  omega
theorem commitE_zero {X : List Tx9} {id : Int} (hF : Falls X) (h : commitE X id = 0) : isId X id = true ∧ stateOf X id = 1 ∧ ∀ a, isId X a = true → stateOf X a = 1 → In X a id → a = id := by
  unfold commitE at h
  split at h
  · cases h
  · rename_i h0
    split at h
    · cases h
    · rename_i h1
      have h1 : insL X id liveB = [id] := by simpa using h1
      have hi : isId X id = true := by simpa using h0
      have hm : id ∈ insL X id liveB := by rw [h1]; simp
      obtain ⟨i, x, hx, hk, ht, -⟩ := insL_mem.1 hm
      refine ⟨hi, ?_, ?_⟩
      · rw [hk, stateOf_at hx]
        simpa [liveB] using ht
      · intro a ha hs hin
        obtain ⟨n, rfl⟩ : ∃ n : Nat, a = (n : Int) := ⟨a.toNat, by have := isId_iff.1 ha; omega⟩
        have hn : n < X.length := by have := isId_iff.1 ha; omega
        have hx := List.getElem?_eq_getElem hn
        have : (n : Int) ∈ insL X id liveB := insL_mem.2 ⟨n, _, hx, rfl, by rw [stateOf_at hx] at hs; simp [liveB, hs], hin⟩
        rw [h1] at this
        simpa using this
theorem Grn.commit {X : List Tx9} {L : List Lk} (h : Grn X L) {id c : Int} (hE : commitE X id = 0) : Grn (commitX X id c) (passL L id (upOf X id)) := by
  obtain ⟨hi, hst, hone⟩ := commitE_zero h.falls hE
  have hmem : insL X id liveB = [id] := by
    unfold commitE at hE
    split at hE
    · cases hE
    · split at hE
      · cases hE
      · rename_i h1; simpa using h1
  have hlow := h.low' hi
  have hplt := upOf_lt h.falls hi
  have hil := isId_iff.1 hi
  have hlen := h.len
  obtain ⟨p, hp⟩ : ∃ p, p = upOf X id := ⟨_, rfl⟩
  rw [← hp] at hlow hplt ⊢
  have hS : ∀ a, isId X a = true → stateOf (commitX X id c) a = if a = id then 2 else stateOf X a := fun a ha => by
    unfold commitX
    rw [hmem, endL_state ha]
    simp
  have hId : ∀ a, isId (commitX X id c) a = isId X a := fun a => by unfold isId commitX; rw [endL_len]
  have hIn : ∀ a b, In (commitX X id c) a b ↔ In X a b := fun a b => by unfold In commitX; rw [endL_in]
  have hUp : ∀ a, upOf (commitX X id c) a = upOf X a := fun a => endL_up _ _ _ _ _
  have hpar : p ≠ -1 → isId X p = true ∧ stateOf X p = 1 := fun hne => ⟨isId_iff.2 (by omega), by rw [hp]; exact h.up id hi hst (by rw [← hp]; exact hne)⟩
  have hlive : ∀ l ∈ L, l.tx ≠ id → isId (commitX X id c) l.tx = true ∧ stateOf (commitX X id c) l.tx = 1 := fun l hl hne => by
    have h1 := h.live l hl
    exact ⟨by rw [hId]; exact h1.1, by rw [hS _ h1.1, if_neg hne]; exact h1.2⟩
  refine ⟨endL_falls h.falls _ _ _, ?_, by unfold commitX; rw [endL_len]; exact h.len, passL_sane h.sane (by omega), ?_, ?_, ?_⟩
  · intro x hx
    obtain ⟨i, hx⟩ := List.mem_iff_getElem?.1 hx
    unfold commitX at hx
    rw [endL_at] at hx
    obtain ⟨y, hy, rfl⟩ := Option.map_eq_some_iff.1 hx
    have := h.low y (List.mem_of_getElem? hy)
    split
    · exact this
    · exact this
  · intro l hl
    by_cases hp0 : p < 0
    · unfold passL at hl
      rw [if_pos hp0, freeL_mem] at hl
      exact hlive l hl.1 (by simpa using hl.2)
    · have hp1 := hpar (by omega)
      rcases (passL_mem h.sane.rise (by omega) (by omega)).1 hl with ⟨h1, h2, -⟩ | ⟨m, hm, ht, rfl⟩
      · exact hlive l h1 h2
      · rw [(keepL_key L p m).1]
        exact ⟨by rw [hId]; exact hp1.1, by rw [hS _ hp1.1, if_neg (by omega)]; exact hp1.2⟩
  · intro a ha hs hne
    rw [hId] at ha
    rw [hUp] at hne ⊢
    rw [hS _ ha] at hs
    split at hs
    · cases hs
    · rename_i hne2
      have h1 := h.up a ha hs hne
      have h2 := h.low' ha
      have h3 := upOf_lt h.falls ha
      have h4 := isId_iff.1 ha
      have h5 : isId X (upOf X a) = true := isId_iff.2 (by omega)
      rw [hS _ h5, if_neg ?_]
      · exact h1
      · intro e
        refine hne2 (hone a ha hs (in_of_up h.falls ha ?_))
        rw [e]
        exact in_self h.falls hi
  · intro a ha b hb he hs
    rw [hIn, hIn]
    by_cases hp0 : p < 0
    · unfold passL at ha hb
      rw [if_pos hp0, freeL_mem] at ha hb
      exact h.apart a ha.1 b hb.1 he hs
    · have hp1 := hpar (by omega)
      -- what is kept by the parent, beside another one's
      have hk : ∀ m ∈ L, m.tx = id → ∀ y ∈ L, y.tx ≠ id → y.block = m.block → ((keepL L p m).strong = 2 ∨ y.strong = 2) → In X p y.tx ∨ In X y.tx p := by
        intro m hm ht y hy hyt hyb hs2
        have hsm := strong_le (h.sane.sound m hm)
        have key : In X m.tx y.tx ∨ In X y.tx m.tx → In X p y.tx ∨ In X y.tx p := by
          rw [ht]
          rintro (h1 | h1)
          · refine .inl ?_
            rw [hp]
            exact in_up h.falls h1 (Ne.symm hyt)
          · exact absurd (hone y.tx (h.live y hy).1 (h.live y hy).2 h1) hyt
        rcases hs2 with hs2 | hs2
        · rcases keepL_strong hs2 hsm.2 with h1 | ⟨h1, h2⟩
          · exact key (h.apart m hm y hy hyb.symm h1)
          · have h3 := h.apart _ h1 y hy (by rw [(findL_key L p m.block).2, hyb]) h2
            rwa [(findL_key L p m.block).1] at h3
        · exact key (h.apart y hy m hm hyb hs2).symm
      rcases (passL_mem h.sane.rise (by omega) (by omega)).1 ha with ⟨h1, h2, -⟩ | ⟨m, hm, ht, rfl⟩
      · rcases (passL_mem h.sane.rise (by omega) (by omega)).1 hb with ⟨h3, h4, -⟩ | ⟨n, hn, hu, rfl⟩
        · exact h.apart a h1 b h3 he hs
        · rw [(keepL_key L p n).1]
          rw [(keepL_key L p n).2] at he
          exact (hk n hn hu a h1 h2 he (.inr hs)).symm
      · rw [(keepL_key L p m).1]
        rw [(keepL_key L p m).2] at he
        rcases (passL_mem h.sane.rise (by omega) (by omega)).1 hb with ⟨h3, h4, -⟩ | ⟨n, hn, hu, rfl⟩
        · exact hk m hm ht b h3 h4 he.symm (.inl hs)
        · rw [(keepL_key L p n).1]
          exact .inl (in_self h.falls hp1.1)
theorem abortE_zero {X : List Tx9} {id : Int} (h : abortE X id = 0) : isId X id = true ∧ stateOf X id = 1 := by
  unfold abortE at h
  split at h
  · cases h
  · rename_i h0
    split at h
    · cases h
    · rename_i h1
      exact ⟨by simpa using h0, by simpa using h1⟩
theorem Grn.abort {X : List Tx9} {L : List Lk} (h : Grn X L) {id c : Int} (hE : abortE X id = 0) : Grn (abortX X id c) (freeL L (insL X id undoB)) := by
  obtain ⟨hi, hst⟩ := abortE_zero hE
  have hin : ∀ a, isId X a = true → stateOf X a = 1 → (a ∈ insL X id undoB ↔ In X a id) := by
    intro a ha hs
    obtain ⟨n, rfl⟩ : ∃ n : Nat, a = (n : Int) := ⟨a.toNat, by have := isId_iff.1 ha; omega⟩
    have hn : n < X.length := by have := isId_iff.1 ha; omega
    have hx := List.getElem?_eq_getElem hn
    rw [insL_mem]
    constructor
    · rintro ⟨i, x, -, e, -, h2⟩
      rw [e]; exact h2
    · intro h2
      exact ⟨n, _, hx, rfl, by rw [stateOf_at hx] at hs; simp [undoB, hs], h2⟩
  have hS : ∀ a, isId X a = true → stateOf (abortX X id c) a = if a ∈ insL X id undoB then 3 else stateOf X a := fun a ha => endL_state ha
  have hId : ∀ a, isId (abortX X id c) a = isId X a := fun a => by unfold isId abortX; rw [endL_len]
  have hIn : ∀ a b, In (abortX X id c) a b ↔ In X a b := fun a b => by unfold In abortX; rw [endL_in]
  have hUp : ∀ a, upOf (abortX X id c) a = upOf X a := fun a => endL_up _ _ _ _ _
  refine ⟨endL_falls h.falls _ _ _, ?_, by unfold abortX; rw [endL_len]; exact h.len, freeL_sane h.sane _, ?_, ?_, ?_⟩
  · intro x hx
    obtain ⟨i, hx⟩ := List.mem_iff_getElem?.1 hx
    unfold abortX at hx
    rw [endL_at] at hx
    obtain ⟨y, hy, rfl⟩ := Option.map_eq_some_iff.1 hx
    have := h.low y (List.mem_of_getElem? hy)
    split
    · exact this
    · exact this
  · intro l hl
    rw [freeL_mem] at hl
    have h1 := h.live l hl.1
    exact ⟨by rw [hId]; exact h1.1, by rw [hS _ h1.1, if_neg hl.2]; exact h1.2⟩
  · intro a ha hs hne
    rw [hId] at ha
    rw [hUp] at hne ⊢
    rw [hS _ ha] at hs
    split at hs
    · cases hs
    · rename_i hni
      have h1 := h.up a ha hs hne
      have h2 := h.low' ha
      have h3 := upOf_lt h.falls ha
      have h4 := isId_iff.1 ha
      have h5 : isId X (upOf X a) = true := isId_iff.2 (by omega)
      rw [hS _ h5, if_neg ?_]
      · exact h1
      · intro e
        rw [hin _ h5 h1] at e
        exact hni ((hin a ha hs).2 (in_of_up h.falls ha e))
  · intro a ha b hb he hs
    rw [freeL_mem] at ha hb
    rw [hIn, hIn]
    exact h.apart a ha.1 b hb.1 he hs
end Go.Proofs.YtgbaijfgmeealaaGreat
