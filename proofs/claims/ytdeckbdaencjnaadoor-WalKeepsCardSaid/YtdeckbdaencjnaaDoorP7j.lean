/-
  A log whose records begin at any place: appended, forced, dropped, opened again. What a scan tells where sectors of a record are lacking, or elder ones lie beneath. A log on a device that may be gone in the middle of a record. Records of a second epoch over torn ones of a first. Conditions: none.
-/
import Derived.Test.YtdeckbdaencjnaaDoorP7f

set_option linter.unusedVariables false
set_option linter.unusedSimpArgs false
namespace Go.Proofs.YtdeckbdaencjnaaDoor
open Go.RowKit
structure From7 (L : Lg) (D : Dev) (n : Nat) (a : Int) (R : List (List Int)) : Prop where
  good : Good D n
  bys : SecBys D
  sane : L.r.Sane
  fit : L.r.from_ + L.r.size ≤ (n : Int)
  brk : L.broken = false
  e0 : 0 ≤ L.epoch
  e1 : L.epoch ≤ 4294967295
  start : L.r.head ≤ a
  tail : L.r.tail = endAt a R
  ok : AllOk L.epoch a R
  has : ∀ i, i < (flat L.epoch a R).length → (flat L.epoch a R)[i]? = some (L.r.sc D (a + i))
theorem Laid.from7 {L : Lg} {D : Dev} {n : Nat} {R : List (List Int)} {c : Int → List Int} (h : Laid L D n R c) : From7 L D n L.r.head R :=
  ⟨h.good, h.bys, h.sane, h.fit, h.brk, h.e0, h.e1, Int.le_refl _, h.tail, h.ok, h.has⟩
theorem wrs_bys : ∀ (l : List (Int × List Int)) (D : Dev), SecBys D → (∀ x ∈ l, Bys x.2) → SecBys (D.wrs l)
  | [], D, h, _ => h
  | x :: l, D, h, hx => by
    unfold Dev.wrs
    split
    · exact h.write _ (hx x (by simp))
    · exact wrs_bys l _ (h.write _ (hx x (by simp))) (fun y hy => hx y (by simp [hy]))
theorem lay_bys {L : Lg} {b : List Int} (hb : Bys b) : ∀ x ∈ L.lay b, Bys x.2 := by
  intro x hx
  unfold Lg.lay at hx
  obtain ⟨k, hk, rfl⟩ := List.mem_map.1 hx
  exact Pc.sec_bys (piece_bys hb k)
theorem From7.app {L : Lg} {D : Dev} {n : Nat} {a : Int} {R : List (List Int)} (h : From7 L D n a R) {b : List Int} (hb : Bys b) (hn : b.length ≤ 44000) :
    (L.appE D b = 5 ∧ L.appP D b = 0 ∧ L.app D b = L ∧ L.appD D b = D ∧ (L.r.size - (L.r.tail - L.r.head) < need b.length ∨ 1099511627776 - L.r.tail < need b.length)) ∨
    (L.appE D b = 0 ∧ L.appP D b = L.r.tail ∧ (need b.length : Int) ≤ L.r.size - (L.r.tail - L.r.head) ∧ L.app D b = { L with r := L.r.taken (need b.length) } ∧ (L.appD D b).laid = D.laid ∧ From7 { L with r := L.r.taken (need b.length) } (L.appD D b) n a (R ++ [b]) ∧
      (∀ q, q < L.r.tail + L.r.size → L.r.tail + need b.length ≤ q + L.r.size → (q < L.r.tail ∨ L.r.tail + need b.length ≤ q) → L.r.sc (L.appD D b) q = L.r.sc D q) ∧
      ∀ k : Nat, k < need b.length → L.r.sc (L.appD D b) (L.r.tail + k) = (piece L.epoch L.r.tail b k).sec) := by
  have hnb : ¬ L.broken = true := by rw [h.brk]; decide
  by_cases hf : L.r.size - (L.r.tail - L.r.head) < need b.length ∨ 1099511627776 - L.r.tail < need b.length
  · have hfull : L.full b = 5 := by unfold Lg.full Rg.takeE; rw [if_pos hf]
    have hE : L.appE D b = 5 := by unfold Lg.appE; rw [if_neg hnb, if_pos (by rw [hfull]; decide), hfull]
    refine .inl ⟨hE, ?_, ?_, ?_, hf⟩
    · unfold Lg.appP; rw [hE, if_neg (by decide)]
    · unfold Lg.app; rw [if_neg hnb, if_pos (by rw [hfull]; decide)]
    · unfold Lg.appD; rw [if_neg hnb, if_pos (by rw [hfull]; decide)]
  · have hfull : L.full b = 0 := by unfold Lg.full Rg.takeE; rw [if_neg hf]
    have hs := h.sane
    obtain ⟨f0, f1, s0, s1, h0, ht, t1, ft⟩ := h.sane
    have hr : RecOk L.epoch L.r.tail b := ⟨h.e0, h.e1, by omega, by omega, by
      have := need_tight b.length
      omega, hb⟩
    obtain ⟨g1, g2, g3, g4, g5⟩ := h.good.lay hs h.fit hr (by omega)
    have hE : L.appE D b = 0 := by unfold Lg.appE; rw [if_neg hnb, if_neg (by rw [hfull]; simp), g1]
    have hD : L.appD D b = D.wrs (L.lay b) := by unfold Lg.appD; rw [if_neg hnb, if_neg (by rw [hfull]; simp)]
    have hp := need_pos b.length
    have hfl := flatE_len L.epoch R a
    rw [← h.tail] at hfl
    have hst := h.start
    rw [hD]
    refine .inr ⟨hE, by unfold Lg.appP; rw [if_pos hE], by omega, by unfold Lg.app; rw [if_neg hnb, if_neg (by rw [hfull]; simp), if_neg (by rw [g1]; simp)], g3, ?_, g5, g4⟩
    refine ⟨g2, wrs_bys _ _ h.bys (lay_bys hb), ⟨f0, f1, s0, s1, h0, by show L.r.head ≤ L.r.tail + _; omega, by show L.r.tail + _ ≤ _; omega, by show L.r.tail + _ - L.r.head ≤ L.r.size; omega⟩, h.fit, h.brk, h.e0, h.e1, hst, ?_, ?_, ?_⟩
    · show L.r.tail + need b.length = endAt a (R ++ [b])
      rw [endAt_snoc, h.tail]
    · exact allOk_snoc L.epoch b R a h.ok (by rw [← h.tail]; exact hr)
    · intro i hi
      show (flat L.epoch a (R ++ [b]))[i]? = some (L.r.sc (D.wrs (L.lay b)) (a + i))
      have hi' : i < (flat L.epoch a (R ++ [b])).length := hi
      rw [flat_snoc, List.length_append, cutL_len] at hi'
      rw [flat_snoc]
      by_cases hlt : i < (flat L.epoch a R).length
      · rw [List.getElem?_append_left hlt, h.has i hlt, g5 _ (by omega) (by omega) (.inl (by omega))]
      · obtain ⟨k, hk⟩ : ∃ k, i = (flat L.epoch a R).length + k := ⟨i - (flat L.epoch a R).length, by omega⟩
        rw [List.getElem?_append_right (by omega), hk, Nat.add_sub_cancel_left, ← h.tail, cutL_at _ _ _ _ (by omega), ← g4 k (by omega)]
        congr 2; omega
theorem From7.force {L : Lg} {D : Dev} {n : Nat} {a : Int} {R : List (List Int)} (h : From7 L D n a R) :
    L.forceE D = 0 ∧ L.force D = { L with safe := L.r.tail } ∧ L.forceD D = D.flush ∧ From7 { L with safe := L.r.tail } D.flush n a R ∧ (∀ q, L.r.sc D.flush q = L.r.sc D q) ∧ ∀ q, D.flush.laid.getD (L.r.sec q).toNat [] = L.r.sc D q := by
  have hnb : ¬ L.broken = true := by rw [h.brk]; decide
  obtain ⟨g1, g2, g3, g4⟩ := h.good.flush
  have hsec : ∀ q, (L.r.sec q).toNat < n := fun q => by have := Rg.sec_in h.sane h.fit q; omega
  have hsc : ∀ q, L.r.sc D.flush q = L.r.sc D q := fun q => g3 _ (hsec q)
  refine ⟨by unfold Lg.forceE; rw [if_neg hnb, g1], by unfold Lg.force; rw [if_neg hnb, if_neg (by rw [g1]; simp)], by unfold Lg.forceD; rw [if_neg hnb], ?_, hsc, fun q => g4 _ (hsec q)⟩
  refine ⟨g2, h.bys.flush, h.sane, h.fit, h.brk, h.e0, h.e1, h.start, h.tail, h.ok, fun i hi => ?_⟩
  show _ = some (L.r.sc D.flush (a + i))
  rw [hsc]; exact h.has i hi
/-- A sector that is no record's first one at a place. -/
def Stale (x : List Int) (q : Int) : Prop := readE x ≠ 0 ∨ (pcOf x).at_ ≠ q
theorem stale_ends {epoch : Int} {l : List (List Int)} {a last : Int} (h : ∀ x, l[0]? = some x → Stale x a) : Ends epoch l a last := by
  left
  cases l with
  | nil => simp [gather, Gat.no]
  | cons x l =>
    have := h x rfl
    unfold gather
    simp only
    by_cases c1 : readE x ≠ 0
    · rw [if_pos c1]; exact c1
    · rw [if_neg c1]
      unfold gatherOn
      rw [if_neg c1, if_pos]
      · simp [Gat.no]
      · rintro ⟨_, _, h3, _⟩
        rcases this with h4 | h4
        · exact c1 h4
        · exact h4 h3
/-- Dropped up to a place that is no farther than the records' beginning. -/
theorem From7.dropTo {L : Lg} {D : Dev} {n : Nat} {a : Int} {R : List (List Int)} (h : From7 L D n a R) {to : Int} (h1 : L.r.head ≤ to) (h2 : to ≤ a) :
    L.dropE to = 0 ∧ L.drop to = { L with r := L.r.dropped to } ∧ From7 { L with r := L.r.dropped to } D n a R := by
  have hnb : ¬ L.broken = true := by rw [h.brk]; decide
  have hge := endAt_ge R a
  rw [← h.tail] at hge
  have hE : L.r.dropE to = 0 := by
    unfold Rg.dropE
    rw [if_pos]
    simp [risingB]
    omega
  refine ⟨by unfold Lg.dropE; rw [if_neg hnb, hE], by unfold Lg.drop; rw [if_neg hnb, if_pos hE], ?_⟩
  obtain ⟨f0, f1, s0, s1, h0, ht, t1, ft⟩ := h.sane
  exact ⟨h.good, h.bys, ⟨f0, f1, s0, s1, by show 0 ≤ to; omega, by show to ≤ L.r.tail; omega, t1, by show L.r.tail - to ≤ L.r.size; omega⟩, h.fit, h.brk, h.e0, h.e1, h2, h.tail, h.ok, h.has⟩
/-- The first record counts no more. -/
theorem From7.skip {L : Lg} {D : Dev} {n : Nat} {a : Int} {b : List Int} {R : List (List Int)} (h : From7 L D n a (b :: R)) : From7 L D n (a + need b.length) R := by
  have hs := h.start
  refine ⟨h.good, h.bys, h.sane, h.fit, h.brk, h.e0, h.e1, by omega, h.tail, h.ok.2, fun i hi => ?_⟩
  have := h.has (need b.length + i) (by simp [flat, cutL_len]; exact hi)
  simp only [flat] at this
  rw [List.getElem?_append_right (by rw [cutL_len]; omega), cutL_len, Nat.add_sub_cancel_left] at this
  rw [this]
  congr 2; omega
/-- Opened again, a log tells all its records, if nothing lies behind them. -/
theorem From7.opens {L : Lg} {D D' : Dev} {n : Nat} {R : List (List Int)} (h : From7 L D n L.r.head R) (hc : L.r.tail < L.r.head + L.r.size → Stale (L.r.sc D' L.r.tail) L.r.tail) (hsame : ∀ q, L.r.head ≤ q → q < L.r.tail → L.r.sc D' q = L.r.sc D q) {epoch : Int} (he : L.epoch < epoch) :
    opened D' L.r.from_ L.r.size L.r.head epoch = (recsAt L.r.head R, L.r.tail) := by
  have hs := h.sane
  have hfe := flatE_len L.epoch R L.r.head
  rw [← h.tail] at hfe
  have h1 := hs.s0
  have h2 := hs.fit
  unfold opened
  have hln := ringSecs_len D' (Rg.mk L.r.from_ L.r.size L.r.head L.r.head)
  have hsz : (Rg.mk L.r.from_ L.r.size L.r.head L.r.head).size = L.r.size := rfl
  have hsc : ∀ q, (Rg.mk L.r.from_ L.r.size L.r.head L.r.head).sc D' q = L.r.sc D' q := fun q => rfl
  rw [h.tail]
  refine scan_all he R _ _ _ _ (by rw [hln, hsz]; omega) h.e0 h.ok (fun i hi => ?_) (fun z _ _ => ?_)
  · rw [ringSecs_at _ _ _ (by rw [hsz]; omega), h.has i hi, hsc]
    rw [← hsame _ (by omega) (by omega)]
  · apply stale_ends
    intro x hx
    rw [List.getElem?_drop, Nat.add_zero] at hx
    have hi := (List.getElem?_eq_some_iff.1 hx).1
    rw [hln, hsz] at hi
    rw [ringSecs_at _ _ _ (by rw [hsz]; exact hi)] at hx
    have hx' := Option.some.inj hx
    have e : (Rg.mk L.r.from_ L.r.size L.r.head L.r.head).head + ((flat L.epoch L.r.head R).length : Int) = L.r.tail := by show L.r.head + _ = _; omega
    rw [e, hsc] at hx'
    rw [← hx', ← h.tail]
    exact hc (by omega)
end Go.Proofs.YtdeckbdaencjnaaDoor
set_option linter.unusedVariables false
set_option linter.unusedSimpArgs false
namespace Go.Proofs.YtdeckbdaencjnaaDoor
open Go.RowKit
theorem need_flat (E a : Int) (b : List Int) (R : List (List Int)) (k : Nat) (hk : k < need b.length) : (flat E a (b :: R))[k]? = some (piece E a b k).sec := by
  simp only [flat]
  rw [List.getElem?_append_left (by rw [cutL_len]; exact hk), cutL_at _ _ _ _ hk]
theorem rest_flat (E a : Int) (b : List Int) (R : List (List Int)) (i : Nat) : (flat E a (b :: R))[need b.length + i]? = (flat E (a + need b.length) R)[i]? := by
  simp only [flat]
  rw [List.getElem?_append_right (by rw [cutL_len]; omega), cutL_len]
  congr 1; omega
/-- A sector that is not this record's: nothing, or of an elder epoch. -/
def Elder (x : List Int) (e : Int) : Prop := readE x ≠ 0 ∨ (pcOf x).epoch < e
theorem Elder.mono {x : List Int} {e e' : Int} (h : Elder x e) (he : e ≤ e') : Elder x e' := by
  rcases h with h | h
  · exact .inl h
  · exact .inr (by omega)
theorem gather_head {l : List (List Int)} {at_ : Int} (h : (gather l at_).e = 0) : ∃ x, l[0]? = some x ∧ readE x = 0 ∧ (pcOf x).epoch = (gather l at_).epoch ∧ (pcOf x).count = (gather l at_).count := by
  have hc := gather_count h (fun _ _ => trivial)
  obtain ⟨x, h1, h2, h3⟩ := gather_inv h 0 (by omega)
  exact ⟨x, h1, h2, h3.1, h3.2.1⟩
/-- A record whose first piece is there is there, or nothing is gathered. -/
theorem has_or {E e a : Int} (hE : e ≤ E) {l : List (List Int)} {b : List Int} {R : List (List Int)} (hr : RecOk E a b) (h : ∀ i x, i < need b.length → l[i]? = some x → Elder x e ∨ (flat E a (b :: R))[i]? = some x)
    {last epoch : Int} (hl : e ≤ last) : Has l E a b ∨ Ends epoch l a last := by
  by_cases he : (gather l a).e = 0
  · obtain ⟨x0, h0, r0, e0, c0⟩ := gather_head he
    have hp := need_pos b.length
    rcases h 0 x0 (by omega) h0 with ho | hf
    · rcases ho with ho | ho
      · exact absurd r0 ho
      · exact .inr (.inr (.inr (.inl (by rw [← e0]; omega))))
    · rw [need_flat _ _ _ _ _ (by omega)] at hf
      have hx := Option.some.inj hf
      obtain ⟨_, hpc⟩ := hr.read (k := 0) (by omega)
      rw [hx] at hpc
      have hcount : (gather l a).count = need b.length := by rw [← c0, hpc]; rfl
      have hep : (gather l a).epoch = E := by rw [← e0, hpc]; rfl
      refine .inl (fun k hk => ?_)
      obtain ⟨x, h1, h2, h3⟩ := gather_inv he k (by omega)
      rcases h k x hk h1 with ho | hf2
      · rcases ho with ho | ho
        · exact absurd h2 ho
        · have := h3.1
          omega
      · rw [h1, ← hf2, need_flat _ _ _ _ _ hk]
  · exact .inr (.inl he)
/-- Behind all records nothing is gathered, or something elder. -/
theorem ends_elder {e a last epoch : Int} {l : List (List Int)} (h : ∀ x, l[0]? = some x → Elder x e) (hl : e ≤ last) : Ends epoch l a last := by
  by_cases he : (gather l a).e = 0
  · obtain ⟨x0, h0, r0, e0, c0⟩ := gather_head he
    rcases h x0 h0 with ho | ho
    · exact absurd r0 ho
    · exact .inr (.inr (.inl (by rw [← e0]; omega)))
  · exact .inl he
theorem sure_elder {E epoch : Int} : ∀ (R : List (List Int)) (l : List (List Int)) (a last e : Int), e ≤ last → last ≤ E → AllOk E a R → (∀ (i : Nat) (x : List Int), l[i]? = some x → Elder x e ∨ (flat E a R)[i]? = some x) → Sure E epoch R l a last
  | [], l, a, last, e, h1, h2, _, h => ends_elder (e := e) (fun x hx => by
      rcases h 0 x hx with ho | hf
      · exact ho
      · simp [flat] at hf) h1
  | b :: R, l, a, last, e, h1, h2, hok, h => by
    refine ⟨has_or (R := R) (e := e) (by omega) hok.1 (fun i x _ hx => h i x hx) h1, fun _ => ?_⟩
    refine sure_elder R _ _ E e (by omega) (Int.le_refl _) hok.2 (fun i x hx => ?_)
    rw [List.getElem?_drop] at hx
    rcases h _ x hx with ho | hf
    · exact .inl ho
    · rw [rest_flat] at hf
      exact .inr hf
/-- What is gathered is gathered of the first pieces alone. -/
theorem gatherOn_ext {E C : Int} : ∀ (l l' : List (List Int)) (k : Nat) (a : Int) (acc : List Int), (k : Int) ≤ C - 1 → (gatherOn E C l k a acc).e = 0 → (∀ j : Nat, (j : Int) < C - k → l'[j]? = l[j]?) → gatherOn E C l' k a acc = gatherOn E C l k a acc
  | [], l', k, a, acc, _, h, _ => by simp [gatherOn, Gat.no] at h
  | x :: l, l', k, a, acc, hk, h, hs => by
    cases l' with
    | nil => have := hs 0 (by simp; omega); simp at this
    | cons y l' =>
      have hxy : y = x := by have := hs 0 (by simp; omega); simpa using this
      subst hxy
      unfold gatherOn at h ⊢
      by_cases c1 : readE y ≠ 0
      · rw [if_pos c1] at h; exact absurd h c1
      rw [if_neg c1] at h
      rw [if_neg c1, if_neg c1]
      by_cases c2 : ¬ (pcOf y).Stamp E C a k
      · rw [if_pos c2] at h; exact absurd h (by simp [Gat.no])
      rw [if_neg c2] at h
      rw [if_neg c2, if_neg c2]
      by_cases c3 : (k : Int) = C - 1
      · rw [if_pos c3, if_pos c3]
      · rw [if_neg c3] at h
        rw [if_neg c3, if_neg c3]
        rw [show ((k : Int) + 1) = ((k + 1 : Nat) : Int) by omega] at h ⊢
        exact gatherOn_ext l l' (k + 1) (a + 1) _ (by omega) h (fun j hj => by
          have := hs (j + 1) (by omega)
          simpa using this)
theorem gather_ext {l l' : List (List Int)} {at_ : Int} (h : (gather l at_).e = 0) (hs : ∀ j : Nat, (j : Int) < (gather l at_).count → l'[j]? = l[j]?) : gather l' at_ = gather l at_ := by
  have hc := gather_count h (fun _ _ => trivial)
  cases l with
  | nil => simp [gather, Gat.no] at h
  | cons x l =>
    cases l' with
    | nil => have := hs 0 (by omega); simp at this
    | cons y l' =>
      have hxy : y = x := by have := hs 0 (by omega); simpa using this
      subst hxy
      have hc2 := gather_head h
      obtain ⟨z, z1, z2, z3, z4⟩ := hc2
      have hz : y = z := by simpa using z1
      rw [← hz] at z4
      unfold gather at h hs ⊢
      simp only at h hs ⊢
      by_cases c1 : readE y ≠ 0
      · rw [if_pos c1] at h; exact absurd h c1
      rw [if_neg c1] at h hs
      rw [if_neg c1, if_neg c1]
      have hok := (Pc.of_readE (b := y) (by simpa using c1)).1
      have hcc := gatherOn_count (y :: l) 0 at_ [] (by omega) (by have := hok.c0; omega) h
      exact gatherOn_ext (y :: l) (y :: l') 0 at_ [] (by have := hok.c0; simp; omega) h (fun j hj => hs j (by rw [hcc.1]; simpa using hj))
/-- Over records that are there a scan goes on. -/
theorem scan_has {E epoch : Int} (hE : E < epoch) : ∀ (R : List (List Int)) (f : Nat) (l : List (List Int)) (a last : Int), l.length < f → last ≤ E → AllOk E a R → HasAll E R l a →
    ∃ f' last', (l.drop (flat E a R).length).length < f' ∧ (R = [] → last' = last) ∧ (R ≠ [] → last' = E) ∧ scan epoch f l a last = (recsAt a R ++ (scan epoch f' (l.drop (flat E a R).length) (endAt a R) last').1, (scan epoch f' (l.drop (flat E a R).length) (endAt a R) last').2)
  | [], f, l, a, last, hf, _, _, _ => ⟨f, last, by simpa [flat] using hf, fun _ => rfl, fun h => absurd rfl h, by simp [flat, recsAt, endAt]⟩
  | b :: R, f, l, a, last, hf, hl, hok, hh => by
    obtain ⟨f, rfl⟩ : ∃ f', f = f' + 1 := ⟨f - 1, by omega⟩
    have hp := need_pos b.length
    have hlen := hh.1.len
    obtain ⟨f', last', h1, h2, h3, h4⟩ := scan_has hE R f (l.drop (need b.length)) (a + need b.length) E (by rw [List.length_drop]; omega) (Int.le_refl _) hok.2 hh.2
    refine ⟨f', last', ?_, fun h => by simp at h, fun _ => ?_, ?_⟩
    · simp only [flat, List.length_append, cutL_len]
      rw [List.drop_drop] at h1
      exact h1
    · by_cases hR : R = []
      · exact h2 hR
      · exact h3 hR
    · rw [scan_go f (not_ends hok.1 hh.1 hE hl), gather_has hok.1 hh.1]
      simp only [Int.toNat_natCast, h4, flat, List.length_append, cutL_len, List.drop_drop, recsAt, endAt, List.cons_append]
end Go.Proofs.YtdeckbdaencjnaaDoor
set_option linter.unusedVariables false
set_option linter.unusedSimpArgs false
namespace Go.Proofs.YtdeckbdaencjnaaDoor
open Go.RowKit
/-- A device of so many sectors, there or gone. -/
structure Sized (D : Dev) (n : Nat) : Prop where
  laid : D.laid.length = n
  late : D.late.length = n
theorem Good.sized {D : Dev} {n : Nat} (h : Good D n) : Sized D n := ⟨h.laid, h.late⟩
theorem Sized.budgeted {D : Dev} {n : Nat} (h : Sized D n) (k : Int) : Sized (D.budgeted k) n := ⟨h.laid, h.late⟩
/-- One write: it is done, or the device is gone. -/
theorem Sized.write {D : Dev} {n : Nat} (h : Sized D n) (hg : D.gone = false) {i : Nat} (hi : i < n) {s : List Int} (hs : s.length = 64) :
    (D.writeE i s = 0 ∧ Sized (D.write i s) n ∧ (D.write i s).gone = false ∧ (D.write i s).laid = D.laid ∧ (D.write i s).at i = s ∧ ∀ j, i ≠ j → (D.write i s).at j = D.at j) ∨
    (D.writeE i s = 11 ∧ Sized (D.write i s) n ∧ (D.write i s).gone = true ∧ (D.write i s).laid = D.laid ∧ ∀ j, (D.write i s).at j = D.at j) := by
  by_cases hb : D.budget = 0
  · have hm : D.may i = 0 := by
      unfold Dev.may
      rw [if_neg (by rw [hg]; decide), if_neg (by rw [h.laid]; omega)]
    have hE : D.writeE i s = 11 := by
      unfold Dev.writeE Dev.spendE
      rw [if_neg (by rw [hm]; decide), if_neg (by omega), if_pos hb]
    have hW : D.write i s = D.spend := by
      unfold Dev.write
      rw [if_neg (by rw [hm]; decide), if_neg (by omega), if_pos hb]
    rw [hW]
    refine .inr ⟨hE, ⟨by rw [Dev.spend_laid]; exact h.laid, by rw [Dev.spend_late]; exact h.late⟩, ?_, Dev.spend_laid D, fun j => Dev.spend_at D j⟩
    unfold Dev.spend
    rw [if_pos hb]
  · obtain ⟨h1, h2⟩ := Dev.write_ok hg hb (by rw [h.laid]; exact hi) (xs := s) (by omega)
    rw [h2, pad64_full hs]
    refine .inl ⟨h1, ⟨?_, ?_⟩, ?_, ?_, ?_, fun j hj => ?_⟩
    · show (D.spend.laid).length = n
      rw [Dev.spend_laid]; exact h.laid
    · show (D.spend.late.set i (some s)).length = n
      rw [List.length_set, Dev.spend_late]; exact h.late
    · exact Dev.spend_gone hg hb
    · show D.spend.laid = D.laid
      exact Dev.spend_laid D
    · rw [Dev.put_at _ _ _ (by rw [Dev.spend_late, h.late]; exact hi)]
    · rw [Dev.put_at_ne _ _ hj, Dev.spend_at]
/-- Many: all are done, or the device is gone, and some are. -/
theorem Sized.wrs {n : Nat} : ∀ (l : List (Nat × List Int)) (D : Dev), Sized D n → D.gone = false → (∀ x ∈ l, x.1 < n ∧ x.2.length = 64) → (l.map (·.1)).Nodup →
    ∃ D', D' = D.wrs (l.map fun x => ((x.1 : Int), x.2)) ∧ Sized D' n ∧ D'.laid = D.laid ∧ (∀ j, D'.at j = D.at j ∨ ∃ x ∈ l, x.1 = j ∧ D'.at j = x.2) ∧ (∀ j, (∀ x ∈ l, x.1 ≠ j) → D'.at j = D.at j) ∧
      ((D.wrsE (l.map fun x => ((x.1 : Int), x.2)) = 0 ∧ D'.gone = false ∧ ∀ x ∈ l, D'.at x.1 = x.2) ∨ (D.wrsE (l.map fun x => ((x.1 : Int), x.2)) = 11 ∧ D'.gone = true))
  | [], D, h, hg, _, _ => ⟨_, rfl, h, rfl, fun _ => .inl rfl, fun _ _ => rfl, .inl ⟨rfl, hg, fun x hx => by simp at hx⟩⟩
  | x :: l, D, h, hg, hl, hn => by
    obtain ⟨hx1, hx2⟩ := hl x (by simp)
    rw [List.map_cons, List.nodup_cons] at hn
    have hne : ∀ y ∈ l, y.1 ≠ x.1 := fun y hy e => hn.1 (by rw [← e]; exact List.mem_map_of_mem hy)
    rcases h.write hg hx1 hx2 with ⟨w1, w2, w3, w4, w5, w6⟩ | ⟨w1, w2, w3, w4, w5⟩
    · obtain ⟨D', e1, i1, i2, i3, i4, i5⟩ := Sized.wrs l (D.write x.1 x.2) w2 w3 (fun y hy => hl y (by simp [hy])) hn.2
      simp only [List.map_cons, Dev.wrs, Dev.wrsE, w1]
      rw [if_neg (by simp), if_neg (by simp)]
      refine ⟨D', e1, i1, by rw [i2, w4], fun j => ?_, fun j hj => ?_, ?_⟩
      · by_cases hj : x.1 = j
        · subst hj
          exact .inr ⟨x, by simp, rfl, by rw [i4 _ hne, w5]⟩
        · rcases i3 j with h1 | ⟨y, h1, h2, h3⟩
          · exact .inl (by rw [h1, w6 j hj])
          · exact .inr ⟨y, by simp [h1], h2, h3⟩
      · rw [i4 j (fun y hy => hj y (by simp [hy])), w6 j (hj x (by simp))]
      · rcases i5 with ⟨a1, a2, a3⟩ | ⟨a1, a2⟩
        · refine .inl ⟨a1, a2, fun y hy => ?_⟩
          rcases List.mem_cons.1 hy with rfl | hy
          · rw [i4 _ hne, w5]
          · exact a3 y hy
        · exact .inr ⟨a1, a2⟩
    · simp only [List.map_cons, Dev.wrs, Dev.wrsE, w1]
      rw [if_pos (by simp), if_pos (by simp)]
      exact ⟨_, rfl, w2, w4, fun j => .inl (w5 j), fun j _ => w5 j, .inr ⟨rfl, w3⟩⟩
/-- Each place has a sector of its own. -/
theorem Lg.lay_nat {L : Lg} {n : Nat} (hs : L.r.Sane) (hf : L.r.from_ + L.r.size ≤ (n : Int)) {b : List Int} (hr : RecOk L.epoch L.r.tail b) (hroom : (need b.length : Int) ≤ L.r.size) :
    ∃ l : List (Nat × List Int), L.lay b = l.map (fun x => ((x.1 : Int), x.2)) ∧ (∀ x ∈ l, x.1 < n ∧ x.2.length = 64) ∧ (l.map (·.1)).Nodup ∧
      (∀ x ∈ l, ∃ k : Nat, k < need b.length ∧ x = ((L.r.sec (L.r.tail + k)).toNat, (piece L.epoch L.r.tail b k).sec)) ∧ ∀ k : Nat, k < need b.length → ((L.r.sec (L.r.tail + k)).toNat, (piece L.epoch L.r.tail b k).sec) ∈ l := by
  obtain ⟨l, hl⟩ : ∃ l : List (Nat × List Int), l = (List.range (need b.length)).map fun (k : Nat) => ((L.r.sec (L.r.tail + k)).toNat, (piece L.epoch L.r.tail b k).sec) := ⟨_, rfl⟩
  have hmem : ∀ x ∈ l, ∃ k, k < need b.length ∧ x = ((L.r.sec (L.r.tail + k)).toNat, (piece L.epoch L.r.tail b k).sec) := by
    intro x hx
    rw [hl] at hx
    obtain ⟨k, hk, rfl⟩ := List.mem_map.1 hx
    exact ⟨k, List.mem_range.1 hk, rfl⟩
  refine ⟨l, ?_, fun x hx => ?_, ?_, hmem, fun k hk => by rw [hl]; exact List.mem_map.2 ⟨k, List.mem_range.2 hk, rfl⟩⟩
  · rw [hl]
    unfold Lg.lay
    rw [List.map_map]
    apply List.map_congr_left
    intro k _
    have := Rg.sec_in hs hf (L.r.tail + k)
    simp only [Function.comp]
    rw [Int.toNat_of_nonneg this.1]
  · obtain ⟨k, hk, rfl⟩ := hmem x hx
    have := Rg.sec_in hs hf (L.r.tail + k)
    exact ⟨by show (L.r.sec (L.r.tail + k)).toNat < n; omega, Pc.sec_len (piece_ok hr.e0 hr.e1 hr.cutE hk).d0⟩
  · rw [hl, List.map_map]
    rw [List.nodup_iff_pairwise_ne, List.pairwise_map]
    refine List.Pairwise.imp_of_mem (fun {a c} ha hc hne e => ?_) (List.nodup_iff_pairwise_ne.1 List.nodup_range)
    have ha' := List.mem_range.1 ha
    have hc' := List.mem_range.1 hc
    simp only [Function.comp] at e
    have s1 := Rg.sec_in hs hf (L.r.tail + a)
    have s2 := Rg.sec_in hs hf (L.r.tail + c)
    have := Rg.sec_inj hs (a := L.r.tail + a) (b := L.r.tail + c) (by omega) (by omega) (by omega)
    exact hne (by omega)
/-- What stands in a ring's sectors: nothing, or what was appended; the first so many records are laid down. -/
structure Kept (E : Int) (r : Rg) (D : Dev) (n : Nat) (R : List (List Int)) (s : Nat) : Prop where
  sized : Sized D n
  bys : SecBys D
  ok : AllOk E r.head R
  fits : ((flat E r.head R).length : Int) ≤ r.size
  cur : ∀ i : Nat, (i : Int) < r.size → r.sc D (r.head + i) = zsec ∨ (flat E r.head R)[i]? = some (r.sc D (r.head + i))
  laid : ∀ i : Nat, (i : Int) < r.size → D.laid.getD (r.sec (r.head + i)).toNat [] = zsec ∨ (flat E r.head R)[i]? = some (D.laid.getD (r.sec (r.head + i)).toNat [])
  most : s ≤ R.length
  safe : ∀ i, i < (flat E r.head (R.take s)).length → (flat E r.head R)[i]? = some (r.sc D (r.head + i)) ∧ (flat E r.head R)[i]? = some (D.laid.getD (r.sec (r.head + i)).toNat [])
/-- A log that is there, on a device that is. -/
structure Alive (L : Lg) (D : Dev) (R : List (List Int)) : Prop where
  brk : L.broken = false
  gone : D.gone = false
  tail : L.r.tail = endAt L.r.head R
  full : ∀ i : Nat, i < (flat L.epoch L.r.head R).length → (flat L.epoch L.r.head R)[i]? = some (L.r.sc D (L.r.head + i))
theorem flat_take (E : Int) : ∀ (R : List (List Int)) (a : Int) (s : Nat), ∃ t, flat E a R = flat E a (R.take s) ++ t
  | [], a, s => ⟨[], by simp [flat]⟩
  | b :: R, a, 0 => ⟨flat E a (b :: R), by simp [flat]⟩
  | b :: R, a, s + 1 => by
    obtain ⟨t, ht⟩ := flat_take E R (a + need b.length) s
    exact ⟨t, by simp only [flat, List.take_succ_cons, List.append_assoc]; rw [ht]⟩
/-- Appended: refused, or laid whole, or torn. -/
theorem Kept.app {L : Lg} {D : Dev} {n : Nat} {R : List (List Int)} {s : Nat} (h : Kept L.epoch L.r D n R s) (ha : Alive L D R) (hs : L.r.Sane) (hf : L.r.from_ + L.r.size ≤ (n : Int)) (e0 : 0 ≤ L.epoch) (e1 : L.epoch ≤ 4294967295) {b : List Int} (hb : Bys b) (hn : b.length ≤ 44000) :
    (L.appE D b = 5 ∧ L.app D b = L ∧ L.appD D b = D) ∨
    (L.appE D b = 0 ∧ L.app D b = { L with r := L.r.taken (need b.length) } ∧ Kept L.epoch L.r (L.appD D b) n (R ++ [b]) s ∧ (L.appD D b).gone = false ∧ L.r.tail + need b.length = endAt L.r.head (R ++ [b]) ∧ (need b.length : Int) ≤ L.r.size - (L.r.tail - L.r.head) ∧ L.r.tail + need b.length ≤ 1099511627776 ∧
      ∀ i : Nat, i < (flat L.epoch L.r.head (R ++ [b])).length → (flat L.epoch L.r.head (R ++ [b]))[i]? = some (L.r.sc (L.appD D b) (L.r.head + i))) ∨
    (L.appE D b = 11 ∧ L.app D b = { L with broken := true } ∧ Kept L.epoch L.r (L.appD D b) n (R ++ [b]) s ∧ (L.appD D b).gone = true) := by
  have hnb : ¬ L.broken = true := by rw [ha.brk]; decide
  by_cases hfl : L.r.size - (L.r.tail - L.r.head) < need b.length ∨ 1099511627776 - L.r.tail < need b.length
  · have hfull : L.full b = 5 := by unfold Lg.full Rg.takeE; rw [if_pos hfl]
    refine .inl ⟨by unfold Lg.appE; rw [if_neg hnb, if_pos (by rw [hfull]; decide), hfull], ?_, ?_⟩
    · unfold Lg.app; rw [if_neg hnb, if_pos (by rw [hfull]; decide)]
    · unfold Lg.appD; rw [if_neg hnb, if_pos (by rw [hfull]; decide)]
  · have hfull : L.full b = 0 := by unfold Lg.full Rg.takeE; rw [if_neg hfl]
    obtain ⟨f0, f1, s0, s1, h0, ht, t1, ft⟩ := id hs
    have hr : RecOk L.epoch L.r.tail b := ⟨e0, e1, by omega, by omega, by
      have := need_tight b.length
      omega, hb⟩
    have hD : L.appD D b = D.wrs (L.lay b) := by unfold Lg.appD; rw [if_neg hnb, if_neg (by rw [hfull]; simp)]
    have hfe := flatE_len L.epoch R L.r.head
    rw [← ha.tail] at hfe
    have hp := need_pos b.length
    obtain ⟨l, g1, g2, g3, g4, g5⟩ := Lg.lay_nat hs hf hr (by omega)
    obtain ⟨D', k1, k2, k3, k4, k5, k6⟩ := Sized.wrs l D h.sized ha.gone g2 g3
    rw [← g1] at k1 k6
    have hbys : SecBys D' := by rw [k1]; exact wrs_bys _ _ h.bys (lay_bys hb)
    have hD' : L.appD D b = D' := by rw [hD, k1]
    rw [hD']
    have hsnoc : ∀ i : Nat, i < (flat L.epoch L.r.head R).length → (flat L.epoch L.r.head (R ++ [b]))[i]? = (flat L.epoch L.r.head R)[i]? := fun i hi => by
      rw [flat_snoc, List.getElem?_append_left hi]
    have hpc : ∀ k : Nat, k < need b.length → (flat L.epoch L.r.head (R ++ [b]))[(flat L.epoch L.r.head R).length + k]? = some (piece L.epoch L.r.tail b k).sec := fun k hk => by
      rw [flat_snoc, List.getElem?_append_right (by omega), Nat.add_sub_cancel_left, ← ha.tail, cutL_at _ _ _ _ hk]
    have hold : ∀ i : Nat, (i : Int) < L.r.size → (∀ x ∈ l, x.1 ≠ (L.r.sec (L.r.head + i)).toNat) ∨ ∃ k, k < need b.length ∧ i = (flat L.epoch L.r.head R).length + k := by
      intro i hi
      by_cases hq : ∃ k, k < need b.length ∧ i = (flat L.epoch L.r.head R).length + k
      · exact .inr hq
      · left
        intro x hx e
        obtain ⟨k, hk, rfl⟩ := g4 x hx
        have q1 := Rg.sec_in hs hf (L.r.tail + k)
        have q2 := Rg.sec_in hs hf (L.r.head + i)
        have e' : (L.r.sec (L.r.tail + k)).toNat = (L.r.sec (L.r.head + i)).toNat := e
        have := Rg.sec_inj hs (a := L.r.tail + k) (b := L.r.head + i) (by omega) (by omega) (by omega)
        exact hq ⟨k, hk, by omega⟩
    have hsame : ∀ i : Nat, i < (flat L.epoch L.r.head R).length → L.r.sc D' (L.r.head + i) = L.r.sc D (L.r.head + i) := by
      intro i hi
      rcases hold i (by omega) with h1 | ⟨k, _, h2⟩
      · exact k5 _ h1
      · omega
    have hk' : Kept L.epoch L.r D' n (R ++ [b]) s := by
      refine ⟨k2, hbys, allOk_snoc L.epoch b R L.r.head h.ok (by rw [← ha.tail]; exact hr), ?_, fun i hi => ?_, fun i hi => ?_, by have := h.most; rw [List.length_append]; omega, fun i hi => ?_⟩
      · rw [flat_snoc, List.length_append, cutL_len]
        omega
      · rcases hold i hi with h1 | ⟨k, hk, h2⟩
        · have e : L.r.sc D' (L.r.head + i) = L.r.sc D (L.r.head + i) := k5 _ h1
          rw [e]
          rcases h.cur i hi with h3 | h3
          · exact .inl h3
          · exact .inr (by rw [hsnoc i (List.getElem?_eq_some_iff.1 h3).1]; exact h3)
        · rcases k4 (L.r.sec (L.r.head + i)).toNat with h3 | ⟨x, h3, h4, h5⟩
          · have e : L.r.sc D' (L.r.head + i) = L.r.sc D (L.r.head + i) := h3
            rw [e]
            rcases h.cur i hi with h6 | h6
            · exact .inl h6
            · have := (List.getElem?_eq_some_iff.1 h6).1
              omega
          · right
            obtain ⟨k', hk', rfl⟩ := g4 x h3
            have q1 := Rg.sec_in hs hf (L.r.tail + k')
            have q2 := Rg.sec_in hs hf (L.r.head + i)
            have e' : (L.r.sec (L.r.tail + k')).toNat = (L.r.sec (L.r.head + i)).toNat := h4
            have := Rg.sec_inj hs (a := L.r.tail + k') (b := L.r.head + i) (by omega) (by omega) (by omega)
            have hkk : k' = k := by omega
            have e : L.r.sc D' (L.r.head + i) = (piece L.epoch L.r.tail b k').sec := h5
            rw [e, hkk, h2, hpc k hk]
      · rw [k3]
        rcases h.laid i hi with h3 | h3
        · exact .inl h3
        · exact .inr (by rw [hsnoc i (List.getElem?_eq_some_iff.1 h3).1]; exact h3)
      · rw [List.take_append_of_le_length h.most] at hi
        obtain ⟨t, ht⟩ := flat_take L.epoch R L.r.head s
        have hlt : i < (flat L.epoch L.r.head R).length := by rw [ht, List.length_append]; omega
        rw [hsnoc i hlt, hsame i hlt, k3]
        exact h.safe i hi
    right
    rcases k6 with ⟨k7, k8, k9⟩ | ⟨k7, k8⟩
    · left
      have hE : L.appE D b = 0 := by unfold Lg.appE; rw [if_neg hnb, if_neg (by rw [hfull]; simp), k7]
      refine ⟨hE, by unfold Lg.app; rw [if_neg hnb, if_neg (by rw [hfull]; simp), if_neg (by rw [k7]; simp)], hk', k8, by rw [endAt_snoc, ← ha.tail], by omega, by omega, fun i hi => ?_⟩
      rw [flat_snoc, List.length_append, cutL_len] at hi
      by_cases hlt : i < (flat L.epoch L.r.head R).length
      · rw [hsnoc i hlt, hsame i hlt]
        exact ha.full i hlt
      · obtain ⟨k, hk⟩ : ∃ k, i = (flat L.epoch L.r.head R).length + k := ⟨i - (flat L.epoch L.r.head R).length, by omega⟩
        rw [hk, hpc k (by omega)]
        have := k9 _ (g5 k (by omega))
        have e : L.r.head + (((flat L.epoch L.r.head R).length + k : Nat) : Int) = L.r.tail + k := by omega
        rw [e]
        exact congrArg some this.symm
    · right
      have hE : L.appE D b = 11 := by unfold Lg.appE; rw [if_neg hnb, if_neg (by rw [hfull]; simp), k7]
      exact ⟨hE, by unfold Lg.app; rw [if_neg hnb, if_neg (by rw [hfull]; simp), if_pos (by rw [k7]; simp)], hk', k8⟩
/-- Forced: all is safe, or the device is gone. -/
theorem Kept.force {L : Lg} {D : Dev} {n : Nat} {R : List (List Int)} {s : Nat} (h : Kept L.epoch L.r D n R s) (ha : Alive L D R) (hs : L.r.Sane) (hf : L.r.from_ + L.r.size ≤ (n : Int)) :
    (L.forceE D = 0 ∧ L.force D = { L with safe := L.r.tail } ∧ Kept L.epoch L.r (L.forceD D) n R R.length ∧ Alive { L with safe := L.r.tail } (L.forceD D) R) ∨
    (L.forceE D = 11 ∧ L.force D = { L with broken := true } ∧ Kept L.epoch L.r (L.forceD D) n R s ∧ (L.forceD D).gone = true) := by
  have hnb : ¬ L.broken = true := by rw [ha.brk]; decide
  have hng : ¬ D.gone = true := by rw [ha.gone]; decide
  have hfd : L.forceD D = D.flush := by unfold Lg.forceD; rw [if_neg hnb]
  rw [hfd]
  by_cases hb : D.budget = 0
  · have hE : D.flushE = 11 := by unfold Dev.flushE Dev.spendE; rw [if_neg hng, if_pos hb]
    have hF : D.flush = D.spend := by unfold Dev.flush; rw [if_neg hng, if_pos hb]
    rw [hF]
    have hsp : ∀ q, L.r.sc D.spend q = L.r.sc D q := fun q => Dev.spend_at D _
    refine .inr ⟨by unfold Lg.forceE; rw [if_neg hnb, hE], by unfold Lg.force; rw [if_neg hnb, if_pos (by rw [hE]; decide)], ?_, by unfold Dev.spend; rw [if_pos hb]⟩
    refine ⟨⟨by rw [Dev.spend_laid]; exact h.sized.laid, by rw [Dev.spend_late]; exact h.sized.late⟩, h.bys.spend, h.ok, h.fits, fun i hi => by rw [hsp]; exact h.cur i hi, fun i hi => by rw [Dev.spend_laid]; exact h.laid i hi, h.most, fun i hi => by rw [hsp, Dev.spend_laid]; exact h.safe i hi⟩
  · obtain ⟨hE, hF⟩ := Dev.flush_ok ha.gone hb
    have hl : D.spend.laid.length = n := by rw [Dev.spend_laid]; exact h.sized.laid
    have hsec : ∀ q, (L.r.sec q).toNat < n := fun q => by have := Rg.sec_in hs hf q; omega
    have hat : ∀ q, L.r.sc D.flush q = L.r.sc D q := by
      intro q
      unfold Rg.sc
      rw [hF, Dev.lay_at (by rw [hl]; exact hsec q), Dev.spend_at]
    have hlaid : ∀ q, D.flush.laid.getD (L.r.sec q).toNat [] = L.r.sc D q := by
      intro q
      rw [hF, Dev.lay_laid]
      simp only [List.getD_eq_getElem?_getD, List.getElem?_map, List.getElem?_range (show (L.r.sec q).toNat < D.spend.laid.length by rw [hl]; exact hsec q), Option.map_some, Option.getD_some]
      exact Dev.spend_at D _
    have hgf : D.flush.gone = false := by rw [hF]; exact Dev.spend_gone ha.gone hb
    refine .inl ⟨by unfold Lg.forceE; rw [if_neg hnb, hE], by unfold Lg.force; rw [if_neg hnb, if_neg (by rw [hE]; simp)], ?_, ⟨ha.brk, hgf, ha.tail, fun i hi => by
      show _ = some (L.r.sc D.flush (L.r.head + i))
      rw [hat]; exact ha.full i hi⟩⟩
    refine ⟨⟨by rw [hF, Dev.lay_len]; exact hl, by rw [hF]; show (D.spend.late.map fun _ => none).length = n; rw [List.length_map, Dev.spend_late]; exact h.sized.late⟩, h.bys.flush, h.ok, h.fits, fun i hi => by rw [hat]; exact h.cur i hi, fun i hi => by rw [hlaid]; exact h.cur i hi, Nat.le_refl _, fun i hi => ?_⟩
    rw [List.take_length] at hi
    rw [hat, hlaid]
    exact ⟨ha.full i hi, ha.full i hi⟩
theorem zsec_elder (e : Int) : Elder zsec e := .inl zsec_read
/-- What is told behind a crash: a beginning, with all that is safe. -/
theorem Kept.opens {E : Int} {r : Rg} {D : Dev} {n : Nat} {R : List (List Int)} {s : Nat} (h : Kept E r D n R s) (hs : r.Sane) (hf : r.from_ + r.size ≤ (n : Int)) (hE0 : 0 ≤ E) (keep : List Bool) {epoch : Int} (hE : E < epoch) :
    Good (D.crash keep) n ∧ ∃ m, m ≤ R.length ∧ s ≤ m ∧ opened (D.crash keep) r.from_ r.size r.head epoch = (recsAt r.head (R.take m), endAt r.head (R.take m)) := by
  obtain ⟨c1, c2, c3⟩ := Good.crash h.sized.laid h.sized.late keep
  refine ⟨c1, ?_⟩
  have hs0 := hs.s0
  have hln := ringSecs_len (D.crash keep) (Rg.mk r.from_ r.size r.head r.head)
  have hsz : (Rg.mk r.from_ r.size r.head r.head).size = r.size := rfl
  have hsc : ∀ q, (Rg.mk r.from_ r.size r.head r.head).sc (D.crash keep) q = r.sc (D.crash keep) q := fun q => rfl
  have hget : ∀ (i : Nat) (x : List Int), (ringSecs (D.crash keep) (Rg.mk r.from_ r.size r.head r.head))[i]? = some x → (i : Int) < r.size ∧ x = r.sc (D.crash keep) (r.head + i) := by
    intro i x hx
    have hi := (List.getElem?_eq_some_iff.1 hx).1
    rw [hln, hsz] at hi
    rw [ringSecs_at _ _ _ (by rw [hsz]; exact hi), hsc] at hx
    exact ⟨by omega, (Option.some.inj hx).symm⟩
  obtain ⟨m, m1, m2, m3⟩ := scan_sure hE R (r.size.toNat + 1) (ringSecs (D.crash keep) (Rg.mk r.from_ r.size r.head r.head)) r.head 0 (by rw [hln, hsz]; omega) hE0 h.ok (sure_elder R _ _ _ 0 (Int.le_refl _) hE0 h.ok (fun i x hx => by
    obtain ⟨hi, rfl⟩ := hget i x hx
    rcases c3 (r.sec (r.head + i)).toNat with e | e
    · have e' : r.sc (D.crash keep) (r.head + i) = D.laid.getD (r.sec (r.head + i)).toNat [] := e
      rw [e']
      rcases h.laid i hi with h1 | h1
      · rw [h1]; exact .inl (zsec_elder 0)
      · exact .inr h1
    · have e' : r.sc (D.crash keep) (r.head + i) = r.sc D (r.head + i) := e
      rw [e']
      rcases h.cur i hi with h1 | h1
      · rw [h1]; exact .inl (zsec_elder 0)
      · exact .inr h1))
  refine ⟨m, m1, m3 s h.most ?_, m2⟩
  apply hasAll_flat
  intro i hi
  obtain ⟨t, ht⟩ := flat_take E R r.head s
  have hfl : i < (flat E r.head R).length := by rw [ht, List.length_append]; omega
  have hfits := h.fits
  rw [ringSecs_at _ _ _ (by rw [hsz]; omega), hsc]
  have hR : (flat E r.head R)[i]? = (flat E r.head (R.take s))[i]? := by rw [ht, List.getElem?_append_left hi]
  rw [← hR]
  obtain ⟨h1, h2⟩ := h.safe i hi
  rcases c3 (r.sec (r.head + i)).toNat with e | e
  · have e' : r.sc (D.crash keep) (r.head + i) = D.laid.getD (r.sec (r.head + i)).toNat [] := e
    rw [e', h2]
  · have e' : r.sc (D.crash keep) (r.head + i) = r.sc D (r.head + i) := e
    rw [e', h1]
end Go.Proofs.YtdeckbdaencjnaaDoor
set_option linter.unusedVariables false
set_option linter.unusedSimpArgs false
namespace Go.Proofs.YtdeckbdaencjnaaDoor
open Go.RowKit
/-- A scan tells a beginning of the records, and why it ends there. -/
theorem scan_sure2 {E epoch : Int} (hE : E < epoch) : ∀ (R : List (List Int)) (f : Nat) (l : List (List Int)) (a last : Int), l.length < f → last ≤ E → AllOk E a R → Sure E epoch R l a last →
    ∃ m last', m ≤ R.length ∧ scan epoch f l a last = (recsAt a (R.take m), endAt a (R.take m)) ∧ HasAll E (R.take m) l a ∧ (last' = last ∨ last' = E) ∧ Ends epoch (l.drop (flat E a (R.take m)).length) (endAt a (R.take m)) last' ∧ (R.take m = [] → last' = last) ∧ (R.take m ≠ [] → last' = E)
  | [], f, l, a, last, hf, hl, hok, hs => by
    obtain ⟨f, rfl⟩ : ∃ f', f = f' + 1 := ⟨f - 1, by omega⟩
    exact ⟨0, last, Nat.le_refl _, by rw [scan_stop f hs]; rfl, trivial, .inl rfl, by have h : Ends epoch l a last := hs; simpa [flat, endAt] using h, fun _ => rfl, fun h => absurd rfl h⟩
  | b :: R, f, l, a, last, hf, hl, hok, hs => by
    obtain ⟨f, rfl⟩ : ∃ f', f = f' + 1 := ⟨f - 1, by omega⟩
    obtain ⟨h1, h2⟩ := hs
    obtain ⟨ho1, ho2⟩ := hok
    have hp := need_pos b.length
    by_cases hh : Has l E a b
    · have hlen := hh.len
      obtain ⟨m, last', hm, hsc, hall, hla, hends, hn1, hn2⟩ := scan_sure2 hE R f (l.drop (need b.length)) (a + need b.length) E (by rw [List.length_drop]; omega) (Int.le_refl _) ho2 (h2 hh)
      have hle : last' = E := by rcases hla with h | h <;> exact h
      refine ⟨m + 1, E, by simpa using hm, ?_, ⟨hh, hall⟩, .inr rfl, ?_, fun h => by simp at h, fun _ => rfl⟩
      · rw [scan_go f (not_ends ho1 hh hE hl), gather_has ho1 hh]
        simp only [Int.toNat_natCast, hsc, List.take_succ_cons, recsAt, endAt]
      · rw [hle] at hends
        simp only [List.take_succ_cons, flat, endAt, List.length_append, cutL_len]
        rw [List.drop_drop] at hends
        exact hends
    · rcases h1 with h1 | h1
      · exact absurd h1 hh
      · exact ⟨0, last, by omega, by rw [scan_stop f h1]; rfl, trivial, .inl rfl, by simpa [flat, endAt] using h1, fun _ => rfl, fun h => absurd rfl h⟩
theorem flat_epoch {E : Int} : ∀ (R : List (List Int)) (a : Int), AllOk E a R → ∀ x ∈ flat E a R, readE x = 0 ∧ (pcOf x).epoch = E
  | [], a, _, x, hx => by simp [flat] at hx
  | b :: R, a, h, x, hx => by
    simp only [flat, List.mem_append] at hx
    rcases hx with hx | hx
    · unfold cutL at hx
      obtain ⟨k, hk, rfl⟩ := List.mem_map.1 hx
      obtain ⟨h1, h2⟩ := h.1.read (List.mem_range.1 hk)
      exact ⟨h1, by rw [h2]; rfl⟩
    · exact flat_epoch R _ h.2 x hx
theorem HasAll.at {E : Int} : ∀ (R : List (List Int)) (l : List (List Int)) (a : Int), HasAll E R l a → ∀ i, i < (flat E a R).length → l[i]? = (flat E a R)[i]?
  | [], l, a, _, i, hi => by simp [flat] at hi
  | b :: R, l, a, h, i, hi => by
    by_cases hlt : i < need b.length
    · rw [need_flat _ _ _ _ _ hlt]
      exact h.1 i hlt
    · obtain ⟨k, rfl⟩ : ∃ k, i = need b.length + k := ⟨i - need b.length, by omega⟩
      have := HasAll.at R _ _ h.2 k (by simp only [flat, List.length_append, cutL_len] at hi; omega)
      rw [List.getElem?_drop] at this
      rw [rest_flat, this]
/-- What the first epoch left: nothing, or one of its pieces. -/
def Of1 (x : List Int) : Prop := readE x ≠ 0 ∨ (pcOf x).epoch = 1
theorem two_ends {t last : Int} {P l F : List (List Int)} (hP : ∀ x ∈ P, Of1 x) (hF : ∀ x ∈ F, readE x = 0 ∧ (pcOf x).epoch = 2) (hc : ∀ (i : Nat) (x : List Int), l[i]? = some x → P[i]? = some x ∨ F[i]? = some x)
    (hl : last ≤ 1) (he : Ends 2 P t last) (hg : (gather l t).e = 0) {x0 : List Int} (h0 : l[0]? = some x0) (hp0 : P[0]? = some x0) : Ends 3 l t last := by
  obtain ⟨x, g1, g2, g3, g4⟩ := gather_head hg
  have hx : x0 = x := by rw [h0] at g1; exact Option.some.inj g1
  subst hx
  have e1 : (gather l t).epoch = 1 := by
    rcases hP x0 (List.mem_of_getElem? hp0) with h | h
    · exact absurd g2 h
    · rw [← g3]; exact h
  have hext : gather P t = gather l t := gather_ext hg (fun j hj => by
    obtain ⟨y, y1, y2, y3⟩ := gather_inv hg j hj
    rcases hc j y y1 with h | h
    · rw [h, y1]
    · have := (hF y (List.mem_of_getElem? h)).2
      have := y3.1
      omega)
  unfold Ends Stops at he ⊢
  rw [hext] at he
  rcases he with h | h | h | h
  · exact absurd hg h
  · omega
  · omega
  · exact .inr (.inr (.inr h))
theorem sure_two {t last : Int} {P l : List (List Int)} {R : List (List Int)} (hP : ∀ x ∈ P, Of1 x) (hok : AllOk 2 t R) (hc : ∀ (i : Nat) (x : List Int), l[i]? = some x → P[i]? = some x ∨ (flat 2 t R)[i]? = some x)
    (hl : last ≤ 1) (he : Ends 2 P t last) : Sure 2 3 R l t last := by
  have hF := flat_epoch R t hok
  cases R with
  | nil =>
    show Ends 3 l t last
    by_cases hg : (gather l t).e = 0
    · obtain ⟨x, g1, _⟩ := gather_head hg
      rcases hc 0 x g1 with h | h
      · exact two_ends hP hF hc hl he hg g1 h
      · simp [flat] at h
    · exact .inl hg
  | cons b R =>
    refine ⟨?_, fun _ => sure_elder R _ _ 2 2 (Int.le_refl _) (Int.le_refl _) hok.2 (fun i x hx => ?_)⟩
    · by_cases hg : (gather l t).e = 0
      · obtain ⟨x0, g1, g2, g3, g4⟩ := gather_head hg
        rcases hc 0 x0 g1 with h | h
        · exact .inr (two_ends hP hF hc hl he hg g1 h)
        · left
          have hp := need_pos b.length
          rw [need_flat _ _ _ _ _ (by omega)] at h
          have hx := Option.some.inj h
          obtain ⟨_, hpc⟩ := hok.1.read (k := 0) (by omega)
          rw [hx] at hpc
          have hcount : (gather l t).count = need b.length := by rw [← g4, hpc]; rfl
          have hep : (gather l t).epoch = 2 := by rw [← g3, hpc]; rfl
          intro k hk
          obtain ⟨x, h1, h2, h3⟩ := gather_inv hg k (by omega)
          rcases hc k x h1 with ho | hf2
          · rcases hP x (List.mem_of_getElem? ho) with ho | ho
            · exact absurd h2 ho
            · have := h3.1
              omega
          · rw [h1, ← hf2, need_flat _ _ _ _ _ hk]
      · exact .inr (.inl hg)
    · rw [List.getElem?_drop] at hx
      rcases hc _ x hx with ho | hf
      · left
        rcases hP x (List.mem_of_getElem? ho) with h | h
        · exact .inl h
        · exact .inr (by omega)
      · rw [rest_flat] at hf
        exact .inr hf
/-- What is told the third time. -/
theorem scan_two {P l R1 R2 : List (List Int)} {last : Int} {f : Nat} (hf : l.length < f) (hlast : (R1 = [] → last = 0) ∧ (R1 ≠ [] → last = 1)) (hok1 : AllOk 1 0 R1) (hok2 : AllOk 2 (endAt 0 R1) R2) (hP : ∀ x ∈ P, Of1 x)
    (h1 : ∀ i, i < (flat 1 0 R1).length → l[i]? = (flat 1 0 R1)[i]?) (he : Ends 2 (P.drop (flat 1 0 R1).length) (endAt 0 R1) last)
    (hc : ∀ (i : Nat) (x : List Int), (l.drop (flat 1 0 R1).length)[i]? = some x → (P.drop (flat 1 0 R1).length)[i]? = some x ∨ (flat 2 (endAt 0 R1) R2)[i]? = some x) :
    ∃ m, m ≤ R2.length ∧ (scan 3 f l 0 0).1 = recsAt 0 R1 ++ recsAt (endAt 0 R1) (R2.take m) ∧ ((∀ i, i < (flat 2 (endAt 0 R1) R2).length → (l.drop (flat 1 0 R1).length)[i]? = (flat 2 (endAt 0 R1) R2)[i]?) → m = R2.length) := by
  obtain ⟨f', last', g1, g2, g3, g4⟩ := scan_has (E := 1) (epoch := 3) (by decide) R1 f l 0 0 hf (by decide) hok1 (hasAll_flat 1 R1 l 0 h1)
  have hll : last' = last := by
    by_cases hR : R1 = []
    · rw [g2 hR, hlast.1 hR]
    · rw [g3 hR, hlast.2 hR]
  have hl1 : last' ≤ 1 := by
    by_cases hR : R1 = []
    · rw [g2 hR]; decide
    · rw [g3 hR]; decide
  rw [← hll] at he
  obtain ⟨m, m1, m2, m3⟩ := scan_sure (E := 2) (epoch := 3) (by decide) R2 f' _ (endAt 0 R1) last' g1 (by omega) hok2 (sure_two (fun x hx => hP x (List.mem_of_mem_drop hx)) hok2 hc hl1 he)
  refine ⟨m, m1, by rw [g4, m2], fun hall => ?_⟩
  have := m3 R2.length (Nat.le_refl _) (by rw [List.take_length]; exact hasAll_flat 2 R2 _ _ hall)
  omega
end Go.Proofs.YtdeckbdaencjnaaDoor
