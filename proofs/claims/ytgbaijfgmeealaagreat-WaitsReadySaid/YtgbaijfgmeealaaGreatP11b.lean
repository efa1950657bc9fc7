/-
  Layer 11, plainly: what holds of transactions, locks and wants whatever is done; who is not stuck goes on. Conditions: none.
-/
import Derived.Test.YtgbaijfgmeealaaGreatW11p
set_option linter.unusedVariables false
set_option linter.unusedSimpArgs false
namespace Go.Proofs.YtgbaijfgmeealaaGreat
open Go.RowKit
theorem hasQ_iff {Q : List Wn} {tx : Int} : hasQ Q tx = true ↔ ∃ x ∈ Q, x.tx = tx := by
  unfold hasQ
  rw [List.any_eq_true]
  simp
theorem hasQ_no {Q : List Wn} {tx : Int} : hasQ Q tx = false ↔ ∀ x ∈ Q, x.tx ≠ tx := by
  unfold hasQ
  rw [List.any_eq_false]
  simp
theorem dropQ_mem {Q : List Wn} {ls : List Int} {x : Wn} : x ∈ dropQ Q ls ↔ x ∈ Q ∧ x.tx ∉ ls := by
  unfold dropQ
  rw [List.mem_filter]
  simp
/-- What holds, whatever is done. -/
structure GrnQ (X : List Tx9) (L : List Lk) (Q : List Wn) : Prop where
  grn : Grn X L
  sane : SaneQ Q
  live : ∀ x ∈ Q, isId X x.tx = true ∧ stateOf X x.tx = 1
theorem GrnQ.nil : GrnQ [] [] [] := ⟨Grn.nil, ⟨by simp, by simp, by decide⟩, by simp⟩
theorem GrnQ.begin {X : List Tx9} {L : List Lk} {Q : List Wn} (h : GrnQ X L Q) {p c : Int} (hp : p = -1 ∨ isId X p = true) (hE : beginE X p = 0) : GrnQ (X ++ [⟨p, 1, c, 0⟩]) L Q :=
  ⟨h.grn.begin hp hE, h.sane, fun x hx => by
    have h1 := h.live x hx
    exact ⟨isId_append.2 (.inl h1.1), by rw [stateOf_append h1.1]; exact h1.2⟩⟩
theorem GrnQ.ask {X : List Tx9} {L : List Lk} {Q : List Wn} (h : GrnQ X L Q) {tx b m : Int} (hb : 0 ≤ b ∧ b < 256) (hm : m = 1 ∨ m = 2) (hE : askE X L tx b m = 0) : GrnQ X (askL L tx b m) Q :=
  ⟨h.grn.ask hb hm hE, h.sane, h.live⟩
theorem GrnQ.commit {X : List Tx9} {L : List Lk} {Q : List Wn} (h : GrnQ X L Q) {id c : Int} (hE : commitE X id = 0) (hn : hasQ Q id = false) : GrnQ (commitX X id c) (passL L id (upOf X id)) Q := by
  have hmem : insL X id liveB = [id] := by
    unfold commitE at hE
    split at hE
    · cases hE
    · split at hE
      · cases hE
      · rename_i h1; simpa using h1
  refine ⟨h.grn.commit hE, h.sane, fun x hx => ?_⟩
  have h1 := h.live x hx
  have h2 := hasQ_no.1 hn x hx
  refine ⟨by unfold isId commitX; rw [endL_len]; exact h1.1, ?_⟩
  unfold commitX
  rw [hmem, endL_state h1.1, if_neg (by simpa using h2)]
  exact h1.2
theorem abort_state {X : List Tx9} {id c a : Int} (ha : isId X a = true) : stateOf (abortX X id c) a = if a ∈ insL X id undoB then 3 else stateOf X a := endL_state ha
theorem abort_id {X : List Tx9} {id c a : Int} : isId (abortX X id c) a = isId X a := by unfold isId abortX; rw [endL_len]
theorem GrnQ.abort {X : List Tx9} {L : List Lk} {Q : List Wn} (h : GrnQ X L Q) {id c : Int} (hE : abortE X id = 0) : GrnQ (abortX X id c) (freeL L (insL X id undoB)) (dropQ Q (insL X id undoB)) := by
  refine ⟨h.grn.abort hE, ⟨fun x hx => h.sane.ok x (dropQ_mem.1 hx).1, List.Pairwise.sublist List.filter_sublist h.sane.one, Nat.le_trans (List.length_filter_le _ _) h.sane.len⟩, fun x hx => ?_⟩
  rw [dropQ_mem] at hx
  have h1 := h.live x hx.1
  exact ⟨by rw [abort_id]; exact h1.1, by rw [abort_state h1.1, if_neg hx.2]; exact h1.2⟩
theorem GrnQ.room {X : List Tx9} {L : List Lk} {Q : List Wn} (h : GrnQ X L Q) {tx : Int} (hi : isId X tx = true) (hn : hasQ Q tx = false) : Q.length < 64 := by
  have h1 := nodup_len 64 (Q.map (·.tx) ++ [tx]) (by
    rw [List.nodup_append]
    refine ⟨List.pairwise_map.2 h.sane.one, by simp, ?_⟩
    intro a ha b hb e
    simp at hb
    subst hb
    obtain ⟨x, hx, rfl⟩ := List.mem_map.1 ha
    exact hasQ_no.1 hn x hx e) (fun a ha => by
    rcases List.mem_append.1 ha with ha | ha
    · obtain ⟨x, hx, rfl⟩ := List.mem_map.1 ha
      exact ⟨(h.sane.ok x hx).t0, (h.sane.ok x hx).t1⟩
    · simp at ha
      subst ha
      have := isId_iff.1 hi
      have := h.grn.len
      omega)
  simp at h1
  omega
theorem GrnQ.add {X : List Tx9} {L : List Lk} {Q : List Wn} (h : GrnQ X L Q) {tx b m : Int} (hb : 0 ≤ b ∧ b < 256) (hm : m = 1 ∨ m = 2) (hi : isId X tx = true) (hs : stateOf X tx = 1) (hn : hasQ Q tx = false) : Wn.Ok ⟨tx, b, m⟩ ∧ GrnQ X L (Q ++ [⟨tx, b, m⟩]) := by
  have hr := h.room hi hn
  have hid := isId_iff.1 hi
  have hl := h.grn.len
  have hok : Wn.Ok ⟨tx, b, m⟩ := ⟨hid.1, by show tx < 64; omega, hb.1, hb.2, hm⟩
  refine ⟨hok, h.grn, ⟨fun x hx => ?_, ?_, by simp; omega⟩, fun x hx => ?_⟩
  · rcases List.mem_append.1 hx with hx | hx
    · exact h.sane.ok x hx
    · simp at hx; subst hx; exact hok
  · rw [List.pairwise_append]
    refine ⟨h.sane.one, by simp, fun a ha c hc => ?_⟩
    simp at hc
    subst hc
    exact hasQ_no.1 hn a ha
  · rcases List.mem_append.1 hx with hx | hx
    · exact h.live x hx
    · simp at hx; subst hx; exact ⟨hi, hs⟩
/-! ### Who waits for whom -/
theorem edges_to {X : List Tx9} {L : List Lk} {Q : List Wn} (h : GrnQ X L Q) {k : Nat} {x : Wn} (hx : Q[k]? = some x) {e : Ed} (he : e ∈ edgesOf X (wtL X L Q) k) : e.from_ = x.tx ∧ isId X e.to_ = true ∧ stateOf X e.to_ = 1 := by
  have ha : (wtL X L Q)[k]? = some ⟨x, againstL X L x.tx x.block x.mode⟩ := by unfold wtL; rw [List.getElem?_map, hx]; rfl
  unfold edgesOf at he
  rw [ha] at he
  simp only at he
  rcases List.mem_append.1 he with he | he
  · unfold edAg at he
    obtain ⟨of, hof, rfl⟩ := List.mem_map.1 he
    have hof := List.mem_of_mem_take hof
    unfold againstL at hof
    obtain ⟨l, hl, rfl⟩ := List.mem_map.1 hof
    have h1 := h.grn.live l (List.mem_filter.1 hl).1
    exact ⟨rfl, h1.1, h1.2⟩
  · unfold edAhead at he
    obtain ⟨b, hb, rfl⟩ := List.mem_map.1 he
    have hb := List.mem_of_mem_take (List.mem_filter.1 hb).1
    unfold wtL at hb
    obtain ⟨y, hy, rfl⟩ := List.mem_map.1 hb
    have h1 := h.live y hy
    exact ⟨rfl, h1.1, h1.2⟩
theorem edL_of {X : List Tx9} {L : List Lk} {Q : List Wn} {k : Nat} (hk : k < Q.length) {e : Ed} (he : e ∈ edgesOf X (wtL X L Q) k) : e ∈ edL X L Q :=
  List.mem_flatten.2 ⟨_, List.mem_map.2 ⟨k, List.mem_range.2 hk, rfl⟩, he⟩
theorem toOf_mem {X : List Tx9} {E : List Ed} {e : Ed} (he : e ∈ E) (hi : isId X e.to_ = true) : e.to_ ∈ toOf X E e.from_ := by
  unfold toOf
  exact List.mem_map.2 ⟨e, List.mem_filter.2 ⟨he, by simp [hi]⟩, rfl⟩
theorem toOf_has {X : List Tx9} {L : List Lk} {Q : List Wn} (h : GrnQ X L Q) {x y : Int} (hy : y ∈ toOf X (edL X L Q) x) : hasQ Q x = true ∧ isId X y = true ∧ stateOf X y = 1 := by
  unfold toOf at hy
  obtain ⟨e, he, rfl⟩ := List.mem_map.1 hy
  obtain ⟨he, hf⟩ := List.mem_filter.1 he
  simp at hf
  unfold edL at he
  obtain ⟨l, hl, hel⟩ := List.mem_flatten.1 he
  obtain ⟨k, hk, rfl⟩ := List.mem_map.1 hl
  have hk := List.mem_range.1 hk
  have h1 := edges_to h (List.getElem?_eq_getElem hk) hel
  exact ⟨hasQ_iff.2 ⟨Q[k], List.getElem_mem hk, by rw [← h1.1]; exact hf.1⟩, h1.2⟩
theorem kidsL_mem {X : List Tx9} {a b : Int} : b ∈ kidsL X a ↔ stateOf X a = 1 ∧ ∃ (k : Nat) (y : Tx9), X[k]? = some y ∧ b = (k : Int) ∧ y.parent = a ∧ y.state = 1 := by
  unfold kidsL
  split
  · rename_i hs
    unfold kidsTo
    rw [List.mem_map]
    constructor
    · rintro ⟨k, hk, rfl⟩
      obtain ⟨hk, hb⟩ := List.mem_filter.1 hk
      unfold kidB at hb
      cases hx : X[k]? with
      | none => rw [hx] at hb; simp at hb
      | some y => rw [hx] at hb; simp at hb; exact ⟨hs, k, y, hx, rfl, hb.1, hb.2⟩
    · rintro ⟨-, k, y, hx, rfl, h1, h2⟩
      refine ⟨k, List.mem_filter.2 ⟨List.mem_range.2 (List.getElem?_eq_some_iff.1 hx).1, ?_⟩, rfl⟩
      unfold kidB
      rw [hx]
      simp [h1, h2]
  · rename_i hs
    simp [hs]
/-- Live, without a kid that is, and it waits for nothing. -/
def LeafQ (X : List Tx9) (Q : List Wn) (id : Int) : Prop := isId X id = true ∧ stateOf X id = 1 ∧ hasQ Q id = false ∧ kidsL X id = []
def stepQ (X : List Tx9) (L : List Lk) (Q : List Wn) : Int → List Int := fun x => kidsL X x ++ toOf X (edL X L Q) x
theorem stuck_mem {X : List Tx9} {E : List Ed} {j : Nat} {a : Int} : a ∈ stuckTo X E j ↔ ∃ k : Nat, k < j ∧ a = (k : Int) ∧ Reach (fun x => kidsL X x ++ toOf X E x) (toOf X E a) a := by
  unfold stuckTo
  rw [List.mem_map]
  constructor
  · rintro ⟨k, hk, rfl⟩
    obtain ⟨hk, hr⟩ := List.mem_filter.1 hk
    exact ⟨k, List.mem_range.1 hk, rfl, by simpa using hr⟩
  · rintro ⟨k, hk, rfl, hr⟩
    exact ⟨k, List.mem_filter.2 ⟨List.mem_range.2 hk, by simpa using hr⟩, rfl⟩
/-- A sequence in a bounded range comes back. -/
theorem comes_back (f : Nat → Int) (n : Nat) (h : ∀ i, 0 ≤ f i ∧ f i < (n : Int)) : ∃ i j, i < j ∧ f i = f j := by
  refine Classical.byContradiction fun hno => ?_
  have hnd : ((List.range (n + 1)).map f).Nodup := by
    refine List.pairwise_map.2 (List.Pairwise.imp ?_ (List.pairwise_lt_range (n := n + 1)))
    intro a b hab e
    exact hno ⟨a, b, hab, e⟩
  have := nodup_len n _ hnd (fun x hx => by
    obtain ⟨i, -, rfl⟩ := List.mem_map.1 hx
    exact h i)
  rw [List.length_map, List.length_range] at this
  omega
theorem goes_on {X : List Tx9} {L : List Lk} {Q : List Wn} (h : GrnQ X L Q) (hne : Q ≠ []) (hst : stuckTo X (edL X L Q) X.length = []) (hre : readyL X L Q = []) : ∃ id, LeafQ X Q id := by
  refine Classical.byContradiction fun hno => ?_
  have hedge : ∀ k, k < Q.length → edgesOf X (wtL X L Q) k ≠ [] := by
    intro k hk he
    have hx := List.getElem?_eq_getElem hk
    have : Q[k] ∈ readyL X L Q := by
      unfold readyL readyTo
      refine List.mem_flatMap.2 ⟨k, List.mem_range.2 hk, ?_⟩
      rw [he, if_pos (show ([] : List Ed).length = 0 from rfl), hx]
      simp
    rw [hre] at this
    simp at this
  let P : Int → Int → Prop := fun a b => (isId X b = true ∧ stateOf X b = 1) ∧ ((hasQ Q a = true ∧ b ∈ toOf X (edL X L Q) a) ∨ (hasQ Q a = false ∧ b ∈ kidsL X a))
  have hP : ∀ a, isId X a = true ∧ stateOf X a = 1 → ∃ b, P a b := by
    intro a ha
    cases hq : hasQ Q a with
    | true =>
      obtain ⟨x, hx, e⟩ := hasQ_iff.1 hq
      obtain ⟨k, hk, hxk⟩ := List.getElem_of_mem hx
      obtain ⟨ed, hed⟩ := List.exists_mem_of_ne_nil _ (hedge k hk)
      have h1 := edges_to h (k := k) (x := x) (by rw [List.getElem?_eq_getElem hk, hxk]) hed
      refine ⟨ed.to_, h1.2, .inl ⟨hq, ?_⟩⟩
      have h2 := toOf_mem (X := X) (edL_of hk hed) h1.2.1
      rw [h1.1, e] at h2
      exact h2
    | false =>
      have hk : kidsL X a ≠ [] := fun e => hno ⟨a, ha.1, ha.2, hq, e⟩
      obtain ⟨b, hb⟩ := List.exists_mem_of_ne_nil _ hk
      obtain ⟨-, k, y, hy, rfl, -, hs⟩ := kidsL_mem.1 hb
      have hkl := (List.getElem?_eq_some_iff.1 hy).1
      exact ⟨_, ⟨isId_iff.2 ⟨Int.natCast_nonneg _, by omega⟩, by rw [stateOf_at hy]; exact hs⟩, .inr ⟨hq, hb⟩⟩
  classical
  let nx : Int → Int := fun a => if ha : isId X a = true ∧ stateOf X a = 1 then Classical.choose (hP a ha) else a
  have hnx : ∀ a, isId X a = true ∧ stateOf X a = 1 → P a (nx a) := by
    intro a ha
    show P a (if ha : _ then _ else _)
    rw [dif_pos ha]
    exact Classical.choose_spec (hP a ha)
  obtain ⟨x0, hx0⟩ := List.exists_mem_of_ne_nil _ hne
  let f : Nat → Int := fun n => Nat.rec x0.tx (fun _ a => nx a) n
  have fs : ∀ n, f (n + 1) = nx (f n) := fun _ => rfl
  have hl : ∀ n, isId X (f n) = true ∧ stateOf X (f n) = 1 := by
    intro n
    induction n with
    | zero => exact h.live x0 hx0
    | succ n ih => rw [fs]; exact (hnx _ ih).1
  have hp : ∀ n, P (f n) (f (n + 1)) := fun n => by rw [fs]; exact hnx _ (hl n)
  obtain ⟨i, j, hij, hf⟩ := comes_back f X.length (fun n => isId_iff.1 (hl n).1)
  have hper : ∀ d, f (i + d) = f (j + d) := by
    intro d
    induction d with
    | zero => exact hf
    | succ d ih => rw [← Nat.add_assoc, ← Nat.add_assoc, fs, fs, ih]
  have hex : ∃ n, i ≤ n ∧ n < j ∧ hasQ Q (f n) = true := by
    refine Classical.byContradiction fun hn => ?_
    have hup : ∀ d, i + d ≤ j → f i + (d : Int) ≤ f (i + d) := by
      intro d
      induction d with
      | zero => intro _; simp
      | succ d ih =>
        intro hd
        have h1 := ih (by omega)
        have h2 := hp (i + d)
        have hq : ¬ hasQ Q (f (i + d)) = true := fun hq => hn ⟨i + d, by omega, by omega, hq⟩
        rcases h2.2 with h3 | h3
        · exact absurd h3.1 hq
        · obtain ⟨-, k, y, hy, e, hpar, -⟩ := kidsL_mem.1 h3.2
          have h4 := h.grn.falls k y hy
          rw [Nat.add_assoc] at e
          have e2 : f (i + (d + 1)) = (k : Int) := e
          rw [e2]
          omega
    have := hup (j - i) (by omega)
    rw [show i + (j - i) = j by omega, ← hf] at this
    omega
  obtain ⟨n, hin, hnj, hq⟩ := hex
  have hr : ∀ d, Reach (fun x => kidsL X x ++ toOf X (edL X L Q) x) (toOf X (edL X L Q) (f n)) (f (n + d + 1)) := by
    intro d
    induction d with
    | zero =>
      rcases (hp n).2 with h3 | h3
      · exact .here h3.2
      · rw [hq] at h3; exact absurd h3.1 (by decide)
    | succ d ih =>
      refine .go ih ?_
      show f (n + d + 1 + 1) ∈ kidsL X (f (n + d + 1)) ++ toOf X (edL X L Q) (f (n + d + 1))
      rcases (hp (n + d + 1)).2 with h3 | h3
      · exact List.mem_append_right _ h3.2
      · exact List.mem_append_left _ h3.2
  have h5 := hr (j - i - 1)
  rw [show n + (j - i - 1) + 1 = j + (n - i) by omega, ← hper, show i + (n - i) = n by omega] at h5
  have h6 := isId_iff.1 (hl n).1
  have : f n ∈ stuckTo X (edL X L Q) X.length := stuck_mem.2 ⟨(f n).toNat, by omega, by omega, h5⟩
  rw [hst] at this
  simp at this
/-! ### Who is given up -/
theorem foldl_max_mem : ∀ (l : List Int) (a : Int), l.foldl max a = a ∨ l.foldl max a ∈ l
  | [], a => .inl rfl
  | b :: l, a => by
    rw [List.foldl_cons]
    rcases foldl_max_mem l (max a b) with h | h
    · rw [h]
      rcases Int.le_total a b with h1 | h1
      · rw [Int.max_eq_right h1]; exact .inr List.mem_cons_self
      · rw [Int.max_eq_left h1]; exact .inl rfl
    · exact .inr (List.mem_cons_of_mem _ h)
theorem maxI_mem {l : List Int} (h : l ≠ []) : maxI l ∈ l := by
  cases l with
  | nil => exact absurd rfl h
  | cons a l =>
    unfold maxI
    rw [List.tail_cons, List.headD_cons]
    rcases foldl_max_mem l a with h1 | h1
    · rw [h1]; exact List.mem_cons_self
    · exact List.mem_cons_of_mem _ h1
theorem victim_none {X : List Tx9} {L : List Lk} {Q : List Wn} (h : victimI X L Q < 0) : stuckTo X (edL X L Q) X.length = [] := by
  unfold victimI at h
  split at h
  · rename_i h0; exact List.eq_nil_of_length_eq_zero h0
  · rename_i h0
    have hm := maxI_mem (l := stuckTo X (edL X L Q) X.length) (fun e => h0 (by rw [e]; rfl))
    obtain ⟨k, -, e, -⟩ := stuck_mem.1 hm
    omega
theorem victim_is {X : List Tx9} {L : List Lk} {Q : List Wn} (h : GrnQ X L Q) (hv : ¬ victimI X L Q < 0) : isId X (victimI X L Q) = true ∧ stateOf X (victimI X L Q) = 1 ∧ hasQ Q (victimI X L Q) = true := by
  unfold victimI at hv ⊢
  split at hv
  · exact absurd (by decide) hv
  · rename_i h0
    rw [if_neg h0]
    have hm := maxI_mem (l := stuckTo X (edL X L Q) X.length) (fun e => h0 (by rw [e]; rfl))
    obtain ⟨k, hk, e, hr⟩ := stuck_mem.1 hm
    have hne : toOf X (edL X L Q) (maxI (stuckTo X (edL X L Q) X.length)) ≠ [] := by
      intro hn
      rw [hn] at hr
      have : ∀ y, Reach (fun x => kidsL X x ++ toOf X (edL X L Q) x) [] y → False := by
        intro y hy
        induction hy with
        | here h => simp at h
        | go _ _ ih => exact ih
      exact this _ hr
    obtain ⟨y, hy⟩ := List.exists_mem_of_ne_nil _ hne
    have h1 := (toOf_has h hy).1
    obtain ⟨x, hx, ex⟩ := hasQ_iff.1 h1
    have h2 := h.live x hx
    rw [ex] at h2
    exact ⟨h2.1, h2.2, h1⟩
def liveN (X : List Tx9) : Nat := (X.filter fun x => decide (x.state = 1)).length
theorem liveN_le (X : List Tx9) : liveN X ≤ X.length := List.length_filter_le _ _
theorem liveN_zero {X : List Tx9} {L : List Lk} {Q : List Wn} (h : GrnQ X L Q) (h0 : liveN X = 0) : Q = [] := by
  refine Classical.byContradiction fun hne => ?_
  obtain ⟨x, hx⟩ := List.exists_mem_of_ne_nil _ hne
  obtain ⟨h1, h2⟩ := h.live x hx
  have h3 := isId_iff.1 h1
  obtain ⟨n, hn⟩ : ∃ n : Nat, x.tx = (n : Int) := ⟨x.tx.toNat, by omega⟩
  have hl : n < X.length := by omega
  rw [hn, stateOf_at (List.getElem?_eq_getElem hl)] at h2
  unfold liveN at h0
  have h4 : X[n] ∈ X.filter fun x => decide (x.state = 1) := List.mem_filter.2 ⟨List.getElem_mem hl, by simp [h2]⟩
  rw [List.eq_nil_of_length_eq_zero h0] at h4
  simp at h4
theorem filter_fewer {α : Type} {p q : α → Bool} : ∀ (l : List α), (∀ x ∈ l, q x = true → p x = true) → (l.filter q).length ≤ (l.filter p).length
  | [], _ => Nat.le_refl _
  | a :: l, h => by
    have ih := filter_fewer l (fun x hx => h x (List.mem_cons_of_mem _ hx))
    have ha := h a List.mem_cons_self
    rw [List.filter_cons, List.filter_cons]
    cases hq : q a with
    | true => rw [ha hq]; simp; exact ih
    | false => cases p a <;> simp <;> omega
theorem live_count : ∀ (X Y : List Tx9), X.length = Y.length → (∀ (i : Nat) (x y : Tx9), X[i]? = some x → Y[i]? = some y → y.state = 1 → x.state = 1) → liveN Y ≤ liveN X
  | [], [], _, _ => Nat.le_refl _
  | x :: X, y :: Y, hl, h => by
    have ih := live_count X Y (by simpa using hl) (fun i x y h1 h2 => h (i + 1) x y (by simpa using h1) (by simpa using h2))
    have h0 := h 0 x y rfl rfl
    unfold liveN at ih ⊢
    rw [List.filter_cons, List.filter_cons]
    by_cases hy : y.state = 1
    · simp [hy, h0 hy, ih]
    · by_cases hx : x.state = 1
      · simp [hy, hx]; omega
      · simp [hy, hx, ih]
theorem live_fewer : ∀ (X Y : List Tx9) (k : Nat), X.length = Y.length → (∀ (i : Nat) (x y : Tx9), X[i]? = some x → Y[i]? = some y → y.state = 1 → x.state = 1) → (∃ x y, X[k]? = some x ∧ Y[k]? = some y ∧ x.state = 1 ∧ y.state ≠ 1) → liveN Y < liveN X
  | [], _, k, _, _, ⟨x, y, h, _⟩ => by simp at h
  | x :: X, [], _, hl, _, _ => by simp at hl
  | x :: X, y :: Y, 0, hl, h, ⟨x', y', h1, h2, h3, h4⟩ => by
    simp at h1 h2
    subst h1; subst h2
    have ih := live_count X Y (by simpa using hl) (fun i x y h1 h2 => h (i + 1) x y (by simpa using h1) (by simpa using h2))
    unfold liveN at ih ⊢
    rw [List.filter_cons, List.filter_cons]
    simp [h3, h4]
    omega
  | x :: X, y :: Y, k + 1, hl, h, ⟨x', y', h1, h2, h3, h4⟩ => by
    have ih := live_fewer X Y k (by simpa using hl) (fun i x y h1 h2 => h (i + 1) x y (by simpa using h1) (by simpa using h2)) ⟨x', y', by simpa using h1, by simpa using h2, h3, h4⟩
    have h0 := h 0 x y rfl rfl
    unfold liveN at ih ⊢
    rw [List.filter_cons, List.filter_cons]
    by_cases hy : y.state = 1
    · simp [hy, h0 hy]; omega
    · by_cases hx : x.state = 1
      · simp [hy, hx]; omega
      · simp [hy, hx]; omega
theorem abort_self {X : List Tx9} {L : List Lk} (h : Grn X L) {v : Int} (hi : isId X v = true) (hs : stateOf X v = 1) : v ∈ insL X v undoB := by
  obtain ⟨n, rfl⟩ : ∃ n : Nat, v = (n : Int) := ⟨v.toNat, by have := isId_iff.1 hi; omega⟩
  have hn : n < X.length := by have := isId_iff.1 hi; omega
  have hx := List.getElem?_eq_getElem hn
  refine insL_mem.2 ⟨n, _, hx, rfl, ?_, in_self h.falls hi⟩
  rw [stateOf_at hx] at hs
  simp [undoB, hs]
theorem abort_fewer {X : List Tx9} {L : List Lk} (h : Grn X L) {v c : Int} (hi : isId X v = true) (hs : stateOf X v = 1) : liveN (abortX X v c) < liveN X := by
  have hself := abort_self h hi hs
  obtain ⟨n, rfl⟩ : ∃ n : Nat, v = (n : Int) := ⟨v.toNat, by have := isId_iff.1 hi; omega⟩
  have hn : n < X.length := by have := isId_iff.1 hi; omega
  have hx := List.getElem?_eq_getElem hn
  refine live_fewer X _ n (by unfold abortX; rw [endL_len]) (fun i x y h1 h2 h3 => ?_) ⟨X[n], endT X[n] 3 (c + 1), hx, ?_, ?_, ?_⟩
  · unfold abortX at h2
    rw [endL_at, h1] at h2
    simp only [Option.map_some, Option.some.injEq] at h2
    subst h2
    split at h3
    · exact absurd h3 (by show ¬ (3 : Int) = 1; decide)
    · exact h3
  · unfold abortX
    rw [endL_at, hx]
    simp only [Option.map_some, Option.some.injEq]
    rw [if_pos (by rw [List.contains_iff_mem]; exact hself)]
  · rw [stateOf_at hx] at hs; exact hs
  · show ¬ (3 : Int) = 1
    decide
theorem drop_has {Q : List Wn} {ls : List Int} {v : Int} (h : v ∈ ls) : hasQ (dropQ Q ls) v = false := hasQ_no.2 fun x hx e => (dropQ_mem.1 hx).2 (e ▸ h)
/-! ### Who is ready -/
theorem ready_ask {X : List Tx9} {L : List Lk} {Q : List Wn} (h : GrnQ X L Q) {k : Nat} {x : Wn} (hx : Q[k]? = some x) (he : edgesOf X (wtL X L Q) k = []) : askE X L x.tx x.block x.mode = 0 := by
  have ha : (wtL X L Q)[k]? = some ⟨x, againstL X L x.tx x.block x.mode⟩ := by unfold wtL; rw [List.getElem?_map, hx]; rfl
  unfold edgesOf at he
  rw [ha] at he
  simp only at he
  have h1 := (List.append_eq_nil_iff.1 he).1
  unfold edAg at h1
  rw [List.take_length, List.map_eq_nil_iff] at h1
  have h2 := h.live x (List.mem_of_getElem? hx)
  have h3 := isId_iff.1 h2.1
  unfold askE
  rw [if_neg (by omega), if_neg (by simpa using h2.2), if_neg (by simpa using h1)]
theorem first_edges {X : List Tx9} {L : List Lk} {Q : List Wn} {k : Nat} {x : Wn} (hx : Q[k]? = some x) (hf : ∀ j y, j < k → Q[j]? = some y → y.block ≠ x.block) (hag : againstL X L x.tx x.block x.mode = []) : edgesOf X (wtL X L Q) k = [] := by
  have ha : (wtL X L Q)[k]? = some ⟨x, againstL X L x.tx x.block x.mode⟩ := by unfold wtL; rw [List.getElem?_map, hx]; rfl
  unfold edgesOf
  rw [ha]
  simp only
  rw [hag]
  unfold edAg edAhead
  simp only [List.length_nil, List.take_zero, List.map_nil, List.nil_append]
  rw [List.map_eq_nil_iff, List.filter_eq_nil_iff]
  intro b hb
  obtain ⟨j, hj, e⟩ := List.mem_take_iff_getElem.1 hb
  subst e
  have hjk : j < k := by omega
  have hjl : j < (wtL X L Q).length := by omega
  have hjQ : j < Q.length := by unfold wtL at hjl; rw [List.length_map] at hjl; exact hjl
  have h1 := hf j Q[j] hjk (List.getElem?_eq_getElem hjQ)
  have e2 : (wtL X L Q)[j].w = Q[j] := by
    have h5 : (wtL X L Q)[j]? = some ⟨Q[j], againstL X L Q[j].tx Q[j].block Q[j].mode⟩ := by unfold wtL; rw [List.getElem?_map, List.getElem?_eq_getElem hjQ]; rfl
    rw [List.getElem?_eq_getElem hjl] at h5
    rw [Option.some.inj h5]
  unfold holdsB
  rw [e2, if_pos (.inl h1)]
  decide
theorem ready_next {X : List Tx9} {L : List Lk} {Q : List Wn} (hs : SaneQ Q) {i : Nat} {x z : Wn} (hx : Q[i]? = some x) (hz : (readyL X L Q)[(readyTo X L Q i).length]? = some z) : z = x ↔ edgesOf X (wtL X L Q) i = [] := by
  have hi := (List.getElem?_eq_some_iff.1 hx).1
  have hsplit : readyL X L Q = readyTo X L Q (i + 1) ++ (List.range' (i + 1) (Q.length - (i + 1))).flatMap fun k => if (edgesOf X (wtL X L Q) k).length = 0 then (Q[k]?).toList else [] := by
    unfold readyL readyTo
    rw [← List.flatMap_append]
    congr 1
    rw [List.range_eq_range', List.range_eq_range']
    have := List.range'_append (s := 0) (m := i + 1) (n := Q.length - (i + 1)) (step := 1)
    simp at this
    rw [show i + 1 + (Q.length - (i + 1)) = Q.length by omega] at this
    exact this.symm
  rw [hsplit, readyTo_succ X L Q hx] at hz
  by_cases he : (edgesOf X (wtL X L Q) i).length = 0
  · rw [if_pos he, List.append_assoc, List.getElem?_append_right (Nat.le_refl _), Nat.sub_self] at hz
    simp at hz
    exact ⟨fun _ => List.eq_nil_of_length_eq_zero he, fun _ => hz.symm⟩
  · rw [if_neg he, List.append_nil, List.getElem?_append_right (Nat.le_refl _), Nat.sub_self] at hz
    constructor
    · intro e
      subst e
      have hm := List.mem_of_getElem? hz
      obtain ⟨k, hk, hzk⟩ := List.mem_flatMap.1 hm
      have hk := List.mem_range'.1 hk
      obtain ⟨d, hd, rfl⟩ := hk
      split at hzk
      · rw [Option.mem_toList] at hzk
        have h1 := List.pairwise_iff_getElem.1 hs.one i (i + 1 + 1 * d) hi (by omega) (by omega)
        rw [List.getElem?_eq_getElem hi] at hx
        rw [List.getElem?_eq_getElem (by omega)] at hzk
        cases hx
        have e3 : Q[i + 1 + 1 * d] = Q[i] := by simpa using hzk
        rw [e3] at h1
        exact absurd rfl h1
      · simp at hzk
    · intro e
      exact absurd (by rw [e]; rfl) he
end Go.Proofs.YtgbaijfgmeealaaGreat
