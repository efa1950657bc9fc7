/-
  A rule for regions that draw their order, whose operations read, reckon, call and make memory, but change nothing that stood (but blocks of S): each operation is run once, in whatever later world. Conditions: none.
-/
import Derived.Test.YtgbaijfgmeealaaGreatHeap
import Derived.Orders
import Derived.KernelRfl
set_option linter.unusedVariables false
set_option linter.unusedSimpArgs false
namespace Go.Proofs.YtgbaijfgmeealaaGreat
open Go.RowKit

/-- The frame, the masked slots filled anew. -/
def fillL : List Value → List Bool → Nat → (Nat → Value) → List Value
  | v :: vs, true :: bs, t, us => us t :: fillL vs bs (t + 1) us
  | v :: vs, false :: bs, t, us => v :: fillL vs bs (t + 1) us
  | vs, [], _, _ => vs
  | [], _, _, _ => []

theorem fillL_length : ∀ (vs : List Value) (bs : List Bool) (t : Nat) (us : Nat → Value), (fillL vs bs t us).length = vs.length
  | v :: vs, true :: bs, t, us => by simp [fillL, fillL_length vs bs]
  | v :: vs, false :: bs, t, us => by simp [fillL, fillL_length vs bs]
  | [], [], _, _ => rfl
  | v :: vs, [], _, _ => rfl
  | [], b :: bs, _, _ => by simp [fillL]

theorem fillL_set : ∀ (vs : List Value) (bs : List Bool) (t : Nat) (us : Nat → Value) (d : Nat) (v : Value), bs[d]? = some true → (fillL vs bs t us).set d v = fillL vs bs t (fun s => if s = t + d then v else us s)
  | [], bs, t, us, d, v, h => by
    cases bs <;> simp [fillL]
  | u :: vs, [], t, us, d, v, h => by simp at h
  | u :: vs, b :: bs, t, us, 0, v, h => by
    simp at h
    subst h
    simp only [fillL, List.set_cons_zero, Nat.add_zero, if_true]
    congr 1
    exact fillL_congr vs bs (t + 1) _ _ (fun s hs => by rw [if_neg (by omega)])
  | u :: vs, b :: bs, t, us, d + 1, v, h => by
    have h' : bs[d]? = some true := by simpa using h
    have ih := fillL_set vs bs (t + 1) us d v h'
    have e : (fun s => if s = t + 1 + d then v else us s) = (fun s => if s = t + (d + 1) then v else us s) := by funext s; rw [show t + 1 + d = t + (d + 1) by omega]
    cases b
    · simp only [fillL, List.set_cons_succ, ih, e]
    · simp only [fillL, List.set_cons_succ, ih, e]
      rw [if_neg (by omega)]
where
  fillL_congr : ∀ (vs : List Value) (bs : List Bool) (t : Nat) (f g : Nat → Value), (∀ s, t ≤ s → f s = g s) → fillL vs bs t f = fillL vs bs t g
    | [], bs, t, f, g, h => by cases bs <;> simp [fillL]
    | v :: vs, [], t, f, g, h => by simp [fillL]
    | v :: vs, b :: bs, t, f, g, h => by
      have ih := fillL_congr vs bs (t + 1) f g (fun s hs => h s (by omega))
      cases b
      · simp only [fillL, ih]
      · simp only [fillL, ih, h t (Nat.le_refl _)]

/-- As it stands, filled with itself. -/
theorem fillL_self : ∀ (vs : List Value) (bs : List Bool) (t : Nat) (us : Nat → Value), (∀ d v, vs[d]? = some v → us (t + d) = v) → fillL vs bs t us = vs
  | [], bs, t, us, h => by cases bs <;> simp [fillL]
  | v :: vs, [], t, us, h => by simp [fillL]
  | v :: vs, b :: bs, t, us, h => by
    have ih := fillL_self vs bs (t + 1) us (fun d u hu => by rw [show t + 1 + d = t + (d + 1) by omega]; exact h (d + 1) u (by simpa using hu))
    have h0 := h 0 v (by simp)
    cases b
    · simp only [fillL, ih]
    · simp only [fillL, ih]; rw [← h0]; rfl

/-- What is told of an operation's value, wherever it goes on. -/
structure Told (S : Nat → Prop) where
  p : Value → World → Prop
  up : ∀ v w w', p v w → Fr S w w' → p v w'
/-- The value itself. -/
def Told.eq {S : Nat → Prop} (c : Value) : Told S := ⟨fun v _ => v = c, fun _ _ _ h _ => h⟩
/-- Nothing is told. -/
def Told.any {S : Nat → Prop} : Told S := ⟨fun _ _ => True, fun _ _ _ h _ => h⟩

section
variable {P : Program} {S : Nat → Prop}

/-- What stands of those that an operation waits for. -/
def depsHold (ops : List Oper) (V : List (Told S)) (us : Nat → Value) (w : World) : List Edge → Prop
  | [] => True
  | e :: es => (match Region.binds .any e, ops[e.on]?, V[e.on]? with
      | true, some o, some T => (match o.dst with | some d => T.p (us d) w | none => True)
      | _, _, _ => True) ∧ depsHold ops V us w es

/-- Each operation, run in whatever later world. -/
def stepsHold (P : Program) (S : Nat → Prop) (Q : Exit → Act → World → Prop) (ops : List Oper) (V : List (Told S)) (us : Nat → Value) (a : Act) (w : World) : List Oper → List (Told S) → Prop
  | o :: os, T :: Ts => (∀ w', Fr S w w' → depsHold ops V us w' o.after.toList → ∀ K : Act → World → Prop, (∀ v w'', T.p v w'' → Fr S w' w'' → K (a.put o.dst v) w'') →
      if Region.wanted o (yielded ops.toArray a.tmps) = true then Oper.wp P o a w' K Q else K (a.put o.dst undef) w') ∧ stepsHold P S Q ops V us a w os Ts
  | _, _ => True

/-- What is told of all, at the end. -/
def allHold (us : Nat → Value) (w : World) : List Oper → List (Told S) → Prop
  | o :: os, T :: Ts => (match o.dst with | some d => T.p (us d) w | none => True) ∧ allHold us w os Ts
  | _, _ => True

/-- What is checked of the region's form: edges go back; each writes a masked slot of its own. -/
def freeB (ops : List Oper) (mask : List Bool) (n : Nat) : Bool :=
  (List.range ops.length).all (fun i => match ops[i]? with
    | some o => (o.after.toList.all fun e => !Region.binds .any e || decide (e.on < i)) &&
      (match o.dst with
        | some d => decide (d < n) && (mask[d]? == some true) && ((List.range ops.length).all fun j => j == i || (match ops[j]? with | some oj => oj.dst != some d | none => true))
        | none => true)
    | none => true)

theorem freeB_spec {ops : List Oper} {mask : List Bool} {n : Nat} (h : freeB ops mask n = true) {i : Nat} {o : Oper} (ho : ops[i]? = some o) :
    (∀ e ∈ o.after, Region.binds .any e = true → e.on < i) ∧ ∀ d, o.dst = some d → d < n ∧ mask[d]? = some true ∧ ∀ j oj, ops[j]? = some oj → j ≠ i → oj.dst ≠ some d := by
  have hi : i < ops.length := (List.getElem?_eq_some_iff.1 ho).1
  have h1 := List.all_eq_true.1 h i (List.mem_range.2 hi)
  simp only [ho, Bool.and_eq_true] at h1
  obtain ⟨h2, h3⟩ := h1
  refine ⟨fun e he hb => ?_, fun d hd => ?_⟩
  · have := List.all_eq_true.1 h2 e (by simpa using he)
    simpa [hb] using this
  · simp only [hd, Bool.and_eq_true, decide_eq_true_eq, beq_iff_eq] at h3
    obtain ⟨⟨h4, h5⟩, h6⟩ := h3
    refine ⟨h4, h5, fun j oj hj hne => ?_⟩
    have hjl : j < ops.length := (List.getElem?_eq_some_iff.1 hj).1
    have := List.all_eq_true.1 h6 j (List.mem_range.2 hjl)
    simpa [hj, hne] using this

theorem steps_get {Q : Exit → Act → World → Prop} {ops : List Oper} {V : List (Told S)} {us : Nat → Value} {a : Act} {w : World} : ∀ (os : List Oper) (Ts : List (Told S)) (i : Nat) (o : Oper) (T : Told S), stepsHold P S Q ops V us a w os Ts → os[i]? = some o → Ts[i]? = some T →
    ∀ w', Fr S w w' → depsHold ops V us w' o.after.toList → ∀ K : Act → World → Prop, (∀ v w'', T.p v w'' → Fr S w' w'' → K (a.put o.dst v) w'') →
      if Region.wanted o (yielded ops.toArray a.tmps) = true then Oper.wp P o a w' K Q else K (a.put o.dst undef) w'
  | [], _, _, _, _, _, h, _ => by simp at h
  | _ :: _, [], _, _, _, _, _, h => by simp at h
  | o' :: os, T' :: Ts, 0, o, T, h, ho, hT => by
    simp at ho hT
    subst ho; subst hT
    exact h.1
  | o' :: os, T' :: Ts, i + 1, o, T, h, ho, hT => steps_get os Ts i o T h.2 (by simpa using ho) (by simpa using hT)

theorem all_of {us : Nat → Value} {w : World} : ∀ (os : List Oper) (Ts : List (Told S)), (∀ (i : Nat) (o : Oper) (T : Told S) (d : Tmp), os[i]? = some o → Ts[i]? = some T → o.dst = some d → T.p (us d) w) → allHold us w os Ts
  | [], _, _ => by simp [allHold]
  | _ :: _, [], _ => by simp [allHold]
  | o :: os, T :: Ts, h => by
    refine ⟨?_, all_of os Ts (fun i o' T' d h1 h2 h3 => h (i + 1) o' T' d (by simpa using h1) (by simpa using h2) h3)⟩
    cases hd : o.dst with
    | none => trivial
    | some d => exact h 0 o T d (by simp) (by simp) hd

theorem deps_of {ops : List Oper} {V : List (Told S)} {us : Nat → Value} {w : World} : ∀ (es : List Edge), (∀ e ∈ es, Region.binds .any e = true → ∀ (o : Oper) (T : Told S) (d : Tmp), ops[e.on]? = some o → V[e.on]? = some T → o.dst = some d → T.p (us d) w) → depsHold ops V us w es
  | [], _ => trivial
  | e :: es, h => by
    refine ⟨?_, deps_of es (fun e' he' => h e' (List.mem_cons_of_mem _ he'))⟩
    cases hb : Region.binds .any e with
    | false => trivial
    | true =>
      cases ho : ops[e.on]? with
      | none => trivial
      | some o =>
        cases hT : V[e.on]? with
        | none => trivial
        | some T =>
          simp only
          split
          · rename_i d hd; exact h e (by simp) hb o T d ho hT hd
          · trivial

/-- How many have not come up. -/
def unlisted (listed : Array Bool) : Nat := listed.toList.count false

theorem unlisted_set {listed : Array Bool} {i : Nat} (h : listed.getD i true = false) : unlisted (listed.setIfInBounds i true) + 1 = unlisted listed := by
  have hi : i < listed.size := by
    rcases Nat.lt_or_ge i listed.size with h' | h'
    · exact h'
    · simp [Array.getElem?_eq_none h'] at h
  have hv : listed.toList[i]'(by simpa using hi) = false := by simpa [hi] using h
  unfold unlisted
  rw [Array.toList_setIfInBounds, List.count_set (by simpa using hi)]
  have : 0 < listed.toList.count false := List.count_pos_iff.2 (by rw [← hv]; exact List.getElem_mem _)
  rw [hv]
  simp only [beq_self_eq_true, if_true]
  rw [if_neg (by decide)]
  omega

theorem ready_nil_all {ops : List Oper} {mask : List Bool} {n : Nat} (hB : freeB ops mask n = true) {listed : Array Bool} (hs : listed.size = ops.length) (h : Region.ready .any ops.toArray listed = []) : ∀ i, i < ops.length → listed.getD i true = true := by
  intro i
  induction i using Nat.strongRecOn with
  | _ i ih =>
    intro hi
    cases hl : listed.getD i true with
    | true => rfl
    | false =>
      exfalso
      have : i ∈ Region.ready .any ops.toArray listed := by
        refine mem_ready.2 ⟨hl, ops[i], by simp [hi], fun e he hb => ?_⟩
        have hlt := (freeB_spec hB (List.getElem?_eq_getElem hi)).1 e he hb
        have := ih e.on hlt (by omega)
        have hel : e.on < listed.size := by omega
        simpa [hel] using this
      rw [h] at this
      cases this

theorem wpAny_free {Q : Exit → Act → World → Prop} {l : List Oper} {tm : List Value} {df : List Deferred} {w : World} (mask : List Bool) (V : List (Told S)) (hB : freeB l mask tm.length = true) (hVl : V.length = l.length)
    (hstep : ∀ us : Nat → Value, stepsHold P S Q l V us ⟨(fillL tm mask 0 us).toArray, df⟩ w l V)
    (hfin : ∀ us w', Fr S w w' → allHold us w' l V → Q .normal ⟨(fillL tm mask 0 us).toArray, df⟩ w')
    (htr : ∀ a b c : World, Fr S w a → Fr S a b → Fr S w b) :
    ∀ (fuel : Nat) (listed : Array Bool) (us : Nat → Value) (w' : World), listed.size = l.length → unlisted listed ≤ fuel → Fr S w w' →
      (∀ (i : Nat) (o : Oper) (T : Told S) (d : Tmp), l[i]? = some o → V[i]? = some T → o.dst = some d → listed.getD i true = true → T.p (us d) w') →
      wpAny P .any l.toArray Q fuel listed ⟨(fillL tm mask 0 us).toArray, df⟩ w' := by
  intro fuel
  have fin : ∀ (listed : Array Bool) (us : Nat → Value) (w' : World), listed.size = l.length → Fr S w w' →
      (∀ (i : Nat) (o : Oper) (T : Told S) (d : Tmp), l[i]? = some o → V[i]? = some T → o.dst = some d → listed.getD i true = true → T.p (us d) w') → (∀ i, i < l.length → listed.getD i true = true) → Q .normal ⟨(fillL tm mask 0 us).toArray, df⟩ w' := by
    intro listed us w' hs hf hv hall
    refine hfin us w' hf (all_of l V fun i o T d ho hT hd => hv i o T d ho hT hd (hall i (List.getElem?_eq_some_iff.1 ho).1))
  induction fuel with
  | zero =>
    intro listed us w' hs hu hf hv
    have hall : ∀ i, i < l.length → listed.getD i true = true := by
      intro i hi
      have hc : listed.toList.count false = 0 := by unfold unlisted at hu; omega
      have hn := List.count_eq_zero.1 hc
      have hil : i < listed.size := by omega
      cases hb : listed[i]'hil with
      | true => simp [hil, hb]
      | false => exact absurd (by rw [← hb]; exact List.getElem_mem (l := listed.toList) (by simpa using hil)) hn
    have hr : Region.ready .any l.toArray listed = [] := by
      cases hr : Region.ready .any l.toArray listed with
      | nil => rfl
      | cons i is =>
        obtain ⟨h1, o, ho, _⟩ := mem_ready.1 (show i ∈ Region.ready .any l.toArray listed by rw [hr]; simp)
        have hi : i < l.length := by
          have := (Array.getElem?_eq_some_iff.1 ho).1
          simpa using this
        rw [hall i hi] at h1
        cases h1
    exact ⟨hr, fin listed us w' hs hf hv hall⟩
  | succ fuel ih =>
    intro listed us w' hs hu hf hv
    refine ⟨fun hr => fin listed us w' hs hf hv (ready_nil_all hB hs hr), fun i hi => ?_⟩
    obtain ⟨h1, o, ho, hdep⟩ := mem_ready.1 hi
    have ho' : l[i]? = some o := by simpa using ho
    have hil : i < l.length := (List.getElem?_eq_some_iff.1 ho').1
    obtain ⟨T, hT⟩ : ∃ T, V[i]? = some T := ⟨V[i]'(by omega), List.getElem?_eq_getElem _⟩
    have hd : depsHold l V us w' o.after.toList := deps_of _ (fun e he hb oj Tj d hoj hTj hdj => hv e.on oj Tj d hoj hTj hdj (by
      have := hdep e (by simpa using he) hb
      have hel : e.on < listed.size := by
        have := (List.getElem?_eq_some_iff.1 hoj).1
        omega
      simpa [hel] using this))
    have hgo := steps_get l V i o T (hstep us) ho' hT w' hf hd (fun a' w'' => wpAny P .any l.toArray Q fuel (listed.setIfInBounds i true) a' w'') (by
      intro v w'' hp hf2
      have hv' : ∀ us' : Nat → Value, (∀ d, o.dst = some d → us' d = v) → (∀ d, o.dst ≠ some d → us' d = us d) →
          ∀ (j : Nat) (oj : Oper) (Tj : Told S) (d : Tmp), l[j]? = some oj → V[j]? = some Tj → oj.dst = some d → (listed.setIfInBounds i true).getD j true = true → Tj.p (us' d) w'' := by
        intro us' h2 h3 j oj Tj d hoj hTj hdj hlj
        by_cases hji : j = i
        · subst hji
          rw [ho'] at hoj; cases hoj
          rw [hT] at hTj; cases hTj
          rw [h2 d hdj]; exact hp
        · have hne : o.dst ≠ some d := fun e => (freeB_spec hB ho').2 d e |>.2.2 j oj hoj hji hdj
          rw [h3 d hne]
          refine Tj.up _ _ _ (hv j oj Tj d hoj hTj hdj ?_) hf2
          rwa [getD_set_ne true (Ne.symm hji)] at hlj
      have hs' : (listed.setIfInBounds i true).size = l.length := by simpa using hs
      have hu' : unlisted (listed.setIfInBounds i true) ≤ fuel := by have := unlisted_set h1; omega
      cases hdst : o.dst with
      | none => exact ih _ us w'' hs' hu' (htr w' w'' w'' hf hf2) (hv' us (fun d e => by rw [hdst] at e; cases e) (fun _ _ => rfl))
      | some d0 =>
        obtain ⟨hd0, hm0, _⟩ := (freeB_spec hB ho').2 d0 hdst
        have hset : (Act.put ⟨(fillL tm mask 0 us).toArray, df⟩ (some d0) v) = ⟨(fillL tm mask 0 (fun s => if s = d0 then v else us s)).toArray, df⟩ := by
          unfold Act.put
          simp only [List.setIfInBounds_toArray]
          rw [fillL_set tm mask 0 us d0 v hm0]
          simp
        rw [hset]
        refine ih _ _ w'' hs' hu' (htr w' w'' w'' hf hf2) (hv' _ (fun d e => ?_) (fun d e => ?_))
        · rw [hdst] at e; cases e; simp
        · rw [if_neg (fun e1 => e (by rw [e1]; exact hdst))])
    unfold wpOp
    simp only [ho]
    split
    · rename_i hw
      rw [if_pos hw] at hgo
      exact .inl hgo
    · rename_i hw
      rw [if_neg hw] at hgo
      exact hgo

/-- The rule. -/
theorem wp_region_free {Q : Exit → Act → World → Prop} {id : Nat} {l : List Oper} {tm : List Value} {df : List Deferred} {w : World} (mask : List Bool) (V : List (Told S)) (hm : P.follows .mixedOrders = true) (hB : freeB l mask tm.length = true) (hVl : V.length = l.length)
    (hstep : ∀ us : Nat → Value, stepsHold P S Q l V us ⟨(fillL tm mask 0 us).toArray, df⟩ w l V)
    (hfin : ∀ us w', Fr S w w' → allHold us w' l V → Q .normal ⟨(fillL tm mask 0 us).toArray, df⟩ w') :
    (Code.region id l.toArray true).wp P Q ⟨tm.toArray, df⟩ w := by
  refine wp_region_any hm ?_
  have h0 := wpAny_free (w := w) mask V hB hVl hstep hfin (fun a b c h1 h2 => h1.trans h2 (fun _ h => .inl h)) l.length (Array.replicate l.length false) (fun t => tm.getD t undef) w.drew (by simp) (by simp [unlisted, List.count_replicate]) ((Fr.refl _ _).drew) (by
    intro i o T d ho hT hd hl
    have hil := (List.getElem?_eq_some_iff.1 ho).1
    simp [hil] at hl)
  rw [fillL_self tm mask 0 _ (fun d v hv => by simp [hv])] at h0
  simpa using h0

/-! ### For the walk -/
theorem stepsHold.cons {Q : Exit → Act → World → Prop} {ops : List Oper} {V : List (Told S)} {us : Nat → Value} {a : Act} {w : World} {o : Oper} {os : List Oper} {T : Told S} {Ts : List (Told S)}
    (h : ∀ w', Fr S w w' → depsHold ops V us w' o.after.toList → ∀ K : Act → World → Prop, (∀ v w'', T.p v w'' → Fr S w' w'' → K (a.put o.dst v) w'') →
      if Region.wanted o (yielded ops.toArray a.tmps) = true then Oper.wp P o a w' K Q else K (a.put o.dst undef) w')
    (hs : stepsHold P S Q ops V us a w os Ts) : stepsHold P S Q ops V us a w (o :: os) (T :: Ts) := ⟨h, hs⟩
theorem stepsHold.nil {Q : Exit → Act → World → Prop} {ops : List Oper} {V : List (Told S)} {us : Nat → Value} {a : Act} {w : World} {Ts : List (Told S)} : stepsHold P S Q ops V us a w [] Ts := trivial
theorem deps_get {ops : List Oper} {V : List (Told S)} {us : Nat → Value} {w : World} : ∀ {es : List Edge}, depsHold ops V us w es → ∀ (k : Nat) {e : Edge} {o : Oper} {T : Told S} {d : Tmp}, es[k]? = some e → Region.binds .any e = true → ops[e.on]? = some o → V[e.on]? = some T → o.dst = some d → T.p (us d) w
  | [], _, k, e, o, T, d, he, _, _, _, _ => by simp at he
  | e' :: es, h, 0, e, o, T, d, he, hb, ho, hT, hd => by
    simp at he
    subst he
    have := h.1
    simp only [hb, ho, hT, hd] at this
    exact this
  | e' :: es, h, k + 1, e, o, T, d, he, hb, ho, hT, hd => deps_get h.2 k (by simpa using he) hb ho hT hd
theorem all_get {us : Nat → Value} {w : World} : ∀ {os : List Oper} {Ts : List (Told S)}, allHold us w os Ts → ∀ (i : Nat) {o : Oper} {T : Told S} {d : Tmp}, os[i]? = some o → Ts[i]? = some T → o.dst = some d → T.p (us d) w
  | [], _, _, i, o, T, d, ho, _, _ => by simp at ho
  | _ :: _, [], _, i, o, T, d, _, hT, _ => by simp at hT
  | o' :: os, T' :: Ts, h, 0, o, T, d, ho, hT, hd => by
    simp at ho hT
    subst ho; subst hT
    have := h.1
    simp only [hd] at this
    exact this
  | o' :: os, T' :: Ts, h, i + 1, o, T, d, ho, hT, hd => all_get h.2 i (by simpa using ho) (by simpa using hT) hd
theorem wanted_none {ops : Array Oper} {o : Oper} {tm : Array Value} (h : o.guard = none) : Region.wanted o (yielded ops tm) = true := by simp [Region.wanted, h]
theorem wanted_yes {ops : Array Oper} {o oj : Oper} {tm : Array Value} {j : Nat} {b : Bool} {d : Tmp} {u : Value} (h : o.guard = some (j, b)) (hj : ops[j]? = some oj) (hd : oj.dst = some d) (ht : tm[d]? = some u) (hu : u = .bool b) : Region.wanted o (yielded ops tm) = true := by
  simp [Region.wanted, h, yielded, hj, hd, ht, hu]
theorem wanted_no {ops : Array Oper} {o oj : Oper} {tm : Array Value} {j : Nat} {b : Bool} {d : Tmp} {u : Value} (h : o.guard = some (j, b)) (hj : ops[j]? = some oj) (hd : oj.dst = some d) (ht : tm[d]? = some u) (hu : u = .bool (!b)) : ¬ Region.wanted o (yielded ops tm) = true := by
  simp [Region.wanted, h, yielded, hj, hd, ht, hu]

theorem wp_value {o : Oper} {a : Act} {w w2 : World} {K : Act → World → Prop} {Q : Exit → Act → World → Prop} {v : Value} (hr : (execOp a.eval o).run P w = .ok (.value v) w2) (h : K (a.put o.dst v) w2) : Oper.wp P o a w K Q := by
  unfold Oper.wp
  rw [hr]
  exact h
theorem wp_skip {o : Oper} {a : Act} {w w2 : World} {K : Act → World → Prop} {Q : Exit → Act → World → Prop} (hr : (execOp a.eval o).run P w = .ok .skip w2) (h : K (a.put o.dst undef) w2) : Oper.wp P o a w K Q := by
  unfold Oper.wp
  rw [hr]
  exact h
theorem wp_call {o : Oper} {a : Act} {w w2 : World} {K : Act → World → Prop} {Q : Exit → Act → World → Prop} {f : FuncId} {args : Array Value} (hr : (execOp a.eval o).run P w = .ok (.enter f args) w2)
    (h : Calls P f args w2 fun e w3 => ∃ v, e = .returned v ∧ K (a.put o.dst v) w3) : Oper.wp P o a w K Q := by
  unfold Oper.wp
  rw [hr]
  refine Calls.mono h ?_
  rintro e w3 ⟨v, rfl, hk⟩
  exact hk
end
end Go.Proofs.YtgbaijfgmeealaaGreat
