/-
  A rule for a drawn region with calls that turn memory, one behind the other: what they turn is told phase by phase. The rule of Turn with a bound on the phase of each plain operation: those that lie ahead of the j-th turning one know what holds ahead of it. Conditions: none.
-/
import Derived.Test.YtgbaijfgmeealaaGreatFree

set_option linter.unusedVariables false
set_option linter.unusedSimpArgs false
namespace Go.Proofs.YtgbaijfgmeealaaGreat
open Go.RowKit

section
variable {P : Program} {S : Nat → Prop}

/-- The values, one of them turned. -/
def updD (us : Nat → Value) (d : Option Tmp) (v : Value) : Nat → Value :=
  match d with
  | none => us
  | some d => fun s => if s = d then v else us s

/-- One operation: a plain one leaves old memory as it was; the j-th of those that turn memory leads from the j-th phase to the next. -/
def stepTurn (P : Program) (S : Nat → Prop) (J : Nat → (Nat → Value) → World → Prop) (Q : Exit → Act → World → Prop) (ops : List Oper) (V : List (Told S)) (us : Nat → Value) (a : Act) (w : World) (o : Oper) (T : Told S) : Option Nat → Prop
  | none => ∀ w', Fr S w w' → depsHold ops V us w' o.after.toList → ∀ K : Act → World → Prop, (∀ v w'', T.p v w'' → Fr F0 w' w'' → K (a.put o.dst v) w'') →
      if Region.wanted o (yielded ops.toArray a.tmps) = true then Oper.wp P o a w' K Q else K (a.put o.dst undef) w'
  | some j => ∀ w', Fr S w w' → J j us w' → depsHold ops V us w' o.after.toList → ∀ K : Act → World → Prop, (∀ v w'', T.p v w'' → Fr S w' w'' → J (j + 1) (updD us o.dst v) w'' → K (a.put o.dst v) w'') →
      if Region.wanted o (yielded ops.toArray a.tmps) = true then Oper.wp P o a w' K Q else K (a.put o.dst undef) w'

def stepsTurn (P : Program) (S : Nat → Prop) (J : Nat → (Nat → Value) → World → Prop) (Q : Exit → Act → World → Prop) (ops : List Oper) (V : List (Told S)) (us : Nat → Value) (a : Act) (w : World) : List Oper → List (Told S) → List (Option Nat) → Prop
  | o :: os, T :: Ts, k :: ks => stepTurn P S J Q ops V us a w o T k ∧ stepsTurn P S J Q ops V us a w os Ts ks
  | _, _, _ => True

theorem turn_get {J : Nat → (Nat → Value) → World → Prop} {Q : Exit → Act → World → Prop} {ops : List Oper} {V : List (Told S)} {us : Nat → Value} {a : Act} {w : World} : ∀ (os : List Oper) (Ts : List (Told S)) (ks : List (Option Nat)) (i : Nat) (o : Oper) (T : Told S) (k : Option Nat),
    stepsTurn P S J Q ops V us a w os Ts ks → os[i]? = some o → Ts[i]? = some T → ks[i]? = some k → stepTurn P S J Q ops V us a w o T k
  | [], _, _, _, _, _, _, _, h, _, _ => by simp at h
  | _ :: _, [], _, _, _, _, _, _, _, h, _ => by simp at h
  | _ :: _, _ :: _, [], _, _, _, _, _, _, _, h => by simp at h
  | o' :: os, T' :: Ts, k' :: ks, 0, o, T, k, h, ho, hT, hk => by
    simp at ho hT hk
    subst ho; subst hT; subst hk
    exact h.1
  | o' :: os, T' :: Ts, k' :: ks, i + 1, o, T, k, h, ho, hT, hk => turn_get os Ts ks i o T k h.2 (by simpa using ho) (by simpa using hT) (by simpa using hk)

/-- What is checked: those that turn memory are m, each by its own number, each behind the one ahead of it. -/
def turnB (ops : List Oper) (ks : List (Option Nat)) (ds : List Nat) (m : Nat) : Bool :=
  decide (ks.length = ops.length) &&
  (List.range ops.length).all (fun i => match ks[i]?, ops[i]? with
    | some none, some o => (match o.dst with | some d => ds.all fun d' => d' != d | none => true)
    | _, _ => true) &&
  (List.range ops.length).all (fun i => match ks[i]?, ops[i]? with
    | some (some j), some o => decide (j < m) && ((List.range ops.length).all fun i' => i' == i || (match ks[i']? with | some (some j') => j' != j | _ => true)) &&
        (j == 0 || o.after.toList.any fun e => Region.binds .any e && (match ks[e.on]? with | some (some j') => j' + 1 == j | _ => false))
    | _, _ => true) &&
  (List.range m).all fun j => (List.range ops.length).any fun i => match ks[i]? with | some (some j') => j' == j | _ => false

theorem turnB_spec {ops : List Oper} {ks : List (Option Nat)} {ds : List Nat} {m : Nat} (h : turnB ops ks ds m = true) : ks.length = ops.length ∧
    (∀ (i : Nat) (o : Oper) (d : Nat), ops[i]? = some o → ks[i]? = some none → o.dst = some d → ∀ d' ∈ ds, d' ≠ d) ∧
    (∀ (i : Nat) (o : Oper) (j : Nat), ops[i]? = some o → ks[i]? = some (some j) → j < m ∧ (∀ i' : Nat, ks[i']? = some (some j) → i' = i) ∧ (0 < j → ∃ e ∈ o.after, Region.binds .any e = true ∧ ks[e.on]? = some (some (j - 1)))) ∧
    ∀ j : Nat, j < m → ∃ i : Nat, i < ops.length ∧ ks[i]? = some (some j) := by
  simp only [turnB, Bool.and_eq_true, decide_eq_true_eq] at h
  obtain ⟨⟨⟨h1, h0⟩, h2⟩, h3⟩ := h
  refine ⟨h1, fun i o d ho hk hd d' hd' => ?_, fun i o j ho hk => ?_, fun j hj => ?_⟩
  · have hi : i < ops.length := (List.getElem?_eq_some_iff.1 ho).1
    have g := List.all_eq_true.1 h0 i (List.mem_range.2 hi)
    simp only [ho, hk, hd] at g
    simpa using List.all_eq_true.1 g d' hd'
  · have hi : i < ops.length := (List.getElem?_eq_some_iff.1 ho).1
    have g := List.all_eq_true.1 h2 i (List.mem_range.2 hi)
    simp only [ho, hk, Bool.and_eq_true, decide_eq_true_eq, Bool.or_eq_true, beq_iff_eq] at g
    obtain ⟨⟨g1, g2⟩, g3⟩ := g
    refine ⟨g1, fun i' hk' => ?_, fun hj => ?_⟩
    · have hi' : i' < ops.length := by
        have := (List.getElem?_eq_some_iff.1 hk').1
        omega
      have := List.all_eq_true.1 g2 i' (List.mem_range.2 hi')
      simp only [hk', Bool.or_eq_true, beq_iff_eq, bne_self_eq_false, Bool.false_eq_true, or_false] at this
      exact this
    · rcases g3 with g3 | g3
      · omega
      · obtain ⟨e, he, hb⟩ := List.any_eq_true.1 g3
        simp only [Bool.and_eq_true] at hb
        refine ⟨e, by simpa using he, hb.1, ?_⟩
        have hb2 := hb.2
        split at hb2
        · rename_i j' hj'
          simp only [beq_iff_eq] at hb2
          rw [hj', ← hb2]
          rfl
        · cases hb2
  · have g := List.all_eq_true.1 h3 j (List.mem_range.2 hj)
    obtain ⟨i, hi, hb⟩ := List.any_eq_true.1 g
    refine ⟨i, List.mem_range.1 hi, ?_⟩
    split at hb
    · rename_i j' hj'
      simp only [beq_iff_eq] at hb
      rw [hj', hb]
    · cases hb

theorem wpAny_turn {Q : Exit → Act → World → Prop} {l : List Oper} {tm : List Value} {df : List Deferred} {w : World} (mask : List Bool) (V : List (Told S)) (J : Nat → (Nat → Value) → World → Prop) (ks : List (Option Nat)) (ds : List Nat) (m : Nat) (hB : freeB l mask tm.length = true) (hVl : V.length = l.length)
    (hT : turnB l ks ds m = true) (hJ : ∀ k us us' w' w'', J k us w' → (∀ d ∈ ds, us' d = us d) → Fr F0 w' w'' → J k us' w'')
    (hstep : ∀ us : Nat → Value, stepsTurn P S J Q l V us ⟨(fillL tm mask 0 us).toArray, df⟩ w l V ks)
    (hfin : ∀ us w', Fr S w w' → J m us w' → allHold us w' l V → Q .normal ⟨(fillL tm mask 0 us).toArray, df⟩ w')
    (htr : ∀ a b c : World, Fr S w a → Fr S a b → Fr S w b) :
    ∀ (fuel : Nat) (listed : Array Bool) (us : Nat → Value) (w' : World) (k : Nat), listed.size = l.length → unlisted listed ≤ fuel → Fr S w w' → J k us w' → k ≤ m →
      (∀ i j, ks[i]? = some (some j) → (listed.getD i true = true ↔ j < k)) →
      (∀ (i : Nat) (o : Oper) (T : Told S) (d : Tmp), l[i]? = some o → V[i]? = some T → o.dst = some d → listed.getD i true = true → T.p (us d) w') →
      wpAny P .any l.toArray Q fuel listed ⟨(fillL tm mask 0 us).toArray, df⟩ w' := by
  obtain ⟨hkl, hds, hks, hkm⟩ := turnB_spec hT
  intro fuel
  have fin : ∀ (listed : Array Bool) (us : Nat → Value) (w' : World) (k : Nat), listed.size = l.length → Fr S w w' → J k us w' → k ≤ m → (∀ i j, ks[i]? = some (some j) → (listed.getD i true = true ↔ j < k)) →
      (∀ (i : Nat) (o : Oper) (T : Told S) (d : Tmp), l[i]? = some o → V[i]? = some T → o.dst = some d → listed.getD i true = true → T.p (us d) w') → (∀ i, i < l.length → listed.getD i true = true) → Q .normal ⟨(fillL tm mask 0 us).toArray, df⟩ w' := by
    intro listed us w' k hs hf hj hkm' hp hv hall
    have hk : k = m := by
      rcases Nat.lt_or_ge k m with h | h
      · obtain ⟨i, hi, hki⟩ := hkm k h
        have := (hp i k hki).1 (hall i hi)
        omega
      · omega
    subst hk
    refine hfin us w' hf hj (all_of l V fun i o T d ho hT hd => hv i o T d ho hT hd (hall i (List.getElem?_eq_some_iff.1 ho).1))
  induction fuel with
  | zero =>
    intro listed us w' k hs hu hf hj hkm' hp hv
    have hall : ∀ i, i < l.length → listed.getD i true = true := by
      intro i hi
      have hc : listed.toList.count false = 0 := by unfold unlisted at hu; omega
      have hn := List.count_eq_zero.1 hc
      have hil : i < listed.size := by omega
      cases hb : listed[i]'hil with
      | true => simp [hil, hb]
      | false => exact absurd (by rw [← hb]; exact List.getElem_mem (l := listed.toList) (by simpa using hil)) hn
    have hr : Region.ready .any l.toArray listed = [] := by
      cases hr : Region.ready .any l.toArray listed with
      | nil => rfl
      | cons i is =>
        obtain ⟨h1, o, ho, _⟩ := mem_ready.1 (show i ∈ Region.ready .any l.toArray listed by rw [hr]; simp)
        have hi : i < l.length := by
          have := (Array.getElem?_eq_some_iff.1 ho).1
          simpa using this
        rw [hall i hi] at h1
        cases h1
    exact ⟨hr, fin listed us w' k hs hf hj hkm' hp hv hall⟩
  | succ fuel ih =>
    intro listed us w' k hs hu hf hj hkm' hp hv
    refine ⟨fun hr => fin listed us w' k hs hf hj hkm' hp hv (ready_nil_all hB hs hr), fun i hi => ?_⟩
    obtain ⟨h1, o, ho, hdep⟩ := mem_ready.1 hi
    have ho' : l[i]? = some o := by simpa using ho
    have hil : i < l.length := (List.getElem?_eq_some_iff.1 ho').1
    obtain ⟨T, hT⟩ : ∃ T, V[i]? = some T := ⟨V[i]'(by omega), List.getElem?_eq_getElem _⟩
    obtain ⟨kk, hkk⟩ : ∃ kk, ks[i]? = some kk := ⟨ks[i]'(by omega), List.getElem?_eq_getElem _⟩
    have hd : depsHold l V us w' o.after.toList := deps_of _ (fun e he hb oj Tj d hoj hTj hdj => hv e.on oj Tj d hoj hTj hdj (by
      have := hdep e (by simpa using he) hb
      have hel : e.on < listed.size := by
        have := (List.getElem?_eq_some_iff.1 hoj).1
        omega
      simpa [hel] using this))
    have hnext : ∀ (k' : Nat) (v : Value) (w'' : World), J k' (updD us o.dst v) w'' → k' ≤ m → (∀ i' j, ks[i']? = some (some j) → ((listed.setIfInBounds i true).getD i' true = true ↔ j < k')) → T.p v w'' → Fr S w' w'' →
        wpAny P .any l.toArray Q fuel (listed.setIfInBounds i true) (Act.put ⟨(fillL tm mask 0 us).toArray, df⟩ o.dst v) w'' := by
      intro k' v w'' hj' hk' hp' hpv hf2
      have hv' : ∀ us' : Nat → Value, (∀ d, o.dst = some d → us' d = v) → (∀ d, o.dst ≠ some d → us' d = us d) →
          ∀ (j : Nat) (oj : Oper) (Tj : Told S) (d : Tmp), l[j]? = some oj → V[j]? = some Tj → oj.dst = some d → (listed.setIfInBounds i true).getD j true = true → Tj.p (us' d) w'' := by
        intro us' h2 h3 j oj Tj d hoj hTj hdj hlj
        by_cases hji : j = i
        · subst hji
          rw [ho'] at hoj; cases hoj
          rw [hT] at hTj; cases hTj
          rw [h2 d hdj]; exact hpv
        · have hne : o.dst ≠ some d := fun e => (freeB_spec hB ho').2 d e |>.2.2 j oj hoj hji hdj
          rw [h3 d hne]
          refine Tj.up _ _ _ (hv j oj Tj d hoj hTj hdj ?_) hf2
          rwa [getD_set_ne true (Ne.symm hji)] at hlj
      have hs' : (listed.setIfInBounds i true).size = l.length := by simpa using hs
      have hu' : unlisted (listed.setIfInBounds i true) ≤ fuel := by have := unlisted_set h1; omega
      cases hdst : o.dst with
      | none =>
        rw [hdst] at hj'
        exact ih _ us w'' k' hs' hu' (htr w' w'' w'' hf hf2) hj' hk' hp' (hv' us (fun d e => by rw [hdst] at e; cases e) (fun _ _ => rfl))
      | some d0 =>
        obtain ⟨hd0, hm0, _⟩ := (freeB_spec hB ho').2 d0 hdst
        have hset : (Act.put ⟨(fillL tm mask 0 us).toArray, df⟩ (some d0) v) = ⟨(fillL tm mask 0 (fun s => if s = d0 then v else us s)).toArray, df⟩ := by
          unfold Act.put
          simp only [List.setIfInBounds_toArray]
          rw [fillL_set tm mask 0 us d0 v hm0]
          simp
        rw [hset]
        rw [hdst] at hj'
        refine ih _ _ w'' k' hs' hu' (htr w' w'' w'' hf hf2) hj' hk' hp' (hv' _ (fun d e => ?_) (fun d e => ?_))
        · rw [hdst] at e; cases e; simp
        · rw [if_neg (fun e1 => e (by rw [e1]; exact hdst))]
    have hst := turn_get l V ks i o T kk (hstep us) ho' hT hkk
    unfold wpOp
    simp only [ho]
    have hgo : if Region.wanted o (yielded l.toArray (fillL tm mask 0 us).toArray) = true then Oper.wp P o ⟨(fillL tm mask 0 us).toArray, df⟩ w' (fun a' w'' => wpAny P .any l.toArray Q fuel (listed.setIfInBounds i true) a' w'') Q
        else wpAny P .any l.toArray Q fuel (listed.setIfInBounds i true) (Act.put ⟨(fillL tm mask 0 us).toArray, df⟩ o.dst undef) w' := by
      cases kk with
      | none =>
        refine hst w' hf hd (fun a' w'' => wpAny P .any l.toArray Q fuel (listed.setIfInBounds i true) a' w'') (fun v w'' hpv hf2 => ?_)
        refine hnext k v w'' (hJ k us _ w' w'' hj (fun d hd' => ?_) hf2) hkm' (fun i' j hij => ?_) hpv (hf2.mono (fun _ h => h.elim))
        · cases hdst : o.dst with
          | none => rfl
          | some d0 =>
            have := hds i o d0 ho' hkk hdst d hd'
            simp [updD, this]
        have hne : i' ≠ i := by intro e; subst e; rw [hkk] at hij; cases hij
        rw [getD_set_ne true (Ne.symm hne)]
        exact hp i' j hij
      | some j =>
        obtain ⟨hjm, huniq, hprev⟩ := hks i o j ho' hkk
        have hjk : j = k := by
          have h2 : ¬ j < k := fun h => by rw [(hp i j hkk).2 h] at h1; cases h1
          rcases Nat.eq_zero_or_pos j with h0 | h0
          · omega
          · obtain ⟨e, he, hb, hke⟩ := hprev h0
            have := hdep e he hb
            have hel : e.on < listed.size := by
              have := (List.getElem?_eq_some_iff.1 hke).1
              omega
            have hle : listed.getD e.on true = true := by simpa [hel] using this
            have := (hp e.on (j - 1) hke).1 hle
            omega
        subst hjk
        refine hst w' hf hj hd (fun a' w'' => wpAny P .any l.toArray Q fuel (listed.setIfInBounds i true) a' w'') (fun v w'' hpv hf2 hj2 => ?_)
        refine hnext (j + 1) v w'' hj2 (by omega) (fun i' j' hij => ?_) hpv hf2
        by_cases hne : i' = i
        · subst hne
          rw [hkk] at hij
          cases hij
          have hil' : i' < listed.size := by omega
          simp [hil']
        · rw [getD_set_ne true (Ne.symm hne), hp i' j' hij]
          have : j' ≠ j := fun e => hne (huniq i' (by rw [← e]; exact hij))
          omega
    split
    · rename_i hw
      rw [if_pos hw] at hgo
      exact .inl hgo
    · rename_i hw
      rw [if_neg hw] at hgo
      exact hgo

/-- The rule. -/
theorem wp_region_turn {Q : Exit → Act → World → Prop} {id : Nat} {l : List Oper} {tm : List Value} {df : List Deferred} {w : World} (mask : List Bool) (V : List (Told S)) (J : Nat → (Nat → Value) → World → Prop) (ks : List (Option Nat)) (ds : List Nat) (m : Nat) (hm : P.follows .mixedOrders = true) (hB : freeB l mask tm.length = true) (hVl : V.length = l.length)
    (hT : turnB l ks ds m = true) (hJ : ∀ k us us' w' w'', J k us w' → (∀ d ∈ ds, us' d = us d) → Fr F0 w' w'' → J k us' w'') (hJ0 : J 0 (fun t => tm.getD t undef) w)
    (hstep : ∀ us : Nat → Value, stepsTurn P S J Q l V us ⟨(fillL tm mask 0 us).toArray, df⟩ w l V ks)
    (hfin : ∀ us w', Fr S w w' → J m us w' → allHold us w' l V → Q .normal ⟨(fillL tm mask 0 us).toArray, df⟩ w') :
    (Code.region id l.toArray true).wp P Q ⟨tm.toArray, df⟩ w := by
  refine wp_region_any hm ?_
  have hkl := (turnB_spec hT).1
  have h0 := wpAny_turn (w := w) mask V J ks ds m hB hVl hT hJ hstep hfin (fun a b c h1 h2 => h1.trans h2 (fun _ h => .inl h)) l.length (Array.replicate l.length false) (fun t => tm.getD t undef) w.drew 0 (by simp) (by simp [unlisted, List.count_replicate]) ((Fr.refl _ _).drew) (hJ _ _ _ _ _ hJ0 (fun _ _ => rfl) (Fr.refl _ _).drew) (by omega) (by
    intro i j hij
    have hi := (List.getElem?_eq_some_iff.1 hij).1
    have hi' : i < l.length := by omega
    simp [hi']) (by
    intro i o T d ho hT hd hl
    have hil := (List.getElem?_eq_some_iff.1 ho).1
    simp [hil] at hl)
  rw [fillL_self tm mask 0 _ (fun d v hv => by simp [hv])] at h0
  simpa using h0

theorem stepsTurn.cons {J : Nat → (Nat → Value) → World → Prop} {Q : Exit → Act → World → Prop} {ops : List Oper} {V : List (Told S)} {us : Nat → Value} {a : Act} {w : World} {o : Oper} {os : List Oper} {T : Told S} {Ts : List (Told S)} {k : Option Nat} {ks : List (Option Nat)}
    (h : stepTurn P S J Q ops V us a w o T k) (hs : stepsTurn P S J Q ops V us a w os Ts ks) : stepsTurn P S J Q ops V us a w (o :: os) (T :: Ts) (k :: ks) := ⟨h, hs⟩
theorem stepsTurn.nil {J : Nat → (Nat → Value) → World → Prop} {Q : Exit → Act → World → Prop} {ops : List Oper} {V : List (Told S)} {us : Nat → Value} {a : Act} {w : World} {Ts : List (Told S)} {ks : List (Option Nat)} : stepsTurn P S J Q ops V us a w [] Ts ks := trivial
end
end Go.Proofs.YtgbaijfgmeealaaGreat
set_option linter.unusedVariables false
set_option linter.unusedSimpArgs false
namespace Go.Proofs.YtgbaijfgmeealaaGreat
open Go.RowKit

section
variable {P : Program} {S : Nat → Prop}

/-- One operation: a plain one with the bound b runs in a phase k ≤ b. -/
def stepTurn2 (P : Program) (S : Nat → Prop) (J : Nat → (Nat → Value) → World → Prop) (Q : Exit → Act → World → Prop) (ops : List Oper) (V : List (Told S)) (us : Nat → Value) (a : Act) (w : World) (o : Oper) (T : Told S) : Option Nat → Nat → Prop
  | none, b => ∀ w' k, Fr S w w' → k ≤ b → J k us w' → depsHold ops V us w' o.after.toList → ∀ K : Act → World → Prop, (∀ v w'', T.p v w'' → Fr F0 w' w'' → K (a.put o.dst v) w'') →
      if Region.wanted o (yielded ops.toArray a.tmps) = true then Oper.wp P o a w' K Q else K (a.put o.dst undef) w'
  | some j, _ => ∀ w', Fr S w w' → J j us w' → depsHold ops V us w' o.after.toList → ∀ K : Act → World → Prop, (∀ v w'', T.p v w'' → Fr S w' w'' → J (j + 1) (updD us o.dst v) w'' → K (a.put o.dst v) w'') →
      if Region.wanted o (yielded ops.toArray a.tmps) = true then Oper.wp P o a w' K Q else K (a.put o.dst undef) w'

def stepsTurn2 (P : Program) (S : Nat → Prop) (J : Nat → (Nat → Value) → World → Prop) (Q : Exit → Act → World → Prop) (ops : List Oper) (V : List (Told S)) (us : Nat → Value) (a : Act) (w : World) : List Oper → List (Told S) → List (Option Nat) → List Nat → Prop
  | o :: os, T :: Ts, k :: ks, b :: bs => stepTurn2 P S J Q ops V us a w o T k b ∧ stepsTurn2 P S J Q ops V us a w os Ts ks bs
  | _, _, _, _ => True

theorem turn_get2 {J : Nat → (Nat → Value) → World → Prop} {Q : Exit → Act → World → Prop} {ops : List Oper} {V : List (Told S)} {us : Nat → Value} {a : Act} {w : World} : ∀ (os : List Oper) (Ts : List (Told S)) (ks : List (Option Nat)) (bs : List Nat) (i : Nat) (o : Oper) (T : Told S) (k : Option Nat) (b : Nat),
    stepsTurn2 P S J Q ops V us a w os Ts ks bs → os[i]? = some o → Ts[i]? = some T → ks[i]? = some k → bs[i]? = some b → stepTurn2 P S J Q ops V us a w o T k b
  | [], _, _, _, _, _, _, _, _, _, h, _, _, _ => by simp at h
  | _ :: _, [], _, _, _, _, _, _, _, _, _, h, _, _ => by simp at h
  | _ :: _, _ :: _, [], _, _, _, _, _, _, _, _, _, h, _ => by simp at h
  | _ :: _, _ :: _, _ :: _, [], _, _, _, _, _, _, _, _, _, h => by simp at h
  | o' :: os, T' :: Ts, k' :: ks, b' :: bs, 0, o, T, k, b, h, ho, hT, hk, hb => by
    simp at ho hT hk hb
    subst ho; subst hT; subst hk; subst hb
    exact h.1
  | o' :: os, T' :: Ts, k' :: ks, b' :: bs, i + 1, o, T, k, b, h, ho, hT, hk, hb => turn_get2 os Ts ks bs i o T k b h.2 (by simpa using ho) (by simpa using hT) (by simpa using hk) (by simpa using hb)

/-- What is checked of the bounds: each is m at least, or there is a later operation that waits for this one and is bound as well. -/
def bndB (ops : List Oper) (ks : List (Option Nat)) (bs : List Nat) (m : Nat) : Bool :=
  decide (bs.length = ops.length) &&
  (List.range ops.length).all fun i => match ks[i]?, bs[i]? with
    | some none, some b => decide (m ≤ b) || (List.range ops.length).any fun i' => decide (i < i') && (match ops[i']? with
        | some o => (o.after.toList.any fun e => Region.binds .any e && e.on == i) && (match ks[i']?, bs[i']? with
          | some (some j), _ => decide (j ≤ b)
          | some none, some b' => decide (b' ≤ b)
          | _, _ => false)
        | none => false)
    | _, _ => true

theorem bndB_run {ops : List Oper} {ks : List (Option Nat)} {bs : List Nat} {m k : Nat} {L : Nat → Bool} (h : bndB ops ks bs m = true) (hkm : k ≤ m)
    (hp : ∀ i j, ks[i]? = some (some j) → (L i = true ↔ j < k)) (hcl : ∀ i' o e, ops[i']? = some o → L i' = true → e ∈ o.after → Region.binds .any e = true → L e.on = true) :
    ∀ (f i : Nat) (b : Nat), ops.length - i ≤ f → L i = false → ks[i]? = some none → bs[i]? = some b → k ≤ b := by
  simp only [bndB, Bool.and_eq_true, decide_eq_true_eq] at h
  obtain ⟨hl, h⟩ := h
  intro f
  induction f with
  | zero =>
    intro i b hf _ _ hb
    have := (List.getElem?_eq_some_iff.1 hb).1
    omega
  | succ f ih =>
    intro i b hf hi hk hb
    have hil : i < ops.length := by have := (List.getElem?_eq_some_iff.1 hb).1; omega
    have g := List.all_eq_true.1 h i (List.mem_range.2 hil)
    simp only [hk, hb, Bool.or_eq_true, decide_eq_true_eq] at g
    rcases g with g | g
    · omega
    obtain ⟨i', hi', g⟩ := List.any_eq_true.1 g
    simp only [Bool.and_eq_true, decide_eq_true_eq] at g
    obtain ⟨hlt, g⟩ := g
    split at g
    · rename_i o ho
      simp only [Bool.and_eq_true] at g
      obtain ⟨ge, g⟩ := g
      obtain ⟨e, he, hbe⟩ := List.any_eq_true.1 ge
      simp only [Bool.and_eq_true, beq_iff_eq] at hbe
      have hn : L i' = false := by
        cases hL : L i' with
        | false => rfl
        | true =>
          have := hcl i' o e ho hL (by simpa using he) hbe.1
          rw [hbe.2, hi] at this
          cases this
      split at g
      · rename_i j hj
        have hjb : j ≤ b := by simpa using g
        have : ¬ j < k := fun hh => by rw [(hp i' j hj).2 hh] at hn; cases hn
        omega
      · rename_i b' hk' hb'
        have hbb : b' ≤ b := by simpa using g
        have := ih i' b' (by omega) hn hk' hb'
        omega
      · cases g
    · cases g

theorem wpAny_turn2 {Q : Exit → Act → World → Prop} {l : List Oper} {tm : List Value} {df : List Deferred} {w : World} (mask : List Bool) (V : List (Told S)) (J : Nat → (Nat → Value) → World → Prop) (ks : List (Option Nat)) (bs : List Nat) (ds : List Nat) (m : Nat) (hB : freeB l mask tm.length = true) (hVl : V.length = l.length)
    (hT : turnB l ks ds m = true) (hbn : bndB l ks bs m = true) (hJ : ∀ k us us' w' w'', J k us w' → (∀ d ∈ ds, us' d = us d) → Fr F0 w' w'' → J k us' w'')
    (hstep : ∀ us : Nat → Value, stepsTurn2 P S J Q l V us ⟨(fillL tm mask 0 us).toArray, df⟩ w l V ks bs)
    (hfin : ∀ us w', Fr S w w' → J m us w' → allHold us w' l V → Q .normal ⟨(fillL tm mask 0 us).toArray, df⟩ w')
    (htr : ∀ a b c : World, Fr S w a → Fr S a b → Fr S w b) :
    ∀ (fuel : Nat) (listed : Array Bool) (us : Nat → Value) (w' : World) (k : Nat), listed.size = l.length → unlisted listed ≤ fuel → Fr S w w' → J k us w' → k ≤ m →
      (∀ i j, ks[i]? = some (some j) → (listed.getD i true = true ↔ j < k)) →
      (∀ (i : Nat) (o : Oper) (T : Told S) (d : Tmp), l[i]? = some o → V[i]? = some T → o.dst = some d → listed.getD i true = true → T.p (us d) w') → (∀ (i' : Nat) (o' : Oper) (e : Edge), l[i']? = some o' → listed.getD i' true = true → e ∈ o'.after → Region.binds .any e = true → listed.getD e.on true = true) →
      wpAny P .any l.toArray Q fuel listed ⟨(fillL tm mask 0 us).toArray, df⟩ w' := by
  obtain ⟨hkl, hds, hks, hkm⟩ := turnB_spec hT
  intro fuel
  have fin : ∀ (listed : Array Bool) (us : Nat → Value) (w' : World) (k : Nat), listed.size = l.length → Fr S w w' → J k us w' → k ≤ m → (∀ i j, ks[i]? = some (some j) → (listed.getD i true = true ↔ j < k)) →
      (∀ (i : Nat) (o : Oper) (T : Told S) (d : Tmp), l[i]? = some o → V[i]? = some T → o.dst = some d → listed.getD i true = true → T.p (us d) w') → (∀ i, i < l.length → listed.getD i true = true) → Q .normal ⟨(fillL tm mask 0 us).toArray, df⟩ w' := by
    intro listed us w' k hs hf hj hkm' hp hv hall
    have hk : k = m := by
      rcases Nat.lt_or_ge k m with h | h
      · obtain ⟨i, hi, hki⟩ := hkm k h
        have := (hp i k hki).1 (hall i hi)
        omega
      · omega
    subst hk
    refine hfin us w' hf hj (all_of l V fun i o T d ho hT hd => hv i o T d ho hT hd (hall i (List.getElem?_eq_some_iff.1 ho).1))
  induction fuel with
  | zero =>
    intro listed us w' k hs hu hf hj hkm' hp hv hcl
    have hall : ∀ i, i < l.length → listed.getD i true = true := by
      intro i hi
      have hc : listed.toList.count false = 0 := by unfold unlisted at hu; omega
      have hn := List.count_eq_zero.1 hc
      have hil : i < listed.size := by omega
      cases hb : listed[i]'hil with
      | true => simp [hil, hb]
      | false => exact absurd (by rw [← hb]; exact List.getElem_mem (l := listed.toList) (by simpa using hil)) hn
    have hr : Region.ready .any l.toArray listed = [] := by
      cases hr : Region.ready .any l.toArray listed with
      | nil => rfl
      | cons i is =>
        obtain ⟨h1, o, ho, _⟩ := mem_ready.1 (show i ∈ Region.ready .any l.toArray listed by rw [hr]; simp)
        have hi : i < l.length := by
          have := (Array.getElem?_eq_some_iff.1 ho).1
          simpa using this
        rw [hall i hi] at h1
        cases h1
    exact ⟨hr, fin listed us w' k hs hf hj hkm' hp hv hall⟩
  | succ fuel ih =>
    intro listed us w' k hs hu hf hj hkm' hp hv hcl
    refine ⟨fun hr => fin listed us w' k hs hf hj hkm' hp hv (ready_nil_all hB hs hr), fun i hi => ?_⟩
    obtain ⟨h1, o, ho, hdep⟩ := mem_ready.1 hi
    have ho' : l[i]? = some o := by simpa using ho
    have hil : i < l.length := (List.getElem?_eq_some_iff.1 ho').1
    obtain ⟨T, hT⟩ : ∃ T, V[i]? = some T := ⟨V[i]'(by omega), List.getElem?_eq_getElem _⟩
    obtain ⟨kk, hkk⟩ : ∃ kk, ks[i]? = some kk := ⟨ks[i]'(by omega), List.getElem?_eq_getElem _⟩
    have hd : depsHold l V us w' o.after.toList := deps_of _ (fun e he hb oj Tj d hoj hTj hdj => hv e.on oj Tj d hoj hTj hdj (by
      have := hdep e (by simpa using he) hb
      have hel : e.on < listed.size := by
        have := (List.getElem?_eq_some_iff.1 hoj).1
        omega
      simpa [hel] using this))
    have hnext : ∀ (k' : Nat) (v : Value) (w'' : World), J k' (updD us o.dst v) w'' → k' ≤ m → (∀ i' j, ks[i']? = some (some j) → ((listed.setIfInBounds i true).getD i' true = true ↔ j < k')) → T.p v w'' → Fr S w' w'' →
        wpAny P .any l.toArray Q fuel (listed.setIfInBounds i true) (Act.put ⟨(fillL tm mask 0 us).toArray, df⟩ o.dst v) w'' := by
      intro k' v w'' hj' hk' hp' hpv hf2
      have hv' : ∀ us' : Nat → Value, (∀ d, o.dst = some d → us' d = v) → (∀ d, o.dst ≠ some d → us' d = us d) →
          ∀ (j : Nat) (oj : Oper) (Tj : Told S) (d : Tmp), l[j]? = some oj → V[j]? = some Tj → oj.dst = some d → (listed.setIfInBounds i true).getD j true = true → Tj.p (us' d) w'' := by
        intro us' h2 h3 j oj Tj d hoj hTj hdj hlj
        by_cases hji : j = i
        · subst hji
          rw [ho'] at hoj; cases hoj
          rw [hT] at hTj; cases hTj
          rw [h2 d hdj]; exact hpv
        · have hne : o.dst ≠ some d := fun e => (freeB_spec hB ho').2 d e |>.2.2 j oj hoj hji hdj
          rw [h3 d hne]
          refine Tj.up _ _ _ (hv j oj Tj d hoj hTj hdj ?_) hf2
          rwa [getD_set_ne true (Ne.symm hji)] at hlj
      have hs' : (listed.setIfInBounds i true).size = l.length := by simpa using hs
      have hu' : unlisted (listed.setIfInBounds i true) ≤ fuel := by have := unlisted_set h1; omega
      have hcl' : ∀ (i' : Nat) (o' : Oper) (e : Edge), l[i']? = some o' → (listed.setIfInBounds i true).getD i' true = true → e ∈ o'.after → Region.binds .any e = true → (listed.setIfInBounds i true).getD e.on true = true := by
        intro i' o' e ho1 hl1 he1 hb1
        by_cases hei : e.on = i
        · rw [hei]
          have hil' : i < listed.size := by omega
          simp [hil']
        rw [getD_set_ne true (Ne.symm hei)]
        by_cases hii : i' = i
        · subst hii
          rw [ho'] at ho1
          cases ho1
          have := hdep e he1 hb1
          by_cases hel : e.on < listed.size
          · simpa [hel] using this
          · simp [hel]
        · rw [getD_set_ne true (Ne.symm hii)] at hl1
          exact hcl i' o' e ho1 hl1 he1 hb1
      cases hdst : o.dst with
      | none =>
        rw [hdst] at hj'
        exact ih _ us w'' k' hs' hu' (htr w' w'' w'' hf hf2) hj' hk' hp' (hv' us (fun d e => by rw [hdst] at e; cases e) (fun _ _ => rfl)) hcl'
      | some d0 =>
        obtain ⟨hd0, hm0, _⟩ := (freeB_spec hB ho').2 d0 hdst
        have hset : (Act.put ⟨(fillL tm mask 0 us).toArray, df⟩ (some d0) v) = ⟨(fillL tm mask 0 (fun s => if s = d0 then v else us s)).toArray, df⟩ := by
          unfold Act.put
          simp only [List.setIfInBounds_toArray]
          rw [fillL_set tm mask 0 us d0 v hm0]
          simp
        rw [hset]
        rw [hdst] at hj'
        refine ih _ _ w'' k' hs' hu' (htr w' w'' w'' hf hf2) hj' hk' hp' (hv' _ (fun d e => ?_) (fun d e => ?_)) hcl'
        · rw [hdst] at e; cases e; simp
        · rw [if_neg (fun e1 => e (by rw [e1]; exact hdst))]
    have hbl : bs.length = l.length := by
      simp only [bndB, Bool.and_eq_true, decide_eq_true_eq] at hbn
      exact hbn.1
    have hli : listed.getD i true = false := by
      have hil' : i < listed.size := by omega
      simpa [hil'] using h1
    obtain ⟨b, hb⟩ : ∃ b, bs[i]? = some b := ⟨bs[i]'(by omega), List.getElem?_eq_getElem _⟩
    have hst := turn_get2 l V ks bs i o T kk b (hstep us) ho' hT hkk hb
    unfold wpOp
    simp only [ho]
    have hgo : if Region.wanted o (yielded l.toArray (fillL tm mask 0 us).toArray) = true then Oper.wp P o ⟨(fillL tm mask 0 us).toArray, df⟩ w' (fun a' w'' => wpAny P .any l.toArray Q fuel (listed.setIfInBounds i true) a' w'') Q
        else wpAny P .any l.toArray Q fuel (listed.setIfInBounds i true) (Act.put ⟨(fillL tm mask 0 us).toArray, df⟩ o.dst undef) w' := by
      cases kk with
      | none =>
        refine hst w' k hf (bndB_run (L := fun i => listed.getD i true) hbn hkm' hp hcl _ i b (Nat.le_refl _) hli hkk hb) hj hd (fun a' w'' => wpAny P .any l.toArray Q fuel (listed.setIfInBounds i true) a' w'') (fun v w'' hpv hf2 => ?_)
        refine hnext k v w'' (hJ k us _ w' w'' hj (fun d hd' => ?_) hf2) hkm' (fun i' j hij => ?_) hpv (hf2.mono (fun _ h => h.elim))
        · cases hdst : o.dst with
          | none => rfl
          | some d0 =>
            have := hds i o d0 ho' hkk hdst d hd'
            simp [updD, this]
        have hne : i' ≠ i := by intro e; subst e; rw [hkk] at hij; cases hij
        rw [getD_set_ne true (Ne.symm hne)]
        exact hp i' j hij
      | some j =>
        obtain ⟨hjm, huniq, hprev⟩ := hks i o j ho' hkk
        have hjk : j = k := by
          have h2 : ¬ j < k := fun h => by rw [(hp i j hkk).2 h] at h1; cases h1
          rcases Nat.eq_zero_or_pos j with h0 | h0
          · omega
          · obtain ⟨e, he, hb, hke⟩ := hprev h0
            have := hdep e he hb
            have hel : e.on < listed.size := by
              have := (List.getElem?_eq_some_iff.1 hke).1
              omega
            have hle : listed.getD e.on true = true := by simpa [hel] using this
            have := (hp e.on (j - 1) hke).1 hle
            omega
        subst hjk
        refine hst w' hf hj hd (fun a' w'' => wpAny P .any l.toArray Q fuel (listed.setIfInBounds i true) a' w'') (fun v w'' hpv hf2 hj2 => ?_)
        refine hnext (j + 1) v w'' hj2 (by omega) (fun i' j' hij => ?_) hpv hf2
        by_cases hne : i' = i
        · subst hne
          rw [hkk] at hij
          cases hij
          have hil' : i' < listed.size := by omega
          simp [hil']
        · rw [getD_set_ne true (Ne.symm hne), hp i' j' hij]
          have : j' ≠ j := fun e => hne (huniq i' (by rw [← e]; exact hij))
          omega
    split
    · rename_i hw
      rw [if_pos hw] at hgo
      exact .inl hgo
    · rename_i hw
      rw [if_neg hw] at hgo
      exact hgo

/-- The rule. -/
theorem wp_region_turn2 {Q : Exit → Act → World → Prop} {id : Nat} {l : List Oper} {tm : List Value} {df : List Deferred} {w : World} (mask : List Bool) (V : List (Told S)) (J : Nat → (Nat → Value) → World → Prop) (ks : List (Option Nat)) (bs : List Nat) (ds : List Nat) (m : Nat) (hm : P.follows .mixedOrders = true) (hB : freeB l mask tm.length = true) (hVl : V.length = l.length)
    (hT : turnB l ks ds m = true) (hbn : bndB l ks bs m = true) (hJ : ∀ k us us' w' w'', J k us w' → (∀ d ∈ ds, us' d = us d) → Fr F0 w' w'' → J k us' w'') (hJ0 : J 0 (fun t => tm.getD t undef) w)
    (hstep : ∀ us : Nat → Value, stepsTurn2 P S J Q l V us ⟨(fillL tm mask 0 us).toArray, df⟩ w l V ks bs)
    (hfin : ∀ us w', Fr S w w' → J m us w' → allHold us w' l V → Q .normal ⟨(fillL tm mask 0 us).toArray, df⟩ w') :
    (Code.region id l.toArray true).wp P Q ⟨tm.toArray, df⟩ w := by
  refine wp_region_any hm ?_
  have hkl := (turnB_spec hT).1
  have h0 := wpAny_turn2 (w := w) mask V J ks bs ds m hB hVl hT hbn hJ hstep hfin (fun a b c h1 h2 => h1.trans h2 (fun _ h => .inl h)) l.length (Array.replicate l.length false) (fun t => tm.getD t undef) w.drew 0 (by simp) (by simp [unlisted, List.count_replicate]) ((Fr.refl _ _).drew) (hJ _ _ _ _ _ hJ0 (fun _ _ => rfl) (Fr.refl _ _).drew) (by omega) (by
    intro i j hij
    have hi := (List.getElem?_eq_some_iff.1 hij).1
    have hi' : i < l.length := by omega
    simp [hi']) (by
    intro i o T d ho hT hd hl
    have hil := (List.getElem?_eq_some_iff.1 ho).1
    simp [hil] at hl) (by
    intro i o e ho hl _ _
    have hil := (List.getElem?_eq_some_iff.1 ho).1
    simp [hil] at hl)
  rw [fillL_self tm mask 0 _ (fun d v hv => by simp [hv])] at h0
  simpa using h0

theorem stepsTurn2.cons {J : Nat → (Nat → Value) → World → Prop} {Q : Exit → Act → World → Prop} {ops : List Oper} {V : List (Told S)} {us : Nat → Value} {a : Act} {w : World} {o : Oper} {os : List Oper} {T : Told S} {Ts : List (Told S)} {k : Option Nat} {ks : List (Option Nat)} {b : Nat} {bs : List Nat}
    (h : stepTurn2 P S J Q ops V us a w o T k b) (hs : stepsTurn2 P S J Q ops V us a w os Ts ks bs) : stepsTurn2 P S J Q ops V us a w (o :: os) (T :: Ts) (k :: ks) (b :: bs) := ⟨h, hs⟩
theorem stepsTurn2.nil {J : Nat → (Nat → Value) → World → Prop} {Q : Exit → Act → World → Prop} {ops : List Oper} {V : List (Told S)} {us : Nat → Value} {a : Act} {w : World} {Ts : List (Told S)} {ks : List (Option Nat)} {bs : List Nat} : stepsTurn2 P S J Q ops V us a w [] Ts ks bs := trivial
end
end Go.Proofs.YtgbaijfgmeealaaGreat
