/-
  The rule of Turn where small fresh blocks alone may turn: rows of sz cells stay. (Printed by gen_TurnB.py.) Conditions: none.
-/
import Derived.Test.YtgbaijfgmeealaaGreatTurn2
import Derived.Test.YtgbaijfgmeealaaGreatRowU
set_option linter.unusedVariables false
set_option linter.unusedSimpArgs false
namespace Go.Proofs.YtgbaijfgmeealaaGreat
open Go.RowKit
/-- Old blocks stay, and large ones. -/
structure FrB (lim sz : Nat) (w w' : World) : Prop where
  fr : Fr (fun b => lim ≤ b) w w'
  big : ∀ (b : Nat) (cs : Array Value) (t : TypeId) (f : Nat × Nat), w.heap[b]? = some (.cells cs t f) → sz ≤ cs.size → w'.heap[b]? = some (.cells cs t f)
theorem FrB.of0 {lim sz : Nat} {w w' : World} (h : Fr F0 w w') : FrB lim sz w w' := ⟨h.mono (fun _ h => h.elim), fun _ _ _ _ hb _ => h.keep0 hb⟩
theorem FrB.trans {lim sz : Nat} {a b c : World} (h1 : FrB lim sz a b) (h2 : FrB lim sz b c) : FrB lim sz a c := ⟨h1.fr.trans h2.fr (fun _ h => .inl h), fun k cs t f hb hs => h2.big k cs t f (h1.big k cs t f hb hs) hs⟩
/-- A small fresh block turns. -/
theorem FrB.small {lim sz : Nat} {w w' : World} {b : Nat} {cs : Array Value} {t : TypeId} {f : Nat × Nat} (hb : w.heap[b]? = some (.cells cs t f)) (hs : cs.size < sz) (hl : lim ≤ b) (h : Fr (fun k => k = b) w w') : FrB lim sz w w' :=
  ⟨h.mono (fun _ e => by rw [e]; exact hl), fun k cs' t' f' hk hs' => h.keep hk (fun e => by
    subst e
    rw [hb] at hk
    cases hk
    omega)⟩
theorem block_of_cell {w : World} {b i : Nat} {v : Value} (h : w.cell? ⟨b, i, none⟩ = some v) : ∃ cs t f, w.heap[b]? = some (.cells cs t f) ∧ i < cs.size := by
  unfold World.cell? at h
  split at h
  · rename_i o ho
    split at h
    all_goals first
      | (rename_i cs t f
         refine ⟨_, _, _, ho, ?_⟩
         simp at h
         exact (Array.getElem?_eq_some_iff.1 h).1)
      | (cases h)
  · cases h
theorem SlV.keepB {α : Type} {m lim : Nat} {f : α → List Value} {w w' : World} {v : Value} {L : List α} (hm : ∀ x, (f x).length = m) (hm0 : 0 < m) (h : SlV m f w v L) (hf : FrB lim m w w') : SlV m f w' v L := by
  obtain ⟨A, c, rfl, hs, h1, h2⟩ := h.ex
  refine ⟨A, c, rfl, ⟨fun i k x v hx hv => ?_⟩, h1, h2⟩
  obtain ⟨b, off, rfl, hc⟩ := hs.get hx (by rw [hm]; exact hm0)
  have hlt : m - 1 < (f x).length := by rw [hm]; omega
  obtain ⟨cs, t, fz, hb, hsz⟩ := block_of_cell (hc (m - 1) _ (List.getElem?_eq_getElem hlt))
  refine ⟨b, off, rfl, ?_⟩
  have hck := hc k v hv
  rw [World.cell?_of_block (w := w) (by rw [hf.big b cs t fz hb (by omega), hb])]
  exact hck
/-- What is told of an operation's value, wherever it goes on. -/
structure ToldB (lim sz : Nat) where
  p : Value → World → Prop
  up : ∀ v w w', p v w → FrB lim sz w w' → p v w'
/-- The value itself. -/
def ToldB.eq {lim sz : Nat} (c : Value) : ToldB lim sz := ⟨fun v _ => v = c, fun _ _ _ h _ => h⟩
/-- Nothing is told. -/
def ToldB.any {lim sz : Nat} : ToldB lim sz := ⟨fun _ _ => True, fun _ _ _ h _ => h⟩

section
variable {P : Program} {lim sz : Nat}
/-- What stands of those that an operation waits for. -/
def depsHoldB (ops : List Oper) (V : List (ToldB lim sz)) (us : Nat → Value) (w : World) : List Edge → Prop
  | [] => True
  | e :: es => (match Region.binds .any e, ops[e.on]?, V[e.on]? with
      | true, some o, some T => (match o.dst with | some d => T.p (us d) w | none => True)
      | _, _, _ => True) ∧ depsHoldB ops V us w es

/-- What is told of all, at the end. -/
def allHoldB (us : Nat → Value) (w : World) : List Oper → List (ToldB lim sz) → Prop
  | o :: os, T :: Ts => (match o.dst with | some d => T.p (us d) w | none => True) ∧ allHoldB us w os Ts
  | _, _ => True

theorem all_ofB {us : Nat → Value} {w : World} : ∀ (os : List Oper) (Ts : List (ToldB lim sz)), (∀ (i : Nat) (o : Oper) (T : ToldB lim sz) (d : Tmp), os[i]? = some o → Ts[i]? = some T → o.dst = some d → T.p (us d) w) → allHoldB us w os Ts
  | [], _, _ => by simp [allHoldB]
  | _ :: _, [], _ => by simp [allHoldB]
  | o :: os, T :: Ts, h => by
    refine ⟨?_, all_ofB os Ts (fun i o' T' d h1 h2 h3 => h (i + 1) o' T' d (by simpa using h1) (by simpa using h2) h3)⟩
    cases hd : o.dst with
    | none => trivial
    | some d => exact h 0 o T d (by simp) (by simp) hd
theorem deps_ofB {ops : List Oper} {V : List (ToldB lim sz)} {us : Nat → Value} {w : World} : ∀ (es : List Edge), (∀ e ∈ es, Region.binds .any e = true → ∀ (o : Oper) (T : ToldB lim sz) (d : Tmp), ops[e.on]? = some o → V[e.on]? = some T → o.dst = some d → T.p (us d) w) → depsHoldB ops V us w es
  | [], _ => trivial
  | e :: es, h => by
    refine ⟨?_, deps_ofB es (fun e' he' => h e' (List.mem_cons_of_mem _ he'))⟩
    cases hb : Region.binds .any e with
    | false => trivial
    | true =>
      cases ho : ops[e.on]? with
      | none => trivial
      | some o =>
        cases hT : V[e.on]? with
        | none => trivial
        | some T =>
          simp only
          split
          · rename_i d hd; exact h e (by simp) hb o T d ho hT hd
          · trivial
theorem deps_getB {ops : List Oper} {V : List (ToldB lim sz)} {us : Nat → Value} {w : World} : ∀ {es : List Edge}, depsHoldB ops V us w es → ∀ (k : Nat) {e : Edge} {o : Oper} {T : ToldB lim sz} {d : Tmp}, es[k]? = some e → Region.binds .any e = true → ops[e.on]? = some o → V[e.on]? = some T → o.dst = some d → T.p (us d) w
  | [], _, k, e, o, T, d, he, _, _, _, _ => by simp at he
  | e' :: es, h, 0, e, o, T, d, he, hb, ho, hT, hd => by
    simp at he
    subst he
    have := h.1
    simp only [hb, ho, hT, hd] at this
    exact this
  | e' :: es, h, k + 1, e, o, T, d, he, hb, ho, hT, hd => deps_getB h.2 k (by simpa using he) hb ho hT hd
theorem all_getB {us : Nat → Value} {w : World} : ∀ {os : List Oper} {Ts : List (ToldB lim sz)}, allHoldB us w os Ts → ∀ (i : Nat) {o : Oper} {T : ToldB lim sz} {d : Tmp}, os[i]? = some o → Ts[i]? = some T → o.dst = some d → T.p (us d) w
  | [], _, _, i, o, T, d, ho, _, _ => by simp at ho
  | _ :: _, [], _, i, o, T, d, _, hT, _ => by simp at hT
  | o' :: os, T' :: Ts, h, 0, o, T, d, ho, hT, hd => by
    simp at ho hT
    subst ho; subst hT
    have := h.1
    simp only [hd] at this
    exact this
  | o' :: os, T' :: Ts, h, i + 1, o, T, d, ho, hT, hd => all_getB h.2 i (by simpa using ho) (by simpa using hT) hd
/-- One operation: a plain one leaves old memory as it was; the j-th of those that turn memory leads from the j-th phase to the next. -/
def stepTurnB (P : Program) (lim sz : Nat) (J : Nat → (Nat → Value) → World → Prop) (Q : Exit → Act → World → Prop) (ops : List Oper) (V : List (ToldB lim sz)) (us : Nat → Value) (a : Act) (w : World) (o : Oper) (T : ToldB lim sz) : Option Nat → Prop
  | none => ∀ w', FrB lim sz w w' → depsHoldB ops V us w' o.after.toList → ∀ K : Act → World → Prop, (∀ v w'', T.p v w'' → Fr F0 w' w'' → K (a.put o.dst v) w'') →
      if Region.wanted o (yielded ops.toArray a.tmps) = true then Oper.wp P o a w' K Q else K (a.put o.dst undef) w'
  | some j => ∀ w', FrB lim sz w w' → J j us w' → depsHoldB ops V us w' o.after.toList → ∀ K : Act → World → Prop, (∀ v w'', T.p v w'' → FrB lim sz w' w'' → J (j + 1) (updD us o.dst v) w'' → K (a.put o.dst v) w'') →
      if Region.wanted o (yielded ops.toArray a.tmps) = true then Oper.wp P o a w' K Q else K (a.put o.dst undef) w'

def stepsTurnB (P : Program) (lim sz : Nat) (J : Nat → (Nat → Value) → World → Prop) (Q : Exit → Act → World → Prop) (ops : List Oper) (V : List (ToldB lim sz)) (us : Nat → Value) (a : Act) (w : World) : List Oper → List (ToldB lim sz) → List (Option Nat) → Prop
  | o :: os, T :: Ts, k :: ks => stepTurnB P lim sz J Q ops V us a w o T k ∧ stepsTurnB P lim sz J Q ops V us a w os Ts ks
  | _, _, _ => True

theorem turn_getB {J : Nat → (Nat → Value) → World → Prop} {Q : Exit → Act → World → Prop} {ops : List Oper} {V : List (ToldB lim sz)} {us : Nat → Value} {a : Act} {w : World} : ∀ (os : List Oper) (Ts : List (ToldB lim sz)) (ks : List (Option Nat)) (i : Nat) (o : Oper) (T : ToldB lim sz) (k : Option Nat),
    stepsTurnB P lim sz J Q ops V us a w os Ts ks → os[i]? = some o → Ts[i]? = some T → ks[i]? = some k → stepTurnB P lim sz J Q ops V us a w o T k
  | [], _, _, _, _, _, _, _, h, _, _ => by simp at h
  | _ :: _, [], _, _, _, _, _, _, _, h, _ => by simp at h
  | _ :: _, _ :: _, [], _, _, _, _, _, _, _, h => by simp at h
  | o' :: os, T' :: Ts, k' :: ks, 0, o, T, k, h, ho, hT, hk => by
    simp at ho hT hk
    subst ho; subst hT; subst hk
    exact h.1
  | o' :: os, T' :: Ts, k' :: ks, i + 1, o, T, k, h, ho, hT, hk => turn_getB os Ts ks i o T k h.2 (by simpa using ho) (by simpa using hT) (by simpa using hk)

theorem wpAny_turnB {Q : Exit → Act → World → Prop} {l : List Oper} {tm : List Value} {df : List Deferred} {w : World} (mask : List Bool) (V : List (ToldB lim sz)) (J : Nat → (Nat → Value) → World → Prop) (ks : List (Option Nat)) (ds : List Nat) (m : Nat) (hB : freeB l mask tm.length = true) (hVl : V.length = l.length)
    (hT : turnB l ks ds m = true) (hJ : ∀ k us us' w' w'', J k us w' → (∀ d ∈ ds, us' d = us d) → Fr F0 w' w'' → J k us' w'')
    (hstep : ∀ us : Nat → Value, stepsTurnB P lim sz J Q l V us ⟨(fillL tm mask 0 us).toArray, df⟩ w l V ks)
    (hfin : ∀ us w', FrB lim sz w w' → J m us w' → allHoldB us w' l V → Q .normal ⟨(fillL tm mask 0 us).toArray, df⟩ w')
    (htr : ∀ a b c : World, FrB lim sz w a → FrB lim sz a b → FrB lim sz w b) :
    ∀ (fuel : Nat) (listed : Array Bool) (us : Nat → Value) (w' : World) (k : Nat), listed.size = l.length → unlisted listed ≤ fuel → FrB lim sz w w' → J k us w' → k ≤ m →
      (∀ i j, ks[i]? = some (some j) → (listed.getD i true = true ↔ j < k)) →
      (∀ (i : Nat) (o : Oper) (T : ToldB lim sz) (d : Tmp), l[i]? = some o → V[i]? = some T → o.dst = some d → listed.getD i true = true → T.p (us d) w') →
      wpAny P .any l.toArray Q fuel listed ⟨(fillL tm mask 0 us).toArray, df⟩ w' := by
  obtain ⟨hkl, hds, hks, hkm⟩ := turnB_spec hT
  intro fuel
  have fin : ∀ (listed : Array Bool) (us : Nat → Value) (w' : World) (k : Nat), listed.size = l.length → FrB lim sz w w' → J k us w' → k ≤ m → (∀ i j, ks[i]? = some (some j) → (listed.getD i true = true ↔ j < k)) →
      (∀ (i : Nat) (o : Oper) (T : ToldB lim sz) (d : Tmp), l[i]? = some o → V[i]? = some T → o.dst = some d → listed.getD i true = true → T.p (us d) w') → (∀ i, i < l.length → listed.getD i true = true) → Q .normal ⟨(fillL tm mask 0 us).toArray, df⟩ w' := by
    intro listed us w' k hs hf hj hkm' hp hv hall
    have hk : k = m := by
      rcases Nat.lt_or_ge k m with h | h
      · obtain ⟨i, hi, hki⟩ := hkm k h
        have := (hp i k hki).1 (hall i hi)
        omega
      · omega
    subst hk
    refine hfin us w' hf hj (all_ofB l V fun i o T d ho hT hd => hv i o T d ho hT hd (hall i (List.getElem?_eq_some_iff.1 ho).1))
  induction fuel with
  | zero =>
    intro listed us w' k hs hu hf hj hkm' hp hv
    have hall : ∀ i, i < l.length → listed.getD i true = true := by
      intro i hi
      have hc : listed.toList.count false = 0 := by unfold unlisted at hu; omega
      have hn := List.count_eq_zero.1 hc
      have hil : i < listed.size := by omega
      cases hb : listed[i]'hil with
      | true => simp [hil, hb]
      | false => exact absurd (by rw [← hb]; exact List.getElem_mem (l := listed.toList) (by simpa using hil)) hn
    have hr : Region.ready .any l.toArray listed = [] := by
      cases hr : Region.ready .any l.toArray listed with
      | nil => rfl
      | cons i is =>
        obtain ⟨h1, o, ho, _⟩ := mem_ready.1 (show i ∈ Region.ready .any l.toArray listed by rw [hr]; simp)
        have hi : i < l.length := by
          have := (Array.getElem?_eq_some_iff.1 ho).1
          simpa using this
        rw [hall i hi] at h1
        cases h1
    exact ⟨hr, fin listed us w' k hs hf hj hkm' hp hv hall⟩
  | succ fuel ih =>
    intro listed us w' k hs hu hf hj hkm' hp hv
    refine ⟨fun hr => fin listed us w' k hs hf hj hkm' hp hv (ready_nil_all hB hs hr), fun i hi => ?_⟩
    obtain ⟨h1, o, ho, hdep⟩ := mem_ready.1 hi
    have ho' : l[i]? = some o := by simpa using ho
    have hil : i < l.length := (List.getElem?_eq_some_iff.1 ho').1
    obtain ⟨T, hT⟩ : ∃ T, V[i]? = some T := ⟨V[i]'(by omega), List.getElem?_eq_getElem _⟩
    obtain ⟨kk, hkk⟩ : ∃ kk, ks[i]? = some kk := ⟨ks[i]'(by omega), List.getElem?_eq_getElem _⟩
    have hd : depsHoldB l V us w' o.after.toList := deps_ofB _ (fun e he hb oj Tj d hoj hTj hdj => hv e.on oj Tj d hoj hTj hdj (by
      have := hdep e (by simpa using he) hb
      have hel : e.on < listed.size := by
        have := (List.getElem?_eq_some_iff.1 hoj).1
        omega
      simpa [hel] using this))
    have hnext : ∀ (k' : Nat) (v : Value) (w'' : World), J k' (updD us o.dst v) w'' → k' ≤ m → (∀ i' j, ks[i']? = some (some j) → ((listed.setIfInBounds i true).getD i' true = true ↔ j < k')) → T.p v w'' → FrB lim sz w' w'' →
        wpAny P .any l.toArray Q fuel (listed.setIfInBounds i true) (Act.put ⟨(fillL tm mask 0 us).toArray, df⟩ o.dst v) w'' := by
      intro k' v w'' hj' hk' hp' hpv hf2
      have hv' : ∀ us' : Nat → Value, (∀ d, o.dst = some d → us' d = v) → (∀ d, o.dst ≠ some d → us' d = us d) →
          ∀ (j : Nat) (oj : Oper) (Tj : ToldB lim sz) (d : Tmp), l[j]? = some oj → V[j]? = some Tj → oj.dst = some d → (listed.setIfInBounds i true).getD j true = true → Tj.p (us' d) w'' := by
        intro us' h2 h3 j oj Tj d hoj hTj hdj hlj
        by_cases hji : j = i
        · subst hji
          rw [ho'] at hoj; cases hoj
          rw [hT] at hTj; cases hTj
          rw [h2 d hdj]; exact hpv
        · have hne : o.dst ≠ some d := fun e => (freeB_spec hB ho').2 d e |>.2.2 j oj hoj hji hdj
          rw [h3 d hne]
          refine Tj.up _ _ _ (hv j oj Tj d hoj hTj hdj ?_) hf2
          rwa [getD_set_ne true (Ne.symm hji)] at hlj
      have hs' : (listed.setIfInBounds i true).size = l.length := by simpa using hs
      have hu' : unlisted (listed.setIfInBounds i true) ≤ fuel := by have := unlisted_set h1; omega
      cases hdst : o.dst with
      | none =>
        rw [hdst] at hj'
        exact ih _ us w'' k' hs' hu' (htr w' w'' w'' hf hf2) hj' hk' hp' (hv' us (fun d e => by rw [hdst] at e; cases e) (fun _ _ => rfl))
      | some d0 =>
        obtain ⟨hd0, hm0, _⟩ := (freeB_spec hB ho').2 d0 hdst
        have hset : (Act.put ⟨(fillL tm mask 0 us).toArray, df⟩ (some d0) v) = ⟨(fillL tm mask 0 (fun s => if s = d0 then v else us s)).toArray, df⟩ := by
          unfold Act.put
          simp only [List.setIfInBounds_toArray]
          rw [fillL_set tm mask 0 us d0 v hm0]
          simp
        rw [hset]
        rw [hdst] at hj'
        refine ih _ _ w'' k' hs' hu' (htr w' w'' w'' hf hf2) hj' hk' hp' (hv' _ (fun d e => ?_) (fun d e => ?_))
        · rw [hdst] at e; cases e; simp
        · rw [if_neg (fun e1 => e (by rw [e1]; exact hdst))]
    have hst := turn_getB l V ks i o T kk (hstep us) ho' hT hkk
    unfold wpOp
    simp only [ho]
    have hgo : if Region.wanted o (yielded l.toArray (fillL tm mask 0 us).toArray) = true then Oper.wp P o ⟨(fillL tm mask 0 us).toArray, df⟩ w' (fun a' w'' => wpAny P .any l.toArray Q fuel (listed.setIfInBounds i true) a' w'') Q
        else wpAny P .any l.toArray Q fuel (listed.setIfInBounds i true) (Act.put ⟨(fillL tm mask 0 us).toArray, df⟩ o.dst undef) w' := by
      cases kk with
      | none =>
        refine hst w' hf hd (fun a' w'' => wpAny P .any l.toArray Q fuel (listed.setIfInBounds i true) a' w'') (fun v w'' hpv hf2 => ?_)
        refine hnext k v w'' (hJ k us _ w' w'' hj (fun d hd' => ?_) hf2) hkm' (fun i' j hij => ?_) hpv (FrB.of0 hf2)
        · cases hdst : o.dst with
          | none => rfl
          | some d0 =>
            have := hds i o d0 ho' hkk hdst d hd'
            simp [updD, this]
        have hne : i' ≠ i := by intro e; subst e; rw [hkk] at hij; cases hij
        rw [getD_set_ne true (Ne.symm hne)]
        exact hp i' j hij
      | some j =>
        obtain ⟨hjm, huniq, hprev⟩ := hks i o j ho' hkk
        have hjk : j = k := by
          have h2 : ¬ j < k := fun h => by rw [(hp i j hkk).2 h] at h1; cases h1
          rcases Nat.eq_zero_or_pos j with h0 | h0
          · omega
          · obtain ⟨e, he, hb, hke⟩ := hprev h0
            have := hdep e he hb
            have hel : e.on < listed.size := by
              have := (List.getElem?_eq_some_iff.1 hke).1
              omega
            have hle : listed.getD e.on true = true := by simpa [hel] using this
            have := (hp e.on (j - 1) hke).1 hle
            omega
        subst hjk
        refine hst w' hf hj hd (fun a' w'' => wpAny P .any l.toArray Q fuel (listed.setIfInBounds i true) a' w'') (fun v w'' hpv hf2 hj2 => ?_)
        refine hnext (j + 1) v w'' hj2 (by omega) (fun i' j' hij => ?_) hpv hf2
        by_cases hne : i' = i
        · subst hne
          rw [hkk] at hij
          cases hij
          have hil' : i' < listed.size := by omega
          simp [hil']
        · rw [getD_set_ne true (Ne.symm hne), hp i' j' hij]
          have : j' ≠ j := fun e => hne (huniq i' (by rw [← e]; exact hij))
          omega
    split
    · rename_i hw
      rw [if_pos hw] at hgo
      exact .inl hgo
    · rename_i hw
      rw [if_neg hw] at hgo
      exact hgo

/-- The rule. -/
theorem wp_region_turnB {Q : Exit → Act → World → Prop} {id : Nat} {l : List Oper} {tm : List Value} {df : List Deferred} {w : World} (mask : List Bool) (V : List (ToldB lim sz)) (J : Nat → (Nat → Value) → World → Prop) (ks : List (Option Nat)) (ds : List Nat) (m : Nat) (hm : P.follows .mixedOrders = true) (hB : freeB l mask tm.length = true) (hVl : V.length = l.length)
    (hT : turnB l ks ds m = true) (hJ : ∀ k us us' w' w'', J k us w' → (∀ d ∈ ds, us' d = us d) → Fr F0 w' w'' → J k us' w'') (hJ0 : J 0 (fun t => tm.getD t undef) w)
    (hstep : ∀ us : Nat → Value, stepsTurnB P lim sz J Q l V us ⟨(fillL tm mask 0 us).toArray, df⟩ w l V ks)
    (hfin : ∀ us w', FrB lim sz w w' → J m us w' → allHoldB us w' l V → Q .normal ⟨(fillL tm mask 0 us).toArray, df⟩ w') :
    (Code.region id l.toArray true).wp P Q ⟨tm.toArray, df⟩ w := by
  refine wp_region_any hm ?_
  have hkl := (turnB_spec hT).1
  have h0 := wpAny_turnB (w := w) mask V J ks ds m hB hVl hT hJ hstep hfin (fun a b c h1 h2 => h1.trans h2) l.length (Array.replicate l.length false) (fun t => tm.getD t undef) w.drew 0 (by simp) (by simp [unlisted, List.count_replicate]) (FrB.of0 (Fr.refl _ _).drew) (hJ _ _ _ _ _ hJ0 (fun _ _ => rfl) (Fr.refl _ _).drew) (by omega) (by
    intro i j hij
    have hi := (List.getElem?_eq_some_iff.1 hij).1
    have hi' : i < l.length := by omega
    simp [hi']) (by
    intro i o T d ho hT hd hl
    have hil := (List.getElem?_eq_some_iff.1 ho).1
    simp [hil] at hl)
  rw [fillL_self tm mask 0 _ (fun d v hv => by simp [hv])] at h0
  simpa using h0

theorem stepsTurnB.cons {J : Nat → (Nat → Value) → World → Prop} {Q : Exit → Act → World → Prop} {ops : List Oper} {V : List (ToldB lim sz)} {us : Nat → Value} {a : Act} {w : World} {o : Oper} {os : List Oper} {T : ToldB lim sz} {Ts : List (ToldB lim sz)} {k : Option Nat} {ks : List (Option Nat)}
    (h : stepTurnB P lim sz J Q ops V us a w o T k) (hs : stepsTurnB P lim sz J Q ops V us a w os Ts ks) : stepsTurnB P lim sz J Q ops V us a w (o :: os) (T :: Ts) (k :: ks) := ⟨h, hs⟩
theorem stepsTurnB.nil {J : Nat → (Nat → Value) → World → Prop} {Q : Exit → Act → World → Prop} {ops : List Oper} {V : List (ToldB lim sz)} {us : Nat → Value} {a : Act} {w : World} {Ts : List (ToldB lim sz)} {ks : List (Option Nat)} : stepsTurnB P lim sz J Q ops V us a w [] Ts ks := trivial
end
end Go.Proofs.YtgbaijfgmeealaaGreat
