/-
  The rule of Free, of a region whose first operations are waited for by one of them, and those behind that one come one behind the other: the tail is walked in order, and may write. Conditions: none.
-/
import Derived.Test.YtgbaijfgmeealaaGreatLast
set_option linter.unusedVariables false
set_option linter.unusedSimpArgs false
namespace Go.Proofs.YtgbaijfgmeealaaGreat
open Go.RowKit
section
variable {P : Program} {S : Nat → Prop}
/-- Does an operation wait for another one? -/
def onB (ops : List Oper) (s j : Nat) : Bool := match ops[s]? with
  | some o => o.after.toList.any fun e => Region.binds .any e && e.on == j
  | none => false
/-- Each one ahead of p is waited for by one up to p; each one behind it waits for the one before. -/
def tailB (ops : List Oper) (p : Nat) : Bool :=
  decide (p < ops.length) && ((List.range p).all fun j => (List.range (p + 1)).any fun s => decide (j < s) && onB ops s j) && (List.range ops.length).all fun j => decide (j < p) || decide (ops.length ≤ j + 1) || onB ops (j + 1) j
theorem onB_spec {ops : List Oper} {s j : Nat} (h : onB ops s j = true) : ∃ o, ops[s]? = some o ∧ ∃ e ∈ o.after, Region.binds .any e = true ∧ e.on = j := by
  unfold onB at h
  split at h
  · rename_i o ho
    obtain ⟨e, he, hb⟩ := List.any_eq_true.1 h
    simp only [Bool.and_eq_true, beq_iff_eq] at hb
    exact ⟨o, ho, e, by simpa using he, hb⟩
  · cases h
theorem tailB_spec {ops : List Oper} {p : Nat} (h : tailB ops p = true) : p < ops.length ∧ (∀ j, j < p → ∃ s, j < s ∧ s ≤ p ∧ onB ops s j = true) ∧ ∀ j, p ≤ j → j + 1 < ops.length → onB ops (j + 1) j = true := by
  simp only [tailB, Bool.and_eq_true, decide_eq_true_eq] at h
  refine ⟨h.1.1, fun j hj => ?_, fun j hj hl => ?_⟩
  · have h1 := List.all_eq_true.1 h.1.2 j (List.mem_range.2 hj)
    obtain ⟨s, hs, h2⟩ := List.any_eq_true.1 h1
    simp only [Bool.and_eq_true, decide_eq_true_eq] at h2
    exact ⟨s, h2.1, by have := List.mem_range.1 hs; omega, h2.2⟩
  · have h1 := List.all_eq_true.1 h.2 j (List.mem_range.2 (by omega))
    simp only [Bool.or_eq_true, decide_eq_true_eq] at h1
    rcases h1 with (h1 | h1) | h1
    · omega
    · omega
    · exact h1
theorem wpAny_seq {Q : Exit → Act → World → Prop} {l : List Oper} {mask : List Bool} {nm : Nat} (hB : freeB l mask nm = true) {p : Nat} (hT : tailB l p = true) : ∀ (n q fuel : Nat) (listed : Array Bool) (a : Act) (w : World), l.length - q = n → p ≤ q → q ≤ l.length → listed.size = l.length → n ≤ fuel →
    (∀ i, i < l.length → (listed.getD i true = true ↔ i < q)) → wpList P l.toArray Q (l.drop q) a w → wpAny P .any l.toArray Q fuel listed a w := by
  obtain ⟨hpl, hpre, hsuc⟩ := tailB_spec hT
  intro n
  induction n with
  | zero =>
    intro q fuel listed a w hn hpq hql hs hf hli hw
    have hq : q = l.length := by omega
    subst hq
    rw [List.drop_length] at hw
    exact wpAny_done (fun i hi => (hli i hi).2 hi) hw fuel
  | succ n ih =>
    intro q fuel listed a w hn hpq hql hs hf hli hw
    obtain ⟨fuel, rfl⟩ : ∃ f', fuel = f' + 1 := ⟨fuel - 1, by omega⟩
    have hq : q < l.length := by omega
    have hdrop : l.drop q = l[q] :: l.drop (q + 1) := List.drop_eq_getElem_cons hq
    rw [hdrop] at hw
    refine ⟨fun hr => ?_, fun i hi => ?_⟩
    · exfalso
      have h1 := ready_nil_all hB hs hr q hq
      have h2 := (hli q hq).1 h1
      omega
    · obtain ⟨h1, o, ho, hdep⟩ := mem_ready.1 hi
      have ho' : l[i]? = some o := by simpa using ho
      have hil : i < l.length := (List.getElem?_eq_some_iff.1 ho').1
      have hiq : ¬ i < q := fun h => by rw [(hli i hil).2 h] at h1; cases h1
      have hie : i = q := by
        rcases Nat.lt_or_ge q i with h | h
        · obtain ⟨o2, ho2, e, he, hb, hon⟩ := onB_spec (hsuc (i - 1) (by omega) (by omega))
          rw [show i - 1 + 1 = i by omega, ho'] at ho2
          cases ho2
          have h3 := hdep e he hb
          rw [hon] at h3
          have h4 : listed.getD (i - 1) true = true := by
            have : i - 1 < listed.size := by omega
            simpa [this] using h3
          have h5 := (hli (i - 1) (by omega)).1 h4
          omega
        · omega
      subst hie
      have hoo : l[i] = o := by rw [List.getElem?_eq_getElem hil] at ho'; exact Option.some.inj ho'
      rw [hoo] at hw
      have hs' : (listed.setIfInBounds i true).size = l.length := by simpa using hs
      have hli' : ∀ j, j < l.length → ((listed.setIfInBounds i true).getD j true = true ↔ j < i + 1) := by
        intro j hj
        by_cases e : j = i
        · subst e
          have : j < listed.size := by omega
          simp [this]
        · rw [getD_set_ne true (fun h => e h.symm), hli j hj]
          omega
      have hK : ∀ a w, wpList P l.toArray Q (l.drop (i + 1)) a w → wpAny P .any l.toArray Q fuel (listed.setIfInBounds i true) a w := fun a w h => ih (i + 1) fuel _ a w (by omega) (by omega) (by omega) hs' (by omega) hli' h
      unfold wpOp
      simp only [ho]
      unfold wpList at hw
      split at hw
      · rename_i hwd
        rw [if_pos hwd]
        exact hw.imp (fun h => Oper.wp_mono hK h) id
      · rename_i hwd
        rw [if_neg hwd]
        exact hK _ _ hw
theorem unlisted_ge {listed : Array Bool} {p n : Nat} (hs : listed.size = n) (h : ∀ i, p ≤ i → i < n → listed.getD i true = false) : n - p ≤ unlisted listed := by
  have h1 : (listed.toList.drop p).count false = (listed.toList.drop p).length := by
    rw [List.count_eq_length]
    intro b hb
    obtain ⟨i, hi, he⟩ := List.getElem_of_mem hb
    rw [List.length_drop, Array.length_toList] at hi
    rw [List.getElem_drop] at he
    have h2 := h (p + i) (by omega) (by omega)
    have h3 : p + i < listed.size := by omega
    rw [Array.getElem_toList] at he
    simp only [Array.getD, h3, dif_pos] at h2
    rw [← he]
    exact h2.symm
  have h2 := List.Sublist.count_le false (List.drop_sublist p listed.toList)
  rw [h1, List.length_drop, Array.length_toList] at h2
  unfold unlisted
  omega
theorem wpAny_tail {Q : Exit → Act → World → Prop} {l : List Oper} {tm : List Value} {df : List Deferred} {w : World} (mask : List Bool) (V : List (Told S)) (p : Nat) (hB : freeB l mask tm.length = true) (hVl : V.length = l.length)
    (hT : tailB l p = true)
    (hstep : ∀ us : Nat → Value, stepsHold P S Q l V us ⟨(fillL tm mask 0 us).toArray, df⟩ w (l.take p) V)
    (hfin : ∀ us w', Fr S w w' → allHold us w' (l.take p) V → wpList P l.toArray Q (l.drop p) ⟨(fillL tm mask 0 us).toArray, df⟩ w')
    (htr : ∀ a b c : World, Fr S w a → Fr S a b → Fr S w b) :
    ∀ (fuel : Nat) (listed : Array Bool) (us : Nat → Value) (w' : World), listed.size = l.length → unlisted listed ≤ fuel → Fr S w w' → (∀ i, p ≤ i → i < l.length → listed.getD i true = false) →
      (∀ (i : Nat) (o : Oper) (T : Told S) (d : Tmp), l[i]? = some o → V[i]? = some T → o.dst = some d → listed.getD i true = true → T.p (us d) w') → (∀ (i' : Nat) (o' : Oper) (e : Edge), l[i']? = some o' → listed.getD i' true = true → e ∈ o'.after → Region.binds .any e = true → listed.getD e.on true = true) →
      wpAny P .any l.toArray Q fuel listed ⟨(fillL tm mask 0 us).toArray, df⟩ w' := by
  obtain ⟨hpl, hpre, hsuc⟩ := tailB_spec hT
  intro fuel
  induction fuel with
  | zero =>
    intro listed us w' hs hu hf hun hv hcl
    exfalso
    have := unlisted_ge hs hun
    omega
  | succ fuel ih =>
    intro listed us w' hs hu hf hun hv hcl
    have hge := unlisted_ge hs hun
    refine ⟨fun hr => ?_, fun i hi => ?_⟩
    · exfalso
      have h1 := ready_nil_all hB hs hr p hpl
      rw [hun p (Nat.le_refl _) hpl] at h1; cases h1
    obtain ⟨h1, o, ho, hdep⟩ := mem_ready.1 hi
    have ho' : l[i]? = some o := by simpa using ho
    have hil : i < l.length := (List.getElem?_eq_some_iff.1 ho').1
    have hdepT : ∀ e ∈ o.after, Region.binds .any e = true → listed.getD e.on true = true := fun e he hb => by
      have h3 := hdep e he hb
      by_cases hel : e.on < listed.size
      · simpa [hel] using h3
      · simp [hel]
    have hip : i ≤ p := by
      rcases Nat.lt_or_ge p i with h | h
      · exfalso
        obtain ⟨o2, ho2, e, he, hb, hon⟩ := onB_spec (hsuc (i - 1) (by omega) (by omega))
        rw [show i - 1 + 1 = i by omega, ho'] at ho2
        cases ho2
        have h3 := hdepT e he hb
        rw [hon, hun (i - 1) (by omega) (by omega)] at h3
        cases h3
      · exact h
    by_cases hin : i = p
    · subst hin
      have hothers : ∀ (m j : Nat), i - j ≤ m → j < i → listed.getD j true = true := by
        intro m
        induction m with
        | zero => intro j h h'; omega
        | succ m ihm =>
          intro j hm hj
          obtain ⟨s, hjs, hsp, hon⟩ := hpre j hj
          obtain ⟨o2, ho2, e, he, hb, hone⟩ := onB_spec hon
          by_cases hsi : s = i
          · subst hsi
            rw [ho'] at ho2
            cases ho2
            rw [← hone]
            exact hdepT e he hb
          · have h3 := ihm s (by omega) (by omega)
            rw [← hone]
            exact hcl s o2 e ho2 h3 he hb
      have hall : allHold us w' (l.take i) V := all_of _ _ (fun j oj Tj d hoj hTj hd => by
        have hjl : j < (l.take i).length := (List.getElem?_eq_some_iff.1 hoj).1
        rw [List.length_take] at hjl
        rw [List.getElem?_take_of_lt (by omega)] at hoj
        exact hv j oj Tj d hoj hTj hd (hothers _ j (Nat.le_refl _) (by omega)))
      have h9 := wpAny_seq hB hT (l.length - i) i (fuel + 1) listed _ w' rfl (Nat.le_refl _) (by omega) hs (by omega) (fun j hj => by
        constructor
        · intro h
          rcases Nat.lt_or_ge j i with h2 | h2
          · exact h2
          · rw [hun j h2 hj] at h; cases h
        · exact fun h => hothers _ j (Nat.le_refl _) h) (hfin us w' hf hall)
      exact h9.2 i hi
    · have hilt : i < p := by omega
      obtain ⟨T, hT⟩ : ∃ T, V[i]? = some T := ⟨V[i]'(by omega), List.getElem?_eq_getElem _⟩
      have hd : depsHold l V us w' o.after.toList := deps_of _ (fun e he hb oj Tj d hoj hTj hdj => hv e.on oj Tj d hoj hTj hdj (hdepT e (by simpa using he) hb))
      have hod : (l.take p)[i]? = some o := by rw [List.getElem?_take_of_lt hilt]; exact ho'
      have hgo := steps_get (l.take p) V i o T (hstep us) hod hT w' hf hd (fun a' w'' => wpAny P .any l.toArray Q fuel (listed.setIfInBounds i true) a' w'') (by
        intro v w'' hp hf2
        have hv' : ∀ us' : Nat → Value, (∀ d, o.dst = some d → us' d = v) → (∀ d, o.dst ≠ some d → us' d = us d) →
            ∀ (j : Nat) (oj : Oper) (Tj : Told S) (d : Tmp), l[j]? = some oj → V[j]? = some Tj → oj.dst = some d → (listed.setIfInBounds i true).getD j true = true → Tj.p (us' d) w'' := by
          intro us' h2 h3 j oj Tj d hoj hTj hdj hlj
          by_cases hji : j = i
          · subst hji
            rw [ho'] at hoj; cases hoj
            rw [hT] at hTj; cases hTj
            rw [h2 d hdj]; exact hp
          · have hne : o.dst ≠ some d := fun e => (freeB_spec hB ho').2 d e |>.2.2 j oj hoj hji hdj
            rw [h3 d hne]
            refine Tj.up _ _ _ (hv j oj Tj d hoj hTj hdj ?_) hf2
            rwa [getD_set_ne true (Ne.symm hji)] at hlj
        have hs' : (listed.setIfInBounds i true).size = l.length := by simpa using hs
        have hu' : unlisted (listed.setIfInBounds i true) ≤ fuel := by have := unlisted_set h1; omega
        have hun' : ∀ j, p ≤ j → j < l.length → (listed.setIfInBounds i true).getD j true = false := fun j hj hjl => by rw [getD_set_ne true (by omega)]; exact hun j hj hjl
        have hcl' : ∀ (i' : Nat) (o' : Oper) (e : Edge), l[i']? = some o' → (listed.setIfInBounds i true).getD i' true = true → e ∈ o'.after → Region.binds .any e = true → (listed.setIfInBounds i true).getD e.on true = true := by
          intro i' o' e ho1 hl1 he1 hb1
          by_cases hei : e.on = i
          · rw [hei]
            have hil' : i < listed.size := by omega
            simp [hil']
          rw [getD_set_ne true (Ne.symm hei)]
          by_cases hii : i' = i
          · subst hii
            rw [ho'] at ho1
            cases ho1
            exact hdepT e he1 hb1
          · rw [getD_set_ne true (Ne.symm hii)] at hl1
            exact hcl i' o' e ho1 hl1 he1 hb1
        cases hdst : o.dst with
        | none => exact ih _ us w'' hs' hu' (htr w' w'' w'' hf hf2) hun' (hv' us (fun d e => by rw [hdst] at e; cases e) (fun _ _ => rfl)) hcl'
        | some d0 =>
          obtain ⟨hd0, hm0, _⟩ := (freeB_spec hB ho').2 d0 hdst
          have hset : (Act.put ⟨(fillL tm mask 0 us).toArray, df⟩ (some d0) v) = ⟨(fillL tm mask 0 (fun s => if s = d0 then v else us s)).toArray, df⟩ := by
            unfold Act.put
            simp only [List.setIfInBounds_toArray]
            rw [fillL_set tm mask 0 us d0 v hm0]
            simp
          rw [hset]
          refine ih _ _ w'' hs' hu' (htr w' w'' w'' hf hf2) hun' (hv' _ (fun d e => ?_) (fun d e => ?_)) hcl'
          · rw [hdst] at e; cases e; simp
          · rw [if_neg (fun e1 => e (by rw [e1]; exact hdst))])
      unfold wpOp
      simp only [ho]
      split
      · rename_i hw
        rw [if_pos hw] at hgo
        exact .inl hgo
      · rename_i hw
        rw [if_neg hw] at hgo
        exact hgo
/-- The rule. -/
theorem wp_region_tail {Q : Exit → Act → World → Prop} {id : Nat} {l : List Oper} {tm : List Value} {df : List Deferred} {w : World} (mask : List Bool) (V : List (Told S)) (p : Nat) (hm : P.follows .mixedOrders = true) (hB : freeB l mask tm.length = true) (hVl : V.length = l.length)
    (hT : tailB l p = true)
    (hstep : ∀ us : Nat → Value, stepsHold P S Q l V us ⟨(fillL tm mask 0 us).toArray, df⟩ w (l.take p) V)
    (hfin : ∀ us w', Fr S w w' → allHold us w' (l.take p) V → wpList P l.toArray Q (l.drop p) ⟨(fillL tm mask 0 us).toArray, df⟩ w') :
    (Code.region id l.toArray true).wp P Q ⟨tm.toArray, df⟩ w := by
  refine wp_region_any hm ?_
  have h0 := wpAny_tail (w := w) mask V p hB hVl hT hstep hfin (fun a b c h1 h2 => h1.trans h2 (fun _ h => .inl h)) l.length (Array.replicate l.length false) (fun t => tm.getD t undef) w.drew (by simp) (by simp [unlisted, List.count_replicate]) ((Fr.refl _ _).drew) (fun i _ hi => by simp [hi]) (by
    intro i o T d ho hT hd hl
    have hil := (List.getElem?_eq_some_iff.1 ho).1
    simp [hil] at hl) (by
    intro i o e ho hl _ _
    have hil := (List.getElem?_eq_some_iff.1 ho).1
    simp [hil] at hl)
  rw [fillL_self tm mask 0 _ (fun d v hv => by simp [hv])] at h0
  simpa using h0
end
end Go.Proofs.YtgbaijfgmeealaaGreat
