/-
  The rule of Free, of a region whose last operation waits for all the others: that one is run at the end, and may write. Conditions: none.
-/
import Derived.Test.YtgbaijfgmeealaaGreatFree
set_option linter.unusedVariables false
set_option linter.unusedSimpArgs false
namespace Go.Proofs.YtgbaijfgmeealaaGreat
open Go.RowKit
section
variable {P : Program} {S : Nat → Prop}
/-- The last one waits for each of the others, and is wanted. -/
def lastB (ops : List Oper) (o : Oper) : Bool :=
  o.guard.isNone && (List.range (ops.length - 1)).all fun i => o.after.toList.any fun e => Region.binds .any e && e.on == i
theorem lastB_spec {ops : List Oper} {o : Oper} (h : lastB ops o = true) : o.guard = none ∧ ∀ i, i + 1 < ops.length → ∃ e ∈ o.after, Region.binds .any e = true ∧ e.on = i := by
  simp only [lastB, Bool.and_eq_true] at h
  refine ⟨by simpa using h.1, fun i hi => ?_⟩
  have := List.all_eq_true.1 h.2 i (List.mem_range.2 (by omega))
  obtain ⟨e, he, hb⟩ := List.any_eq_true.1 this
  simp only [Bool.and_eq_true, beq_iff_eq] at hb
  exact ⟨e, by simpa using he, hb⟩
theorem wpAny_done {Q : Exit → Act → World → Prop} {l : List Oper} {a : Act} {w : World} {listed : Array Bool} (hall : ∀ i, i < l.length → listed.getD i true = true) (hq : Q .normal a w) : ∀ fuel, wpAny P .any l.toArray Q fuel listed a w := by
  have hr : Region.ready .any l.toArray listed = [] := by
    cases hr : Region.ready .any l.toArray listed with
    | nil => rfl
    | cons i is =>
      obtain ⟨h1, o, ho, _⟩ := mem_ready.1 (show i ∈ Region.ready .any l.toArray listed by rw [hr]; simp)
      have hi : i < l.length := by
        have := (Array.getElem?_eq_some_iff.1 ho).1
        simpa using this
      rw [hall i hi] at h1
      cases h1
  intro fuel
  cases fuel with
  | zero => exact ⟨hr, hq⟩
  | succ fuel => exact ⟨fun _ => hq, fun i hi => by rw [hr] at hi; cases hi⟩
theorem wpAny_last {Q : Exit → Act → World → Prop} {l : List Oper} {tm : List Value} {df : List Deferred} {w : World} (mask : List Bool) (V : List (Told S)) (hB : freeB l mask tm.length = true) (hVl : V.length = l.length)
    (o : Oper) (hlo : l.getLast? = some o) (hL : lastB l o = true)
    (hstep : ∀ us : Nat → Value, stepsHold P S Q l V us ⟨(fillL tm mask 0 us).toArray, df⟩ w l.dropLast V)
    (hfin : ∀ us w', Fr S w w' → allHold us w' l.dropLast V → Oper.wp P o ⟨(fillL tm mask 0 us).toArray, df⟩ w' (fun a' w'' => Q .normal a' w'') Q)
    (htr : ∀ a b c : World, Fr S w a → Fr S a b → Fr S w b) :
    ∀ (fuel : Nat) (listed : Array Bool) (us : Nat → Value) (w' : World), listed.size = l.length → unlisted listed ≤ fuel → Fr S w w' → listed.getD (l.length - 1) true = false →
      (∀ (i : Nat) (o : Oper) (T : Told S) (d : Tmp), l[i]? = some o → V[i]? = some T → o.dst = some d → listed.getD i true = true → T.p (us d) w') →
      wpAny P .any l.toArray Q fuel listed ⟨(fillL tm mask 0 us).toArray, df⟩ w' := by
  obtain ⟨hgd, hdeps⟩ := lastB_spec hL
  have hne : l ≠ [] := by intro e; subst e; cases hlo
  have hlen : 0 < l.length := List.length_pos_iff.2 hne
  have hlast : l[l.length - 1]? = some o := by rw [← List.getLast?_eq_getElem?]; exact hlo
  intro fuel
  induction fuel with
  | zero =>
    intro listed us w' hs hu hf hun hv
    exfalso
    have hc : listed.toList.count false = 0 := by unfold unlisted at hu; omega
    have hn := List.count_eq_zero.1 hc
    have hil : l.length - 1 < listed.size := by omega
    have : listed[l.length - 1]'hil = false := by simpa [hil] using hun
    exact hn (by rw [← this]; exact List.getElem_mem (l := listed.toList) (by simpa using hil))
  | succ fuel ih =>
    intro listed us w' hs hu hf hun hv
    refine ⟨fun hr => ?_, fun i hi => ?_⟩
    · exfalso
      have := ready_nil_all hB hs hr (l.length - 1) (by omega)
      rw [hun] at this; cases this
    obtain ⟨h1, o', ho, hdep⟩ := mem_ready.1 hi
    have ho' : l[i]? = some o' := by simpa using ho
    have hil : i < l.length := (List.getElem?_eq_some_iff.1 ho').1
    by_cases hin : i = l.length - 1
    · subst hin
      have hoo : o' = o := by rw [hlast] at ho'; exact (Option.some.inj ho').symm
      subst hoo
      have hothers : ∀ j, j + 1 < l.length → listed.getD j true = true := by
        intro j hj
        obtain ⟨e, he, hb, hon⟩ := hdeps j hj
        have := hdep e he hb
        have hel : e.on < listed.size := by omega
        rw [← hon]
        simpa [hel] using this
      have hall : allHold us w' l.dropLast V := all_of _ _ (fun j oj Tj d hoj hTj hd => by
        have hjl : j < l.dropLast.length := (List.getElem?_eq_some_iff.1 hoj).1
        rw [List.length_dropLast] at hjl
        have hoj' : l[j]? = some oj := by
          rw [List.dropLast_eq_take, List.getElem?_take_of_lt (by omega)] at hoj
          exact hoj
        exact hv j oj Tj d hoj' hTj hd (hothers j (by omega)))
      have hgo := hfin us w' hf hall
      have hdone : ∀ j, j < l.length → (listed.setIfInBounds (l.length - 1) true).getD j true = true := by
        intro j hj
        by_cases e : j = l.length - 1
        · subst e
          have : l.length - 1 < listed.size := by omega
          simp [this]
        · rw [getD_set_ne true (fun h => e h.symm)]
          exact hothers j (by omega)
      unfold wpOp
      simp only [ho]
      rw [if_pos (wanted_none hgd)]
      left
      exact Oper.wp_mono (fun a w h => wpAny_done hdone h _) hgo
    · obtain ⟨T, hT⟩ : ∃ T, V[i]? = some T := ⟨V[i]'(by omega), List.getElem?_eq_getElem _⟩
      have hd : depsHold l V us w' o'.after.toList := deps_of _ (fun e he hb oj Tj d hoj hTj hdj => hv e.on oj Tj d hoj hTj hdj (by
        have := hdep e (by simpa using he) hb
        have hel : e.on < listed.size := by
          have := (List.getElem?_eq_some_iff.1 hoj).1
          omega
        simpa [hel] using this))
      have hod : l.dropLast[i]? = some o' := by rw [List.dropLast_eq_take, List.getElem?_take_of_lt (by omega)]; exact ho'
      have hgo := steps_get l.dropLast V i o' T (hstep us) hod hT w' hf hd (fun a' w'' => wpAny P .any l.toArray Q fuel (listed.setIfInBounds i true) a' w'') (by
        intro v w'' hp hf2
        have hv' : ∀ us' : Nat → Value, (∀ d, o'.dst = some d → us' d = v) → (∀ d, o'.dst ≠ some d → us' d = us d) →
            ∀ (j : Nat) (oj : Oper) (Tj : Told S) (d : Tmp), l[j]? = some oj → V[j]? = some Tj → oj.dst = some d → (listed.setIfInBounds i true).getD j true = true → Tj.p (us' d) w'' := by
          intro us' h2 h3 j oj Tj d hoj hTj hdj hlj
          by_cases hji : j = i
          · subst hji
            rw [ho'] at hoj; cases hoj
            rw [hT] at hTj; cases hTj
            rw [h2 d hdj]; exact hp
          · have hne : o'.dst ≠ some d := fun e => (freeB_spec hB ho').2 d e |>.2.2 j oj hoj hji hdj
            rw [h3 d hne]
            refine Tj.up _ _ _ (hv j oj Tj d hoj hTj hdj ?_) hf2
            rwa [getD_set_ne true (Ne.symm hji)] at hlj
        have hs' : (listed.setIfInBounds i true).size = l.length := by simpa using hs
        have hu' : unlisted (listed.setIfInBounds i true) ≤ fuel := by have := unlisted_set h1; omega
        have hun' : (listed.setIfInBounds i true).getD (l.length - 1) true = false := by rw [getD_set_ne true hin]; exact hun
        cases hdst : o'.dst with
        | none => exact ih _ us w'' hs' hu' (htr w' w'' w'' hf hf2) hun' (hv' us (fun d e => by rw [hdst] at e; cases e) (fun _ _ => rfl))
        | some d0 =>
          obtain ⟨hd0, hm0, _⟩ := (freeB_spec hB ho').2 d0 hdst
          have hset : (Act.put ⟨(fillL tm mask 0 us).toArray, df⟩ (some d0) v) = ⟨(fillL tm mask 0 (fun s => if s = d0 then v else us s)).toArray, df⟩ := by
            unfold Act.put
            simp only [List.setIfInBounds_toArray]
            rw [fillL_set tm mask 0 us d0 v hm0]
            simp
          rw [hset]
          refine ih _ _ w'' hs' hu' (htr w' w'' w'' hf hf2) hun' (hv' _ (fun d e => ?_) (fun d e => ?_))
          · rw [hdst] at e; cases e; simp
          · rw [if_neg (fun e1 => e (by rw [e1]; exact hdst))])
      unfold wpOp
      simp only [ho]
      split
      · rename_i hw
        rw [if_pos hw] at hgo
        exact .inl hgo
      · rename_i hw
        rw [if_neg hw] at hgo
        exact hgo
/-- The rule. -/
theorem wp_region_last {Q : Exit → Act → World → Prop} {id : Nat} {l : List Oper} {tm : List Value} {df : List Deferred} {w : World} (mask : List Bool) (V : List (Told S)) (hm : P.follows .mixedOrders = true) (hB : freeB l mask tm.length = true) (hVl : V.length = l.length)
    {o : Oper} (hlo : l.getLast? = some o) (hL : lastB l o = true)
    (hstep : ∀ us : Nat → Value, stepsHold P S Q l V us ⟨(fillL tm mask 0 us).toArray, df⟩ w l.dropLast V)
    (hfin : ∀ us w', Fr S w w' → allHold us w' l.dropLast V → Oper.wp P o ⟨(fillL tm mask 0 us).toArray, df⟩ w' (fun a' w'' => Q .normal a' w'') Q) :
    (Code.region id l.toArray true).wp P Q ⟨tm.toArray, df⟩ w := by
  refine wp_region_any hm ?_
  have hlen : 0 < l.length := List.length_pos_iff.2 (by intro e; subst e; cases hlo)
  have hun : (Array.replicate l.length false).getD (l.length - 1) true = false := by
    have : l.length - 1 < l.length := by omega
    simp [this]
  have h0 := wpAny_last (w := w) mask V hB hVl o hlo hL hstep hfin (fun a b c h1 h2 => h1.trans h2 (fun _ h => .inl h)) l.length (Array.replicate l.length false) (fun t => tm.getD t undef) w.drew (by simp) (by simp [unlisted, List.count_replicate]) ((Fr.refl _ _).drew) hun (by
    intro i o T d ho hT hd hl
    have hil := (List.getElem?_eq_some_iff.1 ho).1
    simp [hil] at hl)
  rw [fillL_self tm mask 0 _ (fun d v hv => by simp [hv])] at h0
  simpa using h0
end
end Go.Proofs.YtgbaijfgmeealaaGreat
