/-
  A range over a function whose iterator keeps state in a block of its own: one law, in the words of 'Fr'. Conditions: none.
-/
import Derived.Test.YtgbaijfgmeealaaGreatHeap
import Derived.RangeFuncNested
import Derived.RangeFuncBound
import Derived.RangeFuncCalls
import Derived.RangeFuncLeaves
import Derived.Shelf.Abstract
import Derived.Shelf.RegionOpen
import Derived.WalkKit
import Derived.OwnWalkIn
import Derived.TacticsInMore
import Derived.LoopNIn
import Derived.LoopIn
set_option linter.unusedVariables false
set_option linter.unusedSimpArgs false
namespace Go.Proofs.YtgbaijfgmeealaaGreat
open Go.RowKit Go.Shelf
theorem Fr.putObj {S : Nat → Prop} {a w : World} (h : Fr S a w) {b : Nat} (hp : S b ∨ a.heap.size ≤ b) (o : Obj) : Fr S a (w.putObj b o) :=
  ⟨h.os, h.tape, h.output, Nat.le_trans h.size (by simp), fun k hk hn => by
    have hne : k ≠ b := fun e => by
      subst e
      rcases hp with h' | h'
      · exact hn h'
      · omega
    exact (World.putObj_heap_other hne).trans (h.block k hk hn)⟩
section
variable {F : Fence} {n : Nat} {P : Program}
/-- What an iterator does: N rounds, the k-th with arg k; it turns the blocks of B alone, the rounds those of S. -/
def IterFr (F : Fence) (n : Nat) (P : Program) (g : Nat) (lb : Array Value) (arg : Nat → Value) (N : Nat) (B S : Nat → Prop) (w : World) : Prop :=
  ∀ (l : Nat) (J : Nat → World → Prop) (Jx : World → Prop) (W : World), Fr F0 w W → (∀ k A A', J k A → Fr B A A' → J k A') → (∀ A A', Jx A → Fr B A A' → Jx A') →
    (∀ k W1, k < N → J k W1 → YieldAt F (n - 1) P l #[arg k] W1 fun e W' =>
      (e = .returned (.bool true) ∧ J (k + 1) W' ∧ Fr S W1 W') ∨ (e = .returned (.bool false) ∧ Jx W' ∧ Fr S W1 W')) →
    J 0 W →
    CallsIn F n P g (#[.func (.yield l) #[] #[]] ++ lb) W fun e W' => (∃ v, e = .returned v) ∧ (J N W' ∨ Jx W')
/-- How a round's body may be left. -/
def rfPost (S : Nat → Prop) (I : Nat → World → Prop) (Ix : Code → Nat → World → Prop) (k : Nat) (W : World) : Exit → Act → World → Prop
  | .normal, _, W' => Fr S W W' ∧ I (k + 1) W'
  | .ret, _, W' => Fr S W W' ∧ Ix .ret k W'
  | .exit id, _, W' => Fr S W W' ∧ Ix (.exit id) k W'
  | .goto t, _, W' => Fr S W W' ∧ Ix (.goto t) k W'
  | .panic _, _, _ => False
  | .outgrown, _, _ => False
theorem wpIn_rangeFunc_fr {g : Operand} {ps : Array Tmp} {assign body : Code} {Q : Exit → Act → World → Prop} {a : Act} {w : World}
    (hro : F.round = none) (h1 : 1 ≤ n) {gf : Nat} {lb : Array Value} (hg : a.eval g = .func (.func gf) #[] lb) (hFg : F.fn gf) (eg : ∀ args w, (callFunc gf args).run P w = .ok (.enter gf args) w)
    {arg : Nat → Value} {N : Nat} {B S : Nat → Prop} (hseq : IterFr F (n - 1) P gf lb arg N B (fun k => S k ∨ w.heap.size ≤ k) w)
    (hSw : ∀ k, S k → k < w.heap.size) (hBw : ∀ k, B k → k < w.heap.size) (hps : ps.size = 1)
    (I : Nat → World → Prop) (Ix : Code → Nat → World → Prop)
    (hI : ∀ k A A', I k A → Fr (fun j => B j ∨ j = w.heap.size ∨ j = w.heap.size + 1) A A' → I k A')
    (hIx : ∀ c k A A', Ix c k A → Fr (fun j => B j ∨ j = w.heap.size ∨ j = w.heap.size + 1) A A' → Ix c k A')
    (h0 : I 0 w) (a₁ : Nat → Act)
    (hassign : ∀ (l k : Nat) (W : World) (K : Act → World → Prop), k < N → K (a₁ k) W →
      assign.wpIn (F.inRound l) (n - 1 - 1) P (Exit.then K (fun _ _ _ => False)) { tmps := (ps.zip #[arg k]).foldl (fun t (p, v) => t.setIfInBounds p v) a.tmps, defers := [] } W)
    (hbody : ∀ (l k : Nat) (W : World), k < N → I k W → body.wpIn (F.inRound l) (n - 1 - 1) P (rfPost S I Ix k W) (a₁ k) W)
    (hdone : ∀ (D : Nat) (W : World), w.heap.size ≤ D → I N W → W.heap[D]? = some (.deferred (some [])) → Q .normal { a with defers := { target := .collected D, args := #[] } :: a.defers } W)
    (hstop : ∀ (D : Nat) (c : Code) (k : Nat) (W : World), w.heap.size ≤ D → k < N → Ix c k W → W.heap[D]? = some (.deferred (some [])) → c.wpIn F n P Q { a with defers := { target := .collected D, args := #[] } :: a.defers } W) :
    (Code.rangeFunc g ps assign body).wpIn F n P Q a w := by
  refine wpIn_rangeFunc ?_
  intro fn hfn
  rw [hro]
  obtain ⟨rec, hrec⟩ : ∃ rec : LoopState → Option Code → Loop, rec = fun st pe => { state := st, pending := pe, fn, tmps := a.tmps, params := ps, assign, body, defers := w.heap.size } := ⟨_, rfl⟩
  obtain ⟨W1, hW1⟩ : ∃ W1, (w.alloc (.deferred (some []))).alloc (.loop (rec .ready none)) = W1 := ⟨_, rfl⟩
  have hL1 : W1.heap[w.heap.size + 1]? = some (.loop (rec .ready none)) := by
    rw [← hW1]; have := World.alloc_heap_new (w.alloc (.deferred (some []))) (.loop (rec .ready none)); rwa [World.size_alloc] at this
  have hK1 : W1.heap[w.heap.size]? = some (.deferred (some [])) := by
    rw [← hW1]; exact (Below.heap_alloc _ _ _ (by simp)).trans (World.alloc_heap_new w _)
  have hF1 : Fr F0 w W1 := by rw [← hW1]; exact ((Fr.refl F0 w).alloc _).alloc _
  have hI1 : I 0 W1 := hI _ _ _ h0 hF1.of0
  have hkeep : ∀ {A A' : World} {o : Obj} {k : Nat}, k = w.heap.size ∨ k = w.heap.size + 1 → Fr B A A' → A.heap[k]? = some o → A'.heap[k]? = some o := fun {A A' o k} hk hf ho =>
    (hf.block k (Array.getElem?_eq_some_iff.1 ho).1 (fun hb => by have := hBw k hb; omega)).trans ho
  refine ⟨w.heap.size + 1, [{ target := .collected w.heap.size, args := #[] }], W1, { target := .fn (.func gf) lb, args := #[.func (.yield (w.heap.size + 1)) #[] #[]] }, W1, gf,
    #[.func (.yield (w.heap.size + 1)) #[] #[]] ++ lb, W1, ?_, ?_, ?_, ?_, fun _ => h1, ?_⟩
  · rw [← hW1, hrec]; exact run_enterLoop_outer _ _ _ _ _
  · simp only [resolve, hg]
    simp [go_sem]
  · intro f' hf'; simp [Target.leads] at hf'; subst hf'; exact hFg
  · simp [invoke, go_sem, eg]
  · refine (hseq (w.heap.size + 1)
      (fun k W => I k W ∧ W.heap[w.heap.size + 1]? = some (.loop (rec .ready none)) ∧ W.heap[w.heap.size]? = some (.deferred (some [])))
      (fun W => ∃ c k, k < N ∧ Ix c k W ∧ W.heap[w.heap.size + 1]? = some (.loop (rec .done (some c))) ∧ W.heap[w.heap.size]? = some (.deferred (some [])))
      W1 hF1
      (fun k A A' hs hf => ⟨hI _ _ _ hs.1 (hf.mono (fun _ h => .inl h)), hkeep (.inr rfl) hf hs.2.1, hkeep (.inl rfl) hf hs.2.2⟩)
      (fun A A' hs hf => by
        obtain ⟨c, k, hk, hc, hl, hd⟩ := hs
        exact ⟨c, k, hk, hIx _ _ _ _ hc (hf.mono (fun _ h => .inl h)), hkeep (.inr rfl) hf hl, hkeep (.inl rfl) hf hd⟩)
      ?_ ⟨hI1, hL1, hK1⟩).mono ?_
    · rintro k W hk ⟨hi, hl, hd⟩
      have hlt : w.heap.size + 1 < W.heap.size := (Array.getElem?_eq_some_iff.1 hl).1
      have hy := run_yield (P := P) (args := #[arg k]) hl (by rw [hrec]; simp [hps])
      rw [hrec] at hy
      refine ⟨fn, _, assign, body, hy, roundIn_of_wpIn hfn (hassign _ k W _ hk ⟨_, run_beginRound hl (by rw [hrec]), ?_⟩)⟩
      have hl2 : (W.putObj (w.heap.size + 1) (.loop { rec .ready none with state := .busy })).heap[w.heap.size + 1]? = some (.loop { rec .ready none with state := .busy }) := World.putObj_heap_same hlt
      have hd2 : (W.putObj (w.heap.size + 1) (.loop { rec .ready none with state := .busy })).heap[w.heap.size]? = some (.deferred (some [])) := (World.putObj_heap_other (by omega)).trans hd
      have hf2 : Fr (fun j => B j ∨ j = w.heap.size ∨ j = w.heap.size + 1) W (W.putObj (w.heap.size + 1) (.loop { rec .ready none with state := .busy })) := (Fr.refl (fun j => B j ∨ j = w.heap.size ∨ j = w.heap.size + 1) W).putObj (.inl (.inr (.inr rfl))) _
      have hf2' : Fr (fun j => S j ∨ w.heap.size ≤ j) W (W.putObj (w.heap.size + 1) (.loop { rec .ready none with state := .busy })) := (Fr.refl (fun j => S j ∨ w.heap.size ≤ j) W).putObj (.inl (.inr (Nat.le_succ _))) _
      refine wpIn_mono (hbody _ k _ hk (hI _ _ _ hi hf2)) ?_
      have fin : ∀ (jump : Option Code) (W3 : World), Fr S (W.putObj (w.heap.size + 1) (.loop { rec .ready none with state := .busy })) W3 →
          (Instr.endRound (w.heap.size + 1) jump).run P W3 = .ok (.bool jump.isNone) (W3.putObj (w.heap.size + 1) (.loop (rec (if jump.isNone then .ready else .done) jump))) ∧
          Fr (fun j => B j ∨ j = w.heap.size ∨ j = w.heap.size + 1) W3 (W3.putObj (w.heap.size + 1) (.loop (rec (if jump.isNone then .ready else .done) jump))) ∧
          (W3.putObj (w.heap.size + 1) (.loop (rec (if jump.isNone then .ready else .done) jump))).heap[w.heap.size + 1]? = some (.loop (rec (if jump.isNone then .ready else .done) jump)) ∧
          (W3.putObj (w.heap.size + 1) (.loop (rec (if jump.isNone then .ready else .done) jump))).heap[w.heap.size]? = some (.deferred (some [])) ∧
          Fr (fun j => S j ∨ w.heap.size ≤ j) W (W3.putObj (w.heap.size + 1) (.loop (rec (if jump.isNone then .ready else .done) jump))) := fun jump W3 hf3 => by
        have hl3 : W3.heap[w.heap.size + 1]? = some (.loop { rec .ready none with state := .busy }) := (hf3.block _ (Array.getElem?_eq_some_iff.1 hl2).1 (fun hs => by have := hSw _ hs; omega)).trans hl2
        have hd3 : W3.heap[w.heap.size]? = some (.deferred (some [])) := (hf3.block _ (Array.getElem?_eq_some_iff.1 hd2).1 (fun hs => by have := hSw _ hs; omega)).trans hd2
        have := run_endRound (P := P) jump hl3
        rw [hrec] at this ⊢
        refine ⟨this, ?_, World.putObj_heap_same (Array.getElem?_eq_some_iff.1 hl3).1, (World.putObj_heap_other (by omega)).trans hd3, ?_⟩
        · exact (Fr.refl (fun j => B j ∨ j = w.heap.size ∨ j = w.heap.size + 1) W3).putObj (.inl (.inr (.inr rfl))) _
        · rw [hrec] at hf2' hf3
          exact (hf2'.trans hf3 (fun j hj => .inl (.inl hj))).putObj (.inl (.inr (Nat.le_succ _))) _
      rintro e a3 W3 hp
      cases e with
      | normal =>
        obtain ⟨hf3, hi3⟩ := hp
        obtain ⟨hr, hf4, hl4, hd4, hf5⟩ := fin none W3 hf3
        exact ⟨_, _, hr, .inl ⟨rfl, ⟨hI _ _ _ hi3 hf4, hl4, hd4⟩, hf5⟩⟩
      | ret =>
        obtain ⟨hf3, hi3⟩ := hp
        obtain ⟨hr, hf4, hl4, hd4, hf5⟩ := fin (some .ret) W3 hf3
        exact ⟨_, _, hr, .inr ⟨rfl, ⟨.ret, k, hk, hIx _ _ _ _ hi3 hf4, hl4, hd4⟩, hf5⟩⟩
      | exit id =>
        obtain ⟨hf3, hi3⟩ := hp
        obtain ⟨hr, hf4, hl4, hd4, hf5⟩ := fin (some (.exit id)) W3 hf3
        exact ⟨_, _, hr, .inr ⟨rfl, ⟨.exit id, k, hk, hIx _ _ _ _ hi3 hf4, hl4, hd4⟩, hf5⟩⟩
      | goto t =>
        obtain ⟨hf3, hi3⟩ := hp
        obtain ⟨hr, hf4, hl4, hd4, hf5⟩ := fin (some (.goto t)) W3 hf3
        exact ⟨_, _, hr, .inr ⟨rfl, ⟨.goto t, k, hk, hIx _ _ _ _ hi3 hf4, hl4, hd4⟩, hf5⟩⟩
      | panic ch => exact hp.elim
      | outgrown => exact hp.elim
    · rintro e W2 ⟨⟨v, rfl⟩, (⟨hi, hl, hd⟩ | ⟨c, k, hk, hi, hl, hd⟩)⟩
      · have hf3 : Fr (fun j => B j ∨ j = w.heap.size ∨ j = w.heap.size + 1) W2 (W2.putObj (w.heap.size + 1) (.loop { rec .ready none with state := .exhausted })) := (Fr.refl (fun j => B j ∨ j = w.heap.size ∨ j = w.heap.size + 1) W2).putObj (.inl (.inr (.inr rfl))) _
        exact ⟨none, _, by have := run_endLoop (P := P) hl (by rw [hrec]; simp); rw [hrec] at this; exact this, hdone _ _ (Nat.le_refl _) (hI _ _ _ hi (by first | exact hf3 | (rw [hrec] at hf3; exact hf3))) ((World.putObj_heap_other (by omega)).trans hd)⟩
      · have hf3 : Fr (fun j => B j ∨ j = w.heap.size ∨ j = w.heap.size + 1) W2 (W2.putObj (w.heap.size + 1) (.loop { rec .done (some c) with state := .exhausted })) := (Fr.refl (fun j => B j ∨ j = w.heap.size ∨ j = w.heap.size + 1) W2).putObj (.inl (.inr (.inr rfl))) _
        exact ⟨some c, _, by have := run_endLoop (P := P) hl (by rw [hrec]; simp); rw [hrec] at this; exact this, hstop _ c k _ (Nat.le_refl _) hk (hIx _ _ _ _ hi (by first | exact hf3 | (rw [hrec] at hf3; exact hf3))) ((World.putObj_heap_other (by omega)).trans hd)⟩
end
end Go.Proofs.YtgbaijfgmeealaaGreat
