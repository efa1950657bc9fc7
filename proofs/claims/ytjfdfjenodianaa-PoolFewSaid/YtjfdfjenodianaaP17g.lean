/-
  heronrylaw17.PoolFew: plain laws; a pool kept while another one on its device goes on. Conditions: none.
-/
import Derived.Test.YtjfdfjenodianaaP17f
set_option linter.unusedVariables false
set_option linter.unusedSimpArgs false
namespace Go.Proofs.Ytjfdfjenodianaa
open Go.RowKit
/-- Nothing is dirty, nothing pinned, all is as it stands on the device. -/
structure Tidy (P : Pl) (D : Dev) : Prop where
  all : ∀ f ∈ P.fs, f.dirty = false ∧ f.pins = 0 ∧ f.b = D.at f.at_.toNat
theorem Tidy.bare {P Q : Pl} {D : Dev} (h : Tidy P D) (hb : Q.fs.map Fm.bare = P.fs.map Fm.bare) : Tidy Q D := by
  refine ⟨fun f hf => ?_⟩
  obtain ⟨g, hg, he⟩ := bare_mem hb hf
  have e1 : f.at_ = g.at_ := (congrArg Fm.at_ he).symm
  have e2 : f.b = g.b := (congrArg Fm.b he).symm
  have e3 : f.dirty = g.dirty := (congrArg Fm.dirty he).symm
  have e4 : f.pins = g.pins := (congrArg Fm.pins he).symm
  rw [e1, e2, e3, e4]; exact h.all g hg
/-- The ways of hold with such a pool. -/
inductive TidyCase (P : Pl) (D : Dev) (a : Nat) : Prop
  | hit (hm : (a : Int) ∈ P.fs.map Fm.at_) (hats : (P.hold D a).2.1.fs.map Fm.at_ = P.fs.map Fm.at_) (hr : (P.hold D a).2.1.reads = P.reads) : TidyCase P D a
  | new (hm : (a : Int) ∉ P.fs.map Fm.at_) (hats : (P.hold D a).2.1.fs.map Fm.at_ = P.fs.map Fm.at_ ++ [(a : Int)]) (hr : (P.hold D a).2.1.reads = P.reads + 1) : TidyCase P D a
  | old (hm : (a : Int) ∉ P.fs.map Fm.at_) (hl : P.room ≤ (P.fs.length : Int)) (hats : ∀ b ∈ (P.hold D a).2.1.fs.map Fm.at_, b = (a : Int) ∨ b ∈ P.fs.map Fm.at_) (hr : (P.hold D a).2.1.reads = P.reads + 1) : TidyCase P D a
theorem Tidy.hold {P : Pl} {D : Dev} {n : Nat} (h : Tidy P D) (hw : PoolWf P D n) {a : Nat} : Tidy (P.hold D a).2.1 D ∧ (P.hold D a).2.2 = D ∧ (∃ i, (P.hold D a).1 = some i) ∧ (P.hold D a).2.1.room = P.room ∧ TidyCase P D a := by
  have hc := hold_case P D a
  cases hc with
  | hit i f hx hi hfa he =>
    have hat : (P.fs.set i { f with used := true }).map Fm.at_ = P.fs.map Fm.at_ := set_map_at hi rfl
    refine ⟨?_, by rw [he], ⟨i, by rw [he]⟩, by rw [he], .hit (hfa ▸ List.mem_map_of_mem (List.mem_of_getElem? hi)) (by rw [he]; exact hat) (by rw [he])⟩
    rw [he]
    refine h.bare ?_
    show (P.fs.set i { f with used := true }).map Fm.bare = P.fs.map Fm.bare
    apply List.ext_getElem?
    intro q
    rw [List.getElem?_map, List.getElem?_map]
    by_cases hq : i = q
    · subst hq
      rw [List.getElem?_set_self (List.getElem?_eq_some_iff.1 hi).1, hi]
      rfl
    · rw [List.getElem?_set_ne hq]
  | new hx hr he =>
    refine ⟨⟨fun f hf => ?_⟩, by rw [he], ⟨_, by rw [he]⟩, by rw [he], .new (idx_none hx) (by rw [he]; show (P.fs ++ [newFm a (D.at a)]).map Fm.at_ = _; rw [List.map_append]; rfl) (by rw [he])⟩
    rw [he] at hf
    rcases List.mem_append.1 hf with hf | hf
    · exact h.all f hf
    · rw [List.mem_singleton.1 hf]
      refine ⟨rfl, rfl, ?_⟩
      show D.at a = D.at ((a : Int)).toNat
      rw [Int.toNat_natCast]
  | full hx hr ho he =>
    exfalso
    have hl : 0 < P.fs.length := by have := hw.ok.room0; omega
    have hh : P.hand < P.fs.length := by rcases hw.ok.hand with h1 | h1 <;> omega
    have h0 := h.all P.fs[0] (List.getElem_mem hl)
    obtain ⟨i, hi⟩ := Pl.round_finds hh (List.getElem?_eq_getElem hl) (by
      unfold Pl.goes
      rw [h0.1, h0.2.1]
      rfl)
    rw [ho] at hi
    cases hi
  | old i f Q D' hx hr hQ hf hD' he =>
    have hbb : Q.fs.map Fm.bare = P.fs.map Fm.bare := by have := Pl.round_bare (2 * P.fs.length) P; rw [hQ] at this; exact this
    have hrr : Q.room = P.room := by have := (Pl.round_room (2 * P.fs.length) P).1; rw [hQ] at this; exact this
    have hq := h.bare hbb
    have hfd := (hq.all f (List.mem_of_getElem? hf)).1
    rw [hfd] at hD'
    have hD2 : D' = D := hD'
    subst hD2
    refine ⟨⟨fun g hg => ?_⟩, by rw [he], ⟨i, by rw [he]⟩, by rw [he]; exact hrr, .old (idx_none hx) (by omega) (fun b hb => ?_) (by rw [he])⟩
    · rw [he] at hg
      rcases mem_set hg with rfl | hg
      · refine ⟨rfl, rfl, ?_⟩
        show D'.at a = D'.at ((a : Int)).toNat
        rw [Int.toNat_natCast]
      · exact hq.all g hg
    · rw [he] at hb
      obtain ⟨g, hg, rfl⟩ := List.mem_map.1 hb
      rcases mem_set hg with rfl | hg
      · exact .inl rfl
      · right
        rw [← bare_at hbb]
        exact List.mem_map_of_mem hg
theorem Tidy.new (room : Int) (D : Dev) : Tidy ⟨[], room, 0, 0, 0⟩ D := ⟨fun f hf => by simp at hf⟩
theorem Tidy.dirty {P : Pl} {D : Dev} (h : Tidy P D) : P.listed (fun f => f.dirty) = [] := by
  rw [List.eq_nil_iff_forall_not_mem]
  intro a ha
  obtain ⟨f, hf, ht, _⟩ := listed_mem.1 ha
  rw [(h.all f hf).1] at ht
  cases ht
theorem listed_all_len (P : Pl) : (P.listed fun _ => true).length = P.fs.length := by
  unfold Pl.listed Pl.ats
  rw [List.length_mergeSort, List.length_map]
  congr 1
  exact List.filter_eq_self.2 (fun _ _ => rfl)
/-- What was met: so many; each is held by the pool with room for all. -/
structure AllMet (P : Pl) (D : Dev) (B : List Bool) : Prop where
  tidy : Tidy P D
  room_ : P.room = 8
  len : B.length = 8
  held : ∀ a : Nat, a < 8 → ((a : Int) ∈ P.fs.map Fm.at_ ↔ B[a]? = some true)
  many : P.fs.length = B.countP id
  reads : P.reads = ((B.countP id : Nat) : Int)
theorem count_met {B : List Bool} {a : Nat} (ha : B[a]? = some true) : B.set a true = B := by
  apply List.ext_getElem?
  intro q
  by_cases hq : a = q
  · subst hq
    rw [List.getElem?_set_self (List.getElem?_eq_some_iff.1 ha).1, ha]
  · rw [List.getElem?_set_ne hq]
theorem count_new {B : List Bool} {a : Nat} (ha : B[a]? = some false) : (B.set a true).countP id = B.countP id + 1 ∧ B.countP id < B.length := by
  obtain ⟨h1, h2⟩ := List.getElem?_eq_some_iff.1 ha
  constructor
  · rw [List.countP_set h1, h2]
    simp
  · have h3 := List.countP_le_length (p := id) (l := B)
    have h4 : B.countP id ≠ B.length := by
      intro e
      have := List.countP_eq_length.1 e false (List.mem_of_getElem? ha)
      cases this
    omega
theorem AllMet.hold {P : Pl} {D : Dev} {B : List Bool} (h : AllMet P D B) (hw : PoolWf P D 8) {a : Nat} (ha : a < 8) : AllMet (P.hold D a).2.1 D (B.set a true) := by
  obtain ⟨h1, h2, h3, h4, h5⟩ := h.tidy.hold hw (a := a)
  have hl := h.len
  have hh := h.held a ha
  cases hb : B[a]? with
  | none => rw [List.getElem?_eq_none_iff] at hb; omega
  | some b =>
    cases b with
    | true =>
      rw [count_met hb]
      rw [hb] at hh
      have hm := hh.2 rfl
      cases h5 with
      | hit hm hats hr => 
        refine ⟨h1, h4.trans h.room_, hl, fun c hc => by rw [hats]; exact h.held c hc, ?_, by rw [hr]; exact h.reads⟩
        have := congrArg List.length hats
        rw [List.length_map, List.length_map] at this
        rw [this]; exact h.many
      | new hn hats hr => exact absurd hm hn
      | old hn hl hats hr => exact absurd hm hn
    | false =>
      obtain ⟨c1, c2⟩ := count_new hb
      have hn : (a : Int) ∉ P.fs.map Fm.at_ := fun hm => by
        have := hh.1 hm
        rw [hb] at this
        cases this
      cases h5 with
      | hit hm hats hr => exact absurd hm hn
      | new hn hats hr =>
        refine ⟨h1, h4.trans h.room_, by rw [List.length_set]; exact hl, fun c hc => ?_, ?_, by rw [hr, h.reads, c1]; rfl⟩
        · rw [hats, List.mem_append, List.mem_singleton, h.held c hc]
          by_cases hca : a = c
          · subst hca
            rw [List.getElem?_set_self (by omega)]
            simp
          · rw [List.getElem?_set_ne hca]
            constructor
            · rintro (h | h)
              · exact h
              · omega
            · exact .inl
        · have := congrArg List.length hats
          rw [List.length_map, List.length_append, List.length_map, List.length_singleton] at this
          rw [this, c1, h.many]
      | old hn hl2 hats hr =>
        have := h.many
        have := h.room_
        omega
theorem AllMet.new (D : Dev) : AllMet ⟨[], 8, 0, 0, 0⟩ D (List.replicate 8 false) :=
  by
  refine ⟨Tidy.new 8 D, rfl, rfl, fun a ha => ?_, rfl, rfl⟩
  constructor
  · intro h; simp at h
  · intro h; rw [List.getElem?_replicate, if_pos ha] at h; cases h
/-- The pool with less room: only what was met is held; it was read as often at least. -/
structure FewMet (P : Pl) (D : Dev) (B : List Bool) (k : Int) : Prop where
  tidy : Tidy P D
  room_ : P.room = k
  len : B.length = 8
  met : ∀ a : Nat, (a : Int) ∈ P.fs.map Fm.at_ → B[a]? = some true
  reads : ((B.countP id : Nat) : Int) ≤ P.reads
theorem FewMet.hold {P : Pl} {D : Dev} {B : List Bool} {k : Int} (h : FewMet P D B k) (hw : PoolWf P D 8) {a : Nat} (ha : a < 8) : FewMet (P.hold D a).2.1 D (B.set a true) k := by
  obtain ⟨h1, h2, h3, h4, h5⟩ := h.tidy.hold hw (a := a)
  have hl := h.len
  have hrd := h.reads
  have hset : ∀ c : Nat, c = a ∨ B[c]? = some true → (B.set a true)[c]? = some true := by
    intro c hc
    by_cases hca : a = c
    · subst hca
      rw [List.getElem?_set_self (by omega)]
    · rw [List.getElem?_set_ne hca]
      rcases hc with hc | hc
      · exact absurd hc.symm hca
      · exact hc
  have hcnt : (B.set a true).countP id ≤ B.countP id + 1 := by
    cases hb : B[a]? with
    | none => rw [List.getElem?_eq_none_iff] at hb; omega
    | some b =>
      cases b with
      | true => rw [count_met hb]; omega
      | false => rw [(count_new hb).1]; exact Nat.le_refl _
  cases h5 with
  | hit hm hats hr =>
    have := h.met a hm
    rw [count_met this]
    exact ⟨h1, h4.trans h.room_, hl, fun c hc => h.met c (by rw [← hats]; exact hc), by rw [hr]; exact hrd⟩
  | new hn hats hr =>
    refine ⟨h1, h4.trans h.room_, by rw [List.length_set]; exact hl, fun c hc => ?_, by rw [hr]; omega⟩
    rw [hats, List.mem_append, List.mem_singleton] at hc
    rcases hc with hc | hc
    · exact hset c (.inr (h.met c hc))
    · exact hset c (.inl (by omega))
  | old hn hl2 hats hr =>
    refine ⟨h1, h4.trans h.room_, by rw [List.length_set]; exact hl, fun c hc => ?_, by rw [hr]; omega⟩
    rcases hats _ hc with hc | hc
    · exact hset c (.inl (by omega))
    · exact hset c (.inr (h.met c hc))
theorem FewMet.new (D : Dev) (k : Int) : FewMet ⟨[], k, 0, 0, 0⟩ D (List.replicate 8 false) k :=
  ⟨Tidy.new k D, rfl, rfl, fun a ha => by simp at ha, by show ((0 : Nat) : Int) ≤ 0; decide⟩
theorem Tidy.found {P : Pl} {D : Dev} {n a i : Nat} {f : Fm} (h : Tidy P D) (hw : PoolWf P D n) (ho : (P.hold D a).1 = some i) (hi : (P.hold D a).2.1.fs[i]? = some f) : f.b = D.at a := by
  have h1 := ((h.hold hw (a := a)).1.all f (List.mem_of_getElem? hi)).2.2
  rw [hold_at ho hi, Int.toNat_natCast] at h1
  exact h1
/-- A device that was written to so often. -/
structure Wrote (D : Dev) (j : Nat) : Prop where
  good : GoodD D 8
  ok : D.Ok
  spent : D.spent = (j : Int)
  has : ∀ i : Nat, i < j → D.at i = pad64 [(i : Int) + 1]
theorem Wrote.new : Wrote (Dev.new 8) 0 := ⟨Dev.new_ok17 8, (Dev.new_ok 8 (by decide) (by decide)), rfl, fun i h => by omega⟩
theorem Wrote.write {D : Dev} {j : Nat} (h : Wrote D j) (hj : j < 8) : D.writeE (j : Int) [(j : Int) + 1] = 0 ∧ Wrote (D.write (j : Int) [(j : Int) + 1]) (j + 1) := by
  obtain ⟨g1, g2, g3, g4, g5, g6⟩ := h.good.write (i := (j : Int)) (by omega) (by omega) (s := [(j : Int) + 1]) (by simp)
  rw [Int.toNat_natCast] at g4 g6
  refine ⟨g1, ⟨g2, ?_, ?_, fun i hi => ?_⟩⟩
  · obtain ⟨_, h2⟩ := Dev.write_ok h.good.gone (by rw [h.good.bud]; decide) (i := j) (by rw [h.good.laid]; omega) (xs := [(j : Int) + 1]) (by simp)
    rw [h2]
    exact Dev.put_ok (Dev.spend_ok h.ok) j (pad64 _) (pad64_len _ (by simp))
  · rw [g5, h.spent]; unfold wrap64; omega
  · by_cases hij : i = j
    · subst hij; exact g4
    · rw [g6 i (fun e => hij e.symm)]; exact h.has i (by omega)
section
variable {w w' : World} {M S : Nat → Prop} {pb db lb mb n N : Nat} {P : Pl} {D : Dev}
/-- A pool, while another one on its device went on. -/
theorem PoolIn.other {M2 : Nat → Prop} (h : PoolIn M2 w pb db lb mb n N P D) (hf : Fr (fun k => M k ∨ Dv db lb mb k) w w') (hM : ∀ k, M k → ¬ M2 k) (hD : DevAt Try.prog 3 w' db lb mb D) : PoolIn M2 w' pb db lb mb n N P D := by
  obtain ⟨v, fbs, hp⟩ := h.ex
  refine ⟨⟨v, fbs, hp.keep hf (fun k hk => ?_)⟩, hD, h.apart, h.wf, h.r0, h.r1⟩
  rcases hk with hk | hk
  · exact hM k hk
  · exact h.apart k hk
end
end Go.Proofs.Ytjfdfjenodianaa
