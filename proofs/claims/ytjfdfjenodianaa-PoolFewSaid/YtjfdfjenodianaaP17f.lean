/-
  heronrylaw17.PoolTells: plain laws. Conditions: none.
-/
import Derived.Test.YtjfdfjenodianaaP17e
set_option linter.unusedVariables false
set_option linter.unusedSimpArgs false
namespace Go.Proofs.Ytjfdfjenodianaa
open Go.RowKit
/-- What is told of each place is what its frame holds, or stands on the device; behind a clean frame it stands there too. -/
structure Tells (P : Pl) (D : Dev) (W : List (List Int)) (K : Nat) : Prop where
  mem : ∀ f ∈ P.fs, W[f.at_.toNat]? = some f.b
  clean : ∀ f ∈ P.fs, f.dirty = false → D.at f.at_.toNat = f.b
  off : ∀ a : Nat, a < 12 → (a : Int) ∉ P.fs.map Fm.at_ → W[a]? = some (D.at a)
  late : ∀ f ∈ P.fs, f.lsn ≤ 15
  len : W.length = 12
  s0 : 0 ≤ D.spent
  s1 : D.spent ≤ (K : Int)
theorem mem_set_ix {fs : List Fm} {i : Nat} {x g : Fm} (h : g ∈ fs.set i x) : g = x ∨ ∃ q, q ≠ i ∧ fs[q]? = some g := by
  obtain ⟨q, hq⟩ := List.mem_iff_getElem?.1 h
  by_cases hqi : i = q
  · subst hqi
    have hl : i < fs.length := by have := (List.getElem?_eq_some_iff.1 hq).1; simpa using this
    rw [List.getElem?_set_self hl] at hq
    exact .inl (Option.some.inj hq).symm
  · rw [List.getElem?_set_ne hqi] at hq
    exact .inr ⟨q, fun e => hqi e.symm, hq⟩
theorem set_mem_ix {fs : List Fm} {i q : Nat} {x g : Fm} (hq : q ≠ i) (h : fs[q]? = some g) : g ∈ fs.set i x :=
  List.mem_of_getElem? (by rw [List.getElem?_set_ne (fun e => hq e.symm)]; exact h)
theorem at_ne {fs : List Fm} (hnd : (fs.map Fm.at_).Nodup) {i q : Nat} {f g : Fm} (hf : fs[i]? = some f) (hg : fs[q]? = some g) (hq : q ≠ i) : g.at_ ≠ f.at_ := by
  intro e
  obtain ⟨h1, h2⟩ := List.getElem?_eq_some_iff.1 hf
  obtain ⟨h3, h4⟩ := List.getElem?_eq_some_iff.1 hg
  have hp := List.pairwise_iff_getElem.1 hnd
  rcases Nat.lt_or_gt_of_ne hq with hlt | hlt
  · exact hp q i (by simpa using h3) (by simpa using h1) hlt (by simp [h2, h4, e])
  · exact hp i q (by simpa using h1) (by simpa using h3) hlt (by simp [h2, h4, e])
theorem Tells.bare {P Q : Pl} {D : Dev} {W : List (List Int)} {K : Nat} (h : Tells P D W K) (hb : Q.fs.map Fm.bare = P.fs.map Fm.bare) : Tells Q D W K := by
  refine ⟨fun f hf => ?_, fun f hf hd => ?_, fun a ha hn => ?_, fun f hf => ?_, h.len, h.s0, h.s1⟩
  · obtain ⟨g, hg, he⟩ := bare_mem hb hf
    have e1 : f.at_ = g.at_ := (congrArg Fm.at_ he).symm
    have e2 : f.b = g.b := (congrArg Fm.b he).symm
    rw [e1, e2]; exact h.mem g hg
  · obtain ⟨g, hg, he⟩ := bare_mem hb hf
    have e1 : f.at_ = g.at_ := (congrArg Fm.at_ he).symm
    have e2 : f.b = g.b := (congrArg Fm.b he).symm
    have e3 : f.dirty = g.dirty := (congrArg Fm.dirty he).symm
    rw [e1, e2]; exact h.clean g hg (e3 ▸ hd)
  · rw [bare_at hb] at hn; exact h.off a ha hn
  · obtain ⟨g, hg, he⟩ := bare_mem hb hf
    have e1 : f.lsn = g.lsn := (congrArg Fm.lsn he).symm
    rw [e1]; exact h.late g hg
theorem Tells.more {P : Pl} {D : Dev} {W : List (List Int)} {K K' : Nat} (h : Tells P D W K) (hk : K ≤ K') : Tells P D W K' :=
  ⟨h.mem, h.clean, h.off, h.late, h.len, h.s0, by have := h.s1; omega⟩
theorem Tells.hold {P : Pl} {D : Dev} {W : List (List Int)} {K : Nat} (h : Tells P D W K) (hK : K < 1000000) (hw : PoolWf P D 12) {a : Nat} (ha : a < 12) : Tells (P.hold D a).2.1 (P.hold D a).2.2 W (K + 1) := by
  have hc := hold_case P D a
  cases hc with
  | hit i f hx hi hfa he =>
    rw [he]
    refine (h.bare ?_).more (Nat.le_succ K)
    show (P.fs.set i { f with used := true }).map Fm.bare = P.fs.map Fm.bare
    apply List.ext_getElem?
    intro q
    rw [List.getElem?_map, List.getElem?_map]
    by_cases hq : i = q
    · subst hq
      rw [List.getElem?_set_self (List.getElem?_eq_some_iff.1 hi).1, hi]
      rfl
    · rw [List.getElem?_set_ne hq]
  | new hx hr he =>
    rw [he]
    refine Tells.more ⟨fun f hf => ?_, fun f hf hd => ?_, fun b hb hn => ?_, fun f hf => ?_, h.len, h.s0, h.s1⟩ (Nat.le_succ K)
    · rcases List.mem_append.1 hf with hf | hf
      · exact h.mem f hf
      · rw [List.mem_singleton.1 hf]
        exact h.off a ha (idx_none hx)
    · rcases List.mem_append.1 hf with hf | hf
      · exact h.clean f hf hd
      · rw [List.mem_singleton.1 hf]; rfl
    · refine h.off b hb (fun hm => hn ?_)
      show (b : Int) ∈ (P.fs ++ [newFm a (D.at a)]).map Fm.at_
      rw [List.map_append]
      exact List.mem_append_left _ hm
    · rcases List.mem_append.1 hf with hf | hf
      · exact h.late f hf
      · rw [List.mem_singleton.1 hf]; show (0 : Int) ≤ 15; decide
  | full hx hr ho he =>
    rw [he]
    exact (h.bare (Pl.round_bare _ P)).more (Nat.le_succ K)
  | old i f Q D' hx hr hQ hf hD' he =>
    rw [he]
    have hbb : Q.fs.map Fm.bare = P.fs.map Fm.bare := by have := Pl.round_bare (2 * P.fs.length) P; rw [hQ] at this; exact this
    have hq := h.bare hbb
    have hwq := Pl.round_wf hw (2 * P.fs.length)
    rw [hQ] at hwq
    have hfm := List.mem_of_getElem? hf
    have hna : (a : Int) ∉ Q.fs.map Fm.at_ := by rw [bare_at hbb]; exact idx_none hx
    obtain ⟨p0, p1⟩ := hwq.ok.places f hfm
    have hlen := hwq.lens f hfm
    have hfa : f.at_ ≠ (a : Int) := fun e => hna (e ▸ List.mem_map_of_mem hfm)
    have hgw := hwq.good.write p0 p1 (s := f.b) (by omega)
    obtain ⟨_, _, _, w4, w5, w6⟩ := hgw
    rw [pad64_full hlen] at w4
    have hat : D'.at f.at_.toNat = f.b := by
      rw [hD']
      cases hd : f.dirty with
      | true => rw [if_pos rfl]; exact w4
      | false => rw [if_neg (by decide)]; exact hq.clean f hfm hd
    have hne : ∀ j : Nat, (j : Int) ≠ f.at_ → D'.at j = D.at j := by
      intro j hj
      rw [hD']
      split
      · exact w6 j (fun e => hj (by omega))
      · rfl
    have hs0 := h.s0
    have hs1 := h.s1
    have hsp : 0 ≤ D'.spent ∧ D'.spent ≤ ((K + 1 : Nat) : Int) := by
      rw [hD']
      split
      · rw [w5]; unfold wrap64; omega
      · omega
    refine ⟨fun g hg => ?_, fun g hg hd => ?_, fun b hb hn => ?_, fun g hg => ?_, h.len, hsp.1, hsp.2⟩
    · rcases mem_set hg with rfl | hg
      · show W[((a : Int)).toNat]? = some (D'.at a)
        rw [Int.toNat_natCast, hne a (fun e => hfa e.symm)]
        exact hq.off a ha hna
      · exact hq.mem g hg
    · rcases mem_set_ix hg with rfl | ⟨q, hqi, hgq⟩
      · show D'.at ((a : Int)).toNat = D'.at a
        rw [Int.toNat_natCast]
      · have hgm := List.mem_of_getElem? hgq
        have hga := at_ne hwq.nd hf hgq hqi
        have hgp := hwq.ok.places g hgm
        have hdd : g.dirty = false := hd
        rw [hne g.at_.toNat (by rw [Int.toNat_of_nonneg hgp.1]; exact hga)]
        exact hq.clean g hgm hdd
    · by_cases hbf : (b : Int) = f.at_
      · have e1 : b = f.at_.toNat := by omega
        have h1 := hq.mem f hfm
        rw [e1, hat]
        exact h1
      · rw [hne b hbf]
        refine hq.off b hb (fun hm => hn ?_)
        obtain ⟨q, g, hgq, hga⟩ := getElem_of_mem_map hm
        have hqi : q ≠ i := by
          intro e
          subst e
          rw [hf] at hgq
          cases hgq
          exact hbf hga.symm
        show (b : Int) ∈ (Q.fs.set i (newFm a (D'.at a))).map Fm.at_
        rw [← hga]
        exact List.mem_map_of_mem (set_mem_ix hqi hgq)
    · rcases mem_set hg with rfl | hg
      · show (0 : Int) ≤ 15; decide
      · exact hq.late g hg
/-- What is put is told. -/
theorem Tells.put {P : Pl} {D : Dev} {W : List (List Int)} {K : Nat} (h : Tells P D W K) (hw : PoolWf P D 12) {i : Nat} {f : Fm} {a : Nat} (ha : a < 12) (hf : P.fs[i]? = some f) (hfa : f.at_ = (a : Int)) (xs : List Int) (lsn : Int) (l1 : lsn ≤ 15) :
    Tells { P with fs := P.fs.set i (putFm f xs lsn) } D (W.set a (pad64 xs)) K := by
  have hl := h.len
  refine ⟨fun g hg => ?_, fun g hg hd => ?_, fun b hb hn => ?_, fun g hg => ?_, by rw [List.length_set]; exact hl, h.s0, h.s1⟩
  · rcases mem_set_ix hg with rfl | ⟨q, hqi, hgq⟩
    · show (W.set a (pad64 xs))[f.at_.toNat]? = some (pad64 xs)
      rw [hfa, Int.toNat_natCast, List.getElem?_set_self (by omega)]
    · have hga := at_ne hw.nd hf hgq hqi
      have hgm := List.mem_of_getElem? hgq
      have hgp := hw.ok.places g hgm
      rw [List.getElem?_set_ne (by rw [hfa] at hga; omega)]
      exact h.mem g hgm
  · rcases mem_set_ix hg with rfl | ⟨q, hqi, hgq⟩
    · cases hd
    · exact h.clean g (List.mem_of_getElem? hgq) hd
  · have hn' : (b : Int) ∉ P.fs.map Fm.at_ := by
      have e1 : (P.fs.set i (putFm f xs lsn)).map Fm.at_ = P.fs.map Fm.at_ := set_map_at hf rfl
      rw [← e1]
      exact hn
    rw [List.getElem?_set_ne (fun e => hn' (by subst e; rw [← hfa]; exact List.mem_map_of_mem (List.mem_of_getElem? hf)))]
    exact h.off b hb hn'
  · rcases mem_set hg with rfl | hg
    · have h1 := h.late f (List.mem_of_getElem? hf)
      show (if f.dirty = true then max lsn f.lsn else lsn) ≤ 15
      split <;> omega
    · exact h.late g hg
/-- Washed, all is told as it was. -/
theorem Tells.washed {P P' : Pl} {D D' : Dev} {W : List (List Int)} {K : Nat} {l : List Int} (h : Tells P D W K) (hw : PoolWf P D 12) (hl : ∀ a ∈ l, a ∈ P.fs.map Fm.at_) (hl64 : l.length ≤ 64) (hx : Washed l P P' D D' 12) : Tells P' D' W (K + 64) := by
  have e1 : P'.fs = P.fs.map (Proofs.Ytjfdfjenodianaa.washed l) := by rw [hx.pool]
  have hsp := hx.spent
  have hs0 := h.s0
  have hs1 := h.s1
  have hats : P'.fs.map Fm.at_ = P.fs.map Fm.at_ := by
    rw [e1, List.map_map]
    exact List.map_congr_left (fun f _ => washed_at l f)
  refine ⟨fun g hg => ?_, fun g hg hd => ?_, fun b hb hn => ?_, fun g hg => ?_, h.len, by omega, by omega⟩
  · rw [e1] at hg
    obtain ⟨f, hf, rfl⟩ := List.mem_map.1 hg
    rw [washed_at, washed_b]
    exact h.mem f hf
  · rw [e1] at hg
    obtain ⟨f, hf, rfl⟩ := List.mem_map.1 hg
    rw [washed_at, washed_b]
    by_cases hm : f.at_ ∈ l
    · exact hx.on f hf hm
    · have hgp := hw.ok.places f hf
      rw [hx.off f.at_.toNat (by rw [Int.toNat_of_nonneg hgp.1]; exact hm)]
      refine h.clean f hf ?_
      unfold Proofs.Ytjfdfjenodianaa.washed at hd
      rw [if_neg hm] at hd
      exact hd
  · rw [hats] at hn
    rw [hx.off b (fun hm => hn (hl _ hm))]
    exact h.off b hb hn
  · rw [e1] at hg
    obtain ⟨f, hf, rfl⟩ := List.mem_map.1 hg
    unfold Proofs.Ytjfdfjenodianaa.washed
    split
    · exact h.late f hf
    · exact h.late f hf
theorem Tells.safe {P : Pl} {D : Dev} {W : List (List Int)} {K : Nat} (h : Tells P D W K) (s : Int) : Tells { P with safe := s } D W K := ⟨h.mem, h.clean, h.off, h.late, h.len, h.s0, h.s1⟩
theorem listed_sub {P : Pl} (t : Fm → Bool) : ∀ a ∈ P.listed t, a ∈ P.fs.map Fm.at_ := by
  intro a ha
  obtain ⟨f, hf, _, rfl⟩ := listed_mem.1 ha
  exact List.mem_map_of_mem hf
/-- All washed, none is dirty, and all stands on the device. -/
theorem Tells.all {P P' : Pl} {D D' : Dev} {W : List (List Int)} {K : Nat} (h : Tells P D W K) (hw : PoolWf P D 12) (hs : 15 ≤ P.safe) (hx : Washed (P.listed fun f => f.dirty && P.may f) P P' D D' 12) (hl : P.fs.length ≤ 64) :
    P'.listed (fun f => f.dirty) = [] ∧ ∀ a : Nat, a < 12 → W[a]? = some (D'.at a) := by
  have hnd : ∀ g ∈ P'.fs, g.dirty = false := by
    intro g hg
    rw [hx.pool] at hg
    obtain ⟨f, hf, rfl⟩ := List.mem_map.1 hg
    cases hd : f.dirty with
    | true =>
      have hm : f.at_ ∈ P.listed fun f => f.dirty && P.may f := by
        refine listed_mem.2 ⟨f, hf, ?_, rfl⟩
        have := h.late f hf
        unfold Pl.may
        simp [hd]
        omega
      unfold Proofs.Ytjfdfjenodianaa.washed
      rw [if_pos hm]
    | false =>
      unfold Proofs.Ytjfdfjenodianaa.washed
      split <;> simp [hd]
  refine ⟨?_, fun a ha => ?_⟩
  · rw [List.eq_nil_iff_forall_not_mem]
    intro a ha
    obtain ⟨f, hf, ht, _⟩ := listed_mem.1 ha
    rw [hnd f hf] at ht
    cases ht
  · have hll := listed_length P (fun f => f.dirty && P.may f)
    have hT := h.washed hw (listed_sub _) (by omega) hx
    by_cases hm : (a : Int) ∈ P'.fs.map Fm.at_
    · obtain ⟨q, g, hgq, hga⟩ := getElem_of_mem_map hm
      have hgm := List.mem_of_getElem? hgq
      have h1 := hT.mem g hgm
      have h2 := hT.clean g hgm (hnd g hgm)
      rw [hga, Int.toNat_natCast] at h1 h2
      rw [h1, h2]
    · exact hT.off a ha hm
theorem Tells.found {P : Pl} {D : Dev} {W : List (List Int)} {K : Nat} (h : Tells P D W K) {f : Fm} (hf : f ∈ P.fs) {a : Nat} (ha : f.at_ = (a : Int)) : W[a]? = some f.b := by
  have := h.mem f hf
  rw [ha, Int.toNat_natCast] at this
  exact this
theorem Dev.new_at12 {n : Nat} (a : Nat) (h : a < n) : (Dev.new n).at a = zsec := Dev.new_at n a h
theorem Tells.new (room : Int) : Tells ⟨[], room, 0, 0, 0⟩ (Dev.new 12) (List.replicate 12 zsec) 0 := by
  refine ⟨fun f hf => by simp at hf, fun f hf => by simp at hf, fun a ha _ => ?_, fun f hf => by simp at hf, by simp, Int.le_refl 0, Int.le_refl 0⟩
  rw [Dev.new_at 12 a ha, List.getElem?_replicate, if_pos ha]
end Go.Proofs.Ytjfdfjenodianaa
