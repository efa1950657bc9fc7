/-
  The device's Cached. Conditions: none.
-/
import Derived.Test.YtdeckbdaencjnaaDoorDevE
import Derived.Test.YtdeckbdaencjnaaDoorShelf
import Derived.Sort.OwnSortedInts
set_option linter.unusedVariables false
set_option linter.unusedSimpArgs false
namespace Go.Proofs.YtdeckbdaencjnaaDoor
open Go.RowKit
open Go.ChangeMaps (setBlock)

theorem info_int : (Tryd.prog.info? 3).map (fun i => (i.zero, i.size, i.bytes)) = some (some (.int .i64 0), 1, 8) := by kernel_rfl
theorem und_ints : Tryd.prog.underlying 69 = some (.slice 3) := by kernel_rfl

/-- Two lists that rise, of the same numbers, are one. -/
theorem rising_eq : ∀ (l m : List Int), l.Pairwise (· < ·) → m.Pairwise (· < ·) → (∀ x, x ∈ l ↔ x ∈ m) → l = m
  | [], [], _, _, _ => rfl
  | [], y :: m, _, _, h => absurd ((h y).2 (by simp)) (by simp)
  | x :: l, [], _, _, h => absurd ((h x).1 (by simp)) (by simp)
  | x :: l, y :: m, hl, hm, h => by
    obtain ⟨h1, h2⟩ := List.pairwise_cons.1 hl
    obtain ⟨h3, h4⟩ := List.pairwise_cons.1 hm
    have hxy : x = y := by
      rcases List.mem_cons.1 ((h x).1 (by simp)) with e | hx
      · exact e
      · rcases List.mem_cons.1 ((h y).2 (by simp)) with e | hy
        · exact e.symm
        · have := h1 y hy; have := h3 x hx; omega
    subst hxy
    have : l = m := rising_eq l m h2 h4 fun z => by
      have hz := h z
      simp only [List.mem_cons] at hz
      constructor
      · intro hzl
        rcases hz.1 (.inr hzl) with e | e
        · have := h1 z hzl; omega
        · exact e
      · intro hzm
        rcases hz.2 (.inr hzm) with e | e
        · have := h3 z hzm; omega
        · exact e
    rw [this]

theorem sorted_rising (l : List Int) (hn : l.Nodup) : (l.mergeSort fun x y => decide (x ≤ y)).Pairwise (· < ·) := by
  have hp := List.mergeSort_perm l (fun x y => decide (x ≤ y))
  have hs : (l.mergeSort fun x y => decide (x ≤ y)).Pairwise (fun a b => decide (a ≤ b) = true) := List.pairwise_mergeSort (by intro a b c; simp; omega) (by intro a b; simp; omega) l
  have hn' : (l.mergeSort fun x y => decide (x ≤ y)).Nodup := hp.nodup_iff.2 hn
  have := hs.and hn'
  refine this.imp ?_
  rintro a b ⟨h1, h2⟩
  have h3 : a ≤ b := by simpa using h1
  have h4 : a ≠ b := h2
  omega

/-- The cached places as integers. -/
def Dev.cachedI (D : Dev) : List Int := D.cached.map fun (i : Nat) => (i : Int)
theorem Dev.cachedI_rising (D : Dev) : D.cachedI.Pairwise (· < ·) := by
  unfold Dev.cachedI Dev.cached
  rw [List.pairwise_map]
  exact ((List.pairwise_lt_range).filter _).imp (by intro a b h; omega)
theorem Dev.mem_cachedI {D : Dev} (ok : D.Ok) (x : Int) : x ∈ D.cachedI ↔ ∃ v, D.look (.int .i64 x) = some v := by
  unfold Dev.cachedI Dev.cached
  simp only [List.mem_map, List.mem_filter, List.mem_range]
  constructor
  · rintro ⟨i, ⟨hi, hs⟩, rfl⟩
    obtain ⟨s, hs⟩ := Option.isSome_iff_exists.1 hs
    exact ⟨secVal s, by simp [Dev.look, hs]⟩
  · rintro ⟨v, hv⟩
    obtain ⟨i, s, hk, hs, _⟩ := Dev.look_inv hv
    injection hk with _ hk
    subst hk
    refine ⟨i, ⟨?_, by simp [hs]⟩, rfl⟩
    rw [← ok.len]
    exact (List.getElem?_eq_some_iff.1 hs).1

theorem sorted_keys {P : Program} {k : TypeId} {es : Array MapEntry} {cl : Nat} {D : Dev} (ok : D.Ok) (hM : MapIs P k es cl D.look) (ks : List Int) (hp : (ks.map (Value.int .i64)).Perm (es.toList.map (·.key))) :
    (ks.mergeSort fun x y => decide (x ≤ y)) = D.cachedI := by
  have hnd : (es.toList.map (·.key)).Nodup := List.pairwise_map.2 hM.apart
  have hn : (ks.map (Value.int .i64)).Nodup := hp.nodup_iff.2 hnd
  have hnk : ks.Nodup := by
    have := List.pairwise_map.1 hn
    exact this.imp (fun h e => h (by rw [e]))
  refine rising_eq _ _ (sorted_rising _ hnk) D.cachedI_rising fun x => ?_
  rw [(List.mergeSort_perm ks _).mem_iff, Dev.mem_cachedI ok]
  constructor
  · intro hx
    obtain ⟨e, he, hk⟩ := List.mem_map.1 (hp.mem_iff.1 (List.mem_map.2 ⟨x, hx, rfl⟩))
    exact ⟨e.val, by rw [← hk]; exact hM.holds e he⟩
  · rintro ⟨v, hv⟩
    obtain ⟨e, he, hk, _⟩ := hM.all _ _ hv
    obtain ⟨y, hy, e1⟩ := List.mem_map.1 (hp.mem_iff.2 (List.mem_map.2 ⟨e, he, hk⟩))
    injection e1 with _ e1
    rw [← e1]; exact hy

/-- What the loop of Cached keeps. -/
structure CachedAt (w : World) (mb : Nat) (es : Array MapEntry) (cl : Nat) (kq : Nat) (v : Value) (wr : World) : Prop where
  ex : ∃ (left : List MapEntry) (ks : List Int), kq = left.length ∧ Rng wr w.heap.size mb es cl left ∧ (ks.map (Value.int .i64) ++ left.map (·.key)).Perm (es.toList.map (·.key)) ∧ (∀ e ∈ left, e ∈ es.toList) ∧
    wr.ownsRow w.heap.size 3 1 v ks.length (ks.map (Value.int .i64))
  fr : Fr F0 w wr

/-- A slice of these integers, of the call's own. -/
structure IntsRet (w w' : World) (e : Ending) (xs : List Int) : Prop where
  ex : ∃ A c, e = .returned (.slice A xs.length c) ∧ ValsAt w' A (xs.map (Value.int .i64)) ∧ xs.length ≤ c ∧ (∀ ad, A = some ad → w.heap.size ≤ ad.block) ∧ Fr F0 w w'

section
variable {w : World} {db lb mb : Nat} {D : Dev}

theorem late_size {P : Program} {k : TypeId} {es : Array MapEntry} {cl : Nat} {D : Dev} (ok : D.Ok) (hM : MapIs P k es cl D.look) : es.toList.length ≤ 4096 := by
  have hk : (es.toList.map fun e => intOf e.key).map (Value.int .i64) = es.toList.map (·.key) := by
    rw [List.map_map]
    refine List.map_congr_left fun e he => ?_
    obtain ⟨i, s, hk, hs, _⟩ := Dev.look_inv (hM.holds e he)
    simp [hk, intOf]
  have hs := sorted_keys ok hM (es.toList.map fun e => intOf e.key) (by rw [hk])
  have hl : ((es.toList.map fun e => intOf e.key).mergeSort fun x y => decide (x ≤ y)).length = es.toList.length := by simp
  rw [hs] at hl
  rw [← hl]
  have : D.cachedI.length ≤ D.laid.length := by
    unfold Dev.cachedI Dev.cached
    rw [List.length_map]
    have := List.length_filter_le (fun i => ((D.late[i]?).join).isSome) (List.range D.laid.length)
    simpa using this
  have := ok.most
  omega

set_option maxRecDepth 100000 in
set_option maxHeartbeats 1000000 in
theorem cached_c (h : DevAt Tryd.prog 3 w db lb mb D) :
    Calls Tryd.prog 71 #[.pointer (some ⟨db, 0, none⟩)] w fun e w' => IntsRet w w' e D.cachedI := by
  obtain ⟨k0, k1, -, -, -, -, -, -⟩ := h.cells
  obtain ⟨es, cl, hm, hM⟩ := h.late
  have hrg := run_range_is und_map hm
  have HM := Lib.hid hm
  have hlt := h.lt
  have H0 : CachedAt w mb es cl es.toList.length (.slice none 0 0) (w.alloc (.mapIter (some mb) cl #[] cl)) :=
    ⟨⟨es.toList, [], rfl, Rng.start hlt.2.2, by simp, fun e he => he, own_nil _ _ _ _⟩, (Fr.refl _ _).alloc _⟩
  clear hm
  go_enter Tryd.func71, Tryd.ntmps71
  go_wp2
  clear k0 k1 hrg
  go_loopg [3] (es.toList.length) (fun kq v wr => CachedAt w mb es cl kq v wr)
  case atStart => exact H0
  case round =>
    clear H0
    obtain ⟨⟨left, ks, rfl, hR, hP, hin, hown⟩, hfr⟩ := hrel
    have HR := Lib.hid hR
    have HP := Lib.hid hP
    have HIN := Lib.hid hin
    have HO := Lib.hid hown
    have HMP := Lib.hid (hfr.keep0 HM.out)
    clear hR hP hin hown
    go_wp2_with (at_next; refine wpList_next_is rfl (.tmp 11) rfl (by rfl) hM HMP.out HR.out ?_ ?_)
    · intro hnil
      subst hnil
      have hpk : (ks.map (Value.int .i64)).Perm (es.toList.map (·.key)) := by simpa using HP.out
      have hsk := sorted_keys h.ok hM ks hpk
      have HSK := Lib.hid hsk
      have hlen : D.cachedI.length = ks.length := by rw [← hsk, List.length_mergeSort]
      have HLEN := Lib.hid hlen
      have hbig : ks.length < 4611686018427387904 := by
        have := late_size h.ok hM
        have := hpk.length_eq
        simp at this
        simp at *
        omega
      clear hsk hpk hlen
      rcases HO.out.2 with ⟨hv, hn⟩ | ⟨g, cap, cur, hv, hg, hh, hn1, hn2, hn3, hn4⟩
      · subst hv
        have HN := Lib.hid hn
        clear hn
        go_wp2_with (go_at_call 100; refine (Tryd.slices_Sort_int_none _ _ _).mono ?_; rintro e w1 ⟨rfl, rfl⟩)
        go_ret
        have hnil : D.cachedI = [] := List.eq_nil_of_length_eq_zero (by rw [HLEN.out]; exact HN.out)
        exact ⟨none, 0, by rw [hnil]; rfl, ⟨fun hp => by rw [hnil] at hp; simp at hp⟩, by rw [hnil]; simp, (fun ad h => by cases h), hfr⟩
      · subst hv
        have HH := Lib.hid hh
        have H3 := Lib.hid hn3
        have H4 := Lib.hid hn4
        clear hh hn3 hn4
        go_wp2_with (go_at_call 100; refine (Tryd.slices_Sort_int g 0 cap ks _ (holds_of_blockI HH.out (by have := H4.out; simpa using this)) (lt_of_block HH.out) hbig).mono ?_; rintro e w1 ⟨rfl, n1, os1, hw1⟩; have HW1 := Lib.hid hw1; clear hw1)
        go_ret
        have hl2 : (ks.mergeSort fun x y => decide (x ≤ y)).length = ks.length := List.length_mergeSort _
        have hown := ownsRow_sortedI (w := wr) (base := w.heap.size) (n := n1) (os := os1) (ss := ks) (ts := ks.mergeSort fun x y => decide (x ≤ y)) hl2 hg HH.out hn1 hn2 (by have := H3.out; simpa using this)
        have hw1 := HW1.out
        rw [← hw1, HSK.out] at hown
        have hgr := grownBy_sortedI (w := wr) (g := g) (n := n1) (os := os1) (ks.mergeSort fun x y => decide (x ≤ y)).toArray
        rw [← hw1] at hgr
        have hf5 : Fr F0 w w1 := hfr.grown hgr (fun k hk => by injection hk with hk; omega)
        refine ⟨some ⟨g, 0, none⟩, cap, by rw [HLEN.out]; rfl, ⟨fun hp => ⟨_, rfl, fun j v hv => ?_⟩⟩, by rw [HLEN.out]; exact hn1, (fun ad h => by cases h; exact hg), hf5⟩
        exact hown.cells rfl j v hv
    · intro e left' w2 hf2 hsz2 hp hes hrg2 hen
      obtain ⟨i, s, hk, hs, hv⟩ := Dev.look_inv (hM.holds e (by simpa using hes))
      rw [hk] at hen
      rw [hk]
      have hown2 := own_keep HO.out hf2 (fun k hk2 e2 => by
        obtain ⟨c, hc⟩ := own_cells HO.out k hk2
        obtain ⟨seen, last, h1, _⟩ := HR.out.ex
        rw [e2, h1] at hc
        cases hc)
      have HO2 := Lib.hid hown2
      have HK := Lib.hid hk
      have HP2 := Lib.hid hp
      have HR2 := Lib.hid hrg2
      have HSZ := Lib.hid hsz2
      have hlen : (ks.length + 1) * 8 ≤ 140737488355328 := by
        have h1 := late_size h.ok hM
        have h2 := HP.out.length_eq
        simp at h2
        have h3 := hp.length_eq
        simp at h3
        simp at h1
        omega
      have hbase : w.heap.size ≤ w2.heap.size := by rw [← hsz2]; exact hfr.size
      clear hown2 hk hs hv hp hrg2 hsz2
      go_wp2_with (at_builtin; refine wpList_append_one rfl (.tmp 16) (.tmp 18) 69 3 8 (.int .i64 0) rfl und_ints info_int rfl (by decide) w.heap.size u3 (ks.map (Value.int .i64)) (.int .i64 (i : Int)) (by rfl) (by rfl) rfl (by rw [List.length_map]; exact HO2.out) hbase (by rw [List.length_map]; exact hlen) ?_; intro v3 w3 hown3 hf3)
      go_roundg (left'.length)
      case measure => have := HP2.out.length_eq; simp at this; omega
      case rel =>
        have hown3' : w3.ownsRow w.heap.size 3 1 v3 (ks ++ [(i : Int)]).length ((ks ++ [(i : Int)]).map (Value.int .i64)) := by simpa using hown3
        have hf3' : Fr (fun k => u3.ownBlock = some k) w2 w3 := hf3
        have hR3 : Rng w3 w.heap.size mb es cl left' := HR2.out.keep hf3' (fun hk2 => by
          obtain ⟨c, hc⟩ := own_cells HO2.out _ hk2
          obtain ⟨seen, last, h1, _⟩ := HR2.out.ex
          rw [h1] at hc
          cases hc)
        have hin' : ∀ e ∈ left', e ∈ es.toList := fun e he => HIN.out e (HP2.out.mem_iff.2 (List.mem_cons_of_mem _ he))
        have hperm : ((ks ++ [(i : Int)]).map (Value.int .i64) ++ left'.map (·.key)).Perm (es.toList.map (·.key)) := by
          have h1 := (HP2.out.map (·.key)).append_left (ks.map (Value.int .i64))
          have h2 := h1.symm.trans HP.out
          simpa [HK.out] using h2
        exact ⟨⟨left', ks ++ [(i : Int)], rfl, hR3, hperm, hin', hown3'⟩, (hfr.trans hf2 (fun k hk => .inr (by omega))).trans hf3' (fun k hk => .inr (own_base HO2.out k hk))⟩
end
end Go.Proofs.YtdeckbdaencjnaaDoor
