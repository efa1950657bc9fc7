/-
  The device's Cached. The device's Crash. Plain laws on devices. Conditions: none.
-/
import Derived.Test.YtdeckbdaencjnaaDoorDevE
import Derived.Test.YtdeckbdaencjnaaDoorShelf
import Derived.Sort.OwnSortedInts
set_option linter.unusedVariables false
set_option linter.unusedSimpArgs false
namespace Go.Proofs.YtdeckbdaencjnaaDoor
open Go.RowKit
open Go.ChangeMaps (setBlock)

theorem info_int : (Tryd.prog.info? 3).map (fun i => (i.zero, i.size, i.bytes)) = some (some (.int .i64 0), 1, 8) := by kernel_rfl
theorem und_ints : Tryd.prog.underlying 69 = some (.slice 3) := by kernel_rfl

/-- Two lists that rise, of the same numbers, are one. -/
theorem rising_eq : ∀ (l m : List Int), l.Pairwise (· < ·) → m.Pairwise (· < ·) → (∀ x, x ∈ l ↔ x ∈ m) → l = m
  | [], [], _, _, _ => rfl
  | [], y :: m, _, _, h => absurd ((h y).2 (by simp)) (by simp)
  | x :: l, [], _, _, h => absurd ((h x).1 (by simp)) (by simp)
  | x :: l, y :: m, hl, hm, h => by
    obtain ⟨h1, h2⟩ := List.pairwise_cons.1 hl
    obtain ⟨h3, h4⟩ := List.pairwise_cons.1 hm
    have hxy : x = y := by
      rcases List.mem_cons.1 ((h x).1 (by simp)) with e | hx
      · exact e
      · rcases List.mem_cons.1 ((h y).2 (by simp)) with e | hy
        · exact e.symm
        · have := h1 y hy; have := h3 x hx; omega
    subst hxy
    have : l = m := rising_eq l m h2 h4 fun z => by
      have hz := h z
      simp only [List.mem_cons] at hz
      constructor
      · intro hzl
        rcases hz.1 (.inr hzl) with e | e
        · have := h1 z hzl; omega
        · exact e
      · intro hzm
        rcases hz.2 (.inr hzm) with e | e
        · have := h3 z hzm; omega
        · exact e
    rw [this]

theorem sorted_rising (l : List Int) (hn : l.Nodup) : (l.mergeSort fun x y => decide (x ≤ y)).Pairwise (· < ·) := by
  have hp := List.mergeSort_perm l (fun x y => decide (x ≤ y))
  have hs : (l.mergeSort fun x y => decide (x ≤ y)).Pairwise (fun a b => decide (a ≤ b) = true) := List.pairwise_mergeSort (by intro a b c; simp; omega) (by intro a b; simp; omega) l
  have hn' : (l.mergeSort fun x y => decide (x ≤ y)).Nodup := hp.nodup_iff.2 hn
  have := hs.and hn'
  refine this.imp ?_
  rintro a b ⟨h1, h2⟩
  have h3 : a ≤ b := by simpa using h1
  have h4 : a ≠ b := h2
  omega

/-- The cached places as integers. -/
def Dev.cachedI (D : Dev) : List Int := D.cached.map fun (i : Nat) => (i : Int)
theorem Dev.cachedI_rising (D : Dev) : D.cachedI.Pairwise (· < ·) := by
  unfold Dev.cachedI Dev.cached
  rw [List.pairwise_map]
  exact ((List.pairwise_lt_range).filter _).imp (by intro a b h; omega)
theorem Dev.mem_cachedI {D : Dev} (ok : D.Ok) (x : Int) : x ∈ D.cachedI ↔ ∃ v, D.look (.int .i64 x) = some v := by
  unfold Dev.cachedI Dev.cached
  simp only [List.mem_map, List.mem_filter, List.mem_range]
  constructor
  · rintro ⟨i, ⟨hi, hs⟩, rfl⟩
    obtain ⟨s, hs⟩ := Option.isSome_iff_exists.1 hs
    exact ⟨secVal s, by simp [Dev.look, hs]⟩
  · rintro ⟨v, hv⟩
    obtain ⟨i, s, hk, hs, _⟩ := Dev.look_inv hv
    injection hk with _ hk
    subst hk
    refine ⟨i, ⟨?_, by simp [hs]⟩, rfl⟩
    rw [← ok.len]
    exact (List.getElem?_eq_some_iff.1 hs).1

theorem sorted_keys {P : Program} {k : TypeId} {es : Array MapEntry} {cl : Nat} {D : Dev} (ok : D.Ok) (hM : MapIs P k es cl D.look) (ks : List Int) (hp : (ks.map (Value.int .i64)).Perm (es.toList.map (·.key))) :
    (ks.mergeSort fun x y => decide (x ≤ y)) = D.cachedI := by
  have hnd : (es.toList.map (·.key)).Nodup := List.pairwise_map.2 hM.apart
  have hn : (ks.map (Value.int .i64)).Nodup := hp.nodup_iff.2 hnd
  have hnk : ks.Nodup := by
    have := List.pairwise_map.1 hn
    exact this.imp (fun h e => h (by rw [e]))
  refine rising_eq _ _ (sorted_rising _ hnk) D.cachedI_rising fun x => ?_
  rw [(List.mergeSort_perm ks _).mem_iff, Dev.mem_cachedI ok]
  constructor
  · intro hx
    obtain ⟨e, he, hk⟩ := List.mem_map.1 (hp.mem_iff.1 (List.mem_map.2 ⟨x, hx, rfl⟩))
    exact ⟨e.val, by rw [← hk]; exact hM.holds e he⟩
  · rintro ⟨v, hv⟩
    obtain ⟨e, he, hk, _⟩ := hM.all _ _ hv
    obtain ⟨y, hy, e1⟩ := List.mem_map.1 (hp.mem_iff.2 (List.mem_map.2 ⟨e, he, hk⟩))
    injection e1 with _ e1
    rw [← e1]; exact hy

/-- What the loop of Cached keeps. -/
structure CachedAt (w : World) (mb : Nat) (es : Array MapEntry) (cl : Nat) (kq : Nat) (v : Value) (wr : World) : Prop where
  ex : ∃ (left : List MapEntry) (ks : List Int), kq = left.length ∧ Rng wr w.heap.size mb es cl left ∧ (ks.map (Value.int .i64) ++ left.map (·.key)).Perm (es.toList.map (·.key)) ∧ (∀ e ∈ left, e ∈ es.toList) ∧
    wr.ownsRow w.heap.size 3 1 v ks.length (ks.map (Value.int .i64))
  fr : Fr F0 w wr

/-- A slice of these integers, of the call's own. -/
structure IntsRet (w w' : World) (e : Ending) (xs : List Int) : Prop where
  ex : ∃ A c, e = .returned (.slice A xs.length c) ∧ ValsAt w' A (xs.map (Value.int .i64)) ∧ xs.length ≤ c ∧ (∀ ad, A = some ad → w.heap.size ≤ ad.block) ∧ Fr F0 w w'

section
variable {w : World} {db lb mb : Nat} {D : Dev}

theorem late_size {P : Program} {k : TypeId} {es : Array MapEntry} {cl : Nat} {D : Dev} (ok : D.Ok) (hM : MapIs P k es cl D.look) : es.toList.length ≤ 4096 := by
  have hk : (es.toList.map fun e => intOf e.key).map (Value.int .i64) = es.toList.map (·.key) := by
    rw [List.map_map]
    refine List.map_congr_left fun e he => ?_
    obtain ⟨i, s, hk, hs, _⟩ := Dev.look_inv (hM.holds e he)
    simp [hk, intOf]
  have hs := sorted_keys ok hM (es.toList.map fun e => intOf e.key) (by rw [hk])
  have hl : ((es.toList.map fun e => intOf e.key).mergeSort fun x y => decide (x ≤ y)).length = es.toList.length := by simp
  rw [hs] at hl
  rw [← hl]
  have : D.cachedI.length ≤ D.laid.length := by
    unfold Dev.cachedI Dev.cached
    rw [List.length_map]
    have := List.length_filter_le (fun i => ((D.late[i]?).join).isSome) (List.range D.laid.length)
    simpa using this
  have := ok.most
  omega

set_option maxRecDepth 100000 in
set_option maxHeartbeats 1000000 in
theorem cached_c (h : DevAt Tryd.prog 3 w db lb mb D) :
    Calls Tryd.prog 71 #[.pointer (some ⟨db, 0, none⟩)] w fun e w' => IntsRet w w' e D.cachedI := by
  obtain ⟨k0, k1, -, -, -, -, -, -⟩ := h.cells
  obtain ⟨es, cl, hm, hM⟩ := h.late
  have hrg := run_range_is und_map hm
  have HM := Lib.hid hm
  have hlt := h.lt
  have H0 : CachedAt w mb es cl es.toList.length (.slice none 0 0) (w.alloc (.mapIter (some mb) cl #[] cl)) :=
    ⟨⟨es.toList, [], rfl, Rng.start hlt.2.2, by simp, fun e he => he, own_nil _ _ _ _⟩, (Fr.refl _ _).alloc _⟩
  clear hm
  go_enter Tryd.func71, Tryd.ntmps71
  go_wp2
  clear k0 k1 hrg
  go_loopg [3] (es.toList.length) (fun kq v wr => CachedAt w mb es cl kq v wr)
  case atStart => exact H0
  case round =>
    clear H0
    obtain ⟨⟨left, ks, rfl, hR, hP, hin, hown⟩, hfr⟩ := hrel
    have HR := Lib.hid hR
    have HP := Lib.hid hP
    have HIN := Lib.hid hin
    have HO := Lib.hid hown
    have HMP := Lib.hid (hfr.keep0 HM.out)
    clear hR hP hin hown
    go_wp2_with (at_next; refine wpList_next_is rfl (.tmp 11) rfl (by rfl) hM HMP.out HR.out ?_ ?_)
    · intro hnil
      subst hnil
      have hpk : (ks.map (Value.int .i64)).Perm (es.toList.map (·.key)) := by simpa using HP.out
      have hsk := sorted_keys h.ok hM ks hpk
      have HSK := Lib.hid hsk
      have hlen : D.cachedI.length = ks.length := by rw [← hsk, List.length_mergeSort]
      have HLEN := Lib.hid hlen
      have hbig : ks.length < 4611686018427387904 := by
        have := late_size h.ok hM
        have := hpk.length_eq
        simp at this
        simp at *
        omega
      clear hsk hpk hlen
      rcases HO.out.2 with ⟨hv, hn⟩ | ⟨g, cap, cur, hv, hg, hh, hn1, hn2, hn3, hn4⟩
      · subst hv
        have HN := Lib.hid hn
        clear hn
        go_wp2_with (go_at_call 100; refine (Tryd.slices_Sort_int_none _ _ _).mono ?_; rintro e w1 ⟨rfl, rfl⟩)
        go_ret
        have hnil : D.cachedI = [] := List.eq_nil_of_length_eq_zero (by rw [HLEN.out]; exact HN.out)
        exact ⟨none, 0, by rw [hnil]; rfl, ⟨fun hp => by rw [hnil] at hp; simp at hp⟩, by rw [hnil]; simp, (fun ad h => by cases h), hfr⟩
      · subst hv
        have HH := Lib.hid hh
        have H3 := Lib.hid hn3
        have H4 := Lib.hid hn4
        clear hh hn3 hn4
        go_wp2_with (go_at_call 100; refine (Tryd.slices_Sort_int g 0 cap ks _ (holds_of_blockI HH.out (by have := H4.out; simpa using this)) (lt_of_block HH.out) hbig).mono ?_; rintro e w1 ⟨rfl, n1, os1, hw1⟩; have HW1 := Lib.hid hw1; clear hw1)
        go_ret
        have hl2 : (ks.mergeSort fun x y => decide (x ≤ y)).length = ks.length := List.length_mergeSort _
        have hown := ownsRow_sortedI (w := wr) (base := w.heap.size) (n := n1) (os := os1) (ss := ks) (ts := ks.mergeSort fun x y => decide (x ≤ y)) hl2 hg HH.out hn1 hn2 (by have := H3.out; simpa using this)
        have hw1 := HW1.out
        rw [← hw1, HSK.out] at hown
        have hgr := grownBy_sortedI (w := wr) (g := g) (n := n1) (os := os1) (ks.mergeSort fun x y => decide (x ≤ y)).toArray
        rw [← hw1] at hgr
        have hf5 : Fr F0 w w1 := hfr.grown hgr (fun k hk => by injection hk with hk; omega)
        refine ⟨some ⟨g, 0, none⟩, cap, by rw [HLEN.out]; rfl, ⟨fun hp => ⟨_, rfl, fun j v hv => ?_⟩⟩, by rw [HLEN.out]; exact hn1, (fun ad h => by cases h; exact hg), hf5⟩
        exact hown.cells rfl j v hv
    · intro e left' w2 hf2 hsz2 hp hes hrg2 hen
      obtain ⟨i, s, hk, hs, hv⟩ := Dev.look_inv (hM.holds e (by simpa using hes))
      rw [hk] at hen
      rw [hk]
      have hown2 := own_keep HO.out hf2 (fun k hk2 e2 => by
        obtain ⟨c, hc⟩ := own_cells HO.out k hk2
        obtain ⟨seen, last, h1, _⟩ := HR.out.ex
        rw [e2, h1] at hc
        cases hc)
      have HO2 := Lib.hid hown2
      have HK := Lib.hid hk
      have HP2 := Lib.hid hp
      have HR2 := Lib.hid hrg2
      have HSZ := Lib.hid hsz2
      have hlen : (ks.length + 1) * 8 ≤ 140737488355328 := by
        have h1 := late_size h.ok hM
        have h2 := HP.out.length_eq
        simp at h2
        have h3 := hp.length_eq
        simp at h3
        simp at h1
        omega
      have hbase : w.heap.size ≤ w2.heap.size := by rw [← hsz2]; exact hfr.size
      clear hown2 hk hs hv hp hrg2 hsz2
      go_wp2_with (at_builtin; refine wpList_append_one rfl (.tmp 16) (.tmp 18) 69 3 8 (.int .i64 0) rfl und_ints info_int rfl (by decide) w.heap.size u3 (ks.map (Value.int .i64)) (.int .i64 (i : Int)) (by rfl) (by rfl) rfl (by rw [List.length_map]; exact HO2.out) hbase (by rw [List.length_map]; exact hlen) ?_; intro v3 w3 hown3 hf3)
      go_roundg (left'.length)
      case measure => have := HP2.out.length_eq; simp at this; omega
      case rel =>
        have hown3' : w3.ownsRow w.heap.size 3 1 v3 (ks ++ [(i : Int)]).length ((ks ++ [(i : Int)]).map (Value.int .i64)) := by simpa using hown3
        have hf3' : Fr (fun k => u3.ownBlock = some k) w2 w3 := hf3
        have hR3 : Rng w3 w.heap.size mb es cl left' := HR2.out.keep hf3' (fun hk2 => by
          obtain ⟨c, hc⟩ := own_cells HO2.out _ hk2
          obtain ⟨seen, last, h1, _⟩ := HR2.out.ex
          rw [h1] at hc
          cases hc)
        have hin' : ∀ e ∈ left', e ∈ es.toList := fun e he => HIN.out e (HP2.out.mem_iff.2 (List.mem_cons_of_mem _ he))
        have hperm : ((ks ++ [(i : Int)]).map (Value.int .i64) ++ left'.map (·.key)).Perm (es.toList.map (·.key)) := by
          have h1 := (HP2.out.map (·.key)).append_left (ks.map (Value.int .i64))
          have h2 := h1.symm.trans HP.out
          simpa [HK.out] using h2
        exact ⟨⟨left', ks ++ [(i : Int)], rfl, hR3, hperm, hin', hown3'⟩, (hfr.trans hf2 (fun k hk => .inr (by omega))).trans hf3' (fun k hk => .inr (own_base HO2.out k hk))⟩
end
end Go.Proofs.YtdeckbdaencjnaaDoor
set_option linter.unusedVariables false
set_option linter.unusedSimpArgs false
namespace Go.Proofs.YtdeckbdaencjnaaDoor
open Go.RowKit
open Go.ChangeMaps (setBlock)

theorem Dev.cachedI_len (D : Dev) : D.cachedI.length = D.cached.length := by simp [Dev.cachedI]
theorem Dev.cachedI_at (D : Dev) (k : Nat) : (D.cachedI.map (Value.int .i64))[k]? = (D.cached[k]?).map fun (i : Nat) => Value.int .i64 (i : Int) := by
  simp only [Dev.cachedI, List.getElem?_map, Option.map_map]; rfl
theorem Dev.cached_mem {D : Dev} {i : Nat} (h : i ∈ D.cached) : i < D.laid.length ∧ ∃ s, D.late[i]? = some (some s) := by
  unfold Dev.cached at h
  simp only [List.mem_filter, List.mem_range] at h
  obtain ⟨s, hs⟩ := Option.isSome_iff_exists.1 h.2
  exact ⟨h.1, s, Option.join_eq_some_iff.1 hs⟩

/-- What the loop of Crash keeps. -/
structure CrashAt (D : Dev) (db lb mb : Nat) (keep : List Bool) (w0 : World) (es : Array MapEntry) (cl : Nat) (td tl : TypeId) (k : Nat) (wr : World) : Prop where
  ex : ∃ L, (∀ u ∈ L, u.length = 64) ∧ L.length = D.laid.length ∧ layKept D (D.cached.drop k) (keep.drop k) L = layKept D D.cached keep D.laid ∧ wr.heap[lb]? = some (.cells (L.flatten.map (Value.int .u8)).toArray tl (0, 0))
  dev : wr.heap[db]? = some (.cells #[.slice (some ⟨lb, 0, none⟩) D.laid.length D.laid.length, .map (some mb), .int .i64 D.budget, .bool D.gone, .int .i64 D.spent] td (0, 0))
  map : wr.heap[mb]? = some (.map es cl)
  fr : Fr (Dv db lb mb) w0 wr

theorem layKept_nil (D : Dev) (is : List Nat) (l : List (List Int)) : layKept D is [] l = l := by cases is <;> rfl

theorem dev_cells_more {w : World} {db : Nat} {a b c d e : Value} {t : TypeId} (h : w.heap[db]? = some (.cells #[a, b, c, d, e] t (0, 0))) : w.cell? ⟨db, 2, none⟩ = some c ∧ w.cell? ⟨db, 3, none⟩ = some d ∧ w.frozen? ⟨db, 2, none⟩ = false ∧ w.frozen? ⟨db, 3, none⟩ = false := by
  simp [World.cell?, World.frozen?, h]

section
variable {w : World} {db lb mb : Nat} {D : Dev}

set_option maxRecDepth 100000 in
set_option maxHeartbeats 1000000 in
theorem crash_c (h : DevAt Tryd.prog 3 w db lb mb D) (A : Option Addr) (c : Nat) (keep : List Bool) (n : Nat) (hn : keep.length = n) (hK : ValsAt w A (keep.map Value.bool)) (hA : ∀ ad, A = some ad → 0 < keep.length → ¬ Dv db lb mb ad.block) (hbig : n ≤ 4611686018427387904) :
    Calls Tryd.prog 36 #[.pointer (some ⟨db, 0, none⟩), .slice A n c] w fun e w' => e = .returned (.tuple #[]) ∧ DevAt Tryd.prog 3 w' db lb mb (D.crash keep) ∧ Fr (Dv db lb mb) w w' := by
  have hz : ((D.laid.length : Int) == 0) = false := by have := h.ok.pos; rw [beq_eq_false_iff_ne]; omega
  have hcl : D.cachedI.length ≤ 4096 := by
    have : D.cachedI.length ≤ D.laid.length := by
      unfold Dev.cachedI Dev.cached
      rw [List.length_map]
      have := List.length_filter_le (fun i => ((D.late[i]?).join).isSome) (List.range D.laid.length)
      simpa using this
    have := h.ok.most
    omega
  go_enter Tryd.func36, Tryd.ntmps36
  go_wp2_with (first
    | (go_at_call 70; refine (size_c h).mono ?_; rintro e w' ⟨rfl, rfl⟩)
    | (go_at_call 71; refine (cached_c h).mono ?_; rintro e w1 ⟨B, c1, rfl, hV, hc1, hB, hf1⟩))
  have h1 := h.keep0 hf1
  have hK1 := hK.keep0 hf1
  obtain ⟨td, hd⟩ := h1.dev
  obtain ⟨tl, hl⟩ := h1.laid
  obtain ⟨es, cl, hm, hM⟩ := h1.late
  have hlt := h.lt
  have H0 : CrashAt D db lb mb keep w1 es cl td tl 0 w1 := ⟨⟨D.laid, h1.ok.secs, rfl, rfl, hl⟩, hd, hm, Fr.refl _ _⟩
  clear hd hl hm
  go_loopg [12] (D.cachedI.length) (fun kq v wr => ∃ k : Nat, k ≤ D.cachedI.length ∧ kq = D.cachedI.length - k ∧ v = .int .i64 (k : Int) ∧ CrashAt D db lb mb keep w1 es cl td tl k wr)
  case atStart => exact ⟨0, Nat.zero_le _, rfl, rfl, H0⟩
  case round =>
    clear H0
    obtain ⟨k, hk, rfl, rfl, ⟨L, hL64, hLn, hLK, hlb⟩, hdv, hmp, hfr⟩ := hrel
    have HL6 := Lib.hid hL64
    have HLL := Lib.hid hLn
    have HLK := Lib.hid hLK
    have HLB := Lib.hid hlb
    have HDV := Lib.hid hdv
    have HMP := Lib.hid hmp
    clear hL64 hLn hLK hlb hdv hmp
    by_cases hlt2 : k < D.cachedI.length
    · have hkc : k < D.cached.length := by rw [← Dev.cachedI_len]; exact hlt2
      obtain ⟨i, hi⟩ : ∃ i, D.cached[k]? = some i := ⟨D.cached[k], List.getElem?_eq_getElem hkc⟩
      obtain ⟨hil, s, hs⟩ := Dev.cached_mem (List.mem_of_getElem? hi)
      obtain ⟨ad, rfl, hcells⟩ := hV.cells (by rw [List.length_map]; omega)
      have hnB : ∀ ad', some ad = some ad' → ¬ Dv db lb mb ad'.block := by
        intro ad' e hd
        have := hB ad' e
        rcases hd with h' | h' | h' <;> omega
      have hcell : wr.cell? (ad.add k) = some (.int .i64 (i : Int)) := by
        obtain ⟨ad', e, hc⟩ := (hV.keep hfr hnB).cells (by rw [List.length_map]; omega)
        cases e
        exact hc k _ (by rw [Dev.cachedI_at, hi]; rfl)
      have hk0 : (0 : Int) ≤ (k : Int) := Int.natCast_nonneg _
      have hk1 : (k : Int) < (D.cachedI.length : Int) := by omega
      have hdrop : D.cached.drop k = i :: D.cached.drop (k + 1) := by
        rw [List.drop_eq_getElem_cons hkc]
        have := (List.getElem?_eq_some_iff.1 hi).2
        rw [this]
      have HS := Lib.hid hs
      have HI := Lib.hid hi
      have HDR := Lib.hid hdrop
      clear hcells hs hi hdrop
      by_cases hkn : k < n
      · have hkn' : (k : Int) < (n : Int) := by omega
        obtain ⟨ad2, rfl, hcells2⟩ := (hK1.keep hfr (fun ad e => hA ad e (by omega))).cells (by rw [List.length_map]; omega)
        have hkl : k < keep.length := by omega
        have hcell2 : wr.cell? (ad2.add k) = some (.bool keep[k]) := hcells2 k _ (by simp [hkl])
        have hdk : keep.drop k = keep[k] :: keep.drop (k + 1) := List.drop_eq_getElem_cons hkl
        clear hcells2
        generalize hbv : keep[k] = bv at *
        have HDK := Lib.hid hdk
        clear hbv hdk
        cases bv with
        | true =>
          obtain ⟨k0, k1⟩ := dev_cells_of HDV.out
          have hi0 : (0 : Int) ≤ (i : Int) := Int.natCast_nonneg _
          have hi1 : (i : Int) < (D.laid.length : Int) := by omega
          have h64 : s.length = 64 := h.ok.lates s (List.mem_of_getElem? HS.out)
          have H64 := Lib.hid h64
          have hki : keyOf Tryd.prog 3 (.int .i64 (i : Int)) = some (.int .i64 (i : Int)) := key_int i (by have := h.ok.most; omega)
          have HKI := Lib.hid hki
          have hlk : D.look (.int .i64 (i : Int)) = some (secVal s) := by simp [Dev.look, HS.out]
          have HLKs := Lib.hid hlk
          clear h64 hki hlk
          go_wp2
          go_still_tail 12, (by kernel_rfl)
          refine wpStill_lookup_is rfl 105 (.tmp 35) (.tmp 36) false rfl keyed_int und_map mb (w := wr.drew) HMP.out hM (by rfl) (.int .i64 (i : Int)) (by rfl) HKI.out (zero_sector _) ?_
          rw [HLKs.out]
          simp only [Option.getD_some, Bool.false_eq_true, if_false]
          repeat still_step
          refine wpStill_nil ?_
          have hfit : i * 64 + (s.map (Value.int .u8)).length ≤ (L.flatten.map (Value.int .u8)).length := by
            rw [List.length_map, List.length_map, H64.out, flat_len L HL6.out, HLL.out]; omega
          refine wpList_store_at rfl 109 (.tmp 38) (.tmp 37) rfl lb (i * 64) (s.map (Value.int .u8)) (by rfl) (by rfl) tl (L.flatten.map (Value.int .u8)) HLB.out (by rw [size_sector, List.length_map, H64.out]) hfit (one_bytes s) ?_
          change wpList _ _ _ _ _ (wr.drew.setRow lb _)
          have hsp := flat_set L i s HL6.out H64.out (by rw [HLL.out]; exact hil)
          rw [hsp]
          clear hsp hfit k0 k1 hcell hcell2
          generalize hX : wr.drew.setRow lb ((L.set i s).flatten.map (Value.int .u8)).toArray = X at *
          have HX := Lib.hid hX
          clear hX
          go_wp2
          go_roundg (D.cachedI.length - (k + 1))
          case measure => omega
          case rel =>
            have hfX : Fr (fun k => k = lb) wr X := by rw [← HX.out]; exact ((Fr.refl _ _).drew).setRow (by exact Or.inl rfl) _
            have hlX : X.heap[lb]? = some (.cells ((L.set i s).flatten.map (Value.int .u8)).toArray tl (0, 0)) := by
              rw [← HX.out]; exact setRow_heap wr.drew lb _ _ tl (0, 0) HLB.out
            have hat : D.at i = s := by simp [Dev.at, HS.out]
            refine ⟨k + 1, by omega, rfl, by first | rfl | (go_num), ⟨⟨L.set i s, fun u hu => ?_, by rw [List.length_set]; exact HLL.out, ?_, hlX⟩, hfX.keep HDV.out (fun e => h.ne1 e), hfX.keep HMP.out (fun e => h.ne3 e.symm), hfr.trans hfX (fun k hk => .inl (.inr (.inl hk)))⟩⟩
            · rcases List.mem_or_eq_of_mem_set hu with h' | h'
              · exact HL6.out u h'
              · rw [h']; exact H64.out
            · rw [← HLK.out, HDR.out, HDK.out]
              simp only [layKept, if_true, hat]
        | false =>
          go_wp2
          go_roundg (D.cachedI.length - (k + 1))
          case measure => omega
          case rel =>
            refine ⟨k + 1, by omega, rfl, by first | rfl | (go_num), ⟨⟨L, HL6.out, HLL.out, ?_, HLB.out⟩, HDV.out, HMP.out, hfr⟩⟩
            rw [← HLK.out, HDR.out, HDK.out]
            simp only [layKept, Bool.false_eq_true, if_false]
      · have hkn' : ¬ (k : Int) < (n : Int) := by omega
        have hnk : n ≤ k := by omega
        go_wp2
        go_roundg (D.cachedI.length - (k + 1))
        case measure => omega
        case rel =>
          refine ⟨k + 1, by omega, rfl, by first | rfl | (go_num), ⟨⟨L, HL6.out, HLL.out, ?_, HLB.out⟩, HDV.out, HMP.out, hfr⟩⟩
          rw [← HLK.out, List.drop_eq_nil_of_le (show keep.length ≤ k + 1 by omega), List.drop_eq_nil_of_le (show keep.length ≤ k by omega), layKept_nil, layKept_nil]
    · have hkm : k = D.cachedI.length := by omega
      obtain ⟨k0, k1⟩ := dev_cells_of HDV.out
      obtain ⟨W, hW⟩ : ∃ W, W = setBlock wr mb (.map #[] cl) := ⟨_, rfl⟩
      have hcl2 := fun ty => MapIs.clear und_map HMP.out ty
      rw [← hW] at hcl2
      have hfW : Fr (fun k => k = mb) wr W := by rw [hW]; exact (Fr.refl _ _).setBlock (by exact Or.inl rfl) _
      have hmW : W.heap[mb]? = some (.map #[] cl) := by rw [hW]; exact set_block HMP.out _
      have hdW := hfW.keep HDV.out (fun e => h.ne2 e)
      have hlW := hfW.keep HLB.out (fun e => h.ne3 e)
      obtain ⟨j2, j3, g2, g3⟩ := dev_cells_more hdW
      have HMW := Lib.hid hmW
      have HDW := Lib.hid hdW
      have HLW := Lib.hid hlW
      have HKM := Lib.hid hkm
      clear hW hmW hdW hlW hkm
      go_wp2
      go_end0
      have hLf : layKept D D.cached keep D.laid = L := by
        rw [← HLK.out, HKM.out, List.drop_eq_nil_of_le (by rw [Dev.cachedI_len]; omega)]
        rfl
      have hcr : (D.crash keep).laid = L := hLf
      have hlook : (D.crash keep).look = fun _ => none := by
        funext x
        cases hx : (D.crash keep).look x with
        | none => rfl
        | some v =>
          obtain ⟨i, s, _, hs, _⟩ := Dev.look_inv hx
          simp [Dev.crash] at hs
      have hfE : Fr (fun k => k = db) W ((W.setCell ⟨db, 3, none⟩ (.bool false)).setCell ⟨db, 2, none⟩ (.int .i64 (-1))) := ((Fr.refl _ _).setCell (by exact Or.inl rfl) _).setCell (by exact Or.inl rfl) _
      refine ⟨rfl, ⟨⟨?_, ?_, ?_, ?_, ?_, by simp [Dev.crash], by simp [Dev.crash]⟩, ⟨td, ?_⟩, ⟨tl, ?_⟩, ⟨#[], cl, hfE.keep HMW.out (fun e => h.ne2 e.symm), ?_⟩, h.ne1, h.ne2, h.ne3⟩, ?_⟩
      · rw [hcr, HLL.out]; simp [Dev.crash, h.ok.len]
      · rw [hcr]; exact HL6.out
      · intro s hs; simp [Dev.crash] at hs
      · rw [hcr, HLL.out]; exact h.ok.pos
      · rw [hcr, HLL.out]; exact h.ok.most
      · rw [hcr, HLL.out]; exact set_cell (set_cell HDW.out 3 _) 2 _
      · rw [hcr]; exact hfE.keep HLW.out (fun e => h.ne1 e.symm)
      · rw [hlook]; exact MapIs.empty _ _ _
      · exact ((hf1.of0.trans hfr (fun _ e => .inl e)).trans hfW (fun _ e => .inl (.inr (.inr e)))).trans hfE (fun _ e => .inl (.inl e))

set_option maxRecDepth 100000 in
set_option maxHeartbeats 400000 in
theorem crash_nil (v : Value) (w : World) : Calls Tryd.prog 36 #[.pointer none, v] w fun e w' => e = .returned (.tuple #[]) ∧ w = w' := by
  go_enter Tryd.func36, Tryd.ntmps36
  go_wp2_with (go_at_call 70; refine (size_nil _).mono ?_; rintro e w' ⟨rfl, rfl⟩)
  go_returns
  exact ⟨rfl, rfl⟩

set_option maxRecDepth 100000 in
set_option maxHeartbeats 400000 in
theorem cached_nil (w : World) : Calls Tryd.prog 71 #[.pointer none] w fun e w' => e = .returned (.slice none 0 0) ∧ w = w' := by
  go_enter Tryd.func71, Tryd.ntmps71
  go_wp2
  go_ret
  exact ⟨rfl, rfl⟩
end
end Go.Proofs.YtdeckbdaencjnaaDoor
set_option linter.unusedVariables false
set_option linter.unusedSimpArgs false
namespace Go.Proofs.YtdeckbdaencjnaaDoor
open Go.RowKit

theorem Dev.lay_laid (D : Dev) : D.lay.laid = (List.range D.laid.length).map D.at := rfl
theorem Dev.lay_len (D : Dev) : D.lay.laid.length = D.laid.length := by simp [Dev.lay]
theorem none_join {α : Type} (l : List (Option α)) (j : Nat) : ((l.map fun _ => (none : Option α))[j]?).join = none := by
  rw [List.getElem?_map]
  cases l[j]? <;> rfl
theorem Dev.lay_at {D : Dev} {i : Nat} (hi : i < D.laid.length) : D.lay.at i = D.at i := by
  have : ((D.lay.late)[i]?).join = none := none_join D.late i
  unfold Dev.at
  rw [this]
  simp [Dev.lay, hi, Dev.at]
theorem Dev.lay_cached (D : Dev) : D.lay.cachedI = [] := by
  unfold Dev.cachedI Dev.cached
  rw [List.filter_eq_nil_iff.2]
  · rfl
  · intro j _
    have : ((D.lay.late)[j]?).join = none := none_join D.late j
    rw [this]
    simp
theorem Dev.crash_cached (D : Dev) (keep : List Bool) : (D.crash keep).cachedI = [] := by
  unfold Dev.cachedI Dev.cached
  rw [List.filter_eq_nil_iff.2]
  · rfl
  · intro j _
    have : (((D.crash keep).late)[j]?).join = none := none_join D.late j
    rw [this]
    simp
theorem Dev.crash_at (D : Dev) (keep : List Bool) (i : Nat) : (D.crash keep).at i = (layKept D D.cached keep D.laid).getD i [] := by
  have : (((D.crash keep).late)[i]?).join = none := none_join D.late i
  unfold Dev.at
  rw [this]
  rfl
theorem Dev.crash_nil_at (D : Dev) (i : Nat) : (D.crash []).at i = D.laid.getD i [] := by rw [Dev.crash_at, layKept_nil]
theorem Dev.crash_nil_len (D : Dev) : (D.crash []).laid.length = D.laid.length := by
  show (layKept D D.cached [] D.laid).length = _
  rw [layKept_nil]
theorem layKept_len (D : Dev) : ∀ (is : List Nat) (bs : List Bool) (l : List (List Int)), (layKept D is bs l).length = l.length
  | [], bs, l => by cases bs <;> rfl
  | i :: is, [], l => rfl
  | i :: is, b :: bs, l => by
    simp only [layKept]
    rw [layKept_len D is bs]
    split <;> simp
theorem Dev.crash_len (D : Dev) (keep : List Bool) : (D.crash keep).laid.length = D.laid.length := layKept_len D D.cached keep D.laid
theorem Dev.spend_gone {D : Dev} (hg : D.gone = false) (hb : D.budget ≠ 0) : D.spend.gone = false := by rw [Dev.spend_go hb]; exact hg
theorem Dev.spend_neg {D : Dev} (hb : D.budget = -1) : D.spend.budget = -1 := by rw [Dev.spend_go (by omega)]; simp [hb]
theorem Dev.flush_ok {D : Dev} (hg : D.gone = false) (hb : D.budget ≠ 0) : D.flushE = 0 ∧ D.flush = D.spend.lay := by
  simp [Dev.flushE, Dev.flush, hg, hb, Dev.spendE]
theorem pad64_head (x : Int) : (pad64 [x])[0]? = some x := by simp [pad64]
theorem Dev.at_late {D : Dev} {i : Nat} {s : List Int} (h : D.late[i]? = some (some s)) : D.at i = s := by simp [Dev.at, h]
theorem Dev.at_laid {D : Dev} {i : Nat} (h : D.late[i]? = some none) : D.at i = D.laid.getD i [] := by simp [Dev.at, h]
end Go.Proofs.YtdeckbdaencjnaaDoor
