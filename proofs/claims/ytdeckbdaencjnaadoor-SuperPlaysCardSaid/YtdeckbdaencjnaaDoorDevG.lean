/-
  The device's Crash. Conditions: none.
-/
import Derived.Test.YtdeckbdaencjnaaDoorDevF
set_option linter.unusedVariables false
set_option linter.unusedSimpArgs false
namespace Go.Proofs.YtdeckbdaencjnaaDoor
open Go.RowKit
open Go.ChangeMaps (setBlock)

theorem Dev.cachedI_len (D : Dev) : D.cachedI.length = D.cached.length := by simp [Dev.cachedI]
theorem Dev.cachedI_at (D : Dev) (k : Nat) : (D.cachedI.map (Value.int .i64))[k]? = (D.cached[k]?).map fun (i : Nat) => Value.int .i64 (i : Int) := by
  simp only [Dev.cachedI, List.getElem?_map, Option.map_map]; rfl
theorem Dev.cached_mem {D : Dev} {i : Nat} (h : i ∈ D.cached) : i < D.laid.length ∧ ∃ s, D.late[i]? = some (some s) := by
  unfold Dev.cached at h
  simp only [List.mem_filter, List.mem_range] at h
  obtain ⟨s, hs⟩ := Option.isSome_iff_exists.1 h.2
  exact ⟨h.1, s, Option.join_eq_some_iff.1 hs⟩

/-- What the loop of Crash keeps. -/
structure CrashAt (D : Dev) (db lb mb : Nat) (keep : List Bool) (w0 : World) (es : Array MapEntry) (cl : Nat) (td tl : TypeId) (k : Nat) (wr : World) : Prop where
  ex : ∃ L, (∀ u ∈ L, u.length = 64) ∧ L.length = D.laid.length ∧ layKept D (D.cached.drop k) (keep.drop k) L = layKept D D.cached keep D.laid ∧ wr.heap[lb]? = some (.cells (L.flatten.map (Value.int .u8)).toArray tl (0, 0))
  dev : wr.heap[db]? = some (.cells #[.slice (some ⟨lb, 0, none⟩) D.laid.length D.laid.length, .map (some mb), .int .i64 D.budget, .bool D.gone, .int .i64 D.spent] td (0, 0))
  map : wr.heap[mb]? = some (.map es cl)
  fr : Fr (Dv db lb mb) w0 wr

theorem layKept_nil (D : Dev) (is : List Nat) (l : List (List Int)) : layKept D is [] l = l := by cases is <;> rfl

theorem dev_cells_more {w : World} {db : Nat} {a b c d e : Value} {t : TypeId} (h : w.heap[db]? = some (.cells #[a, b, c, d, e] t (0, 0))) : w.cell? ⟨db, 2, none⟩ = some c ∧ w.cell? ⟨db, 3, none⟩ = some d ∧ w.frozen? ⟨db, 2, none⟩ = false ∧ w.frozen? ⟨db, 3, none⟩ = false := by
  simp [World.cell?, World.frozen?, h]

section
variable {w : World} {db lb mb : Nat} {D : Dev}

set_option maxRecDepth 100000 in
set_option maxHeartbeats 1000000 in
theorem crash_c (h : DevAt Tryd.prog 3 w db lb mb D) (A : Option Addr) (c : Nat) (keep : List Bool) (n : Nat) (hn : keep.length = n) (hK : ValsAt w A (keep.map Value.bool)) (hA : ∀ ad, A = some ad → 0 < keep.length → ¬ Dv db lb mb ad.block) (hbig : n ≤ 4611686018427387904) :
    Calls Tryd.prog 36 #[.pointer (some ⟨db, 0, none⟩), .slice A n c] w fun e w' => e = .returned (.tuple #[]) ∧ DevAt Tryd.prog 3 w' db lb mb (D.crash keep) ∧ Fr (Dv db lb mb) w w' := by
  have hz : ((D.laid.length : Int) == 0) = false := by have := h.ok.pos; rw [beq_eq_false_iff_ne]; omega
  have hcl : D.cachedI.length ≤ 4096 := by
    have : D.cachedI.length ≤ D.laid.length := by
      unfold Dev.cachedI Dev.cached
      rw [List.length_map]
      have := List.length_filter_le (fun i => ((D.late[i]?).join).isSome) (List.range D.laid.length)
      simpa using this
    have := h.ok.most
    omega
  go_enter Tryd.func36, Tryd.ntmps36
  go_wp2_with (first
    | (go_at_call 70; refine (size_c h).mono ?_; rintro e w' ⟨rfl, rfl⟩)
    | (go_at_call 71; refine (cached_c h).mono ?_; rintro e w1 ⟨B, c1, rfl, hV, hc1, hB, hf1⟩))
  have h1 := h.keep0 hf1
  have hK1 := hK.keep0 hf1
  obtain ⟨td, hd⟩ := h1.dev
  obtain ⟨tl, hl⟩ := h1.laid
  obtain ⟨es, cl, hm, hM⟩ := h1.late
  have hlt := h.lt
  have H0 : CrashAt D db lb mb keep w1 es cl td tl 0 w1 := ⟨⟨D.laid, h1.ok.secs, rfl, rfl, hl⟩, hd, hm, Fr.refl _ _⟩
  clear hd hl hm
  go_loopg [12] (D.cachedI.length) (fun kq v wr => ∃ k : Nat, k ≤ D.cachedI.length ∧ kq = D.cachedI.length - k ∧ v = .int .i64 (k : Int) ∧ CrashAt D db lb mb keep w1 es cl td tl k wr)
  case atStart => exact ⟨0, Nat.zero_le _, rfl, rfl, H0⟩
  case round =>
    clear H0
    obtain ⟨k, hk, rfl, rfl, ⟨L, hL64, hLn, hLK, hlb⟩, hdv, hmp, hfr⟩ := hrel
    have HL6 := Lib.hid hL64
    have HLL := Lib.hid hLn
    have HLK := Lib.hid hLK
    have HLB := Lib.hid hlb
    have HDV := Lib.hid hdv
    have HMP := Lib.hid hmp
    clear hL64 hLn hLK hlb hdv hmp
    by_cases hlt2 : k < D.cachedI.length
    · have hkc : k < D.cached.length := by rw [← Dev.cachedI_len]; exact hlt2
      obtain ⟨i, hi⟩ : ∃ i, D.cached[k]? = some i := ⟨D.cached[k], List.getElem?_eq_getElem hkc⟩
      obtain ⟨hil, s, hs⟩ := Dev.cached_mem (List.mem_of_getElem? hi)
      obtain ⟨ad, rfl, hcells⟩ := hV.cells (by rw [List.length_map]; omega)
      have hnB : ∀ ad', some ad = some ad' → ¬ Dv db lb mb ad'.block := by
        intro ad' e hd
        have := hB ad' e
        rcases hd with h' | h' | h' <;> omega
      have hcell : wr.cell? (ad.add k) = some (.int .i64 (i : Int)) := by
        obtain ⟨ad', e, hc⟩ := (hV.keep hfr hnB).cells (by rw [List.length_map]; omega)
        cases e
        exact hc k _ (by rw [Dev.cachedI_at, hi]; rfl)
      have hk0 : (0 : Int) ≤ (k : Int) := Int.natCast_nonneg _
      have hk1 : (k : Int) < (D.cachedI.length : Int) := by omega
      have hdrop : D.cached.drop k = i :: D.cached.drop (k + 1) := by
        rw [List.drop_eq_getElem_cons hkc]
        have := (List.getElem?_eq_some_iff.1 hi).2
        rw [this]
      have HS := Lib.hid hs
      have HI := Lib.hid hi
      have HDR := Lib.hid hdrop
      clear hcells hs hi hdrop
      by_cases hkn : k < n
      · have hkn' : (k : Int) < (n : Int) := by omega
        obtain ⟨ad2, rfl, hcells2⟩ := (hK1.keep hfr (fun ad e => hA ad e (by omega))).cells (by rw [List.length_map]; omega)
        have hkl : k < keep.length := by omega
        have hcell2 : wr.cell? (ad2.add k) = some (.bool keep[k]) := hcells2 k _ (by simp [hkl])
        have hdk : keep.drop k = keep[k] :: keep.drop (k + 1) := List.drop_eq_getElem_cons hkl
        clear hcells2
        generalize hbv : keep[k] = bv at *
        have HDK := Lib.hid hdk
        clear hbv hdk
        cases bv with
        | true =>
          obtain ⟨k0, k1⟩ := dev_cells_of HDV.out
          have hi0 : (0 : Int) ≤ (i : Int) := Int.natCast_nonneg _
          have hi1 : (i : Int) < (D.laid.length : Int) := by omega
          have h64 : s.length = 64 := h.ok.lates s (List.mem_of_getElem? HS.out)
          have H64 := Lib.hid h64
          have hki : keyOf Tryd.prog 3 (.int .i64 (i : Int)) = some (.int .i64 (i : Int)) := key_int i (by have := h.ok.most; omega)
          have HKI := Lib.hid hki
          have hlk : D.look (.int .i64 (i : Int)) = some (secVal s) := by simp [Dev.look, HS.out]
          have HLKs := Lib.hid hlk
          clear h64 hki hlk
          go_wp2
          go_still_tail 12, (by kernel_rfl)
          refine wpStill_lookup_is rfl 105 (.tmp 35) (.tmp 36) false rfl keyed_int und_map mb (w := wr.drew) HMP.out hM (by rfl) (.int .i64 (i : Int)) (by rfl) HKI.out (zero_sector _) ?_
          rw [HLKs.out]
          simp only [Option.getD_some, Bool.false_eq_true, if_false]
          repeat still_step
          refine wpStill_nil ?_
          have hfit : i * 64 + (s.map (Value.int .u8)).length ≤ (L.flatten.map (Value.int .u8)).length := by
            rw [List.length_map, List.length_map, H64.out, flat_len L HL6.out, HLL.out]; omega
          refine wpList_store_at rfl 109 (.tmp 38) (.tmp 37) rfl lb (i * 64) (s.map (Value.int .u8)) (by rfl) (by rfl) tl (L.flatten.map (Value.int .u8)) HLB.out (by rw [size_sector, List.length_map, H64.out]) hfit (one_bytes s) ?_
          change wpList _ _ _ _ _ (wr.drew.setRow lb _)
          have hsp := flat_set L i s HL6.out H64.out (by rw [HLL.out]; exact hil)
          rw [hsp]
          clear hsp hfit k0 k1 hcell hcell2
          generalize hX : wr.drew.setRow lb ((L.set i s).flatten.map (Value.int .u8)).toArray = X at *
          have HX := Lib.hid hX
          clear hX
          go_wp2
          go_roundg (D.cachedI.length - (k + 1))
          case measure => omega
          case rel =>
            have hfX : Fr (fun k => k = lb) wr X := by rw [← HX.out]; exact ((Fr.refl _ _).drew).setRow (by exact Or.inl rfl) _
            have hlX : X.heap[lb]? = some (.cells ((L.set i s).flatten.map (Value.int .u8)).toArray tl (0, 0)) := by
              rw [← HX.out]; exact setRow_heap wr.drew lb _ _ tl (0, 0) HLB.out
            have hat : D.at i = s := by simp [Dev.at, HS.out]
            refine ⟨k + 1, by omega, rfl, by first | rfl | (go_num), ⟨⟨L.set i s, fun u hu => ?_, by rw [List.length_set]; exact HLL.out, ?_, hlX⟩, hfX.keep HDV.out (fun e => h.ne1 e), hfX.keep HMP.out (fun e => h.ne3 e.symm), hfr.trans hfX (fun k hk => .inl (.inr (.inl hk)))⟩⟩
            · rcases List.mem_or_eq_of_mem_set hu with h' | h'
              · exact HL6.out u h'
              · rw [h']; exact H64.out
            · rw [← HLK.out, HDR.out, HDK.out]
              simp only [layKept, if_true, hat]
        | false =>
          go_wp2
          go_roundg (D.cachedI.length - (k + 1))
          case measure => omega
          case rel =>
            refine ⟨k + 1, by omega, rfl, by first | rfl | (go_num), ⟨⟨L, HL6.out, HLL.out, ?_, HLB.out⟩, HDV.out, HMP.out, hfr⟩⟩
            rw [← HLK.out, HDR.out, HDK.out]
            simp only [layKept, Bool.false_eq_true, if_false]
      · have hkn' : ¬ (k : Int) < (n : Int) := by omega
        have hnk : n ≤ k := by omega
        go_wp2
        go_roundg (D.cachedI.length - (k + 1))
        case measure => omega
        case rel =>
          refine ⟨k + 1, by omega, rfl, by first | rfl | (go_num), ⟨⟨L, HL6.out, HLL.out, ?_, HLB.out⟩, HDV.out, HMP.out, hfr⟩⟩
          rw [← HLK.out, List.drop_eq_nil_of_le (show keep.length ≤ k + 1 by omega), List.drop_eq_nil_of_le (show keep.length ≤ k by omega), layKept_nil, layKept_nil]
    · have hkm : k = D.cachedI.length := by omega
      obtain ⟨k0, k1⟩ := dev_cells_of HDV.out
      obtain ⟨W, hW⟩ : ∃ W, W = setBlock wr mb (.map #[] cl) := ⟨_, rfl⟩
      have hcl2 := fun ty => MapIs.clear und_map HMP.out ty
      rw [← hW] at hcl2
      have hfW : Fr (fun k => k = mb) wr W := by rw [hW]; exact (Fr.refl _ _).setBlock (by exact Or.inl rfl) _
      have hmW : W.heap[mb]? = some (.map #[] cl) := by rw [hW]; exact set_block HMP.out _
      have hdW := hfW.keep HDV.out (fun e => h.ne2 e)
      have hlW := hfW.keep HLB.out (fun e => h.ne3 e)
      obtain ⟨j2, j3, g2, g3⟩ := dev_cells_more hdW
      have HMW := Lib.hid hmW
      have HDW := Lib.hid hdW
      have HLW := Lib.hid hlW
      have HKM := Lib.hid hkm
      clear hW hmW hdW hlW hkm
      go_wp2
      go_end0
      have hLf : layKept D D.cached keep D.laid = L := by
        rw [← HLK.out, HKM.out, List.drop_eq_nil_of_le (by rw [Dev.cachedI_len]; omega)]
        rfl
      have hcr : (D.crash keep).laid = L := hLf
      have hlook : (D.crash keep).look = fun _ => none := by
        funext x
        cases hx : (D.crash keep).look x with
        | none => rfl
        | some v =>
          obtain ⟨i, s, _, hs, _⟩ := Dev.look_inv hx
          simp [Dev.crash] at hs
      have hfE : Fr (fun k => k = db) W ((W.setCell ⟨db, 3, none⟩ (.bool false)).setCell ⟨db, 2, none⟩ (.int .i64 (-1))) := ((Fr.refl _ _).setCell (by exact Or.inl rfl) _).setCell (by exact Or.inl rfl) _
      refine ⟨rfl, ⟨⟨?_, ?_, ?_, ?_, ?_, by simp [Dev.crash], by simp [Dev.crash]⟩, ⟨td, ?_⟩, ⟨tl, ?_⟩, ⟨#[], cl, hfE.keep HMW.out (fun e => h.ne2 e.symm), ?_⟩, h.ne1, h.ne2, h.ne3⟩, ?_⟩
      · rw [hcr, HLL.out]; simp [Dev.crash, h.ok.len]
      · rw [hcr]; exact HL6.out
      · intro s hs; simp [Dev.crash] at hs
      · rw [hcr, HLL.out]; exact h.ok.pos
      · rw [hcr, HLL.out]; exact h.ok.most
      · rw [hcr, HLL.out]; exact set_cell (set_cell HDW.out 3 _) 2 _
      · rw [hcr]; exact hfE.keep HLW.out (fun e => h.ne1 e.symm)
      · rw [hlook]; exact MapIs.empty _ _ _
      · exact ((hf1.of0.trans hfr (fun _ e => .inl e)).trans hfW (fun _ e => .inl (.inr (.inr e)))).trans hfE (fun _ e => .inl (.inl e))

set_option maxRecDepth 100000 in
set_option maxHeartbeats 400000 in
theorem crash_nil (v : Value) (w : World) : Calls Tryd.prog 36 #[.pointer none, v] w fun e w' => e = .returned (.tuple #[]) ∧ w = w' := by
  go_enter Tryd.func36, Tryd.ntmps36
  go_wp2_with (go_at_call 70; refine (size_nil _).mono ?_; rintro e w' ⟨rfl, rfl⟩)
  go_returns
  exact ⟨rfl, rfl⟩

set_option maxRecDepth 100000 in
set_option maxHeartbeats 400000 in
theorem cached_nil (w : World) : Calls Tryd.prog 71 #[.pointer none] w fun e w' => e = .returned (.slice none 0 0) ∧ w = w' := by
  go_enter Tryd.func71, Tryd.ntmps71
  go_wp2
  go_ret
  exact ⟨rfl, rfl⟩
end
end Go.Proofs.YtdeckbdaencjnaaDoor
