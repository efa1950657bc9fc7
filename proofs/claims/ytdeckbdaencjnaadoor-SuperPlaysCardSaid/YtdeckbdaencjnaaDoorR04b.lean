/-
  The document's device (layer 4): Cached, settle, Flush, Crash. Conditions: none.
-/
import Derived.Test.YtdeckbdaencjnaaDoorR04a
set_option linter.unusedVariables false
set_option linter.unusedSimpArgs false
namespace Go.Proofs.YtdeckbdaencjnaaDoor
open Go.RowKit

/-- Those of the first j sectors that are cached. -/
def cachedTo (D : Dev) (j : Nat) : List Int := ((List.range j).filter fun i => ((D.late[i]?).join).isSome).map fun (i : Nat) => (i : Int)
theorem cachedTo_all (D : Dev) : cachedTo D D.laid.length = D.cachedI := rfl
theorem cachedTo_yes {D : Dev} {j : Nat} {s : List Int} (h : D.late[j]? = some (some s)) : cachedTo D (j + 1) = cachedTo D j ++ [(j : Int)] := by
  simp [cachedTo, List.range_succ, List.filter_append, h]
theorem cachedTo_no {D : Dev} {j : Nat} (h : D.late[j]? = some none) : cachedTo D (j + 1) = cachedTo D j := by
  simp [cachedTo, List.range_succ, List.filter_append, h]
theorem cachedTo_len (D : Dev) (j : Nat) : (cachedTo D j).length ≤ j := by
  unfold cachedTo
  rw [List.length_map]
  have := List.length_filter_le (fun i => ((D.late[i]?).join).isSome) (List.range j)
  simpa using this

/-- What the loop of Cached keeps. -/
structure RCachedAt (D : Dev) (w : World) (j : Nat) (v : Value) (wr : World) : Prop where
  own : wr.ownsRow w.heap.size 3 1 v (cachedTo D j).length ((cachedTo D j).map (Value.int .i64))
  fr : Fr F0 w wr

section
variable {w w' : World} {rb lb tb : Nat} {D : Dev}

set_option maxRecDepth 100000 in
set_option maxHeartbeats 1000000 in
theorem rcached_c (h : RefAt w rb lb tb D) :
    Calls Tryd.prog 101 #[.pointer (some ⟨rb, 0, none⟩)] w fun e w' => IntsRet w w' e D.cachedI := by
  have HMOST := Lib.hid h.ok.most
  have HLATE := Lib.hid h.ok.len
  go_enter Tryd.func101, Tryd.ntmps101
  go_wp2
  go_loopg [3, 4] (D.laid.length) (fun kq v u wr => ∃ j : Nat, j ≤ D.laid.length ∧ kq = D.laid.length - j ∧ u = .int .i64 (j : Int) ∧ RCachedAt D w j v wr)
  case atStart => exact ⟨0, by omega, rfl, rfl, ⟨own_nil _ _ _ _, Fr.refl _ _⟩⟩
  case round =>
    obtain ⟨j, hj, rfl, rfl, hown, hfr⟩ := hrel
    have hr := h.keep0 hfr
    obtain ⟨cap0, h0, h1, h2, h3, h4, f2, f3, f4⟩ := hr.cells
    obtain ⟨t3, e3⟩ := hr.late
    clear h0 h2 h3 h4 f2 f3 f4
    by_cases hlt : j < D.laid.length
    · have hj0 : (0 : Int) ≤ (j : Int) := Int.natCast_nonneg _
      have hj1 : (j : Int) < (D.laid.length : Int) := by omega
      have hj2 : (j : Int) < 9223372036854775807 := by have := HMOST.out; omega
      have hjl : j < D.late.length := by rw [HLATE.out]; exact hlt
      have HO := Lib.hid hown
      clear hown
      cases hs : D.late[j]? with
      | none => simp at hs; omega
      | some o =>
        cases o with
        | none =>
          have hcl : wr.cell? ⟨tb, j, none⟩ = some (.string ⟨#[]⟩) := by rw [cell_of e3 j]; simp [hs, lateStr]
          have HS := Lib.hid (cachedTo_no hs)
          clear hs e3 hjl
          go_wp2_with fail
          go_roundg (D.laid.length - (j + 1))
          case measure => omega
          case rel =>
            exact ⟨j + 1, by omega, rfl, by first | rfl | (go_num), ⟨by rw [HS.out]; exact HO.out, hfr⟩⟩
        | some s =>
          have h64 : s.length = 64 := h.ok.lates s (List.mem_of_getElem? hs)
          have hcl : wr.cell? ⟨tb, j, none⟩ = some (.string (strOfNums s)) := by rw [cell_of e3 j]; simp [hs, lateStr]
          have hne := str64_full h64
          have HS := Lib.hid (cachedTo_yes hs)
          have hlen : ((cachedTo D j).length + 1) * 8 ≤ 140737488355328 := by
            have := cachedTo_len D j
            have := HMOST.out
            omega
          have hbase : w.heap.size ≤ wr.heap.size := hfr.size
          clear hs e3 hjl h64
          go_wp2_with (at_builtin; refine wpList_append_one rfl (.tmp 22) (.tmp 24) 69 3 8 (.int .i64 0) rfl und_ints info_int rfl (by decide) w.heap.size u3 ((cachedTo D j).map (Value.int .i64)) (.int .i64 (j : Int)) (by rfl) (by rfl) rfl (by rw [List.length_map]; exact HO.out) hbase (by rw [List.length_map]; exact hlen) ?_; intro v3 w3 hown3 hf3)
          go_roundg (D.laid.length - (j + 1))
          case measure => omega
          case rel =>
            refine ⟨j + 1, by omega, rfl, by first | rfl | (go_num), ⟨?_, hfr.trans hf3 (fun k hk => .inr (own_base HO.out k hk))⟩⟩
            rw [HS.out]
            simpa using hown3
    · have hjn : j = D.laid.length := by omega
      subst hjn
      go_wp2_with fail
      go_ret
      rw [cachedTo_all] at hown
      obtain ⟨A, c, e, hV, hl, hc, hb⟩ := ValsAt.of_own hown
      rw [e]
      exact ⟨A, c, rfl, hV, hc, hb, hfr⟩

/-! ### settle -/
/-- Sectors that are kept, those of the numbers that f tells. -/
def layF (D : Dev) (f : Nat → Bool) : List Nat → Nat → List (List Int) → List (List Int)
  | [], _, l => l
  | i :: is, k, l => layF D f is (k + 1) (if f k = true then l.set i (D.at i) else l)
def Dev.settled (D : Dev) (f : Nat → Bool) : Dev := { D with laid := layF D f D.cached 0 D.laid, late := D.late.map fun _ => none }
def keptF (all : Bool) (keep : List Bool) (k : Nat) : Bool := all || keep.getD k false

/-- What the loop of settle keeps. -/
structure SettleAt (D : Dev) (f : Nat → Bool) (rb lb tb : Nat) (w0 : World) (k : Nat) (wr : World) : Prop where
  ex : ∃ L M, RefAt wr rb lb tb { D with laid := L, late := M } ∧ L.length = D.laid.length ∧ layF D f (D.cached.drop k) k L = layF D f D.cached 0 D.laid ∧
    (∀ i, i < D.laid.length → M[i]? = if i ∈ D.cached.drop k then D.late[i]? else some none)
  fr : Fr (Rv rb lb tb) w0 wr
theorem Dev.cached_nodup (D : Dev) : D.cached.Nodup := by
  unfold Dev.cached
  exact List.Nodup.sublist List.filter_sublist List.nodup_range
theorem SettleAt.fin {f : Nat → Bool} {w0 wr : World} (h : D.Ok) (hx : SettleAt D f rb lb tb w0 D.cached.length wr) : RefAt wr rb lb tb (D.settled f) := by
  obtain ⟨L, M, h1, h2, h3, h4⟩ := hx.ex
  rw [List.drop_length] at h3 h4
  have hM : M = D.late.map fun _ => none := by
    have hl : M.length = D.late.length := by
      have := h1.ok.len
      simp only at this
      rw [this, h2, h.len]
    apply List.ext_getElem?
    intro i
    by_cases hi : i < D.laid.length
    · rw [h4 i hi]
      have : i < D.late.length := by rw [h.len]; exact hi
      simp [this]
    · have hn := h.len
      rw [List.getElem?_eq_none (by omega), List.getElem?_eq_none (by simp; omega)]
  have hL : L = layF D f D.cached 0 D.laid := h3
  rw [hM, hL] at h1
  exact h1

set_option maxRecDepth 100000 in
set_option maxHeartbeats 2000000 in
theorem rsettle_c (h : RefAt w rb lb tb D) (A : Option Addr) (c : Nat) (keep : List Bool) (n : Nat) (hn : keep.length = n) (hK : ValsAt w A (keep.map Value.bool)) (hA : ∀ ad, A = some ad → 0 < keep.length → ¬ Rv rb lb tb ad.block) (hbig : n ≤ 4611686018427387904) (all : Bool) :
    Calls Tryd.prog 72 #[.pointer (some ⟨rb, 0, none⟩), .slice A n c, .bool all] w fun e w' => e = .returned (.tuple #[]) ∧ RefAt w' rb lb tb (D.settled (keptF all keep)) ∧ Fr (Rv rb lb tb) w w' := by
  have HN := Lib.hid hn
  clear hn
  go_enter Tryd.func72, Tryd.ntmps72
  go_wp2_with fail
  refine (rcached_c h).mono ?_
  rintro e w1 ⟨B1, c1, rfl, hV1, hc1, hB1, hf1⟩
  have hcl : D.cachedI.length ≤ D.laid.length := cachedTo_len D D.laid.length
  have hmost := h.ok.most
  have hltD := h.lt
  go_wp2_with fail
  go_loopg [7] (D.cachedI.length) (fun kq v wr => ∃ k : Nat, k ≤ D.cachedI.length ∧ kq = D.cachedI.length - k ∧ v = .int .i64 (k : Int) ∧ SettleAt D (keptF all keep) rb lb tb w1 k wr)
  case atStart =>
    refine ⟨0, by omega, rfl, rfl, ⟨⟨D.laid, D.late, h.keep0 hf1, rfl, rfl, fun i hi => ?_⟩, Fr.refl _ _⟩⟩
    rw [List.drop_zero]
    split
    · rfl
    · rename_i hni
      have hil : i < D.late.length := by rw [h.ok.len]; exact hi
      cases hs : D.late[i]? with
      | none => simp at hs; omega
      | some o =>
        cases o with
        | none => rfl
        | some s => exact absurd (by simp [Dev.cached, hi, hs]) hni
  case round =>
    obtain ⟨k, hk, rfl, rfl, hx⟩ := hrel
    by_cases hlt : k < D.cachedI.length
    · have hk0 : (0 : Int) ≤ (k : Int) := Int.natCast_nonneg _
      have hk1 : (k : Int) < (D.cachedI.length : Int) := by omega
      have hk2 : (k : Int) < 9223372036854775807 := by omega
      have hkc : k < D.cached.length := by rw [← Dev.cachedI_len]; exact hlt
      obtain ⟨i, hi⟩ : ∃ i, D.cached[k]? = some i := ⟨D.cached[k], List.getElem?_eq_getElem hkc⟩
      obtain ⟨hil, s, hs⟩ := Dev.cached_mem (List.mem_of_getElem? hi)
      obtain ⟨⟨L, M, hr, hLl, hlay, hM⟩, hfr⟩ := hx
      have hdrop : D.cached.drop k = i :: D.cached.drop (k + 1) := by
        rw [List.drop_eq_getElem_cons hkc]
        have : D.cached[k] = i := by
          have := List.getElem?_eq_getElem hkc
          rw [hi] at this
          exact (Option.some.inj this).symm
        rw [this]
      have hnotin : i ∉ D.cached.drop (k + 1) := by
        have := (Dev.cached_nodup D).sublist (List.drop_sublist k D.cached)
        rw [hdrop] at this
        exact (List.nodup_cons.1 this).1
      have hMi : M[i]? = some (some s) := by rw [hM i hil, hdrop]; simp [hs]
      have hMl : i < M.length := (List.getElem?_eq_some_iff.1 hMi).1
      have h64 : s.length = 64 := h.ok.lates s (List.mem_of_getElem? hs)
      have hat : D.at i = s := Dev.at_late hs
      obtain ⟨ad1, rfl, hcs1⟩ := (hV1.keep hfr (by intro ad e hd; have := hB1 ad e; rcases hd with h' | h' | h' <;> omega)).cells (by simp; omega)
      have hci : wr.cell? (ad1.add k) = some (.int .i64 (i : Int)) := hcs1 k _ (by rw [Dev.cachedI_at, hi]; rfl)
      have hi0 : (0 : Int) ≤ (i : Int) := Int.natCast_nonneg _
      have hi1 : (i : Int) < (L.length : Int) := by omega
      have HMI := Lib.hid hMi
      have HML := Lib.hid hMl
      have H64 := Lib.hid h64
      have HAT := Lib.hid hat
      have HNOT := Lib.hid hnotin
      have HDROP := Lib.hid hdrop
      have HLAY := Lib.hid hlay
      have HM := Lib.hid hM
      clear hMi hMl h64 hat hnotin hdrop hlay hM hi hs hcs1
      cases all with
      | true =>
        have HF := Lib.hid (show keptF true keep k = true from rfl)
        obtain ⟨cap0, g0, g1, g2, g3, g4, f2, f3, f4⟩ := hr.cells
        obtain ⟨td, cd, ed⟩ := hr.dev
        obtain ⟨tl, cs, el, ell, els⟩ := hr.laid
        obtain ⟨tt, et⟩ := hr.late
        simp only at g0 g1 ed el ell els et
        have hcs : i < cs.size := by omega
        have hct : wr.cell? ⟨tb, i, none⟩ = some (.string (strOfNums s)) := by rw [cell_of et i]; simp [HMI.out, lateStr]
        obtain ⟨ov, hov⟩ : ∃ v, wr.cell? ⟨lb, i, none⟩ = some v := ⟨cs[i], by rw [cell_of el i]; exact Array.getElem?_eq_getElem hcs⟩
        have hfz := free_of el i
        have ED := Lib.hid ed
        have EL := Lib.hid el
        have ELS := Lib.hid els
        have ET := Lib.hid et
        clear g2 g3 g4 f2 f3 f4 ed el els et
        go_wp2_with fail
        go_still_tail 19, (by kernel_rfl)
        change wpList _ _ _ _ _ wr.drew
        have hov' : wr.drew.cell? ⟨lb, i, none⟩ = some ov := hov
        have hfz' : wr.drew.frozen? ⟨lb, i, none⟩ = false := hfz
        go_wp2_with fail
        clear g0 g1 hct hov hfz hov' hfz'
        have hW : RefAt (wr.setCell ⟨lb, i, none⟩ (.string (strOfNums s))).drew rb lb tb { D with laid := L.set i s, late := M } := by
          refine ⟨⟨by have := hr.ok.len; simpa using this, fun u hu => ?_, hr.ok.lates, by have := hr.ok.pos; simpa using this, by have := hr.ok.most; simpa using this, hr.ok.least, hr.ok.fits⟩, ⟨td, cd, ?_⟩, ⟨tl, cs.setIfInBounds i (.string (strOfNums s)), ?_, by simpa using ell, fun q u hq => ?_⟩, ⟨tt, keep_setCell (w := wr.drew) ET.out (Ne.symm hr.ne3) _⟩, hr.ne1, hr.ne2, hr.ne3⟩
          · rcases List.mem_or_eq_of_mem_set hu with hm | he
            · exact hr.ok.secs u hm
            · rw [he]; exact H64.out
          · simp only [List.length_set]
            exact keep_setCell (w := wr.drew) ED.out hr.ne1 _
          · exact set_cell (w := wr.drew) EL.out i _
          · simp only at hq
            by_cases hqi : q = i
            · subst hqi
              rw [List.getElem?_set_self (by omega)] at hq
              cases hq
              simp [hcs]
            · rw [List.getElem?_set_ne (Ne.symm hqi)] at hq
              have := ELS.out q u hq
              simp [Array.getElem?_setIfInBounds, Ne.symm hqi, this]
        have HCI5 : Hid ((wr.setCell ⟨lb, i, none⟩ (.string (strOfNums s))).drew.cell? (ad1.add k) = some (.int .i64 (i : Int))) := Lib.hid (by
          refine (World.cell?_of_block (w := wr) (Below.heap_setCell wr ⟨lb, i, none⟩ (.string (strOfNums s)) _ (fun e => ?_))).trans ?_; rotate_left
          · exact hci
          · have hb : (ad1.add k).block = ad1.block := by unfold Addr.add; split <;> rfl
            have h1 := hB1 ad1 rfl
            have h2 : ad1.block = lb := by rw [← hb]; exact e
            omega)
        have hfr5 : Fr (Rv rb lb tb) w1 (wr.setCell ⟨lb, i, none⟩ (.string (strOfNums s))).drew := (hfr.setCell (.inl (.inr (.inl rfl))) _).drew
        generalize hW5 : (wr.setCell ⟨lb, i, none⟩ (.string (strOfNums s))).drew = W5 at *
        clear hW5 hr hfr
        have hrX := hW
        obtain ⟨cap0, g0, g1, g2, g3, g4, f2, f3, f4⟩ := hrX.cells
        obtain ⟨tt, et⟩ := hrX.late
        simp only at g1 et
        have hfz := free_of et i
        have hci6 : W5.cell? (ad1.add k) = some (.int .i64 (i : Int)) := HCI5.out
        have hct : W5.cell? ⟨tb, i, none⟩ = some (.string (strOfNums s)) := by rw [cell_of et i]; simp [HMI.out, lateStr]
        clear g0 g2 g3 g4 f2 f3 f4
        go_wp2_with fail
        go_still_tail 9, (by kernel_rfl)
        change wpList _ _ _ _ _ (World.drew W5)
        have hct' : (World.drew W5).cell? ⟨tb, i, none⟩ = some (.string (strOfNums s)) := hct
        have hfz' : (World.drew W5).frozen? ⟨tb, i, none⟩ = false := hfz
        go_wp2
        go_roundg (D.cachedI.length - (k + 1))
        case measure => omega
        case rel =>
          obtain ⟨t1, cp, e1⟩ := hrX.dev
          obtain ⟨t2, cs, e2, l2⟩ := hrX.laid
          refine ⟨k + 1, by omega, rfl, by first | rfl | (go_num), ⟨⟨(L.set i s), M.set i none, ⟨⟨?_, hrX.ok.secs, fun u hu => ?_, hrX.ok.pos, hrX.ok.most, hrX.ok.least, hrX.ok.fits⟩, ⟨t1, cp, keep_setCell (w := (World.drew W5)) e1 hrX.ne2 _⟩, ⟨t2, cs, keep_setCell (w := (World.drew W5)) e2 hrX.ne3 _, l2⟩, ⟨tt, ?_⟩, hrX.ne1, hrX.ne2, hrX.ne3⟩, by rw [List.length_set]; exact hLl, ?_, fun q hq => ?_⟩, (hfr5).drew.setCell (.inl (.inr (.inr rfl))) _⟩⟩
          · have := hrX.ok.len
            simpa using this
          · have hu' : some u ∈ M.set i none := hu
            rcases List.mem_or_eq_of_mem_set hu' with hm | he
            · exact hrX.ok.lates u hm
            · cases he
          · refine Eq.trans (set_cell (w := W5) et i (.string ⟨#[]⟩)) ?_
            simp [List.map_set, lateStr]
          · rw [← HLAY.out, HDROP.out]
            simp only [layF]
            rw [HF.out, HAT.out]; rfl
          · by_cases hqi : q = i
            · subst hqi
              rw [if_neg HNOT.out, List.getElem?_set_self HML.out]
            · rw [List.getElem?_set_ne (Ne.symm hqi), HM.out q hq, HDROP.out]
              simp [hqi]
      | false =>
        by_cases hkn : k < n
        · have hkn' : (k : Int) < (n : Int) := by omega
          have hn := HN.out
          obtain ⟨ad3, rfl, hc3⟩ := (hK.keep (hf1.of0.trans hfr (fun _ e => .inl e)) (fun ad e => hA ad e (by omega))).cells (by simp; omega)
          obtain ⟨b, hb⟩ : ∃ b, keep[k]? = some b := ⟨keep[k], List.getElem?_eq_getElem (by omega)⟩
          have g3' : wr.cell? (ad3.add k) = some (.bool b) := hc3 k _ (by simp [hb])
          have hF : keptF false keep k = b := by simp [keptF, List.getD, hb]
          clear hc3 hb hn
          have HF := Lib.hid hF
          clear hF
          cases b with
          | true =>
            obtain ⟨cap0, g0, g1, g2, g3, g4, f2, f3, f4⟩ := hr.cells
            obtain ⟨td, cd, ed⟩ := hr.dev
            obtain ⟨tl, cs, el, ell, els⟩ := hr.laid
            obtain ⟨tt, et⟩ := hr.late
            simp only at g0 g1 ed el ell els et
            have hcs : i < cs.size := by omega
            have hct : wr.cell? ⟨tb, i, none⟩ = some (.string (strOfNums s)) := by rw [cell_of et i]; simp [HMI.out, lateStr]
            obtain ⟨ov, hov⟩ : ∃ v, wr.cell? ⟨lb, i, none⟩ = some v := ⟨cs[i], by rw [cell_of el i]; exact Array.getElem?_eq_getElem hcs⟩
            have hfz := free_of el i
            have ED := Lib.hid ed
            have EL := Lib.hid el
            have ELS := Lib.hid els
            have ET := Lib.hid et
            clear g2 g3 g4 f2 f3 f4 ed el els et
            go_wp2_with fail
            go_still_tail 19, (by kernel_rfl)
            change wpList _ _ _ _ _ wr.drew
            have hov' : wr.drew.cell? ⟨lb, i, none⟩ = some ov := hov
            have hfz' : wr.drew.frozen? ⟨lb, i, none⟩ = false := hfz
            go_wp2_with fail
            clear g0 g1 hct hov hfz hov' hfz'
            have hW : RefAt (wr.setCell ⟨lb, i, none⟩ (.string (strOfNums s))).drew rb lb tb { D with laid := L.set i s, late := M } := by
              refine ⟨⟨by have := hr.ok.len; simpa using this, fun u hu => ?_, hr.ok.lates, by have := hr.ok.pos; simpa using this, by have := hr.ok.most; simpa using this, hr.ok.least, hr.ok.fits⟩, ⟨td, cd, ?_⟩, ⟨tl, cs.setIfInBounds i (.string (strOfNums s)), ?_, by simpa using ell, fun q u hq => ?_⟩, ⟨tt, keep_setCell (w := wr.drew) ET.out (Ne.symm hr.ne3) _⟩, hr.ne1, hr.ne2, hr.ne3⟩
              · rcases List.mem_or_eq_of_mem_set hu with hm | he
                · exact hr.ok.secs u hm
                · rw [he]; exact H64.out
              · simp only [List.length_set]
                exact keep_setCell (w := wr.drew) ED.out hr.ne1 _
              · exact set_cell (w := wr.drew) EL.out i _
              · simp only at hq
                by_cases hqi : q = i
                · subst hqi
                  rw [List.getElem?_set_self (by omega)] at hq
                  cases hq
                  simp [hcs]
                · rw [List.getElem?_set_ne (Ne.symm hqi)] at hq
                  have := ELS.out q u hq
                  simp [Array.getElem?_setIfInBounds, Ne.symm hqi, this]
            have HCI5 : Hid ((wr.setCell ⟨lb, i, none⟩ (.string (strOfNums s))).drew.cell? (ad1.add k) = some (.int .i64 (i : Int))) := Lib.hid (by
              refine (World.cell?_of_block (w := wr) (Below.heap_setCell wr ⟨lb, i, none⟩ (.string (strOfNums s)) _ (fun e => ?_))).trans ?_; rotate_left
              · exact hci
              · have hb : (ad1.add k).block = ad1.block := by unfold Addr.add; split <;> rfl
                have h1 := hB1 ad1 rfl
                have h2 : ad1.block = lb := by rw [← hb]; exact e
                omega)
            have hfr5 : Fr (Rv rb lb tb) w1 (wr.setCell ⟨lb, i, none⟩ (.string (strOfNums s))).drew := (hfr.setCell (.inl (.inr (.inl rfl))) _).drew
            generalize hW5 : (wr.setCell ⟨lb, i, none⟩ (.string (strOfNums s))).drew = W5 at *
            clear hW5 hr hfr
            have hrX := hW
            obtain ⟨cap0, g0, g1, g2, g3, g4, f2, f3, f4⟩ := hrX.cells
            obtain ⟨tt, et⟩ := hrX.late
            simp only at g1 et
            have hfz := free_of et i
            have hci6 : W5.cell? (ad1.add k) = some (.int .i64 (i : Int)) := HCI5.out
            have hct : W5.cell? ⟨tb, i, none⟩ = some (.string (strOfNums s)) := by rw [cell_of et i]; simp [HMI.out, lateStr]
            clear g0 g2 g3 g4 f2 f3 f4
            go_wp2_with fail
            go_still_tail 9, (by kernel_rfl)
            change wpList _ _ _ _ _ (World.drew W5)
            have hct' : (World.drew W5).cell? ⟨tb, i, none⟩ = some (.string (strOfNums s)) := hct
            have hfz' : (World.drew W5).frozen? ⟨tb, i, none⟩ = false := hfz
            go_wp2
            go_roundg (D.cachedI.length - (k + 1))
            case measure => omega
            case rel =>
              obtain ⟨t1, cp, e1⟩ := hrX.dev
              obtain ⟨t2, cs, e2, l2⟩ := hrX.laid
              refine ⟨k + 1, by omega, rfl, by first | rfl | (go_num), ⟨⟨(L.set i s), M.set i none, ⟨⟨?_, hrX.ok.secs, fun u hu => ?_, hrX.ok.pos, hrX.ok.most, hrX.ok.least, hrX.ok.fits⟩, ⟨t1, cp, keep_setCell (w := (World.drew W5)) e1 hrX.ne2 _⟩, ⟨t2, cs, keep_setCell (w := (World.drew W5)) e2 hrX.ne3 _, l2⟩, ⟨tt, ?_⟩, hrX.ne1, hrX.ne2, hrX.ne3⟩, by rw [List.length_set]; exact hLl, ?_, fun q hq => ?_⟩, (hfr5).drew.setCell (.inl (.inr (.inr rfl))) _⟩⟩
              · have := hrX.ok.len
                simpa using this
              · have hu' : some u ∈ M.set i none := hu
                rcases List.mem_or_eq_of_mem_set hu' with hm | he
                · exact hrX.ok.lates u hm
                · cases he
              · refine Eq.trans (set_cell (w := W5) et i (.string ⟨#[]⟩)) ?_
                simp [List.map_set, lateStr]
              · rw [← HLAY.out, HDROP.out]
                simp only [layF]
                rw [HF.out, HAT.out]; rfl
              · by_cases hqi : q = i
                · subst hqi
                  rw [if_neg HNOT.out, List.getElem?_set_self HML.out]
                · rw [List.getElem?_set_ne (Ne.symm hqi), HM.out q hq, HDROP.out]
                  simp [hqi]
          | false =>
            have hrX := hr
            obtain ⟨cap0, g0, g1, g2, g3, g4, f2, f3, f4⟩ := hrX.cells
            obtain ⟨tt, et⟩ := hrX.late
            simp only at g1 et
            have hfz := free_of et i
            have hci6 : wr.cell? (ad1.add k) = some (.int .i64 (i : Int)) := hci
            have hct : wr.cell? ⟨tb, i, none⟩ = some (.string (strOfNums s)) := by rw [cell_of et i]; simp [HMI.out, lateStr]
            clear g0 g2 g3 g4 f2 f3 f4
            go_wp2_with fail
            go_still_tail 9, (by kernel_rfl)
            change wpList _ _ _ _ _ (World.drew wr)
            have hct' : (World.drew wr).cell? ⟨tb, i, none⟩ = some (.string (strOfNums s)) := hct
            have hfz' : (World.drew wr).frozen? ⟨tb, i, none⟩ = false := hfz
            go_wp2
            go_roundg (D.cachedI.length - (k + 1))
            case measure => omega
            case rel =>
              obtain ⟨t1, cp, e1⟩ := hrX.dev
              obtain ⟨t2, cs, e2, l2⟩ := hrX.laid
              refine ⟨k + 1, by omega, rfl, by first | rfl | (go_num), ⟨⟨L, M.set i none, ⟨⟨?_, hrX.ok.secs, fun u hu => ?_, hrX.ok.pos, hrX.ok.most, hrX.ok.least, hrX.ok.fits⟩, ⟨t1, cp, keep_setCell (w := wr.drew) e1 hrX.ne2 _⟩, ⟨t2, cs, keep_setCell (w := wr.drew) e2 hrX.ne3 _, l2⟩, ⟨tt, ?_⟩, hrX.ne1, hrX.ne2, hrX.ne3⟩, hLl, ?_, fun q hq => ?_⟩, (hfr).drew.setCell (.inl (.inr (.inr rfl))) _⟩⟩
              · have := hrX.ok.len
                simpa using this
              · have hu' : some u ∈ M.set i none := hu
                rcases List.mem_or_eq_of_mem_set hu' with hm | he
                · exact hrX.ok.lates u hm
                · cases he
              · refine Eq.trans (set_cell (w := wr) et i (.string ⟨#[]⟩)) ?_
                simp [List.map_set, lateStr]
              · rw [← HLAY.out, HDROP.out]
                simp only [layF]
                rw [HF.out]; rfl
              · by_cases hqi : q = i
                · subst hqi
                  rw [if_neg HNOT.out, List.getElem?_set_self HML.out]
                · rw [List.getElem?_set_ne (Ne.symm hqi), HM.out q hq, HDROP.out]
                  simp [hqi]
        · have hkn' : ¬ (k : Int) < (n : Int) := by omega
          have HF : Hid (keptF false keep k = false) := Lib.hid (by
            have := HN.out
            simp [keptF, List.getD, List.getElem?_eq_none (show keep.length ≤ k by omega)])
          have hrX := hr
          obtain ⟨cap0, g0, g1, g2, g3, g4, f2, f3, f4⟩ := hrX.cells
          obtain ⟨tt, et⟩ := hrX.late
          simp only at g1 et
          have hfz := free_of et i
          have hci6 : wr.cell? (ad1.add k) = some (.int .i64 (i : Int)) := hci
          have hct : wr.cell? ⟨tb, i, none⟩ = some (.string (strOfNums s)) := by rw [cell_of et i]; simp [HMI.out, lateStr]
          clear g0 g2 g3 g4 f2 f3 f4
          go_wp2_with fail
          go_still_tail 9, (by kernel_rfl)
          change wpList _ _ _ _ _ (World.drew wr)
          have hct' : (World.drew wr).cell? ⟨tb, i, none⟩ = some (.string (strOfNums s)) := hct
          have hfz' : (World.drew wr).frozen? ⟨tb, i, none⟩ = false := hfz
          go_wp2
          go_roundg (D.cachedI.length - (k + 1))
          case measure => omega
          case rel =>
            obtain ⟨t1, cp, e1⟩ := hrX.dev
            obtain ⟨t2, cs, e2, l2⟩ := hrX.laid
            refine ⟨k + 1, by omega, rfl, by first | rfl | (go_num), ⟨⟨L, M.set i none, ⟨⟨?_, hrX.ok.secs, fun u hu => ?_, hrX.ok.pos, hrX.ok.most, hrX.ok.least, hrX.ok.fits⟩, ⟨t1, cp, keep_setCell (w := wr.drew) e1 hrX.ne2 _⟩, ⟨t2, cs, keep_setCell (w := wr.drew) e2 hrX.ne3 _, l2⟩, ⟨tt, ?_⟩, hrX.ne1, hrX.ne2, hrX.ne3⟩, hLl, ?_, fun q hq => ?_⟩, (hfr).drew.setCell (.inl (.inr (.inr rfl))) _⟩⟩
            · have := hrX.ok.len
              simpa using this
            · have hu' : some u ∈ M.set i none := hu
              rcases List.mem_or_eq_of_mem_set hu' with hm | he
              · exact hrX.ok.lates u hm
              · cases he
            · refine Eq.trans (set_cell (w := wr) et i (.string ⟨#[]⟩)) ?_
              simp [List.map_set, lateStr]
            · rw [← HLAY.out, HDROP.out]
              simp only [layF]
              rw [HF.out]; rfl
            · by_cases hqi : q = i
              · subst hqi
                rw [if_neg HNOT.out, List.getElem?_set_self HML.out]
              · rw [List.getElem?_set_ne (Ne.symm hqi), HM.out q hq, HDROP.out]
                simp [hqi]
    · have hke : k = D.cachedI.length := by omega
      subst hke
      go_wp2_with fail
      go_end0
      rw [Dev.cachedI_len] at hx
      refine ⟨rfl, SettleAt.fin h.ok hx, hf1.of0.trans hx.fr (fun _ e => .inl e)⟩
end
end Go.Proofs.YtdeckbdaencjnaaDoor
