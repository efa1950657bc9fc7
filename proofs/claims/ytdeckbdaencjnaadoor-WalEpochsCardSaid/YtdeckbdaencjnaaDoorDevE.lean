/-
  The device's Flush. Conditions: none.
-/
import Derived.Test.YtdeckbdaencjnaaDoorDevD
import Derived.Test.YtdeckbdaencjnaaDoorRng
import Derived.Deep.LoopGhost
set_option linter.unusedVariables false
set_option linter.unusedSimpArgs false
namespace Go.Proofs.YtdeckbdaencjnaaDoor
open Go.RowKit
open Go.ChangeMaps (setBlock)

def Dev.flushE (D : Dev) : Int := if D.gone = true then 11 else D.spendE
def Dev.flush (D : Dev) : Dev := if D.gone = true then D else if D.budget = 0 then D.spend else D.spend.lay

theorem Dev.look_inv {D : Dev} {x v : Value} (h : D.look x = some v) : ∃ (i : Nat) (s : List Int), x = .int .i64 (i : Int) ∧ D.late[i]? = some (some s) ∧ v = secVal s := by
  unfold Dev.look at h
  split at h
  · rename_i j
    split at h
    · rename_i hj
      obtain ⟨i, rfl⟩ := Int.eq_ofNat_of_zero_le hj
      simp only [Int.toNat_natCast, Option.map_eq_some_iff, Option.join_eq_some_iff] at h
      obtain ⟨s, hs, rfl⟩ := h
      exact ⟨i, s, rfl, hs, rfl⟩
    · cases h
  · cases h

/-- What is laid down, where some of the cache is still to come. -/
structure Half (D : Dev) (left : List MapEntry) (L : List (List Int)) : Prop where
  len : L.length = D.laid.length
  todo : ∀ i, i < D.laid.length → (∃ e ∈ left, e.key = .int .i64 (i : Int)) → L[i]? = D.laid[i]?
  done : ∀ i, i < D.laid.length → (¬ ∃ e ∈ left, e.key = .int .i64 (i : Int)) → L[i]? = some (D.at i)
  keys : left.Pairwise (fun x y => x.key ≠ y.key)

theorem Half.start {P : Program} {k : TypeId} {es : Array MapEntry} {cl : Nat} {D : Dev} (ok : D.Ok) (hM : MapIs P k es cl D.look) : Half D es.toList D.laid := by
  refine ⟨rfl, fun _ _ _ => rfl, fun i hi hn => ?_, hM.apart⟩
  have hlt : i < D.late.length := by rw [ok.len]; exact hi
  have hnone : D.late[i]? = some none := by
    cases h : D.late[i]? with
    | none => simp at h; omega
    | some o =>
      cases o with
      | none => rfl
      | some s =>
        obtain ⟨e, he, hk, _⟩ := hM.all (.int .i64 (i : Int)) (secVal s) (by simp [Dev.look, h])
        exact absurd ⟨e, he, hk⟩ hn
  simp [Dev.at, hnone, hi]

theorem Half.step {D : Dev} {left left' : List MapEntry} {L : List (List Int)} {e : MapEntry} {i : Nat} {s : List Int} (h : Half D left L) (hp : left.Perm (e :: left')) (hk : e.key = .int .i64 (i : Int)) (hi : i < D.laid.length) (hs : D.late[i]? = some (some s)) :
    Half D left' (L.set i s) := by
  have hkeys := (hp.pairwise_iff (fun {a b} (h : a.key ≠ b.key) => h.symm)).1 h.keys
  obtain ⟨h1, h2⟩ := List.pairwise_cons.1 hkeys
  have hat : D.at i = s := by simp [Dev.at, hs]
  have hij : ∀ j : Nat, j ≠ i → ((∃ x ∈ left, x.key = .int .i64 (j : Int)) ↔ ∃ x ∈ left', x.key = .int .i64 (j : Int)) := by
    intro j hj
    constructor
    · rintro ⟨x, hx, hxk⟩
      rcases List.mem_cons.1 (hp.mem_iff.1 hx) with rfl | hx
      · rw [hk] at hxk
        injection hxk with _ e1
        omega
      · exact ⟨x, hx, hxk⟩
    · rintro ⟨x, hx, hxk⟩
      exact ⟨x, hp.mem_iff.2 (List.mem_cons_of_mem _ hx), hxk⟩
  refine ⟨by rw [List.length_set]; exact h.len, fun j hj hex => ?_, fun j hj hn => ?_, h2⟩
  · by_cases hji : j = i
    · subst hji
      obtain ⟨x, hx, hxk⟩ := hex
      exact absurd (hk.trans hxk.symm) (h1 x hx)
    · rw [List.getElem?_set_ne (Ne.symm hji)]
      exact h.todo j hj ((hij j hji).2 hex)
  · by_cases hji : j = i
    · subst hji
      rw [List.getElem?_set_self (by rw [h.len]; exact hj), hat]
    · rw [List.getElem?_set_ne (Ne.symm hji)]
      exact h.done j hj (fun hex => hn ((hij j hji).1 hex))

theorem Half.end_ {D : Dev} {L : List (List Int)} (h : Half D [] L) : L = (List.range D.laid.length).map D.at := by
  apply List.ext_getElem?
  intro i
  by_cases hi : i < D.laid.length
  · rw [h.done i hi (by simp)]
    simp [hi]
  · rw [List.getElem?_eq_none (by rw [h.len]; omega), List.getElem?_eq_none (by simp; omega)]

/-- A sector laid among all: the cells. -/
theorem flat_set : ∀ (L : List (List Int)) (i : Nat) (s : List Int), (∀ u ∈ L, u.length = 64) → s.length = 64 → i < L.length → splat (L.flatten.map (Value.int .u8)) (i * 64) (s.map (Value.int .u8)) = (L.set i s).flatten.map (Value.int .u8)
  | [], i, s, _, _, hi => by simp at hi
  | u :: L, 0, s, h, hs, _ => by
    have hu := h u (by simp)
    simp only [splat, Nat.zero_mul, List.take_zero, List.nil_append, List.length_map, hs, Nat.zero_add, List.set_cons_zero, List.flatten_cons, List.map_append]
    rw [List.drop_append_of_le_length (by simp [hu]), List.drop_eq_nil_of_le (by simp [hu])]
    rfl
  | u :: L, i + 1, s, h, hs, hi => by
    have hu := h u (by simp)
    have ih := flat_set L i s (fun v hv => h v (by simp [hv])) hs (by simpa using hi)
    simp only [List.set_cons_succ, List.flatten_cons, List.map_append]
    rw [← ih]
    simp only [splat, List.length_map, hs]
    have e1 : (i + 1) * 64 = (u.map (Value.int .u8)).length + i * 64 := by simp [hu]; omega
    rw [e1, List.take_append, List.take_of_length_le (by omega), Nat.add_sub_cancel_left]
    rw [show (u.map (Value.int .u8)).length + i * 64 + 64 = (u.map (Value.int .u8)).length + (i * 64 + 64) by omega, List.drop_append, List.drop_eq_nil_of_le (by omega), Nat.add_sub_cancel_left]
    simp [List.append_assoc]
theorem flat_len (L : List (List Int)) (h : ∀ u ∈ L, u.length = 64) : L.flatten.length = L.length * 64 := by
  induction L with
  | nil => rfl
  | cons u L ih =>
    have hu := h u (by simp)
    simp only [List.flatten_cons, List.length_append, List.length_cons, ih (fun v hv => h v (by simp [hv]))]
    omega

section
variable {w : World} {db lb mb : Nat} {D : Dev}

/-- What the loop of Flush keeps. -/
structure FlushAt (D : Dev) (db lb mb : Nat) (w0 : World) (r : Nat) (es : Array MapEntry) (cl : Nat) (td tl : TypeId) (kq : Nat) (wr : World) : Prop where
  ex : ∃ left L, kq = left.length ∧ Rng wr r mb es cl left ∧ Half D left L ∧ (∀ u ∈ L, u.length = 64) ∧ (∀ e ∈ left, e ∈ es.toList) ∧
    wr.heap[lb]? = some (.cells (L.flatten.map (Value.int .u8)).toArray tl (0, 0))
  dev : wr.heap[db]? = some (.cells #[.slice (some ⟨lb, 0, none⟩) D.laid.length D.laid.length, .map (some mb), .int .i64 D.budget, .bool D.gone, .int .i64 D.spent] td (0, 0))
  map : wr.heap[mb]? = some (.map es cl)
  fr : Fr (Dv db lb mb) w0 wr
  new : w0.heap.size ≤ r

theorem dev_cells_of {w : World} {db : Nat} {a b c d e : Value} {t : TypeId} (h : w.heap[db]? = some (.cells #[a, b, c, d, e] t (0, 0))) : w.cell? ⟨db, 0, none⟩ = some a ∧ w.cell? ⟨db, 1, none⟩ = some b := by
  simp [World.cell?, h]

set_option maxRecDepth 100000 in
set_option maxHeartbeats 1000000 in
theorem flush_yes (h : DevAt Tryd.prog 3 w db lb mb D) (hg : D.gone = false) (hb : D.budget ≠ 0) :
    Calls Tryd.prog 39 #[.pointer (some ⟨db, 0, none⟩)] w fun e w' => e = .returned (.int .i64 0) ∧ DevAt Tryd.prog 3 w' db lb mb D.spend.lay ∧ Fr (Dv db lb mb) w w' := by
  have hse : D.spendE = 0 := by simp [Dev.spendE, hb]
  clear hb
  have ha := run_alloc_sector
  go_enter Tryd.func39, Tryd.ntmps39
  go_wp2_with (first
    | (go_at_call 42; refine (gone_c h).mono ?_; rintro e w' ⟨rfl, rfl⟩; rw [hg])
    | (go_at_call 65; refine (spend_c h).mono ?_; rintro e w1 ⟨rfl, h1, hf1⟩; rw [hse]; obtain ⟨k0, k1, -, -, -, -, -, -⟩ := h1.cells; obtain ⟨es, cl, hm, hM⟩ := h1.late; have hrg := run_range_is und_map hm; have HM := Lib.hid hm; clear hm))
  obtain ⟨td, hd⟩ := h1.dev
  obtain ⟨tl, hl⟩ := h1.laid
  have hlt := h1.lt
  have H0 : FlushAt D.spend db lb mb w1 w1.heap.size es cl td tl es.toList.length (w1.alloc (.mapIter (some mb) cl #[] cl)) :=
    ⟨⟨es.toList, D.spend.laid, rfl, Rng.start hlt.2.2, Half.start h1.ok hM, h1.ok.secs, fun e he => he, keep_alloc hl _⟩, keep_alloc hd _, keep_alloc HM.out _, (Fr.refl _ _).alloc _, Nat.le_refl _⟩
  clear k0 k1 hrg hd hl
  go_loopg [18] (es.toList.length) (fun kq v wr => FlushAt D.spend db lb mb w1 w1.heap.size es cl td tl kq wr)
  case atStart => exact H0
  case round =>
    clear H0
    obtain ⟨⟨left, L, rfl, hR, hH, hL64, hin, hlb⟩, hdv, hmp, hfr, hnew⟩ := hrel
    have HR := Lib.hid hR
    have HD := Lib.hid hdv
    have HL := Lib.hid hlb
    have HMP := Lib.hid hmp
    have HLL := Lib.hid hH.len
    have HH := Lib.hid hH
    have HIN := Lib.hid hin
    have HL6 := Lib.hid hL64
    clear hR hdv hlb hmp hH hin hL64
    go_wp2_with (at_next; refine wpList_next_is rfl (.tmp 17) rfl (by rfl) hM HMP.out HR.out ?_ ?_)
    · intro hnil
      obtain ⟨k0, k1⟩ := dev_cells_of HD.out
      have hcl := fun ty => MapIs.clear und_map HMP.out ty
      go_wp2
      go_ret
      subst hnil
      have hL := HH.out.end_
      have hDL : D.spend.lay.laid = L := hL.symm
      have hln : D.spend.lay.laid.length = D.spend.laid.length := by simp [Dev.lay]
      have hlook : D.spend.lay.look = fun _ => none := by
        funext x
        cases hx : D.spend.lay.look x with
        | none => rfl
        | some v =>
          obtain ⟨i, s, _, hs, _⟩ := Dev.look_inv hx
          simp [Dev.lay] at hs
      have hfx : Fr (fun k => k = mb) wr (setBlock wr mb (.map #[] cl)) := (Fr.refl _ _).setBlock (by exact Or.inl rfl) _
      refine ⟨rfl, ⟨⟨?_, ?_, ?_, ?_, ?_, h1.ok.least, h1.ok.fits⟩, ⟨td, ?_⟩, ⟨tl, ?_⟩, ⟨#[], cl, set_block HMP.out _, ?_⟩, h1.ne1, h1.ne2, h1.ne3⟩, ?_⟩
      · simp [Dev.lay, h1.ok.len]
      · rw [hDL]; exact HL6.out
      · intro s hs; simp [Dev.lay] at hs
      · rw [hln]; exact h1.ok.pos
      · rw [hln]; exact h1.ok.most
      · rw [hln]; exact hfx.keep HD.out (fun e => h1.ne2 e)
      · rw [hDL]; exact hfx.keep HL.out (fun e => h1.ne3 e)
      · rw [hlook]; exact MapIs.empty _ _ _
      · exact ((hf1.mono (fun _ e => .inl e)).trans hfr (fun _ e => .inl e)).trans hfx (fun _ e => .inl (.inr (.inr e)))
    · intro e left' w2 hf2 hsz2 hp hes hrg2 hen
      obtain ⟨i, s, hk, hs, hv⟩ := Dev.look_inv (hM.holds e (by simpa using hes))
      rw [hk, hv] at hen
      rw [hk, hv]
      have hld : D.spend.late.length = D.spend.laid.length := h1.ok.len
      have hil : i < D.spend.laid.length := by
        rw [← hld]
        exact (List.getElem?_eq_some_iff.1 hs).1
      have hi0 : (0 : Int) ≤ (i : Int) := Int.natCast_nonneg _
      have hi1 : (i : Int) < (D.spend.laid.length : Int) := by omega
      have h64 : s.length = 64 := h1.ok.lates s (List.mem_of_getElem? hs)
      have hndb : ¬ db = w1.heap.size := by omega
      have hnlb : ¬ lb = w1.heap.size := by omega
      have hnmb : ¬ mb = w1.heap.size := by omega
      have hd2 := hf2.keep HD.out hndb
      have hl2 := hf2.keep HL.out hnlb
      have hm2 := hf2.keep HMP.out hnmb
      obtain ⟨k0, k1⟩ := dev_cells_of hd2
      have HD2 := Lib.hid hd2
      have HL2 := Lib.hid hl2
      have HM2 := Lib.hid hm2
      have HK := Lib.hid hk
      have HS := Lib.hid hs
      have HP := Lib.hid hp
      have HR2 := Lib.hid hrg2
      have H64 := Lib.hid h64
      have HSZ := Lib.hid hsz2
      have HLD := Lib.hid hld
      have hdb2 : db < w2.heap.size := lt_of_block HD2.out
      have hlb2 : lb < w2.heap.size := lt_of_block HL2.out
      obtain ⟨d, hu, hagg⟩ := und_sector
      have HU := Lib.hid hu
      have HA := Lib.hid hagg
      clear hd2 hl2 hm2 hk hs hp hrg2 h64 hv hsz2 hld hu hagg
      go_wp2_with (refine wpList_store_fresh rfl 109 (.tmp 5) (.tmp 22) rfl (cellsOf s) (by rfl) (by rfl) 109 _ (by rw [size_sector, cellsOf_size, H64.out]) (by first | rw [cellsOf_size, cellsOf_size, H64.out, zsec_len] | (rw [cellsOf_size, H64.out]; rfl)) (cellsOf_one s) ?_)
      go_frame
      generalize hW : w2.alloc (.cells (cellsOf s) 109) = W at *
      have kW : W.cell? ⟨db, 0, none⟩ = some (.slice (some ⟨lb, 0, none⟩) D.spend.laid.length D.spend.laid.length) := by rw [← hW, World.cell?_alloc_past _ _ _ hdb2]; exact k0
      have hsW : W.heap[w2.heap.size]? = some (.cells (cellsOf s) 109 (0, 0)) := by rw [← hW]; exact alloc_at rfl _
      have hlW : W.heap[lb]? = some (.cells (L.flatten.map (Value.int .u8)).toArray tl (0, 0)) := by rw [← hW]; exact keep_alloc HL2.out _
      have HW := Lib.hid hW
      have HSW := Lib.hid hsW
      have HLW := Lib.hid hlW
      clear hW hsW hlW k0 k1
      go_still_tail 7, (by kernel_rfl)
      refine wpStill_load_at rfl 109 (.tmp 5) rfl w2.heap.size 0 (by rfl) (s.map (Value.int .u8)) d (fun j v hv => by
        rw [Nat.zero_add]
        refine Eq.trans (cell_of (w := W) HSW.out j) ?_
        simpa [cellsOf] using hv) HU.out HA.out (by rw [size_sector, List.length_map, H64.out]) ?_
      repeat still_step
      refine wpStill_nil ?_
      have hfit : i * 64 + (s.map (Value.int .u8)).length ≤ (L.flatten.map (Value.int .u8)).length := by
        rw [List.length_map, List.length_map, H64.out, flat_len L HL6.out, HLL.out]; omega
      refine wpList_store_at rfl 109 (.tmp 29) (.tmp 28) rfl lb (i * 64) (s.map (Value.int .u8)) (by rfl) (by rfl) tl (L.flatten.map (Value.int .u8)) HLW.out (by rw [size_sector, List.length_map, H64.out]) hfit (one_bytes s) ?_
      change wpList _ _ _ _ _ (W.drew.setRow lb _)
      have hsp := flat_set L i s HL6.out H64.out (by rw [HLL.out]; exact hil)
      rw [hsp]
      clear hsp hfit kW
      generalize hX : W.drew.setRow lb ((L.set i s).flatten.map (Value.int .u8)).toArray = X at *
      have HX := Lib.hid hX
      clear hX
      go_wp2
      go_roundg (left'.length)
      case measure => have := HP.out.length_eq; simp at this; omega
      case rel =>
        have hfW : Fr F0 w2 W := by rw [← HW.out]; exact (Fr.refl _ _).alloc _
        have hfX : Fr (fun k => k = lb) W X := by rw [← HX.out]; exact ((Fr.refl _ _).drew).setRow (by exact Or.inl rfl) _
        have hlX : X.heap[lb]? = some (.cells ((L.set i s).flatten.map (Value.int .u8)).toArray tl (0, 0)) := by
          rw [← HX.out]; exact setRow_heap W.drew lb _ _ tl (0, 0) HLW.out
        have hR3 : Rng X w1.heap.size mb es cl left' := (HR2.out.keep hfW (fun h => h)).keep hfX (by omega)
        have hin' : ∀ e ∈ left', e ∈ es.toList := fun e he => HIN.out e (HP.out.mem_iff.2 (List.mem_cons_of_mem _ he))
        exact ⟨⟨left', L.set i s, rfl, hR3, Half.step HH.out HP.out HK.out hil HS.out, fun u hu => by
          rcases List.mem_or_eq_of_mem_set hu with h' | h'
          · exact HL6.out u h'
          · rw [h']; exact H64.out, hin', hlX⟩,
          hfX.keep (hfW.keep0 HD2.out) (fun e => h1.ne1 e), hfX.keep (hfW.keep0 HM2.out) (fun e => h1.ne3 e.symm),
          ((hfr.trans hf2 (fun k hk => .inr (by omega))).then0 hfW).trans hfX (fun k hk => .inl (.inr (.inl hk))), Nat.le_refl _⟩

set_option maxRecDepth 100000 in
set_option maxHeartbeats 400000 in
theorem flush_gone (h : DevAt Tryd.prog 3 w db lb mb D) (hg : D.gone = true) :
    Calls Tryd.prog 39 #[.pointer (some ⟨db, 0, none⟩)] w fun e w' => e = .returned (.int .i64 11) ∧ w = w' := by
  go_enter Tryd.func39, Tryd.ntmps39
  go_wp2_with (go_at_call 42; refine (gone_c h).mono ?_; rintro e w' ⟨rfl, rfl⟩; rw [hg])
  go_ret
  exact ⟨rfl, rfl⟩

set_option maxRecDepth 100000 in
set_option maxHeartbeats 400000 in
theorem flush_spent (h : DevAt Tryd.prog 3 w db lb mb D) (hg : D.gone = false) (hb : D.budget = 0) :
    Calls Tryd.prog 39 #[.pointer (some ⟨db, 0, none⟩)] w fun e w' => e = .returned (.int .i64 11) ∧ DevAt Tryd.prog 3 w' db lb mb D.spend ∧ Fr (fun k => k = db) w w' := by
  have hse : D.spendE = 11 := by simp [Dev.spendE, hb]
  have HB := Lib.hid hb
  clear hb
  go_enter Tryd.func39, Tryd.ntmps39
  go_wp2_with (first
    | (go_at_call 42; refine (gone_c h).mono ?_; rintro e w' ⟨rfl, rfl⟩; rw [hg])
    | (go_at_call 65; refine (spend_c h).mono ?_; rintro e w1 ⟨rfl, h1, hf1⟩; rw [hse]))
  go_ret
  exact ⟨rfl, h1, hf1⟩

set_option maxRecDepth 100000 in
set_option maxHeartbeats 400000 in
theorem flush_nil (w : World) : Calls Tryd.prog 39 #[.pointer none] w fun e w' => e = .returned (.int .i64 11) ∧ w = w' := by
  go_enter Tryd.func39, Tryd.ntmps39
  go_wp2_with (go_at_call 42; refine (gone_nil _).mono ?_; rintro e w' ⟨rfl, rfl⟩)
  go_ret
  exact ⟨rfl, rfl⟩

/-- Flush. -/
theorem flush_c (h : DevAt Tryd.prog 3 w db lb mb D) :
    Calls Tryd.prog 39 #[.pointer (some ⟨db, 0, none⟩)] w fun e w' => e = .returned (.int .i64 D.flushE) ∧ DevAt Tryd.prog 3 w' db lb mb D.flush ∧ Fr (Dv db lb mb) w w' := by
  by_cases hg : D.gone = true
  · refine (flush_gone h hg).mono ?_
    rintro e w' ⟨rfl, rfl⟩
    refine ⟨by simp [Dev.flushE, hg], ?_, Fr.refl _ _⟩
    have : D.flush = D := by simp [Dev.flush, hg]
    rw [this]; exact h
  · have hg' : D.gone = false := by simpa using hg
    by_cases hb : D.budget = 0
    · refine (flush_spent h hg' hb).mono ?_
      rintro e w' ⟨rfl, h1, hf⟩
      refine ⟨by simp [Dev.flushE, hg', Dev.spendE, hb], ?_, hf.mono fun _ e => .inl e⟩
      have : D.flush = D.spend := by simp [Dev.flush, hg', hb]
      rw [this]; exact h1
    · refine (flush_yes h hg' hb).mono ?_
      rintro e w' ⟨rfl, h1, hf⟩
      refine ⟨by simp [Dev.flushE, hg', Dev.spendE, hb], ?_, hf⟩
      have : D.flush = D.spend.lay := by simp [Dev.flush, hg', hb]
      rw [this]; exact h1
end
end Go.Proofs.YtdeckbdaencjnaaDoor
