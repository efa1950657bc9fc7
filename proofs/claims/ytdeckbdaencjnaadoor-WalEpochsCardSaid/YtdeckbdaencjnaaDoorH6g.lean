/-
  frame: Gather, the walk. frame: Cut. Conditions: none.
-/
import Derived.Test.YtdeckbdaencjnaaDoorH6e
set_option linter.unusedVariables false
set_option linter.unusedSimpArgs false
namespace Go.Proofs.YtdeckbdaencjnaaDoor
open Go.RowKit
/-- Sectors that are read. -/
abbrev SecsAt (w : World) (A : Option Addr) (l : List (List Int)) : Prop := RowsAt (fun _ : List Int => []) (fun x => x) 0 w A l
/-- A piece in a block of its own kind. -/
structure PcRow (w : World) (b : Nat) (p : Pc) (A : Option Addr) (n c : Nat) : Prop where
  row : w.heap[b]? = some (.cells #[.int .i64 p.epoch, .int .i64 p.at_, .int .i64 p.index, .int .i64 p.count, .slice A n c] 160 (0, 0))
theorem PcRow.keep0 {w w' : World} {b : Nat} {p : Pc} {A : Option Addr} {n c : Nat} (h : PcRow w b p A n c) (hf : Fr F0 w w') : PcRow w' b p A n c := ⟨hf.keep0 h.row⟩
theorem PcRow.at {w : World} {b : Nat} {p : Pc} {A : Option Addr} {n c : Nat} (h : PcRow w b p A n c) : PcAt w b p A n c := ⟨_, h.row⟩
theorem stamp_apart {W : World} {b : Nat} {t : TypeId} {e c a i : Int} {A : Option Addr} {n : Nat} {D : List Int} (h : W.heap[b]? = some (.cells (stC e c a i).toArray t (0, 0))) (hd : BytesAt W A n D) : 0 < n → ∀ ad, A = some ad → ad.block ≠ b := by
  intro hp ad he hb
  subst he
  have hl := hd.len
  obtain ⟨ad', e', hc⟩ := hd.cells hp
  cases e'
  have h0 := hc 0 _ (by rw [List.getElem?_map, List.getElem?_eq_getElem (show 0 < D.length by omega)]; rfl)
  rw [addr_add0] at h0
  obtain ⟨b9, o9, s9⟩ := ad
  have hb' : b9 = b := hb
  subst hb'
  have hs9 : s9 = none := World.cell?_spot h0
  subst hs9
  rw [cell_of h] at h0
  have hm := List.mem_of_getElem? (show (stC e c a i)[o9]? = _ by simpa using h0)
  simp [stC] at hm
structure GatRet (w w' : World) (e : Ending) (g : Gat) : Prop where
  ex : ∃ v, e = .returned (.tuple #[v, .int .i64 g.epoch, .int .i64 g.count, .int .i64 g.e]) ∧ OwnV w w' v g.data
/-- How far the gathering is: nothing is known, or the record's epoch and count. -/
structure GatAt (l : List (List Int)) (at_ : Int) (j : Nat) (E C a i : Int) (acc : List Int) : Prop where
  zero : j = 0 → E = 0 ∧ C = 0 ∧ a = 0 ∧ i = 0 ∧ acc = []
  on : 0 < j → a = at_ + j ∧ i = j ∧ gather l at_ = gatherOn E C (l.drop j) j (at_ + j) acc
  len : acc.length ≤ 44 * j
theorem gather_zero {l : List (List Int)} {at_ : Int} {b : List Int} {r : List (List Int)} (h : l = b :: r) : gather l at_ = if readE b ≠ 0 then Gat.no (readE b) else gatherOn (pcOf b).epoch (pcOf b).count l 0 at_ [] := by subst h; rfl
theorem Pc.of_readE {b : List Int} (h : readE b = 0) : (pcOf b).Ok ∧ b.length = 64 := by
  unfold readE at h
  split at h
  · exact absurd h (by decide)
  split at h
  · exact absurd h (by decide)
  split at h
  · exact absurd h (by decide)
  split at h
  · exact absurd h (by decide)
  split at h
  · exact absurd h (by decide)
  rename_i h1 h2 h3 h4 h5
  exact ⟨by simpa [Pc.may] using h5, by omega⟩
theorem results_quad {P : Program} {fn : Func} {tmps : Array Value} {w : World} {a b c d : Nat} {v1 v2 v3 v4 : Value} (hfn : fn.results = #[.tmp a, .tmp b, .tmp c, .tmp d]) (h1 : tmps.getD a undef = v1) (h2 : tmps.getD b undef = v2) (h3 : tmps.getD c undef = v3) (h4 : tmps.getD d undef = v4) :
    (results fn tmps).run P w = .ok (.tuple #[v1, v2, v3, v4]) w := by
  subst h1; subst h2; subst h3; subst h4
  simp [results, hfn, Array.getD_eq_getD_getElem?]
section
variable {w : World}
set_option maxRecDepth 100000 in
set_option maxHeartbeats 8000000 in
theorem gather_c (A : Option Addr) (n c : Nat) (l : List (List Int)) (hl : l.length = n) (hA : SecsAt w A l) (h64 : ∀ b ∈ l, b.length = 64) (hn : n ≤ 5000) (at_ : Int) (a0 : 0 ≤ at_) (a1 : at_ ≤ 2199023255552) :
    Calls Tryd.prog 77 #[.slice A n c, .int .i64 at_] w fun e w' => GatRet w w' e (gather l at_) := by
  have HL := Lib.hid hl
  have H64 := Lib.hid h64
  have HA := Lib.hid hA
  have n0 : (0 : Int) ≤ (n : Int) := Int.natCast_nonneg _
  have n1 : (n : Int) ≤ 5000 := by omega
  have HFX : Hid (Fr F0 w (w.alloc (.cells #[.int .i64 0, .int .i64 0, .int .i64 0, .int .i64 0] 158))) := Lib.hid ((Fr.refl _ _).alloc _)
  have HST : Hid (StAt (w.alloc (.cells #[.int .i64 0, .int .i64 0, .int .i64 0, .int .i64 0] 158)) w.heap.size 0 0 0 0) := Lib.hid ⟨alloc_at rfl _⟩
  have FAIL : Hid (∀ (e : Int) (wr : World), Fr F0 w wr → GatRet w wr (.returned (.tuple #[.slice none 0 0, .int .i64 0, .int .i64 0, .int .i64 e])) (Gat.no e)) := Lib.hid (fun e wr hf => ⟨_, rfl, own_nil _ _ _ _, hf⟩)
  have PUT : Hid (∀ (W w1 : World) (v v1 : Value) (acc xs : List Int) (m : Nat) (E C a i : Int) (pb : Nat) (p : Pc) (A9 : Option Addr) (n9 c9 : Nat), xs.length = m → W.ownsRow (w.heap.size + 1) 5 1 v acc.length (acc.map (Value.int .u8)) → Fr F0 w W → StAt W w.heap.size E C a i → PcRow W pb p A9 n9 c9 →
      w1.ownsRow (w.heap.size + 1) 5 1 v1 ((acc.map (Value.int .u8)).length + m) (acc.map (Value.int .u8) ++ xs.map (Value.int .u8)) → Fr (fun k => v.ownBlock = some k) W w1 →
      w1.ownsRow (w.heap.size + 1) 5 1 v1 (acc ++ xs).length ((acc ++ xs).map (Value.int .u8)) ∧ Fr F0 w w1 ∧ StAt w1 w.heap.size E C a i ∧ PcRow w1 pb p A9 n9 c9) := Lib.hid (by
    intro W w1 v v1 acc xs m E C a i pb p A9 n9 c9 hx ho hf hs hp ho1 hf1
    refine ⟨by rw [List.length_append, hx, List.map_append]; rw [List.length_map] at ho1; exact ho1, hf.trans hf1 (fun k hk => .inr (by have := own_base ho k hk; omega)), ⟨hf1.keep hs.row (fun hk => by have := own_base ho _ hk; omega)⟩, ?_⟩
    refine ⟨hf1.keep hp.row (fun hk => ?_)⟩
    obtain ⟨cs, hc⟩ := own_cells ho _ hk
    rw [hp.row] at hc
    cases hc)
  clear hl h64 hA
  go_enter Tryd.func77, Tryd.ntmps77
  go_wp2_with fail
  go_loopg [8, 10, 11, 12, 13, 16] n (fun kq x8 x10 x11 x12 x13 x16 wr => ∃ j : Nat, j ≤ n ∧ kq = n - j ∧ x16 = .int .i64 (j : Int) ∧ ∃ E C a i acc, GatAt l at_ j E C a i acc ∧ StAt wr w.heap.size E C a i ∧ wr.ownsRow (w.heap.size + 1) 5 1 x8 acc.length (acc.map (Value.int .u8)) ∧ Fr F0 w wr)
  case atStart => exact ⟨0, by omega, rfl, rfl, 0, 0, 0, 0, [], ⟨fun _ => ⟨rfl, rfl, rfl, rfl, rfl⟩, fun h => by omega, by simp⟩, HST.out, own_nil _ _ _ _, HFX.out⟩
  case round =>
    obtain ⟨j, hj, rfl, rfl, E, C, a, i, acc, hG, hst, hown, hfr⟩ := hrel
    have HGA := Lib.hid hG
    have HS9 := Lib.hid hst
    have HO := Lib.hid hown
    have HFR := Lib.hid hfr
    have hzw : w.heap.size < wr.heap.size := lt_of_block hst.row
    have hal := hG.len
    clear hG hst hown hfr
    by_cases hlt : j < n
    · have j0 : (0 : Int) ≤ (j : Int) := Int.natCast_nonneg _
      have j1 : (j : Int) < (n : Int) := by omega
      have hjl : j < l.length := by rw [HL.out]; exact hlt
      obtain ⟨b, hb⟩ : ∃ b, l[j]? = some b := ⟨l[j], List.getElem?_eq_getElem hjl⟩
      obtain ⟨gb, off, B, cb, rfl, -, hcell, hby, hbys⟩ := (HA.out.keep0 HFR.out).row j b hb
      have hb64 := H64.out b (List.mem_of_getElem? hb)
      have hdrop : l.drop j = b :: l.drop (j + 1) := by
        rw [← List.getElem_cons_drop hjl]
        have : l[j] = b := by rw [List.getElem?_eq_getElem hjl] at hb; exact Option.some.inj hb
        rw [this]
      have HDROP := Lib.hid hdrop
      have HBY := Lib.hid hby
      have HBS := Lib.hid hbys
      have HB64 := Lib.hid hb64
      simp only [Nat.zero_add, Nat.mul_one, Nat.add_zero] at hcell
      rw [hb64] at hcell
      -- how the gathering goes on from here
      have STEP : Hid (gather l at_ = if readE b ≠ 0 then Gat.no (readE b) else gatherOn (if j = 0 then (pcOf b).epoch else E) (if j = 0 then (pcOf b).count else C) (b :: l.drop (j + 1)) (j : Int) (at_ + (j : Int)) acc) := Lib.hid (by
        rcases Nat.eq_zero_or_pos j with h0 | h0
        · subst h0
          obtain ⟨-, -, -, -, hacc⟩ := HGA.out.zero rfl
          have hl0 : l = b :: l.drop 1 := by have := HDROP.out; simpa using this
          rw [gather_zero hl0, if_pos rfl, if_pos rfl, hacc]
          have : (at_ + ((0 : Nat) : Int)) = at_ := by simp
          rw [this, ← hl0]; rfl
        · obtain ⟨-, -, hg⟩ := HGA.out.on h0
          have hj0 : ¬ j = 0 := by omega
          rw [hg, HDROP.out]
          simp only [if_neg hj0]
          by_cases hr : readE b ≠ 0
          · rw [if_pos hr]; simp [gatherOn, hr]
          · rw [if_neg hr])
      clear hb hby hbys hb64 hdrop
      go_wp2_with fail
      refine (read6_c B cb b HBY.out HB64.out HBS.out).mono ?_
      rintro e w2 ⟨A9, n9, c9, rfl, hd9, hf2⟩
      obtain ⟨er, her⟩ : ∃ er, er = readE b := ⟨_, rfl⟩
      obtain ⟨p, hp⟩ : ∃ p, p = readP b := ⟨_, rfl⟩
      rw [← her, ← hp]
      rw [← hp] at hd9
      have HER := Lib.hid her
      have HPB := Lib.hid hp
      have hf3 : Fr F0 wr (w2.alloc (.cells #[.int .i64 p.epoch, .int .i64 p.at_, .int .i64 p.index, .int .i64 p.count, .slice A9 n9 c9] 160)) := hf2.alloc _
      have APART : Hid (∀ ad, A9 = some ad → 0 < n9 → ad.block ≠ w.heap.size) := Lib.hid (fun ad e hp => stamp_apart (hf2.keep0 HS9.out.row) hd9 hp ad e)
      have HD9 : Hid (BytesAt (w2.alloc (.cells #[.int .i64 p.epoch, .int .i64 p.at_, .int .i64 p.index, .int .i64 p.count, .slice A9 n9 c9] 160)) A9 n9 p.data) := Lib.hid (hd9.keep0 ((Fr.refl _ _).alloc _))
      have HS9 := Lib.hid (HS9.out.keep0 hf3)
      have HO := Lib.hid (own_keep0 HO.out hf3)
      have HFR := Lib.hid (HFR.out.then0 hf3)
      have HP12 : Hid (PcRow (w2.alloc (.cells #[.int .i64 p.epoch, .int .i64 p.at_, .int .i64 p.index, .int .i64 p.count, .slice A9 n9 c9] 160)) w2.heap.size p A9 n9 c9) := Lib.hid ⟨alloc_at rfl _⟩
      have hz2 := hf2.size
      clear hf2 hf3 hd9 her hp hcell
      by_cases he : er = 0
      · have hok := (Pc.of_readE (b := b) (by rw [← HER.out]; exact he)).1
        have hpp : p = pcOf b := by rw [HPB.out]; unfold readP; rw [if_pos (by rw [← HER.out]; exact he)]
        have HPP := Lib.hid hpp
        rw [← hpp] at hok
        obtain ⟨e0, e1, pa0, pa1, pc0, pc1, pi0, pi1, pd0, -⟩ := hok
        have STEP : Hid (gather l at_ = gatherOn (if j = 0 then p.epoch else E) (if j = 0 then p.count else C) (b :: l.drop (j + 1)) (j : Int) (at_ + (j : Int)) acc) := Lib.hid (by rw [STEP.out, if_neg (by rw [← HER.out]; simp [he]), ← HPP.out])
        have HER0 : Hid (readE b = 0) := Lib.hid (by rw [← HER.out]; exact he)
        subst he
        clear hpp
        by_cases hj0 : j = 0
        · subst hj0
          obtain ⟨z1, z2, z3, z4, z5⟩ := HGA.out.zero rfl
          subst z1; subst z2; subst z3; subst z4; subst z5
          have STEP0 : Hid (gather l at_ = gatherOn p.epoch p.count (b :: l.drop (0 + 1)) (0 : Int) at_ ([] : List Int)) := Lib.hid (by
            have h1 := STEP.out
            rw [if_pos rfl, if_pos rfl] at h1
            simpa using h1)
          have hz12 : w.heap.size < w2.heap.size := by omega
          have HR9 := Lib.hid HS9.out.row
          have hfs : Fr (fun q => q = w.heap.size) (w2.alloc (.cells #[.int .i64 p.epoch, .int .i64 p.at_, .int .i64 p.index, .int .i64 p.count, .slice A9 n9 c9] 160)) ((w2.alloc (.cells #[.int .i64 p.epoch, .int .i64 p.at_, .int .i64 p.index, .int .i64 p.count, .slice A9 n9 c9] 160)).setRow w.heap.size (splat (stC 0 0 0 0) 0 (stC p.epoch p.count at_ 0)).toArray) := (Fr.refl _ _).setRow (by exact .inl rfl) _
          have HFS := Lib.hid hfs
          have HD9 := Lib.hid (HD9.out.keep hfs (fun hp ad e hb => by
            subst e
            have := APART.out ad rfl hp
            omega))
          have HS9 : Hid (StAt ((w2.alloc (.cells #[.int .i64 p.epoch, .int .i64 p.at_, .int .i64 p.index, .int .i64 p.count, .slice A9 n9 c9] 160)).setRow w.heap.size (splat (stC 0 0 0 0) 0 (stC p.epoch p.count at_ 0)).toArray) w.heap.size p.epoch p.count at_ 0) := Lib.hid ⟨by rw [setRow_heap _ w.heap.size _ _ _ _ HR9.out, splat_all (stC 0 0 0 0) (stC p.epoch p.count at_ 0) rfl]⟩
          have HO := Lib.hid (own_keep HO.out hfs (fun q hq hs => by have := own_base HO.out q hq; omega))
          have HFR : Hid (Fr F0 w ((w2.alloc (.cells #[.int .i64 p.epoch, .int .i64 p.at_, .int .i64 p.index, .int .i64 p.count, .slice A9 n9 c9] 160)).setRow w.heap.size (splat (stC 0 0 0 0) 0 (stC p.epoch p.count at_ 0)).toArray)) := Lib.hid (HFR.out.setRow (by exact .inr (Nat.le_refl _)) _)
          have HP12 : Hid (PcRow ((w2.alloc (.cells #[.int .i64 p.epoch, .int .i64 p.at_, .int .i64 p.index, .int .i64 p.count, .slice A9 n9 c9] 160)).setRow w.heap.size (splat (stC 0 0 0 0) 0 (stC p.epoch p.count at_ 0)).toArray) w2.heap.size p A9 n9 c9) := Lib.hid ⟨hfs.keep HP12.out.row (by omega)⟩
          clear hfs
          go_upto_region 11 with (first | (refine wpList_store_fresh rfl 160 (.tmp 12) (.tmp 24) rfl #[.int .i64 p.epoch, .int .i64 p.at_, .int .i64 p.index, .int .i64 p.count, .slice A9 n9 c9] (by rfl) (by rfl) 160 zpc.toArray (by rw [size_piece]; rfl) rfl (by rfl) ?_) | (refine wpList_store_at rfl 158 (.tmp 9) (.tmp 36) rfl w.heap.size 0 (stC p.epoch p.count at_ 0) (by rfl) (by rfl) 158 (stC 0 0 0 0) HR9.out size_stamp (Nat.le_refl 4) (stC_one _ _ _ _) ?_))
          by_cases hm : p.Stamp p.epoch p.count at_ (0 : Int)
          · have HQ : Hid (p.epoch = p.epoch ∧ p.count = p.count ∧ p.at_ = at_ ∧ p.index = (0 : Int)) := Lib.hid hm
            have M1 : Hid (p.epoch = p.epoch) := Lib.hid hm.1
            have M2 : Hid (p.count = p.count) := Lib.hid hm.2.1
            have M3 : Hid (p.at_ = at_) := Lib.hid hm.2.2.1
            have M4 : Hid (p.index = (0 : Int)) := Lib.hid hm.2.2.2
            have STEP2 : Hid (gather l at_ = if ((0 : Int) : Int) = p.count - 1 then ⟨0, ([] : List Int) ++ p.data, p.epoch, p.count⟩ else gatherOn p.epoch p.count (l.drop (0 + 1)) ((0 : Int) + 1) (at_ + 1) (([] : List Int) ++ p.data)) := Lib.hid (by
              rw [STEP0.out, gatherOn, if_neg (by rw [HER0.out]; simp), ← HPP.out, if_neg (by simpa using hm)])
            clear hm
            refine wp_region_free (S := F0) [false, false, false, false, false, false, false, false, false, false, false, false, false, false, false, false, false, false, false, false, false, false, false, false, false, false, false, false, false, false, false, false, false, false, false, false, false, true, true, true, true, false, false, false, false, false, false, false, false, false, false, false, false, false, false, false, false, false] [.eq (.agg #[.int .i64 p.epoch, .int .i64 p.at_, .int .i64 p.index, .int .i64 p.count, .slice A9 n9 c9]), .eq (.agg #[.int .i64 p.epoch, .int .i64 p.count, .int .i64 p.at_, .int .i64 p.index]), .eq (.agg #[.int .i64 p.epoch, .int .i64 p.count, .int .i64 at_, .int .i64 0]), .eq (.bool false)] (by kernel_rfl) (by kernel_rfl) (by rfl) (fun us => ?steps) (fun us wz hG hall => ?fin)
            case steps =>
              simp only [fillL, Nat.reduceAdd]
              refine stepsHold.cons (fun wx hG hd K hK => ?_) ?_
              · rw [if_pos (wanted_none rfl)]
                obtain ⟨q0, q1, q2, q3, q4⟩ := (HP12.out.keep0 hG).at.all
                refine wp_value (w2 := wx) (v := .agg #[.int .i64 p.epoch, .int .i64 p.at_, .int .i64 p.index, .int .i64 p.count, .slice A9 n9 c9]) ?_ (hK _ _ rfl (Fr.refl _ _))
                clear hd hK
                go_simp
              refine stepsHold.cons (fun wx hG hd K hK => ?_) ?_
              · have h37 : us 37 = (.agg #[.int .i64 p.epoch, .int .i64 p.at_, .int .i64 p.index, .int .i64 p.count, .slice A9 n9 c9]) := deps_get hd 0 rfl rfl rfl rfl rfl
                rw [if_pos (wanted_none rfl)]
                refine wp_call (w2 := wx) (f := 104) (args := #[.agg #[.int .i64 p.epoch, .int .i64 p.at_, .int .i64 p.index, .int .i64 p.count, .slice A9 n9 c9]]) ?_ ?_
                · clear hd hK
                  go_simp
                · refine (stamped_c p A9 n9 c9).mono ?_
                  rintro e w9 ⟨rfl, hf9⟩
                  exact ⟨_, rfl, hK _ _ rfl hf9⟩
              refine stepsHold.cons (fun wx hG hd K hK => ?_) ?_
              · rw [if_pos (wanted_none rfl)]
                obtain ⟨q0, q1, q2, q3⟩ := (HS9.out.keep0 hG).all
                refine wp_value (w2 := wx) (v := .agg #[.int .i64 p.epoch, .int .i64 p.count, .int .i64 at_, .int .i64 0]) ?_ (hK _ _ rfl (Fr.refl _ _))
                clear hd hK
                go_simp
              refine stepsHold.cons (fun wx hG hd K hK => ?_) ?_
              · have h38 : us 38 = (.agg #[.int .i64 p.epoch, .int .i64 p.count, .int .i64 p.at_, .int .i64 p.index]) := deps_get hd 0 rfl rfl rfl rfl rfl
                have h39 : us 39 = (.agg #[.int .i64 p.epoch, .int .i64 p.count, .int .i64 at_, .int .i64 0]) := deps_get hd 1 rfl rfl rfl rfl rfl
                rw [if_pos (wanted_none rfl)]
                have m3 := M3.out
                have m4 := M4.out
                refine wp_value (w2 := wx) (v := .bool false) ?_ (hK _ _ rfl (Fr.refl _ _))
                clear hd hG hK
                go_simp
                first | done | exact HQ.out
              exact stepsHold.nil
            case fin =>
              have h37 : us 37 = (.agg #[.int .i64 p.epoch, .int .i64 p.at_, .int .i64 p.index, .int .i64 p.count, .slice A9 n9 c9]) := all_get hall 0 rfl rfl rfl
              have h38 : us 38 = (.agg #[.int .i64 p.epoch, .int .i64 p.count, .int .i64 p.at_, .int .i64 p.index]) := all_get hall 1 rfl rfl rfl
              have h39 : us 39 = (.agg #[.int .i64 p.epoch, .int .i64 p.count, .int .i64 at_, .int .i64 0]) := all_get hall 2 rfl rfl rfl
              have h40 : us 40 = (.bool false) := all_get hall 3 rfl rfl rfl
              simp only [fillL, Nat.reduceAdd]
              clear hall
              simp only [h37, h38, h39, h40]
              clear h37 h38 h39 h40
              have HP12 := Lib.hid (HP12.out.keep0 hG)
              have HS9 := Lib.hid (HS9.out.keep0 hG)
              have HO := Lib.hid (own_keep0 HO.out hG)
              have HFR := Lib.hid (HFR.out.then0 hG)
              have HD9 := Lib.hid (HD9.out.keep0 hG)
              have hzz : w.heap.size < wz.heap.size := lt_of_block HS9.out.row
              obtain ⟨q0, q1, q2, q3, q4⟩ := HP12.out.at.all
              have hvl : ValsAt wz A9 (p.data.map (Value.int .u8)) := HD9.out.vals
              have HVL := Lib.hid hvl
              have HL9 := Lib.hid HD9.out.len
              have hlb : (([] : List Int)).length + n9 ≤ 300000 := by
                have h1 := HD9.out.len
                have h2 := HGA.out.len
                simp at h2 ⊢
                omega
              have HLB := Lib.hid hlb
              clear hG hvl hlb
              have lcc : ((0 : Int) : Int) + 1 ≤ 5000 := by omega
              have hcm : 0 ≤ p.count - 1 := by omega
              by_cases hlast : ((0 : Int) : Int) = p.count - 1
              · have hlb2 : ((0 : Int) == p.count - 1) = true := by simp [hlast]
                have HG0 : Hid (gather l at_ = ⟨0, ([] : List Int) ++ p.data, p.epoch, p.count⟩) := Lib.hid (by rw [STEP2.out, if_pos (by rw [← M2.out]; exact hlast)])
                have HLAST := Lib.hid hlast
                clear hlast
                go_wp2_with (at_builtin; refine wpList_append_vals rfl (.tmp 41) (.tmp 43) 24 5 1 (.int .u8 0) rfl und_bytes info_u8 rfl (by decide) (w.heap.size + 1) u8 ((([] : List Int)).map (Value.int .u8)) (p.data.map (Value.int .u8)) A9 n9 c9 (by rfl) (by rfl) (by rw [List.length_map, HL9.out]) (bytes_one _) (by rw [List.length_map]; exact HO.out) HVL.out hzz (by rw [List.length_map]; have := HLB.out; omega) ?_; intro v7 w7 hown7 hf7; have Q := Lib.hid (PUT.out wz w7 _ v7 _ p.data n9 _ _ _ _ _ p A9 n9 c9 HL9.out HO.out HFR.out HS9.out HP12.out hown7 hf7); obtain ⟨q0, q1, q2, q3, q4⟩ := Q.out.2.2.2.at.all; clear hown7 hf7)
                go_still (by kernel_rfl)
                go_wp2_with fail
                refine bodyPost_ret (results_quad (v1 := v7) (v2 := .int .i64 p.epoch) (v3 := .int .i64 p.count) (v4 := .int .i64 0) Tryd.results77 (by rfl) (by rfl) (by rfl) (by rfl)) rfl ?_
                rw [HG0.out]
                refine ⟨_, rfl, ?_, Q.out.2.1.drew⟩
                have := own_base_le Q.out.1 (show w.heap.size ≤ w.heap.size + 1 by omega)
                exact own_keep0 this ((Fr.refl _ _).drew)
              · have hlb2 : ((0 : Int) == p.count - 1) = false := by simp [hlast]
                have HG1 : Hid (gather l at_ = gatherOn p.epoch p.count (l.drop (0 + 1)) ((0 : Int) + 1) (at_ + 1) (([] : List Int) ++ p.data)) := Lib.hid (by rw [STEP2.out, if_neg (by rw [← M2.out]; exact hlast)])
                clear hlast
                have a2 : (0 : Int) ≤ at_ := by omega
                have a3 : (at_ : Int) ≤ 1152921504606846976 := by omega
                have k2 : (0 : Int) ≤ (0 : Int) := by omega
                have k3 : ((0 : Int) : Int) ≤ 1152921504606846976 := by omega
                go_wp2_with (at_builtin; refine wpList_append_vals rfl (.tmp 41) (.tmp 43) 24 5 1 (.int .u8 0) rfl und_bytes info_u8 rfl (by decide) (w.heap.size + 1) u8 ((([] : List Int)).map (Value.int .u8)) (p.data.map (Value.int .u8)) A9 n9 c9 (by rfl) (by rfl) (by rw [List.length_map, HL9.out]) (bytes_one _) (by rw [List.length_map]; exact HO.out) HVL.out hzz (by rw [List.length_map]; have := HLB.out; omega) ?_; intro v7 w7 hown7 hf7; have Q := Lib.hid (PUT.out wz w7 _ v7 _ p.data n9 _ _ _ _ _ p A9 n9 c9 HL9.out HO.out HFR.out HS9.out HP12.out hown7 hf7); obtain ⟨q0, q1, q2, q3, q4⟩ := Q.out.2.2.2.at.all; obtain ⟨s0, s1, s2, s3⟩ := Q.out.2.2.1.all; clear hown7 hf7)
                refine (next6_c p.epoch p.count at_ (0 : Int) a2 a3 k2 k3).mono ?_
                rintro e w8 ⟨rfl, hf8⟩
                have HR9 := Lib.hid (hf8.keep0 Q.out.2.2.1.row)
                have HF8 := Lib.hid (Q.out.2.1.then0 hf8)
                have HO8 := Lib.hid (own_keep0 Q.out.1 hf8)
                have hz8 : w.heap.size < w8.heap.size := lt_of_block HR9.out
                clear s0 s1 s2 s3 q0 q1 q2 q3 q4 hf8 a2 a3 k2 k3
                go_wp2_with (refine wpList_store_at rfl 158 (.tmp 9) (.tmp 56) rfl w.heap.size 0 (stC p.epoch p.count (at_ + 1) ((0 : Int) + 1)) (by rfl) (by rfl) 158 (stC p.epoch p.count at_ (0 : Int)) HR9.out size_stamp (Nat.le_refl 4) (stC_one _ _ _ _) ?_)
                have hfs : Fr (fun q => q = w.heap.size) w8 (w8.setRow w.heap.size (splat (stC p.epoch p.count at_ (0 : Int)) 0 (stC p.epoch p.count (at_ + 1) ((0 : Int) + 1))).toArray) := (Fr.refl _ _).setRow (by exact .inl rfl) _
                go_roundg (n - (0 + 1))
                case measure => omega
                case rel =>
                  refine ⟨0 + 1, by omega, rfl, by first | rfl | (go_num), p.epoch, p.count, at_ + 1, (0 : Int) + 1, ([] : List Int) ++ p.data, ⟨fun h => by omega, fun _ => ⟨by simp, by simp, ?_⟩, ?_⟩, ⟨?_⟩, ?_, HF8.out.setRow (by exact .inr (Nat.le_refl _)) _⟩
                  · rw [HG1.out]
                    rfl
                  · have h1 := HGA.out.len
                    have h2 := HD9.out.len
                    have h3 : n9 ≤ 44 := by omega
                    simp at h1 ⊢
                    omega
                  · rw [setRow_heap _ w.heap.size _ _ _ _ HR9.out]; rfl
                  · exact own_keep HO8.out hfs (fun q hq hs => by have := own_base HO8.out q hq; omega)
          · have HQ : Hid (p.epoch = p.epoch → p.count = p.count → p.at_ = at_ → ¬ p.index = (0 : Int)) := Lib.hid (fun h1 h2 h3 h4 => hm ⟨h1, h2, h3, h4⟩)
            have HG3 : Hid (gather l at_ = Gat.no 3) := Lib.hid (by rw [STEP0.out, gatherOn, if_neg (by rw [HER0.out]; simp), ← HPP.out, if_pos hm])
            clear hm
            refine wp_region_free (S := F0) [false, false, false, false, false, false, false, false, false, false, false, false, false, false, false, false, false, false, false, false, false, false, false, false, false, false, false, false, false, false, false, false, false, false, false, false, false, true, true, true, true, false, false, false, false, false, false, false, false, false, false, false, false, false, false, false, false, false] [.eq (.agg #[.int .i64 p.epoch, .int .i64 p.at_, .int .i64 p.index, .int .i64 p.count, .slice A9 n9 c9]), .eq (.agg #[.int .i64 p.epoch, .int .i64 p.count, .int .i64 p.at_, .int .i64 p.index]), .eq (.agg #[.int .i64 p.epoch, .int .i64 p.count, .int .i64 at_, .int .i64 0]), .eq (.bool true)] (by kernel_rfl) (by kernel_rfl) (by rfl) (fun us => ?steps) (fun us wz hG hall => ?fin)
            case steps =>
              simp only [fillL, Nat.reduceAdd]
              refine stepsHold.cons (fun wx hG hd K hK => ?_) ?_
              · rw [if_pos (wanted_none rfl)]
                obtain ⟨q0, q1, q2, q3, q4⟩ := (HP12.out.keep0 hG).at.all
                refine wp_value (w2 := wx) (v := .agg #[.int .i64 p.epoch, .int .i64 p.at_, .int .i64 p.index, .int .i64 p.count, .slice A9 n9 c9]) ?_ (hK _ _ rfl (Fr.refl _ _))
                clear hd hK
                go_simp
              refine stepsHold.cons (fun wx hG hd K hK => ?_) ?_
              · have h37 : us 37 = (.agg #[.int .i64 p.epoch, .int .i64 p.at_, .int .i64 p.index, .int .i64 p.count, .slice A9 n9 c9]) := deps_get hd 0 rfl rfl rfl rfl rfl
                rw [if_pos (wanted_none rfl)]
                refine wp_call (w2 := wx) (f := 104) (args := #[.agg #[.int .i64 p.epoch, .int .i64 p.at_, .int .i64 p.index, .int .i64 p.count, .slice A9 n9 c9]]) ?_ ?_
                · clear hd hK
                  go_simp
                · refine (stamped_c p A9 n9 c9).mono ?_
                  rintro e w9 ⟨rfl, hf9⟩
                  exact ⟨_, rfl, hK _ _ rfl hf9⟩
              refine stepsHold.cons (fun wx hG hd K hK => ?_) ?_
              · rw [if_pos (wanted_none rfl)]
                obtain ⟨q0, q1, q2, q3⟩ := (HS9.out.keep0 hG).all
                refine wp_value (w2 := wx) (v := .agg #[.int .i64 p.epoch, .int .i64 p.count, .int .i64 at_, .int .i64 0]) ?_ (hK _ _ rfl (Fr.refl _ _))
                clear hd hK
                go_simp
              refine stepsHold.cons (fun wx hG hd K hK => ?_) ?_
              · have h38 : us 38 = (.agg #[.int .i64 p.epoch, .int .i64 p.count, .int .i64 p.at_, .int .i64 p.index]) := deps_get hd 0 rfl rfl rfl rfl rfl
                have h39 : us 39 = (.agg #[.int .i64 p.epoch, .int .i64 p.count, .int .i64 at_, .int .i64 0]) := deps_get hd 1 rfl rfl rfl rfl rfl
                rw [if_pos (wanted_none rfl)]
                refine wp_value (w2 := wx) (v := .bool true) ?_ (hK _ _ rfl (Fr.refl _ _))
                clear hd hG hK
                go_simp
                first | done | exact HQ.out | exact HQ.out rfl rfl
              exact stepsHold.nil
            case fin =>
              have h37 : us 37 = (.agg #[.int .i64 p.epoch, .int .i64 p.at_, .int .i64 p.index, .int .i64 p.count, .slice A9 n9 c9]) := all_get hall 0 rfl rfl rfl
              have h38 : us 38 = (.agg #[.int .i64 p.epoch, .int .i64 p.count, .int .i64 p.at_, .int .i64 p.index]) := all_get hall 1 rfl rfl rfl
              have h39 : us 39 = (.agg #[.int .i64 p.epoch, .int .i64 p.count, .int .i64 at_, .int .i64 0]) := all_get hall 2 rfl rfl rfl
              have h40 : us 40 = (.bool true) := all_get hall 3 rfl rfl rfl
              simp only [fillL, Nat.reduceAdd]
              clear hall
              simp only [h37, h38, h39, h40]
              clear h37 h38 h39 h40
              go_wp2_with fail
              refine bodyPost_ret (results_quad (v1 := .slice none 0 0) (v2 := .int .i64 0) (v3 := .int .i64 0) (v4 := .int .i64 3) Tryd.results77 (by rfl) (by rfl) (by rfl) (by rfl)) rfl ?_
              rw [HG3.out]
              exact FAIL.out 3 _ (HFR.out.then0 hG)
        · have hjp : 0 < j := by omega
          obtain ⟨ha, hi, -⟩ := HGA.out.on hjp
          have STEP : Hid (gather l at_ = gatherOn E C (b :: l.drop (j + 1)) (j : Int) (at_ + (j : Int)) acc) := Lib.hid (by
            have h1 := STEP.out
            rwa [if_neg hj0, if_neg hj0] at h1)
          have hjz : ((j : Int) == 0) = false := by simp; omega
          subst hi
          subst ha
          clear hj0
          go_upto_region 11 with (refine wpList_store_fresh rfl 160 (.tmp 12) (.tmp 24) rfl #[.int .i64 p.epoch, .int .i64 p.at_, .int .i64 p.index, .int .i64 p.count, .slice A9 n9 c9] (by rfl) (by rfl) 160 zpc.toArray (by rw [size_piece]; rfl) rfl (by rfl) ?_)
          by_cases hm : p.Stamp E C (at_ + (j : Int)) (j : Int)
          · have HQ : Hid (p.epoch = E ∧ p.count = C ∧ p.at_ = (at_ + (j : Int)) ∧ p.index = (j : Int)) := Lib.hid hm
            have M1 : Hid (p.epoch = E) := Lib.hid hm.1
            have M2 : Hid (p.count = C) := Lib.hid hm.2.1
            have M3 : Hid (p.at_ = (at_ + (j : Int))) := Lib.hid hm.2.2.1
            have M4 : Hid (p.index = (j : Int)) := Lib.hid hm.2.2.2
            have STEP2 : Hid (gather l at_ = if ((j : Int) : Int) = C - 1 then ⟨0, acc ++ p.data, E, C⟩ else gatherOn E C (l.drop (j + 1)) ((j : Int) + 1) ((at_ + (j : Int)) + 1) (acc ++ p.data)) := Lib.hid (by
              rw [STEP.out, gatherOn, if_neg (by rw [HER0.out]; simp), ← HPP.out, if_neg (by simpa using hm)])
            clear hm
            refine wp_region_free (S := F0) [false, false, false, false, false, false, false, false, false, false, false, false, false, false, false, false, false, false, false, false, false, false, false, false, false, false, false, false, false, false, false, false, false, false, false, false, false, true, true, true, true, false, false, false, false, false, false, false, false, false, false, false, false, false, false, false, false, false] [.eq (.agg #[.int .i64 p.epoch, .int .i64 p.at_, .int .i64 p.index, .int .i64 p.count, .slice A9 n9 c9]), .eq (.agg #[.int .i64 p.epoch, .int .i64 p.count, .int .i64 p.at_, .int .i64 p.index]), .eq (.agg #[.int .i64 E, .int .i64 C, .int .i64 (at_ + (j : Int)), .int .i64 (j : Int)]), .eq (.bool false)] (by kernel_rfl) (by kernel_rfl) (by rfl) (fun us => ?steps) (fun us wz hG hall => ?fin)
            case steps =>
              simp only [fillL, Nat.reduceAdd]
              refine stepsHold.cons (fun wx hG hd K hK => ?_) ?_
              · rw [if_pos (wanted_none rfl)]
                obtain ⟨q0, q1, q2, q3, q4⟩ := (HP12.out.keep0 hG).at.all
                refine wp_value (w2 := wx) (v := .agg #[.int .i64 p.epoch, .int .i64 p.at_, .int .i64 p.index, .int .i64 p.count, .slice A9 n9 c9]) ?_ (hK _ _ rfl (Fr.refl _ _))
                clear hd hK
                go_simp
              refine stepsHold.cons (fun wx hG hd K hK => ?_) ?_
              · have h37 : us 37 = (.agg #[.int .i64 p.epoch, .int .i64 p.at_, .int .i64 p.index, .int .i64 p.count, .slice A9 n9 c9]) := deps_get hd 0 rfl rfl rfl rfl rfl
                rw [if_pos (wanted_none rfl)]
                refine wp_call (w2 := wx) (f := 104) (args := #[.agg #[.int .i64 p.epoch, .int .i64 p.at_, .int .i64 p.index, .int .i64 p.count, .slice A9 n9 c9]]) ?_ ?_
                · clear hd hK
                  go_simp
                · refine (stamped_c p A9 n9 c9).mono ?_
                  rintro e w9 ⟨rfl, hf9⟩
                  exact ⟨_, rfl, hK _ _ rfl hf9⟩
              refine stepsHold.cons (fun wx hG hd K hK => ?_) ?_
              · rw [if_pos (wanted_none rfl)]
                obtain ⟨q0, q1, q2, q3⟩ := (HS9.out.keep0 hG).all
                refine wp_value (w2 := wx) (v := .agg #[.int .i64 E, .int .i64 C, .int .i64 (at_ + (j : Int)), .int .i64 (j : Int)]) ?_ (hK _ _ rfl (Fr.refl _ _))
                clear hd hK
                go_simp
              refine stepsHold.cons (fun wx hG hd K hK => ?_) ?_
              · have h38 : us 38 = (.agg #[.int .i64 p.epoch, .int .i64 p.count, .int .i64 p.at_, .int .i64 p.index]) := deps_get hd 0 rfl rfl rfl rfl rfl
                have h39 : us 39 = (.agg #[.int .i64 E, .int .i64 C, .int .i64 (at_ + (j : Int)), .int .i64 (j : Int)]) := deps_get hd 1 rfl rfl rfl rfl rfl
                rw [if_pos (wanted_none rfl)]
                have m1 := M1.out
                have m2 := M2.out
                have m3 := M3.out
                have m4 := M4.out
                refine wp_value (w2 := wx) (v := .bool false) ?_ (hK _ _ rfl (Fr.refl _ _))
                clear hd hG hK
                go_simp
                first | done | exact HQ.out
              exact stepsHold.nil
            case fin =>
              have h37 : us 37 = (.agg #[.int .i64 p.epoch, .int .i64 p.at_, .int .i64 p.index, .int .i64 p.count, .slice A9 n9 c9]) := all_get hall 0 rfl rfl rfl
              have h38 : us 38 = (.agg #[.int .i64 p.epoch, .int .i64 p.count, .int .i64 p.at_, .int .i64 p.index]) := all_get hall 1 rfl rfl rfl
              have h39 : us 39 = (.agg #[.int .i64 E, .int .i64 C, .int .i64 (at_ + (j : Int)), .int .i64 (j : Int)]) := all_get hall 2 rfl rfl rfl
              have h40 : us 40 = (.bool false) := all_get hall 3 rfl rfl rfl
              simp only [fillL, Nat.reduceAdd]
              clear hall
              simp only [h37, h38, h39, h40]
              clear h37 h38 h39 h40
              have HP12 := Lib.hid (HP12.out.keep0 hG)
              have HS9 := Lib.hid (HS9.out.keep0 hG)
              have HO := Lib.hid (own_keep0 HO.out hG)
              have HFR := Lib.hid (HFR.out.then0 hG)
              have HD9 := Lib.hid (HD9.out.keep0 hG)
              have hzz : w.heap.size < wz.heap.size := lt_of_block HS9.out.row
              obtain ⟨q0, q1, q2, q3, q4⟩ := HP12.out.at.all
              have hvl : ValsAt wz A9 (p.data.map (Value.int .u8)) := HD9.out.vals
              have HVL := Lib.hid hvl
              have HL9 := Lib.hid HD9.out.len
              have hlb : (acc).length + n9 ≤ 300000 := by
                have h1 := HD9.out.len
                have h2 := HGA.out.len
                simp at h2 ⊢
                omega
              have HLB := Lib.hid hlb
              clear hG hvl hlb
              have lcc : ((j : Int) : Int) + 1 ≤ 5000 := by omega
              have hcm : 0 ≤ p.count - 1 := by omega
              by_cases hlast : ((j : Int) : Int) = p.count - 1
              · have hlb2 : ((j : Int) == p.count - 1) = true := by simp [hlast]
                have HG0 : Hid (gather l at_ = ⟨0, acc ++ p.data, E, C⟩) := Lib.hid (by rw [STEP2.out, if_pos (by rw [← M2.out]; exact hlast)])
                have HLAST := Lib.hid hlast
                clear hlast
                go_wp2_with (at_builtin; refine wpList_append_vals rfl (.tmp 41) (.tmp 43) 24 5 1 (.int .u8 0) rfl und_bytes info_u8 rfl (by decide) (w.heap.size + 1) u8 ((acc).map (Value.int .u8)) (p.data.map (Value.int .u8)) A9 n9 c9 (by rfl) (by rfl) (by rw [List.length_map, HL9.out]) (bytes_one _) (by rw [List.length_map]; exact HO.out) HVL.out hzz (by rw [List.length_map]; have := HLB.out; omega) ?_; intro v7 w7 hown7 hf7; have Q := Lib.hid (PUT.out wz w7 _ v7 _ p.data n9 _ _ _ _ _ p A9 n9 c9 HL9.out HO.out HFR.out HS9.out HP12.out hown7 hf7); obtain ⟨q0, q1, q2, q3, q4⟩ := Q.out.2.2.2.at.all; clear hown7 hf7)
                go_still (by kernel_rfl)
                go_wp2_with fail
                refine bodyPost_ret (results_quad (v1 := v7) (v2 := .int .i64 p.epoch) (v3 := .int .i64 p.count) (v4 := .int .i64 0) Tryd.results77 (by rfl) (by rfl) (by rfl) (by rfl)) rfl ?_
                rw [HG0.out]
                refine ⟨_, by rw [M1.out, M2.out], ?_, Q.out.2.1.drew⟩
                have := own_base_le Q.out.1 (show w.heap.size ≤ w.heap.size + 1 by omega)
                exact own_keep0 this ((Fr.refl _ _).drew)
              · have hlb2 : ((j : Int) == p.count - 1) = false := by simp [hlast]
                have HG1 : Hid (gather l at_ = gatherOn E C (l.drop (j + 1)) ((j : Int) + 1) ((at_ + (j : Int)) + 1) (acc ++ p.data)) := Lib.hid (by rw [STEP2.out, if_neg (by rw [← M2.out]; exact hlast)])
                clear hlast
                have a2 : (0 : Int) ≤ (at_ + (j : Int)) := by omega
                have a3 : ((at_ + (j : Int)) : Int) ≤ 1152921504606846976 := by omega
                have k2 : (0 : Int) ≤ (j : Int) := by omega
                have k3 : ((j : Int) : Int) ≤ 1152921504606846976 := by omega
                go_wp2_with (at_builtin; refine wpList_append_vals rfl (.tmp 41) (.tmp 43) 24 5 1 (.int .u8 0) rfl und_bytes info_u8 rfl (by decide) (w.heap.size + 1) u8 ((acc).map (Value.int .u8)) (p.data.map (Value.int .u8)) A9 n9 c9 (by rfl) (by rfl) (by rw [List.length_map, HL9.out]) (bytes_one _) (by rw [List.length_map]; exact HO.out) HVL.out hzz (by rw [List.length_map]; have := HLB.out; omega) ?_; intro v7 w7 hown7 hf7; have Q := Lib.hid (PUT.out wz w7 _ v7 _ p.data n9 _ _ _ _ _ p A9 n9 c9 HL9.out HO.out HFR.out HS9.out HP12.out hown7 hf7); obtain ⟨q0, q1, q2, q3, q4⟩ := Q.out.2.2.2.at.all; obtain ⟨s0, s1, s2, s3⟩ := Q.out.2.2.1.all; clear hown7 hf7)
                refine (next6_c E C (at_ + (j : Int)) (j : Int) a2 a3 k2 k3).mono ?_
                rintro e w8 ⟨rfl, hf8⟩
                have HR9 := Lib.hid (hf8.keep0 Q.out.2.2.1.row)
                have HF8 := Lib.hid (Q.out.2.1.then0 hf8)
                have HO8 := Lib.hid (own_keep0 Q.out.1 hf8)
                have hz8 : w.heap.size < w8.heap.size := lt_of_block HR9.out
                clear s0 s1 s2 s3 q0 q1 q2 q3 q4 hf8 a2 a3 k2 k3
                go_wp2_with (refine wpList_store_at rfl 158 (.tmp 9) (.tmp 56) rfl w.heap.size 0 (stC E C ((at_ + (j : Int)) + 1) ((j : Int) + 1)) (by rfl) (by rfl) 158 (stC E C (at_ + (j : Int)) (j : Int)) HR9.out size_stamp (Nat.le_refl 4) (stC_one _ _ _ _) ?_)
                have hfs : Fr (fun q => q = w.heap.size) w8 (w8.setRow w.heap.size (splat (stC E C (at_ + (j : Int)) (j : Int)) 0 (stC E C ((at_ + (j : Int)) + 1) ((j : Int) + 1))).toArray) := (Fr.refl _ _).setRow (by exact .inl rfl) _
                go_roundg (n - (j + 1))
                case measure => omega
                case rel =>
                  refine ⟨j + 1, by omega, rfl, by first | rfl | (go_num), E, C, (at_ + (j : Int)) + 1, (j : Int) + 1, acc ++ p.data, ⟨fun h => by omega, fun _ => ⟨by push_cast; omega, by push_cast; omega, ?_⟩, ?_⟩, ⟨?_⟩, ?_, HF8.out.setRow (by exact .inr (Nat.le_refl _)) _⟩
                  · rw [HG1.out]
                    push_cast
                    rw [show ((j : Int) + 1 : Int) = (j : Int) + 1 from rfl]
                    congr 1 <;> omega
                  · have h1 := HGA.out.len
                    have h2 := HD9.out.len
                    have h3 : n9 ≤ 44 := by omega
                    simp at h1 ⊢
                    omega
                  · rw [setRow_heap _ w.heap.size _ _ _ _ HR9.out, splat_all (stC E C (at_ + (j : Int)) (j : Int)) (stC E C ((at_ + (j : Int)) + 1) ((j : Int) + 1)) rfl]
                  · exact own_keep HO8.out hfs (fun q hq hs => by have := own_base HO8.out q hq; omega)
          · have HQ : Hid (p.epoch = E → p.count = C → p.at_ = (at_ + (j : Int)) → ¬ p.index = (j : Int)) := Lib.hid (fun h1 h2 h3 h4 => hm ⟨h1, h2, h3, h4⟩)
            have HG3 : Hid (gather l at_ = Gat.no 3) := Lib.hid (by rw [STEP.out, gatherOn, if_neg (by rw [HER0.out]; simp), ← HPP.out, if_pos hm])
            clear hm
            refine wp_region_free (S := F0) [false, false, false, false, false, false, false, false, false, false, false, false, false, false, false, false, false, false, false, false, false, false, false, false, false, false, false, false, false, false, false, false, false, false, false, false, false, true, true, true, true, false, false, false, false, false, false, false, false, false, false, false, false, false, false, false, false, false] [.eq (.agg #[.int .i64 p.epoch, .int .i64 p.at_, .int .i64 p.index, .int .i64 p.count, .slice A9 n9 c9]), .eq (.agg #[.int .i64 p.epoch, .int .i64 p.count, .int .i64 p.at_, .int .i64 p.index]), .eq (.agg #[.int .i64 E, .int .i64 C, .int .i64 (at_ + (j : Int)), .int .i64 (j : Int)]), .eq (.bool true)] (by kernel_rfl) (by kernel_rfl) (by rfl) (fun us => ?steps) (fun us wz hG hall => ?fin)
            case steps =>
              simp only [fillL, Nat.reduceAdd]
              refine stepsHold.cons (fun wx hG hd K hK => ?_) ?_
              · rw [if_pos (wanted_none rfl)]
                obtain ⟨q0, q1, q2, q3, q4⟩ := (HP12.out.keep0 hG).at.all
                refine wp_value (w2 := wx) (v := .agg #[.int .i64 p.epoch, .int .i64 p.at_, .int .i64 p.index, .int .i64 p.count, .slice A9 n9 c9]) ?_ (hK _ _ rfl (Fr.refl _ _))
                clear hd hK
                go_simp
              refine stepsHold.cons (fun wx hG hd K hK => ?_) ?_
              · have h37 : us 37 = (.agg #[.int .i64 p.epoch, .int .i64 p.at_, .int .i64 p.index, .int .i64 p.count, .slice A9 n9 c9]) := deps_get hd 0 rfl rfl rfl rfl rfl
                rw [if_pos (wanted_none rfl)]
                refine wp_call (w2 := wx) (f := 104) (args := #[.agg #[.int .i64 p.epoch, .int .i64 p.at_, .int .i64 p.index, .int .i64 p.count, .slice A9 n9 c9]]) ?_ ?_
                · clear hd hK
                  go_simp
                · refine (stamped_c p A9 n9 c9).mono ?_
                  rintro e w9 ⟨rfl, hf9⟩
                  exact ⟨_, rfl, hK _ _ rfl hf9⟩
              refine stepsHold.cons (fun wx hG hd K hK => ?_) ?_
              · rw [if_pos (wanted_none rfl)]
                obtain ⟨q0, q1, q2, q3⟩ := (HS9.out.keep0 hG).all
                refine wp_value (w2 := wx) (v := .agg #[.int .i64 E, .int .i64 C, .int .i64 (at_ + (j : Int)), .int .i64 (j : Int)]) ?_ (hK _ _ rfl (Fr.refl _ _))
                clear hd hK
                go_simp
              refine stepsHold.cons (fun wx hG hd K hK => ?_) ?_
              · have h38 : us 38 = (.agg #[.int .i64 p.epoch, .int .i64 p.count, .int .i64 p.at_, .int .i64 p.index]) := deps_get hd 0 rfl rfl rfl rfl rfl
                have h39 : us 39 = (.agg #[.int .i64 E, .int .i64 C, .int .i64 (at_ + (j : Int)), .int .i64 (j : Int)]) := deps_get hd 1 rfl rfl rfl rfl rfl
                rw [if_pos (wanted_none rfl)]
                refine wp_value (w2 := wx) (v := .bool true) ?_ (hK _ _ rfl (Fr.refl _ _))
                clear hd hG hK
                go_simp
                first | done | exact HQ.out
              exact stepsHold.nil
            case fin =>
              have h37 : us 37 = (.agg #[.int .i64 p.epoch, .int .i64 p.at_, .int .i64 p.index, .int .i64 p.count, .slice A9 n9 c9]) := all_get hall 0 rfl rfl rfl
              have h38 : us 38 = (.agg #[.int .i64 p.epoch, .int .i64 p.count, .int .i64 p.at_, .int .i64 p.index]) := all_get hall 1 rfl rfl rfl
              have h39 : us 39 = (.agg #[.int .i64 E, .int .i64 C, .int .i64 (at_ + (j : Int)), .int .i64 (j : Int)]) := all_get hall 2 rfl rfl rfl
              have h40 : us 40 = (.bool true) := all_get hall 3 rfl rfl rfl
              simp only [fillL, Nat.reduceAdd]
              clear hall
              simp only [h37, h38, h39, h40]
              clear h37 h38 h39 h40
              go_wp2_with fail
              refine bodyPost_ret (results_quad (v1 := .slice none 0 0) (v2 := .int .i64 0) (v3 := .int .i64 0) (v4 := .int .i64 3) Tryd.results77 (by rfl) (by rfl) (by rfl) (by rfl)) rfl ?_
              rw [HG3.out]
              exact FAIL.out 3 _ (HFR.out.then0 hG)
      · have hb1 : (er != 0) = true := by simp [he]
        have hg : gather l at_ = Gat.no er := by rw [STEP.out, if_pos (by rw [← HER.out]; exact he), ← HER.out]
        have HG := Lib.hid hg
        clear hg he
        go_wp2_with (refine wpList_store_fresh rfl 160 (.tmp 12) (.tmp 24) rfl #[.int .i64 p.epoch, .int .i64 p.at_, .int .i64 p.index, .int .i64 p.count, .slice A9 n9 c9] (by rfl) (by rfl) 160 zpc.toArray (by rw [size_piece]; rfl) rfl (by rfl) ?_)
        refine bodyPost_ret (results_quad (v1 := .slice none 0 0) (v2 := .int .i64 0) (v3 := .int .i64 0) (v4 := .int .i64 er) Tryd.results77 (by rfl) (by rfl) (by rfl) (by rfl)) rfl ?_
        rw [HG.out]
        exact FAIL.out er _ HFR.out
    · have hjn : j = n := by omega
      subst hjn
      have hg : gather l at_ = Gat.no 2 := by
        rcases Nat.eq_zero_or_pos j with h0 | h0
        · have : l = [] := List.eq_nil_of_length_eq_zero (by rw [HL.out]; exact h0)
          rw [this]; rfl
        · obtain ⟨-, -, hg⟩ := HGA.out.on h0
          rw [hg, List.drop_of_length_le (by rw [HL.out]; exact Nat.le_refl _)]; rfl
      have HG := Lib.hid hg
      clear hg
      go_wp2_with fail
      refine bodyPost_ret (results_quad (v1 := .slice none 0 0) (v2 := .int .i64 0) (v3 := .int .i64 0) (v4 := .int .i64 2) Tryd.results77 (by rfl) (by rfl) (by rfl) (by rfl)) rfl ?_
      rw [HG.out]
      exact FAIL.out 2 _ HFR.out
end
end Go.Proofs.YtdeckbdaencjnaaDoor
set_option linter.unusedVariables false
set_option linter.unusedSimpArgs false
namespace Go.Proofs.YtdeckbdaencjnaaDoor
open Go.RowKit
abbrev OwnSecs (w : World) (base : Nat) (v : Value) (l : List (List Int)) : Prop := OwnRowB (fun _ : List Int => []) (fun x => x) 0 24 w base v l
theorem und_bytess : Tryd.prog.underlying 84 = some (.slice 24) := Tryd.underlying84
theorem info_bytes : (Tryd.prog.info? 24).map (fun i => (i.zero, i.size, i.bytes)) = some (some (.slice none 0 0), 1, 24) := by kernel_rfl
structure CutRet (w w' : World) (e : Ending) (l : List (List Int)) : Prop where
  ex : ∃ v, e = .returned (.tuple #[v, .int .i64 0]) ∧ OwnSecs w' w.heap.size v l ∧ Fr F0 w w'
section
variable {w : World}
set_option maxRecDepth 100000 in
set_option maxHeartbeats 4000000 in
theorem cut_ok (epoch at_ : Int) (e0 : 0 ≤ epoch) (e1 : epoch ≤ 4294967295) (a0 : 0 ≤ at_) (a1 : at_ ≤ 1099511627776) (A : Option Addr) (n c : Nat) (xs : List Int) (hA : Byt w A c xs) (hl : xs.length = n) (hb : Bys xs) (hn : n ≤ 44000) :
    Calls Tryd.prog 79 #[.int .i64 epoch, .int .i64 at_, .slice A n c] w fun e w' => CutRet w w' e (cutL epoch at_ xs) := by
  have n0 : (0 : Int) ≤ (n : Int) := Int.natCast_nonneg _
  have n1 : (n : Int) ≤ 44000 := by omega
  have hnd := need_pos n
  have hnt := need_tight n
  have hnc := need_cover n
  obtain ⟨nd, hndd⟩ : ∃ nd, nd = need n := ⟨_, rfl⟩
  have HND := Lib.hid hndd
  have HL := Lib.hid hl
  have HB := Lib.hid hb
  have HA := Lib.hid hA
  rw [← hndd] at hnd hnt hnc
  have nd0 : (1 : Int) ≤ (nd : Int) := by omega
  have nd1 : (nd : Int) ≤ 1001 := by omega
  have hc0 : cutE epoch at_ xs = 0 := by
    unfold cutE
    rw [hl, ← hndd, if_neg (by omega), if_neg (by omega)]
  have HC0 := Lib.hid hc0
  have g1 : ¬ at_ < 0 := by omega
  have hcl : cutL epoch at_ xs = (List.range nd).map fun k => (piece epoch at_ xs k).sec := by unfold cutL; rw [hl, ← hndd]
  have HCL := Lib.hid hcl
  have hcap : n ≤ c := by have := hA.cap; omega
  have hcb : c ≤ 9223372036854775807 := hA.big
  clear hndd hl hb hA hc0 hcl
  go_enter Tryd.func79, Tryd.ntmps79
  go_wp2_with fail
  refine (need_c n (by omega)).mono ?_
  rintro e w1 ⟨rfl, rfl⟩
  rw [← HND.out]
  go_wp2_with fail
  go_loopg [9, 10, 11, 12, 30] nd (fun kq x9 x10 x11 x12 x30 wr => ∃ j : Nat, j ≤ nd ∧ kq = nd - j ∧ x30 = .int .i64 (j : Int) ∧ OwnSecs wr w.heap.size x9 ((List.range j).map fun k => (piece epoch at_ xs k).sec) ∧ Fr F0 w wr)
  case atStart => exact ⟨0, by omega, rfl, rfl, OwnRowB.nil _ _, Fr.refl _ _⟩
  case round =>
    obtain ⟨j, hj, rfl, rfl, hown, hf⟩ := hrel
    have HO := Lib.hid hown
    have HF := Lib.hid hf
    have hsz := hf.size
    by_cases hlt : j < nd
    · have j0 : (0 : Int) ≤ (j : Int) := Int.natCast_nonneg _
      have j1 : (j : Int) < (nd : Int) := by omega
      have hle : 44 * j ≤ n := by
        have : 44 * j ≤ 44 * (nd - 1) := Nat.mul_le_mul_left _ (by omega)
        omega
      obtain ⟨p, hp⟩ : ∃ p, p = piece epoch at_ xs j := ⟨_, rfl⟩
      have hok : p.Ok := by rw [hp]; exact piece_ok e0 e1 HC0.out (by rw [HL.out, ← HND.out]; exact hlt)
      have hpb : Bys p.data := by rw [hp]; exact piece_bys HB.out j
      obtain ⟨q, hq⟩ : ∃ q, q = min n (44 * (j + 1)) := ⟨_, rfl⟩
      have hmin : min (n : Int) (44 * ((j : Int) + 1)) = (q : Int) := by omega
      obtain ⟨Ak, hAk⟩ : ∃ A', A' = (if c = 44 * j then A else A.map (·.add (44 * j))) := ⟨_, rfl⟩
      have hcut : ∀ W, (Instr.slice 24 (.slice A n c) (some (.int .i64 (44 * (j : Int)))) (some (.int .i64 (q : Int))) none).run Tryd.prog W = .ok (.slice Ak (q - 44 * j) (c - 44 * j)) W := fun W => by
        have := run_cut A n c (44 * j) q (by omega) (by omega) W
        rw [hAk]
        rwa [show ((44 * j : Nat) : Int) = 44 * (j : Int) by omega] at this
      have hpd : p.data = (xs.drop (44 * j)).take (q - 44 * j) := by
        have h1 : p.data = (xs.drop (44 * j)).take 44 := by rw [hp]; rfl
        rw [h1]
        by_cases h44 : 44 * (j + 1) ≤ n
        · rw [show q - 44 * j = 44 by omega]
        · rw [List.take_of_length_le (by rw [List.length_drop, HL.out]; omega), List.take_of_length_le (by rw [List.length_drop, HL.out]; omega)]
      have hBd : BytesAt wr Ak (q - 44 * j) p.data := by
        have h1 := (HA.out.keep0 hf).drop (44 * j) (by rw [HL.out]; exact hle)
        rw [← hAk] at h1
        have h2 := h1.at_.take (q - 44 * j) (by rw [List.length_drop, HL.out]; omega)
        rw [hpd]; exact h2
      have HPD := Lib.hid hBd
      have HOK := Lib.hid hok
      have HPB := Lib.hid hpb
      have HPP := Lib.hid hp
      obtain ⟨r, hr⟩ : ∃ r, r = q - 44 * j := ⟨_, rfl⟩
      rw [← hr] at hcut HPD
      have hpe : p.epoch = epoch := by rw [hp]; rfl
      have hpa : p.at_ = at_ + j := by rw [hp]; rfl
      have hpi : p.index = j := by rw [hp]; rfl
      have hpc : p.count = nd := by rw [hp]; show ((need xs.length : Nat) : Int) = _; rw [HL.out, ← HND.out]
      have hW := write6_c (w := wr) p hok hpb Ak r (c - 44 * j) HPD.out
      rw [hpe, hpa, hpi, hpc] at hW
      have HW := Lib.hid hW
      have q0 : (0 : Int) ≤ (q : Int) := Int.natCast_nonneg _
      have q1 : 44 * (j : Int) ≤ (q : Int) := by omega
      clear hp hok hpb hq hAk hpd hBd hr hpe hpa hpi hpc hW hown hf
      go_wp2_with fail
      refine HW.out.mono ?_
      rintro e w2 ⟨v, rfl, hv⟩
      obtain ⟨B, cB, rfl, hby, hnew⟩ := hv.byt
      have HBB := Lib.hid hby
      have HFV := Lib.hid hv.fr
      have HO2 := Lib.hid (HO.out.keep hv.fr)
      have hz2 := hv.fr.size
      have hap : ∀ ad, B = some ad → 0 < p.sec.length → u9.ownBlock ≠ some ad.block ∧ w.heap.size ≤ ad.block := fun ad e _ => ⟨fun hk => by
        have h1 := HO.out.lt _ hk
        have h2 := hnew ad e
        omega, by have h2 := hnew ad e; omega⟩
      have HAP := Lib.hid hap
      have hll : ((List.range j).map fun k => (piece epoch at_ xs k).sec).length = j := by simp
      have HLL := Lib.hid hll
      have HSB := Lib.hid (Pc.sec_bys HPB.out)
      clear hv hby hnew hap hll hcut hmin
      go_wp2_with (at_builtin; refine wpList_append_rowB (t := 24) (hd := 0) (head := fun _ : List Int => []) (byt := fun x => x) rfl (.tmp 57) (.tmp 59) 84 24 (.slice none 0 0) rfl und_bytess info_bytes rfl (by decide) (fun _ => rfl) (fun _ u hu => by cases hu) w.heap.size u9 ((List.range j).map fun k => (piece epoch at_ xs k).sec) p.sec B cB w2.heap.size rfl (by rfl) (by rfl) HO2.out HBB.out HSB.out HAP.out (by omega) (by rw [HLL.out]; omega) ?_; intro v3 w3 hown3 hf3)
      go_roundg (nd - (j + 1))
      case measure => omega
      case rel =>
        refine ⟨j + 1, by omega, rfl, by first | rfl | (go_num), ?_, (HF.out.then0 HFV.out).trans hf3 (fun i hi => .inr (HO.out.base_le i hi))⟩
        rw [List.range_succ, List.map_append, List.map_singleton, ← HPP.out]
        exact hown3
    · have hjn : j = nd := by omega
      subst hjn
      rw [← HCL.out] at HO
      go_wp2_with fail
      go_ret2
      exact ⟨_, rfl, HO.out, HF.out⟩
end
end Go.Proofs.YtdeckbdaencjnaaDoor
