/-
  heronry/tree: Deep. Conditions: none.
-/
import Derived.Test.YtgbaijfgmeealaaT9b
import Derived.Maps.OwnIn
set_option linter.unusedVariables false
set_option linter.unusedSimpArgs false
namespace Go.Proofs.Ytgbaijfgmeealaa
open Go.RowKit Go.Shelf
open Go.ChangeMaps (setBlock)
attribute [local go_sem] Oper.semAt_some
theorem und9_met : Try.prog.underlying 101 = some (.map 3 4) := by kernel_rfl
theorem und9_int : Try.prog.underlying 3 = some (.int .i64) := by kernel_rfl
theorem keyed9_int : Go.Maps.Keyed Try.prog 3 := Go.Maps.int_keyed und9_int
theorem MapIs.size_new {P : Program} {k : TypeId} {es es' : Array MapEntry} {c c' : Nat} {f : Value → Option Value} {x v : Value} (h : MapIs P k es c f) (h' : MapIs P k es' c' (upd f x v)) (hf : f x = none) : es'.size = es.size + 1 := by
  have nd : (es.toList.map (·.key)).Nodup := by
    rw [List.nodup_iff_pairwise_ne, List.pairwise_map]
    exact h.apart
  have nd' : (es'.toList.map (·.key)).Nodup := by
    rw [List.nodup_iff_pairwise_ne, List.pairwise_map]
    exact h'.apart
  have hx : x ∉ es.toList.map (·.key) := by
    intro hm
    obtain ⟨e, he, rfl⟩ := List.mem_map.1 hm
    rw [h.holds e he] at hf
    cases hf
  have hp : (es'.toList.map (·.key)).Perm (x :: es.toList.map (·.key)) := by
    rw [List.perm_ext_iff_of_nodup nd' (List.nodup_cons.2 ⟨hx, nd⟩)]
    intro y
    rw [List.mem_cons]
    constructor
    · intro hy
      obtain ⟨e, he, rfl⟩ := List.mem_map.1 hy
      have := h'.holds e he
      by_cases hyx : e.key = x
      · exact .inl hyx
      · rw [upd_other _ _ _ hyx] at this
        obtain ⟨e0, he0, hk, _⟩ := h.all _ _ this
        exact .inr (hk ▸ List.mem_map_of_mem he0)
    · rintro (rfl | hy)
      · obtain ⟨e0, he0, hk, _⟩ := h'.all y v (upd_same _ _ _)
        exact hk ▸ List.mem_map_of_mem he0
      · obtain ⟨e, he, rfl⟩ := List.mem_map.1 hy
        have hne : e.key ≠ x := fun e' => hx (e' ▸ hy)
        obtain ⟨e0, he0, hk, _⟩ := h'.all e.key e.val (by rw [upd_other _ _ _ hne]; exact h.holds e he)
        exact hk ▸ List.mem_map_of_mem he0
  have := hp.length_eq
  simpa using this
theorem wpListIn_mapUpdate_is {F : Fence} {nF : Nat} {P : Program} {w : World} {ops : Array Oper} {rest : List Oper} {o : Oper} {a : Act} {Q : Exit → Act → World → Prop}
    (hg : o.guard = none) (m x v : Operand) (t : TypeId) (hop : o.op = Op.mapUpdate t m x v) {k e : TypeId} {es : Array MapEntry} {clock : Nat} {f : Value → Option Value}
    (K : Go.Maps.Keyed P k) (ht : P.underlying t = some (.map k e)) (b : Nat) (hb : w.heap[b]? = some (.map es clock)) (hM : MapIs P k es clock f)
    (hm : a.eval m = .map (some b)) (key val : Value) {kl : Lit} (hx : a.eval x = key) (hv : a.eval v = val) (hkey : keyOf P k key = some kl)
    (hK : ∀ es' clock', MapIs P k es' clock' (upd f key val) → wpListIn F nF P ops Q rest (a.put o.dst undef) (setBlock w b (.map es' clock'))) :
    wpListIn F nF P ops Q (o :: rest) a w := by
  refine wpListIn_plain hg fun K' hK' => ?_
  obtain ⟨es', c', hrun, hM'⟩ := hM.store K ht hb hkey val
  unfold Oper.wpIn
  refine ⟨by simp [Oper.about, hop], ?_⟩
  rw [Oper.semAt_plain F _ _ (by rw [hop]; intro c hc'; cases hc')]
  simp [execOp, hop, hm, hx, hv, hrun, Result.andThen]
  exact hK' _ _ (hK es' c' hM')
theorem wf_i64 {n : Int} (h0 : -9223372036854775808 ≤ n) (h1 : n ≤ 9223372036854775807) : (Lit.int .i64 n).wf = true := by
  simp only [Lit.wf, IntKind.min, IntKind.max, IntKind.signed, IntKind.bits, Bool.and_eq_true, decide_eq_true_eq, if_true]
  omega
theorem run_len_map9 {P : Program} {t k e ty : TypeId} (ht : P.underlying t = some (.map k e)) {b : Nat} {es : Array MapEntry} {clock : Nat} {w : World} (hb : w.heap[b]? = some (.map es clock)) :
    (Builtin.len_ #[t] ty #[.map (some b)]).run P w = .ok (.int .i64 es.size) w := by
  simp [Builtin.len_, run_underlying ht, MapKept.run_getObj_map hb, goInt]
/-- Those below stand in no ring: the steps up differ. -/
def Falls (L : List Tx9) : Prop := ∀ (i : Nat) (x : Tx9), L[i]? = some x → x.parent < (i : Int)
theorem upOf_lt {L : List Tx9} (h : Falls L) {id : Int} (hi : isId L id = true) : upOf L id < id := by
  unfold isId at hi
  rw [Bool.and_eq_true, decide_eq_true_eq, decide_eq_true_eq] at hi
  have hl : id.toNat < L.length := by omega
  have := h id.toNat L[id.toNat] (List.getElem?_eq_getElem hl)
  unfold upOf
  rw [List.getD_eq_getElem?_getD, List.getElem?_eq_getElem hl]
  show (L[id.toNat]).parent < id
  omega
theorem climb_falls {L : List Tx9} (h : Falls L) (id : Int) : ∀ (k j : Nat), j < k → k < Lh L id → climb L id k < climb L id j
  | 0, j, hj, _ => absurd hj (Nat.not_lt_zero _)
  | k + 1, j, hj, hk => by
    have h1 : climb L id (k + 1) < climb L id k := upOf_lt h (height_is L L.length id k (by unfold Lh at hk; omega))
    by_cases hjk : j = k
    · subst hjk; exact h1
    · exact Int.lt_trans h1 (climb_falls h id k j (by omega) (by omega))
section
variable {w : World} {A : Option Addr} {L : List Tx9}
set_option maxRecDepth 100000 in
set_option maxHeartbeats 1000000 in
theorem deep_in (n c : Nat) (h1 : 1 ≤ n) (clk id : Int) (hL : TxsAt w A L) (hn : L.length ≤ 64) (hF : Falls L) (hid : id < 9223372036854775807) :
    CallsIn Fence.wide n Try.prog 30 #[treeV A L.length c clk, .int .i64 id] w fun e w' => e = .returned (.int .i64 ((Lh L id : Nat) : Int)) ∧ Fr F0 w w' := by
  have HL := Lib.hid hL
  clear hL
  have hmm := @run_makeMap Try.prog
  refine callsIn_of_wp_marks Try.func30 rfl trivial ?_ rfl
  simp only [Try.ntmps30, List.size_toArray, List.length_cons, List.length_nil, Nat.reduceAdd, Nat.reduceSub, Array.replicate_succ, Array.replicate_zero, List.push_toArray, List.append_toArray, List.nil_append, List.cons_append]
  gi_wp2
  refine ⟨trivial, ?_⟩
  obtain ⟨mb, hmb⟩ : ∃ mb, mb = w.heap.size + 1 := ⟨_, rfl⟩
  obtain ⟨xb, hxb⟩ : ∃ xb, xb = w.heap.size + 1 + 1 := ⟨_, rfl⟩
  rw [← hxb, ← hmb]
  have HFW : Hid (Fr F0 w (((w.alloc (.cells #[.slice A L.length c, .int .i64 clk] 25)).alloc (.map #[] 0)).alloc (.cells #[.map (some mb)] 101))) := Lib.hid ((((Fr.refl F0 w).alloc _).alloc _).alloc _)
  have HMB : Hid ((((w.alloc (.cells #[.slice A L.length c, .int .i64 clk] 25)).alloc (.map #[] 0)).alloc (.cells #[.map (some mb)] 101)).heap[mb]? = some (.map #[] 0)) := Lib.hid (by rw [hmb]; exact keep_alloc (alloc_at (by simp) _) _)
  have HXB : Hid ((((w.alloc (.cells #[.slice A L.length c, .int .i64 clk] 25)).alloc (.map #[] 0)).alloc (.cells #[.map (some mb)] 101)).heap[xb]? = some (.cells #[.map (some mb)] 101 (0, 0))) := Lib.hid (by rw [hxb]; exact alloc_at (by simp) _)
  have HLO : Hid (w.heap.size ≤ mb ∧ w.heap.size ≤ xb ∧ mb ≠ xb) := Lib.hid (by omega)
  clear hmb hxb hmm
  generalize (((w.alloc (.cells #[.slice A L.length c, .int .i64 clk] 25)).alloc (.map #[] 0)).alloc (.cells #[.map (some mb)] 101)) = W0 at *
  have HL0 := Lib.hid (HL.out.keep0 HFW.out)
  refine (callsIn_wide.2 (up_c (L := L) c clk id)).mono ?_
  rintro e w2 ⟨rfl, hw2⟩
  obtain ⟨bt, hbt⟩ : ∃ bt, bt = W0.heap.size := ⟨_, rfl⟩
  have HF2 : Hid (Fr F0 W0 w2) := Lib.hid (by rw [hw2]; exact ((Fr.refl F0 W0).alloc _).alloc _)
  have HT2 : Hid (w2.heap[bt]? = some (.cells #[.slice A L.length c, .int .i64 clk] 25 (0, 0))) := Lib.hid (by rw [hw2, hbt]; exact keep_alloc (alloc_at rfl _) _)
  have HI2 : Hid (w2.heap[bt + 1]? = some (.cells #[.int .i64 id] 3 (0, 0))) := Lib.hid (by rw [hw2, hbt]; exact alloc_at (by simp) _)
  have HSZ : Hid (w2.heap.size = bt + 2 ∧ W0.heap.size = bt) := Lib.hid (by rw [hw2, hbt]; simp)
  rw [← hbt]
  clear hw2 hbt
  gi_wp2
  have hbw : w.heap.size ≤ bt := by have := HFW.out.size; have := HSZ.out; omega
  have hrlt : mb < bt ∧ xb < bt := ⟨by have := lt_of_block HMB.out; have := HSZ.out; omega, by have := lt_of_block HXB.out; have := HSZ.out; omega⟩
  have hAlt : ∀ ad, A = some ad → 0 < L.length → ad.block < w.heap.size := fun ad e hp => by subst e; exact HL.out.lt hp Tx9.pos
  refine wpIn_rangeFunc_fr rfl h1 (lb := #[.pointer (some ⟨bt, 0, none⟩), .pointer (some ⟨bt + 1, 0, none⟩)]) (gf := 69) rfl trivial (enters_of Try.func69 (by kernel_rfl) rfl)
    (arg := fun k => .int .i64 (climb L id k)) (N := Lh L id) (B := fun k => k = bt + 1) (S := fun k => k = mb)
    (up1_it (n - 1) bt (bt + 1) c clk id _ (HL0.out.keep0 HF2.out) hn HT2.out HI2.out (by omega) (fun ad e hp => by have := hAlt ad e hp; have := HSZ.out; have := HLO.out; refine ⟨by omega, ?_⟩; omega) (by have := HSZ.out; have := HLO.out; omega) (by have := HSZ.out; have := HLO.out; omega))
    (fun k hk => by have := HSZ.out; omega) (fun k hk => by have := HSZ.out; omega) rfl
    (fun k W => W.heap[xb]? = some (.cells #[.map (some mb)] 101 (0, 0)) ∧ (∃ es clock f, W.heap[mb]? = some (.map es clock) ∧ MapIs Try.prog 3 es clock f ∧ es.size = k ∧ ∀ v, f v ≠ none → ∃ j, j < k ∧ v = .int .i64 (climb L id j)) ∧ Fr F0 w W)
    (fun _ _ _ => False)
    (fun k X Y hx hf => ?_) (fun cd k X Y hx hf => hx) ?_
    (fun k => { tmps := #[treeV A L.length c clk, .int .i64 id, .pointer (some ⟨w.heap.size, 0, none⟩), undef, .int .i64 0, .pointer (some ⟨xb, 0, none⟩), .int .i64 (climb L id k), .map (some mb), .agg #[.slice A L.length c, .int .i64 clk], .int .i64 id, .func (.func 69) #[] #[.pointer (some ⟨bt, 0, none⟩), .pointer (some ⟨bt + 1, 0, none⟩)], .int .i64 (climb L id k), undef, undef, undef, undef], defers := [] })
    ?assign ?body ?done ?stop
  · obtain ⟨es, clock, f, h2, h3⟩ := hx.2.1
    exact ⟨hf.keep hx.1 (by have := HSZ.out; omega), ⟨es, clock, f, hf.keep h2 (by have := HSZ.out; omega), h3⟩, hx.2.2.trans hf (fun j hj => .inr (by have := HSZ.out; omega))⟩
  · exact ⟨HF2.out.keep0 HXB.out, ⟨#[], 0, fun _ => none, HF2.out.keep0 HMB.out, MapIs.empty _ _ _, rfl, fun v h => absurd rfl h⟩, HFW.out.then0 HF2.out⟩
  case assign =>
    intro l k W K hk hK
    gi_wp2
    exact hK
  case body =>
    rintro l k W hk ⟨hx1, ⟨es, clock, f, hx2, hx3, hx4, hx5⟩, hx6⟩
    have c1 : W.cell? ⟨xb, 0, none⟩ = some (.map (some mb)) := by rw [cell_of hx1]; rfl
    have hi := height_is L L.length id k hk
    unfold isId at hi
    rw [Bool.and_eq_true, decide_eq_true_eq, decide_eq_true_eq] at hi
    have hkey : keyOf Try.prog 3 (.int .i64 (climb L id k)) = some (.int .i64 (climb L id k)) := Go.Maps.keyOf_int_mk und9_int (wf_i64 (by omega) (by omega))
    have hfx : f (.int .i64 (climb L id k)) = none := by
      cases hfx : f (.int .i64 (climb L id k)) with
      | none => rfl
      | some u =>
        obtain ⟨j, hj, he⟩ := hx5 _ (by rw [hfx]; simp)
        have h5 := climb_falls hF id k j hj hk
        have h6 : climb L id k = climb L id j := by injection he
        omega
    have HX1 := Lib.hid hx1
    have HX2 := Lib.hid hx2
    have HX3 := Lib.hid hx3
    have HX4 := Lib.hid hx4
    have HX5 := Lib.hid hx5
    have HX6 := Lib.hid hx6
    have HKEY := Lib.hid hkey
    have HFX := Lib.hid hfx
    clear hx1 hx2 hx3 hx4 hx5 hx6 hi hkey hfx
    gi_wp2_with (gi_at_mapUpdate; refine wpListIn_mapUpdate_is rfl (.tmp 12) (.tmp 13) (.const (.bool true)) 101 rfl keyed9_int und9_met mb HX2.out HX3.out (by rfl) (.int .i64 (climb L id k)) (.bool true) (by rfl) (by rfl) HKEY.out ?_; intro es' clock' hM')
    refine ⟨(Fr.refl (fun k => k = mb) W).setBlock (by exact .inl rfl) _, keep_setBlock HX1.out (Ne.symm HLO.out.2.2) _, ⟨es', clock', _, set_block HX2.out _, hM', ?_, fun v hv => ?_⟩, HX6.out.setBlock (by exact .inr HLO.out.1) _⟩
    · rw [HX3.out.size_new hM' HFX.out, HX4.out]
    · by_cases hvk : v = .int .i64 (climb L id k)
      · exact ⟨k, Nat.lt_succ_self k, hvk⟩
      · rw [upd_other _ _ _ hvk] at hv
        obtain ⟨j, hj, he⟩ := HX5.out v hv
        exact ⟨j, by omega, he⟩
  case done =>
    rintro D W hD ⟨hx1, ⟨es, clock, f, hx2, hx3, hx4, hx5⟩, hx6⟩ hK
    have c1 : W.cell? ⟨xb, 0, none⟩ = some (.map (some mb)) := by rw [cell_of hx1]; rfl
    have hlen := run_len_map9 (ty := 3) und9_met hx2
    gi_wp2
    have hDw : w.heap.size ≤ D := by have := HSZ.out; omega
    refine ⟨by simp, .inl ⟨_, _, rfl, run_takeDeferred hK, ?_⟩⟩
    exact ⟨_, results_tmp rfl _ _ _, by first | rfl | (rw [hx4]; rfl), hx6.putObj (.inr hDw) _⟩
  case stop =>
    rintro D cd k W _ _ h _
    exact h.elim
/-- Deep. -/
theorem deep_c (c : Nat) (clk id : Int) (hL : TxsAt w A L) (hn : L.length ≤ 64) (hF : Falls L) (hid : id < 9223372036854775807) :
    Calls Try.prog 30 #[treeV A L.length c clk, .int .i64 id] w fun e w' => e = .returned (.int .i64 ((Lh L id : Nat) : Int)) ∧ Fr F0 w w' :=
  callsIn_wide.1 (deep_in 9 c (by decide) clk id hL hn hF hid)
end
end Go.Proofs.Ytgbaijfgmeealaa
