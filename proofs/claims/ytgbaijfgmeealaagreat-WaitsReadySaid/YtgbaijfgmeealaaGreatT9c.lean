/-
  Transactions in one another as plain data, where they lie in memory; is, up and its iterator, Within. heronry/tree: a row cloned, tick. heronry/tree: Deep. Conditions: none.
-/
import Derived.Test.YtgbaijfgmeealaaGreatRangeF
import Derived.Test.YtgbaijfgmeealaaGreatProg
import Derived.Test.YtgbaijfgmeealaaGreatRowU
import Derived.Test.YtgbaijfgmeealaaGreatLast
import Derived.Lib.BufferMore
import Derived.Maps.OwnIn
set_option linter.unusedVariables false
set_option linter.unusedSimpArgs false
namespace Go.Proofs.YtgbaijfgmeealaaGreat
open Go.RowKit Go.Shelf
attribute [local go_sem] Oper.semAt_some
structure Tx9 where
  parent : Int
  state : Int
  began : Int
  ended : Int
def Tx9.cells (x : Tx9) : List Value := [.int .i64 x.parent, .int .i64 x.state, .int .i64 x.began, .int .i64 x.ended]
def Tx9.zero : Tx9 := ⟨0, 0, 0, 0⟩
theorem Tx9.len (x : Tx9) : x.cells.length = 4 := rfl
theorem Tx9.pos (x : Tx9) : 0 < x.cells.length := by rw [Tx9.len]; decide
theorem Tx9.one (x : Tx9) : ∀ u ∈ x.cells, u.oneCell' = true := by
  intro v hv
  simp only [Tx9.cells, List.mem_cons, List.not_mem_nil, or_false] at hv
  rcases hv with rfl | rfl | rfl | rfl <;> rfl
/-- A row of transactions that is read. -/
abbrev TxsAt (w : World) (A : Option Addr) (L : List Tx9) : Prop := SrAt 4 Tx9.cells w A L
def isId (L : List Tx9) (id : Int) : Bool := decide (0 ≤ id) && decide (id < (L.length : Int))
def upOf (L : List Tx9) (id : Int) : Int := (L.getD id.toNat Tx9.zero).parent
/-- So many steps up. -/
def climb (L : List Tx9) (id : Int) : Nat → Int
  | 0 => id
  | k + 1 => upOf L (climb L id k)
/-- How many are stood in, as many steps as there are at most. -/
def height (L : List Tx9) : Nat → Int → Nat
  | 0, _ => 0
  | n + 1, id => if isId L id = true then height L n (upOf L id) + 1 else 0
theorem climb_up (L : List Tx9) (id : Int) : ∀ k, climb L (upOf L id) k = climb L id (k + 1)
  | 0 => rfl
  | k + 1 => by
    show upOf L (climb L (upOf L id) k) = upOf L (climb L id (k + 1))
    rw [climb_up L id k]
theorem height_le (L : List Tx9) : ∀ (n : Nat) (id : Int), height L n id ≤ n
  | 0, _ => Nat.le_refl 0
  | n + 1, id => by
    unfold height
    split
    · have := height_le L n (upOf L id); omega
    · omega
theorem height_is (L : List Tx9) : ∀ (n : Nat) (id : Int) (k : Nat), k < height L n id → isId L (climb L id k) = true
  | 0, _, k, h => absurd h (Nat.not_lt_zero _)
  | n + 1, id, k, h => by
    unfold height at h
    split at h
    · rename_i hi
      cases k with
      | zero => exact hi
      | succ k =>
        rw [← climb_up]
        exact height_is L n _ k (by omega)
    · omega
theorem height_end (L : List Tx9) : ∀ (n : Nat) (id : Int), height L n id < n → isId L (climb L id (height L n id)) = false
  | 0, _, h => absurd h (Nat.not_lt_zero _)
  | n + 1, id, h => by
    unfold height at h ⊢
    split
    · rename_i hi
      rw [if_pos hi] at h
      rw [← climb_up]
      exact height_end L n _ (by omega)
    · rename_i hi
      simpa [climb] using hi
def Lh (L : List Tx9) (id : Int) : Nat := height L L.length id
/-- Does one stand in another one? -/
def withinB (L : List Tx9) (id of : Int) : Bool := (List.range (Lh L id)).any fun k => climb L id k == of
abbrev treeV (A : Option Addr) (n c : Nat) (clk : Int) : Value := .agg #[.slice A n c, .int .i64 clk]
section
variable {w : World} {A : Option Addr} {L : List Tx9}
set_option maxRecDepth 100000 in
theorem is_c (c : Nat) (clk id : Int) (hn : L.length ≤ 9223372036854775807) : Calls Tryz.prog 38 #[treeV A L.length c clk, .int .i64 id] w fun e w' => e = .returned (.bool (isId L id)) ∧ Fr F0 w w' := by
  obtain ⟨n, hnn⟩ : ∃ n, n = L.length := ⟨_, rfl⟩
  have hi : isId L id = (decide (0 ≤ id) && decide (id < (n : Int))) := by rw [hnn]; rfl
  rw [hi, ← hnn]
  clear hi hnn
  by_cases h0 : 0 ≤ id
  · by_cases h1 : id < (n : Int)
    · go_enter Tryz.func38, Tryz.ntmps38
      go_wp2_with fail
      go_ret
      exact ⟨by simp [h0, h1] <;> omega, (Fr.refl _ _).alloc _⟩
    · go_enter Tryz.func38, Tryz.ntmps38
      go_wp2_with fail
      go_ret
      exact ⟨by simp [h0, h1] <;> omega, (Fr.refl _ _).alloc _⟩
  · go_enter Tryz.func38, Tryz.ntmps38
    go_wp2_with fail
    go_ret
    exact ⟨by simp <;> omega, (Fr.refl _ _).alloc _⟩
set_option maxRecDepth 100000 in
theorem up_c (c : Nat) (clk id : Int) : Calls Tryz.prog 64 #[treeV A L.length c clk, .int .i64 id] w fun e w' => e = .returned (.func (.func 84) #[] #[.pointer (some ⟨w.heap.size, 0, none⟩), .pointer (some ⟨w.heap.size + 1, 0, none⟩)]) ∧
    w' = (w.alloc (.cells #[.slice A L.length c, .int .i64 clk] 31)).alloc (.cells #[.int .i64 id] 3) := by
  go_enter Tryz.func64, Tryz.ntmps64
  go_wp2_with fail
  go_ret
  exact ⟨rfl, rfl⟩
set_option maxRecDepth 100000 in
set_option maxHeartbeats 1000000 in
/-- The iterator: it climbs, its own variable alone turns. -/
theorem up1_it (n : Nat) (bt bi c : Nat) (clk id : Int) (S : Nat → Prop) (hL : TxsAt w A L) (hn : L.length ≤ 64)
    (ht : w.heap[bt]? = some (.cells #[.slice A L.length c, .int .i64 clk] 31 (0, 0))) (hi : w.heap[bi]? = some (.cells #[.int .i64 id] 3 (0, 0))) (hbt : bt ≠ bi) (hA : ∀ ad, A = some ad → 0 < L.length → ad.block ≠ bi ∧ ¬ S ad.block)
    (h1 : ¬ S bt) (h2 : ¬ S bi) :
    IterFr Fence.wide n Tryz.prog 84 #[.pointer (some ⟨bt, 0, none⟩), .pointer (some ⟨bi, 0, none⟩)] (fun k => .int .i64 (climb L id k)) (Lh L id) (fun k => k = bi) S w := by
  intro l J Jx W hW hJ hJx hY h0
  have HL := Lib.hid (hL.keep0 hW)
  have HT := Lib.hid (hW.keep0 ht)
  have HI := Lib.hid (hW.keep0 hi)
  refine callsIn_of_wp Tryz.func84 rfl trivial ?_ rfl
  simp only [Tryz.ntmps84, List.size_toArray, List.length_cons, List.length_nil, Nat.reduceAdd, Nat.reduceSub, Array.replicate_succ, Array.replicate_zero, List.push_toArray, List.append_toArray, List.nil_append, List.cons_append]
  have t0 : W.cell? ⟨bt, 0, none⟩ = some (.slice A L.length c) := by rw [cell_of HT.out]; rfl
  gi_wp2
  gi_loopw [7] (fun p wr => ∃ j : Nat, j ≤ Lh L id ∧ p = .int .i64 (j : Int) ∧ J j wr ∧ wr.heap[bi]? = some (.cells #[.int .i64 (climb L id j)] 3 (0, 0)) ∧ Fr (fun k => S k ∨ k = bi) W wr) (fun p wr => match p with | .int _ x => L.length - x.toNat | _ => 0)
  case atStart => exact ⟨0, Nat.zero_le _, rfl, h0, HI.out, Fr.refl _ _⟩
  case round =>
    obtain ⟨j, hj, rfl, hJj, hij, hfr⟩ := hrel
    have HJ := Lib.hid hJj
    have HIJ := Lib.hid hij
    have HF := Lib.hid hfr
    clear hJj hij hfr
    have j0 : (0 : Int) ≤ (j : Int) := Int.natCast_nonneg _
    have hle := height_le L L.length id
    by_cases hjn : j < L.length
    · have j1 : (j : Int) < (L.length : Int) := by omega
      have HTR : Hid (wr.heap[bt]? = some (.cells #[.slice A L.length c, .int .i64 clk] 31 (0, 0))) := Lib.hid (HF.out.keep HT.out (by rintro (h | h); exact h1 h; exact hbt h))
      have HLR := Lib.hid (HL.out.keep HF.out (fun ad e hp => by rintro (h | h); exact (hA ad e hp).2 h; exact (hA ad e hp).1 h))
      have t1 : wr.cell? ⟨bt, 0, none⟩ = some (.slice A L.length c) := by rw [cell_of HTR.out]; rfl
      have t2 : wr.cell? ⟨bt, 1, none⟩ = some (.int .i64 clk) := by rw [cell_of HTR.out]; rfl
      have t3 : wr.cell? ⟨bi, 0, none⟩ = some (.int .i64 (climb L id j)) := by rw [cell_of HIJ.out]; rfl
      gi_wp2
      refine ⟨trivial, fun h => (by cases h), ?_⟩
      refine (callsIn_wide.2 (is_c c clk (climb L id j) (by omega))).mono ?_
      rintro e w2 ⟨rfl, hf2⟩
      by_cases hid : isId L (climb L id j) = true
      · have hjh : j < Lh L id := by
          rcases Nat.lt_or_ge j (Lh L id) with h | h
          · exact h
          · have e1 : Lh L id = j := by omega
            have h5 := height_end L L.length id (by show Lh L id < _; omega)
            have e2 : height L L.length id = j := e1
            rw [e2, hid] at h5
            cases h5
        rw [hid]
        have HF2 := Lib.hid (HF.out.then0 hf2)
        have HI2 := Lib.hid (hf2.keep0 HIJ.out)
        have HT2 := Lib.hid (hf2.keep0 HTR.out)
        have HL2 := Lib.hid (HLR.out.keep0 hf2)
        have HJ2 := Lib.hid (hJ _ _ _ HJ.out hf2.of0)
        have t4 : w2.cell? ⟨bi, 0, none⟩ = some (.int .i64 (climb L id j)) := by rw [cell_of HI2.out]; rfl
        obtain ⟨fn, tmps, assign, body, hy, hR⟩ := hY j w2 hjh HJ2.out
        obtain ⟨q, hq⟩ : ∃ q : Nat, climb L id j = (q : Int) := ⟨(climb L id j).toNat, by
          unfold isId at hid
          rw [Bool.and_eq_true, decide_eq_true_eq, decide_eq_true_eq] at hid
          omega⟩
        have hqn : q < L.length := by
          unfold isId at hid
          rw [Bool.and_eq_true, decide_eq_true_eq, decide_eq_true_eq] at hid
          omega
        have hup : climb L id (j + 1) = (L[q]).parent := by
          show upOf L (climb L id j) = _
          unfold upOf
          rw [hq, Int.toNat_natCast, List.getD_eq_getElem?_getD, List.getElem?_eq_getElem hqn]
          rfl
        have HUP := Lib.hid hup
        have HQ := Lib.hid hq
        clear hup hq
        clear t0 t1 t2 t3 hf2
        gi_wp2
        refine ⟨fun h => (by cases h), ?_⟩
        refine hR.mono ?_
        rintro e W3 (⟨rfl, hJ3, hf3⟩ | ⟨rfl, hJx3, hf3⟩)
        · have HJ3 := Lib.hid hJ3
          have HF3 := Lib.hid hf3
          obtain ⟨b, off, rfl, hc⟩ := (HL2.out.keep hf3 (fun ad e hp => (hA ad e hp).2)).get (List.getElem?_eq_getElem hqn) (Tx9.pos _)
          have u0 : W3.cell? ⟨b, off + q * 4, none⟩ = some (.int .i64 (L[q]).parent) := hc 0 _ rfl
          have u1 : W3.cell? ⟨bt, 0, none⟩ = some (.slice (some ⟨b, off, none⟩) L.length c) := by rw [cell_of (hf3.keep HT2.out h1)]; rfl
          have HI3 := Lib.hid (hf3.keep HI2.out h2)
          have u2 : W3.cell? ⟨bi, 0, none⟩ = some (.int .i64 (q : Int)) := by rw [cell_of HI3.out, HQ.out]; rfl
          have u3 : W3.frozen? ⟨bi, 0, none⟩ = false := free_of HI3.out _
          have q0 : (0 : Int) ≤ (q : Int) := Int.natCast_nonneg _
          have q1 : (q : Int) < (L.length : Int) := by omega
          clear hc hJ3 hf3 hR hy t4
          rw [HQ.out]
          gi_wp2
          refine ⟨⟨j + 1, by omega, by rw [show ((j + 1 : Nat) : Int) = (j : Int) + 1 by omega], hJ _ _ _ HJ3.out ((Fr.refl (fun k => k = bi) W3).setCell (p := ⟨bi, 0, none⟩) (.inl rfl) _), ?_, ?_⟩, ?_⟩
          · rw [set_cell HI3.out, HUP.out]; rfl
          · exact ((HF2.out.trans HF3.out (fun k hk => .inl (.inl hk)))).setCell (p := ⟨bi, 0, none⟩) (.inl (.inr rfl)) _
          · show L.length - ((j : Int) + 1).toNat < L.length - (j : Int).toNat
            omega
        · gi_wp2
          exact bodyPost_ret (results_none rfl _ _ _) rfl ⟨⟨_, rfl⟩, .inr hJx3⟩
      · have hidf : isId L (climb L id j) = false := by simpa using hid
        have hjh : Lh L id = j := by
          rcases Nat.lt_or_ge j (Lh L id) with h | h
          · exact absurd (height_is L L.length id j h) hid
          · omega
        rw [hidf]
        gi_wp2
        refine ⟨fun _ h => (by cases h), ?_⟩
        gi_wp2
        exact bodyPost_ret (results_none rfl _ _ _) rfl ⟨⟨_, rfl⟩, .inl (by rw [hjh]; exact hJ _ _ _ HJ.out hf2.of0)⟩
    · have hjh : Lh L id = j := by
        have : Lh L id ≤ L.length := hle
        omega
      have hj2 : L.length = j := by
        have : Lh L id ≤ L.length := hle
        omega
      have j1 : ¬ (j : Int) < (L.length : Int) := by omega
      gi_wp2
      go_end0
      exact ⟨⟨_, rfl⟩, .inl (by first | exact HJ.out | (rw [hjh]; exact HJ.out))⟩
theorem withinB_true {L : List Tx9} {id of : Int} {k : Nat} (hk : k < Lh L id) (h : climb L id k = of) : withinB L id of = true := by
  unfold withinB
  rw [List.any_eq_true]
  exact ⟨k, List.mem_range.2 hk, by simp [h]⟩
theorem withinB_false {L : List Tx9} {id of : Int} (h : ∀ k, k < Lh L id → climb L id k ≠ of) : withinB L id of = false := by
  unfold withinB
  rw [List.any_eq_false]
  intro k hk
  simpa using h k (List.mem_range.1 hk)
set_option maxRecDepth 100000 in
set_option maxHeartbeats 1000000 in
theorem within_in (n c : Nat) (h1 : 1 ≤ n) (clk id of : Int) (hL : TxsAt w A L) (hn : L.length ≤ 64) :
    CallsIn Fence.wide n Tryz.prog 35 #[treeV A L.length c clk, .int .i64 id, .int .i64 of] w fun e w' => e = .returned (.bool (withinB L id of)) ∧ Fr F0 w w' := by
  have HL := Lib.hid hL
  clear hL
  refine callsIn_of_wp_marks Tryz.func35 rfl trivial ?_ rfl
  simp only [Tryz.ntmps35, List.size_toArray, List.length_cons, List.length_nil, Nat.reduceAdd, Nat.reduceSub, Array.replicate_succ, Array.replicate_zero, List.push_toArray, List.append_toArray, List.nil_append, List.cons_append]
  gi_wp2
  refine ⟨trivial, ?_⟩
  obtain ⟨ob, hob⟩ : ∃ ob, ob = w.heap.size + 1 := ⟨_, rfl⟩
  obtain ⟨rb, hrb⟩ : ∃ rb, rb = w.heap.size + 1 + 1 := ⟨_, rfl⟩
  have HFW : Hid (Fr F0 w (((w.alloc (.cells #[.slice A L.length c, .int .i64 clk] 31)).alloc (.cells #[.int .i64 of] 3)).alloc (.cells #[.bool false] 4))) := Lib.hid ((((Fr.refl F0 w).alloc _).alloc _).alloc _)
  have HOB : Hid ((((w.alloc (.cells #[.slice A L.length c, .int .i64 clk] 31)).alloc (.cells #[.int .i64 of] 3)).alloc (.cells #[.bool false] 4)).heap[ob]? = some (.cells #[.int .i64 of] 3 (0, 0))) := Lib.hid (by rw [hob]; exact keep_alloc (alloc_at (by simp) _) _)
  have HRB : Hid ((((w.alloc (.cells #[.slice A L.length c, .int .i64 clk] 31)).alloc (.cells #[.int .i64 of] 3)).alloc (.cells #[.bool false] 4)).heap[rb]? = some (.cells #[.bool false] 4 (0, 0))) := Lib.hid (by rw [hrb]; exact alloc_at (by simp) _)
  have HLO : Hid (w.heap.size ≤ ob ∧ w.heap.size ≤ rb ∧ ob ≠ rb) := Lib.hid (by omega)
  rw [← hrb, ← hob]
  clear hob hrb
  generalize (((w.alloc (.cells #[.slice A L.length c, .int .i64 clk] 31)).alloc (.cells #[.int .i64 of] 3)).alloc (.cells #[.bool false] 4)) = W0 at *
  have HL0 := Lib.hid (HL.out.keep0 HFW.out)
  refine (callsIn_wide.2 (up_c (L := L) c clk id)).mono ?_
  rintro e w2 ⟨rfl, hw2⟩
  obtain ⟨bt, hbt⟩ : ∃ bt, bt = W0.heap.size := ⟨_, rfl⟩
  have HF2 : Hid (Fr F0 W0 w2) := Lib.hid (by rw [hw2]; exact ((Fr.refl F0 W0).alloc _).alloc _)
  have HT2 : Hid (w2.heap[bt]? = some (.cells #[.slice A L.length c, .int .i64 clk] 31 (0, 0))) := Lib.hid (by rw [hw2, hbt]; exact keep_alloc (alloc_at rfl _) _)
  have HI2 : Hid (w2.heap[bt + 1]? = some (.cells #[.int .i64 id] 3 (0, 0))) := Lib.hid (by rw [hw2, hbt]; exact alloc_at (by simp) _)
  have HSZ : Hid (w2.heap.size = bt + 2 ∧ W0.heap.size = bt) := Lib.hid (by rw [hw2, hbt]; simp)
  rw [← hbt]
  clear hw2 hbt
  gi_wp2
  have hbw : w.heap.size ≤ bt := by have := HFW.out.size; have := HSZ.out; omega
  have hrlt : rb < bt ∧ ob < bt := ⟨by have := lt_of_block HRB.out; have := HSZ.out; omega, by have := lt_of_block HOB.out; have := HSZ.out; omega⟩
  have hAlt : ∀ ad, A = some ad → 0 < L.length → ad.block < w.heap.size := fun ad e hp => by subst e; exact HL.out.lt hp Tx9.pos
  refine wpIn_rangeFunc_fr rfl h1 (lb := #[.pointer (some ⟨bt, 0, none⟩), .pointer (some ⟨bt + 1, 0, none⟩)]) (gf := 84) rfl trivial (enters_of Tryz.func84 (by kernel_rfl) rfl)
    (arg := fun k => .int .i64 (climb L id k)) (N := Lh L id) (B := fun k => k = bt + 1) (S := fun k => k = rb)
    (up1_it (n - 1) bt (bt + 1) c clk id _ (HL0.out.keep0 HF2.out) hn HT2.out HI2.out (by omega) (fun ad e hp => by have := hAlt ad e hp; have := HSZ.out; have := HLO.out; refine ⟨by omega, ?_⟩; omega) (by have := HSZ.out; have := HLO.out; omega) (by have := HSZ.out; have := HLO.out; omega))
    (fun k hk => by have := HSZ.out; omega) (fun k hk => by have := HSZ.out; omega) rfl
    (fun k W => W.heap[ob]? = some (.cells #[.int .i64 of] 3 (0, 0)) ∧ W.heap[rb]? = some (.cells #[.bool false] 4 (0, 0)) ∧ (∀ j, j < k → climb L id j ≠ of) ∧ Fr F0 w W)
    (fun cd k W => cd = .ret ∧ climb L id k = of ∧ W.heap[rb]? = some (.cells #[.bool true] 4 (0, 0)) ∧ Fr F0 w W)
    (fun k X Y hx hf => ?_) (fun cd k X Y hx hf => ?_) ?_
    (fun k => { tmps := #[treeV A L.length c clk, .int .i64 id, .int .i64 of, .pointer (some ⟨w.heap.size, 0, none⟩), undef, .pointer (some ⟨ob, 0, none⟩), .pointer (some ⟨rb, 0, none⟩), .int .i64 (climb L id k), .agg #[.slice A L.length c, .int .i64 clk], .int .i64 id, .func (.func 84) #[] #[.pointer (some ⟨bt, 0, none⟩), .pointer (some ⟨bt + 1, 0, none⟩)], .int .i64 (climb L id k), undef, undef, undef], defers := [] })
    ?assign ?body ?done ?stop
  · refine ⟨hf.keep hx.1 (by have := HSZ.out; omega), hf.keep hx.2.1 (by have := HSZ.out; omega), hx.2.2.1, hx.2.2.2.trans hf (fun j hj => .inr (by have := HSZ.out; omega))⟩
  · exact ⟨hx.1, hx.2.1, hf.keep hx.2.2.1 (by have := HSZ.out; omega), hx.2.2.2.trans hf (fun j hj => .inr (by have := HSZ.out; omega))⟩
  · exact ⟨HF2.out.keep0 HOB.out, HF2.out.keep0 HRB.out, fun j hj => absurd hj (Nat.not_lt_zero _), HFW.out.then0 HF2.out⟩
  case assign =>
    intro l k W K hk hK
    gi_wp2
    exact hK
  case body =>
    rintro l k W hk ⟨hx1, hx2, hx3, hx4⟩
    have c1 : W.cell? ⟨ob, 0, none⟩ = some (.int .i64 of) := by rw [cell_of hx1]; rfl
    have c2 : W.cell? ⟨rb, 0, none⟩ = some (.bool false) := by rw [cell_of hx2]; rfl
    have c3 : W.frozen? ⟨rb, 0, none⟩ = false := free_of hx2 _
    have HX1 := Lib.hid hx1
    have HX2 := Lib.hid hx2
    have HX3 := Lib.hid hx3
    have HX4 := Lib.hid hx4
    clear hx1 hx2 hx3 hx4
    by_cases he : climb L id k = of
    · have HE := Lib.hid he
      have he' : (climb L id k == of) = true := by simp [he]
      gi_wp2
      refine ⟨(Fr.refl (fun k => k = rb) W).setCell (p := ⟨rb, 0, none⟩) (.inl rfl) _, rfl, HE.out, ?_, HX4.out.setCell (p := ⟨rb, 0, none⟩) (.inr HLO.out.2.1) _⟩
      rw [set_cell HX2.out]
      rfl
    · have HE := Lib.hid he
      gi_wp2
      refine ⟨Fr.refl _ _, HX1.out, HX2.out, fun j hj => ?_, HX4.out⟩
      by_cases hjk : j < k
      · exact HX3.out j hjk
      · obtain rfl : j = k := by omega
        exact HE.out
  case done =>
    rintro D W hD ⟨hx1, hx2, hx3, hx4⟩ hK
    have c2 : W.cell? ⟨rb, 0, none⟩ = some (.bool false) := by rw [cell_of hx2]; rfl
    have c3 : W.frozen? ⟨rb, 0, none⟩ = false := free_of hx2 _
    have HX2 := Lib.hid hx2
    have HX3 := Lib.hid hx3
    have HX4 := Lib.hid hx4
    have HK := Lib.hid hK
    clear hx1 hx2 hx3 hx4 hK
    gi_wp2
    have hw2 : (W.setCell ⟨rb, 0, none⟩ (.bool false)).heap[rb]? = some (.cells #[.bool false] 4 (0, 0)) := by rw [set_cell HX2.out]; rfl
    have hk2 : (W.setCell ⟨rb, 0, none⟩ (.bool false)).heap[D]? = some (.deferred (some [])) := ((Fr.refl (fun k => k = rb) W).setCell (p := ⟨rb, 0, none⟩) (.inl rfl) _).keep HK.out (by have := HSZ.out; omega)
    refine ⟨by simp, .inl ⟨_, _, rfl, run_takeDeferred hk2, ?_⟩⟩
    have hDr : rb ≠ D := by have := HSZ.out; omega
    have hDw : w.heap.size ≤ D := by have := HSZ.out; omega
    have hc5 : ((W.setCell ⟨rb, 0, none⟩ (.bool false)).putObj D (.deferred none)).cell? ⟨rb, 0, none⟩ = some (.bool false) := by rw [cell_of ((World.putObj_heap_other hDr).trans hw2)]; rfl
    refine ⟨.bool false, ?_, by rw [withinB_false HX3.out], (HX4.out.setCell (p := ⟨rb, 0, none⟩) (.inr HLO.out.2.1) _).putObj (.inr hDw) _⟩
    simp [results, Tryz.f35, go_sem, hc5]
  case stop =>
    rintro D cd k W hD hk ⟨rfl, hx1, hx2, hx3⟩ hK
    gi_wp2
    refine ⟨by simp, .inl ⟨_, _, rfl, run_takeDeferred hK, ?_⟩⟩
    have hDr : rb ≠ D := by have := HSZ.out; omega
    have hDw : w.heap.size ≤ D := by have := HSZ.out; omega
    have hc5 : (W.putObj D (.deferred none)).cell? ⟨rb, 0, none⟩ = some (.bool true) := by rw [cell_of ((World.putObj_heap_other hDr).trans hx2)]; rfl
    refine ⟨.bool true, ?_, by rw [withinB_true hk hx1], hx3.putObj (.inr hDw) _⟩
    simp [results, Tryz.f35, go_sem, hc5]
/-- Within. -/
theorem within_c (c : Nat) (clk id of : Int) (hL : TxsAt w A L) (hn : L.length ≤ 64) :
    Calls Tryz.prog 35 #[treeV A L.length c clk, .int .i64 id, .int .i64 of] w fun e w' => e = .returned (.bool (withinB L id of)) ∧ Fr F0 w w' :=
  callsIn_wide.1 (within_in 9 c (by decide) clk id of hL hn)
end
end Go.Proofs.YtgbaijfgmeealaaGreat
set_option linter.unusedVariables false
set_option linter.unusedSimpArgs false
namespace Go.Proofs.YtgbaijfgmeealaaGreat
open Go.RowKit
theorem info_tx : (Tryz.prog.info? 76).map (fun i => (i.zero, i.size, i.bytes)) = some (some (.agg #[.int .i64 0, .int .i64 0, .int .i64 0, .int .i64 0]), 4, 32) := by kernel_rfl
theorem own_lower {w : World} {base base' : Nat} {e : TypeId} {size n : Nat} {v : Value} {xs : List Value} (h : w.ownsRow base e size v n xs) (hb : base' ≤ base) : w.ownsRow base' e size v n xs := by
  refine ⟨h.1, ?_⟩
  rcases h.2 with h2 | ⟨g, cap, cur, rfl, hg, r⟩
  · exact .inl h2
  · exact .inr ⟨g, cap, cur, rfl, Nat.le_trans hb hg, r⟩
theorem size_tree : (Tryz.prog.info? 31).map (·.size) = some 2 := by kernel_rfl
theorem tree_one (A : Option Addr) (n c : Nat) (clk : Int) : ∀ u ∈ [Value.slice A n c, Value.int .i64 clk], u.oneCell' = true := by
  intro u hu
  simp only [List.mem_cons, List.not_mem_nil, or_false] at hu
  rcases hu with rfl | rfl <;> rfl
theorem tree_ret {fn : Func} {p : Nat} {a : Act} {w : World} {b : Nat} {v : Value} {clk : Int} {R : Ending → World → Prop} (hfn : fn.results = #[.cell p 31]) (ha : a.tmps.getD p undef = .pointer (some ⟨b, 0, none⟩)) (hd : a.defers = [])
    (hh : w.heap[b]? = some (.cells #[v, .int .i64 clk] 31 (0, 0))) (hR : R (.returned (.agg #[v, .int .i64 clk])) w) : bodyPost Tryz.prog fn R .ret a w :=
  bodyPost_ret (results_cell_row hfn _ _ b _ _ _ _ ha hh Tryz.underlying31 rfl (by kernel_rfl)) hd hR
section
variable {w : World} {v : Value} {L : List Tx9}
set_option maxRecDepth 100000 in
theorem clone_tx (h : SlV 4 Tx9.cells w v L) (hn : L.length ≤ 1000) : Calls Tryz.prog 67 #[v] w fun e w' => ∃ v', e = .returned v' ∧ w'.ownsRow w.heap.size 76 4 v' L.length (L.flatMap Tx9.cells) ∧ Fr F0 w w' := by
  obtain ⟨A, c, rfl, hs, hnil, hsp⟩ := h.ex
  cases A with
  | none =>
    obtain ⟨rfl, rfl⟩ := hnil rfl
    have hq := Lib.run_eql_slice_nil_nil (P := Tryz.prog) w 0 0 Tryz.underlying29
    go_enter Tryz.func67, Tryz.ntmps67
    go_wp2_with fail
    go_ret
    exact ⟨_, rfl, own_nil _ _ _ _, Fr.refl _ _⟩
  | some ad =>
    obtain ⟨b, off, sp⟩ := ad
    have hsp' : sp = none := hsp _ rfl
    subst hsp'
    have HS := Lib.hid (hs.keep0 ((Fr.refl F0 w).alloc (.cells #[] 76)))
    have hq := Lib.run_eql_slice_some_nil (P := Tryz.prog) w ⟨b, off, none⟩ L.length c Tryz.underlying29
    clear hs hnil hsp
    go_enter Tryz.func67, Tryz.ntmps67
    go_wp2_with (at_builtin; refine wpList_append_rowS (f := Tx9.cells) rfl (.tmp 5) (.tmp 6) 29 32 (.agg #[.int .i64 0, .int .i64 0, .int .i64 0, .int .i64 0]) rfl Tryz.underlying29 info_tx (by rfl) (by decide) (by decide) Tx9.len Tx9.one w.heap.size (.slice (some ⟨w.heap.size, 0, none⟩) 0 0) [] L b off c (by rfl) (by rfl) (own_empty w w.heap.size 76 4 (Nat.le_refl _)) HS.out (by simp) (by simp; omega) ?_; intro v1 w1 hown hf1 _)
    go_ret
    exact ⟨_, rfl, hown, ((Fr.refl F0 w).alloc _).trans hf1 (fun k hk => .inr (by cases hk; exact Nat.le_refl _))⟩
set_option maxRecDepth 100000 in
/-- A tree of its own, a moment on. -/
theorem tick_c (clk : Int) (h : SlV 4 Tx9.cells w v L) (hn : L.length ≤ 1000) (c0 : 0 ≤ clk) (c1 : clk < 2 ^ 62) : Calls Tryz.prog 40 #[.agg #[v, .int .i64 clk]] w fun e w' => ∃ v', e = .returned (.agg #[v', .int .i64 (clk + 1)]) ∧ w'.ownsRow w.heap.size 76 4 v' L.length (L.flatMap Tx9.cells) ∧ Fr F0 w w' := by
  have HL := Lib.hid h
  obtain ⟨A, c, rfl, -⟩ := h.ex
  have HCK : Hid (IntKind.i64.wrap (clk + 1) = clk + 1) := Lib.hid (by rw [IntKind.wrap_i64]; omega)
  have HT : Hid (((w.alloc (.cells #[.slice A L.length c, .int .i64 clk] 31)).alloc (.cells #[.slice none 0 0, .int .i64 0] 31)).heap[w.heap.size]? = some (.cells #[.slice A L.length c, .int .i64 clk] 31 (0, 0))) := Lib.hid (keep_alloc (alloc_at rfl _) _)
  have HR : Hid (((w.alloc (.cells #[.slice A L.length c, .int .i64 clk] 31)).alloc (.cells #[.slice none 0 0, .int .i64 0] 31)).heap[w.heap.size + 1]? = some (.cells #[.slice none 0 0, .int .i64 0] 31 (0, 0))) := Lib.hid (alloc_at (by simp) _)
  have HF0 : Hid (Fr F0 w ((w.alloc (.cells #[.slice A L.length c, .int .i64 clk] 31)).alloc (.cells #[.slice none 0 0, .int .i64 0] 31))) := Lib.hid (((Fr.refl F0 w).alloc _).alloc _)
  clear h
  go_enter Tryz.func40, Tryz.ntmps40
  go_wp2_with fail
  refine wp_region_last (S := F0) [false, false, false, true, true, true, true, true, true, true] [.eq (.pointer (some ⟨w.heap.size, 0, none⟩)), .eq (.slice A L.length c), ⟨fun v w1 => w1.ownsRow w.heap.size 76 4 v L.length (L.flatMap Tx9.cells), fun v w1 w2 h hf => own_keep0 h hf⟩, .eq (.pointer (some ⟨w.heap.size, 1, none⟩)), .eq (.int .i64 clk), .eq (.int .i64 (clk + 1)), ⟨fun v w1 => ∃ u, v = .agg #[u, .int .i64 (clk + 1)] ∧ w1.ownsRow w.heap.size 76 4 u L.length (L.flatMap Tx9.cells), fun v w1 w2 ⟨u, h1, h2⟩ hf => ⟨u, h1, own_keep0 h2 hf⟩⟩, .any] (by kernel_rfl) (by kernel_rfl) (by rfl) (by rfl) (by kernel_rfl) (fun us => ?steps) (fun us wz hG hall => ?fin)
  case steps =>
    simp only [fillL, Nat.reduceAdd]
    refine stepsHold.cons (fun wx hG hd K hK => ?_) ?_
    · rw [if_pos (wanted_none rfl)]
      refine wp_value (w2 := wx) (v := .pointer (some ⟨w.heap.size, 0, none⟩)) ?_ (hK _ _ rfl (Fr.refl _ _))
      clear hd hG hK
      go_simp
    refine stepsHold.cons (fun wx hG hd K hK => ?_) ?_
    · have h3 : us 3 = (.pointer (some ⟨w.heap.size, 0, none⟩)) := deps_get hd 0 rfl rfl rfl rfl rfl
      rw [if_pos (wanted_none rfl)]
      have hc : wx.cell? ⟨w.heap.size, 0, none⟩ = some (.slice A L.length c) := by rw [cell_of (hG.keep0 HT.out)]; rfl
      refine wp_value (w2 := wx) (v := .slice A L.length c) ?_ (hK _ _ rfl (Fr.refl _ _))
      clear hd hK
      go_simp
    refine stepsHold.cons (fun wx hG hd K hK => ?_) ?_
    · have h4 : us 4 = (.slice A L.length c) := deps_get hd 0 rfl rfl rfl rfl rfl
      rw [if_pos (wanted_none rfl)]
      refine wp_call (w2 := wx) (f := 67) (args := #[.slice A L.length c]) ?_ ?_
      · clear hd hK
        go_simp
      · refine ((clone_tx (w := wx) (HL.out.keep0 (HF0.out.then0 hG)) (by omega))).mono ?_
        rintro e w9 ⟨v, rfl, hown, hf⟩
        exact ⟨_, rfl, hK _ _ (own_lower hown (Nat.le_trans HF0.out.size hG.size)) hf⟩
    refine stepsHold.cons (fun wx hG hd K hK => ?_) ?_
    · rw [if_pos (wanted_none rfl)]
      refine wp_value (w2 := wx) (v := .pointer (some ⟨w.heap.size, 1, none⟩)) ?_ (hK _ _ rfl (Fr.refl _ _))
      clear hd hG hK
      go_simp
    refine stepsHold.cons (fun wx hG hd K hK => ?_) ?_
    · have h6 : us 6 = (.pointer (some ⟨w.heap.size, 1, none⟩)) := deps_get hd 0 rfl rfl rfl rfl rfl
      rw [if_pos (wanted_none rfl)]
      have hc : wx.cell? ⟨w.heap.size, 1, none⟩ = some (.int .i64 clk) := by rw [cell_of (hG.keep0 HT.out)]; rfl
      refine wp_value (w2 := wx) (v := .int .i64 clk) ?_ (hK _ _ rfl (Fr.refl _ _))
      clear hd hK
      go_simp
    refine stepsHold.cons (fun wx hG hd K hK => ?_) ?_
    · have h7 : us 7 = (.int .i64 clk) := deps_get hd 0 rfl rfl rfl rfl rfl
      rw [if_pos (wanted_none rfl)]
      have hw := HCK.out
      refine wp_value (w2 := wx) (v := .int .i64 (clk + 1)) ?_ (hK _ _ rfl (Fr.refl _ _))
      clear hd hG hK
      go_simp
    refine stepsHold.cons (fun wx hG hd K hK => ?_) ?_
    · have h5 := deps_get hd 0 rfl rfl rfl rfl rfl
      have h8 : us 8 = (.int .i64 (clk + 1)) := deps_get hd 1 rfl rfl rfl rfl rfl
      rw [if_pos (wanted_none rfl)]
      obtain ⟨A9, c9, e9, -⟩ := SrAt.of_own Tx9.len h5
      have h5' := h5
      rw [e9] at h5'
      refine wp_value (w2 := wx) (v := .agg #[.slice A9 L.length c9, .int .i64 (clk + 1)]) ?_ (hK _ _ ⟨_, rfl, h5'⟩ (Fr.refl _ _))
      clear hd hG hK h5'
      go_simp
    exact stepsHold.nil
  case fin =>
    have h3 : us 3 = (.pointer (some ⟨w.heap.size, 0, none⟩)) := all_get hall 0 rfl rfl rfl
    have h4 : us 4 = (.slice A L.length c) := all_get hall 1 rfl rfl rfl
    have h5 := all_get hall 2 rfl rfl rfl
    have h6 : us 6 = (.pointer (some ⟨w.heap.size, 1, none⟩)) := all_get hall 3 rfl rfl rfl
    have h7 : us 7 = (.int .i64 clk) := all_get hall 4 rfl rfl rfl
    have h8 : us 8 = (.int .i64 (clk + 1)) := all_get hall 5 rfl rfl rfl
    have h9 := all_get hall 6 rfl rfl rfl
    simp only [fillL, Nat.reduceAdd]
    clear hall
    simp only [h3, h4, h6, h7, h8]
    clear h3 h4 h6 h7 h8
    obtain ⟨u, e9, hown⟩ := h9
    obtain ⟨A9, c9, rfl, -⟩ := SrAt.of_own Tx9.len hown
    rw [e9]
    have hr1 := hG.keep0 HR.out
    refine wp_store_at 31 (.tmp 2) (.tmp 9) rfl (w.heap.size + 1) 0 [.slice A9 L.length c9, .int .i64 (clk + 1)] (by rfl) (by rfl) 31 [.slice none 0 0, .int .i64 0] hr1 size_tree (Nat.le_refl 2) (tree_one _ _ _ _) ?_
    have hr2 : (wz.setRow (w.heap.size + 1) (splat [.slice none 0 0, .int .i64 0] 0 [.slice A9 L.length c9, .int .i64 (clk + 1)]).toArray).heap[w.heap.size + 1]? = some (.cells #[.slice A9 L.length c9, .int .i64 (clk + 1)] 31 (0, 0)) := by rw [setRow_heap _ _ _ _ _ _ hr1]; rfl
    have hf2 : Fr (fun k => k = w.heap.size + 1) wz (wz.setRow (w.heap.size + 1) (splat [.slice none 0 0, .int .i64 0] 0 [.slice A9 L.length c9, .int .i64 (clk + 1)]).toArray) := (Fr.refl _ _).setRow (by exact .inl rfl) _
    have hown2 := own_keep hown hf2 (fun k hk e => by
      subst e
      obtain ⟨cc, hcc⟩ := own_cells hown _ hk
      rw [hr1] at hcc
      have h5 := (Obj.cells.inj (Option.some.inj hcc)).2.1
      exact absurd h5 (by decide))
    have HR2 := Lib.hid hr2
    have HO2 := Lib.hid hown2
    have HF2 : Hid (Fr F0 w (wz.setRow (w.heap.size + 1) (splat [.slice none 0 0, .int .i64 0] 0 [.slice A9 L.length c9, .int .i64 (clk + 1)]).toArray)) := Lib.hid ((HF0.out.then0 hG).trans hf2 (fun k hk => .inr (by omega)))
    clear hr1 hr2 hf2 hown2 hown e9
    generalize wz.setRow (w.heap.size + 1) (splat [.slice none 0 0, .int .i64 0] 0 [.slice A9 L.length c9, .int .i64 (clk + 1)]).toArray = W at *
    go_wp2_with fail
    exact tree_ret rfl (by rfl) rfl HR2.out ⟨_, rfl, HO2.out, HF2.out⟩
end
end Go.Proofs.YtgbaijfgmeealaaGreat
set_option linter.unusedVariables false
set_option linter.unusedSimpArgs false
namespace Go.Proofs.YtgbaijfgmeealaaGreat
open Go.RowKit Go.Shelf
open Go.ChangeMaps (setBlock)
attribute [local go_sem] Oper.semAt_some
theorem und9_met : Tryz.prog.underlying 63 = some (.map 3 4) := by kernel_rfl
theorem und9_int : Tryz.prog.underlying 3 = some (.int .i64) := by kernel_rfl
theorem keyed9_int : Go.Maps.Keyed Tryz.prog 3 := Go.Maps.int_keyed und9_int
theorem MapIs.size_new {P : Program} {k : TypeId} {es es' : Array MapEntry} {c c' : Nat} {f : Value → Option Value} {x v : Value} (h : MapIs P k es c f) (h' : MapIs P k es' c' (upd f x v)) (hf : f x = none) : es'.size = es.size + 1 := by
  have nd : (es.toList.map (·.key)).Nodup := by
    rw [List.nodup_iff_pairwise_ne, List.pairwise_map]
    exact h.apart
  have nd' : (es'.toList.map (·.key)).Nodup := by
    rw [List.nodup_iff_pairwise_ne, List.pairwise_map]
    exact h'.apart
  have hx : x ∉ es.toList.map (·.key) := by
    intro hm
    obtain ⟨e, he, rfl⟩ := List.mem_map.1 hm
    rw [h.holds e he] at hf
    cases hf
  have hp : (es'.toList.map (·.key)).Perm (x :: es.toList.map (·.key)) := by
    rw [List.perm_ext_iff_of_nodup nd' (List.nodup_cons.2 ⟨hx, nd⟩)]
    intro y
    rw [List.mem_cons]
    constructor
    · intro hy
      obtain ⟨e, he, rfl⟩ := List.mem_map.1 hy
      have := h'.holds e he
      by_cases hyx : e.key = x
      · exact .inl hyx
      · rw [upd_other _ _ _ hyx] at this
        obtain ⟨e0, he0, hk, _⟩ := h.all _ _ this
        exact .inr (hk ▸ List.mem_map_of_mem he0)
    · rintro (rfl | hy)
      · obtain ⟨e0, he0, hk, _⟩ := h'.all y v (upd_same _ _ _)
        exact hk ▸ List.mem_map_of_mem he0
      · obtain ⟨e, he, rfl⟩ := List.mem_map.1 hy
        have hne : e.key ≠ x := fun e' => hx (e' ▸ hy)
        obtain ⟨e0, he0, hk, _⟩ := h'.all e.key e.val (by rw [upd_other _ _ _ hne]; exact h.holds e he)
        exact hk ▸ List.mem_map_of_mem he0
  have := hp.length_eq
  simpa using this
theorem wpListIn_mapUpdate_is {F : Fence} {nF : Nat} {P : Program} {w : World} {ops : Array Oper} {rest : List Oper} {o : Oper} {a : Act} {Q : Exit → Act → World → Prop}
    (hg : o.guard = none) (m x v : Operand) (t : TypeId) (hop : o.op = Op.mapUpdate t m x v) {k e : TypeId} {es : Array MapEntry} {clock : Nat} {f : Value → Option Value}
    (K : Go.Maps.Keyed P k) (ht : P.underlying t = some (.map k e)) (b : Nat) (hb : w.heap[b]? = some (.map es clock)) (hM : MapIs P k es clock f)
    (hm : a.eval m = .map (some b)) (key val : Value) {kl : Lit} (hx : a.eval x = key) (hv : a.eval v = val) (hkey : keyOf P k key = some kl)
    (hK : ∀ es' clock', MapIs P k es' clock' (upd f key val) → wpListIn F nF P ops Q rest (a.put o.dst undef) (setBlock w b (.map es' clock'))) :
    wpListIn F nF P ops Q (o :: rest) a w := by
  refine wpListIn_plain hg fun K' hK' => ?_
  obtain ⟨es', c', hrun, hM'⟩ := hM.store K ht hb hkey val
  unfold Oper.wpIn
  refine ⟨by simp [Oper.about, hop], ?_⟩
  rw [Oper.semAt_plain F _ _ (by rw [hop]; intro c hc'; cases hc')]
  simp [execOp, hop, hm, hx, hv, hrun, Result.andThen]
  exact hK' _ _ (hK es' c' hM')
theorem wf_i64 {n : Int} (h0 : -9223372036854775808 ≤ n) (h1 : n ≤ 9223372036854775807) : (Lit.int .i64 n).wf = true := by
  simp only [Lit.wf, IntKind.min, IntKind.max, IntKind.signed, IntKind.bits, Bool.and_eq_true, decide_eq_true_eq, if_true]
  omega
theorem run_len_map9 {P : Program} {t k e ty : TypeId} (ht : P.underlying t = some (.map k e)) {b : Nat} {es : Array MapEntry} {clock : Nat} {w : World} (hb : w.heap[b]? = some (.map es clock)) :
    (Builtin.len_ #[t] ty #[.map (some b)]).run P w = .ok (.int .i64 es.size) w := by
  simp [Builtin.len_, run_underlying ht, MapKept.run_getObj_map hb, goInt]
/-- Those below stand in no ring: the steps up differ. -/
def Falls (L : List Tx9) : Prop := ∀ (i : Nat) (x : Tx9), L[i]? = some x → x.parent < (i : Int)
theorem upOf_lt {L : List Tx9} (h : Falls L) {id : Int} (hi : isId L id = true) : upOf L id < id := by
  unfold isId at hi
  rw [Bool.and_eq_true, decide_eq_true_eq, decide_eq_true_eq] at hi
  have hl : id.toNat < L.length := by omega
  have := h id.toNat L[id.toNat] (List.getElem?_eq_getElem hl)
  unfold upOf
  rw [List.getD_eq_getElem?_getD, List.getElem?_eq_getElem hl]
  show (L[id.toNat]).parent < id
  omega
theorem climb_falls {L : List Tx9} (h : Falls L) (id : Int) : ∀ (k j : Nat), j < k → k < Lh L id → climb L id k < climb L id j
  | 0, j, hj, _ => absurd hj (Nat.not_lt_zero _)
  | k + 1, j, hj, hk => by
    have h1 : climb L id (k + 1) < climb L id k := upOf_lt h (height_is L L.length id k (by unfold Lh at hk; omega))
    by_cases hjk : j = k
    · subst hjk; exact h1
    · exact Int.lt_trans h1 (climb_falls h id k j (by omega) (by omega))
section
variable {w : World} {A : Option Addr} {L : List Tx9}
set_option maxRecDepth 100000 in
set_option maxHeartbeats 1000000 in
theorem deep_in (n c : Nat) (h1 : 1 ≤ n) (clk id : Int) (hL : TxsAt w A L) (hn : L.length ≤ 64) (hF : Falls L) (hid : id < 9223372036854775807) :
    CallsIn Fence.wide n Tryz.prog 39 #[treeV A L.length c clk, .int .i64 id] w fun e w' => e = .returned (.int .i64 ((Lh L id : Nat) : Int)) ∧ Fr F0 w w' := by
  have HL := Lib.hid hL
  clear hL
  have hmm := @run_makeMap Tryz.prog
  refine callsIn_of_wp_marks Tryz.func39 rfl trivial ?_ rfl
  simp only [Tryz.ntmps39, List.size_toArray, List.length_cons, List.length_nil, Nat.reduceAdd, Nat.reduceSub, Array.replicate_succ, Array.replicate_zero, List.push_toArray, List.append_toArray, List.nil_append, List.cons_append]
  gi_wp2
  refine ⟨trivial, ?_⟩
  obtain ⟨mb, hmb⟩ : ∃ mb, mb = w.heap.size + 1 := ⟨_, rfl⟩
  obtain ⟨xb, hxb⟩ : ∃ xb, xb = w.heap.size + 1 + 1 := ⟨_, rfl⟩
  rw [← hxb, ← hmb]
  have HFW : Hid (Fr F0 w (((w.alloc (.cells #[.slice A L.length c, .int .i64 clk] 31)).alloc (.map #[] 0)).alloc (.cells #[.map (some mb)] 63))) := Lib.hid ((((Fr.refl F0 w).alloc _).alloc _).alloc _)
  have HMB : Hid ((((w.alloc (.cells #[.slice A L.length c, .int .i64 clk] 31)).alloc (.map #[] 0)).alloc (.cells #[.map (some mb)] 63)).heap[mb]? = some (.map #[] 0)) := Lib.hid (by rw [hmb]; exact keep_alloc (alloc_at (by simp) _) _)
  have HXB : Hid ((((w.alloc (.cells #[.slice A L.length c, .int .i64 clk] 31)).alloc (.map #[] 0)).alloc (.cells #[.map (some mb)] 63)).heap[xb]? = some (.cells #[.map (some mb)] 63 (0, 0))) := Lib.hid (by rw [hxb]; exact alloc_at (by simp) _)
  have HLO : Hid (w.heap.size ≤ mb ∧ w.heap.size ≤ xb ∧ mb ≠ xb) := Lib.hid (by omega)
  clear hmb hxb hmm
  generalize (((w.alloc (.cells #[.slice A L.length c, .int .i64 clk] 31)).alloc (.map #[] 0)).alloc (.cells #[.map (some mb)] 63)) = W0 at *
  have HL0 := Lib.hid (HL.out.keep0 HFW.out)
  refine (callsIn_wide.2 (up_c (L := L) c clk id)).mono ?_
  rintro e w2 ⟨rfl, hw2⟩
  obtain ⟨bt, hbt⟩ : ∃ bt, bt = W0.heap.size := ⟨_, rfl⟩
  have HF2 : Hid (Fr F0 W0 w2) := Lib.hid (by rw [hw2]; exact ((Fr.refl F0 W0).alloc _).alloc _)
  have HT2 : Hid (w2.heap[bt]? = some (.cells #[.slice A L.length c, .int .i64 clk] 31 (0, 0))) := Lib.hid (by rw [hw2, hbt]; exact keep_alloc (alloc_at rfl _) _)
  have HI2 : Hid (w2.heap[bt + 1]? = some (.cells #[.int .i64 id] 3 (0, 0))) := Lib.hid (by rw [hw2, hbt]; exact alloc_at (by simp) _)
  have HSZ : Hid (w2.heap.size = bt + 2 ∧ W0.heap.size = bt) := Lib.hid (by rw [hw2, hbt]; simp)
  rw [← hbt]
  clear hw2 hbt
  gi_wp2
  have hbw : w.heap.size ≤ bt := by have := HFW.out.size; have := HSZ.out; omega
  have hrlt : mb < bt ∧ xb < bt := ⟨by have := lt_of_block HMB.out; have := HSZ.out; omega, by have := lt_of_block HXB.out; have := HSZ.out; omega⟩
  have hAlt : ∀ ad, A = some ad → 0 < L.length → ad.block < w.heap.size := fun ad e hp => by subst e; exact HL.out.lt hp Tx9.pos
  refine wpIn_rangeFunc_fr rfl h1 (lb := #[.pointer (some ⟨bt, 0, none⟩), .pointer (some ⟨bt + 1, 0, none⟩)]) (gf := 84) rfl trivial (enters_of Tryz.func84 (by kernel_rfl) rfl)
    (arg := fun k => .int .i64 (climb L id k)) (N := Lh L id) (B := fun k => k = bt + 1) (S := fun k => k = mb)
    (up1_it (n - 1) bt (bt + 1) c clk id _ (HL0.out.keep0 HF2.out) hn HT2.out HI2.out (by omega) (fun ad e hp => by have := hAlt ad e hp; have := HSZ.out; have := HLO.out; refine ⟨by omega, ?_⟩; omega) (by have := HSZ.out; have := HLO.out; omega) (by have := HSZ.out; have := HLO.out; omega))
    (fun k hk => by have := HSZ.out; omega) (fun k hk => by have := HSZ.out; omega) rfl
    (fun k W => W.heap[xb]? = some (.cells #[.map (some mb)] 63 (0, 0)) ∧ (∃ es clock f, W.heap[mb]? = some (.map es clock) ∧ MapIs Tryz.prog 3 es clock f ∧ es.size = k ∧ ∀ v, f v ≠ none → ∃ j, j < k ∧ v = .int .i64 (climb L id j)) ∧ Fr F0 w W)
    (fun _ _ _ => False)
    (fun k X Y hx hf => ?_) (fun cd k X Y hx hf => hx) ?_
    (fun k => { tmps := #[treeV A L.length c clk, .int .i64 id, .pointer (some ⟨w.heap.size, 0, none⟩), undef, .int .i64 0, .pointer (some ⟨xb, 0, none⟩), .int .i64 (climb L id k), .map (some mb), .agg #[.slice A L.length c, .int .i64 clk], .int .i64 id, .func (.func 84) #[] #[.pointer (some ⟨bt, 0, none⟩), .pointer (some ⟨bt + 1, 0, none⟩)], .int .i64 (climb L id k), undef, undef, undef, undef], defers := [] })
    ?assign ?body ?done ?stop
  · obtain ⟨es, clock, f, h2, h3⟩ := hx.2.1
    exact ⟨hf.keep hx.1 (by have := HSZ.out; omega), ⟨es, clock, f, hf.keep h2 (by have := HSZ.out; omega), h3⟩, hx.2.2.trans hf (fun j hj => .inr (by have := HSZ.out; omega))⟩
  · exact ⟨HF2.out.keep0 HXB.out, ⟨#[], 0, fun _ => none, HF2.out.keep0 HMB.out, MapIs.empty _ _ _, rfl, fun v h => absurd rfl h⟩, HFW.out.then0 HF2.out⟩
  case assign =>
    intro l k W K hk hK
    gi_wp2
    exact hK
  case body =>
    rintro l k W hk ⟨hx1, ⟨es, clock, f, hx2, hx3, hx4, hx5⟩, hx6⟩
    have c1 : W.cell? ⟨xb, 0, none⟩ = some (.map (some mb)) := by rw [cell_of hx1]; rfl
    have hi := height_is L L.length id k hk
    unfold isId at hi
    rw [Bool.and_eq_true, decide_eq_true_eq, decide_eq_true_eq] at hi
    have hkey : keyOf Tryz.prog 3 (.int .i64 (climb L id k)) = some (.int .i64 (climb L id k)) := Go.Maps.keyOf_int_mk und9_int (wf_i64 (by omega) (by omega))
    have hfx : f (.int .i64 (climb L id k)) = none := by
      cases hfx : f (.int .i64 (climb L id k)) with
      | none => rfl
      | some u =>
        obtain ⟨j, hj, he⟩ := hx5 _ (by rw [hfx]; simp)
        have h5 := climb_falls hF id k j hj hk
        have h6 : climb L id k = climb L id j := by injection he
        omega
    have HX1 := Lib.hid hx1
    have HX2 := Lib.hid hx2
    have HX3 := Lib.hid hx3
    have HX4 := Lib.hid hx4
    have HX5 := Lib.hid hx5
    have HX6 := Lib.hid hx6
    have HKEY := Lib.hid hkey
    have HFX := Lib.hid hfx
    clear hx1 hx2 hx3 hx4 hx5 hx6 hi hkey hfx
    gi_wp2_with (gi_at_mapUpdate; refine wpListIn_mapUpdate_is rfl (.tmp 12) (.tmp 13) (.const (.bool true)) 63 rfl keyed9_int und9_met mb HX2.out HX3.out (by rfl) (.int .i64 (climb L id k)) (.bool true) (by rfl) (by rfl) HKEY.out ?_; intro es' clock' hM')
    refine ⟨(Fr.refl (fun k => k = mb) W).setBlock (by exact .inl rfl) _, keep_setBlock HX1.out (Ne.symm HLO.out.2.2) _, ⟨es', clock', _, set_block HX2.out _, hM', ?_, fun v hv => ?_⟩, HX6.out.setBlock (by exact .inr HLO.out.1) _⟩
    · rw [HX3.out.size_new hM' HFX.out, HX4.out]
    · by_cases hvk : v = .int .i64 (climb L id k)
      · exact ⟨k, Nat.lt_succ_self k, hvk⟩
      · rw [upd_other _ _ _ hvk] at hv
        obtain ⟨j, hj, he⟩ := HX5.out v hv
        exact ⟨j, by omega, he⟩
  case done =>
    rintro D W hD ⟨hx1, ⟨es, clock, f, hx2, hx3, hx4, hx5⟩, hx6⟩ hK
    have c1 : W.cell? ⟨xb, 0, none⟩ = some (.map (some mb)) := by rw [cell_of hx1]; rfl
    have hlen := run_len_map9 (ty := 3) und9_met hx2
    gi_wp2
    have hDw : w.heap.size ≤ D := by have := HSZ.out; omega
    refine ⟨by simp, .inl ⟨_, _, rfl, run_takeDeferred hK, ?_⟩⟩
    exact ⟨_, results_tmp rfl _ _ _, by first | rfl | (rw [hx4]; rfl), hx6.putObj (.inr hDw) _⟩
  case stop =>
    rintro D cd k W _ _ h _
    exact h.elim
/-- Deep. -/
theorem deep_c (c : Nat) (clk id : Int) (hL : TxsAt w A L) (hn : L.length ≤ 64) (hF : Falls L) (hid : id < 9223372036854775807) :
    Calls Tryz.prog 39 #[treeV A L.length c clk, .int .i64 id] w fun e w' => e = .returned (.int .i64 ((Lh L id : Nat) : Int)) ∧ Fr F0 w w' :=
  callsIn_wide.1 (deep_in 9 c (by decide) clk id hL hn hF hid)
end
end Go.Proofs.YtgbaijfgmeealaaGreat
