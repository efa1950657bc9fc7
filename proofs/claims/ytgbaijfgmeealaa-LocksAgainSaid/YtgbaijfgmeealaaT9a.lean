/-
  Transactions in one another as plain data, where they lie in memory; is, up and its iterator, Within. Conditions: none.
-/
import Derived.Test.YtgbaijfgmeealaaRangeF
import Derived.Test.YtgbaijfgmeealaaProg
import Derived.Test.YtgbaijfgmeealaaRowS
set_option linter.unusedVariables false
set_option linter.unusedSimpArgs false
namespace Go.Proofs.Ytgbaijfgmeealaa
open Go.RowKit Go.Shelf
attribute [local go_sem] Oper.semAt_some
structure Tx9 where
  parent : Int
  state : Int
  began : Int
  ended : Int
def Tx9.cells (x : Tx9) : List Value := [.int .i64 x.parent, .int .i64 x.state, .int .i64 x.began, .int .i64 x.ended]
def Tx9.zero : Tx9 := ⟨0, 0, 0, 0⟩
theorem Tx9.len (x : Tx9) : x.cells.length = 4 := rfl
theorem Tx9.pos (x : Tx9) : 0 < x.cells.length := by rw [Tx9.len]; decide
theorem Tx9.one (x : Tx9) : ∀ u ∈ x.cells, u.oneCell' = true := by
  intro v hv
  simp only [Tx9.cells, List.mem_cons, List.not_mem_nil, or_false] at hv
  rcases hv with rfl | rfl | rfl | rfl <;> rfl
/-- A row of transactions that is read. -/
abbrev TxsAt (w : World) (A : Option Addr) (L : List Tx9) : Prop := SrAt 4 Tx9.cells w A L
def isId (L : List Tx9) (id : Int) : Bool := decide (0 ≤ id) && decide (id < (L.length : Int))
def upOf (L : List Tx9) (id : Int) : Int := (L.getD id.toNat Tx9.zero).parent
/-- So many steps up. -/
def climb (L : List Tx9) (id : Int) : Nat → Int
  | 0 => id
  | k + 1 => upOf L (climb L id k)
/-- How many are stood in, as many steps as there are at most. -/
def height (L : List Tx9) : Nat → Int → Nat
  | 0, _ => 0
  | n + 1, id => if isId L id = true then height L n (upOf L id) + 1 else 0
theorem climb_up (L : List Tx9) (id : Int) : ∀ k, climb L (upOf L id) k = climb L id (k + 1)
  | 0 => rfl
  | k + 1 => by
    show upOf L (climb L (upOf L id) k) = upOf L (climb L id (k + 1))
    rw [climb_up L id k]
theorem height_le (L : List Tx9) : ∀ (n : Nat) (id : Int), height L n id ≤ n
  | 0, _ => Nat.le_refl 0
  | n + 1, id => by
    unfold height
    split
    · have := height_le L n (upOf L id); omega
    · omega
theorem height_is (L : List Tx9) : ∀ (n : Nat) (id : Int) (k : Nat), k < height L n id → isId L (climb L id k) = true
  | 0, _, k, h => absurd h (Nat.not_lt_zero _)
  | n + 1, id, k, h => by
    unfold height at h
    split at h
    · rename_i hi
      cases k with
      | zero => exact hi
      | succ k =>
        rw [← climb_up]
        exact height_is L n _ k (by omega)
    · omega
theorem height_end (L : List Tx9) : ∀ (n : Nat) (id : Int), height L n id < n → isId L (climb L id (height L n id)) = false
  | 0, _, h => absurd h (Nat.not_lt_zero _)
  | n + 1, id, h => by
    unfold height at h ⊢
    split
    · rename_i hi
      rw [if_pos hi] at h
      rw [← climb_up]
      exact height_end L n _ (by omega)
    · rename_i hi
      simpa [climb] using hi
def Lh (L : List Tx9) (id : Int) : Nat := height L L.length id
/-- Does one stand in another one? -/
def withinB (L : List Tx9) (id of : Int) : Bool := (List.range (Lh L id)).any fun k => climb L id k == of
abbrev treeV (A : Option Addr) (n c : Nat) (clk : Int) : Value := .agg #[.slice A n c, .int .i64 clk]
section
variable {w : World} {A : Option Addr} {L : List Tx9}
set_option maxRecDepth 100000 in
theorem is_c (c : Nat) (clk id : Int) (hn : L.length ≤ 9223372036854775807) : Calls Try.prog 29 #[treeV A L.length c clk, .int .i64 id] w fun e w' => e = .returned (.bool (isId L id)) ∧ Fr F0 w w' := by
  obtain ⟨n, hnn⟩ : ∃ n, n = L.length := ⟨_, rfl⟩
  have hi : isId L id = (decide (0 ≤ id) && decide (id < (n : Int))) := by rw [hnn]; rfl
  rw [hi, ← hnn]
  clear hi hnn
  by_cases h0 : 0 ≤ id
  · by_cases h1 : id < (n : Int)
    · go_enter Try.func29, Try.ntmps29
      go_wp2_with fail
      go_ret
      exact ⟨by simp [h0, h1] <;> omega, (Fr.refl _ _).alloc _⟩
    · go_enter Try.func29, Try.ntmps29
      go_wp2_with fail
      go_ret
      exact ⟨by simp [h0, h1] <;> omega, (Fr.refl _ _).alloc _⟩
  · go_enter Try.func29, Try.ntmps29
    go_wp2_with fail
    go_ret
    exact ⟨by simp <;> omega, (Fr.refl _ _).alloc _⟩
set_option maxRecDepth 100000 in
theorem up_c (c : Nat) (clk id : Int) : Calls Try.prog 41 #[treeV A L.length c clk, .int .i64 id] w fun e w' => e = .returned (.func (.func 69) #[] #[.pointer (some ⟨w.heap.size, 0, none⟩), .pointer (some ⟨w.heap.size + 1, 0, none⟩)]) ∧
    w' = (w.alloc (.cells #[.slice A L.length c, .int .i64 clk] 25)).alloc (.cells #[.int .i64 id] 3) := by
  go_enter Try.func41, Try.ntmps41
  go_wp2_with fail
  go_ret
  exact ⟨rfl, rfl⟩
set_option maxRecDepth 100000 in
set_option maxHeartbeats 1000000 in
/-- The iterator: it climbs, its own variable alone turns. -/
theorem up1_it (n : Nat) (bt bi c : Nat) (clk id : Int) (S : Nat → Prop) (hL : TxsAt w A L) (hn : L.length ≤ 64)
    (ht : w.heap[bt]? = some (.cells #[.slice A L.length c, .int .i64 clk] 25 (0, 0))) (hi : w.heap[bi]? = some (.cells #[.int .i64 id] 3 (0, 0))) (hbt : bt ≠ bi) (hA : ∀ ad, A = some ad → 0 < L.length → ad.block ≠ bi ∧ ¬ S ad.block)
    (h1 : ¬ S bt) (h2 : ¬ S bi) :
    IterFr Fence.wide n Try.prog 69 #[.pointer (some ⟨bt, 0, none⟩), .pointer (some ⟨bi, 0, none⟩)] (fun k => .int .i64 (climb L id k)) (Lh L id) (fun k => k = bi) S w := by
  intro l J Jx W hW hJ hJx hY h0
  have HL := Lib.hid (hL.keep0 hW)
  have HT := Lib.hid (hW.keep0 ht)
  have HI := Lib.hid (hW.keep0 hi)
  refine callsIn_of_wp Try.func69 rfl trivial ?_ rfl
  simp only [Try.ntmps69, List.size_toArray, List.length_cons, List.length_nil, Nat.reduceAdd, Nat.reduceSub, Array.replicate_succ, Array.replicate_zero, List.push_toArray, List.append_toArray, List.nil_append, List.cons_append]
  have t0 : W.cell? ⟨bt, 0, none⟩ = some (.slice A L.length c) := by rw [cell_of HT.out]; rfl
  gi_wp2
  gi_loopw [7] (fun p wr => ∃ j : Nat, j ≤ Lh L id ∧ p = .int .i64 (j : Int) ∧ J j wr ∧ wr.heap[bi]? = some (.cells #[.int .i64 (climb L id j)] 3 (0, 0)) ∧ Fr (fun k => S k ∨ k = bi) W wr) (fun p wr => match p with | .int _ x => L.length - x.toNat | _ => 0)
  case atStart => exact ⟨0, Nat.zero_le _, rfl, h0, HI.out, Fr.refl _ _⟩
  case round =>
    obtain ⟨j, hj, rfl, hJj, hij, hfr⟩ := hrel
    have HJ := Lib.hid hJj
    have HIJ := Lib.hid hij
    have HF := Lib.hid hfr
    clear hJj hij hfr
    have j0 : (0 : Int) ≤ (j : Int) := Int.natCast_nonneg _
    have hle := height_le L L.length id
    by_cases hjn : j < L.length
    · have j1 : (j : Int) < (L.length : Int) := by omega
      have HTR : Hid (wr.heap[bt]? = some (.cells #[.slice A L.length c, .int .i64 clk] 25 (0, 0))) := Lib.hid (HF.out.keep HT.out (by rintro (h | h); exact h1 h; exact hbt h))
      have HLR := Lib.hid (HL.out.keep HF.out (fun ad e hp => by rintro (h | h); exact (hA ad e hp).2 h; exact (hA ad e hp).1 h))
      have t1 : wr.cell? ⟨bt, 0, none⟩ = some (.slice A L.length c) := by rw [cell_of HTR.out]; rfl
      have t2 : wr.cell? ⟨bt, 1, none⟩ = some (.int .i64 clk) := by rw [cell_of HTR.out]; rfl
      have t3 : wr.cell? ⟨bi, 0, none⟩ = some (.int .i64 (climb L id j)) := by rw [cell_of HIJ.out]; rfl
      gi_wp2
      refine ⟨trivial, fun h => (by cases h), ?_⟩
      refine (callsIn_wide.2 (is_c c clk (climb L id j) (by omega))).mono ?_
      rintro e w2 ⟨rfl, hf2⟩
      by_cases hid : isId L (climb L id j) = true
      · have hjh : j < Lh L id := by
          rcases Nat.lt_or_ge j (Lh L id) with h | h
          · exact h
          · have e1 : Lh L id = j := by omega
            have h5 := height_end L L.length id (by show Lh L id < _; omega)
            have e2 : height L L.length id = j := e1
            rw [e2, hid] at h5
            cases h5
        rw [hid]
        have HF2 := Lib.hid (HF.out.then0 hf2)
        have HI2 := Lib.hid (hf2.keep0 HIJ.out)
        have HT2 := Lib.hid (hf2.keep0 HTR.out)
        have HL2 := Lib.hid (HLR.out.keep0 hf2)
        have HJ2 := Lib.hid (hJ _ _ _ HJ.out hf2.of0)
        have t4 : w2.cell? ⟨bi, 0, none⟩ = some (.int .i64 (climb L id j)) := by rw [cell_of HI2.out]; rfl
        obtain ⟨fn, tmps, assign, body, hy, hR⟩ := hY j w2 hjh HJ2.out
        obtain ⟨q, hq⟩ : ∃ q : Nat, climb L id j = (q : Int) := ⟨(climb L id j).toNat, by
          unfold isId at hid
          rw [Bool.and_eq_true, decide_eq_true_eq, decide_eq_true_eq] at hid
          omega⟩
        have hqn : q < L.length := by
          unfold isId at hid
          rw [Bool.and_eq_true, decide_eq_true_eq, decide_eq_true_eq] at hid
          omega
        have hup : climb L id (j + 1) = (L[q]).parent := by
          show upOf L (climb L id j) = _
          unfold upOf
          rw [hq, Int.toNat_natCast, List.getD_eq_getElem?_getD, List.getElem?_eq_getElem hqn]
          rfl
        have HUP := Lib.hid hup
        have HQ := Lib.hid hq
        clear hup hq
        clear t0 t1 t2 t3 hf2
        gi_wp2
        refine ⟨fun h => (by cases h), ?_⟩
        refine hR.mono ?_
        rintro e W3 (⟨rfl, hJ3, hf3⟩ | ⟨rfl, hJx3, hf3⟩)
        · have HJ3 := Lib.hid hJ3
          have HF3 := Lib.hid hf3
          obtain ⟨b, off, rfl, hc⟩ := (HL2.out.keep hf3 (fun ad e hp => (hA ad e hp).2)).get (List.getElem?_eq_getElem hqn) (Tx9.pos _)
          have u0 : W3.cell? ⟨b, off + q * 4, none⟩ = some (.int .i64 (L[q]).parent) := hc 0 _ rfl
          have u1 : W3.cell? ⟨bt, 0, none⟩ = some (.slice (some ⟨b, off, none⟩) L.length c) := by rw [cell_of (hf3.keep HT2.out h1)]; rfl
          have HI3 := Lib.hid (hf3.keep HI2.out h2)
          have u2 : W3.cell? ⟨bi, 0, none⟩ = some (.int .i64 (q : Int)) := by rw [cell_of HI3.out, HQ.out]; rfl
          have u3 : W3.frozen? ⟨bi, 0, none⟩ = false := free_of HI3.out _
          have q0 : (0 : Int) ≤ (q : Int) := Int.natCast_nonneg _
          have q1 : (q : Int) < (L.length : Int) := by omega
          clear hc hJ3 hf3 hR hy t4
          rw [HQ.out]
          gi_wp2
          refine ⟨⟨j + 1, by omega, by rw [show ((j + 1 : Nat) : Int) = (j : Int) + 1 by omega], hJ _ _ _ HJ3.out ((Fr.refl (fun k => k = bi) W3).setCell (p := ⟨bi, 0, none⟩) (.inl rfl) _), ?_, ?_⟩, ?_⟩
          · rw [set_cell HI3.out, HUP.out]; rfl
          · exact ((HF2.out.trans HF3.out (fun k hk => .inl (.inl hk)))).setCell (p := ⟨bi, 0, none⟩) (.inl (.inr rfl)) _
          · show L.length - ((j : Int) + 1).toNat < L.length - (j : Int).toNat
            omega
        · gi_wp2
          exact bodyPost_ret (results_none rfl _ _ _) rfl ⟨⟨_, rfl⟩, .inr hJx3⟩
      · have hidf : isId L (climb L id j) = false := by simpa using hid
        have hjh : Lh L id = j := by
          rcases Nat.lt_or_ge j (Lh L id) with h | h
          · exact absurd (height_is L L.length id j h) hid
          · omega
        rw [hidf]
        gi_wp2
        refine ⟨fun _ h => (by cases h), ?_⟩
        gi_wp2
        exact bodyPost_ret (results_none rfl _ _ _) rfl ⟨⟨_, rfl⟩, .inl (by rw [hjh]; exact hJ _ _ _ HJ.out hf2.of0)⟩
    · have hjh : Lh L id = j := by
        have : Lh L id ≤ L.length := hle
        omega
      have hj2 : L.length = j := by
        have : Lh L id ≤ L.length := hle
        omega
      have j1 : ¬ (j : Int) < (L.length : Int) := by omega
      gi_wp2
      go_end0
      exact ⟨⟨_, rfl⟩, .inl (by first | exact HJ.out | (rw [hjh]; exact HJ.out))⟩
theorem withinB_true {L : List Tx9} {id of : Int} {k : Nat} (hk : k < Lh L id) (h : climb L id k = of) : withinB L id of = true := by
  unfold withinB
  rw [List.any_eq_true]
  exact ⟨k, List.mem_range.2 hk, by simp [h]⟩
theorem withinB_false {L : List Tx9} {id of : Int} (h : ∀ k, k < Lh L id → climb L id k ≠ of) : withinB L id of = false := by
  unfold withinB
  rw [List.any_eq_false]
  intro k hk
  simpa using h k (List.mem_range.1 hk)
set_option maxRecDepth 100000 in
set_option maxHeartbeats 1000000 in
theorem within_in (n c : Nat) (h1 : 1 ≤ n) (clk id of : Int) (hL : TxsAt w A L) (hn : L.length ≤ 64) :
    CallsIn Fence.wide n Try.prog 17 #[treeV A L.length c clk, .int .i64 id, .int .i64 of] w fun e w' => e = .returned (.bool (withinB L id of)) ∧ Fr F0 w w' := by
  have HL := Lib.hid hL
  clear hL
  refine callsIn_of_wp_marks Try.func17 rfl trivial ?_ rfl
  simp only [Try.ntmps17, List.size_toArray, List.length_cons, List.length_nil, Nat.reduceAdd, Nat.reduceSub, Array.replicate_succ, Array.replicate_zero, List.push_toArray, List.append_toArray, List.nil_append, List.cons_append]
  gi_wp2
  refine ⟨trivial, ?_⟩
  obtain ⟨ob, hob⟩ : ∃ ob, ob = w.heap.size + 1 := ⟨_, rfl⟩
  obtain ⟨rb, hrb⟩ : ∃ rb, rb = w.heap.size + 1 + 1 := ⟨_, rfl⟩
  have HFW : Hid (Fr F0 w (((w.alloc (.cells #[.slice A L.length c, .int .i64 clk] 25)).alloc (.cells #[.int .i64 of] 3)).alloc (.cells #[.bool false] 4))) := Lib.hid ((((Fr.refl F0 w).alloc _).alloc _).alloc _)
  have HOB : Hid ((((w.alloc (.cells #[.slice A L.length c, .int .i64 clk] 25)).alloc (.cells #[.int .i64 of] 3)).alloc (.cells #[.bool false] 4)).heap[ob]? = some (.cells #[.int .i64 of] 3 (0, 0))) := Lib.hid (by rw [hob]; exact keep_alloc (alloc_at (by simp) _) _)
  have HRB : Hid ((((w.alloc (.cells #[.slice A L.length c, .int .i64 clk] 25)).alloc (.cells #[.int .i64 of] 3)).alloc (.cells #[.bool false] 4)).heap[rb]? = some (.cells #[.bool false] 4 (0, 0))) := Lib.hid (by rw [hrb]; exact alloc_at (by simp) _)
  have HLO : Hid (w.heap.size ≤ ob ∧ w.heap.size ≤ rb ∧ ob ≠ rb) := Lib.hid (by omega)
  rw [← hrb, ← hob]
  clear hob hrb
  generalize (((w.alloc (.cells #[.slice A L.length c, .int .i64 clk] 25)).alloc (.cells #[.int .i64 of] 3)).alloc (.cells #[.bool false] 4)) = W0 at *
  have HL0 := Lib.hid (HL.out.keep0 HFW.out)
  refine (callsIn_wide.2 (up_c (L := L) c clk id)).mono ?_
  rintro e w2 ⟨rfl, hw2⟩
  obtain ⟨bt, hbt⟩ : ∃ bt, bt = W0.heap.size := ⟨_, rfl⟩
  have HF2 : Hid (Fr F0 W0 w2) := Lib.hid (by rw [hw2]; exact ((Fr.refl F0 W0).alloc _).alloc _)
  have HT2 : Hid (w2.heap[bt]? = some (.cells #[.slice A L.length c, .int .i64 clk] 25 (0, 0))) := Lib.hid (by rw [hw2, hbt]; exact keep_alloc (alloc_at rfl _) _)
  have HI2 : Hid (w2.heap[bt + 1]? = some (.cells #[.int .i64 id] 3 (0, 0))) := Lib.hid (by rw [hw2, hbt]; exact alloc_at (by simp) _)
  have HSZ : Hid (w2.heap.size = bt + 2 ∧ W0.heap.size = bt) := Lib.hid (by rw [hw2, hbt]; simp)
  rw [← hbt]
  clear hw2 hbt
  gi_wp2
  have hbw : w.heap.size ≤ bt := by have := HFW.out.size; have := HSZ.out; omega
  have hrlt : rb < bt ∧ ob < bt := ⟨by have := lt_of_block HRB.out; have := HSZ.out; omega, by have := lt_of_block HOB.out; have := HSZ.out; omega⟩
  have hAlt : ∀ ad, A = some ad → 0 < L.length → ad.block < w.heap.size := fun ad e hp => by subst e; exact HL.out.lt hp Tx9.pos
  refine wpIn_rangeFunc_fr rfl h1 (lb := #[.pointer (some ⟨bt, 0, none⟩), .pointer (some ⟨bt + 1, 0, none⟩)]) (gf := 69) rfl trivial (enters_of Try.func69 (by kernel_rfl) rfl)
    (arg := fun k => .int .i64 (climb L id k)) (N := Lh L id) (B := fun k => k = bt + 1) (S := fun k => k = rb)
    (up1_it (n - 1) bt (bt + 1) c clk id _ (HL0.out.keep0 HF2.out) hn HT2.out HI2.out (by omega) (fun ad e hp => by have := hAlt ad e hp; have := HSZ.out; have := HLO.out; refine ⟨by omega, ?_⟩; omega) (by have := HSZ.out; have := HLO.out; omega) (by have := HSZ.out; have := HLO.out; omega))
    (fun k hk => by have := HSZ.out; omega) (fun k hk => by have := HSZ.out; omega) rfl
    (fun k W => W.heap[ob]? = some (.cells #[.int .i64 of] 3 (0, 0)) ∧ W.heap[rb]? = some (.cells #[.bool false] 4 (0, 0)) ∧ (∀ j, j < k → climb L id j ≠ of) ∧ Fr F0 w W)
    (fun cd k W => cd = .ret ∧ climb L id k = of ∧ W.heap[rb]? = some (.cells #[.bool true] 4 (0, 0)) ∧ Fr F0 w W)
    (fun k X Y hx hf => ?_) (fun cd k X Y hx hf => ?_) ?_
    (fun k => { tmps := #[treeV A L.length c clk, .int .i64 id, .int .i64 of, .pointer (some ⟨w.heap.size, 0, none⟩), undef, .pointer (some ⟨ob, 0, none⟩), .pointer (some ⟨rb, 0, none⟩), .int .i64 (climb L id k), .agg #[.slice A L.length c, .int .i64 clk], .int .i64 id, .func (.func 69) #[] #[.pointer (some ⟨bt, 0, none⟩), .pointer (some ⟨bt + 1, 0, none⟩)], .int .i64 (climb L id k), undef, undef, undef], defers := [] })
    ?assign ?body ?done ?stop
  · refine ⟨hf.keep hx.1 (by have := HSZ.out; omega), hf.keep hx.2.1 (by have := HSZ.out; omega), hx.2.2.1, hx.2.2.2.trans hf (fun j hj => .inr (by have := HSZ.out; omega))⟩
  · exact ⟨hx.1, hx.2.1, hf.keep hx.2.2.1 (by have := HSZ.out; omega), hx.2.2.2.trans hf (fun j hj => .inr (by have := HSZ.out; omega))⟩
  · exact ⟨HF2.out.keep0 HOB.out, HF2.out.keep0 HRB.out, fun j hj => absurd hj (Nat.not_lt_zero _), HFW.out.then0 HF2.out⟩
  case assign =>
    intro l k W K hk hK
    gi_wp2
    exact hK
  case body =>
    rintro l k W hk ⟨hx1, hx2, hx3, hx4⟩
    have c1 : W.cell? ⟨ob, 0, none⟩ = some (.int .i64 of) := by rw [cell_of hx1]; rfl
    have c2 : W.cell? ⟨rb, 0, none⟩ = some (.bool false) := by rw [cell_of hx2]; rfl
    have c3 : W.frozen? ⟨rb, 0, none⟩ = false := free_of hx2 _
    have HX1 := Lib.hid hx1
    have HX2 := Lib.hid hx2
    have HX3 := Lib.hid hx3
    have HX4 := Lib.hid hx4
    clear hx1 hx2 hx3 hx4
    by_cases he : climb L id k = of
    · have HE := Lib.hid he
      have he' : (climb L id k == of) = true := by simp [he]
      gi_wp2
      refine ⟨(Fr.refl (fun k => k = rb) W).setCell (p := ⟨rb, 0, none⟩) (.inl rfl) _, rfl, HE.out, ?_, HX4.out.setCell (p := ⟨rb, 0, none⟩) (.inr HLO.out.2.1) _⟩
      rw [set_cell HX2.out]
      rfl
    · have HE := Lib.hid he
      gi_wp2
      refine ⟨Fr.refl _ _, HX1.out, HX2.out, fun j hj => ?_, HX4.out⟩
      by_cases hjk : j < k
      · exact HX3.out j hjk
      · obtain rfl : j = k := by omega
        exact HE.out
  case done =>
    rintro D W hD ⟨hx1, hx2, hx3, hx4⟩ hK
    have c2 : W.cell? ⟨rb, 0, none⟩ = some (.bool false) := by rw [cell_of hx2]; rfl
    have c3 : W.frozen? ⟨rb, 0, none⟩ = false := free_of hx2 _
    have HX2 := Lib.hid hx2
    have HX3 := Lib.hid hx3
    have HX4 := Lib.hid hx4
    have HK := Lib.hid hK
    clear hx1 hx2 hx3 hx4 hK
    gi_wp2
    have hw2 : (W.setCell ⟨rb, 0, none⟩ (.bool false)).heap[rb]? = some (.cells #[.bool false] 4 (0, 0)) := by rw [set_cell HX2.out]; rfl
    have hk2 : (W.setCell ⟨rb, 0, none⟩ (.bool false)).heap[D]? = some (.deferred (some [])) := ((Fr.refl (fun k => k = rb) W).setCell (p := ⟨rb, 0, none⟩) (.inl rfl) _).keep HK.out (by have := HSZ.out; omega)
    refine ⟨by simp, .inl ⟨_, _, rfl, run_takeDeferred hk2, ?_⟩⟩
    have hDr : rb ≠ D := by have := HSZ.out; omega
    have hDw : w.heap.size ≤ D := by have := HSZ.out; omega
    have hc5 : ((W.setCell ⟨rb, 0, none⟩ (.bool false)).putObj D (.deferred none)).cell? ⟨rb, 0, none⟩ = some (.bool false) := by rw [cell_of ((World.putObj_heap_other hDr).trans hw2)]; rfl
    refine ⟨.bool false, ?_, by rw [withinB_false HX3.out], (HX4.out.setCell (p := ⟨rb, 0, none⟩) (.inr HLO.out.2.1) _).putObj (.inr hDw) _⟩
    simp [results, Try.f17, go_sem, hc5]
  case stop =>
    rintro D cd k W hD hk ⟨rfl, hx1, hx2, hx3⟩ hK
    gi_wp2
    refine ⟨by simp, .inl ⟨_, _, rfl, run_takeDeferred hK, ?_⟩⟩
    have hDr : rb ≠ D := by have := HSZ.out; omega
    have hDw : w.heap.size ≤ D := by have := HSZ.out; omega
    have hc5 : (W.putObj D (.deferred none)).cell? ⟨rb, 0, none⟩ = some (.bool true) := by rw [cell_of ((World.putObj_heap_other hDr).trans hx2)]; rfl
    refine ⟨.bool true, ?_, by rw [withinB_true hk hx1], hx3.putObj (.inr hDw) _⟩
    simp [results, Try.f17, go_sem, hc5]
/-- Within. -/
theorem within_c (c : Nat) (clk id of : Int) (hL : TxsAt w A L) (hn : L.length ≤ 64) :
    Calls Try.prog 17 #[treeV A L.length c clk, .int .i64 id, .int .i64 of] w fun e w' => e = .returned (.bool (withinB L id of)) ∧ Fr F0 w w' :=
  callsIn_wide.1 (within_in 9 c (by decide) clk id of hL hn)
end
end Go.Proofs.Ytgbaijfgmeealaa
