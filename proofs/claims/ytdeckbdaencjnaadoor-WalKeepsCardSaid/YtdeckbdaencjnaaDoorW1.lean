/-
  Numbers in bytes: wire's Put, New, take, number, Get, Left; bytes.Clone. Conditions: none.
-/
import Derived.Test.YtdeckbdaencjnaaDoorDevX
import Derived.Test.YtdeckbdaencjnaaDoorP8
import Derived.Outline
set_option linter.unusedVariables false
set_option linter.unusedSimpArgs false
namespace Go.Proofs.YtdeckbdaencjnaaDoor
open Go.RowKit

theorem info_u8 : (Tryd.prog.info? 5).map (fun i => (i.zero, i.size, i.bytes)) = some (some (.int .u8 0), 1, 1) := by kernel_rfl
theorem und_u8 : Tryd.prog.underlying 5 = some (.int .u8) := by kernel_rfl

/-- Bytes of the call's own, as a value. -/
structure OwnV (w w' : World) (v : Value) (xs : List Int) : Prop where
  own : w'.ownsRow w.heap.size 5 1 v xs.length (xs.map (Value.int .u8))
  fr : Fr F0 w w'
/-- Bytes of the call's own. -/
structure OwnB (w w' : World) (e : Ending) (xs : List Int) : Prop where
  ex : ∃ v, e = .returned v ∧ OwnV w w' v xs
theorem vals_reads {w : World} {base : Nat} {v : Value} {xs : List Int} (h : w.ownsRow base 5 1 v xs.length (xs.map (Value.int .u8))) :
    ∃ A c, v = .slice A xs.length c ∧ BytesAt w A xs.length xs ∧ xs.length ≤ c ∧ c ≤ 9223372036854775807 ∧ (∀ ad, A = some ad → base ≤ ad.block) := by
  rcases h.2 with ⟨rfl, h0⟩ | ⟨g, cap, cur, rfl, hb, hh, h1, h2, h3, h4⟩
  · exact ⟨none, 0, by rw [h0], ⟨rfl, fun hp => absurd hp (by omega)⟩, by omega, by omega, fun ad h => by cases h⟩
  · refine ⟨_, cap, rfl, ⟨rfl, fun hp => ⟨_, rfl, fun j u hj => h.cells rfl j u hj⟩⟩, h1, by simpa only [maxLen] using h2, fun ad h => by cases h; exact hb⟩
/-- A slice that is read, of a capacity. -/
structure Byt (w : World) (A : Option Addr) (c : Nat) (xs : List Int) : Prop where
  at_ : BytesAt w A xs.length xs
  cap : xs.length ≤ c
  big : c ≤ 9223372036854775807
theorem Byt.keep0 {w w' : World} {A : Option Addr} {c : Nat} {xs : List Int} (h : Byt w A c xs) (hf : Fr F0 w w') : Byt w' A c xs := ⟨h.at_.keep0 hf, h.cap, h.big⟩
theorem Byt.keep {S : Nat → Prop} {w w' : World} {A : Option Addr} {c : Nat} {xs : List Int} (h : Byt w A c xs) (hf : Fr S w w') (hA : 0 < xs.length → ∀ ad, A = some ad → ¬ S ad.block) : Byt w' A c xs := ⟨h.at_.keep hf hA, h.cap, h.big⟩
theorem OwnV.byt {w w' : World} {v : Value} {xs : List Int} (h : OwnV w w' v xs) : ∃ A c, v = .slice A xs.length c ∧ Byt w' A c xs ∧ (∀ ad, A = some ad → w.heap.size ≤ ad.block) := by
  obtain ⟨A, c, e, h1, h2, h3, h4⟩ := vals_reads h.own
  exact ⟨A, c, e, ⟨h1, h2, h3⟩, h4⟩
theorem BytesAt.len_none {w : World} {n : Nat} {xs : List Int} (h : BytesAt w none n xs) : n = 0 := by
  rcases Nat.eq_zero_or_pos n with h0 | h0
  · exact h0
  · obtain ⟨ad, e, _⟩ := h.cells h0
    cases e
theorem BytesAt.getD {w : World} {ad : Addr} {n : Nat} {xs : List Int} (h : BytesAt w (some ad) n xs) (i : Nat) (hi : i < n) : w.cell? (ad.add i) = some (.int .u8 (xs.getD i 0)) := by
  obtain ⟨ad', e, hc⟩ := h.cells (by omega)
  cases e
  have hl := h.len
  refine hc i _ ?_
  simp [hl, hi, List.getD]
theorem addr_add2 (a : Addr) (i j : Nat) : (a.add i).add j = a.add (i + j) := by
  unfold Addr.add
  by_cases h1 : i = 0 <;> by_cases h2 : j = 0 <;> simp [h1, h2, Nat.add_assoc]
theorem BytesAt.drop {w : World} {A : Option Addr} {n : Nat} {xs : List Int} (h : BytesAt w A n xs) (m c : Nat) (hm : m ≤ n) (hc : n ≤ c) : BytesAt w (if c = m then A else A.map (·.add m)) (n - m) (xs.drop m) := by
  have hl := h.len
  refine ⟨by simp [hl], fun hp => ?_⟩
  obtain ⟨ad, rfl, hcell⟩ := h.cells (by omega)
  rw [if_neg (by omega)]
  refine ⟨ad.add m, rfl, fun j v hv => ?_⟩
  rw [addr_add2]
  refine hcell _ _ ?_
  rw [← hv]
  simp [List.getElem?_drop]
theorem Byt.drop {w : World} {A : Option Addr} {c : Nat} {xs : List Int} (h : Byt w A c xs) (m : Nat) (hm : m ≤ xs.length) : Byt w (if c = m then A else A.map (·.add m)) (c - m) (xs.drop m) := by
  have := h.at_.drop m c hm h.cap
  have h1 := h.cap
  have h2 := h.big
  exact ⟨by simpa using this, by simp; omega, by omega⟩
theorem Byt.take {w : World} {A : Option Addr} {c : Nat} {xs : List Int} (h : Byt w A c xs) (m : Nat) (hm : m ≤ xs.length) : Byt w A c (xs.take m) := by
  have := h.at_.take m hm
  have h1 := h.cap
  exact ⟨by simpa [hm] using this, by simp; omega, h.big⟩
/-- xs[m:], run. -/
theorem run_from (A : Option Addr) (n c m : Nat) (hm : m ≤ n) (W : World) :
    (Instr.slice 24 (.slice A n c) (some (.int .i64 (m : Int))) none none).run Tryd.prog W = .ok (.slice (if c = m then A else A.map (·.add m)) (n - m) (c - m)) W := by
  obtain ⟨i, hi, hzz⟩ := Option.map_eq_some_iff.1 info_u8
  simp only [Prod.mk.injEq] at hzz
  have hel : Tryd.prog.elem 24 = 5 := by simp [Program.elem, und_bytes]
  have hu : Tryd.prog.underlying 24 = some (.slice (Tryd.prog.elem 24)) := by rw [hel]; exact und_bytes
  rw [run_slice_l W 24 A n c hu .i64 (m : Int) (Int.natCast_nonneg _) (by omega), hel]
  simp [sizeOf, typeInfo, hi, hzz.2.1, sliced, Result.andThen]

section
variable {P : Program}
/-- append(v, ys...), v a slice of the call's own, ys values that are read, none too. -/
theorem wpList_append_vals {ops : Array Oper} {rest : List Oper} {o : Oper} {a : Act} {Q : Exit → Act → World → Prop} {W : World} (hgd : o.guard = none) (s x : Operand) (t e : TypeId) (bytes : Nat) (z : Value)
    (ho : o.op = .call { callee := .builtin .append, args := #[s, x], argTypes := #[t, t] })
    (ht : P.underlying t = some (.slice e)) (hinfo : (P.info? e).map (fun i => (i.zero, i.size, i.bytes)) = some (some z, 1, bytes)) (hz : z.cells.size = 1) (hb0 : 0 < bytes)
    (base : Nat) (v : Value) (xs ys : List Value) (A : Option Addr) (m c : Nat) (hs : a.eval s = v) (hx : a.eval x = .slice A m c) (hm : ys.length = m) (h1 : ∀ u ∈ ys, u.oneCell' = true)
    (HO : W.ownsRow base e 1 v xs.length xs) (HR : ValsAt W A ys) (hbase : base ≤ W.heap.size) (hl : (xs.length + m) * bytes ≤ 140737488355328)
    (h : ∀ v1 w1, w1.ownsRow base e 1 v1 (xs.length + m) (xs ++ ys) → Fr (fun k => v.ownBlock = some k) W w1 → wpList P ops Q rest (a.put o.dst v1) w1) :
    wpList P ops Q (o :: rest) a W := by
  obtain ⟨i0, hi, hzz⟩ := Option.map_eq_some_iff.1 hinfo
  simp only [Prod.mk.injEq] at hzz
  obtain ⟨hz0, hz1, hz2⟩ := hzz
  have hlen : xs.length + m ≤ 140737488355328 := Nat.le_trans (Nat.le_mul_of_pos_right _ hb0) hl
  rcases A with _ | ad
  · have h0 : m = 0 := by
      rcases Nat.eq_zero_or_pos m with h0 | h0
      · exact h0
      · obtain ⟨ad, e, _⟩ := HR.cells (by omega)
        cases e
    subst h0
    obtain rfl : ys = [] := List.eq_nil_of_length_eq_zero hm
    have hrun : (Builtin.append_ #[t, t] o.type #[v, .slice none 0 c]).run P W = .ok v W := by
      rcases HO.2 with ⟨rfl, hn⟩ | ⟨g, cap, cur, rfl, _, _, hnc, _⟩
      · simp [Builtin.append_, run_underlying ht, sizeOf, typeInfo, hi, Builtin.lenOf, Builtin.firstCells]
      · simp [Builtin.append_, run_underlying ht, sizeOf, typeInfo, hi, Builtin.lenOf, Builtin.firstCells, hnc, storeCells]
    refine wpList_plain hgd fun K hK => ?_
    unfold Oper.wp execOp
    simp only [ho, resolve, invoke, builtin, Sem.run_bind, Sem.run_pure, Result.andThen_ok, List.map_toArray, List.map_cons, List.map_nil, hs, hx, hrun]
    exact hK _ _ (h v W (by simpa using HO) (Fr.refl _ W))
  · have hnews : ∀ j u, ys[j]? = some u → W.cell? (ad.add j) = some u := by
      intro j u hu
      have hj := (List.getElem?_eq_some_iff.1 hu).1
      obtain ⟨ad', e', hc⟩ := HR.cells (by omega)
      cases e'
      exact hc j u hu
    refine wpList_append_own_at W hgd s x t ho base e i0 z 1 bytes ht hi hz0 hz1 hz2 hz (by omega) v xs.length xs hs HO ad m c ys hx (by omega) hnews h1 (by simp only [maxLen]; omega) hl hbase ?_
    intro v1 w1 hown hg _ hat
    exact h v1 w1 hown ((Fr.refl _ W).grown hg (fun k hk => .inl hk))
end
theorem bytes_one (xs : List Int) : ∀ u ∈ xs.map (Value.int .u8), u.oneCell' = true := by
  intro u hu
  obtain ⟨x, _, rfl⟩ := List.mem_map.1 hu
  rfl
theorem BytesAt.vals {w : World} {A : Option Addr} {n : Nat} {xs : List Int} (h : BytesAt w A n xs) : ValsAt w A (xs.map (Value.int .u8)) := ⟨fun hp => h.cells (by have := h.len; simp at hp; omega)⟩

theorem pow_small7 {n : Nat} (hn : n ≤ 7) : (256 : Int) ^ n ≤ 72057594037927936 := by
  have h : n = 0 ∨ n = 1 ∨ n = 2 ∨ n = 3 ∨ n = 4 ∨ n = 5 ∨ n = 6 ∨ n = 7 := by omega
  rcases h with rfl | rfl | rfl | rfl | rfl | rfl | rfl | rfl <;> decide
/-- A byte behind a shift by eight. -/
theorem or_byte {v b : Int} (hv0 : 0 ≤ v) (hv1 : v < 72057594037927936) (hb0 : 0 ≤ b) (hb1 : b ≤ 255) : bits .or .u64 (IntKind.u64.wrap (v * 256)) (IntKind.u64.wrap b) = b + 256 * v := by
  rw [IntWalk.u64_in _ (by omega), IntWalk.u64_in _ (by omega)]
  obtain ⟨m, rfl⟩ := Int.eq_ofNat_of_zero_le hv0
  obtain ⟨c, rfl⟩ := Int.eq_ofNat_of_zero_le hb0
  have e1 : (m : Int) * 256 = ((m * 256 : Nat) : Int) := by omega
  have hk : (IntKind.u64).bits = 64 := rfl
  unfold bits
  rw [e1]
  simp only [hk, BitVec.ofInt_natCast]
  have e2 : ((BitVec.ofNat 64 (m * 256)) ||| (BitVec.ofNat 64 c)).toNat = c + 256 * m := by
    rw [BitVec.toNat_or, BitVec.toNat_ofNat, BitVec.toNat_ofNat, Nat.mod_eq_of_lt (by omega), Nat.mod_eq_of_lt (by omega)]
    have h1 := Nat.shiftLeft_add_eq_or_of_lt (i := 8) (b := c) (by omega) m
    rw [Nat.shiftLeft_eq] at h1
    rw [show m * 256 = m * 2 ^ 8 by rfl, ← h1]
    omega
  show IntKind.u64.wrap (((BitVec.ofNat 64 (m * 256) ||| BitVec.ofNat 64 c).toNat : Nat) : Int) = _
  rw [e2, IntWalk.u64_in _ (by omega)]
  omega
section
variable {w : World}
set_option maxRecDepth 100000 in
set_option maxHeartbeats 400000 in
theorem clone_c (A : Option Addr) (n c : Nat) (xs : List Int) (hA : BytesAt w A n xs) (hn : n ≤ 140737488355328) : Calls Tryd.prog 85 #[.slice A n c] w fun e w' => OwnB w w' e xs := by
  have hl := hA.len
  cases A with
  | none =>
    have h0 := hA.len_none
    subst h0
    obtain rfl : xs = [] := List.eq_nil_of_length_eq_zero hl
    have HB : OwnB w w (.returned (.slice none 0 0)) [] := ⟨_, rfl, own_nil _ _ _ _, Fr.refl _ _⟩
    have q : ∀ (w : World) (a : Option Addr) (n c n' c' : Nat), (binOp .eql 24 (.slice a n c) (.slice none n' c')).run Tryd.prog w = .ok (.bool a.isNone) w := fun w a n c n' c' => Lib.run_eql_slice_nil w _ _ a n c n' c' und_bytes
    go_enter Tryd.func85, Tryd.ntmps85
    go_wp2
    go_ret
    exact HB
  | some ad =>
    refine (Tryd.bytes_Clone_at ad n c xs w hl hn (fun i hi => hA.getD i hi)).mono ?_
    rintro e w' ⟨v, rfl, ho, _, hb⟩
    exact ⟨v, rfl, by rw [hl]; exact ho, Fr.of_below hb⟩

set_option maxRecDepth 100000 in
set_option maxHeartbeats 1000000 in
theorem put_c (A : Option Addr) (n c : Nat) (xs : List Int) (hA : BytesAt w A n xs) (hn : n ≤ 1099511627776) (v : Int) (hv0 : 0 ≤ v) (hv1 : v ≤ 18446744073709551615) (k : Nat) (hk : k ≤ 8) :
    Calls Tryd.prog 56 #[.slice A n c, .int .u64 v, .int .i64 (k : Int)] w fun e w' => OwnB w w' e (xs ++ le k v) := by
  have hl := hA.len
  have hk8 : ¬ (8 : Int) < (k : Int) := by omega
  have hk8' : (k : Int) ≤ 8 := by omega
  have HL := Lib.hid hl
  clear hl
  go_enter Tryd.func56, Tryd.ntmps56
  go_wp2_with fail
  refine (clone_c A n c xs hA (by omega)).mono ?_
  rintro e w1 ⟨v1, rfl, hown⟩
  have HO := Lib.hid hown
  clear hown
  go_wp2_with fail
  all_goals first | (exfalso; omega) | skip
  go_loopg [1, 7, 12] k (fun kq x1 x7 x12 wr => ∃ j : Nat, j ≤ k ∧ kq = k - j ∧ x1 = .int .u64 (v / 256 ^ j) ∧ x12 = .int .i64 (j : Int) ∧ OwnV w wr x7 (xs ++ le j v))
  case atStart => exact ⟨0, by omega, rfl, by simp, rfl, by simpa [le] using HO.out⟩
  case round =>
    obtain ⟨j, hj, rfl, rfl, rfl, hown⟩ := hrel
    have HO := Lib.hid hown
    have hb := hown.fr.size
    clear hown
    have hj0 : (0 : Int) ≤ (j : Int) := Int.natCast_nonneg _
    obtain ⟨u, hu⟩ : ∃ u : Int, u = v / 256 ^ j := ⟨_, rfl⟩
    rw [← hu]
    have HU := Lib.hid hu
    have hu0 : 0 ≤ u := by rw [hu]; exact Int.ediv_nonneg hv0 (Int.pow_nonneg (by decide))
    have hu1 : u ≤ 18446744073709551615 := by
      rw [hu]
      exact Int.le_trans (Int.ediv_le_self _ hv0) hv1
    clear hu
    by_cases hlt : j < k
    · have hj1 : (j : Int) < min (k : Int) 8 := by omega
      go_wp2_with (at_builtin; refine wpList_append_one rfl (.tmp 14) (.tmp 17) 24 5 1 (.int .u8 0) rfl und_bytes info_u8 rfl (by decide) w.heap.size u7 ((xs ++ le j v).map (Value.int .u8)) (.int .u8 (u % 256)) (by rfl) (by rfl) rfl (by rw [List.length_map]; exact HO.out.own) hb (by rw [List.length_map, List.length_append, le_len, HL.out]; omega) ?_; intro v3 w3 hown3 hf3)
      go_roundg (k - (j + 1))
      case measure => omega
      case rel =>
        refine ⟨j + 1, by omega, rfl, ?_, by first | rfl | (go_num), ?_⟩
        · rw [HU.out, Int.pow_succ, ← Int.ediv_ediv_of_nonneg (Int.pow_nonneg (by decide))]
        · have e : xs ++ le (j + 1) v = (xs ++ le j v) ++ [u % 256] := by
            rw [le_add j 1 v, ← HU.out]; simp [le]
          rw [e]
          refine ⟨by simpa [Nat.add_assoc] using hown3, HO.out.fr.trans hf3 (fun i hi => .inr (own_base HO.out.own i hi))⟩
    · have hjk : j = k := by omega
      subst hjk
      have hj2 : ¬ (j : Int) < min (j : Int) 8 := by omega
      go_wp2_with fail
      go_ret
      exact ⟨_, rfl, HO.out⟩

set_option maxRecDepth 100000 in
set_option maxHeartbeats 1000000 in
theorem number_c (A : Option Addr) (n c : Nat) (xs : List Int) (hA : BytesAt w A n xs) (hn : n ≤ 8) (hb : Bys xs) : Calls Tryd.prog 90 #[.slice A n c] w fun e w' => e = .returned (.int .u64 (unle xs)) ∧ w = w' := by
  have hl := hA.len
  have HL := Lib.hid hl
  clear hl
  go_enter Tryd.func90, Tryd.ntmps90
  go_wp2_with fail
  go_loopg [3, 4] n (fun kq x3 x4 wr => ∃ j : Nat, j ≤ n ∧ kq = j ∧ x3 = .int .u64 (unle (xs.drop j)) ∧ x4 = .int .i64 ((j : Int) - 1) ∧ w = wr)
  case atStart => exact ⟨n, by omega, rfl, by rw [List.drop_of_length_le (by rw [HL.out]; omega)]; rfl, rfl, rfl⟩
  case round =>
    obtain ⟨j, hj, rfl, rfl, rfl, rfl⟩ := hrel
    cases gk with
    | zero =>
      go_wp2_with fail
      go_ret
      exact ⟨by simp, rfl⟩
    | succ i =>
      have hi0 : (0 : Int) ≤ (i : Int) := Int.natCast_nonneg _
      have hi1 : (i : Int) < (n : Int) := by omega
      obtain ⟨ad, rfl, _⟩ := hA.cells (by omega)
      have hcell := hA.getD i (by omega)
      obtain ⟨v, hv⟩ : ∃ v : Int, v = unle (xs.drop (i + 1)) := ⟨_, rfl⟩
      rw [← hv]
      obtain ⟨b, hbv⟩ : ∃ b : Int, b = xs.getD i 0 := ⟨_, rfl⟩
      rw [← hbv] at hcell
      have HV := Lib.hid hv
      have HBV := Lib.hid hbv
      clear hv hbv
      rw [show ((i + 1 : Nat) : Int) - 1 = (i : Int) by omega]
      go_wp2_with fail
      go_roundg i
      case measure => omega
      case rel =>
        have hil : i < xs.length := by rw [HL.out]; omega
        have hd : xs.drop i = xs.getD i 0 :: xs.drop (i + 1) := by rw [List.drop_eq_getElem_cons hil]; simp [List.getD, hil]
        have hB : Bys (xs.drop (i + 1)) := hb.drop _
        have hv0 := unle_nonneg hB
        have hv1 := unle_lt hB
        have hl7 : (xs.drop (i + 1)).length ≤ 7 := by rw [List.length_drop, HL.out]; omega
        have hv2 : unle (xs.drop (i + 1)) < 72057594037927936 := by
          have := pow_small7 hl7
          omega
        rw [← HV.out] at hv0 hv2
        have hbb : 0 ≤ b ∧ b ≤ 255 := by
          rw [HBV.out]
          exact hb _ (by simp [List.getD, hil])
        refine ⟨i, by omega, rfl, ?_, by first | rfl | (go_num), rfl⟩
        rw [or_byte hv0 hv2 hbb.1 hbb.2, hd]
        simp only [unle]
        rw [← HV.out, ← HBV.out]

/-- A reader, and what is left of its bytes. -/
structure RdAt (w : World) (rb lim : Nat) (xs : List Int) : Prop where
  ex : ∃ A c t, w.heap[rb]? = some (.cells #[.slice A xs.length c] t (0, 0)) ∧ Byt w A c xs ∧ (∀ ad, A = some ad → 0 < xs.length → ad.block < lim)
  lim : lim ≤ rb
theorem RdAt.keep {S : Nat → Prop} {w w' : World} {rb lim : Nat} {xs : List Int} (h : RdAt w rb lim xs) (hf : Fr S w w') (h1 : ¬ S rb) (h2 : ∀ k, k < lim → ¬ S k) : RdAt w' rb lim xs := by
  obtain ⟨A, c, t, g1, g2, g3⟩ := h.ex
  exact ⟨⟨A, c, t, hf.keep g1 h1, ⟨g2.at_.keep hf (fun hp ad e => h2 _ (g3 ad e hp)), g2.cap, g2.big⟩, g3⟩, h.lim⟩
theorem RdAt.keep0 {w w' : World} {rb lim : Nat} {xs : List Int} (h : RdAt w rb lim xs) (hf : Fr F0 w w') : RdAt w' rb lim xs := h.keep hf (fun h => h) (fun _ _ h => h)
theorem RdAt.lt {w : World} {rb lim : Nat} {xs : List Int} (h : RdAt w rb lim xs) : rb < w.heap.size := by
  obtain ⟨A, c, t, g1, g2, g3⟩ := h.ex
  exact lt_of_block g1
set_option maxRecDepth 100000 in
set_option maxHeartbeats 1000000 in
theorem wnew_c (A : Option Addr) (c : Nat) (xs : List Int) (hA : Byt w A c xs) (lim : Nat) (hlim : ∀ ad, A = some ad → 0 < xs.length → ad.block < lim) (hl : lim ≤ w.heap.size) : Calls Tryd.prog 60 #[.slice A xs.length c] w fun e w' => ∃ rb, e = .returned (.pointer (some ⟨rb, 0, none⟩)) ∧ w.heap.size ≤ rb ∧ RdAt w' rb lim xs ∧ Fr F0 w w' := by
  go_enter Tryd.func60, Tryd.ntmps60
  go_wp2_with fail
  go_ret
  exact ⟨_, rfl, Nat.le_refl _, ⟨⟨_, _, _, alloc_at rfl _, hA.keep0 ((Fr.refl _ _).alloc _), hlim⟩, hl⟩, (Fr.refl _ _).alloc _⟩
set_option maxRecDepth 100000 in
set_option maxHeartbeats 1000000 in
theorem left_c {rb lim : Nat} {xs : List Int} (h : RdAt w rb lim xs) : Calls Tryd.prog 63 #[.pointer (some ⟨rb, 0, none⟩)] w fun e w' => e = .returned (.int .i64 xs.length) ∧ w = w' := by
  obtain ⟨A, c, t, h1, h2, h3⟩ := h.ex
  have hc : w.cell? ⟨rb, 0, none⟩ = some (.slice A xs.length c) := by rw [cell_of h1]; rfl
  go_enter Tryd.func63, Tryd.ntmps63
  go_wp2_with fail
  go_ret
  exact ⟨rfl, rfl⟩
set_option maxRecDepth 100000 in
set_option maxHeartbeats 1000000 in
theorem take_c {rb lim : Nat} {xs : List Int} (h : RdAt w rb lim xs) (n : Nat) (hn : n ≤ xs.length) : Calls Tryd.prog 89 #[.pointer (some ⟨rb, 0, none⟩), .int .i64 (n : Int)] w fun e w' => ∃ A c, e = .returned (.tuple #[.slice A n c, .bool true]) ∧ BytesAt w' A n (xs.take n) ∧ RdAt w' rb lim (xs.drop n) ∧ Fr (fun k => k = rb) w w' := by
  obtain ⟨A, c, t, h1, h2, h3⟩ := h.ex
  have hc : w.cell? ⟨rb, 0, none⟩ = some (.slice A xs.length c) := by rw [cell_of h1]; rfl
  have hfr := free_of h1 0
  have hcap := h2.cap
  have hbig := h2.big
  have hcut := fun W => run_from A xs.length c n hn W
  have g1 : ¬ (xs.length : Int) < (n : Int) := by omega
  have g2 : (n : Int) ≤ (c : Int) := by omega
  have g0 : (0 : Int) ≤ (n : Int) := Int.natCast_nonneg _
  have H1 := Lib.hid h1
  clear h1
  generalize hA' : (if c = n then A else A.map (·.add n)) = A' at hcut
  have HA' := Lib.hid hA'
  clear hA'
  go_enter Tryd.func89, Tryd.ntmps89
  go_wp2_with fail
  go_ret2
  have hb := h2.at_
  have hS : w.heap[rb]? = some (.cells #[.slice A xs.length c] t (0, 0)) := H1.out
  have hFr : Fr (fun k => k = rb) w (w.setCell ⟨rb, 0, none⟩ (.slice A' (xs.length - n) (c - n))) := (Fr.refl _ _).setCell (by exact .inl rfl) _
  have hd := h2.drop n hn
  rw [HA'.out] at hd
  have hblk : ∀ ad, A' = some ad → 0 < (xs.drop n).length → ad.block < lim := by
    intro ad e hp
    simp at hp
    rw [← HA'.out, if_neg (by omega)] at e
    obtain ⟨ad0, e0, e1⟩ := Option.map_eq_some_iff.1 e
    have := h3 ad0 e0 (by omega)
    have hbl : (ad0.add n).block = ad0.block := by unfold Addr.add; split <;> rfl
    rw [← e1, hbl]; exact this
  have hlim := h.lim
  refine ⟨A, ⟨c, rfl⟩, (hb.keep hFr (fun hp ad e => by have := h3 ad e (by omega); omega)).take n hn, ⟨⟨A', c - n, t, ?_, ?_, hblk⟩, hlim⟩, hFr⟩
  · have := set_cell hS 0 (.slice A' (xs.length - n) (c - n))
    simpa using this
  · exact ⟨hd.at_.keep hFr (fun hp ad e => by have := hblk ad e hp; omega), hd.cap, hd.big⟩
set_option maxRecDepth 100000 in
set_option maxHeartbeats 1000000 in
theorem get_c {rb lim : Nat} {xs : List Int} (h : RdAt w rb lim xs) (hb : Bys xs) (n : Nat) (h1 : 1 ≤ n) (h8 : n ≤ 8) (hn : n ≤ xs.length) :
    Calls Tryd.prog 61 #[.pointer (some ⟨rb, 0, none⟩), .int .i64 (n : Int)] w fun e w' => e = .returned (.tuple #[.int .u64 (unle (xs.take n)), .int .i64 0]) ∧ RdAt w' rb lim (xs.drop n) ∧ Fr (fun k => k = rb) w w' := by
  have g1 : ¬ (n : Int) < 1 := by omega
  have g2 : ¬ (8 : Int) < (n : Int) := by omega
  go_enter Tryd.func61, Tryd.ntmps61
  go_wp2_with fail
  refine (take_c h n hn).mono ?_
  rintro e w1 ⟨A, c, rfl, hA, hR, hf⟩
  go_wp2_with fail
  refine (number_c A n c (xs.take n) hA h8 (hb.take n)).mono ?_
  rintro e w2 ⟨rfl, rfl⟩
  go_wp2_with fail
  go_ret2
  exact ⟨rfl, hR, hf⟩
end
end Go.Proofs.YtdeckbdaencjnaaDoor
