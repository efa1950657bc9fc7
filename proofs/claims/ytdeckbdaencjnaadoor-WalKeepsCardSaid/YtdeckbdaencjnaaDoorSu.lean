/-
  The sum of bytes: sum's Table, More, Of, Seal, Open. Conditions: none.
-/
import Derived.Test.YtdeckbdaencjnaaDoorW1
import Derived.Outline
set_option linter.unusedVariables false
set_option linter.unusedSimpArgs false
namespace Go.Proofs.YtdeckbdaencjnaaDoor
open Go.RowKit

def cells32 (l : List Int) : Array Value := (l.map (Value.int .u32)).toArray
theorem cells32_size (l : List Int) : (cells32 l).size = l.length := by simp [cells32]
theorem cells32_one (l : List Int) : (cells32 l).all (·.oneCell') = true := by
  rw [Array.all_eq_true_iff_forall_mem]
  intro v hv
  simp only [cells32, List.mem_toArray, List.mem_map] at hv
  obtain ⟨x, _, rfl⟩ := hv
  rfl
theorem cells32_set (l : List Int) (j : Nat) (y : Int) : (cells32 l).setIfInBounds j (.int .u32 y) = cells32 (l.set j y) := by simp [cells32, List.map_set]
def ztab : List Int := List.replicate 256 0
theorem info_tab : (Tryd.prog.info? 181).map (fun i => (i.zero, i.size, i.bytes)) = some (some (.agg (cells32 ztab)), 256, 1024) := by kernel_rfl
theorem size_tab : (Tryd.prog.info? 181).map (·.size) = some 256 := by
  obtain ⟨i, hi, hzz⟩ := Option.map_eq_some_iff.1 info_tab
  simp only [Prod.mk.injEq] at hzz
  rw [hi]; simp [hzz.2.1]
theorem run_alloc_tab (w : World) : (Instr.alloc 181 true (.tuple #[])).run Tryd.prog w = .ok (.pointer (some ⟨w.heap.size, 0, none⟩)) (w.alloc (.cells (cells32 ztab) 181)) := by
  refine run_alloc_of 181 (.agg (cells32 ztab)) ?_ w
  obtain ⟨i, hi, hzz⟩ := Option.map_eq_some_iff.1 info_tab
  simp only [Prod.mk.injEq] at hzz
  rw [hi]; simp [hzz.1]
theorem und_tab : ∃ d, Tryd.prog.underlying 181 = some d ∧ aggDesc d = true := ⟨.array 256 137, by kernel_rfl, rfl⟩
/-- The table, its first k. -/
def tabRow (k : Nat) : List Int := (List.range 256).map fun i => if i < k then ((tab i).toNat : Int) else 0
theorem tabRow_len (k : Nat) : (tabRow k).length = 256 := by simp [tabRow]
theorem tabRow_zero : tabRow 0 = ztab := by
  apply List.ext_getElem
  · rw [tabRow_len]; exact List.length_replicate.symm
  · intro i h1 h2
    simp only [tabRow, ztab, List.getElem_map, List.getElem_replicate, Nat.not_lt_zero, if_false]
theorem tabRow_at (k i : Nat) (hi : i < 256) : (tabRow k)[i]? = some (if i < k then ((tab i).toNat : Int) else 0) := by simp [tabRow, hi]
theorem tabRow_succ (k : Nat) (hk : k < 256) : (tabRow k).set k ((tab k).toNat : Int) = tabRow (k + 1) := by
  apply List.ext_getElem?
  intro i
  rw [List.getElem?_set]
  by_cases hi : i < 256
  · rw [tabRow_at _ _ hi, tabRow_at _ _ hi, tabRow_len]
    by_cases h : k = i
    · subst h; simp [hi]
    · rw [if_neg h]
      by_cases h2 : i < k
      · rw [if_pos h2, if_pos (by omega)]
      · rw [if_neg h2, if_neg (by omega)]
  · rw [List.getElem?_eq_none (by rw [tabRow_len]; omega), List.getElem?_eq_none (by rw [tabRow_len]; omega)]
    rw [if_neg (by omega)]
theorem tab_one : ∀ v ∈ (tabRow 256).map (Value.int .u32), v.oneCell' = true := by
  intro v hv
  obtain ⟨x, _, rfl⟩ := List.mem_map.1 hv
  rfl
theorem ztab_len : ztab.length = 256 := List.length_replicate
theorem ztab_fit : 0 + ((tabRow 256).map (Value.int .u32)).length ≤ (ztab.map (Value.int .u32)).length := by
  rw [List.length_map, List.length_map, tabRow_len, ztab_len]
  decide
/-- A result that lies in memory. -/
theorem results_cell {P : Program} {fn : Func} {tmps : Array Value} {w : World} {a : Nat} {t : TypeId} {ad : Addr} {v : Value} (hfn : fn.results = #[.cell a t]) (ha : tmps.getD a undef = .pointer (some ad)) (hr : (loadVar t ad).run P w = .ok v w) : (results fn tmps).run P w = .ok v w := by
  have ha' : tmps[a]?.getD undef = .pointer (some ad) := by rw [← ha]; simp [Array.getD_eq_getD_getElem?]
  simp [results, hfn, asAddr, ha', hr]

theorem xor32 (x y : BitVec 32) : bits .xor .u32 (x.toNat : Int) (y.toNat : Int) = ((x ^^^ y).toNat : Int) := by
  have h := (x ^^^ y).isLt
  unfold bits
  have hk : (IntKind.u32).bits = 32 := rfl
  show IntKind.u32.wrap (((BitVec.ofInt 32 (x.toNat : Int)) ^^^ (BitVec.ofInt 32 (y.toNat : Int))).toNat : Int) = _
  rw [BitVec.ofInt_natCast, BitVec.ofInt_natCast, BitVec.ofNat_toNat, BitVec.ofNat_toNat, BitVec.setWidth_eq, BitVec.setWidth_eq, IntWalk.u32_in _ (by omega)]
theorem and32 (x y : BitVec 32) : bits .and .u32 (x.toNat : Int) (y.toNat : Int) = ((x &&& y).toNat : Int) := by
  have h := (x &&& y).isLt
  unfold bits
  show IntKind.u32.wrap (((BitVec.ofInt 32 (x.toNat : Int)) &&& (BitVec.ofInt 32 (y.toNat : Int))).toNat : Int) = _
  rw [BitVec.ofInt_natCast, BitVec.ofInt_natCast, BitVec.ofNat_toNat, BitVec.ofNat_toNat, BitVec.setWidth_eq, BitVec.setWidth_eq, IntWalk.u32_in _ (by omega)]
theorem half_bits (v : BitVec 32) : bits .xor .u32 ((v.toNat : Int) / 2) (bits .and .u32 3988292384 (-bits .and .u32 (v.toNat : Int) 1 % 4294967296)) = ((half v).toNat : Int) := by
  have e1 : bits .and .u32 (v.toNat : Int) 1 = ((v &&& 1#32).toNat : Int) := and32 v 1#32
  have e2 : (v &&& 1#32).toNat = v.toNat % 2 := by
    rw [BitVec.toNat_and]
    exact Nat.and_one_is_mod _
  have e3 : (v.toNat : Int) / (2 : Int) = ((v >>> 1).toNat : Int) := by
    rw [BitVec.toNat_ushiftRight, Nat.shiftRight_eq_div_pow]; omega
  have e4 : v.getLsbD 0 = decide (v.toNat % 2 = 1) := by
    rw [BitVec.getLsbD, Nat.testBit_zero]
  rw [e1, e2, e3]
  unfold half
  rw [e4]
  rcases Nat.mod_two_eq_zero_or_one v.toNat with h | h
  · rw [h]
    have : bits .and .u32 3988292384 (-((0 : Nat) : Int) % 4294967296) = (((0#32 : BitVec 32)).toNat : Int) := by decide +kernel
    rw [this, xor32]; simp
  · rw [h]
    have : bits .and .u32 3988292384 (-((1 : Nat) : Int) % 4294967296) = (((0xEDB88320#32 : BitVec 32)).toNat : Int) := by decide +kernel
    rw [this, xor32]; simp
/-- What is one's own is one's own from further below, too. -/
theorem own_base_le {w : World} {base base' : Nat} {e : TypeId} {size n : Nat} {v : Value} {xs : List Value} (h : w.ownsRow base e size v n xs) (hb : base' ≤ base) : w.ownsRow base' e size v n xs := by
  refine ⟨h.1, ?_⟩
  rcases h.2 with h2 | ⟨g, cap, cur, h1, h2, r⟩
  · exact .inl h2
  · exact .inr ⟨g, cap, cur, h1, by omega, r⟩
section
variable {w : World}
set_option maxRecDepth 100000 in
set_option maxHeartbeats 1000000 in
theorem table_c : Calls Tryd.prog 123 #[] w fun e w' => e = .returned (.agg (cells32 (tabRow 256))) ∧ Fr F0 w w' := by
  obtain ⟨d, hu, hd⟩ := und_tab
  have HU := Lib.hid hu
  have HD := Lib.hid hd
  clear hu hd
  have hz : Tryd.zeroCells181 = cells32 ztab := by kernel_rfl
  have HZ := Lib.hid hz
  clear hz
  go_enter Tryd.func123, Tryd.ntmps123
  go_wp2_with fail
  rw [HZ.out]
  have h0 : ((w.alloc (.cells (cells32 ztab) 181)).alloc (.cells (cells32 ztab) 181)).heap[w.heap.size]? = some (.cells (cells32 ztab) 181 (0, 0)) := keep_alloc (alloc_at rfl _) _
  have h1 : ((w.alloc (.cells (cells32 ztab) 181)).alloc (.cells (cells32 ztab) 181)).heap[w.heap.size + 1]? = some (.cells (cells32 ztab) 181 (0, 0)) := alloc_at (by simp) _
  have hf : Fr F0 w ((w.alloc (.cells (cells32 ztab) 181)).alloc (.cells (cells32 ztab) 181)) := ((Fr.refl _ _).alloc _).alloc _
  have HH0 := Lib.hid h0
  have H1 := Lib.hid h1
  have HF := Lib.hid hf
  clear h0 h1 hf
  go_loopg [2, 3, 4, 9] 256 (fun kq x2 x3 x4 x9 wr => ∃ k : Nat, k ≤ 256 ∧ kq = 256 - k ∧ x4 = .int .i64 (k : Int) ∧ wr.heap[w.heap.size]? = some (.cells (cells32 ztab) 181 (0, 0)) ∧ wr.heap[w.heap.size + 1]? = some (.cells (cells32 (tabRow k)) 181 (0, 0)) ∧ Fr F0 w wr)
  case atStart => exact ⟨0, by omega, rfl, rfl, HH0.out, by rw [tabRow_zero]; exact H1.out, HF.out⟩
  case round =>
    obtain ⟨k, hk, rfl, rfl, g0, g1, hfr⟩ := hrel
    have G0 := Lib.hid g0
    have G1 := Lib.hid g1
    clear g0
    by_cases hlt : k < 256
    · have hk0 : (0 : Int) ≤ (k : Int) := Int.natCast_nonneg _
      have hk1 : (k : Int) < 256 := by omega
      have hcell : wr.cell? ⟨w.heap.size + 1, k, none⟩ = some (.int .u32 0) := by
        rw [cell_of g1 k]
        simp [cells32, tabRow_at k k hlt]
      have hfree := free_of g1 k
      clear g1
      obtain ⟨wo, rfl⟩ : ∃ wo : World, wo = wr := ⟨_, rfl⟩
      go_wp2_with fail
      go_loopg [3, 9] 8 (fun kq x3 x9 wr => ∃ j : Nat, j ≤ 8 ∧ kq = 8 - j ∧ x9 = .int .i64 (j : Int) ∧ x3 = .int .u32 ((halves j (BitVec.ofNat 32 k)).toNat : Int) ∧ wo = wr)
      case atStart =>
        exact ⟨0, by omega, rfl, rfl, by rw [halves, BitVec.toNat_ofNat, Nat.mod_eq_of_lt (by omega)], rfl⟩
      case round =>
        obtain ⟨j, hj, rfl, rfl, rfl, rfl⟩ := hrel
        by_cases hlj : j < 8
        · have hj0 : (0 : Int) ≤ (j : Int) := Int.natCast_nonneg _
          have hj1 : (j : Int) < 8 := by omega
          obtain ⟨v, hv⟩ : ∃ v, v = halves j (BitVec.ofNat 32 k) := ⟨_, rfl⟩
          rw [← hv]
          have HV := Lib.hid hv
          clear hv
          have hv0 : (0 : Int) ≤ (v.toNat : Int) := Int.natCast_nonneg _
          have hv1 : (v.toNat : Int) ≤ 4294967295 := by have := v.isLt; omega
          go_wp2_with fail
          go_roundg (8 - (j + 1))
          case measure => omega
          case rel =>
            exact ⟨j + 1, by omega, rfl, by first | rfl | (go_num), by rw [half_bits, halves_succ, ← HV.out], rfl⟩
        · have hj8 : j = 8 := by omega
          subst hj8
          go_wp2_with fail
          go_roundg (256 - (k + 1))
          case measure => omega
          case rel =>
            have hf2 : Fr F0 w (wo.setCell ⟨w.heap.size + 1, k, none⟩ (.int .u32 ((halves 8 (BitVec.ofNat 32 k)).toNat : Int))) := hfr.setCell (by exact .inr (by simp)) _
            refine ⟨k + 1, by omega, rfl, by first | rfl | (go_num), keep_setCell G0.out (by simp) _, ?_, hf2⟩
            have := set_cell G1.out k (.int .u32 ((halves 8 (BitVec.ofNat 32 k)).toNat : Int))
            rw [cells32_set] at this
            rw [← tabRow_succ k hlt]
            exact this
    · have hk8 : k = 256 := by omega
      subst hk8
      have hcs : ∀ j v, ((tabRow 256).map (Value.int .u32))[j]? = some v → wr.cell? ⟨w.heap.size + 1, 0 + j, none⟩ = some v := by
        intro j v hv
        rw [cell_of G1.out]
        simpa [cells32] using hv
      have HCS := Lib.hid hcs
      clear hcs
      go_wp2_with ((refine wpList_load_at rfl 181 (.tmp 1) rfl (w.heap.size + 1) 0 (by rfl) ((tabRow 256).map (Value.int .u32)) d HCS.out HU.out HD.out (by rw [size_tab, List.length_map, tabRow_len]) ?_; rw [show ((tabRow 256).map (Value.int .u32)).toArray = cells32 (tabRow 256) from rfl]; refine wpList_store_at rfl 181 (.tmp 0) (.tmp 23) (by rfl) w.heap.size 0 ((tabRow 256).map (Value.int .u32)) (by rfl) (by rfl) 181 (ztab.map (Value.int .u32)) G0.out (by rw [size_tab, List.length_map, tabRow_len]) ztab_fit tab_one ?_))
      show bodyPost Tryd.prog Tryd.f123 _ _ _ _
      refine bodyPost_ret (v := .agg (cells32 (tabRow 256))) ?_ rfl ⟨rfl, ?_⟩
      · refine results_cell (ad := ⟨w.heap.size, 0, none⟩) Tryd.results123 (by rfl) ?_
        have hsp : splat (ztab.map (Value.int .u32)) 0 ((tabRow 256).map (Value.int .u32)) = (tabRow 256).map (Value.int .u32) := by
          unfold splat
          rw [List.take_zero, List.nil_append, List.length_map, tabRow_len, List.drop_of_length_le (by rw [List.length_map, ztab_len]; decide), List.append_nil]
        rw [hsp]
        refine run_loadVar_at _ w.heap.size 0 181 ((tabRow 256).map (Value.int .u32)) d ?_ HU.out HD.out (by rw [size_tab, List.length_map, tabRow_len])
        intro j v hv
        rw [cell_of (setRow_heap wr w.heap.size _ _ _ _ G0.out)]
        simpa using hv
      · exact hfr.setRow (by exact .inr (Nat.le_refl _)) _

theorem xor8 (a b : Nat) (ha : a < 256) (hb : b < 256) : bits .xor .u8 (a : Int) (b : Int) = ((a ^^^ b : Nat) : Int) := by
  have h : a ^^^ b < 256 := Nat.xor_lt_two_pow (n := 8) ha hb
  unfold bits
  show IntKind.u8.wrap (((BitVec.ofInt 8 (a : Int)) ^^^ (BitVec.ofInt 8 (b : Int))).toNat : Int) = _
  rw [BitVec.ofInt_natCast, BitVec.ofInt_natCast, BitVec.toNat_xor, BitVec.toNat_ofNat, BitVec.toNat_ofNat, Nat.mod_eq_of_lt (by omega), Nat.mod_eq_of_lt (by omega), IntWalk.u8_in _ (by omega)]
theorem step_bits (v : BitVec 32) (i : Nat) : bits .xor .u32 ((v.toNat : Int) / 256) ((tab i).toNat : Int) = (((v >>> 8) ^^^ tab i).toNat : Int) := by
  have e3 : (v.toNat : Int) / (256 : Int) = ((v >>> 8).toNat : Int) := by
    rw [BitVec.toNat_ushiftRight, Nat.shiftRight_eq_div_pow]; omega
  rw [e3, xor32]
theorem sum_last (v : BitVec 32) : bits .xor .u32 (v.toNat : Int) 4294967295 = ((v ^^^ 0xFFFFFFFF#32).toNat : Int) := xor32 v 0xFFFFFFFF#32
set_option maxRecDepth 100000 in
set_option maxHeartbeats 1000000 in
theorem more_c (A : Option Addr) (n c : Nat) (xs : List Int) (hA : BytesAt w A n xs) (hn : n ≤ 1099511627776) (hb : Bys xs) :
    Calls Tryd.prog 112 #[.int .u32 0, .slice A n c] w fun e w' => e = .returned (.int .u32 (sumOf xs)) ∧ Fr F0 w w' := by
  have HL := Lib.hid hA.len
  have hz : Tryd.zeroCells181 = cells32 ztab := by kernel_rfl
  have HZ := Lib.hid hz
  clear hz
  have hx0 : bits .xor .u32 0 4294967295 = 4294967295 := by decide +kernel
  have hn0 : (n : Int) ≤ 1099511627776 := by omega
  go_enter Tryd.func112, Tryd.ntmps112
  go_wp2_with fail
  refine table_c.mono ?_
  rintro e w1 ⟨rfl, hf1⟩
  have hfs : (cells32 (tabRow 256)).size = 256 := by rw [cells32_size, tabRow_len]
  have HFS := Lib.hid hfs
  clear hfs
  go_wp2_with (refine wpList_store_fresh rfl 181 (.tmp 5) (.tmp 9) rfl (cells32 (tabRow 256)) (by rfl) (by rfl) 181 Tryd.zeroCells181 (by rw [size_tab, HFS.out]) (by rw [HZ.out, cells32_size, HFS.out]; exact ztab_len) (cells32_one _) ?_)
  have ht : (w1.alloc (.cells (cells32 (tabRow 256)) 181)).heap[w1.heap.size]? = some (.cells (cells32 (tabRow 256)) 181 (0, 0)) := alloc_at rfl _
  have hf2 : Fr F0 w (w1.alloc (.cells (cells32 (tabRow 256)) 181)) := hf1.alloc _
  have HT := Lib.hid ht
  have HF2 := Lib.hid hf2
  clear ht hf2
  generalize hw2 : w1.alloc (.cells (cells32 (tabRow 256)) 181) = w2 at *
  have HW2 := Lib.hid hw2
  clear hw2
  go_loopg [6, 8, 14] n (fun kq x6 x8 x14 wr => ∃ j : Nat, j ≤ n ∧ kq = n - j ∧ x14 = .int .i64 (j : Int) ∧ x6 = .int .u32 ((sumMore 0xFFFFFFFF#32 (xs.take j)).toNat : Int) ∧ w2 = wr)
  case atStart => exact ⟨0, by omega, rfl, rfl, rfl, rfl⟩
  case round =>
    obtain ⟨j, hj, rfl, rfl, rfl, rfl⟩ := hrel
    obtain ⟨v, hv⟩ : ∃ v, v = sumMore 0xFFFFFFFF#32 (xs.take j) := ⟨_, rfl⟩
    rw [← hv]
    have HV := Lib.hid hv
    clear hv
    have hv0 : (0 : Int) ≤ (v.toNat : Int) := Int.natCast_nonneg _
    have hv1 : (v.toNat : Int) ≤ 4294967295 := by have := v.isLt; omega
    by_cases hlt : j < n
    · have hj0 : (0 : Int) ≤ (j : Int) := Int.natCast_nonneg _
      have hj1 : (j : Int) < (n : Int) := by omega
      obtain ⟨ad, rfl, _⟩ := hA.cells (by omega)
      have hcell := (hA.keep0 HF2.out).getD j hlt
      have hjl : j < xs.length := by rw [HL.out]; exact hlt
      obtain ⟨b, hbv⟩ : ∃ b : Nat, (b : Int) = xs.getD j 0 := ⟨(xs.getD j 0).toNat, by
        have := hb (xs.getD j 0) (by simp [List.getD, hjl])
        omega⟩
      have hb256 : b < 256 := by
        have := hb (xs.getD j 0) (by simp [List.getD, hjl])
        omega
      rw [← hbv] at hcell
      have HBV := Lib.hid hbv
      clear hbv
      have hbi0 : (0 : Int) ≤ (b : Int) := Int.natCast_nonneg _
      have hbi1 : (b : Int) ≤ 255 := by omega
      obtain ⟨idx, hidx⟩ : ∃ i : Nat, i = (v.toNat % 256) ^^^ b := ⟨_, rfl⟩
      have hi256 : idx < 256 := by rw [hidx]; exact xor_lt_256 (Nat.mod_lt _ (by decide)) hb256
      have hx : bits .xor .u8 ((v.toNat : Int) % 256) (b : Int) = (idx : Int) := by
        rw [hidx, ← xor8 _ _ (Nat.mod_lt _ (by decide)) hb256]; rfl
      have HIDX := Lib.hid hidx
      clear hidx
      have hi0 : (0 : Int) ≤ (idx : Int) := Int.natCast_nonneg _
      have hi1 : (idx : Int) < 256 := by omega
      have hcell2 : w2.cell? ⟨w1.heap.size, idx, none⟩ = some (.int .u32 ((tab idx).toNat : Int)) := by
        rw [cell_of HT.out]
        simp [cells32, tabRow_at 256 idx hi256, hi256]
      go_wp2_with fail
      go_roundg (n - (j + 1))
      case measure => omega
      case rel =>
        refine ⟨j + 1, by omega, rfl, by first | rfl | (go_num), ?_, rfl⟩
        have htk : xs.take (j + 1) = xs.take j ++ [xs.getD j 0] := by
          rw [List.take_succ_eq_append_getElem hjl]; simp [List.getD, hjl]
        rw [step_bits, htk, sumMore_snoc, ← HV.out, ← HBV.out, HIDX.out]
        rfl
    · have hjn : j = n := by omega
      subst hjn
      go_wp2_with fail
      go_ret
      refine ⟨?_, HF2.out⟩
      rw [sum_last, HV.out, List.take_of_length_le (by rw [HL.out]; exact Nat.le_refl _)]
      rfl
set_option maxRecDepth 100000 in
set_option maxHeartbeats 1000000 in
theorem of_c (A : Option Addr) (n c : Nat) (xs : List Int) (hA : BytesAt w A n xs) (hn : n ≤ 1099511627776) (hb : Bys xs) :
    Calls Tryd.prog 86 #[.slice A n c] w fun e w' => e = .returned (.int .u32 (sumOf xs)) ∧ Fr F0 w w' := by
  go_enter Tryd.func86, Tryd.ntmps86
  go_wp2_with fail
  refine (more_c A n c xs hA hn hb).mono ?_
  rintro e w1 ⟨rfl, hf1⟩
  go_wp2_with fail
  go_ret
  exact ⟨rfl, hf1⟩
set_option maxRecDepth 100000 in
set_option maxHeartbeats 1000000 in
theorem seal_c (A : Option Addr) (n c : Nat) (xs : List Int) (hA : BytesAt w A n xs) (hn : n ≤ 1099511627776) (hb : Bys xs) :
    Calls Tryd.prog 57 #[.slice A n c] w fun e w' => OwnB w w' e (sealL xs) := by
  have h0 := (sumOf_bd xs).1
  have h1 : sumOf xs ≤ 4294967295 := by have := (sumOf_bd xs).2; omega
  obtain ⟨s, hs⟩ : ∃ s, s = sumOf xs := ⟨_, rfl⟩
  have HS := Lib.hid hs
  rw [← hs] at h0 h1
  clear hs
  go_enter Tryd.func57, Tryd.ntmps57
  go_wp2_with fail
  refine (of_c A n c xs hA hn hb).mono ?_
  rintro e w1 ⟨rfl, hf1⟩
  rw [← HS.out]
  go_wp2_with fail
  refine (put_c A n c xs (hA.keep0 hf1) hn s h0 (by omega) 4 (by decide)).mono ?_
  rintro e w2 ⟨v, rfl, hown, hf2⟩
  go_wp2_with fail
  go_ret
  have : sealL xs = xs ++ le 4 s := by rw [HS.out]; rfl
  rw [this]
  exact ⟨_, rfl, own_base_le hown hf1.size, hf1.then0 hf2⟩
end
end Go.Proofs.YtdeckbdaencjnaaDoor
