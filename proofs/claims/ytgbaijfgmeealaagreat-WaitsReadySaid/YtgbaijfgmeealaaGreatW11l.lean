/-
  heronry/waits: reach of integers, at the closure of Stuck. Conditions: none.
-/
import Derived.Test.YtgbaijfgmeealaaGreatW11k
set_option linter.unusedVariables false
set_option linter.unusedSimpArgs false
namespace Go.Proofs.YtgbaijfgmeealaaGreat
open Go.RowKit
open Go.ChangeMaps (setBlock)
theorem nodup_len : ∀ (n : Nat) (l : List Int), l.Nodup → (∀ x ∈ l, 0 ≤ x ∧ x < (n : Int)) → l.length ≤ n
  | 0, l, _, h => by
    cases l with
    | nil => exact Nat.le_refl 0
    | cons a l => have := h a List.mem_cons_self; omega
  | n + 1, l, hn, h => by
    by_cases hm : (n : Int) ∈ l
    · have h1 := nodup_len n (l.erase (n : Int)) (hn.erase _) (fun x hx => by
        have h2 := (hn.mem_erase_iff).1 hx
        have h3 := h x h2.2
        have h4 := h2.1
        omega)
      have h5 := List.length_erase_of_mem hm
      omega
    · have h1 := nodup_len n l hn (fun x hx => by
        have h3 := h x hx
        have h4 : x ≠ (n : Int) := fun e => hm (e ▸ hx)
        omega)
      omega
theorem app_none_int (w : World) (v : Value) (hv : v = .slice none 0 0 ∨ ∃ b n c, n ≤ c ∧ v = .slice (some ⟨b, 0, none⟩) n c) : ∀ ty, (Builtin.append_ #[37, 37] ty #[v, .slice none 0 0]).run Tryz.prog w = .ok v w := by
  obtain ⟨i0, hi0, hzz⟩ := Option.map_eq_some_iff.1 info_int9
  intro ty
  rcases hv with rfl | ⟨b, n, c, hnc, rfl⟩
  · simp [Builtin.append_, run_underlying Tryz.underlying37, sizeOf, typeInfo, hi0, Builtin.lenOf, Builtin.firstCells, storeCells]
  · simp [Builtin.append_, run_underlying Tryz.underlying37, sizeOf, typeInfo, hi0, Builtin.lenOf, Builtin.firstCells, storeCells, hnc]
def fI (x : Int) : List Value := [Value.int .i64 x]
theorem fI_flat (l : List Int) : l.map (Value.int .i64) = l.flatMap fI := map_flat l
/-- How many rounds are left at most. -/
def workM (S : Nat) (wait met : List Int) : Nat := wait.length + (64 - met.length) * (S + 1)
theorem workM_new {S : Nat} {l met : List Int} {a : Int} {k : Nat} (hk : met.length + 1 ≤ 64) (hs : k ≤ S) : l.length + k + (64 - (met.length + 1)) * (S + 1) < l.length + 1 + (64 - met.length) * (S + 1) := by
  have e : 64 - met.length = (64 - (met.length + 1)) + 1 := by omega
  rw [e, Nat.add_mul]
  omega
section
variable {w : World} {fr : List Int}
set_option maxRecDepth 100000 in
set_option maxHeartbeats 4000000 in
theorem reach_c (step : Int → List Int) (S tb lb nb : Nat) (hnb : nb ≤ 64) {A : Option Addr} {n c : Nat} (hl : fr.length = n) (hA : ValsAt w A (fr.map (Value.int .i64))) (hn : n ≤ 10000000) (hnil : A = none → c = 0) (hsp : ∀ ad, A = some ad → ad.spot = none) (hS : S ≤ 10000000)
    (hin : ∀ y ∈ fr, 0 ≤ y ∧ y < (nb : Int)) (hst : ∀ x, 0 ≤ x → x < (nb : Int) → (step x).length ≤ S ∧ ∀ y ∈ step x, 0 ≤ y ∧ y < (nb : Int))
    (hso : ∀ W, Fr F0 w W → ∀ x, 0 ≤ x → x < (nb : Int) → Calls Tryz.prog 22 #[.int .i64 x, .pointer (some ⟨tb, 0, none⟩), .pointer (some ⟨lb, 0, none⟩)] W fun e w' => ∃ v', e = .returned v' ∧ w'.ownsRow W.heap.size 3 1 v' (step x).length ((step x).map (Value.int .i64)) ∧ Fr F0 W w') :
    Calls Tryz.prog 21 #[.slice A n c, .func (.func 22) #[] #[.pointer (some ⟨tb, 0, none⟩), .pointer (some ⟨lb, 0, none⟩)]] w fun e w' => ∃ mb es clock f, e = .returned (.map (some mb)) ∧ w'.heap[mb]? = some (.map es clock) ∧ MapIs Tryz.prog 3 es clock f ∧ (∀ y : Int, (f (.int .i64 y) = some (.bool true) ∧ Reach step fr y) ∨ (f (.int .i64 y) = none ∧ ¬ Reach step fr y)) ∧ Fr F0 w w' := by
  have HL := Lib.hid hl
  have HV := Lib.hid hA
  have HIN := Lib.hid hin
  have HST := Lib.hid hst
  have HSO := Lib.hid hso
  have hmm := @run_makeMap Tryz.prog
  obtain ⟨W, hW⟩ : ∃ W, W = w.alloc (.map #[] 0) := ⟨_, rfl⟩
  have HF0 : Hid (Fr F0 w W) := Lib.hid (by rw [hW]; exact (Fr.refl F0 w).alloc _)
  have HM0 : Hid (W.heap[w.heap.size]? = some (.map #[] 0)) := Lib.hid (by rw [hW]; exact alloc_at rfl _)
  have HW := Lib.hid hW
  clear hl hA hin hst hso hW
  go_enter Tryz.func21, Tryz.ntmps21
  go_wp2_with fail
  rw [← HW.out]
  clear hmm
  refine (clone_ints HL.out (HV.out.keep0 HF0.out) hn hnil hsp).mono ?_
  rintro e w1 ⟨v1, rfl, hown1, hf1⟩
  have HO1 := Lib.hid hown1
  have HF1 := Lib.hid (HF0.out.then0 hf1)
  have HM1 := Lib.hid (hf1.keep0 HM0.out)
  obtain ⟨base, hbase⟩ : ∃ base, base = W.heap.size := ⟨_, rfl⟩
  have HBW : Hid (w.heap.size < base) := Lib.hid (by rw [hbase]; exact lt_of_block HM0.out)
  have HBZ : Hid (base ≤ w1.heap.size) := Lib.hid (by rw [hbase]; exact hf1.size)
  rw [← hbase] at HO1
  clear hown1 hf1 hbase
  go_wp2_with fail
  go_loopg [6, 7] (workM S fr []) (fun kq x6 x7 wr => ∃ (wait met : List Int) (es : Array MapEntry) (clock : Nat) (f : Value → Option Value), workM S wait met = kq ∧ wr.ownsRow base 3 1 x6 wait.length (wait.flatMap fI) ∧ wr.heap[w.heap.size]? = some (.map es clock) ∧ MapIs Tryz.prog 3 es clock f ∧ (∀ y : Int, f (.int .i64 y) = if y ∈ met then some (.bool true) else none) ∧ Work step fr wait met ∧ met.Nodup ∧ (∀ y, y ∈ wait ∨ y ∈ met → 0 ≤ y ∧ y < (nb : Int)) ∧ wait.length ≤ 10000000 + met.length * 10000000 ∧ Fr F0 w wr ∧ base ≤ wr.heap.size)
  case atStart => exact ⟨fr, [], #[], 0, fun _ => none, rfl, by rw [← fI_flat]; exact HO1.out, HM1.out, MapIs.empty _ _ _, fun y => by simp, Work.start, List.nodup_nil, fun y hy => HIN.out y (hy.resolve_right (by simp)), by have := HL.out; omega, HF1.out, HBZ.out⟩
  case round =>
    obtain ⟨wait, met, es, clock, f, hM, hown, hm, hmi, hfk, hwk, hnd, hrg, hwl, hf, hz⟩ := hrel
    subst hM
    have HO := Lib.hid hown
    have HMR := Lib.hid hm
    have HMI := Lib.hid hmi
    have HFK := Lib.hid hfk
    have HWK := Lib.hid hwk
    have HND := Lib.hid hnd
    have HRG := Lib.hid hrg
    have HWL := Lib.hid hwl
    have HF := Lib.hid hf
    have HZ := Lib.hid hz
    clear hown hm hmi hfk hwk hnd hrg hwl hf hz
    rcases List.eq_nil_or_concat wait with h0 | ⟨l, a, h0⟩
    · subst h0
      obtain ⟨A6, c6, hv6, -⟩ := SrAt.of_own (f := fI) (fun _ => rfl) HO.out
      have hv6' : u6 = .slice A6 0 c6 := hv6
      clear hv6
      subst hv6'
      go_wp2_with fail
      go_ret
      refine ⟨w.heap.size, es, clock, f, rfl, HMR.out, HMI.out, fun y => ?_, HF.out⟩
      have h1 := HFK.out y
      have h2 := Work.done HWK.out y
      by_cases hy : y ∈ met
      · rw [if_pos hy] at h1
        exact .inl ⟨h1, h2.1 hy⟩
      · rw [if_neg hy] at h1
        exact .inr ⟨h1, fun h => hy (h2.2 h)⟩
    · rw [List.concat_eq_append] at h0
      subst h0
      have hra := HRG.out a (.inl (by simp))
      obtain ⟨m, hm⟩ : ∃ m, m = l.length := ⟨_, rfl⟩
      have hll : (l ++ [a]).length = m + 1 := by rw [List.length_append, hm]; rfl
      have ho := HO.out
      rw [hll] at ho
      rcases ho.2 with ⟨-, h1⟩ | ⟨g, cap, cur, rfl, hb, hh, hcap, -, -, htk⟩
      · omega
      have hop : wr.ownsRow base 3 1 (.slice (some ⟨g, 0, none⟩) l.length cap) l.length (l.flatMap fI) := own_pop (fun _ => rfl) ho (by rw [hm])
      have hca : wr.cell? ⟨g, m, none⟩ = some (.int .i64 a) := by
        have h1 := ho.cells rfl m (.int .i64 a) (by rw [← fI_flat, hm]; simp)
        rw [add_at] at h1
        simpa using h1
      have HOP := Lib.hid hop
      have m0 : (0 : Int) ≤ (m : Int) := Int.natCast_nonneg _
      have HM := Lib.hid hm
      have hm9 : m ≤ 700000000 := by
        have h1 := HWL.out
        have h2 := nodup_len 64 met HND.out (fun x hx => by have := HRG.out x (.inr hx); omega)
        rw [hll] at h1
        omega
      have hw1 : IntKind.i64.wrap (((m + 1 : Nat) : Int) - 1) = (m : Int) := by rw [IntKind.wrap_i64]; omega
      have hw2 : IntKind.i64.wrap ((m : Int) + 1 - 1) = (m : Int) := by rw [IntKind.wrap_i64]; omega
      have hgt : (0 : Int) < ((m + 1 : Nat) : Int) := by omega
      have hgt2 : (0 : Int) < (m : Int) + 1 := by omega
      have hlt1 : (m : Int) < ((m + 1 : Nat) : Int) := by omega
      have hmc : m ≤ cap := by omega
      have HKEY := Lib.hid (key9 a hra.1 (by omega))
      have HRA := Lib.hid hra
      have hlook := HMI.out.look (t := 63) (e := 4) keyed9_int und9_met HMR.out HKEY.out (zero_bool9 wr) false
      clear ho hb hh hcap htk hop hm hra
      by_cases hy : a ∈ met
      · have hfa := HFK.out a
        rw [if_pos hy] at hfa
        rw [hfa] at hlook
        simp only [Option.getD_some, Bool.false_eq_true, if_false] at hlook
        have HWK2 := Lib.hid (Work.old HWK.out hy)
        clear hfa
        go_wp2_with fail
        go_roundg (workM S l met)
        case measure => unfold workM; rw [List.length_append]; simp
        case rel => exact ⟨l, met, es, clock, f, rfl, by rw [HM.out]; exact HOP.out, HMR.out, HMI.out, HFK.out, HWK2.out, HND.out, fun y h => HRG.out y (h.imp (fun h => List.mem_append_left _ h) id), by have h1 := HWL.out; rw [List.length_append] at h1; omega, HF.out, HZ.out⟩
      · have hfa := HFK.out a
        rw [if_neg hy] at hfa
        rw [hfa] at hlook
        simp only [Option.getD_none, Bool.false_eq_true, if_false] at hlook
        have HWK2 := Lib.hid (Work.new HWK.out)
        have HML : Hid (met.length + 1 ≤ 64) := Lib.hid (by
          have h1 := nodup_len 64 (met ++ [a]) (by rw [List.nodup_append]; exact ⟨HND.out, by simp, by intro x hx y h e; simp at h; subst h; exact hy (e ▸ hx)⟩) (fun x hx => by
            have h3 : 0 ≤ x ∧ x < (nb : Int) := by
              rcases List.mem_append.1 hx with hx | hx
              · exact HRG.out x (.inr hx)
              · simp at hx; subst hx; exact HRA.out
            omega)
          simpa using h1)
        have HNY : Hid (a ∉ met) := Lib.hid hy
        clear hy hfa
        go_wp2_with (refine wpList_mapUpdate_is rfl (.tmp 29) (.tmp 30) (.const (.bool true)) 63 rfl keyed9_int und9_met w.heap.size HMR.out HMI.out (by rfl) (.int .i64 a) (.bool true) (by rfl) (by rfl) HKEY.out ?_; intro es' clock' hM')
        have HM2 := Lib.hid hM'
        obtain ⟨W2, hW2⟩ : ∃ W2, W2 = setBlock wr w.heap.size (.map es' clock') := ⟨_, rfl⟩
        have HB2 : Hid (W2.heap[w.heap.size]? = some (.map es' clock')) := Lib.hid (by rw [hW2]; exact set_block HMR.out _)
        have HFS : Hid (Fr (fun k => k = w.heap.size) wr W2) := Lib.hid (by rw [hW2]; exact (Fr.refl (fun k => k = w.heap.size) wr).setBlock (.inl rfl) _)
        have HF2 : Hid (Fr F0 w W2) := Lib.hid (HF.out.trans HFS.out (fun k hk => .inr (by omega)))
        rw [← hW2]
        clear hW2 hM'
        refine (HSO.out _ HF2.out a HRA.out.1 HRA.out.2).mono ?_
        rintro e w3 ⟨v3, rfl, hown3, hf3⟩
        have HF3 := Lib.hid (HF2.out.then0 hf3)
        have HZ3 : Hid (base ≤ w3.heap.size) := Lib.hid (Nat.le_trans HZ.out (Nat.le_trans HFS.out.size hf3.size))
        have HOP3 : Hid (w3.ownsRow base 3 1 (.slice (some ⟨g, 0, none⟩) l.length cap) l.length (l.flatMap fI)) := Lib.hid (own_keep0 (own_keep HOP.out HFS.out (fun k hk e => by have h1 := own_base HOP.out k hk; have h2 := HBW.out; omega)) hf3)
        have HB3 := Lib.hid (hf3.keep0 HB2.out)
        have hst := HST.out a HRA.out.1 HRA.out.2
        have HLN : Hid ((l.length + (step a).length) * 8 ≤ 140737488355328) := Lib.hid (by
          have h1 := HM.out
          have h2 := hst.1
          omega)
        have HREL : Hid (∀ y : Int, (upd f (.int .i64 a) (.bool true)) (.int .i64 y) = if y ∈ met ++ [a] then some (.bool true) else none) := Lib.hid (fun y => by
          have h1 := HFK.out y
          by_cases hya : y = a
          · rw [hya, upd_same, if_pos (by simp)]
          · have h2 : Value.int .i64 y ≠ .int .i64 a := fun e => hya (by injection e)
            have h3 : (y ∈ met ++ [a]) ↔ y ∈ met := by simp [hya]
            rw [upd_other _ _ _ h2, h1]
            simp only [h3])
        rw [fI_flat] at hown3
        have HML2 : Hid ((met ++ [a]).length = met.length + 1) := Lib.hid (by simp)
        have HND2 : Hid ((met ++ [a]).Nodup) := Lib.hid (by rw [List.nodup_append]; exact ⟨HND.out, by simp, by intro x hx y h e; simp at h; subst h; exact HNY.out (e ▸ hx)⟩)
        have HRG2 : Hid (∀ y, y ∈ l ++ step a ∨ y ∈ met ++ [a] → 0 ≤ y ∧ y < (nb : Int)) := Lib.hid (fun y h => by
          rcases h with h | h <;> rcases List.mem_append.1 h with h | h
          · exact HRG.out y (.inl (List.mem_append_left _ h))
          · exact hst.2 y h
          · exact HRG.out y (.inr h)
          · simp at h; subst h; exact HRA.out)
        have HWL2 : Hid ((l ++ step a).length ≤ 10000000 + (met ++ [a]).length * 10000000) := Lib.hid (by
          have h1 := HWL.out
          have h2 := hst.1
          rw [List.length_append] at h1 ⊢
          rw [HML2.out]
          simp only [List.length_singleton] at h1
          omega)
        have HMEAS : Hid (workM S (l ++ step a) (met ++ [a]) < workM S (l ++ [a]) met) := Lib.hid (by
          have h1 := workM_new (S := S) (l := l) (met := met) (a := a) HML.out hst.1
          unfold workM
          rw [HML2.out, List.length_append, List.length_append]
          exact h1)
        have HMR3 := Lib.hid (hf3.keep0 HB2.out)
        have HBW2 := HBW.out
        rcases hown3.2 with ⟨rfl, h0⟩ | ⟨gE, capE, curE, rfl, -⟩
        · have hE0 : step a = [] := List.eq_nil_of_length_eq_zero h0
          have HE0 : Hid (l ++ step a = l) := Lib.hid (by rw [hE0, List.append_nil])
          have HAPN := Lib.hid (app_none_int w3 (.slice (some ⟨g, 0, none⟩) l.length cap) (.inr ⟨g, l.length, cap, by have := HM.out; omega, rfl⟩))
          clear hown3 hst hE0 h0 hf3
          go_wp2_with (at_builtin; refine Lib.wpList_append_run _ rfl (.tmp 31) (.tmp 34) _ _ rfl (.slice (some ⟨g, 0, none⟩) l.length cap) (.slice none 0 0) (by first | rfl | (rw [← HM.out]; rfl)) (by rfl) _ _ (HAPN.out _) ?_)
          go_roundg (workM S (l ++ step a) (met ++ [a]))
          case measure => exact HMEAS.out
          case rel => exact ⟨l ++ step a, met ++ [a], es', clock', upd f (.int .i64 a) (.bool true), rfl, by rw [HE0.out]; exact HOP3.out, HMR3.out, HM2.out, HREL.out, HWK2.out, HND2.out, HRG2.out, HWL2.out, HF3.out, HZ3.out⟩
        · obtain ⟨A', c', e', hsr', -⟩ := SrAt.of_own (f := fI) (fun _ => rfl) hown3
          cases e'
          have HSR := Lib.hid hsr'
          obtain ⟨mE, hmE⟩ : ∃ mE, mE = (step a).length := ⟨_, rfl⟩
          have HME := Lib.hid hmE
          clear hown3 hst hsr' hf3
          rw [← hmE]
          clear hmE
          go_wp2_with (at_builtin; refine wpList_append_rowS (f := fI) rfl (.tmp 31) (.tmp 34) 37 8 (.int .i64 0) rfl Tryz.underlying37 info_int9 (by rfl) (by decide) (by decide) (fun _ => rfl) (by intro x u hu; simp [fI] at hu; subst hu; rfl) base (.slice (some ⟨g, 0, none⟩) l.length cap) l (step a) gE 0 capE (by first | rfl | (rw [← HM.out]; rfl)) (by first | rfl | (rw [← HME.out]; rfl)) HOP3.out HSR.out HZ3.out HLN.out ?_; intro v5 w5 hown5 hf5 _)
          go_roundg (workM S (l ++ step a) (met ++ [a]))
          case measure => exact HMEAS.out
          case rel => exact ⟨l ++ step a, met ++ [a], es', clock', upd f (.int .i64 a) (.bool true), rfl, hown5, hf5.keep HMR3.out (fun h => by have h1 := own_base HOP3.out _ h; omega), HM2.out, HREL.out, HWK2.out, HND2.out, HRG2.out, HWL2.out, HF3.out.trans hf5 (fun k hk => .inr (by have h1 := own_base HOP3.out k hk; omega)), Nat.le_trans HZ3.out hf5.size⟩
end
end Go.Proofs.YtgbaijfgmeealaaGreat
