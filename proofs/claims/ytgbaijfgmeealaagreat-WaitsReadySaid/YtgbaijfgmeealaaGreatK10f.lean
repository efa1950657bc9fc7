/-
  heronry/locks: slices.DeleteFunc at the closures of Of and Free; slices.Clone of locks. Conditions: none.
-/
import Derived.Test.YtgbaijfgmeealaaGreatK10e
set_option linter.unusedVariables false
set_option linter.unusedSimpArgs false
namespace Go.Proofs.YtgbaijfgmeealaaGreat
open Go.RowKit
/-- clear(s[i:]) of an own row of elements of several cells. -/
theorem wpList_clear_own {α : Type} {f : α → List Value} {P : Program} {ops : Array Oper} {rest : List Oper} {o : Oper} {a : Act} {Q : Exit → Act → World → Prop} {w : World} (hgd : o.guard = none) (d : Operand) (ts : TypeId)
    (ho : o.op = .call { callee := .builtin .clear, args := #[d], argTypes := #[ts] }) {base g n cap m : Nat} {t : TypeId} {L : List α} (hm : ∀ x, (f x).length = m) (h : w.ownsRow base t m (.slice (some ⟨g, 0, none⟩) n cap) n (L.flatMap f)) (hn : L.length = n) {i : Nat} (hi : i < n) (c : Nat)
    (hd : a.eval d = .slice (some ⟨g, i * m, none⟩) (n - i) c)
    (ht : P.underlying ts = some (.slice t)) {z : Value} (hv : ∀ w, (zeroValue t).run P w = .ok z w) (hz : z.cells.size = m) (h1 : ∀ u ∈ z.cells, u.oneCell' = true) (hm0 : 0 < m)
    (hK : ∀ w', w'.ownsRow base t m (.slice (some ⟨g, 0, none⟩) i cap) i ((L.take i).flatMap f) → Fr (fun k => k = g) w w' → wpList P ops Q rest (a.put o.dst (.tuple #[])) w') : wpList P ops Q (o :: rest) a w := by
  obtain ⟨w', hr, h2, h3⟩ := own_clear hm h hn hi c o.type ht hv hz h1 hm0
  refine wpList_plain hgd fun K hK' => ?_
  unfold Oper.wp execOp
  simp only [ho, resolve, invoke, builtin, Sem.run_bind, Sem.run_pure, Result.andThen_ok, List.map_toArray, List.map_cons, List.map_nil, hd, hr]
  exact hK' _ _ (hK w' h2 h3)
section
variable {w : World} {v : Value} {L : List Lk}
theorem filter_take {α : Type} (p : α → Bool) {L : List α} {j : Nat} {x : α} (h : L[j]? = some x) : (L.take (j + 1)).filter p = (L.take j).filter p ++ (if p x then [x] else []) := by
  rw [List.take_add_one, h, List.filter_append]
  cases hp : p x <;> simp [hp]
theorem set_take {α : Type} {R : List α} {i : Nat} (hi : i < R.length) (x : α) : (R.set i x).take (i + 1) = R.take i ++ [x] := by
  rw [List.take_add_one, List.getElem?_set_self hi, List.take_set_of_le (Nat.le_refl i)]
  rfl
theorem idx_filter {α : Type} (p : α → Bool) {L : List α} {i : Nat} (h : L.findIdx? p = some i) : i < L.length ∧ (L.take (i + 1)).filter (fun x => !p x) = L.take i := by
  rw [List.findIdx?_eq_some_iff_getElem] at h
  obtain ⟨hi, hp, hno⟩ := h
  refine ⟨hi, ?_⟩
  rw [filter_take _ (List.getElem?_eq_getElem hi), hp]
  simp only [Bool.not_true, Bool.false_eq_true, if_false, List.append_nil]
  rw [List.filter_eq_self]
  intro a ha
  obtain ⟨k, hk, rfl⟩ := List.mem_take_iff_getElem.1 ha
  simpa using hno k (by omega)
theorem idx_none_filter {α : Type} (p : α → Bool) {L : List α} (h : L.findIdx? p = none) : L.filter (fun x => !p x) = L := by
  rw [List.findIdx?_eq_none_iff] at h
  rw [List.filter_eq_self]
  intro a ha
  simp [h a ha]
set_option maxRecDepth 100000 in
theorem clone_lk (h : SlV 4 Lk.cells w v L) (hn : L.length ≤ 1000000) : Calls Tryz.prog 51 #[v] w fun e w' => ∃ v', e = .returned v' ∧ w'.ownsRow w.heap.size 78 4 v' L.length (L.flatMap Lk.cells) ∧ Fr F0 w w' := by
  obtain ⟨A, c, rfl, hs, hnil, hsp⟩ := h.ex
  cases A with
  | none =>
    obtain ⟨rfl, rfl⟩ := hnil rfl
    have hq := Lib.run_eql_slice_nil_nil (P := Tryz.prog) w 0 0 Tryz.underlying32
    go_enter Tryz.func51, Tryz.ntmps51
    go_wp2_with fail
    go_ret
    exact ⟨_, rfl, own_nil _ _ _ _, Fr.refl _ _⟩
  | some ad =>
    obtain ⟨b, off, sp⟩ := ad
    have hsp' : sp = none := hsp _ rfl
    subst hsp'
    have HS := Lib.hid (hs.keep0 ((Fr.refl F0 w).alloc (.cells #[] 78)))
    have hq := Lib.run_eql_slice_some_nil (P := Tryz.prog) w ⟨b, off, none⟩ L.length c Tryz.underlying32
    clear hs hnil hsp
    go_enter Tryz.func51, Tryz.ntmps51
    go_wp2_with (at_builtin; refine wpList_append_rowS (f := Lk.cells) rfl (.tmp 5) (.tmp 6) 32 32 (.agg #[.int .i64 0, .int .i64 0, .int .i64 0, .int .i64 0]) rfl Tryz.underlying32 info_lock (by rfl) (by decide) (by decide) Lk.len Lk.one w.heap.size (.slice (some ⟨w.heap.size, 0, none⟩) 0 0) [] L b off c (by rfl) (by rfl) (own_empty w w.heap.size 78 4 (Nat.le_refl _)) HS.out (by simp) (by simp; omega) ?_; intro v1 w1 hown hf1 _)
    go_ret
    exact ⟨_, rfl, hown, ((Fr.refl F0 w).alloc _).trans hf1 (fun k hk => .inr (by cases hk; exact Nat.le_refl _))⟩
set_option maxRecDepth 100000 in
set_option maxHeartbeats 2000000 in
theorem delf_of (tst : Lk → Bool) (cb : Nat) {base : Nat} (h : w.ownsRow base 78 4 v L.length (L.flatMap Lk.cells)) (hn : L.length ≤ 1000000) (hso : ∀ W, Fr (fun k => v.ownBlock = some k) w W → ∀ x, Calls Tryz.prog 96 #[lkV x, .pointer (some ⟨cb, 0, none⟩)] W fun e w' => e = .returned (.bool (tst x)) ∧ Fr F0 W w') :
    Calls Tryz.prog 50 #[v, .func (.func 96) #[] #[.pointer (some ⟨cb, 0, none⟩)]] w fun e w' => ∃ v', e = .returned v' ∧ w'.ownsRow base 78 4 v' (L.filter fun x => !tst x).length ((L.filter fun x => !tst x).flatMap Lk.cells) ∧ Fr (fun k => v.ownBlock = some k) w w' := by
  have HW := Lib.hid h
  have HSV := Lib.hid (SlV.of_own Lk.len h)
  have HSO := Lib.hid hso
  obtain ⟨n, hnn⟩ : ∃ n, n = L.length := ⟨_, rfl⟩
  have HN := Lib.hid hnn
  obtain ⟨d, hu, hd⟩ := und_lock
  have HU := Lib.hid hu
  have HDD := Lib.hid hd
  clear hso hu hd
  cases hix : L.findIdx? tst with
  | none =>
    have HIX := Lib.hid hix
    clear h hnn hix
    go_enter Tryz.func50, Tryz.ntmps50
    go_wp2_with fail
    refine (idxf_of tst cb HSV.out (by assumption) (fun W hW x => HSO.out W hW.of0 x)).mono ?_
    rintro e w1 ⟨rfl, hf1⟩
    rw [HIX.out]
    simp only [idxI]
    go_wp2_with fail
    go_ret
    refine ⟨_, rfl, ?_, hf1.of0⟩
    rw [idx_none_filter tst HIX.out]
    exact own_keep0 HW.out hf1
  | some i0 =>
    obtain ⟨hi0, hfi0⟩ := idx_filter tst hix
    have HFI := Lib.hid hfi0
    have HIX := Lib.hid hix
    rcases h.2 with ⟨rfl, h0⟩ | ⟨g, cap, cur0, rfl, hb, hh, hcap1, hcap2, -, -⟩
    · exfalso; omega
    have hi0n : i0 < n := by omega
    have hn' : n ≤ 1000000 := by omega
    rw [← hnn] at hcap1
    have HCAP : Hid (n ≤ cap) := Lib.hid hcap1
    have HCAP2 : Hid (cap ≤ maxLen) := Lib.hid hcap2
    rw [← hnn] at h hi0
    clear h hnn hix hfi0 hh cur0 hb hcap1 hcap2 hi0
    rw [← HN.out]
    have q0 : (0 : Int) ≤ (i0 : Int) := Int.natCast_nonneg _
    have q1 : ((i0 : Int) == -1) = false := by simp
    have q2 : IntKind.i64.wrap ((i0 : Int) + 1) = ((i0 + 1 : Nat) : Int) := by rw [IntKind.wrap_i64]; omega
    go_enter Tryz.func50, Tryz.ntmps50
    go_wp2_with fail
    refine (idxf_of tst cb (by rw [HN.out]; exact HSV.out) (by rw [← HN.out]; exact hn') (fun W hW x => HSO.out W hW.of0 x)).mono ?_
    rintro e w1 ⟨rfl, hf1⟩
    rw [HIX.out]
    simp only [idxI]
    go_wp2_with fail
    go_loopg [5, 6, 7] (n - (i0 + 1)) (fun kq x5 x6 x7 wr => ∃ (i j : Nat) (R : List Lk), i < j ∧ j ≤ n ∧ kq = n - j ∧ x5 = .int .i64 (i : Int) ∧ x6 = .int .i64 (j : Int) ∧ R.length = n ∧ R.take i = (L.take j).filter (fun x => !tst x) ∧ (∀ p, j ≤ p → R[p]? = L[p]?) ∧ wr.ownsRow base 78 4 (.slice (some ⟨g, 0, none⟩) n cap) n (R.flatMap Lk.cells) ∧ Fr (fun k => k = g) w wr)
    case atStart => exact ⟨i0, i0 + 1, L, by omega, by omega, rfl, rfl, rfl, HN.out.symm, HFI.out.symm, fun _ _ => rfl, by have := HW.out; rw [← HN.out] at this; exact own_keep0 this hf1, hf1.of0⟩
    case round =>
      obtain ⟨i, j, R, hij, hjn, rfl, rfl, rfl, hR, hRi, hRj, hown, hf⟩ := hrel
      have HR := Lib.hid hR
      have HRI := Lib.hid hRi
      have HRJ := Lib.hid hRj
      have HO := Lib.hid hown
      have HF := Lib.hid hf
      clear hR hRi hRj hown hf
      have j0 : (0 : Int) ≤ (j : Int) := Int.natCast_nonneg _
      have i00 : (0 : Int) ≤ (i : Int) := Int.natCast_nonneg _
      by_cases hlt : j < n
      · have j1 : (j : Int) < (n : Int) := by omega
        have i1 : (i : Int) < (n : Int) := by omega
        have i2 : IntKind.i64.wrap ((i : Int) + 1) = ((i + 1 : Nat) : Int) := by rw [IntKind.wrap_i64]; omega
        have j2 : IntKind.i64.wrap ((j : Int) + 1) = ((j + 1 : Nat) : Int) := by rw [IntKind.wrap_i64]; omega
        have hjl : j < R.length := by have := HR.out; omega
        obtain ⟨A', c', e', hsr, -⟩ := SrAt.of_own Lk.len (by rw [HR.out]; exact HO.out)
        rw [HR.out] at e'
        cases e'
        obtain ⟨b, off, hA, hc⟩ := hsr.get (List.getElem?_eq_getElem hjl) (Lk.pos _)
        cases hA
        clear hsr
        have HY := Lib.hid (List.getElem?_eq_getElem hjl)
        obtain ⟨x, hx⟩ : ∃ x, x = R[j] := ⟨_, rfl⟩
        rw [← hx] at hc HY
        clear hx
        have HCS : Hid (∀ i v, x.cells[i]? = some v → wr.cell? ⟨g, j * 4 + i, none⟩ = some v) := Lib.hid (by simpa using hc)
        clear hc
        have HFX : Hid (Fr (fun k => k = g) w (wr.alloc (.cells x.cells.toArray 78))) := Lib.hid (HF.out.alloc _)
        have HOX : Hid ((wr.alloc (.cells x.cells.toArray 78)).ownsRow base 78 4 (.slice (some ⟨g, 0, none⟩) n cap) n (R.flatMap Lk.cells)) := Lib.hid (own_keep0 HO.out ((Fr.refl _ _).alloc _))
        have HXB : Hid ((wr.alloc (.cells x.cells.toArray 78)).heap[wr.heap.size]? = some (.cells x.cells.toArray 78 (0, 0))) := Lib.hid (alloc_at rfl _)
        obtain ⟨x1, x2, x3, x4⟩ := x
        go_wp2_with (first | (refine wpList_load_at rfl 78 (.tmp 24) rfl g (j * 4) (by rfl) (Lk.cells ⟨x1, x2, x3, x4⟩) d HCS.out HU.out HDD.out size_lock ?_) | (refine wpList_store_fresh rfl 78 (.tmp 7) (.tmp 25) rfl (Lk.cells ⟨x1, x2, x3, x4⟩).toArray (by rfl) (by rfl) 78 #[.int .i64 0, .int .i64 0, .int .i64 0, .int .i64 0] size_lock rfl (by simp [Lk.cells, Value.oneCell']) ?_; simp only [Lk.cells, List.toArray]))
        obtain ⟨xb, hxb⟩ : ∃ xb, xb = wr.heap.size := ⟨_, rfl⟩
        rw [← hxb] at HXB ⊢
        clear hxb
        refine (HSO.out _ (HFX.out.mono fun k hk => by rw [hk]; rfl) ⟨x1, x2, x3, x4⟩).mono ?_
        rintro e w3 ⟨rfl, hf3⟩
        have HF3 := Lib.hid (HFX.out.then0 hf3)
        have HO3 := Lib.hid (own_keep0 HOX.out hf3)
        have HX3 : Hid (∀ i v, (Lk.cells ⟨x1, x2, x3, x4⟩)[i]? = some v → w3.cell? ⟨xb, 0 + i, none⟩ = some v) := Lib.hid (fun i v hv => by rw [cell_of (hf3.keep0 HXB.out)]; simpa using hv)
        have hLj : L[j]? = some ⟨x1, x2, x3, x4⟩ := by rw [← HRJ.out j (Nat.le_refl j)]; exact HY.out
        have HFT := Lib.hid (filter_take (fun x => !tst x) hLj)
        clear hf3 hLj
        obtain ⟨tt, htt⟩ : ∃ tt, tt = tst ⟨x1, x2, x3, x4⟩ := ⟨_, rfl⟩
        have HTT := Lib.hid htt
        rw [← htt]
        clear htt
        cases tt with
        | true =>
          go_wp2_with fail
          go_roundg (n - (j + 1))
          case measure => omega
          case rel =>
            refine ⟨i, j + 1, R, by omega, by omega, rfl, rfl, by first | rfl | (go_num), HR.out, ?_, fun p hp => HRJ.out p (by omega), HO3.out, HF3.out⟩
            rw [HFT.out, ← HTT.out, HRI.out]
            simp
        | false =>
          obtain ⟨cur, hcur, hfit, hown4⟩ := own_set Lk.len HO3.out HR.out (by omega : i < n) ⟨x1, x2, x3, x4⟩
          have HC4 := Lib.hid hcur
          have HFIT := Lib.hid hfit
          have HO4 := Lib.hid hown4
          have HF4 : Hid (Fr (fun k => k = g) w (w3.setRow g (splat cur (i * 4) (Lk.cells ⟨x1, x2, x3, x4⟩)).toArray)) := Lib.hid (HF3.out.setRow (.inl rfl) _)
          clear hcur hfit hown4
          go_wp2_with (first | (refine wpList_load_at rfl 78 (.tmp 7) rfl xb 0 (by rfl) (Lk.cells ⟨x1, x2, x3, x4⟩) d HX3.out HU.out HDD.out size_lock ?_) | (refine wpList_store_at rfl 78 (.tmp 33) (.tmp 32) rfl g (i * 4) (Lk.cells ⟨x1, x2, x3, x4⟩) (by rfl) (by rfl) 78 cur HC4.out size_lock HFIT.out (Lk.one _) ?_))
          go_roundg (n - (j + 1))
          case measure => omega
          case rel =>
            refine ⟨i + 1, j + 1, R.set i ⟨x1, x2, x3, x4⟩, by omega, by omega, rfl, by first | rfl | (go_num), by first | rfl | (go_num), by rw [List.length_set]; exact HR.out, ?_, fun p hp => ?_, HO4.out, HF4.out⟩
            · rw [HFT.out, ← HTT.out, set_take (by rw [HR.out]; omega), HRI.out]
              simp
            · rw [List.getElem?_set_ne (by omega)]
              exact HRJ.out p (by omega)
      · have hjn' : j = n := by omega
        subst hjn'
        have HRL : Hid (R.take i = L.filter fun x => !tst x) := Lib.hid (by rw [HRI.out, List.take_of_length_le (by rw [← HN.out]; exact Nat.le_refl _)])
        have hic : i < cap := Nat.lt_of_lt_of_le hij HCAP.out
        have hic1 : ¬ cap - i = 0 := by omega
        have hic2 : ¬ cap ≤ i := by omega
        go_wp2_with (refine wpList_clear_own (f := Lk.cells) rfl (.tmp 38) 32 rfl Lk.len HO.out HR.out (i := i) hij _ (by rfl) Tryz.underlying32 Tryz.zeroValue78 (by rfl) (by simp [Value.cells, Value.oneCell']) (by decide) ?_; intro w4 hown4 hf4)
        go_ret
        have hl : (R.take i).length = i := by rw [List.length_take, HR.out]; omega
        refine ⟨_, rfl, ?_, (HF.out.trans hf4 (fun k hk => .inl hk)).mono (fun k hk => by subst hk; rfl)⟩
        rw [← HRL.out, hl]
        exact hown4
set_option maxRecDepth 100000 in
set_option maxHeartbeats 2000000 in
theorem delf_free (tst : Lk → Bool) (cb : Nat) {base : Nat} (h : w.ownsRow base 78 4 v L.length (L.flatMap Lk.cells)) (hn : L.length ≤ 1000000) (hso : ∀ W, Fr (fun k => v.ownBlock = some k) w W → ∀ x, Calls Tryz.prog 52 #[lkV x, .pointer (some ⟨cb, 0, none⟩)] W fun e w' => e = .returned (.bool (tst x)) ∧ Fr F0 W w') :
    Calls Tryz.prog 50 #[v, .func (.func 52) #[] #[.pointer (some ⟨cb, 0, none⟩)]] w fun e w' => ∃ v', e = .returned v' ∧ w'.ownsRow base 78 4 v' (L.filter fun x => !tst x).length ((L.filter fun x => !tst x).flatMap Lk.cells) ∧ Fr (fun k => v.ownBlock = some k) w w' := by
  have HW := Lib.hid h
  have HSV := Lib.hid (SlV.of_own Lk.len h)
  have HSO := Lib.hid hso
  obtain ⟨n, hnn⟩ : ∃ n, n = L.length := ⟨_, rfl⟩
  have HN := Lib.hid hnn
  obtain ⟨d, hu, hd⟩ := und_lock
  have HU := Lib.hid hu
  have HDD := Lib.hid hd
  clear hso hu hd
  cases hix : L.findIdx? tst with
  | none =>
    have HIX := Lib.hid hix
    clear h hnn hix
    go_enter Tryz.func50, Tryz.ntmps50
    go_wp2_with fail
    refine (idxf_free tst cb HSV.out (by assumption) (fun W hW x => HSO.out W hW.of0 x)).mono ?_
    rintro e w1 ⟨rfl, hf1⟩
    rw [HIX.out]
    simp only [idxI]
    go_wp2_with fail
    go_ret
    refine ⟨_, rfl, ?_, hf1.of0⟩
    rw [idx_none_filter tst HIX.out]
    exact own_keep0 HW.out hf1
  | some i0 =>
    obtain ⟨hi0, hfi0⟩ := idx_filter tst hix
    have HFI := Lib.hid hfi0
    have HIX := Lib.hid hix
    rcases h.2 with ⟨rfl, h0⟩ | ⟨g, cap, cur0, rfl, hb, hh, hcap1, hcap2, -, -⟩
    · exfalso; omega
    have hi0n : i0 < n := by omega
    have hn' : n ≤ 1000000 := by omega
    rw [← hnn] at hcap1
    have HCAP : Hid (n ≤ cap) := Lib.hid hcap1
    have HCAP2 : Hid (cap ≤ maxLen) := Lib.hid hcap2
    rw [← hnn] at h hi0
    clear h hnn hix hfi0 hh cur0 hb hcap1 hcap2 hi0
    rw [← HN.out]
    have q0 : (0 : Int) ≤ (i0 : Int) := Int.natCast_nonneg _
    have q1 : ((i0 : Int) == -1) = false := by simp
    have q2 : IntKind.i64.wrap ((i0 : Int) + 1) = ((i0 + 1 : Nat) : Int) := by rw [IntKind.wrap_i64]; omega
    go_enter Tryz.func50, Tryz.ntmps50
    go_wp2_with fail
    refine (idxf_free tst cb (by rw [HN.out]; exact HSV.out) (by rw [← HN.out]; exact hn') (fun W hW x => HSO.out W hW.of0 x)).mono ?_
    rintro e w1 ⟨rfl, hf1⟩
    rw [HIX.out]
    simp only [idxI]
    go_wp2_with fail
    go_loopg [5, 6, 7] (n - (i0 + 1)) (fun kq x5 x6 x7 wr => ∃ (i j : Nat) (R : List Lk), i < j ∧ j ≤ n ∧ kq = n - j ∧ x5 = .int .i64 (i : Int) ∧ x6 = .int .i64 (j : Int) ∧ R.length = n ∧ R.take i = (L.take j).filter (fun x => !tst x) ∧ (∀ p, j ≤ p → R[p]? = L[p]?) ∧ wr.ownsRow base 78 4 (.slice (some ⟨g, 0, none⟩) n cap) n (R.flatMap Lk.cells) ∧ Fr (fun k => k = g) w wr)
    case atStart => exact ⟨i0, i0 + 1, L, by omega, by omega, rfl, rfl, rfl, HN.out.symm, HFI.out.symm, fun _ _ => rfl, by have := HW.out; rw [← HN.out] at this; exact own_keep0 this hf1, hf1.of0⟩
    case round =>
      obtain ⟨i, j, R, hij, hjn, rfl, rfl, rfl, hR, hRi, hRj, hown, hf⟩ := hrel
      have HR := Lib.hid hR
      have HRI := Lib.hid hRi
      have HRJ := Lib.hid hRj
      have HO := Lib.hid hown
      have HF := Lib.hid hf
      clear hR hRi hRj hown hf
      have j0 : (0 : Int) ≤ (j : Int) := Int.natCast_nonneg _
      have i00 : (0 : Int) ≤ (i : Int) := Int.natCast_nonneg _
      by_cases hlt : j < n
      · have j1 : (j : Int) < (n : Int) := by omega
        have i1 : (i : Int) < (n : Int) := by omega
        have i2 : IntKind.i64.wrap ((i : Int) + 1) = ((i + 1 : Nat) : Int) := by rw [IntKind.wrap_i64]; omega
        have j2 : IntKind.i64.wrap ((j : Int) + 1) = ((j + 1 : Nat) : Int) := by rw [IntKind.wrap_i64]; omega
        have hjl : j < R.length := by have := HR.out; omega
        obtain ⟨A', c', e', hsr, -⟩ := SrAt.of_own Lk.len (by rw [HR.out]; exact HO.out)
        rw [HR.out] at e'
        cases e'
        obtain ⟨b, off, hA, hc⟩ := hsr.get (List.getElem?_eq_getElem hjl) (Lk.pos _)
        cases hA
        clear hsr
        have HY := Lib.hid (List.getElem?_eq_getElem hjl)
        obtain ⟨x, hx⟩ : ∃ x, x = R[j] := ⟨_, rfl⟩
        rw [← hx] at hc HY
        clear hx
        have HCS : Hid (∀ i v, x.cells[i]? = some v → wr.cell? ⟨g, j * 4 + i, none⟩ = some v) := Lib.hid (by simpa using hc)
        clear hc
        have HFX : Hid (Fr (fun k => k = g) w (wr.alloc (.cells x.cells.toArray 78))) := Lib.hid (HF.out.alloc _)
        have HOX : Hid ((wr.alloc (.cells x.cells.toArray 78)).ownsRow base 78 4 (.slice (some ⟨g, 0, none⟩) n cap) n (R.flatMap Lk.cells)) := Lib.hid (own_keep0 HO.out ((Fr.refl _ _).alloc _))
        have HXB : Hid ((wr.alloc (.cells x.cells.toArray 78)).heap[wr.heap.size]? = some (.cells x.cells.toArray 78 (0, 0))) := Lib.hid (alloc_at rfl _)
        obtain ⟨x1, x2, x3, x4⟩ := x
        go_wp2_with (first | (refine wpList_load_at rfl 78 (.tmp 24) rfl g (j * 4) (by rfl) (Lk.cells ⟨x1, x2, x3, x4⟩) d HCS.out HU.out HDD.out size_lock ?_) | (refine wpList_store_fresh rfl 78 (.tmp 7) (.tmp 25) rfl (Lk.cells ⟨x1, x2, x3, x4⟩).toArray (by rfl) (by rfl) 78 #[.int .i64 0, .int .i64 0, .int .i64 0, .int .i64 0] size_lock rfl (by simp [Lk.cells, Value.oneCell']) ?_; simp only [Lk.cells, List.toArray]))
        obtain ⟨xb, hxb⟩ : ∃ xb, xb = wr.heap.size := ⟨_, rfl⟩
        rw [← hxb] at HXB ⊢
        clear hxb
        refine (HSO.out _ (HFX.out.mono fun k hk => by rw [hk]; rfl) ⟨x1, x2, x3, x4⟩).mono ?_
        rintro e w3 ⟨rfl, hf3⟩
        have HF3 := Lib.hid (HFX.out.then0 hf3)
        have HO3 := Lib.hid (own_keep0 HOX.out hf3)
        have HX3 : Hid (∀ i v, (Lk.cells ⟨x1, x2, x3, x4⟩)[i]? = some v → w3.cell? ⟨xb, 0 + i, none⟩ = some v) := Lib.hid (fun i v hv => by rw [cell_of (hf3.keep0 HXB.out)]; simpa using hv)
        have hLj : L[j]? = some ⟨x1, x2, x3, x4⟩ := by rw [← HRJ.out j (Nat.le_refl j)]; exact HY.out
        have HFT := Lib.hid (filter_take (fun x => !tst x) hLj)
        clear hf3 hLj
        obtain ⟨tt, htt⟩ : ∃ tt, tt = tst ⟨x1, x2, x3, x4⟩ := ⟨_, rfl⟩
        have HTT := Lib.hid htt
        rw [← htt]
        clear htt
        cases tt with
        | true =>
          go_wp2_with fail
          go_roundg (n - (j + 1))
          case measure => omega
          case rel =>
            refine ⟨i, j + 1, R, by omega, by omega, rfl, rfl, by first | rfl | (go_num), HR.out, ?_, fun p hp => HRJ.out p (by omega), HO3.out, HF3.out⟩
            rw [HFT.out, ← HTT.out, HRI.out]
            simp
        | false =>
          obtain ⟨cur, hcur, hfit, hown4⟩ := own_set Lk.len HO3.out HR.out (by omega : i < n) ⟨x1, x2, x3, x4⟩
          have HC4 := Lib.hid hcur
          have HFIT := Lib.hid hfit
          have HO4 := Lib.hid hown4
          have HF4 : Hid (Fr (fun k => k = g) w (w3.setRow g (splat cur (i * 4) (Lk.cells ⟨x1, x2, x3, x4⟩)).toArray)) := Lib.hid (HF3.out.setRow (.inl rfl) _)
          clear hcur hfit hown4
          go_wp2_with (first | (refine wpList_load_at rfl 78 (.tmp 7) rfl xb 0 (by rfl) (Lk.cells ⟨x1, x2, x3, x4⟩) d HX3.out HU.out HDD.out size_lock ?_) | (refine wpList_store_at rfl 78 (.tmp 33) (.tmp 32) rfl g (i * 4) (Lk.cells ⟨x1, x2, x3, x4⟩) (by rfl) (by rfl) 78 cur HC4.out size_lock HFIT.out (Lk.one _) ?_))
          go_roundg (n - (j + 1))
          case measure => omega
          case rel =>
            refine ⟨i + 1, j + 1, R.set i ⟨x1, x2, x3, x4⟩, by omega, by omega, rfl, by first | rfl | (go_num), by first | rfl | (go_num), by rw [List.length_set]; exact HR.out, ?_, fun p hp => ?_, HO4.out, HF4.out⟩
            · rw [HFT.out, ← HTT.out, set_take (by rw [HR.out]; omega), HRI.out]
              simp
            · rw [List.getElem?_set_ne (by omega)]
              exact HRJ.out p (by omega)
      · have hjn' : j = n := by omega
        subst hjn'
        have HRL : Hid (R.take i = L.filter fun x => !tst x) := Lib.hid (by rw [HRI.out, List.take_of_length_le (by rw [← HN.out]; exact Nat.le_refl _)])
        have hic : i < cap := Nat.lt_of_lt_of_le hij HCAP.out
        have hic1 : ¬ cap - i = 0 := by omega
        have hic2 : ¬ cap ≤ i := by omega
        go_wp2_with (refine wpList_clear_own (f := Lk.cells) rfl (.tmp 38) 32 rfl Lk.len HO.out HR.out (i := i) hij _ (by rfl) Tryz.underlying32 Tryz.zeroValue78 (by rfl) (by simp [Value.cells, Value.oneCell']) (by decide) ?_; intro w4 hown4 hf4)
        go_ret
        have hl : (R.take i).length = i := by rw [List.length_take, HR.out]; omega
        refine ⟨_, rfl, ?_, (HF.out.trans hf4 (fun k hk => .inl hk)).mono (fun k hk => by subst hk; rfl)⟩
        rw [← HRL.out, hl]
        exact hown4
end
end Go.Proofs.YtgbaijfgmeealaaGreat
