/-
  A pool's hold. Conditions: none.
-/
import Derived.Test.YtjfdfjenodianaaK17d
set_option linter.unusedVariables false
set_option linter.unusedSimpArgs false
namespace Go.Proofs.Ytjfdfjenodianaa
open Go.RowKit
/-- A struct stored; the world behind is named by what it holds. -/
theorem wpList_store_to {P : Program} {ops : Array Oper} {rest : List Oper} {o : Oper} {a : Act} {w : World} {Q : Exit → Act → World → Prop} (hgd : o.guard = none) (ty : TypeId) (x y : Operand) (ho : o.op = .store ty x y)
    (g off : Nat) (cs : List Value) (hx : a.eval x = .pointer (some ⟨g, off, none⟩)) (hy : a.eval y = .agg cs.toArray)
    (t : TypeId) (cur : List Value) (hg : w.heap[g]? = some (.cells cur.toArray t (0, 0))) (hi : (P.info? ty).map (·.size) = some cs.length)
    (hfit : off + cs.length ≤ cur.length) (h1 : ∀ v ∈ cs, v.oneCell' = true)
    (h : ∀ w', w'.heap[g]? = some (.cells (splat cur off cs).toArray t (0, 0)) → Fr (fun k => k = g) w w' → wpList P ops Q rest (a.put o.dst undef) w') : wpList P ops Q (o :: rest) a w :=
  wpList_store_at hgd ty x y ho g off cs hx hy t cur hg hi hfit h1 (h _ (setRow_heap _ g _ _ _ _ hg) ((Fr.refl _ _).setRow (by exact .inl rfl) _))
theorem wpList_append_one2 {P : Program} {ops : Array Oper} {rest : List Oper} {o : Oper} {a : Act} {Q : Exit → Act → World → Prop} {W : World} (hgd : o.guard = none) (s x : Operand) (t e : TypeId) (bytes : Nat) (z : Value)
    (ho : o.op = .call { callee := .builtin .append, args := #[s, x], argTypes := #[t, t] })
    (ht : P.underlying t = some (.slice e)) (hinfo : (P.info? e).map (fun i => (i.zero, i.size, i.bytes)) = some (some z, 1, bytes)) (hz : z.cells.size = 1) (hb0 : 0 < bytes)
    (base : Nat) (v : Value) (xs : List Value) (y : Value) (hs : a.eval s = v) (hx : a.eval x = .slice (some ⟨W.heap.size, 0, none⟩) 1 1) (h1 : y.oneCell' = true)
    (HO : W.ownsRow base e 1 v xs.length xs) (hbase : base ≤ W.heap.size) (hl : (xs.length + 1) * bytes ≤ 140737488355328)
    (h : ∀ v1 w1, w1.ownsRow base e 1 v1 (xs.length + 1) (xs ++ [y]) → Fr (fun k => v.ownBlock = some k) W w1 → (v1.ownBlock = v.ownBlock ∨ v1.ownBlock = some (W.heap.size + 1)) → wpList P ops Q rest (a.put o.dst v1) w1) :
    wpList P ops Q (o :: rest) a (W.alloc (.cells #[y] e)) := by
  obtain ⟨i0, hi, hzz⟩ := Option.map_eq_some_iff.1 hinfo
  simp only [Prod.mk.injEq] at hzz
  obtain ⟨hz0, hz1, hz2⟩ := hzz
  have hlen : xs.length + 1 ≤ 140737488355328 := Nat.le_trans (Nat.le_mul_of_pos_right _ hb0) hl
  refine wpList_append_own_at (W.alloc (.cells #[y] e)) hgd s x t ho base e i0 z 1 bytes ht hi hz0 hz1 hz2 hz (by omega) v xs.length xs hs (HO.alloc _) ⟨W.heap.size, 0, none⟩ 1 1 [y] hx rfl
    (World.news_of_block (cs := #[y]) (t := e) (fr := (0, 0)) (heap_alloc_new W _)) (by simpa using h1) (by simp only [maxLen]; omega) hl (by simp; omega) ?_
  intro v1 w1 hown hg _ hat
  exact h v1 w1 (by simpa using hown) (((Fr.refl _ W).alloc _).grown hg (fun k hk => .inl hk)) (by simpa using hat)
theorem Dev.at_len {D : Dev} (h : D.Ok) {i : Nat} (hi : i < D.laid.length) : (D.at i).length = 64 := by
  unfold Dev.at
  cases hs : (D.late[i]?).join with
  | none =>
    simp only [Option.getD_none]
    rw [List.getD_eq_getElem?_getD, List.getElem?_eq_getElem hi]
    exact h.secs _ (List.getElem_mem hi)
  | some s =>
    simp only [Option.getD_some]
    obtain ⟨x, hx⟩ : ∃ x, D.late[i]? = some x := ⟨D.late[i]'(by rw [h.len]; exact hi), List.getElem?_eq_getElem _⟩
    rw [hx] at hs
    simp only [Option.join_some] at hs
    subst hs
    exact h.lates s (List.mem_of_getElem? hx)
/-- The blocks of a pool behind a call: what it had, and new ones. -/
abbrev More (M : Nat → Prop) (w w' : World) (k : Nat) : Prop := M k ∨ (w.heap.size ≤ k ∧ k < w'.heap.size)
theorem FmAt.mono {N N' : Nat → Prop} {w : World} {b : Nat} {f : Fm} (h : FmAt w N b f) (hN : ∀ k, N k → N' k) : FmAt w N' b f := by
  obtain ⟨A, c, e1, e2, e3⟩ := h.ex
  exact ⟨⟨A, c, e1, e2, fun ad e => hN _ (e3 ad e)⟩, h.len⟩
theorem PoolAt.more {M : Nat → Prop} {w' w0 : World} {pb db : Nat} {P : Pl} {v : Value} {fbs : List Nat} (h : PoolAt w' pb db M P v fbs) : PoolAt w' pb db (More M w0 w') P v fbs :=
  ⟨h.row, h.own, h.len, fun i f b hi hb => (h.fr i f b hi hb).mono (fun k hk => ⟨.inl hk.1, hk.2⟩), h.nd, h.pn, fun k hk => ⟨(h.vn k hk).1, (h.vn k hk).2.1, .inl (h.vn k hk).2.2⟩, .inl h.mp, fun b hb => .inl (h.mf b hb), fun k hk => hk.elim (h.mlt k) (fun h => h.2)⟩
theorem PoolAt.mono {M N : Nat → Prop} {w : World} {pb db : Nat} {P : Pl} {v : Value} {fbs : List Nat} (h : PoolAt w pb db M P v fbs) (hM : ∀ k, M k → N k) (hN : ∀ k, N k → k < w.heap.size) : PoolAt w pb db N P v fbs :=
  ⟨h.row, h.own, h.len, fun i f b hi hb => (h.fr i f b hi hb).mono (fun k hk => ⟨hM k hk.1, hk.2⟩), h.nd, h.pn, fun k hk => ⟨(h.vn k hk).1, (h.vn k hk).2.1, hM k (h.vn k hk).2.2⟩, hM _ h.mp, fun b hb => hM _ (h.mf b hb), hN⟩
/-- One frame more. -/
theorem PoolAt.push {M : Nat → Prop} {w w' w0 : World} {pb db nb : Nat} {P P' : Pl} {v v' : Value} {fbs : List Nat} {fr : Fm} (h : PoolAt w pb db M P v fbs) (hf : Fr (fun k => k = pb ∨ v.ownBlock = some k) w w') (h0 : w0.heap.size ≤ w.heap.size)
    (hrow : w'.heap[pb]? = some (.cells (P'.cells db v').toArray 56 (0, 0))) (hfs : P'.fs = P.fs ++ [fr]) (hown : w'.ownsRow 0 57 1 v' (P.fs.length + 1) (ptrs (fbs ++ [nb])))
    (hv' : ∀ k, v'.ownBlock = some k → v.ownBlock = some k ∨ (w.heap.size ≤ k ∧ k < w'.heap.size ∧ k ≠ nb)) (hnb : w.heap.size ≤ nb) (hnew : FmAt w' (Dat (More M w0 w') v') nb fr) : PoolAt w' pb db (More M w0 w') P' v' (fbs ++ [nb]) := by
  obtain ⟨A, c, hv⟩ := h.slice
  have hvn : ∀ x, v ≠ .int .u8 x := by intro x; rw [hv]; simp
  have hnl : nb < w'.heap.size := by
    obtain ⟨A, c, e1, _⟩ := hnew.ex
    exact lt_of_block e1
  have hbl : ∀ b ∈ fbs, b < w.heap.size := fun b hb => h.mlt b (h.mf b hb)
  refine ⟨hrow, by rw [hfs, List.length_append]; exact hown, by rw [hfs, List.length_append, List.length_append, h.len]; rfl, fun i f b hi hb => ?_, ?_, ?_, fun k hk => ?_, .inl h.mp, fun b hb => ?_, fun k hk => hk.elim (fun h' => Nat.lt_of_lt_of_le (h.mlt k h') hf.size) (fun h => h.2)⟩
  · rw [hfs] at hi
    rcases Nat.lt_or_ge i P.fs.length with hlt | hge
    · rw [List.getElem?_append_left hlt] at hi
      rw [List.getElem?_append_left (by rw [h.len]; exact hlt)] at hb
      have hbm : b ∈ fbs := List.mem_of_getElem? hb
      have h1 := (h.fr i f b hi hb).keep hf (fun hs => by
        rcases hs with e | e
        · exact h.pn (e ▸ hbm)
        · exact (h.vn _ e).2.1 hbm) (fun k hs => by
        rcases hs with e | e
        · exact .inr ⟨_, _, e ▸ h.row, pl_no_u8 P db v hvn⟩
        · exact .inl (fun hd => hd.2 e))
      refine h1.mono (fun k hk => ⟨.inl hk.1, fun hk' => ?_⟩)
      rcases hv' k hk' with e | e
      · exact hk.2 e
      · have := h.mlt k hk.1
        omega
    · have hil : i = P.fs.length := by
        have := (List.getElem?_eq_some_iff.1 hi).1
        rw [List.length_append] at this
        simp at this
        omega
      subst hil
      rw [List.getElem?_append_right (Nat.le_refl _)] at hi
      rw [← h.len, List.getElem?_append_right (Nat.le_refl _)] at hb
      simp at hi hb
      subst hi; subst hb
      exact hnew
  · rw [List.nodup_append]
    refine ⟨h.nd, by simp, fun a ha b hb => ?_⟩
    simp at hb
    subst hb
    have := hbl a ha
    omega
  · intro hm
    rw [List.mem_append] at hm
    rcases hm with hm | hm
    · exact h.pn hm
    · simp at hm
      have := h.mlt pb h.mp
      omega
  · rcases hv' k hk with e | ⟨e1, e2, e3⟩
    · obtain ⟨g1, g2, g3⟩ := h.vn k e
      refine ⟨g1, fun hm => ?_, .inl g3⟩
      rw [List.mem_append] at hm
      rcases hm with hm | hm
      · exact g2 hm
      · simp at hm
        have := h.mlt k g3
        omega
    · have := h.mlt pb h.mp
      refine ⟨by omega, fun hm => ?_, .inr ⟨by omega, e2⟩⟩
      rw [List.mem_append] at hm
      rcases hm with hm | hm
      · have := hbl k hm
        omega
      · simp at hm
        exact e3 hm
  · rw [List.mem_append] at hb
    rcases hb with hb | hb
    · exact .inl (h.mf b hb)
    · simp at hb
      subst hb
      exact .inr ⟨by omega, hnl⟩
/-- What hold leaves. -/
inductive HoldRet (w w' : World) (e : Ending) (M : Nat → Prop) (pb db lb mb : Nat) (P : Pl) (v : Value) (fbs : List Nat) (D : Dev) (a : Int) : Prop
  | hit (i : Nat) (f : Fm) (b : Nat) (hx : P.idx a = some i) (hi : P.fs[i]? = some f) (hb : fbs[i]? = some b) (he : e = .returned (.tuple #[.pointer (some ⟨b, 0, none⟩), .int .i64 0])) (hp : PoolAt w' pb db (More M w w') { P with fs := P.fs.set i { f with used := true } } v fbs) (hd : DevAt Try.prog 3 w' db lb mb D) (hf : Fr (fun k => M k ∨ Dv db lb mb k) w w') : HoldRet w w' e M pb db lb mb P v fbs D a
  | full (hx : P.idx a = none) (hr : ¬ (P.fs.length : Int) < P.room) (ho : (P.round (2 * P.fs.length)).1 = none) (he : e = .returned (.tuple #[.pointer none, .int .i64 5])) (hp : PoolAt w' pb db (More M w w') (P.round (2 * P.fs.length)).2 v fbs) (hd : DevAt Try.prog 3 w' db lb mb D) (hf : Fr (fun k => M k ∨ Dv db lb mb k) w w') : HoldRet w w' e M pb db lb mb P v fbs D a
  | new (v' : Value) (nb : Nat) (hx : P.idx a = none) (hr : (P.fs.length : Int) < P.room) (he : e = .returned (.tuple #[.pointer (some ⟨nb, 0, none⟩), .int .i64 0])) (hp : PoolAt w' pb db (More M w w') { P with fs := P.fs ++ [⟨a, D.at a.toNat, false, 0, 0, true⟩], reads := P.reads + 1 } v' (fbs ++ [nb])) (hd : DevAt Try.prog 3 w' db lb mb D) (hf : Fr (fun k => M k ∨ Dv db lb mb k) w w') : HoldRet w w' e M pb db lb mb P v fbs D a
  | old (i : Nat) (f : Fm) (b : Nat) (D' : Dev) (hD' : D' = if f.dirty = true then D.write f.at_ f.b else D) (hx : P.idx a = none) (hr : ¬ (P.fs.length : Int) < P.room) (ho : (P.round (2 * P.fs.length)).1 = some i) (hi : (P.round (2 * P.fs.length)).2.fs[i]? = some f) (hb : fbs[i]? = some b) (he : e = .returned (.tuple #[.pointer (some ⟨b, 0, none⟩), .int .i64 0])) (hp : PoolAt w' pb db (More M w w') { (P.round (2 * P.fs.length)).2 with fs := (P.round (2 * P.fs.length)).2.fs.set i ⟨a, D'.at a.toNat, false, 0, 0, true⟩, reads := P.reads + 1 } v fbs) (hd : DevAt Try.prog 3 w' db lb mb D') (hf : Fr (fun k => M k ∨ Dv db lb mb k) w w') : HoldRet w w' e M pb db lb mb P v fbs D a
theorem size_frame : (Try.prog.info? 61).map (·.size) = some 6 := by kernel_rfl
theorem und_pframes : Try.prog.underlying 54 = some (.slice 57) := Try.underlying54
theorem info_pframe : (Try.prog.info? 57).map (fun i => (i.zero, i.size, i.bytes)) = some (some (.pointer none), 1, 8) := by kernel_rfl
theorem fm_one (f : Fm) (A : Option Addr) (c : Nat) : ∀ u ∈ f.cells A c, u.oneCell' = true := by
  intro u hu
  simp [Fm.cells] at hu
  rcases hu with rfl | rfl | rfl | rfl | rfl | rfl <;> rfl
section
variable {w : World} {M : Nat → Prop} {pb db lb mb : Nat} {P : Pl} {v : Value} {fbs : List Nat} {D : Dev}
set_option maxRecDepth 100000 in
set_option maxHeartbeats 4000000 in
theorem hold_c {n : Nat} (h : PoolAt w pb db M P v fbs) (hD : DevAt Try.prog 3 w db lb mb D) (hg : GoodD D n) (ok : PoolOk P n) (hMD : ∀ k, Dv db lb mb k → ¬ M k) (a : Nat) (a1 : a < n) (r0 : 0 ≤ P.reads) (r1 : P.reads ≤ 1000000) :
    Calls Try.prog 25 #[.pointer (some ⟨pb, 0, none⟩), .int .i64 (a : Int)] w fun e w' => HoldRet w w' e M pb db lb mb P v fbs D (a : Int) := by
  have an : (0 : Int) ≤ (a : Int) := Int.natCast_nonneg _
  have HP := Lib.hid h
  have HDV := Lib.hid hD
  have HG := Lib.hid hg
  have OK := Lib.hid ok
  have HMD := Lib.hid hMD
  have hl64 : P.fs.length ≤ 64 := by have := ok.room1; have := ok.fit; omega
  have H64 := Lib.hid hl64
  have hn : (D.laid.length : Int) = (n : Int) := by rw [hg.laid]
  have HN := Lib.hid hn
  have ha1 : ¬ n ≤ a := by omega
  clear h hD hg ok hMD hl64 hn
  cases hx : P.idx (a : Int) with
  | some i =>
    have HX := Lib.hid hx
    have hil : i < P.fs.length := by
      unfold Pl.idx at hx
      rw [List.findIdx?_eq_some_iff_getElem] at hx
      exact hx.1
    obtain ⟨f, hf⟩ : ∃ f, P.fs[i]? = some f := ⟨P.fs[i]'hil, List.getElem?_eq_getElem _⟩
    obtain ⟨b, hb⟩ : ∃ b, fbs[i]? = some b := ⟨fbs[i]'(by rw [HP.out.len]; exact hil), List.getElem?_eq_getElem _⟩
    have HFI := Lib.hid hf
    have HBI := Lib.hid hb
    have hgd : fptr fbs (some i) = .pointer (some ⟨b, 0, none⟩) := by
      have : fbs.getD i 0 = b := by rw [List.getD_eq_getElem?_getD, hb]; rfl
      show Value.pointer (some ⟨fbs.getD i 0, 0, none⟩) = _
      rw [this]
    have HGD := Lib.hid hgd
    clear hx hil hf hb hgd
    go_enter Try.func25, Try.ntmps25
    go_wp2_with fail
    refine (pgone_c HP.out HDV.out).mono ?_
    rintro e w1 ⟨rfl, rfl⟩
    rw [HG.out.gone]
    go_wp2_with fail
    refine (find_c HP.out (a : Int) H64.out).mono ?_
    rintro e w1 ⟨rfl, hf1⟩
    rw [HX.out, HGD.out]
    have HP1 := Lib.hid (HP.out.keep0 hf1)
    have HF1 := Lib.hid hf1
    obtain ⟨f0, f2, f3, f4, f5, y1, y2, y3, y4, y5, -⟩ := (HP1.out.fr i f b HFI.out HBI.out).cells
    clear hf1 f0 f2 f3 f4 y1 y2 y3 y4
    go_wp2_with fail
    go_ret2
    have hset := pool_used HP1.out HFI.out HBI.out (u := true) (u' := true) rfl
    have hfr : Fr (fun k => k = b) w1 (w1.setCell ⟨b, 5, none⟩ (.bool true)) := (Fr.refl (fun k => k = b) w1).setCell (p := ⟨b, 5, none⟩) (.inl rfl) _
    have hbm := HP.out.mf b (List.mem_of_getElem? HBI.out)
    refine .hit i f b HX.out HFI.out HBI.out rfl hset.more ((HDV.out.keep0 HF1.out).keep hfr (fun e => HMD.out _ (.inl rfl) (e ▸ hbm)) (fun e => HMD.out _ (.inr (.inl rfl)) (e ▸ hbm)) (fun e => HMD.out _ (.inr (.inr rfl)) (e ▸ hbm))) ((HF1.out.of0).trans hfr (fun k e => .inl (.inl (e ▸ hbm))))
  | none =>
    have HX := Lib.hid hx
    have hgd : fptr fbs none = .pointer none := rfl
    have HGD := Lib.hid hgd
    clear hx hgd
    obtain ⟨Q, hQ⟩ : ∃ Q, Q = (P.round (2 * P.fs.length)).2 := ⟨_, rfl⟩
    have HQ := Lib.hid hQ
    clear hQ
    go_enter Try.func25, Try.ntmps25
    go_wp2_with fail
    refine (pgone_c HP.out HDV.out).mono ?_
    rintro e w1 ⟨rfl, rfl⟩
    rw [HG.out.gone]
    go_wp2_with fail
    refine (find_c HP.out (a : Int) H64.out).mono ?_
    rintro e w1 ⟨rfl, hf1⟩
    rw [HX.out, HGD.out]
    have HP1 := Lib.hid (HP.out.keep0 hf1)
    have HD1 := Lib.hid (HDV.out.keep0 hf1)
    have HF1 := Lib.hid hf1
    obtain ⟨c0, c1, c2, c3, c4, c5, z1, z3, z4, z5⟩ := HP1.out.cells
    clear hf1 c1 c2 c3 c4 c5 z1 z3 z4 z5
    go_wp2_with fail
    refine (size_c HD1.out).mono ?_
    rintro e w2 ⟨rfl, rfl⟩
    rw [HN.out]
    go_wp2_with fail
    refine (pfree_c HP1.out HD1.out HG.out OK.out HMD.out).mono ?_
    rintro e w2 hret
    rw [← HQ.out] at hret
    cases hret with
    | full hr ho he hp hd hf =>
      subst he
      have HR := Lib.hid hr
      have HOO := Lib.hid ho
      have HP2 := Lib.hid hp
      have HD2 := Lib.hid hd
      have HF2 := Lib.hid hf
      clear hr ho hp hd hf c0
      go_wp2_with fail
      go_ret2
      refine .full HX.out (by have := HR.out; omega) HOO.out rfl ?_ HD2.out ((HF1.out.of0).trans HF2.out (fun k hk => .inl (.inl hk)))
      rw [← HQ.out]
      exact HP2.out.more
    | new hr he hp hd hf =>
      subst he
      have HR := Lib.hid hr
      have HF2 := Lib.hid hf
      have HP2 := Lib.hid hp
      have HD2 := Lib.hid hd
      obtain ⟨c0, c1, c2, c3, c4, c5, z1, z3, z4, z5⟩ := hp.cells
      clear hr hp hd hf c1 c2 c3 c4 c5 z1 z3 z4 z5
      go_wp2_with fail
      refine (read_c HD2.out HG.out.gone a (by rw [HG.out.laid]; exact a1)).mono ?_
      rintro e w3 ⟨b8, t8, rfl, hb80, hb81, hf3⟩
      have HP3 := Lib.hid (HP2.out.keep0 hf3)
      have HD3 := Lib.hid (HD2.out.keep0 hf3)
      have HF3 := Lib.hid ((HF1.out.then0 HF2.out).then0 hf3)
      have HB8 := Lib.hid hb81
      have hb8w : w.heap.size ≤ b8 := by have := (HF1.out.then0 HF2.out).size; omega
      have HBW := Lib.hid hb8w
      have HL8 : Hid ((D.at a).length = 64) := Lib.hid (Dev.at_len HDV.out.ok (by rw [HG.out.laid]; exact a1))
      have hb8m : ¬ M b8 := fun hm => by have := HP2.out.mlt b8 hm; omega
      have HB8M := Lib.hid hb8m
      obtain ⟨d0, d1, d2, d3, d4, d5, z1, z3, z4, z5⟩ := HP3.out.cells
      clear hb80 hb81 hf3 d0 d1 d2 d3 d4 z1 z3 z4 hb8w hb8m
      obtain ⟨re, hre⟩ : ∃ re, re = P.reads := ⟨_, rfl⟩
      have HRE := Lib.hid hre
      rw [← hre] at d5 r0 r1
      clear hre
      -- the pool behind 'reads++', and with a frame of nothing
      have HP4 : Hid (PoolAt (w3.setCell ⟨pb, 5, none⟩ (.int .i64 (re + 1))) pb db M { P with reads := re + 1 } v fbs) := Lib.hid (HP3.out.pool (P' := { P with reads := re + 1 }) ((Fr.refl (fun k => k = pb) w3).setCell (p := ⟨pb, 5, none⟩) (.inl rfl) _) rfl (by rw [set_cell HP3.out.row]; rfl))
      have HFA : Hid (Fr F0 (w3.setCell ⟨pb, 5, none⟩ (.int .i64 (re + 1))) ((w3.setCell ⟨pb, 5, none⟩ (.int .i64 (re + 1))).alloc (.cells #[.int .i64 0, .slice none 0 0, .bool false, .int .i64 0, .int .i64 0, .bool false] 61))) := Lib.hid ((Fr.refl F0 _).alloc _)
      have hp5 := HP4.out.keep0 HFA.out
      have HP5 := Lib.hid hp5
      have hnz : ((w3.setCell ⟨pb, 5, none⟩ (.int .i64 (re + 1))).alloc (.cells #[.int .i64 0, .slice none 0 0, .bool false, .int .i64 0, .int .i64 0, .bool false] 61)).heap[(w3.setCell ⟨pb, 5, none⟩ (.int .i64 (re + 1))).heap.size]? = some (.cells #[.int .i64 0, .slice none 0 0, .bool false, .int .i64 0, .int .i64 0, .bool false] 61 (0, 0)) := heap_alloc_new _ _
      have HNZ := Lib.hid hnz
      obtain ⟨k0, k1, k2, k3, k4, k5, y1, y3, y4, y5⟩ := hp5.cells
      clear hp5 hnz k0 k2 k3 k4 k5 y3 y4 y5
      have hown5 := HP5.out.own
      have hlp : (ptrs fbs).length = P.fs.length := by rw [List.length_map, HP.out.len]
      have HOWN5 : Hid (((w3.setCell ⟨pb, 5, none⟩ (.int .i64 (re + 1))).alloc (.cells #[.int .i64 0, .slice none 0 0, .bool false, .int .i64 0, .int .i64 0, .bool false] 61)).ownsRow 0 57 1 v (ptrs fbs).length (ptrs fbs)) := Lib.hid (by rw [hlp]; exact hown5)
      have HLP := Lib.hid hlp
      have hszW : ((w3.setCell ⟨pb, 5, none⟩ (.int .i64 (re + 1))).alloc (.cells #[.int .i64 0, .slice none 0 0, .bool false, .int .i64 0, .int .i64 0, .bool false] 61)).heap.size = w3.heap.size + 1 := by simp
      have HSZ := Lib.hid hszW
      have hnz2 : ((w3.setCell ⟨pb, 5, none⟩ (.int .i64 (re + 1))).alloc (.cells #[.int .i64 0, .slice none 0 0, .bool false, .int .i64 0, .int .i64 0, .bool false] 61)).heap[w3.heap.size]? = some (.cells #[.int .i64 0, .slice none 0 0, .bool false, .int .i64 0, .int .i64 0, .bool false] 61 (0, 0)) := by
        have h5 := HNZ.out
        have e5 : (w3.setCell ⟨pb, 5, none⟩ (.int .i64 (re + 1))).heap.size = w3.heap.size := by simp
        rw [e5] at h5
        exact h5
      have HNZ2 := Lib.hid hnz2
      have HF4 : Hid (Fr (fun k => M k) w ((w3.setCell ⟨pb, 5, none⟩ (.int .i64 (re + 1))).alloc (.cells #[.int .i64 0, .slice none 0 0, .bool false, .int .i64 0, .int .i64 0, .bool false] 61))) := Lib.hid (((HF3.out.of0).setCell (p := ⟨pb, 5, none⟩) (.inl HP.out.mp) _).then0 HFA.out)
      clear hown5 hlp hszW hnz2 HNZ
      go_wp2_with (first | (at_builtin; refine wpList_append_one2 rfl (.tmp 67) (.tmp 69) 54 57 8 (.pointer none) rfl und_pframes info_pframe rfl (by decide) 0 v (ptrs fbs) (.pointer (some ⟨w3.heap.size, 0, none⟩)) (by rfl) (by rw [HSZ.out]; rfl) rfl HOWN5.out (Nat.zero_le _) (by rw [HLP.out]; have := H64.out; omega) ?_; intro v9 w9 hown9 hf9 hat9; obtain ⟨A9, c9, hv9, -, -, -, -⟩ := ValsAt.of_own hown9; subst hv9; have HO9 := Lib.hid hown9; have HF9 := Lib.hid hf9; have HT9 := Lib.hid hat9; have hr9 := hf9.keep HP5.out.row (fun e => (HP5.out.vn _ e).1 rfl); have HR9 := Lib.hid hr9; have yy1 : w9.frozen? ⟨pb, 1, none⟩ = false := free_of hr9 1; have kk1 : w9.cell? ⟨pb, 1, none⟩ = some v := (by rw [cell_of hr9]; rfl); have hn9 := hf9.keep HNZ2.out (fun e => by have h5 := HP3.out.mlt _ (HP5.out.vn _ e).2.2; omega); have HST := Lib.hid (keep_setCell hn9 (show w3.heap.size ≠ (⟨pb, 1, none⟩ : Addr).block from fun e => by have h5 := HP3.out.mlt _ HP3.out.mp; have e' : w3.heap.size = pb := e; omega) (.slice A9 (fbs.length + 1) c9)); clear hown9 hf9 hat9 hr9 hn9) | (refine wpList_store_to rfl 61 (.tmp 77) (.tmp 76) rfl w3.heap.size 0 (Fm.cells ⟨(a : Int), D.at a, false, 0, 0, true⟩ (some ⟨b8, 0, none⟩) 64) (by rfl) (by rfl) 61 [.int .i64 0, .slice none 0 0, .bool false, .int .i64 0, .int .i64 0, .bool false] HST.out size_frame (Nat.le_refl 6) (fm_one _ _ _) ?_; intro w11 h11 hf11; have H11 := Lib.hid h11; have HF11 := Lib.hid hf11; clear h11 hf11))
      go_ret2
      have hpb3 : pb < w3.heap.size := HP3.out.mlt _ HP3.out.mp
      have hvm : ∀ k, v.ownBlock = some k → k ≠ pb ∧ M k ∧ k < w3.heap.size := fun k hk => ⟨(HP3.out.vn k hk).1, (HP3.out.vn k hk).2.2, HP3.out.mlt _ (HP3.out.vn k hk).2.2⟩
      have hs9 : w3.heap.size + 1 ≤ w9.heap.size := by have h5 := HF9.out.size; rw [HSZ.out] at h5; exact h5
      have f10 : Fr (fun k => k = pb) w9 (w9.setCell ⟨pb, 1, none⟩ (.slice A9 (fbs.length + 1) c9)) := (Fr.refl (fun k => k = pb) w9).setCell (p := ⟨pb, 1, none⟩) (.inl rfl) _
      have hs10 : (w9.setCell ⟨pb, 1, none⟩ (.slice A9 (fbs.length + 1) c9)).heap.size = w9.heap.size := by simp [World.setCell]
      have hs11 : w9.heap.size ≤ w11.heap.size := by have h5 := HF11.out.size; rw [hs10] at h5; exact h5
      have hwr : (w3.setCell ⟨pb, 5, none⟩ (.int .i64 (re + 1))).heap.size = w3.heap.size := by simp [World.setCell]
      have fA : Fr (fun k => k = pb ∨ v.ownBlock = some k) (w3.setCell ⟨pb, 5, none⟩ (.int .i64 (re + 1))) w11 := by
        refine Fr.trans (S := fun k => k = pb ∨ v.ownBlock = some k) (b := w9) ?_ ?_ (S' := fun k => k = pb ∨ k = w3.heap.size) (fun k hk => ?_)
        · exact ((HFA.out.of0 (S := fun k => k = pb ∨ v.ownBlock = some k)).trans HF9.out (fun k hk => .inl (.inr hk)))
        · exact (f10.mono (fun k hk => .inl hk)).trans HF11.out (fun k hk => .inl (.inr hk))
        · rcases hk with hk | hk
          · exact .inl (.inl hk)
          · exact .inr (by rw [hwr, hk]; exact Nat.le_refl _)
      have fB : Fr (fun k => k = pb ∨ v.ownBlock = some k) w3 w11 := (((Fr.refl (fun k => k = pb ∨ v.ownBlock = some k) w3).setCell (p := ⟨pb, 5, none⟩) (.inl (.inl rfl)) _)).trans fA (fun k hk => .inl hk)
      have hvo : ∀ k, (Value.slice A9 (fbs.length + 1) c9).ownBlock = some k → v.ownBlock = some k ∨ k = w3.heap.size + 2 := by
        intro k hk
        have h5 := HT9.out
        rw [HSZ.out, show (ptrs fbs).length = fbs.length from List.length_map _] at h5
        rcases h5 with h5 | h5
        · left; rw [← h5]; exact hk
        · right
          have h6 : (Value.slice A9 (fbs.length + 1) c9).ownBlock = some (w3.heap.size + 1 + 1) := h5
          rw [h6] at hk
          exact (Option.some.inj hk).symm
      have hown9 : w9.ownsRow 0 57 1 (.slice A9 (fbs.length + 1) c9) (P.fs.length + 1) (ptrs (fbs ++ [w3.heap.size])) := by
        have h5 := HO9.out
        rw [HLP.out] at h5
        simp only [ptrs, List.map_append, List.map_cons, List.map_nil, List.length_map, HP.out.len] at h5 ⊢
        exact h5
      have hnb11 : w3.heap.size < w11.heap.size := by omega
      have hb8lt : b8 < w3.heap.size := lt_of_block HB8.out
      refine .new (.slice A9 (fbs.length + 1) c9) w3.heap.size HX.out HR.out rfl ?_ ?_ ?_
      · refine HP4.out.push (nb := w3.heap.size) (fr := ⟨(a : Int), D.at ((a : Int)).toNat, false, 0, 0, true⟩) fA (by rw [hwr]; have := HF3.out.size; omega) ?_ rfl ?_ ?_ (by rw [hwr]; exact Nat.le_refl _) ?_
        · refine HF11.out.keep ?_ (fun e => by omega)
          rw [set_cell HR9.out, HRE.out]
          rfl
        · exact own_keep (own_keep hown9 f10 (fun k hk e => by
            rcases hvo k hk with h5 | h5
            · exact (hvm k h5).1 e
            · omega)) HF11.out (fun k hk e => by
            rcases hvo k hk with h5 | h5
            · have := (hvm k h5).2.2; omega
            · omega)
        · intro k hk
          rcases hvo k hk with h5 | h5
          · exact .inl h5
          · obtain ⟨cc, hcc⟩ := own_cells hown9 k hk
            have h6 := lt_of_block hcc
            exact .inr ⟨by rw [hwr]; omega, by omega, by omega⟩
        · refine ⟨⟨some ⟨b8, 0, none⟩, 64, ?_, ⟨?_, ?_, by decide⟩, fun ad e => ?_⟩, ?_⟩
          · exact H11.out
          · rw [Int.toNat_natCast]
            exact BytesAt.of_block (fB.keep HB8.out (fun hk => by
              rcases hk with hk | hk
              · exact HB8M.out (hk ▸ HP.out.mp)
              · exact HB8M.out (hvm _ hk).2.1))
          · rw [Int.toNat_natCast, HL8.out]
            exact Nat.le_refl _
          · cases e
            refine ⟨.inr ⟨HBW.out, Nat.lt_trans hb8lt hnb11⟩, fun hk => ?_⟩
            rcases hvo _ hk with h5 | h5
            · exact HB8M.out (hvm _ h5).2.1
            · have h7 : b8 = w3.heap.size + 2 := h5
              omega
          · show (D.at ((a : Int)).toNat).length = 64
            rw [Int.toNat_natCast]
            exact HL8.out
      · exact HD3.out.keep fB (fun hk => by
          rcases hk with hk | hk
          · exact HMD.out _ (.inl rfl) (hk ▸ HP.out.mp)
          · exact HMD.out _ (.inl rfl) (hvm _ hk).2.1) (fun hk => by
          rcases hk with hk | hk
          · exact HMD.out _ (.inr (.inl rfl)) (hk ▸ HP.out.mp)
          · exact HMD.out _ (.inr (.inl rfl)) (hvm _ hk).2.1) (fun hk => by
          rcases hk with hk | hk
          · exact HMD.out _ (.inr (.inr rfl)) (hk ▸ HP.out.mp)
          · exact HMD.out _ (.inr (.inr rfl)) (hvm _ hk).2.1)
      · exact (HF3.out.of0 (S := fun k => M k ∨ Dv db lb mb k)).trans fB (fun k hk => .inl (.inl (by
          rcases hk with hk | hk
          · rw [hk]; exact HP.out.mp
          · exact (hvm _ hk).2.1)))
    | old hr i f ho hi he hp hd hf =>
      subst he
      obtain ⟨D', hD'⟩ : ∃ D', D' = (if f.dirty = true then D.write f.at_ f.b else D) := ⟨_, rfl⟩
      rw [← hD'] at hd
      obtain ⟨b, hb⟩ : ∃ b, fbs[i]? = some b := ⟨fbs[i]'(by rw [hp.len]; exact (List.getElem?_eq_some_iff.1 hi).1), List.getElem?_eq_getElem _⟩
      have hgd : fptr fbs (some i) = .pointer (some ⟨b, 0, none⟩) := by
        have : fbs.getD i 0 = b := by rw [List.getD_eq_getElem?_getD, hb]; rfl
        show Value.pointer (some ⟨fbs.getD i 0, 0, none⟩) = _
        rw [this]
      rw [hgd]
      have hG' : GoodD D' n := by
        rw [hD']
        split
        · have h5 := hi
          rw [HQ.out] at h5
          obtain ⟨u, hu⟩ := Pl.round_same _ P i f h5
          have h6 := OK.out.places { f with used := u } (List.mem_of_getElem? hu)
          exact (HG.out.write h6.1 h6.2 (s := f.b) (by rw [(hp.fr i f b hi hb).len]; decide)).2.1
        · exact HG.out
      have HG' := Lib.hid hG'
      have HDD := Lib.hid hD'
      have HR := Lib.hid hr
      have HOO := Lib.hid ho
      have HQI := Lib.hid hi
      have HBI := Lib.hid hb
      have HF2 := Lib.hid hf
      have HP2 := Lib.hid hp
      have HD2 := Lib.hid hd
      obtain ⟨c0, c1, c2, c3, c4, c5, z1, z3, z4, z5⟩ := hp.cells
      clear hr ho hi hb hp hd hf hgd hG' hD' c1 c2 c3 c4 c5 z1 z3 z4 z5
      go_wp2_with fail
      refine (read_c HD2.out HG'.out.gone a (by rw [HG'.out.laid]; exact a1)).mono ?_
      rintro e w3 ⟨b8, t8, rfl, hb80, hb81, hf3⟩
      have HP3 := Lib.hid (HP2.out.keep0 hf3)
      have HD3 := Lib.hid (HD2.out.keep0 hf3)
      have HF3 : Hid (Fr (fun k => M k ∨ Dv db lb mb k) w w3) := Lib.hid (((HF1.out.of0 (S := fun k => M k ∨ Dv db lb mb k)).trans HF2.out (fun k hk => .inl hk)).then0 hf3)
      have HB8 := Lib.hid hb81
      have hsz2 : w.heap.size ≤ w2.heap.size := by have h5 := HF1.out.size; have h6 := HF2.out.size; omega
      have hb8w : w.heap.size ≤ b8 := by omega
      have HBW := Lib.hid hb8w
      have HL8 : Hid ((D'.at a).length = 64) := Lib.hid (Dev.at_len HD2.out.ok (by rw [HG'.out.laid]; exact a1))
      have hb8m : ¬ M b8 := fun hm => by have := HP2.out.mlt b8 hm; omega
      have HB8M := Lib.hid hb8m
      obtain ⟨d0, d1, d2, d3, d4, d5, z1, z3, z4, z5⟩ := HP3.out.cells
      have hqr : Q.reads = P.reads := by rw [HQ.out]; exact (Pl.round_room _ P).2.2
      rw [hqr] at d5
      have HQR := Lib.hid hqr
      clear hb80 hb81 hf3 d0 d1 d2 d3 d4 z1 z3 z4 hb8w hb8m hqr hsz2
      obtain ⟨re, hre⟩ : ∃ re, re = P.reads := ⟨_, rfl⟩
      have HRE := Lib.hid hre
      rw [← hre] at d5 r0 r1
      clear hre
      have HP4 : Hid (PoolAt (w3.setCell ⟨pb, 5, none⟩ (.int .i64 (re + 1))) pb db M { Q with reads := re + 1 } v fbs) := Lib.hid (HP3.out.pool (P' := { Q with reads := re + 1 }) ((Fr.refl (fun k => k = pb) w3).setCell (p := ⟨pb, 5, none⟩) (.inl rfl) _) rfl (by rw [set_cell HP3.out.row]; rfl))
      obtain ⟨Ao, co, hro, -, -⟩ := (HP4.out.fr i f b HQI.out HBI.out).ex
      have HROW := Lib.hid hro
      clear hro
      go_wp2_with (refine wpList_store_to rfl 61 (.tmp 77) (.tmp 76) rfl b 0 (Fm.cells ⟨(a : Int), D'.at a, false, 0, 0, true⟩ (some ⟨b8, 0, none⟩) 64) (by rfl) (by rfl) 61 (f.cells Ao co) HROW.out size_frame (Nat.le_refl 6) (fm_one _ _ _) ?_; intro w11 h11 hf11; have H11 := Lib.hid h11; have HF11 := Lib.hid hf11; clear h11 hf11)
      go_ret2
      have hwr : (w3.setCell ⟨pb, 5, none⟩ (.int .i64 (re + 1))).heap.size = w3.heap.size := by simp [World.setCell]
      have hb8lt : b8 < w3.heap.size := lt_of_block HB8.out
      have hbM := HP3.out.mf b (List.mem_of_getElem? HBI.out)
      have fB : Fr (fun k => k = pb ∨ k = b) w3 w11 := ((Fr.refl (fun k => k = pb ∨ k = b) w3).setCell (p := ⟨pb, 5, none⟩) (.inl (.inl rfl)) _).trans HF11.out (fun k hk => .inl (.inr hk))
      have hMk : ∀ k, (k = pb ∨ k = b) → M k := fun k hk => by
        rcases hk with hk | hk
        · rw [hk]; exact HP3.out.mp
        · rw [hk]; exact hbM
      have hs11 : w3.heap.size ≤ w11.heap.size := fB.size
      have hfm : FmAt w11 (Dat (More M w (w3.setCell ⟨pb, 5, none⟩ (.int .i64 (re + 1)))) v) b ⟨(a : Int), D'.at ((a : Int)).toNat, false, 0, 0, true⟩ := by
        refine ⟨⟨some ⟨b8, 0, none⟩, 64, H11.out, ⟨?_, ?_, by decide⟩, fun ad e => ?_⟩, ?_⟩
        · rw [Int.toNat_natCast]
          exact BytesAt.of_block (fB.keep HB8.out (fun hk => HB8M.out (hMk _ hk)))
        · rw [Int.toNat_natCast, HL8.out]
          exact Nat.le_refl _
        · cases e
          exact ⟨.inr ⟨HBW.out, by rw [hwr]; exact hb8lt⟩, fun hk => HB8M.out (HP3.out.vn _ hk).2.2⟩
        · show (D'.at ((a : Int)).toNat).length = 64
          rw [Int.toNat_natCast]
          exact HL8.out
      have hset := (HP4.out.more (w0 := w)).set HQI.out HBI.out HF11.out hfm
      have hmono := hset.mono (N := More M w w11) (fun k hk => hk.imp id (fun h5 => ⟨h5.1, by have h6 := h5.2; rw [hwr] at h6; omega⟩)) (fun k hk => hk.elim (fun h5 => Nat.lt_of_lt_of_le (HP3.out.mlt k h5) hs11) (fun h5 => h5.2))
      refine .old i f b D' HDD.out HX.out (by have := HR.out; omega) HOO.out (by rw [← HQ.out]; exact HQI.out) HBI.out rfl ?_ ?_ (HF3.out.trans fB (fun k hk => .inl (.inl (hMk k hk))))
      · rw [← HQ.out, ← HRE.out]
        exact hmono
      · exact HD3.out.keep fB (fun hk => HMD.out _ (.inl rfl) (hMk _ hk)) (fun hk => HMD.out _ (.inr (.inl rfl)) (hMk _ hk)) (fun hk => HMD.out _ (.inr (.inr rfl)) (hMk _ hk))
end
end Go.Proofs.Ytjfdfjenodianaa
