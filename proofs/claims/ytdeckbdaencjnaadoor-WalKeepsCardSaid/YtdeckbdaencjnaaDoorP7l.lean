/-
  Rows of elements that end in a slice of bytes, each of which lies in a block of which something is so. A log that goes round: records of two sectors each. Two epochs of one log, opened a third time. Conditions: none.
-/
import Derived.Test.YtdeckbdaencjnaaDoorRowC
import Derived.Test.YtdeckbdaencjnaaDoorP7j
import Derived.Test.YtdeckbdaencjnaaDoorL7b

set_option linter.unusedVariables false
set_option linter.unusedSimpArgs false
namespace Go.Proofs.YtdeckbdaencjnaaDoor
open Go.RowKit
section
variable {α : Type} (head : α → List Value) (byt : α → List Int)
structure OwnRowN (hd : Nat) (t : TypeId) (N : Nat → Prop) (w : World) (base : Nat) (v : Value) (l : List α) : Prop where
  ex : ∃ ss : List (Option Addr × Nat), ss.length = l.length ∧ w.ownsRow base t (hd + 1) v l.length ((l.zip ss).flatMap (elB head byt)) ∧ ∀ (i : Nat) (a : α) (s : Option Addr × Nat), l[i]? = some a → ss[i]? = some s → Byt w s.1 s.2 (byt a) ∧ Bys (byt a) ∧ (∀ ad, s.1 = some ad → 0 < (byt a).length → v.ownBlock ≠ some ad.block ∧ N ad.block)
variable {head : α → List Value} {byt : α → List Int} {hd : Nat} {t : TypeId} {N : Nat → Prop} {w w' : World} {base : Nat} {v : Value} {l : List α} {A : Option Addr}
theorem OwnRowN.toC (h : OwnRowN head byt hd t N w base v l) : OwnRowC head byt hd t w base v l := by
  obtain ⟨ss, hs, ho, he⟩ := h.ex
  exact ⟨ss, hs, ho, fun i a s ha hsi => ⟨(he i a s ha hsi).1, (he i a s ha hsi).2.1, fun ad e hp => ((he i a s ha hsi).2.2 ad e hp).1⟩⟩
theorem OwnRowN.keepS {S : Nat → Prop} (h : OwnRowN head byt hd t N w base v l) (hf : Fr S w w') (hN : ∀ k, S k → ¬ N k) (hv : ∀ k, S k → v.ownBlock ≠ some k) : OwnRowN head byt hd t N w' base v l := by
  obtain ⟨ss, hs, ho, he⟩ := h.ex
  exact ⟨ss, hs, own_keep ho hf (fun k hk hsk => hv k hsk hk), fun i a s ha hsi => ⟨(he i a s ha hsi).1.keep hf (fun hp ad e hsk => hN _ hsk ((he i a s ha hsi).2.2 ad e hp).2), (he i a s ha hsi).2⟩⟩
theorem OwnRowN.keep (h : OwnRowN head byt hd t N w base v l) (hf : Fr F0 w w') : OwnRowN head byt hd t N w' base v l := h.keepS hf (fun _ h => h.elim) (fun _ h => h.elim)
theorem OwnRowN.base_le (h : OwnRowN head byt hd t N w base v l) (k : Nat) (hk : v.ownBlock = some k) : base ≤ k := by
  obtain ⟨ss, hs, ho, he⟩ := h.ex
  exact own_base ho k hk
theorem OwnRowN.lt (h : OwnRowN head byt hd t N w base v l) (k : Nat) (hk : v.ownBlock = some k) : k < w.heap.size := by
  obtain ⟨ss, hs, ho, he⟩ := h.ex
  obtain ⟨c, hc⟩ := own_cells ho k hk
  exact lt_of_block hc
/-- append([]T{}, l..): all elements of another row. -/
theorem wpList_append_rowN_all {P : Program} {ops : Array Oper} {rest : List Oper} {o : Oper} {a : Act} {Q : Exit → Act → World → Prop} {W : World} (hgd : o.guard = none) (s x : Operand) (ts : TypeId) (bytes : Nat) (z : Value)
    (ho : o.op = .call { callee := .builtin .append, args := #[s, x], argTypes := #[ts, ts] })
    (ht : P.underlying ts = some (.slice t)) (hinfo : (P.info? t).map (fun i => (i.zero, i.size, i.bytes)) = some (some z, hd + 1, bytes)) (hz : z.cells.size = hd + 1) (hb0 : 0 < bytes)
    (hh : ∀ a, (head a).length = hd) (h1 : ∀ a, ∀ u ∈ head a, u.oneCell' = true)
    (base base' : Nat) (v v' : Value) (m : List α) (hs : a.eval s = v) (hx : a.eval x = v')
    (HO : W.ownsRow base t (hd + 1) v 0 []) (HM : OwnRowB head byt hd t W base' v' m)
    (hN : ∀ ad c xs, Byt W (some ad) c xs → 0 < xs.length → base' ≤ ad.block → v.ownBlock ≠ some ad.block ∧ N ad.block)
    (hbase : base ≤ W.heap.size) (hl : m.length * bytes ≤ 140737488355328)
    (h : ∀ v1 w1, OwnRowN head byt hd t N w1 base v1 m → Fr (fun k => v.ownBlock = some k) W w1 → wpList P ops Q rest (a.put o.dst v1) w1) :
    wpList P ops Q (o :: rest) a W := by
  obtain ⟨i0, hi, hzz⟩ := Option.map_eq_some_iff.1 hinfo
  simp only [Prod.mk.injEq] at hzz
  obtain ⟨hz0, hz1, hz2⟩ := hzz
  have hlen : m.length ≤ 140737488355328 := Nat.le_trans (Nat.le_mul_of_pos_right _ hb0) hl
  obtain ⟨tt, htt, hom, hem⟩ := HM.ex
  have hzl : (m.zip tt).length = m.length := by rw [List.length_zip]; omega
  have hone : ∀ u ∈ (m.zip tt).flatMap (elB head byt), u.oneCell' = true := by
    intro u hu
    obtain ⟨y, _, hu⟩ := List.mem_flatMap.1 hu
    rw [elB, List.mem_append] at hu
    rcases hu with hu | hu
    · exact h1 y.1 u hu
    · simp at hu; subst hu; rfl
  have hfl : ((m.zip tt).flatMap (elB head byt)).length = m.length * (hd + 1) := by rw [elB_flat_len head byt hh, hzl]
  rcases hom.2 with ⟨hv', hn⟩ | ⟨g, cap, cur, hv', hb, hg, hc, hm, hsz, htk⟩
  · obtain rfl : m = [] := List.eq_nil_of_length_eq_zero hn
    have hrun : (Builtin.append_ #[ts, ts] o.type #[v, .slice none 0 0]).run P W = .ok v W := by
      rcases HO.2 with ⟨rfl, hn⟩ | ⟨g, cap, cur, rfl, _, _, hnc, _⟩
      · simp [Builtin.append_, run_underlying ht, sizeOf, typeInfo, hi, Builtin.lenOf, Builtin.firstCells]
      · simp [Builtin.append_, run_underlying ht, sizeOf, typeInfo, hi, Builtin.lenOf, Builtin.firstCells, hnc, storeCells]
    refine wpList_plain hgd fun K hK => ?_
    unfold Oper.wp execOp
    rw [hv'] at hx
    simp only [ho, resolve, invoke, builtin, Sem.run_bind, Sem.run_pure, Result.andThen_ok, List.map_toArray, List.map_cons, List.map_nil, hs, hx, hrun]
    exact hK _ _ (h v W ⟨[], rfl, by simpa using HO, fun i a s ha => by simp at ha⟩ (Fr.refl _ W))
  · rw [hv'] at hx
    refine wpList_append_own_at W hgd s x ts ho base t i0 z (hd + 1) bytes ht hi hz0 hz1 hz2 hz (by omega) v 0 [] hs HO ⟨g, 0, none⟩ m.length cap ((m.zip tt).flatMap (elB head byt)) hx hfl
      (fun j u hu => ?_) hone (by simp only [maxLen]; omega) (by simpa using hl) hbase ?_
    · have hj := (List.getElem?_eq_some_iff.1 hu).1
      rw [← htk] at hu
      rw [hfl] at hj
      rw [List.getElem?_take_of_lt hj] at hu
      have h0 : W.cell? ⟨g, j, none⟩ = some u := by rw [cell_of hg]; simpa using hu
      have e : ((⟨g, 0, none⟩ : Addr).add j) = ⟨g, j, none⟩ := by simp [add_at]
      rw [e]; exact h0
    · intro v1 w1 hown hgr _ hat
      have hfr : Fr (fun k => v.ownBlock = some k) W w1 := (Fr.refl _ W).grown hgr (fun k hk => .inl hk)
      refine h v1 w1 ⟨tt, htt, ?_, ?_⟩ hfr
      · simpa using hown
      · intro i a' s' ha' hs'
        obtain ⟨g1, g2, g3⟩ := hem i a' s' ha' hs'
        refine ⟨g1.keep hfr (fun hp ad e hk => ?_), g2, fun ad e hp => ?_⟩
        · have := (hN ad s'.2 (byt a') (by rw [← e]; exact g1) hp (g3 ad e hp).2).1
          exact this hk
        · have h5 := hN ad s'.2 (byt a') (by rw [← e]; exact g1) hp (g3 ad e hp).2
          refine ⟨fun hk => ?_, h5.2⟩
          have hlt := (by rw [e] at g1; exact g1.at_.lt hp : ad.block < W.heap.size)
          rcases hat with hat | hat
          · rw [hat] at hk; exact h5.1 hk
          · rw [hat] at hk
            have := Option.some.inj hk
            omega
/-- append(v, y), y an element that was just laid. -/
theorem wpList_append_rowN {P : Program} {ops : Array Oper} {rest : List Oper} {o : Oper} {a : Act} {Q : Exit → Act → World → Prop} {W : World} (hgd : o.guard = none) (s x : Operand) (ts : TypeId) (bytes : Nat) (z : Value)
    (ho : o.op = .call { callee := .builtin .append, args := #[s, x], argTypes := #[ts, ts] })
    (ht : P.underlying ts = some (.slice t)) (hinfo : (P.info? t).map (fun i => (i.zero, i.size, i.bytes)) = some (some z, hd + 1, bytes)) (hz : z.cells.size = hd + 1) (hb0 : 0 < bytes)
    (hh : ∀ a, (head a).length = hd) (h1 : ∀ a, ∀ u ∈ head a, u.oneCell' = true)
    (base : Nat) (v : Value) (l : List α) (y : α) (B : Option Addr) (c : Nat) (b : Nat) (hbW : b = W.heap.size) (hs : a.eval s = v) (hx : a.eval x = .slice (some ⟨b, 0, none⟩) 1 1)
    (HO : OwnRowN head byt hd t N W base v l) (HB : Byt W B c (byt y)) (HY : Bys (byt y)) (hap : ∀ ad, B = some ad → 0 < (byt y).length → v.ownBlock ≠ some ad.block ∧ N ad.block)
    (hbase : base ≤ W.heap.size) (hl : (l.length + 1) * bytes ≤ 140737488355328)
    (h : ∀ v1 w1, OwnRowN head byt hd t N w1 base v1 (l ++ [y]) → Fr (fun k => v.ownBlock = some k) W w1 → wpList P ops Q rest (a.put o.dst v1) w1) :
    wpList P ops Q (o :: rest) a (W.alloc (.cells (elB head byt (y, (B, c))).toArray t)) := by
  subst hbW
  obtain ⟨i0, hi, hzz⟩ := Option.map_eq_some_iff.1 hinfo
  simp only [Prod.mk.injEq] at hzz
  obtain ⟨hz0, hz1, hz2⟩ := hzz
  obtain ⟨ss, hss, ho', he⟩ := HO.ex
  have hlen : l.length + 1 ≤ 140737488355328 := Nat.le_trans (Nat.le_mul_of_pos_right _ hb0) hl
  have hyl : (elB head byt (y, (B, c))).length = hd + 1 := by simp [elB, hh]
  have hone : ∀ u ∈ elB head byt (y, (B, c)), u.oneCell' = true := by
    intro u hu
    rw [elB, List.mem_append] at hu
    rcases hu with hu | hu
    · exact h1 y u hu
    · simp at hu; subst hu; rfl
  refine wpList_append_own_at (W.alloc (.cells (elB head byt (y, (B, c))).toArray t)) hgd s x ts ho base t i0 z (hd + 1) bytes ht hi hz0 hz1 hz2 hz (by omega) v l.length _ hs (ho'.alloc _) ⟨W.heap.size, 0, none⟩ 1 1 (elB head byt (y, (B, c))) hx (by rw [hyl, Nat.one_mul])
    (World.news_of_block (cs := (elB head byt (y, (B, c))).toArray) (t := t) (fr := (0, 0)) (heap_alloc_new W _)) hone (by simp only [maxLen]; omega) hl (by simp; omega) ?_
  intro v1 w1 hown hg _ hat
  have hfr : Fr (fun k => v.ownBlock = some k) W w1 := ((Fr.refl _ W).alloc _).grown hg (fun k hk => .inl hk)
  have hszW : (W.alloc (.cells (elB head byt (y, (B, c))).toArray t)).heap.size = W.heap.size + 1 := by simp
  refine h v1 w1 ⟨ss ++ [(B, c)], by simp [hss], ?_, ?_⟩ hfr
  · have hzip : (l ++ [y]).zip (ss ++ [(B, c)]) = l.zip ss ++ [(y, (B, c))] := by rw [List.zip_append hss.symm]; rfl
    rw [hzip, List.flatMap_append, List.length_append]
    simpa using hown
  · intro i a' s' ha' hs'
    have key : ∀ (B' : Option Addr) (c' : Nat) (ys : List Int), Byt W B' c' ys → (∀ ad, B' = some ad → 0 < ys.length → v.ownBlock ≠ some ad.block ∧ N ad.block) → Byt w1 B' c' ys ∧ (∀ ad, B' = some ad → 0 < ys.length → v1.ownBlock ≠ some ad.block ∧ N ad.block) := by
      intro B' c' ys hby hap'
      refine ⟨hby.keep hfr (fun hp ad e hk => (hap' ad e hp).1 hk), fun ad e hp => ⟨fun hk => ?_, (hap' ad e hp).2⟩⟩
      subst e
      have hlt := hby.at_.lt hp
      rcases hat with hat | hat
      · rw [hat] at hk; exact (hap' ad rfl hp).1 hk
      · rw [hat, hszW] at hk
        have := Option.some.inj hk
        omega
    rcases Nat.lt_or_ge i l.length with hi' | hi'
    · rw [List.getElem?_append_left hi'] at ha'
      rw [List.getElem?_append_left (by omega)] at hs'
      obtain ⟨g1, g2, g3⟩ := he i a' s' ha' hs'
      obtain ⟨k1, k2⟩ := key _ _ _ g1 g3
      exact ⟨k1, g2, k2⟩
    · have hil : i = l.length := by
        have := (List.getElem?_eq_some_iff.1 ha').1
        simp at this
        omega
      subst hil
      rw [List.getElem?_append_right (Nat.le_refl _)] at ha'
      rw [← hss, List.getElem?_append_right (Nat.le_refl _)] at hs'
      simp at ha' hs'
      subst ha'; subst hs'
      obtain ⟨k1, k2⟩ := key _ _ _ HB hap
      exact ⟨k1, HY, k2⟩
theorem RowsAt.take (h : RowsAt head byt hd w A l) (n : Nat) : RowsAt head byt hd w A (l.take n) := by
  refine ⟨fun i a ha => ?_⟩
  have hi := (List.getElem?_eq_some_iff.1 ha).1
  rw [List.length_take] at hi
  rw [List.getElem?_take_of_lt (by omega)] at ha
  exact h.row i a ha
end
end Go.Proofs.YtdeckbdaencjnaaDoor
set_option linter.unusedVariables false
set_option linter.unusedSimpArgs false
namespace Go.Proofs.YtdeckbdaencjnaaDoor
open Go.RowKit
/-- The records from the f-th to the i-th. -/
def recs60 (f n : Nat) : List (List Int) := (List.range n).map fun (t : Nat) => someL 60 ((f + t : Nat) : Int)
theorem recs60_len (f n : Nat) : (recs60 f n).length = n := by simp [recs60]
theorem recs60_snoc (f n : Nat) : recs60 f (n + 1) = recs60 f n ++ [someL 60 ((f + n : Nat) : Int)] := by
  unfold recs60
  rw [List.range_succ, List.map_append]
  rfl
theorem recs60_cons (f n : Nat) : recs60 f (n + 1) = someL 60 ((f : Nat) : Int) :: recs60 (f + 1) n := by
  unfold recs60
  rw [List.range_succ_eq_map, List.map_cons, List.map_map]
  congr 1
  apply List.map_congr_left
  intro t _
  simp only [Function.comp]
  congr 2
  omega
theorem need60 (c : Int) : need (someL 60 c).length = 2 := by rw [someL_len]; decide
theorem endAt60 : ∀ (n f : Nat) (a : Int), endAt a (recs60 f n) = a + 2 * n
  | 0, f, a => by simp [recs60, endAt]
  | n + 1, f, a => by
    rw [recs60_cons]
    simp only [endAt]
    rw [need60, endAt60 n (f + 1)]
    omega
theorem recsAt60 : ∀ (n f : Nat) (a : Int) (t : Nat), t < n → (recsAt a (recs60 f n))[t]? = some (a + 2 * t, someL 60 ((f + t : Nat) : Int))
  | 0, f, a, t, h => by omega
  | n + 1, f, a, t, h => by
    rw [recs60_cons]
    simp only [recsAt]
    rw [need60]
    cases t with
    | zero => simp
    | succ t =>
      rw [List.getElem?_cons_succ, recsAt60 n (f + 1) _ t (by omega)]
      congr 2
      · omega
      · congr 2
        omega
structure Rnd (L : Lg) (D : Dev) (k : Int) (f n : Nat) : Prop where
  from7 : From7 L D 16 (2 * (f : Int)) (recs60 f n)
  epoch : L.epoch = 1
  from_ : L.r.from_ = 1
  size : L.r.size = k
  head : L.r.head = 2 * (f : Int)
  stale : ∀ q, L.r.tail ≤ q → q < L.r.head + L.r.size → Stale (L.r.sc D q) q
  laid : ∀ q, D.laid.getD (L.r.sec q).toNat [] = L.r.sc D q
theorem Rnd.tail {L : Lg} {D : Dev} {k : Int} {f n : Nat} (h : Rnd L D k f n) : L.r.tail = 2 * ((f + n : Nat) : Int) := by
  rw [h.from7.tail, endAt60]
  omega
theorem ring_sane {k : Int} (h1 : 1 ≤ k) (h2 : k ≤ 4096) : (Rg.mk 1 k 0 0).Sane := ⟨by show (0 : Int) ≤ 1; decide, by show (1 : Int) ≤ 4096; decide, h1, h2, Int.le_refl 0, Int.le_refl 0, by show (0 : Int) ≤ 1099511627776; decide, by show (0 : Int) - 0 ≤ k; omega⟩
theorem Rnd.new {k : Int} (h1 : 4 ≤ k) (h2 : k ≤ 11) : Rnd ⟨⟨1, k, 0, 0⟩, 1, 0, false⟩ (Dev.new 16) k 0 0 := by
  have hs : (Rg.mk 1 k 0 0).Sane := ring_sane (by omega) (by omega)
  obtain ⟨_, _, h3⟩ := Laid.new (n := 16) (from_ := 1) (size := k) (head := 0) (epoch := 1) hs (by omega) (by decide) (by decide)
  refine ⟨h3.from7, rfl, rfl, rfl, rfl, fun q _ _ => .inl ?_, fun q => ?_⟩
  · have := Dev.new_sc (n := 16) hs (by show (1 : Int) + k ≤ 16; omega) q
    have e : (Lg.r ⟨⟨1, k, 0, 0⟩, 1, 0, false⟩).sc (Dev.new 16) q = zsec := this
    rw [e]
    exact zsec_read
  · have h4 := Rg.sec_in (n := 16) hs (by show (1 : Int) + k ≤ 16; omega) q
    have := Dev.new_sc (n := 16) hs (by show (1 : Int) + k ≤ 16; omega) q
    have e : (Lg.r ⟨⟨1, k, 0, 0⟩, 1, 0, false⟩).sc (Dev.new 16) q = zsec := this
    rw [e]
    show (List.replicate 16 zsec).getD (Rg.sec ⟨1, k, 0, 0⟩ q).toNat [] = zsec
    rw [List.getD_eq_getElem?_getD, List.getElem?_replicate_of_lt (by omega)]
    rfl
/-- There is room: appended and forced. -/
theorem Rnd.app {L : Lg} {D : Dev} {k : Int} {f n : Nat} (h : Rnd L D k f n) (hk : 4 ≤ k) (hn : f + n ≤ 1000) (hroom : 2 ≤ k - 2 * (n : Int)) :
    ∃ L1 D1, L.appE D (someL 60 ((f + n : Nat) : Int)) = 0 ∧ L.appP D (someL 60 ((f + n : Nat) : Int)) = 2 * ((f + n : Nat) : Int) ∧ L.app D (someL 60 ((f + n : Nat) : Int)) = L1 ∧ L.appD D (someL 60 ((f + n : Nat) : Int)) = D1 ∧ L1.forceE D1 = 0 ∧
      Rnd (L1.force D1) (L1.forceD D1) k f (n + 1) := by
  have ht := h.tail
  have hh := h.head
  have hz := h.size
  rcases h.from7.app (someL_bys 60 ((f + n : Nat) : Int)) (by rw [someL_len]; decide) with ⟨_, _, _, _, u⟩ | ⟨u1, u2, u3, u4, u5, u6, u7, u8⟩
  · rw [need60] at u
    rcases u with u | u <;> omega
  · rw [need60] at u3 u4 u6 u7
    obtain ⟨g1, g2, g3, g4, g5, g6⟩ := u6.force
    refine ⟨_, _, u1, by rw [u2, ht], u4, rfl, g1, ?_⟩
    rw [g2, g3]
    refine ⟨by rw [recs60_snoc]; exact g4, h.epoch, h.from_, h.size, h.head, fun q h1 h2 => ?_, fun q => ?_⟩
    · have h1' : L.r.tail + 2 ≤ q := h1
      have h2' : q < L.r.head + L.r.size := h2
      have e : L.r.sc (Dev.flush (L.appD D (someL 60 ((f + n : Nat) : Int)))) q = L.r.sc (L.appD D (someL 60 ((f + n : Nat) : Int))) q := g5 q
      show Stale (L.r.sc (Dev.flush (L.appD D (someL 60 ((f + n : Nat) : Int)))) q) q
      rw [e, u7 q (by omega) (by omega) (.inr h1')]
      exact h.stale q (by omega) h2'
    · have := g6 q
      show (Dev.flush (L.appD D (someL 60 ((f + n : Nat) : Int)))).laid.getD (L.r.sec q).toNat [] = L.r.sc (Dev.flush (L.appD D (someL 60 ((f + n : Nat) : Int)))) q
      have e : L.r.sc (Dev.flush (L.appD D (someL 60 ((f + n : Nat) : Int)))) q = L.r.sc (L.appD D (someL 60 ((f + n : Nat) : Int))) q := g5 q
      rw [e]
      exact this
/-- There is none: nothing is laid. -/
theorem Rnd.full {L : Lg} {D : Dev} {k : Int} {f n : Nat} (h : Rnd L D k f n) (hk : 4 ≤ k) (hn : f + n ≤ 1000) (hroom : k - 2 * (n : Int) < 2) (c : Int) :
    L.appE D (someL 60 c) = 5 ∧ L.appP D (someL 60 c) = 0 ∧ L.app D (someL 60 c) = L ∧ L.appD D (someL 60 c) = D := by
  have ht := h.tail
  have hh := h.head
  have hz := h.size
  rcases h.from7.app (someL_bys 60 c) (by rw [someL_len]; decide) with ⟨u1, u2, u3, u4, _⟩ | ⟨_, _, u3, _⟩
  · exact ⟨u1, u2, u3, u4⟩
  · rw [need60] at u3
    omega
theorem Rnd.drop {L : Lg} {D : Dev} {k : Int} {f n : Nat} (h : Rnd L D k f (n + 1)) (hk : 4 ≤ k) (hn : f + n ≤ 1000) :
    L.dropE (2 * ((f + 1 : Nat) : Int)) = 0 ∧ Rnd (L.drop (2 * ((f + 1 : Nat) : Int))) D k (f + 1) n := by
  have ht := h.tail
  have hh := h.head
  have hz := h.size
  have hf := h.from7
  rw [recs60_cons] at hf
  have hsk := hf.skip
  rw [need60] at hsk
  have ea : 2 * (f : Int) + ((2 : Nat) : Int) = 2 * ((f + 1 : Nat) : Int) := by omega
  rw [ea] at hsk
  obtain ⟨g1, g2, g3⟩ := hsk.dropTo (to := 2 * ((f + 1 : Nat) : Int)) (by omega) (Int.le_refl _)
  refine ⟨g1, ?_⟩
  rw [g2]
  refine ⟨g3, h.epoch, h.from_, h.size, rfl, fun q h1 h2 => ?_, h.laid⟩
  have h1' : L.r.tail ≤ q := h1
  have h2' : q < 2 * ((f + 1 : Nat) : Int) + L.r.size := h2
  show Stale (L.r.sc D q) q
  by_cases hlt : q < L.r.head + L.r.size
  · exact h.stale q h1' hlt
  · obtain ⟨j, hj⟩ : ∃ j : Nat, q - L.r.size = 2 * (f : Int) + j := ⟨(q - L.r.size - 2 * f).toNat, by omega⟩
    have hj2 : j < 2 := by omega
    have hsec : L.r.sec q = L.r.sec (q - L.r.size) := by
      unfold Rg.sec
      have : q % L.r.size = (q - L.r.size) % L.r.size := by rw [Int.sub_emod, Int.emod_self, Int.sub_zero, Int.emod_emod]
      rw [this]
    have hsc : L.r.sc D q = L.r.sc D (2 * (f : Int) + j) := by
      unfold Rg.sc
      rw [hsec, hj]
    have hr := hf.ok.1
    have hhas := hf.has j (by simp only [flat, List.length_append, cutL_len]; rw [need60]; omega)
    rw [need_flat _ _ _ _ _ (by rw [need60]; exact hj2)] at hhas
    have hx := Option.some.inj hhas
    obtain ⟨_, hp⟩ := hr.read (k := j) (by rw [need60]; exact hj2)
    rw [hsc, ← hx]
    refine .inr ?_
    rw [hp]
    show 2 * (f : Int) + (j : Int) ≠ q
    omega
theorem Rnd.opens {L : Lg} {D : Dev} {k : Int} {f n : Nat} (h : Rnd L D k f n) :
    opened (D.crash []) 1 k L.r.head 2 = (recsAt (2 * (f : Int)) (recs60 f n), L.r.tail) := by
  have hf := h.from7
  rw [← h.head] at hf ⊢
  have hat : ∀ q, L.r.sc (D.crash []) q = L.r.sc D q := by
    intro q
    have : L.r.sc (D.crash []) q = D.laid.getD (L.r.sec q).toNat [] := Dev.crash_nil_at D _
    rw [this, h.laid]
  have := hf.opens (D' := D.crash []) (epoch := 2) (fun hlt => by rw [hat]; exact h.stale _ (Int.le_refl _) hlt) (fun q _ _ => hat q) (by rw [h.epoch]; decide)
  rw [h.from_, h.size] at this
  exact this
end Go.Proofs.YtdeckbdaencjnaaDoor
set_option linter.unusedVariables false
set_option linter.unusedSimpArgs false
namespace Go.Proofs.YtdeckbdaencjnaaDoor
open Go.RowKit
theorem recsAt_take : ∀ (R : List (List Int)) (a : Int) (m : Nat), recsAt a (R.take m) = (recsAt a R).take m
  | [], a, m => by simp [recsAt]
  | b :: R, a, 0 => by simp [recsAt]
  | b :: R, a, m + 1 => by simp [recsAt, recsAt_take R]
def ring0 : Rg := ⟨0, 64, 0, 0⟩
theorem ring0_sane : ring0.Sane := ⟨by decide, by decide, by decide, by decide, by decide, by decide, by decide, by decide⟩
theorem ring0_get (D : Dev) (i : Nat) (x : List Int) (h : (ringSecs D ring0)[i]? = some x) : i < 64 ∧ x = ring0.sc D i := by
  have hi := (List.getElem?_eq_some_iff.1 h).1
  rw [ringSecs_len] at hi
  have hi' : i < 64 := hi
  rw [ringSecs_at _ _ _ hi] at h
  have := Option.some.inj h
  refine ⟨hi', ?_⟩
  rw [← this]
  show ring0.sc D (0 + i) = _
  rw [Int.zero_add]
theorem ring0_at (D : Dev) (i : Nat) (h : i < 64) : (ringSecs D ring0)[i]? = some (ring0.sc D i) := by
  rw [ringSecs_at _ _ _ h]
  show some (ring0.sc D (0 + i)) = _
  rw [Int.zero_add]
theorem endAt_flat (E : Int) (R : List (List Int)) : endAt 0 R = ((flat E 0 R).length : Int) := by
  have := flatE_len E R 0
  omega
/-- The first epoch, behind its crash. -/
structure Ep1 (D2 : Dev) (M : List (List Int)) (last : Int) : Prop where
  good : Good D2 64
  bys : SecBys D2
  laid : ∀ j, D2.at j = D2.laid.getD j []
  opened : opened D2 0 64 0 2 = (recsAt 0 M, endAt 0 M)
  fits : endAt 0 M ≤ 64
  ok : AllOk 1 0 M
  has : ∀ i, i < (flat 1 0 M).length → (ringSecs D2 ring0)[i]? = (flat 1 0 M)[i]?
  ends : Ends 2 ((ringSecs D2 ring0).drop (flat 1 0 M).length) (endAt 0 M) last
  last0 : M = [] → last = 0
  last1 : M ≠ [] → last = 1
  old : ∀ x ∈ ringSecs D2 ring0, Of1 x
theorem Ep1.of {L : Lg} {D : Dev} {R : List (List Int)} (h : Laid L D 64 R (fun _ => zsec)) (e0 : L.epoch = 1) (e1 : L.r.from_ = 0) (e2 : L.r.size = 64) (e3 : L.r.head = 0) (hl : D.laid = (Dev.new 64).laid) (keep : List Bool) :
    ∃ M last, Ep1 (D.crash keep) M last ∧ M.length ≤ R.length := by
  obtain ⟨c1, c2, c3⟩ := Good.crash h.good.laid h.good.late keep
  have hsc : ∀ (D : Dev) (q : Int), L.r.sc D q = ring0.sc D q := fun D q => Rg.sc_congr (by rw [e1]; rfl) (by rw [e2]; rfl) q rfl
  have hok := h.ok
  have hhas := h.has
  have hrest := h.rest
  have htl := h.tail
  have hft := h.sane.fit
  rw [e0, e3] at hok hhas
  rw [e3, e2] at hrest
  rw [e3, e2] at hft
  rw [e3] at htl
  have hfe := endAt_flat 1 R
  have hz : ∀ q : Int, D.laid.getD (ring0.sec q).toNat [] = zsec := by
    intro q
    rw [hl]
    have h4 := Rg.sec_in (n := 64) ring0_sane (by decide) q
    show (List.replicate 64 zsec).getD (ring0.sec q).toNat [] = zsec
    rw [List.getD_eq_getElem?_getD, List.getElem?_replicate_of_lt (by omega)]
    rfl
  have hc : ∀ (i : Nat) (x : List Int), (ringSecs (D.crash keep) ring0)[i]? = some x → Elder x 0 ∨ (flat 1 0 R)[i]? = some x := by
    intro i x hx
    obtain ⟨hi, rfl⟩ := ring0_get _ _ _ hx
    rcases c3 (ring0.sec i).toNat with e | e
    · have e' : ring0.sc (D.crash keep) i = zsec := by show (D.crash keep).at _ = _; rw [e, hz]
      rw [e']
      exact .inl (zsec_elder 0)
    · have e' : ring0.sc (D.crash keep) i = ring0.sc D i := e
      rw [e']
      by_cases hlt : i < (flat 1 0 R).length
      · have := hhas i hlt
        rw [Int.zero_add, hsc] at this
        exact .inr this
      · have := hrest (i : Int) (by omega) (by omega)
        rw [hsc] at this
        rw [this]
        exact .inl (zsec_elder 0)
  obtain ⟨m, last, g1, g2, g3, g4, g5, g6, g7⟩ := scan_sure2 (E := 1) (epoch := 2) (by decide) R 65 (ringSecs (D.crash keep) ring0) 0 0 (by rw [ringSecs_len]; decide) (by decide) hok (sure_elder R _ _ _ 0 (Int.le_refl _) (by decide) hok hc)
  have hflen : (flat 1 0 (R.take m)).length ≤ 64 := by
    obtain ⟨t, ht⟩ := flat_take 1 R 0 m
    have : (flat 1 0 R).length = (flat 1 0 (R.take m)).length + t.length := by rw [ht, List.length_append]
    omega
  have hokm : AllOk 1 0 (R.take m) := by
    have : ∀ (R : List (List Int)) (a : Int) (m : Nat), AllOk 1 a R → AllOk 1 a (R.take m) := by
      intro R
      induction R with
      | nil => intro a m _; simp [AllOk]
      | cons b R ih =>
        intro a m h
        cases m with
        | zero => exact trivial
        | succ m => exact ⟨h.1, ih _ _ h.2⟩
    exact this R 0 m hok
  refine ⟨R.take m, last, ⟨c1, h.bys.crash keep, c2, g2, ?_, hokm, HasAll.at _ _ _ g3, g5, g6, g7, fun x hx => ?_⟩, List.length_take_le' m R⟩
  · rw [endAt_flat 1]; omega
  · obtain ⟨i, hi⟩ := List.mem_iff_getElem?.1 hx
    rcases hc i x hi with h1 | h1
    · rcases h1 with h1 | h1
      · exact .inl h1
      · by_cases hr : readE x = 0
        · have := (Pc.of_readE hr).1.e0
          omega
        · exact .inl hr
    · exact .inr (flat_epoch R 0 hok x (List.mem_of_getElem? h1)).2
/-- The second epoch. -/
structure Ep2 (D2 : Dev) (t : Int) (L : Lg) (D : Dev) (R : List (List Int)) : Prop where
  from7 : From7 L D 64 t R
  epoch : L.epoch = 2
  from_ : L.r.from_ = 0
  size : L.r.size = 64
  head : L.r.head = 0
  laid : D.laid = D2.laid
  out : ∀ q : Int, 0 ≤ q → q < 64 → (q < t ∨ L.r.tail ≤ q) → ring0.sc D q = ring0.sc D2 q
theorem Ep1.next {D2 : Dev} {M : List (List Int)} {last : Int} (h : Ep1 D2 M last) : Ep2 D2 (endAt 0 M) (openL D2 0 64 0 2) D2 [] := by
  have ht : (openL D2 0 64 0 2).r.tail = endAt 0 M := by show (Go.Proofs.YtdeckbdaencjnaaDoor.opened D2 0 64 0 2).2 = _; rw [h.opened]
  have h0 := endAt_ge M 0
  have hf := h.fits
  refine ⟨⟨h.good, h.bys, ⟨Int.le_refl 0, by show (0 : Int) ≤ 4096; decide, by show (1 : Int) ≤ 64; decide, by show (64 : Int) ≤ 4096; decide, Int.le_refl 0, by rw [ht]; show (0 : Int) ≤ _; omega, by rw [ht]; omega, by rw [ht]; show _ - (0 : Int) ≤ 64; omega⟩, by show (0 : Int) + 64 ≤ 64; decide, rfl, by show (0 : Int) ≤ 2; decide, by show (2 : Int) ≤ 4294967295; decide, by show (0 : Int) ≤ _; omega, ht, trivial, fun i hi => by simp [flat] at hi⟩, rfl, rfl, rfl, rfl, rfl, fun q _ _ _ => rfl⟩
theorem Ep2.app {D2 : Dev} {t : Int} {L : Lg} {D : Dev} {R : List (List Int)} (h : Ep2 D2 t L D R) (h0 : 0 ≤ t) {b : List Int} (hb : Bys b) (hn : b.length ≤ 44000) :
    (L.appE D b = 5 ∧ L.app D b = L ∧ L.appD D b = D) ∨ (L.appE D b = 0 ∧ L.appP D b = endAt t R ∧ Ep2 D2 t (L.app D b) (L.appD D b) (R ++ [b])) := by
  have e1 := h.from_
  have e2 := h.size
  have e3 := h.head
  have hsc : ∀ (D : Dev) (q : Int), L.r.sc D q = ring0.sc D q := fun D q => Rg.sc_congr (by rw [e1]; rfl) (by rw [e2]; rfl) q rfl
  have ht := h.from7.tail
  have hge := endAt_ge R t
  rcases h.from7.app hb hn with ⟨u1, u2, u3, u4, _⟩ | ⟨u1, u2, u3, u4, u5, u6, u7, u8⟩
  · exact .inl ⟨u1, u3, u4⟩
  · refine .inr ⟨u1, by rw [u2, ht], ?_⟩
    rw [u4]
    refine ⟨u6, h.epoch, e1, e2, e3, by rw [u5]; exact h.laid, fun q q0 q1 q2 => ?_⟩
    have q2' : q < t ∨ L.r.tail + need b.length ≤ q := q2
    rw [← hsc, u7 q (by omega) (by omega) (by omega), hsc]
    exact h.out q q0 q1 (by omega)
/-- What is told the third time, of a device as the second epoch left it. -/
theorem Ep2.third {D2 : Dev} {M : List (List Int)} {last : Int} (h1 : Ep1 D2 M last) {L : Lg} {D : Dev} {R : List (List Int)} (h : Ep2 D2 (endAt 0 M) L D R) (D5 : Dev)
    (hc : ∀ q : Int, ring0.sc D5 q = ring0.sc D2 q ∨ ring0.sc D5 q = ring0.sc D q) :
    ∃ m, m ≤ R.length ∧ (opened D5 0 64 0 3).1 = recsAt 0 M ++ recsAt (endAt 0 M) (R.take m) ∧ ((∀ q : Int, ring0.sc D5 q = ring0.sc D q) → m = R.length) := by
  have hsc : ∀ (D : Dev) (q : Int), L.r.sc D q = ring0.sc D q := fun D q => Rg.sc_congr (by rw [h.from_]; rfl) (by rw [h.size]; rfl) q rfl
  have hfl := endAt_flat 1 M
  have hok := h.from7.ok
  have hhas := h.from7.has
  rw [h.epoch] at hok hhas
  have hfe2 := flatE_len 2 R (endAt 0 M)
  rw [← h.from7.tail] at hfe2
  have hft := h.from7.sane.fit
  rw [h.head, h.size] at hft
  obtain ⟨k1, hk1⟩ : ∃ k1, k1 = (flat 1 0 M).length := ⟨_, rfl⟩
  have hfits := h1.fits
  have hlow : ∀ i : Nat, i < k1 → ring0.sc D5 i = ring0.sc D2 i := by
    intro i hi
    rcases hc i with e | e
    · exact e
    · rw [e]
      exact h.out i (by omega) (by omega) (.inl (by omega))
  have hflat : ∀ i : Nat, i < (flat 2 (endAt 0 M) R).length → (flat 2 (endAt 0 M) R)[i]? = some (ring0.sc D ((k1 + i : Nat) : Int)) := by
    intro i hi
    have := hhas i hi
    rw [hsc] at this
    rw [this]
    congr 2
    omega
  have hget : ∀ (i : Nat) (x : List Int), ((ringSecs D5 ring0).drop k1)[i]? = some x → k1 + i < 64 ∧ x = ring0.sc D5 ((k1 + i : Nat) : Int) := by
    intro i x hx
    rw [List.getElem?_drop] at hx
    exact ring0_get _ _ _ hx
  have hmix : ∀ (i : Nat) (x : List Int), ((ringSecs D5 ring0).drop k1)[i]? = some x → ((ringSecs D2 ring0).drop k1)[i]? = some x ∨ (flat 2 (endAt 0 M) R)[i]? = some x := by
    intro i x hx
    obtain ⟨hi, rfl⟩ := hget i x hx
    have hold : ring0.sc D5 ((k1 + i : Nat) : Int) = ring0.sc D2 ((k1 + i : Nat) : Int) → ((ringSecs D2 ring0).drop k1)[i]? = some (ring0.sc D5 ((k1 + i : Nat) : Int)) := by
      intro e
      rw [List.getElem?_drop, ring0_at _ _ hi, e]
    rcases hc ((k1 + i : Nat) : Int) with e | e
    · exact .inl (hold e)
    · by_cases hlt : i < (flat 2 (endAt 0 M) R).length
      · rw [e]
        exact .inr (hflat i hlt)
      · exact .inl (hold (by rw [e]; exact h.out _ (by omega) (by omega) (.inr (by omega))))
  obtain ⟨m, m1, m2, m3⟩ := scan_two (P := ringSecs D2 ring0) (l := ringSecs D5 ring0) (R1 := M) (R2 := R) (last := last) (f := 65) (by rw [ringSecs_len]; decide) ⟨h1.last0, h1.last1⟩ h1.ok hok h1.old (fun i hi => by
      rw [← h1.has i hi]
      rw [ring0_at _ _ (by omega), ring0_at _ _ (by omega), hlow i (by omega)]) h1.ends (by rw [← hk1]; exact hmix)
  refine ⟨m, m1, m2, fun hall => m3 (fun i hi => ?_)⟩
  rw [← hk1, List.getElem?_drop, ring0_at _ _ (by omega), hall, hflat i hi]
/-- Not forced, and crashed. -/
theorem Ep2.crash {D2 : Dev} {M : List (List Int)} {last : Int} (h1 : Ep1 D2 M last) {L : Lg} {D : Dev} {R : List (List Int)} (h : Ep2 D2 (endAt 0 M) L D R) (hold : List Bool) :
    ∃ m, m ≤ R.length ∧ (opened (D.crash hold) 0 64 0 3).1 = recsAt 0 M ++ recsAt (endAt 0 M) (R.take m) := by
  obtain ⟨c1, c2, c3⟩ := Good.crash h.from7.good.laid h.from7.good.late hold
  obtain ⟨m, m1, m2, _⟩ := h.third h1 (D.crash hold) (fun q => by
    rcases c3 (ring0.sec q).toNat with e | e
    · left
      show (D.crash hold).at _ = D2.at _
      rw [e, h.laid, h1.laid]
    · exact .inr e)
  exact ⟨m, m1, m2⟩
/-- Forced, and crashed. -/
theorem Ep2.forced {D2 : Dev} {M : List (List Int)} {last : Int} (h1 : Ep1 D2 M last) {L : Lg} {D : Dev} {R : List (List Int)} (h : Ep2 D2 (endAt 0 M) L D R) (hold : List Bool) :
    (opened (D.flush.crash hold) 0 64 0 3).1 = recsAt 0 M ++ recsAt (endAt 0 M) R := by
  obtain ⟨g1, g2, g3, g4⟩ := h.from7.good.flush
  obtain ⟨c1, c2, c3⟩ := Good.crash g2.laid g2.late hold
  have hsec : ∀ q, (ring0.sec q).toNat < 64 := fun q => by have := Rg.sec_in (n := 64) ring0_sane (by decide) q; omega
  have hall : ∀ q : Int, ring0.sc (D.flush.crash hold) q = ring0.sc D q := by
    intro q
    rcases c3 (ring0.sec q).toNat with e | e
    · show (D.flush.crash hold).at _ = D.at _
      rw [e, g4 _ (hsec q)]
    · show (D.flush.crash hold).at _ = D.at _
      rw [e, g3 _ (hsec q)]
  obtain ⟨m, m1, m2, m3⟩ := h.third h1 (D.flush.crash hold) (fun q => .inr (hall q))
  rw [m2, m3 hall, List.take_length]
end Go.Proofs.YtdeckbdaencjnaaDoor
