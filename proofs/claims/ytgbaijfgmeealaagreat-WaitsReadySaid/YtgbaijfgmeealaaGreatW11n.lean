/-
  heronry/waits: the step of Stuck (Stuck$1): the kids, and whom one waits for. heronry/waits: Stuck, its map of whom each one waits for; and its loop. Conditions: none.
-/
import Derived.Test.YtgbaijfgmeealaaGreatW11l
import Derived.Test.YtgbaijfgmeealaaGreatW11e
import Derived.Test.YtgbaijfgmeealaaGreatTail
import Derived.Test.YtgbaijfgmeealaaGreatK10p
import Derived.Test.YtgbaijfgmeealaaGreatTurn2
import Derived.Test.YtgbaijfgmeealaaGreatTurnB
set_option linter.unusedVariables false
set_option linter.unusedSimpArgs false
namespace Go.Proofs.YtgbaijfgmeealaaGreat
open Go.RowKit
open Go.ChangeMaps (setBlock)
theorem und_wmap : Tryz.prog.underlying 58 = some (.map 3 37) := by kernel_rfl
theorem zero_ints9 (w : World) : (zeroValue 37).run Tryz.prog w = .ok (.slice none 0 0) w := Tryz.zeroValue37 w
/-- A map of rows of integers. -/
structure WMapAt (w : World) (base mb : Nat) (f : Value → Option Value) (M : Int → List Int) : Prop where
  ex : ∃ es clock, w.heap[mb]? = some (.map es clock) ∧ MapIs Tryz.prog 3 es clock f
  nil : ∀ x : Int, f (.int .i64 x) = none → M x = []
  row : ∀ (x : Int) v, f (.int .i64 x) = some v → w.ownsRow base 3 1 v (M x).length ((M x).flatMap fI)
  apart : ∀ (x y : Int) v u k, f (.int .i64 x) = some v → f (.int .i64 y) = some u → v.ownBlock = some k → u.ownBlock = some k → x = y
theorem WMapAt.keep0 {w w' : World} {base mb : Nat} {f : Value → Option Value} {M : Int → List Int} (h : WMapAt w base mb f M) (hf : Fr F0 w w') : WMapAt w' base mb f M := by
  obtain ⟨es, clock, h1, h2⟩ := h.ex
  exact ⟨⟨es, clock, hf.keep0 h1, h2⟩, h.nil, fun x v hx => own_keep0 (h.row x v hx) hf, h.apart⟩
section
variable {w : World} {u : Value} {X : List Tx9}
set_option maxRecDepth 100000 in
set_option maxHeartbeats 4000000 in
theorem stuck1_c (clk x : Int) (tb lb base mb : Nat) {f : Value → Option Value} {M : Int → List Int} (hX : SlV 4 Tx9.cells w u X) (hXn : X.length ≤ 64) (hid : isId X x = true) (htb : w.heap[tb]? = some (.cells #[u, .int .i64 clk] 31 (0, 0))) (hlb : w.heap[lb]? = some (.cells #[.map (some mb)] 58 (0, 0)))
    (hM : WMapAt w base mb f M) (hl : (M x).length ≤ 10000000) :
    Calls Tryz.prog 22 #[.int .i64 x, .pointer (some ⟨tb, 0, none⟩), .pointer (some ⟨lb, 0, none⟩)] w fun e w' => ∃ v', e = .returned v' ∧ w'.ownsRow w.heap.size 3 1 v' (kidsL X x ++ M x).length ((kidsL X x ++ M x).map (Value.int .i64)) ∧ Fr F0 w w' := by
  obtain ⟨Ax, cx, rfl, hs, -⟩ := hX.ex
  obtain ⟨nx, hnx⟩ : ∃ nx, nx = X.length := ⟨_, rfl⟩
  rw [← hnx] at hX htb
  have hXid := isId_iff.1 hid
  have HX := Lib.hid hX
  have HXN := Lib.hid hXn
  have HID := Lib.hid hid
  have HTB := Lib.hid htb
  have HLB := Lib.hid hlb
  have HL := Lib.hid hl
  obtain ⟨es, clock, hm, hmi⟩ := hM.ex
  obtain ⟨vM, hvM⟩ : ∃ vM, vM = (f (.int .i64 x)).getD (.slice none 0 0) := ⟨_, rfl⟩
  have HLK : Hid (∀ wx, Fr F0 w wx → (Instr.lookup 58 (.map (some mb)) (.int .i64 x) false).run Tryz.prog wx = .ok vM wx) := Lib.hid (fun wx hG => by
    have h1 := hmi.look (t := 58) (e := 37) keyed9_int und_wmap (hG.keep0 hm) (key9 x hXid.1 (by omega)) (zero_ints9 wx) false
    rw [hvM]
    simpa using h1)
  have HOM : Hid (w.ownsRow base 3 1 vM (M x).length ((M x).flatMap fI)) := Lib.hid (by
    cases hfx : f (.int .i64 x) with
    | none => rw [hvM, hfx, hM.nil x hfx]; exact own_nil _ _ _ _
    | some v => rw [hvM, hfx]; exact hM.row x v hfx)
  have HKL : Hid ((kidsL X x).length ≤ 64) := Lib.hid (by
    unfold kidsL
    split
    · exact Nat.le_trans (kidsTo_len _ _ _) hXn
    · simp)
  clear hX hXn hid htb hlb hl hm hmi hvM hM hs hXid hnx
  go_enter Tryz.func22, Tryz.ntmps22
  go_wp2_with fail
  refine wp_region_tail (S := F0) [false, false, false, false, true, true, true, true, true, true, true, true] [.eq (.agg #[.slice Ax nx cx, .int .i64 clk]), .eq (.int .i64 x), ⟨fun v w1 => w1.ownsRow w.heap.size 3 1 v (kidsL X x).length ((kidsL X x).flatMap fI), fun v w1 w2 h hf => own_keep0 h hf⟩, .eq (.map (some mb)), .eq (.int .i64 x), .eq (vM), .any, .any] 6 (by kernel_rfl) (by kernel_rfl) (by rfl) (by kernel_rfl) (fun us => ?steps) (fun us wz hG hall => ?fin)
  case steps =>
    simp only [fillL, Nat.reduceAdd]
    refine stepsHold.cons (fun wx hG hd K hK => ?_) ?_
    · rw [if_pos (wanted_none rfl)]
      have hc : wx.cell? ⟨tb, 0, none⟩ = some (.slice Ax nx cx) := by rw [cell_of (hG.keep0 HTB.out)]; rfl
      have hc1 : wx.cell? ⟨tb, 1, none⟩ = some (.int .i64 clk) := by rw [cell_of (hG.keep0 HTB.out)]; rfl
      refine wp_value (w2 := wx) (v := .agg #[.slice Ax nx cx, .int .i64 clk]) ?_ (hK _ _ rfl (Fr.refl _ _))
      clear hd hK
      go_simp
    refine stepsHold.cons (fun wx hG hd K hK => ?_) ?_
    · rw [if_pos (wanted_none rfl)]
      refine wp_value (w2 := wx) (v := .int .i64 x) ?_ (hK _ _ rfl (Fr.refl _ _))
      clear hd hG hK
      go_simp
    refine stepsHold.cons (fun wx hG hd K hK => ?_) ?_
    · have h5 : us 5 = (.agg #[.slice Ax nx cx, .int .i64 clk]) := deps_get hd 0 rfl rfl rfl rfl rfl
      have h6 : us 6 = (.int .i64 x) := deps_get hd 1 rfl rfl rfl rfl rfl
      rw [if_pos (wanted_none rfl)]
      refine wp_call (w2 := wx) (f := 23) (args := #[.agg #[.slice Ax nx cx, .int .i64 clk], .int .i64 x]) ?_ ?_
      · clear hd hK
        go_simp
      · refine (kids_c clk x (HX.out.keep0 hG) HXN.out HID.out).mono ?_
        rintro e w9 ⟨v9, rfl, hown9, hf9⟩
        exact ⟨_, rfl, hK _ _ (own_lower (by rw [← fI_flat]; exact hown9) hG.size) hf9⟩
    refine stepsHold.cons (fun wx hG hd K hK => ?_) ?_
    · rw [if_pos (wanted_none rfl)]
      have hc : wx.cell? ⟨lb, 0, none⟩ = some (.map (some mb)) := by rw [cell_of (hG.keep0 HLB.out)]; rfl
      refine wp_value (w2 := wx) (v := .map (some mb)) ?_ (hK _ _ rfl (Fr.refl _ _))
      clear hd hK
      go_simp
    refine stepsHold.cons (fun wx hG hd K hK => ?_) ?_
    · rw [if_pos (wanted_none rfl)]
      refine wp_value (w2 := wx) (v := .int .i64 x) ?_ (hK _ _ rfl (Fr.refl _ _))
      clear hd hG hK
      go_simp
    refine stepsHold.cons (fun wx hG hd K hK => ?_) ?_
    · have h8 : us 8 = (.map (some mb)) := deps_get hd 0 rfl rfl rfl rfl rfl
      have h9 : us 9 = (.int .i64 x) := deps_get hd 1 rfl rfl rfl rfl rfl
      rw [if_pos (wanted_none rfl)]
      have hr := HLK.out wx hG
      refine wp_value (w2 := wx) (v := vM) ?_ (hK _ _ rfl (Fr.refl _ _))
      clear hd hG hK
      go_simp
    exact stepsHold.nil
  case fin =>
    have h5 : us 5 = (.agg #[.slice Ax nx cx, .int .i64 clk]) := all_get hall 0 rfl rfl rfl
    have h6 : us 6 = (.int .i64 x) := all_get hall 1 rfl rfl rfl
    have h7 := all_get hall 2 rfl rfl rfl
    have h8 : us 8 = (.map (some mb)) := all_get hall 3 rfl rfl rfl
    have h9 : us 9 = (.int .i64 x) := all_get hall 4 rfl rfl rfl
    have h10 : us 10 = (vM) := all_get hall 5 rfl rfl rfl
    simp only [fillL, Nat.reduceAdd]
    clear hall
    simp only [h5, h6, h8, h9, h10]
    clear h5 h6 h8 h9 h10
    simp only [List.drop_succ_cons, List.drop_zero]
    generalize us 11 = y11
    generalize us 4 = y4
    generalize us 7 = v7 at h7 ⊢
    have hO7 : wz.ownsRow w.heap.size 3 1 v7 (kidsL X x).length ((kidsL X x).flatMap fI) := h7
    have HO7 := Lib.hid hO7
    have HF := Lib.hid hG
    have HOM9 := own_keep0 HOM.out hG
    have HLN : Hid (((kidsL X x).length + (M x).length) * 8 ≤ 140737488355328) := Lib.hid (by have h1 := HKL.out; have h2 := HL.out; omega)
    clear h7 hO7 hG
    rcases HOM9.2 with ⟨rfl, h0⟩ | ⟨gE, capE, curE, rfl, -⟩
    · have hE0 : M x = [] := List.eq_nil_of_length_eq_zero h0
      have HE0 : Hid (kidsL X x ++ M x = kidsL X x) := Lib.hid (by rw [hE0, List.append_nil])
      have hv7 : v7 = .slice none 0 0 ∨ ∃ b n c, n ≤ c ∧ v7 = .slice (some ⟨b, 0, none⟩) n c := by
        rcases HO7.out.2 with ⟨h, _⟩ | ⟨b, c, _, h, _, _, hnc, _⟩
        · exact .inl h
        · exact .inr ⟨b, _, c, hnc, h⟩
      have HAPN := Lib.hid (app_none_int wz v7 hv7)
      clear hE0 h0 HOM9 hv7
      go_wp2_with (at_builtin; refine Lib.wpList_append_run _ rfl (.tmp 7) (.tmp 10) _ _ rfl v7 (.slice none 0 0) (by rfl) (by rfl) _ _ (HAPN.out _) ?_)
      go_ret
      exact ⟨_, rfl, by rw [HE0.out, fI_flat]; exact HO7.out, HF.out⟩
    · obtain ⟨A', c', e', hsr', -⟩ := SrAt.of_own (f := fI) (fun _ => rfl) HOM9
      cases e'
      have HSR := Lib.hid hsr'
      obtain ⟨mE, hmE⟩ : ∃ mE, mE = (M x).length := ⟨_, rfl⟩
      have HME := Lib.hid hmE
      clear HOM9 hsr'
      rw [← hmE]
      clear hmE
      go_wp2_with (at_builtin; refine wpList_append_rowS (f := fI) rfl (.tmp 7) (.tmp 10) 37 8 (.int .i64 0) rfl Tryz.underlying37 info_int9 (by rfl) (by decide) (by decide) (fun _ => rfl) (by intro x u hu; simp [fI] at hu; subst hu; rfl) w.heap.size v7 (kidsL X x) (M x) gE 0 capE (by rfl) (by first | rfl | (rw [← HME.out]; rfl)) HO7.out HSR.out HF.out.size HLN.out ?_; intro v5 w5 hown5 hf5 _)
      go_ret
      exact ⟨v5, rfl, by have h := hown5; rw [← fI_flat] at h; simpa using h, HF.out.trans hf5 (fun k hk => .inr (own_base HO7.out k hk))⟩
end
end Go.Proofs.YtgbaijfgmeealaaGreat
set_option linter.unusedVariables false
set_option linter.unusedSimpArgs false
namespace Go.Proofs.YtgbaijfgmeealaaGreat
open Go.RowKit
open Go.ChangeMaps (setBlock)
theorem fI_one (x : Int) : ∀ u ∈ fI x, u.oneCell' = true := by
  intro u hu
  simp [fI] at hu
  subst hu
  rfl
theorem und_edge : ∃ d, Tryz.prog.underlying 62 = some d ∧ aggDesc d = true := ⟨_, Tryz.underlying62, rfl⟩
theorem size_edge : (Tryz.prog.info? 62).map (·.size) = some 2 := by kernel_rfl
/-- Whom one waits for. -/
def toOf (X : List Tx9) (E : List Ed) (x : Int) : List Int := (E.filter fun e => decide (e.from_ = x) && isId X e.to_).map (·.to_)
theorem toOf_step (X : List Tx9) (E : List Ed) (e : Ed) (x : Int) : toOf X (E ++ [e]) x = toOf X E x ++ (if e.from_ = x ∧ isId X e.to_ = true then [e.to_] else []) := by
  unfold toOf
  rw [List.filter_append, List.map_append]
  by_cases h : e.from_ = x ∧ isId X e.to_ = true
  · rw [if_pos h]; simp [h.1, h.2]
  · rw [if_neg h]
    have : (decide (e.from_ = x) && isId X e.to_) = false := by
      cases hh : (decide (e.from_ = x) && isId X e.to_) with
      | false => rfl
      | true => simp at hh; exact absurd hh h
    simp [this]
theorem toOf_len (X : List Tx9) (E : List Ed) (x : Int) : (toOf X E x).length ≤ E.length := by
  unfold toOf
  rw [List.length_map]
  exact List.length_filter_le _ _
theorem toOf_id {X : List Tx9} {E : List Ed} {x y : Int} (h : y ∈ toOf X E x) : isId X y = true := by
  unfold toOf at h
  obtain ⟨e, he, rfl⟩ := List.mem_map.1 h
  have := (List.mem_filter.1 he).2
  simp at this
  exact this.2
theorem edL_from {X : List Tx9} {L : List Lk} {Q : List Wn} (hq : ∀ x ∈ Q, x.Ok) {e : Ed} (he : e ∈ edL X L Q) : 0 ≤ e.from_ ∧ e.from_ < 64 := by
  obtain ⟨l, hl, hel⟩ := List.mem_flatten.1 he
  obtain ⟨k, -, rfl⟩ := List.mem_map.1 hl
  unfold edgesOf at hel
  cases h : (wtL X L Q)[k]? with
  | none => rw [h] at hel; simp at hel
  | some a =>
    rw [h] at hel
    have ha := List.mem_of_getElem? h
    unfold wtL at ha
    obtain ⟨x, hx, rfl⟩ := List.mem_map.1 ha
    have hok := hq x hx
    have hfx : e.from_ = x.tx := by
      rcases List.mem_append.1 hel with h1 | h1
      · unfold edAg at h1
        obtain ⟨of, -, rfl⟩ := List.mem_map.1 h1
        rfl
      · unfold edAhead at h1
        obtain ⟨b, -, rfl⟩ := List.mem_map.1 h1
        rfl
    rw [hfx]
    exact ⟨hok.t0, hok.t1⟩
theorem edL_len {X : List Tx9} {L : List Lk} {Q : List Wn} (hL : SaneL L) (hn : Q.length ≤ 64) : (edL X L Q).length ≤ 6400000 := by
  unfold edL
  have h1 := flat_le ((List.range Q.length).map (edgesOf X (wtL X L Q))) (fun E hE => by
    obtain ⟨k, -, rfl⟩ := List.mem_map.1 hE
    exact edgesOf_len hL hn k)
  rw [List.length_map, List.length_range] at h1
  have : Q.length * 100000 ≤ 64 * 100000 := Nat.mul_le_mul_right _ hn
  omega
section
variable {α : Type} {m : Nat} {f : α → List Value}
/-- A store into a map, as one operation of a region that draws its order. -/
theorem wp_mapUpdate_is {P : Program} {o : Oper} {a : Act} {w : World} {K : Act → World → Prop} {Q : Exit → Act → World → Prop} (m x v : Operand) (t : TypeId) (hop : o.op = Op.mapUpdate t m x v) {k e : TypeId} {es : Array MapEntry} {clock : Nat} {f : Value → Option Value}
    (Kd : Go.Maps.Keyed P k) (ht : P.underlying t = some (.map k e)) (b : Nat) (hb : w.heap[b]? = some (.map es clock)) (hM : MapIs P k es clock f)
    (hm : a.eval m = .map (some b)) (key val : Value) {kl : Lit} (hx : a.eval x = key) (hv : a.eval v = val) (hkey : keyOf P k key = some kl)
    (hK : ∀ es' clock', MapIs P k es' clock' (upd f key val) → K (a.put o.dst undef) (setBlock w b (.map es' clock'))) : Oper.wp P o a w K Q := by
  obtain ⟨es', c', hrun, hM'⟩ := hM.store Kd ht hb hkey val
  unfold Oper.wp
  simp [execOp, hop, hm, hx, hv, hrun, Result.andThen]
  exact hK es' c' hM'
/-- An append of one element, as one operation of a region that draws its order; and where it lies. -/
theorem wp_append_oneT {P : Program} {o : Oper} {a : Act} {K : Act → World → Prop} {Q : Exit → Act → World → Prop} {W : World} {t : TypeId} (s x : Operand) (ts : TypeId) (bytes : Nat) (z : Value)
    (ho : o.op = .call { callee := .builtin .append, args := #[s, x], argTypes := #[ts, ts] })
    (ht : P.underlying ts = some (.slice t)) (hinfo : (P.info? t).map (fun i => (i.zero, i.size, i.bytes)) = some (some z, m, bytes)) (hz : z.cells.size = m) (hm0 : 0 < m) (hb0 : 0 < bytes)
    (hm : ∀ x, (f x).length = m) (h1 : ∀ x, ∀ u ∈ f x, u.oneCell' = true)
    (base : Nat) (v : Value) (l : List α) (y : α) (b : Nat) (hs : a.eval s = v) (hx : a.eval x = .slice (some ⟨b, 0, none⟩) 1 1)
    (hbW : W.heap[b]? = some (.cells (f y).toArray t (0, 0)))
    (HO : W.ownsRow base t m v l.length (l.flatMap f)) (hbase : base ≤ W.heap.size) (hl : (l.length + 1) * bytes ≤ 140737488355328)
    (h : ∀ v1 w1, w1.ownsRow base t m v1 (l ++ [y]).length ((l ++ [y]).flatMap f) → Fr (fun k => v.ownBlock = some k) W w1 → (v1.ownBlock = v.ownBlock ∨ v1.ownBlock = some W.heap.size) → K (a.put o.dst v1) w1) : o.wp P a W K Q := by
  obtain ⟨i0, hi, hzz⟩ := Option.map_eq_some_iff.1 hinfo
  simp only [Prod.mk.injEq] at hzz
  obtain ⟨hz0, hz1, hz2⟩ := hzz
  have hlen : l.length + 1 ≤ 140737488355328 := Nat.le_trans (Nat.le_mul_of_pos_right _ hb0) hl
  obtain ⟨v1, w1, hr, hown, hg, _, hat⟩ := run_append_own_at (P := P) W base ts o.type t i0 z m bytes ht hi hz0 hz1 hz2 hz (by omega) v l.length _ HO ⟨b, 0, none⟩ 1 1 (f y) (by rw [hm, Nat.one_mul])
    (World.news_of_block (cs := (f y).toArray) (t := t) (fr := (0, 0)) hbW) (h1 y) (by simp only [maxLen]; omega) hl hbase
  have hfr : Fr (fun k => v.ownBlock = some k) W w1 := (Fr.refl _ W).grown hg (fun k hk => .inl hk)
  unfold Oper.wp execOp
  simp only [ho, resolve, invoke, builtin, Sem.run_bind, Sem.run_pure, Result.andThen_ok, List.map_toArray, List.map_cons, List.map_nil, hs, hx, hr]
  refine h v1 w1 ?_ hfr hat
  rw [List.flatMap_append, List.length_append]
  simpa using hown
end
/-- The append to one row of a map, and the row's store into it. -/
def StJ (base mb : Nat) (es : Array MapEntry) (clock : Nat) (vM : Value) (l : List Int) (z : Int) (lim : Nat) (key : Value) (f : Value → Option Value) (s : Nat) (k : Nat) (us : Nat → Value) (w : World) : Prop :=
  match k with
  | 0 => w.heap[mb]? = some (.map es clock) ∧ w.ownsRow base 3 1 vM l.length (l.flatMap fI)
  | 1 => w.heap[mb]? = some (.map es clock) ∧ w.ownsRow base 3 1 (us s) (l ++ [z]).length ((l ++ [z]).flatMap fI) ∧ ((us s).ownBlock = vM.ownBlock ∨ ∀ k, (us s).ownBlock = some k → lim ≤ k)
  | _ => ∃ es' clock' v', w.heap[mb]? = some (.map es' clock') ∧ MapIs Tryz.prog 3 es' clock' (upd f key v') ∧ w.ownsRow base 3 1 v' (l ++ [z]).length ((l ++ [z]).flatMap fI) ∧ (v'.ownBlock = vM.ownBlock ∨ ∀ k, v'.ownBlock = some k → lim ≤ k)
theorem StJ.keep (base mb : Nat) (es : Array MapEntry) (clock : Nat) (vM : Value) (l : List Int) (z : Int) (lim : Nat) (key : Value) (f : Value → Option Value) (s : Nat) : ∀ (k : Nat) (us us' : Nat → Value) (w' w'' : World), StJ base mb es clock vM l z lim key f s k us w' → (∀ d ∈ [s], us' d = us d) → Fr F0 w' w'' → StJ base mb es clock vM l z lim key f s k us' w''
  | 0, us, us', w', w'', h, hd, hf => ⟨hf.keep0 h.1, own_keep0 h.2 hf⟩
  | 1, us, us', w', w'', h, hd, hf => by
    have e := hd s (by simp)
    refine ⟨hf.keep0 h.1, ?_, ?_⟩
    · rw [e]; exact own_keep0 h.2.1 hf
    · rw [e]; exact h.2.2
  | k + 2, us, us', w', w'', h, hd, hf => by
    obtain ⟨es', clock', v', h1, h2, h3, h4⟩ := h
    exact ⟨es', clock', v', hf.keep0 h1, h2, own_keep0 h3 hf, h4⟩
theorem WMapAt.add {w w' : World} {base mb : Nat} {f : Value → Option Value} {M : Int → List Int} {x z : Int} {vM v' : Value} {es : Array MapEntry} {clock : Nat} (h : WMapAt w base mb f M) (hv : vM = (f (.int .i64 x)).getD (.slice none 0 0)) (hf : Fr (fun k => vM.ownBlock = some k ∨ k = mb) w w')
    (hm : w'.heap[mb]? = some (.map es clock)) (hmi : MapIs Tryz.prog 3 es clock (upd f (.int .i64 x) v')) (ho : w'.ownsRow base 3 1 v' (M x ++ [z]).length ((M x ++ [z]).flatMap fI)) (hb : v'.ownBlock = vM.ownBlock ∨ ∀ k, v'.ownBlock = some k → w.heap.size ≤ k) :
    WMapAt w' base mb (upd f (.int .i64 x) v') (fun y => if y = x then M x ++ [z] else M y) := by
  obtain ⟨es0, clock0, hm0, -⟩ := h.ex
  have hne : ∀ y : Int, y ≠ x → Value.int .i64 y ≠ .int .i64 x := fun y hy e => hy (by injection e)
  have hv0 : ∀ k, vM.ownBlock = some k → f (.int .i64 x) = some vM := by
    intro k hk
    cases hfx : f (.int .i64 x) with
    | none => rw [hfx] at hv; rw [hv] at hk; cases hk
    | some v => rw [hfx] at hv; rw [hv]; rfl
  have hclash : ∀ y : Int, y ≠ x → ∀ u k, f (.int .i64 y) = some u → u.ownBlock = some k → v'.ownBlock = some k → False := by
    intro y hy u k hfy hu hk
    rcases hb with hb | hb
    · rw [hb] at hk
      exact hy (h.apart y x u vM k hfy (hv0 k hk) hu hk)
    · obtain ⟨c, hc⟩ := own_cells (h.row y u hfy) k hu
      have h1 := hb k hk
      have h2 := lt_of_block hc
      omega
  refine ⟨⟨es, clock, hm, hmi⟩, fun y hy => ?_, fun y v hy => ?_, fun y y' v u k hy hy' hvk huk => ?_⟩
  · by_cases e : y = x
    · subst e; rw [upd_same] at hy; cases hy
    · rw [upd_other _ _ _ (hne y e)] at hy
      rw [if_neg e]
      exact h.nil y hy
  · by_cases e : y = x
    · subst e
      rw [upd_same] at hy
      cases hy
      simp only [if_true]
      exact ho
    · rw [upd_other _ _ _ (hne y e)] at hy
      simp only [if_neg e]
      refine own_keep (h.row y v hy) hf (fun k hk hS => ?_)
      rcases hS with hS | hS
      · exact e (h.apart y x v vM k hy (hv0 k hS) hk hS)
      · obtain ⟨c, hc⟩ := own_cells (h.row y v hy) k hk
        rw [hS, hm0] at hc
        cases hc
  · by_cases e : y = x
    · by_cases e' : y' = x
      · rw [e, e']
      · subst e
        rw [upd_same] at hy
        cases hy
        rw [upd_other _ _ _ (hne y' e')] at hy'
        exact (hclash y' e' u k hy' huk hvk).elim
    · by_cases e' : y' = x
      · subst e'
        rw [upd_same] at hy'
        cases hy'
        rw [upd_other _ _ _ (hne y e)] at hy
        exact (hclash y e v k hy hvk huk).elim
      · rw [upd_other _ _ _ (hne y e)] at hy
        rw [upd_other _ _ _ (hne y' e')] at hy'
        exact h.apart y y' v u k hy hy' hvk huk
open Classical in
/-- Those that wait for themselves, up to one. -/
noncomputable def stuckTo (X : List Tx9) (E : List Ed) (j : Nat) : List Int := ((List.range j).filter fun (k : Nat) => decide (Reach (fun x => kidsL X x ++ toOf X E x) (toOf X E (k : Int)) (k : Int))).map fun (k : Nat) => (k : Int)
open Classical in
theorem stuckTo_succ (X : List Tx9) (E : List Ed) (j : Nat) : stuckTo X E (j + 1) = stuckTo X E j ++ (if Reach (fun x => kidsL X x ++ toOf X E x) (toOf X E (j : Int)) (j : Int) then [(j : Int)] else []) := by
  unfold stuckTo
  rw [List.range_succ, List.filter_append]
  by_cases h : Reach (fun x => kidsL X x ++ toOf X E x) (toOf X E (j : Int)) (j : Int)
  · rw [if_pos h]; simp [h]
  · rw [if_neg h]; simp [h]
theorem stuckTo_len (X : List Tx9) (E : List Ed) (j : Nat) : (stuckTo X E j).length ≤ j := by
  classical
  unfold stuckTo
  rw [List.length_map]
  refine Nat.le_trans (List.length_filter_le _ _) ?_
  rw [List.length_range]
  exact Nat.le_refl _
end Go.Proofs.YtgbaijfgmeealaaGreat
