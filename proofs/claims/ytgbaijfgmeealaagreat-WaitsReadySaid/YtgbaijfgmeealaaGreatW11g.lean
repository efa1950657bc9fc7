/-
  heronry/waits: edges, each want's. Conditions: none.
-/
import Derived.Test.YtgbaijfgmeealaaGreatW11f
import Derived.Test.YtgbaijfgmeealaaGreatK10p
set_option linter.unusedVariables false
set_option linter.unusedSimpArgs false
namespace Go.Proofs.YtgbaijfgmeealaaGreat
open Go.RowKit
structure Ed where
  from_ : Int
  to_ : Int
def Ed.cells (x : Ed) : List Value := [.int .i64 x.from_, .int .i64 x.to_]
theorem Ed.len (x : Ed) : x.cells.length = 2 := rfl
theorem Ed.pos (x : Ed) : 0 < x.cells.length := by rw [Ed.len]; decide
theorem Ed.one (x : Ed) : ∀ u ∈ x.cells, u.oneCell' = true := by
  intro v hv
  simp only [Ed.cells, List.mem_cons, List.not_mem_nil, or_false] at hv
  rcases hv with rfl | rfl <;> rfl
theorem info_edge : (Tryz.prog.info? 62).map (fun i => (i.zero, i.size, i.bytes)) = some (some (.agg #[.int .i64 0, .int .i64 0]), 2, 16) := by kernel_rfl
theorem und_waiter : ∃ d, Tryz.prog.underlying 106 = some d ∧ aggDesc d = true := ⟨_, Tryz.underlying106, rfl⟩
theorem size_waiter : (Tryz.prog.info? 106).map (·.size) = some 4 := by kernel_rfl
/-- Whom a waiter waits for: those against it, then those ahead that hold it up. -/
def edAg (a : Wt) (i : Nat) : List Ed := (a.ag.take i).map fun of => ⟨a.w.tx, of⟩
def edAhead (X : List Tx9) (a : Wt) (l : List Wt) : List Ed := (l.filter fun b => holdsB X b.w b.ag a.w).map fun b => ⟨a.w.tx, b.w.tx⟩
def edgesOf (X : List Tx9) (all : List Wt) (k : Nat) : List Ed := match all[k]? with | some a => edAg a a.ag.length ++ edAhead X a (all.take k) | none => []
/-- The edges of each, where they lie. -/
structure EdsAt (w : World) (g : Nat) (cs : List Value) (EE : List (List Ed)) : Prop where
  get : ∀ (i : Nat) (E : List Ed), EE[i]? = some E → ∃ u, cs[i]? = some u ∧ w.ownsRow (g + 1) 62 2 u E.length (E.flatMap Ed.cells)
theorem EdsAt.keep {w w' : World} {g lim : Nat} {cs : List Value} {EE : List (List Ed)} (h : EdsAt w g cs EE) (hf : Fr (fun k => k = g ∨ lim ≤ k) w w') (hl : w.heap.size ≤ lim) : EdsAt w' g cs EE :=
  ⟨fun i E hE => by
    obtain ⟨u, h1, h2⟩ := h.get i E hE
    refine ⟨u, h1, own_keep h2 hf (fun k hk hs => ?_)⟩
    have h3 := own_ge h2 hk
    obtain ⟨cc, hcc⟩ := own_cells h2 k hk
    have h4 := lt_of_block hcc
    rcases hs with hs | hs
    · omega
    · omega⟩
theorem EdsAt.push {w : World} {g : Nat} {cs : List Value} {EE : List (List Ed)} {j : Nat} {u : Value} {E : List Ed} (h : EdsAt w g cs EE) (hj : EE.length = j) (hc : j < cs.length) (hu : w.ownsRow (g + 1) 62 2 u E.length (E.flatMap Ed.cells)) : EdsAt w g (cs.set j u) (EE ++ [E]) :=
  ⟨fun i E' hE => by
    by_cases hi : i < j
    · rw [List.getElem?_append_left (by omega)] at hE
      obtain ⟨v, h1, h2⟩ := h.get i E' hE
      exact ⟨v, by rw [List.getElem?_set_ne (by omega)]; exact h1, h2⟩
    · have hij : i = j := by
        have := (List.getElem?_eq_some_iff.1 hE).1
        simp at this
        omega
      subst hij
      rw [List.getElem?_append_right (by omega)] at hE
      have e : E' = E := by rw [hj, Nat.sub_self] at hE; simpa using hE.symm
      subst e
      exact ⟨u, List.getElem?_set_self hc, hu⟩⟩
theorem set_here {α : Type} {l : List α} {j : Nat} {v : α} (h : l[j]? = some v) : l.set j v = l := by
  apply List.ext_getElem?
  intro i
  by_cases hi : i = j
  · subst hi
    have hl := (List.getElem?_eq_some_iff.1 h).1
    rw [List.getElem?_set_self hl, h]
  · rw [List.getElem?_set_ne (by omega)]
theorem edAg_succ (a : Wt) {i : Nat} {z : Int} (h : a.ag[i]? = some z) : edAg a (i + 1) = edAg a i ++ [⟨a.w.tx, z⟩] := by
  unfold edAg
  rw [List.take_add_one, h, List.map_append]
  rfl
theorem edAhead_succ (X : List Tx9) (a : Wt) {l : List Wt} {i : Nat} {b : Wt} (h : l[i]? = some b) : edAhead X a (l.take (i + 1)) = edAhead X a (l.take i) ++ (if holdsB X b.w b.ag a.w = true then [⟨a.w.tx, b.w.tx⟩] else []) := by
  unfold edAhead
  rw [List.take_add_one, h, List.filter_append, List.map_append]
  by_cases hb : holdsB X b.w b.ag a.w = true <;> simp [hb]
theorem run_make_edges (n : Nat) (hn : n ≤ 64) (w : World) : (Instr.makeSlice 72 (.int .i64 (n : Int)) (.int .i64 (n : Int))).run Tryz.prog w = .ok (.slice (some ⟨w.heap.size, 0, none⟩) n n) (w.alloc (.cells (Array.replicate n (Value.slice none 0 0)) 59)) := by
  have hinf : (Tryz.prog.info? 59).map (fun i => (i.zero, i.size, i.bytes)) = some (some (.slice none 0 0), 1, 24) := by kernel_rfl
  obtain ⟨i, hi, hzz⟩ := Option.map_eq_some_iff.1 hinf
  simp only [Prod.mk.injEq] at hzz
  obtain ⟨hz, hs, hb⟩ := hzz
  have hr := run_make (P := Tryz.prog) w 72 59 i _ Tryz.underlying72 hi hz .i64 .i64 n n (by omega) (Int.le_refl _) (by rw [hb]; omega) (by omega)
  have hm : madeCells (Value.slice none 0 0).cells (n * 1) = (Array.replicate n (Value.slice none 0 0)) := by
    apply Array.ext
    · simp [madeCells]
    · intro i h1 h2
      simp [madeCells, Value.cells, Nat.mod_one]
  simp only [Int.toNat_natCast, hs, hm] at hr
  exact hr
structure EdJ (lim g : Nat) (cs : List Value) (j : Nat) (u : Value) (E : List Ed) (e : Ed) (sl k : Nat) (us : Nat → Value) (w : World) : Prop where
  cell : w.heap[g]? = some (.cells (match k with | 0 => cs | 1 => cs | _ => cs.set j (us sl)).toArray 59 (0, 0))
  own : match k with | 0 => w.ownsRow lim 62 2 u E.length (E.flatMap Ed.cells) | _ => w.ownsRow lim 62 2 (us sl) (E ++ [e]).length ((E ++ [e]).flatMap Ed.cells)
theorem EdJ.keep (lim g : Nat) (cs : List Value) (j : Nat) (u : Value) (E : List Ed) (e : Ed) (sl : Nat) : ∀ (k : Nat) (us us' : Nat → Value) (w' w'' : World), EdJ lim g cs j u E e sl k us w' → (∀ d ∈ [sl], us' d = us d) → Fr F0 w' w'' → EdJ lim g cs j u E e sl k us' w''
  | 0, us, us', w', w'', h, hd, hf => ⟨hf.keep0 h.cell, own_keep0 h.own hf⟩
  | 1, us, us', w', w'', h, hd, hf => ⟨hf.keep0 h.cell, by
    have h1 : w'.ownsRow lim 62 2 (us sl) _ _ := h.own
    show w''.ownsRow lim 62 2 (us' sl) _ _
    rw [hd sl (by simp)]
    exact own_keep0 h1 hf⟩
  | k + 2, us, us', w', w'', h, hd, hf => ⟨by
    have h1 : w'.heap[g]? = some (.cells (cs.set j (us sl)).toArray 59 (0, 0)) := h.cell
    show w''.heap[g]? = some (.cells (cs.set j (us' sl)).toArray 59 (0, 0))
    rw [hd sl (by simp)]
    exact hf.keep0 h1, by
    have h1 : w'.ownsRow lim 62 2 (us sl) _ _ := h.own
    show w''.ownsRow lim 62 2 (us' sl) _ _
    rw [hd sl (by simp)]
    exact own_keep0 h1 hf⟩
section
variable {w : World} {v vt u : Value} {Q : List Wn} {L : List Lk} {X : List Tx9}
set_option maxRecDepth 100000 in
set_option maxHeartbeats 4000000 in
theorem edges_c (clk : Int) (h : SlV 3 Wn.cells w v Q) (hq : ∀ x ∈ Q, x.Ok) (hn : Q.length ≤ 64) (hL : SlV 4 Lk.cells w vt L) (hLs : SaneL L) (hX : SlV 4 Tx9.cells w u X) (hXn : X.length ≤ 64) :
    Calls Tryz.prog 30 #[.agg #[v], .agg #[vt], .agg #[u, .int .i64 clk]] w fun e w' => ∃ g cs, e = .returned (.slice (some ⟨g, 0, none⟩) Q.length Q.length) ∧ w'.heap[g]? = some (.cells cs.toArray 59 (0, 0)) ∧ cs.length = Q.length ∧ EdsAt w' g cs ((List.range Q.length).map (edgesOf X (wtL X L Q))) ∧ w.heap.size ≤ g ∧ Fr F0 w w' := by
  have HLV := Lib.hid hL
  have HXV := Lib.hid hX
  have HQ := Lib.hid h
  have HOK := Lib.hid hq
  have HLS := Lib.hid hLs
  have HXN := Lib.hid hXn
  obtain ⟨A, c, rfl, -⟩ := h.ex
  obtain ⟨At, ct, rfl, -⟩ := hL.ex
  obtain ⟨Ax, cx, rfl, -⟩ := hX.ex
  obtain ⟨n, hnn⟩ : ∃ n, n = Q.length := ⟨_, rfl⟩
  obtain ⟨nt, hnt⟩ : ∃ nt, nt = L.length := ⟨_, rfl⟩
  obtain ⟨nx, hnx⟩ : ∃ nx, nx = X.length := ⟨_, rfl⟩
  have HN := Lib.hid hnn
  rw [← hnn] at HQ
  rw [← hnt] at HLV
  rw [← hnx] at HXV
  rw [← hnn, ← hnt, ← hnx]
  have n0 : (0 : Int) ≤ (n : Int) := Int.natCast_nonneg _
  have hn64 : n ≤ 64 := by omega
  obtain ⟨W, hW⟩ : ∃ W, W = ((w.alloc (.cells #[.slice A n c] 28)).alloc (.cells #[.slice At nt ct] 34)).alloc (.cells #[.slice Ax nx cx, .int .i64 clk] 31) := ⟨_, rfl⟩
  have HF0 : Hid (Fr F0 w W) := Lib.hid (by rw [hW]; exact (((Fr.refl F0 w).alloc _).alloc _).alloc _)
  have H50 : Hid (W.heap[w.heap.size + 1 + 1]? = some (.cells #[.slice Ax nx cx, .int .i64 clk] 31 (0, 0))) := Lib.hid (by rw [hW]; exact alloc_at (by simp) _)
  have HW := Lib.hid hW
  obtain ⟨d, hu, hd⟩ := und_waiter
  have HU := Lib.hid hu
  have HDD := Lib.hid hd
  clear h hq hL hLs hX hXn hnn hnt hnx hW hu hd hn
  go_enter Tryz.func30, Tryz.ntmps30
  go_wp2_with fail
  rw [← HW.out]
  refine (waiters_c clk (HQ.out.keep0 HF0.out) HOK.out (by have := HN.out; omega) (HLV.out.keep0 HF0.out) HLS.out (HXV.out.keep0 HF0.out) HXN.out).mono ?_
  rintro e w1 ⟨v1, rfl, hown1, hf1⟩
  obtain ⟨A1, c1, rfl, hcap1⟩ := hown1.val
  have hlen : (wtL X L Q).length = n := by unfold wtL; rw [List.length_map, HN.out]
  rw [hlen] at hcap1
  rw [hlen]
  have HCAP : Hid (n ≤ c1) := Lib.hid hcap1
  have HO1 := Lib.hid hown1
  have HF1 := Lib.hid (HF0.out.then0 hf1)
  have H51 := Lib.hid (hf1.keep0 H50.out)
  clear hown1 hf1 hlen hcap1
  have hmk := run_make_edges n hn64 w1
  go_wp2_with fail
  obtain ⟨g, hg⟩ : ∃ g, g = w1.heap.size := ⟨_, rfl⟩
  obtain ⟨w2, hw2⟩ : ∃ w2, w2 = w1.alloc (.cells (Array.replicate n (Value.slice none 0 0)) 59) := ⟨_, rfl⟩
  have hf2 : Fr F0 w1 w2 := by rw [hw2]; exact (Fr.refl _ _).alloc _
  have HG2 : Hid (w2.heap[g]? = some (.cells (List.replicate n (Value.slice none 0 0)).toArray 59 (0, 0))) := Lib.hid (by rw [hw2, alloc_at hg]; simp)
  have HGW : Hid (w.heap.size + 2 < g) := Lib.hid (by rw [hg]; exact lt_of_block H51.out)
  have HG1 : Hid (w1.heap.size = g) := Lib.hid hg.symm
  have HF2 := Lib.hid (HF1.out.then0 hf2)
  have HF12 := Lib.hid hf2
  have HW2 := Lib.hid hw2
  obtain ⟨all, hall⟩ : ∃ all, all = wtL X L Q := ⟨_, rfl⟩
  have HALL := Lib.hid hall
  rw [← hall] at HO1
  have HAN : Hid (all.length = n) := Lib.hid (by rw [hall]; unfold wtL; rw [List.length_map, HN.out])
  have HAGL : Hid (∀ a ∈ all, a.ag.length ≤ 16384) := Lib.hid (fun a ha => by
    rw [hall] at ha
    unfold wtL at ha
    obtain ⟨x, -, rfl⟩ := List.mem_map.1 ha
    show (againstL X L x.tx x.block x.mode).length ≤ 16384
    unfold againstL
    rw [List.length_map]
    have h1 := List.length_filter_le (agB X x.tx x.block x.mode) L
    have h2 := sane_len HLS.out
    omega)
  rw [← hw2, ← hg]
  clear hmk hg hw2 hf2 hall
  go_loopg [9, 10, 12, 14, 24] n (fun kq x9 x10 x12 x14 x24 wr => ∃ (j : Nat) (cs : List Value), j ≤ n ∧ kq = n - j ∧ x24 = .int .i64 (j : Int) ∧ cs.length = n ∧ wr.heap[g]? = some (.cells cs.toArray 59 (0, 0)) ∧ EdsAt wr g cs ((List.range j).map (edgesOf X all)) ∧ (∀ i, j ≤ i → i < n → cs[i]? = some (.slice none 0 0)) ∧ Fr (fun k => k = g ∨ w2.heap.size ≤ k) w2 wr)
  case atStart => exact ⟨0, List.replicate n (.slice none 0 0), by omega, rfl, rfl, List.length_replicate, HG2.out, ⟨fun i E h => by simp at h⟩, fun i _ hi => by rw [List.getElem?_replicate, if_pos hi], Fr.refl _ _⟩
  case round =>
    obtain ⟨j, cs, hj, rfl, rfl, hcl, hgh, hed, hnil, hf⟩ := hrel
    have HCL := Lib.hid hcl
    have HGH := Lib.hid hgh
    have HED := Lib.hid hed
    have HNIL := Lib.hid hnil
    have HFr := Lib.hid hf
    clear hcl hgh hed hnil hf
    have j0 : (0 : Int) ≤ (j : Int) := Int.natCast_nonneg _
    have HF1r : Hid (Fr F0 w1 wr) := Lib.hid (HF12.out.trans HFr.out (fun k hk => .inr (by have := HG1.out; have := HF12.out.size; rcases hk with hk | hk <;> omega)))
    have HOr := Lib.hid (HO1.out.keep HF1r.out)
    have HFwr := Lib.hid (HF1.out.then0 HF1r.out)
    by_cases hlt : j < n
    · have j1 : (j : Int) < (n : Int) := by omega
      have hjl : j < all.length := by rw [HAN.out]; exact hlt
      have HAJ := Lib.hid (List.getElem?_eq_getElem hjl)
      have hagl := HAGL.out all[j] (List.getElem_mem hjl)
      obtain ⟨a, ha⟩ : ∃ a, a = all[j] := ⟨_, rfl⟩
      rw [← ha] at HAJ hagl
      clear ha
      obtain ⟨ab, ac, B, cB, e1, hc, hc3, hvb, hbb⟩ := OwnRowI.elem (head := wtHead) (tl := Wt.ag) (hd := 3) (fun _ => rfl) HO1.out j a HAJ.out
      cases e1
      obtain ⟨⟨tx, bl, mo⟩, ag⟩ := a
      obtain ⟨m, hm⟩ : ∃ m, m = ag.length := ⟨_, rfl⟩
      have HM := Lib.hid hm
      have hm1 : m ≤ 16384 := by rw [hm]; exact hagl
      have kc : ∀ p v, w1.cell? p = some v → wr.cell? p = some v := fun p v h => (World.cell?_of_block (w := w1) (HF1r.out.block _ (World.block_lt_of_cell? w1 _ h) (fun h => h))).trans h
      have hc3' : wr.cell? ⟨ab, j * 4 + 3, none⟩ = some (.slice B m cB) := by rw [hm]; exact kc _ _ hc3
      have HCS : Hid (∀ i v, ([.int .i64 tx, .int .i64 bl, .int .i64 mo, .slice B m cB] : List Value)[i]? = some v → wr.cell? ⟨ab, j * 4 + i, none⟩ = some v) := Lib.hid (fun i v hv => by
        match i, hv with
        | 0, hv => exact kc _ _ (hc 0 _ hv)
        | 1, hv => exact kc _ _ (hc 1 _ hv)
        | 2, hv => exact kc _ _ (hc 2 _ hv)
        | 3, hv => cases hv; exact hc3'
        | i + 4, hv => simp at hv)
      have HVB := Lib.hid hvb
      have m0 : (0 : Int) ≤ (m : Int) := Int.natCast_nonneg _
      clear hc hc3 hc3' hvb hbb hagl hm kc
      go_wp2_with (first | (refine wpList_load_at rfl 106 (.tmp 27) rfl ab (j * 4) (by rfl) [.int .i64 tx, .int .i64 bl, .int .i64 mo, .slice B m cB] d HCS.out HU.out HDD.out size_waiter ?_) | (refine wpList_store_fresh rfl 106 (.tmp 10) (.tmp 28) rfl #[.int .i64 tx, .int .i64 bl, .int .i64 mo, .slice B m cB] (by rfl) (by rfl) 106 #[.int .i64 0, .int .i64 0, .int .i64 0, .slice none 0 0] size_waiter rfl (by simp [Value.oneCell']) ?_))
      obtain ⟨b10, hb10⟩ : ∃ b10, b10 = wr.heap.size := ⟨_, rfl⟩
      obtain ⟨wk, hwk⟩ : ∃ wk, wk = wr.alloc (.cells #[.int .i64 tx, .int .i64 bl, .int .i64 mo, .slice B m cB] 106) := ⟨_, rfl⟩
      obtain ⟨lim, hlim⟩ : ∃ lim, lim = wk.heap.size := ⟨_, rfl⟩
      have hfk : Fr F0 wr wk := by rw [hwk]; exact (Fr.refl _ _).alloc _
      have H10k : Hid (wk.heap[b10]? = some (.cells #[.int .i64 tx, .int .i64 bl, .int .i64 mo, .slice B m cB] 106 (0, 0))) := Lib.hid (by rw [hwk]; exact alloc_at hb10 _)
      have HGHk := Lib.hid (hfk.keep0 HGH.out)
      have HEDk := Lib.hid (HED.out.keep (lim := wr.heap.size) (hfk.mono (fun _ h => h.elim)) (Nat.le_refl _))
      have HF1k := Lib.hid (HF1r.out.then0 hfk)
      have HFrk := Lib.hid (HFr.out.then0 hfk)
      have HGB : Hid (g < b10) := Lib.hid (by rw [hb10]; exact lt_of_block HGH.out)
      have HBL : Hid (b10 < lim) := Lib.hid (by rw [hlim]; exact lt_of_block H10k.out)
      have HLIM := Lib.hid hlim
      have HWK := Lib.hid hwk
      have HB10 := Lib.hid hb10
      have HXF : Hid (∀ wx, Fr (fun k => k = g ∨ lim ≤ k) wk wx → Fr F0 w1 wx) := Lib.hid (fun wx h => HF1k.out.trans h (fun k hk => .inr (by have := HG1.out; have := HGB.out; have := HBL.out; rcases hk with hk | hk <;> omega)))
      rw [← hwk, ← hb10]
      clear hfk hwk hlim hb10
      go_loopg [12, 32] m (fun kq x12 x32 wr => ∃ (i : Nat) (u : Value), i ≤ m ∧ kq = m - i ∧ x32 = .int .i64 (i : Int) ∧ wr.heap[g]? = some (.cells (cs.set j u).toArray 59 (0, 0)) ∧ wr.ownsRow lim 62 2 u (edAg ⟨⟨tx, bl, mo⟩, ag⟩ i).length ((edAg ⟨⟨tx, bl, mo⟩, ag⟩ i).flatMap Ed.cells) ∧ Fr (fun k => k = g ∨ lim ≤ k) wk wr)
      case atStart => exact ⟨0, .slice none 0 0, by omega, rfl, rfl, by rw [set_here (HNIL.out j (Nat.le_refl j) hlt)]; exact HGHk.out, own_nil _ _ _ _, Fr.refl _ _⟩
      case round =>
        obtain ⟨i, u, hi, rfl, rfl, hgh, hown, hf⟩ := hrel
        obtain ⟨csu, hcsu⟩ : ∃ csu, csu = cs.set j u := ⟨_, rfl⟩
        obtain ⟨E, hE⟩ : ∃ E, E = edAg ⟨⟨tx, bl, mo⟩, ag⟩ i := ⟨_, rfl⟩
        have HEE := Lib.hid hE
        have HCU := Lib.hid hcsu
        rw [← hcsu] at hgh
        rw [← hE] at hown
        have HG0 := Lib.hid hgh
        have HO := Lib.hid hown
        have HF := Lib.hid hf
        have HCJ : Hid (csu[j]? = some u) := Lib.hid (by rw [hcsu, List.getElem?_set_self (by rw [HCL.out]; exact hlt)])
        clear hgh hown hf hE hcsu
        have i0 : (0 : Int) ≤ (i : Int) := Int.natCast_nonneg _
        by_cases hlt2 : i < m
        · have i1 : (i : Int) < (m : Int) := by omega
          obtain ⟨z, hz⟩ : ∃ z, ag[i]? = some z := ⟨ag[i]'(by rw [← HM.out]; exact hlt2), List.getElem?_eq_getElem _⟩
          obtain ⟨bb, bo, rfl, hcb⟩ := (HVB.out.keep0 (HXF.out wr HF.out)).plain (by rw [List.length_map, ← HM.out]; omega)
          have gx : wr.cell? ⟨bb, bo + i, none⟩ = some (.int .i64 z) := hcb i _ (by simp [hz])
          have HES : Hid (edAg ⟨⟨tx, bl, mo⟩, ag⟩ (i + 1) = E ++ [⟨tx, z⟩]) := Lib.hid (by rw [HEE.out]; exact edAg_succ _ hz)
          have H10 := Lib.hid (HF.out.keep H10k.out (by have := HGB.out; have := HBL.out; omega))
          have HZ : Hid (lim ≤ wr.heap.size) := Lib.hid (by rw [HLIM.out]; exact HF.out.size)
          have HGL : Hid (g < lim) := Lib.hid (Nat.lt_trans HGB.out HBL.out)
          have HUG : Hid (¬ u.ownBlock = some g) := Lib.hid (fun e => by have := own_ge HO.out e; have := HGL.out; omega)
          have HS10 : Hid (¬ (u.ownBlock = some b10 ∨ b10 = g)) := Lib.hid (fun e => by rcases e with e | e; (have := own_ge HO.out e; have := HBL.out; omega); (have := HGB.out; omega))
          have HSN : Hid (∀ q, wr.heap.size ≤ q → ¬ (u.ownBlock = some q ∨ q = g)) := Lib.hid (fun q hq e => by
            rcases e with e | e
            · obtain ⟨cc, hcc⟩ := own_cells HO.out _ e
              have := lt_of_block hcc
              omega
            · have := lt_of_block HG0.out; omega)
          have HLEN : Hid ((E.length + 1) * 16 ≤ 140737488355328) := Lib.hid (by rw [HEE.out]; unfold edAg; rw [List.length_map, List.length_take]; omega)
          clear hz hcb
          go_wp2_with fail
          refine wp_region_turn2 (S := (fun k => u.ownBlock = some k ∨ k = g)) [false, false, false, false, false, false, false, false, false, false, false, false, false, false, false, false, false, false, false, false, false, false, false, false, false, false, false, false, false, false, false, false, false, false, false, false, true, true, true, true, true, true, true, true, true, true, true, true, true, true, false, false, false, false, false, false, false, false, false, false, false, false, false, false, false, false, false, false, false, false, false, false, false, false, false, false, false, false, false, false, false, false, false] [.eq (.slice (some ⟨g, 0, none⟩) n n), .eq (.int .i64 (j : Int)), .eq (.slice (some ⟨g, 0, none⟩) n n), .eq (.int .i64 (j : Int)), .eq (.pointer (some ⟨g, j, none⟩)), .eq (u), .eq (.pointer (some ⟨b10, 0, none⟩)), .eq (.pointer (some ⟨b10, 0, none⟩)), .eq (.int .i64 tx), .eq (.int .i64 z), .eq (.agg #[.int .i64 tx, .int .i64 z]), ⟨fun v w1 => ∃ q, v = .slice (some ⟨q, 0, none⟩) 1 1 ∧ wr.heap.size ≤ q ∧ w1.heap[q]? = some (.cells (Ed.cells ⟨tx, z⟩).toArray 62 (0, 0)), fun v w1 w2 ⟨q, h1, h2, h3⟩ hf => ⟨q, h1, h2, hf.keep h3 (HSN.out q h2)⟩⟩, .any, .eq (.pointer (some ⟨g, j, none⟩)), .any] (EdJ lim g csu j u E ⟨tx, z⟩ 48) [none, none, none, none, none, none, none, none, none, none, none, none, some 0, none, some 1] [1, 1, 0, 0, 0, 0, 0, 0, 0, 0, 0, 0, 1, 1, 2] [48] 2 (by kernel_rfl) (by kernel_rfl) (by rfl) (by kernel_rfl) (by kernel_rfl) ?hJ ?hJ0 (fun us => ?steps) (fun us wz hG hJ hall => ?fin)
          case hJ =>
            exact EdJ.keep _ _ _ _ _ _ _ _
          case hJ0 =>
            exact ⟨HG0.out, HO.out⟩
          case steps =>
            simp only [fillL, Nat.reduceAdd]
            refine stepsTurn2.cons (fun wx kk hG hkk hJ hd K hK => ?_) ?_
            · rw [if_pos (wanted_none rfl)]
              refine wp_value (w2 := wx) (v := .slice (some ⟨g, 0, none⟩) n n) ?_ (hK _ _ rfl (Fr.refl _ _))
              clear hd hG hK hJ
              go_simp
            refine stepsTurn2.cons (fun wx kk hG hkk hJ hd K hK => ?_) ?_
            · rw [if_pos (wanted_none rfl)]
              refine wp_value (w2 := wx) (v := .int .i64 (j : Int)) ?_ (hK _ _ rfl (Fr.refl _ _))
              clear hd hG hK hJ
              go_simp
            refine stepsTurn2.cons (fun wx kk hG hkk hJ hd K hK => ?_) ?_
            · obtain rfl : kk = 0 := Nat.le_zero.1 hkk
              rw [if_pos (wanted_none rfl)]
              refine wp_value (w2 := wx) (v := .slice (some ⟨g, 0, none⟩) n n) ?_ (hK _ _ rfl (Fr.refl _ _))
              clear hd hG hK hJ
              go_simp
            refine stepsTurn2.cons (fun wx kk hG hkk hJ hd K hK => ?_) ?_
            · obtain rfl : kk = 0 := Nat.le_zero.1 hkk
              rw [if_pos (wanted_none rfl)]
              refine wp_value (w2 := wx) (v := .int .i64 (j : Int)) ?_ (hK _ _ rfl (Fr.refl _ _))
              clear hd hG hK hJ
              go_simp
            refine stepsTurn2.cons (fun wx kk hG hkk hJ hd K hK => ?_) ?_
            · have h38 : us 38 = (.slice (some ⟨g, 0, none⟩) n n) := deps_get hd 0 rfl rfl rfl rfl rfl
              have h39 : us 39 = (.int .i64 (j : Int)) := deps_get hd 1 rfl rfl rfl rfl rfl
              obtain rfl : kk = 0 := Nat.le_zero.1 hkk
              rw [if_pos (wanted_none rfl)]
              refine wp_value (w2 := wx) (v := .pointer (some ⟨g, j, none⟩)) ?_ (hK _ _ rfl (Fr.refl _ _))
              clear hd hG hK hJ
              go_simp
            refine stepsTurn2.cons (fun wx kk hG hkk hJ hd K hK => ?_) ?_
            · have h40 : us 40 = (.pointer (some ⟨g, j, none⟩)) := deps_get hd 0 rfl rfl rfl rfl rfl
              obtain rfl : kk = 0 := Nat.le_zero.1 hkk
              rw [if_pos (wanted_none rfl)]
              have hgh : wx.heap[g]? = some (.cells csu.toArray 59 (0, 0)) := hJ.1
              have hc : wx.cell? ⟨g, j, none⟩ = some u := by rw [cell_of hgh, List.getElem?_toArray]; exact HCJ.out
              refine wp_value (w2 := wx) (v := u) ?_ (hK _ _ rfl (Fr.refl _ _))
              clear hd hK hG hJ hgh
              go_simp
            refine stepsTurn2.cons (fun wx kk hG hkk hJ hd K hK => ?_) ?_
            · obtain rfl : kk = 0 := Nat.le_zero.1 hkk
              rw [if_pos (wanted_none rfl)]
              refine wp_value (w2 := wx) (v := .pointer (some ⟨b10, 0, none⟩)) ?_ (hK _ _ rfl (Fr.refl _ _))
              clear hd hG hK hJ
              go_simp
            refine stepsTurn2.cons (fun wx kk hG hkk hJ hd K hK => ?_) ?_
            · have h42 : us 42 = (.pointer (some ⟨b10, 0, none⟩)) := deps_get hd 0 rfl rfl rfl rfl rfl
              obtain rfl : kk = 0 := Nat.le_zero.1 hkk
              rw [if_pos (wanted_none rfl)]
              refine wp_value (w2 := wx) (v := .pointer (some ⟨b10, 0, none⟩)) ?_ (hK _ _ rfl (Fr.refl _ _))
              clear hd hG hK hJ
              go_simp
            refine stepsTurn2.cons (fun wx kk hG hkk hJ hd K hK => ?_) ?_
            · have h43 : us 43 = (.pointer (some ⟨b10, 0, none⟩)) := deps_get hd 0 rfl rfl rfl rfl rfl
              obtain rfl : kk = 0 := Nat.le_zero.1 hkk
              rw [if_pos (wanted_none rfl)]
              have hc : wx.cell? ⟨b10, 0, none⟩ = some (.int .i64 tx) := by rw [cell_of (hG.keep H10.out HS10.out)]; rfl
              clear hJ
              refine wp_value (w2 := wx) (v := .int .i64 tx) ?_ (hK _ _ rfl (Fr.refl _ _))
              clear hd hK
              go_simp
            refine stepsTurn2.cons (fun wx kk hG hkk hJ hd K hK => ?_) ?_
            · obtain rfl : kk = 0 := Nat.le_zero.1 hkk
              rw [if_pos (wanted_none rfl)]
              refine wp_value (w2 := wx) (v := .int .i64 z) ?_ (hK _ _ rfl (Fr.refl _ _))
              clear hd hG hK hJ
              go_simp
            refine stepsTurn2.cons (fun wx kk hG hkk hJ hd K hK => ?_) ?_
            · have h44 : us 44 = (.int .i64 tx) := deps_get hd 0 rfl rfl rfl rfl rfl
              have h45 : us 45 = (.int .i64 z) := deps_get hd 1 rfl rfl rfl rfl rfl
              obtain rfl : kk = 0 := Nat.le_zero.1 hkk
              rw [if_pos (wanted_none rfl)]
              refine wp_value (w2 := wx) (v := .agg #[.int .i64 tx, .int .i64 z]) ?_ (hK _ _ rfl (Fr.refl _ _))
              clear hd hG hK hJ
              go_simp
            refine stepsTurn2.cons (fun wx kk hG hkk hJ hd K hK => ?_) ?_
            · have h46 : us 46 = (.agg #[.int .i64 tx, .int .i64 z]) := deps_get hd 0 rfl rfl rfl rfl rfl
              obtain rfl : kk = 0 := Nat.le_zero.1 hkk
              rw [if_pos (wanted_none rfl)]
              refine wp_value (w2 := wx.alloc (.cells (Ed.cells ⟨tx, z⟩).toArray 62)) (v := .slice (some ⟨wx.heap.size, 0, none⟩) 1 1) ?_ (hK _ _ ⟨_, rfl, hG.size, alloc_at rfl _⟩ ((Fr.refl _ _).alloc _))
              clear hd hK hG hJ
              go_simp
              try rfl
            refine stepsTurn2.cons (fun wx hG hJ hd K hK => ?_) ?_
            · have h41 : us 41 = (u) := deps_get hd 0 rfl rfl rfl rfl rfl
              have h47 := deps_get hd 1 rfl rfl rfl rfl rfl
              rw [if_pos (wanted_none rfl)]
              have hcur : us 41 = u := h41
              obtain ⟨q, hg1, hg2, hg3⟩ := h47
              have hgh : wx.heap[g]? = some (.cells csu.toArray 59 (0, 0)) := hJ.1
              have hsz9 := hG.size
              refine wp_append_oneS (t := 62) (m := 2) (f := Ed.cells) (.tmp 41) (.tmp 47) 59 16 (.agg #[.int .i64 0, .int .i64 0]) rfl Tryz.underlying59 info_edge rfl (by decide) (by decide) Ed.len Ed.one lim u E ⟨tx, z⟩ q (by exact hcur) (by exact hg1) hg3 hJ.2 (by have := HZ.out; omega) HLEN.out ?_
              intro v1 w1 hown1 hf1
              exact hK v1 w1 trivial (hf1.mono fun k hk => .inl hk) ⟨hf1.keep hgh HUG.out, by simpa [updD] using hown1⟩
            refine stepsTurn2.cons (fun wx kk hG hkk hJ hd K hK => ?_) ?_
            · have h36 : us 36 = (.slice (some ⟨g, 0, none⟩) n n) := deps_get hd 0 rfl rfl rfl rfl rfl
              have h37 : us 37 = (.int .i64 (j : Int)) := deps_get hd 1 rfl rfl rfl rfl rfl
              rw [if_pos (wanted_none rfl)]
              refine wp_value (w2 := wx) (v := .pointer (some ⟨g, j, none⟩)) ?_ (hK _ _ rfl (Fr.refl _ _))
              clear hd hG hK hJ
              go_simp
            refine stepsTurn2.cons (fun wx hG hJ hd K hK => ?_) ?_
            · have h49 : us 49 = (.pointer (some ⟨g, j, none⟩)) := deps_get hd 0 rfl rfl rfl rfl rfl
              have h48 := deps_get hd 1 rfl rfl rfl rfl rfl
              rw [if_pos (wanted_none rfl)]
              have hgh : wx.heap[g]? = some (.cells csu.toArray 59 (0, 0)) := hJ.1
              have hown : wx.ownsRow lim 62 2 (us 48) (E ++ [(⟨tx, z⟩ : Ed)]).length ((E ++ [(⟨tx, z⟩ : Ed)]).flatMap Ed.cells) := hJ.2
              have hc : wx.cell? ⟨g, j, none⟩ = some u := by rw [cell_of hgh, List.getElem?_toArray]; exact HCJ.out
              have hc2 : wx.frozen? ⟨g, j, none⟩ = false := free_of hgh j
              obtain ⟨A9, c9, e9, -⟩ := SrAt.of_own Ed.len hown
              refine wp_skip (w2 := wx.setCell ⟨g, j, none⟩ (us 48)) ?_ (hK undef _ trivial ((Fr.refl _ _).setCell (by exact .inl (.inr rfl)) _) ⟨by rw [set_cell hgh]; simp [updD], own_keep (by simpa [updD] using hown) ((Fr.refl (fun k => k = g) wx).setCell (by exact .inl rfl) _) (fun k hk e => by have := own_ge hown hk; have := HGL.out; omega)⟩)
              rw [e9]
              clear hd hG hK hJ hown hgh
              go_simp
            exact stepsTurn2.nil
          case fin =>
            have h36 : us 36 = (.slice (some ⟨g, 0, none⟩) n n) := all_get hall 0 rfl rfl rfl
            have h37 : us 37 = (.int .i64 (j : Int)) := all_get hall 1 rfl rfl rfl
            have h38 : us 38 = (.slice (some ⟨g, 0, none⟩) n n) := all_get hall 2 rfl rfl rfl
            have h39 : us 39 = (.int .i64 (j : Int)) := all_get hall 3 rfl rfl rfl
            have h40 : us 40 = (.pointer (some ⟨g, j, none⟩)) := all_get hall 4 rfl rfl rfl
            have h41 : us 41 = (u) := all_get hall 5 rfl rfl rfl
            have h42 : us 42 = (.pointer (some ⟨b10, 0, none⟩)) := all_get hall 6 rfl rfl rfl
            have h43 : us 43 = (.pointer (some ⟨b10, 0, none⟩)) := all_get hall 7 rfl rfl rfl
            have h44 : us 44 = (.int .i64 tx) := all_get hall 8 rfl rfl rfl
            have h45 : us 45 = (.int .i64 z) := all_get hall 9 rfl rfl rfl
            have h46 : us 46 = (.agg #[.int .i64 tx, .int .i64 z]) := all_get hall 10 rfl rfl rfl
            have h47 := all_get hall 11 rfl rfl rfl
            have h48 := all_get hall 12 rfl rfl rfl
            have h49 : us 49 = (.pointer (some ⟨g, j, none⟩)) := all_get hall 13 rfl rfl rfl
            simp only [fillL, Nat.reduceAdd]
            clear hall
            simp only [h36, h37, h38, h39, h40, h41, h42, h43, h44, h45, h46, h49]
            clear h36 h37 h38 h39 h40 h41 h42 h43 h44 h45 h46 h49
            have hgh2 : wz.heap[g]? = some (.cells (csu.set j (us 48)).toArray 59 (0, 0)) := hJ.cell
            have hown2 : wz.ownsRow lim 62 2 (us 48) (E ++ [(⟨tx, z⟩ : Ed)]).length ((E ++ [(⟨tx, z⟩ : Ed)]).flatMap Ed.cells) := hJ.own
            have HGZ : Hid (wz.heap[g]? = some (.cells (cs.set j (us 48)).toArray 59 (0, 0))) := Lib.hid (by rw [hgh2, HCU.out, List.set_set])
            have HOZ : Hid (wz.ownsRow lim 62 2 (us 48) (edAg ⟨⟨tx, bl, mo⟩, ag⟩ (i + 1)).length ((edAg ⟨⟨tx, bl, mo⟩, ag⟩ (i + 1)).flatMap Ed.cells)) := Lib.hid (by rw [HES.out]; exact hown2)
            have HFZ := Lib.hid (HF.out.trans hG (fun k hk => by rcases hk with hk | hk; (exact .inl (.inr (own_ge HO.out hk))); (exact .inl (.inl hk))))
            clear hJ hG hgh2 hown2
            go_wp2_with fail
            go_roundg (m - (i + 1))
            case measure => omega
            case rel => exact ⟨i + 1, us 48, by omega, rfl, by first | rfl | (go_num), HGZ.out, HOZ.out, HFZ.out⟩
        · have him : i = m := by omega
          subst him
          have HEE2 : Hid (E = edAg ⟨⟨tx, bl, mo⟩, ag⟩ ag.length) := Lib.hid (by rw [HEE.out, HM.out])
          have hjc : (j : Int) ≤ (c1 : Int) := by have := HCAP.out; omega
          have hjc2 : j ≤ c1 := by have := HCAP.out; omega
          go_wp2_with fail
          go_loopg [14, 55] j (fun kq x14 x55 wr => ∃ (q : Nat) (u : Value), q ≤ j ∧ kq = j - q ∧ x55 = .int .i64 (q : Int) ∧ wr.heap[g]? = some (.cells (cs.set j u).toArray 59 (0, 0)) ∧ wr.ownsRow lim 62 2 u (E ++ edAhead X ⟨⟨tx, bl, mo⟩, ag⟩ (all.take q)).length ((E ++ edAhead X ⟨⟨tx, bl, mo⟩, ag⟩ (all.take q)).flatMap Ed.cells) ∧ Fr (fun k => k = g ∨ lim ≤ k) wk wr)
          case atStart => exact ⟨0, u, by omega, rfl, rfl, by rw [← HCU.out]; exact HG0.out, by simpa [edAhead] using HO.out, HF.out⟩
          case round =>
            clear HG0 HO HF HCJ HCU hjc hjc2
            obtain ⟨q, u, hq, rfl, rfl, hgh, hown, hf⟩ := hrel
            obtain ⟨csu, hcsu⟩ : ∃ csu, csu = cs.set j u := ⟨_, rfl⟩
            obtain ⟨E', hE'⟩ : ∃ E', E' = E ++ edAhead X ⟨⟨tx, bl, mo⟩, ag⟩ (all.take q) := ⟨_, rfl⟩
            have HEE' := Lib.hid hE'
            have HCU := Lib.hid hcsu
            rw [← hcsu] at hgh
            rw [← hE'] at hown
            have HG0 := Lib.hid hgh
            have HO0 := Lib.hid hown
            have HF := Lib.hid hf
            have HCJ : Hid (csu[j]? = some u) := Lib.hid (by rw [hcsu, List.getElem?_set_self (by rw [HCL.out]; exact hlt)])
            clear hgh hown hf hE' hcsu
            have q0 : (0 : Int) ≤ (q : Int) := Int.natCast_nonneg _
            by_cases hlt3 : q < j
            · have q1 : (q : Int) < (j : Int) := by omega
              have hql : q < all.length := by rw [HAN.out]; omega
              have hAQ := List.getElem?_eq_getElem hql
              have hagl := HAGL.out all[q] (List.getElem_mem hql)
              obtain ⟨a2, ha2⟩ : ∃ a2, a2 = all[q] := ⟨_, rfl⟩
              rw [← ha2] at hAQ hagl
              clear ha2
              obtain ⟨ab', ac', B2, cB2, e1, hc, hc3, hvb, -⟩ := OwnRowI.elem (head := wtHead) (tl := Wt.ag) (hd := 3) (fun _ => rfl) HO1.out q a2 hAQ
              cases e1
              have HES := Lib.hid (edAhead_succ X ⟨⟨tx, bl, mo⟩, ag⟩ hAQ)
              obtain ⟨⟨tx2, bl2, mo2⟩, ag2⟩ := a2
              obtain ⟨m2, hm2⟩ : ∃ m2, m2 = ag2.length := ⟨_, rfl⟩
              have HM2 := Lib.hid hm2
              have hf1w := HXF.out wr HF.out
              have kc : ∀ p v, w1.cell? p = some v → wr.cell? p = some v := fun p v h => (World.cell?_of_block (w := w1) (hf1w.block _ (World.block_lt_of_cell? w1 _ h) (fun h => h))).trans h
              have hc3' : wr.cell? ⟨ab, q * 4 + 3, none⟩ = some (.slice B2 m2 cB2) := by rw [hm2]; exact kc _ _ hc3
              have HCS2 : Hid (∀ i v, ([.int .i64 tx2, .int .i64 bl2, .int .i64 mo2, .slice B2 m2 cB2] : List Value)[i]? = some v → wr.cell? ⟨ab, q * 4 + i, none⟩ = some v) := Lib.hid (fun i v hv => by
                match i, hv with
                | 0, hv => exact kc _ _ (hc 0 _ hv)
                | 1, hv => exact kc _ _ (hc 1 _ hv)
                | 2, hv => exact kc _ _ (hc 2 _ hv)
                | 3, hv => cases hv; exact hc3'
                | i + 4, hv => simp at hv)
              have HVB2 := Lib.hid (hvb.keep0 hf1w)
              obtain ⟨b14, hb14⟩ : ∃ b14, b14 = wr.heap.size := ⟨_, rfl⟩
              obtain ⟨W3, hW3⟩ : ∃ W3, W3 = wr.alloc (.cells #[.int .i64 tx2, .int .i64 bl2, .int .i64 mo2, .slice B2 m2 cB2] 106) := ⟨_, rfl⟩
              have hf3 : Fr F0 wr W3 := by rw [hW3]; exact (Fr.refl _ _).alloc _
              have H143 : Hid (W3.heap[b14]? = some (.cells #[.int .i64 tx2, .int .i64 bl2, .int .i64 mo2, .slice B2 m2 cB2] 106 (0, 0))) := Lib.hid (by rw [hW3]; exact alloc_at hb14 _)
              have H103 := Lib.hid (hf3.keep0 (HF.out.keep H10k.out (by have := HGB.out; have := HBL.out; omega)))
              have H53 := Lib.hid ((hf1w.then0 hf3).keep0 H51.out)
              have HXV3 := Lib.hid (HXV.out.keep0 ((HF1.out.then0 hf1w).then0 hf3))
              have HVB3 := Lib.hid (HVB2.out.keep0 hf3)
              have HF03 := Lib.hid hf3
              have p0 : (wr.alloc (.cells #[.int .i64 tx2, .int .i64 bl2, .int .i64 mo2, .slice B2 m2 cB2] 106)).cell? ⟨b10, 0, none⟩ = some (.int .i64 tx) := by rw [← hW3, cell_of H103.out]; rfl
              have p1 : (wr.alloc (.cells #[.int .i64 tx2, .int .i64 bl2, .int .i64 mo2, .slice B2 m2 cB2] 106)).cell? ⟨b10, 1, none⟩ = some (.int .i64 bl) := by rw [← hW3, cell_of H103.out]; rfl
              have p2 : (wr.alloc (.cells #[.int .i64 tx2, .int .i64 bl2, .int .i64 mo2, .slice B2 m2 cB2] 106)).cell? ⟨b10, 2, none⟩ = some (.int .i64 mo) := by rw [← hW3, cell_of H103.out]; rfl
              have p3 : (wr.alloc (.cells #[.int .i64 tx2, .int .i64 bl2, .int .i64 mo2, .slice B2 m2 cB2] 106)).cell? ⟨w.heap.size + 1 + 1, 0, none⟩ = some (.slice Ax nx cx) := by rw [← hW3, cell_of H53.out]; rfl
              have p4 : (wr.alloc (.cells #[.int .i64 tx2, .int .i64 bl2, .int .i64 mo2, .slice B2 m2 cB2] 106)).cell? ⟨w.heap.size + 1 + 1, 1, none⟩ = some (.int .i64 clk) := by rw [← hW3, cell_of H53.out]; rfl
              have HW3 := Lib.hid hW3
              have HB14 := Lib.hid hb14
              have hm21 : m2 ≤ 1000000 := by have : ag2.length ≤ 16384 := hagl; omega
              clear hc hc3 hc3' hvb hagl hm2 kc hf1w hf3 hW3 hb14 hAQ
              go_wp2_with (first | (refine wpList_load_at rfl 106 (.tmp 57) rfl ab (q * 4) (by rfl) [.int .i64 tx2, .int .i64 bl2, .int .i64 mo2, .slice B2 m2 cB2] d HCS2.out HU.out HDD.out size_waiter ?_) | (refine wpList_store_fresh rfl 106 (.tmp 14) (.tmp 58) rfl #[.int .i64 tx2, .int .i64 bl2, .int .i64 mo2, .slice B2 m2 cB2] (by rfl) (by rfl) 106 #[.int .i64 0, .int .i64 0, .int .i64 0, .slice none 0 0] size_waiter rfl (by simp [Value.oneCell']) ?_))
              rw [← HW3.out, ← HB14.out]
              refine (holds_c ⟨tx2, bl2, mo2⟩ ⟨tx, bl, mo⟩ clk HM2.out.symm HVB3.out hm21 HXV3.out HXN.out).mono ?_
              rintro e w5 ⟨rfl, hf5⟩
              have hf35 := HF03.out.then0 hf5
              have HG5 := Lib.hid (hf35.keep0 HG0.out)
              have HO5 := Lib.hid (own_keep0 HO0.out hf35)
              have HF5 := Lib.hid (HF.out.then0 hf35)
              have H10 := Lib.hid (hf5.keep0 H103.out)
              have H14 := Lib.hid (hf5.keep0 H143.out)
              have HS14' : Hid (wr.heap.size ≤ b14) := Lib.hid (by rw [HB14.out]; exact Nat.le_refl _)
              have HO0L : Hid (∀ k, u.ownBlock = some k → k < wr.heap.size) := Lib.hid (fun k hk => by obtain ⟨cc, hcc⟩ := own_cells HO0.out k hk; exact lt_of_block hcc)
              have HGL0 : Hid (g < wr.heap.size) := Lib.hid (lt_of_block HG0.out)
              clear hf35 hf5 p0 p1 p2 p3 p4
              obtain ⟨hb, hhb⟩ : ∃ hb, hb = holdsB X ⟨tx2, bl2, mo2⟩ ag2 ⟨tx, bl, mo⟩ := ⟨_, rfl⟩
              have HHB := Lib.hid hhb
              rw [← hhb]
              clear hhb
              cases hb with
              | false =>
                have HES2 : Hid (E ++ edAhead X ⟨⟨tx, bl, mo⟩, ag⟩ (all.take (q + 1)) = E') := Lib.hid (by rw [HES.out, if_neg (by rw [← HHB.out]; simp), List.append_nil, HEE'.out])
                go_wp2_with fail
                go_roundg (j - (q + 1))
                case measure => omega
                case rel => exact ⟨q + 1, u, by omega, rfl, by first | rfl | (go_num), by rw [← HCU.out]; exact HG5.out, by rw [HES2.out]; exact HO5.out, HF5.out⟩
              | true =>
                have HES2 : Hid (E ++ edAhead X ⟨⟨tx, bl, mo⟩, ag⟩ (all.take (q + 1)) = E' ++ [⟨tx, tx2⟩]) := Lib.hid (by rw [HES.out, if_pos (by rw [← HHB.out]), ← List.append_assoc, ← HEE'.out])
                obtain ⟨z, hz⟩ : ∃ z, z = tx2 := ⟨_, rfl⟩
                rw [← hz] at HES2 H14
                have HG0 := HG5
                have HO := HO5
                have HZ : Hid (lim ≤ w5.heap.size) := Lib.hid (by rw [HLIM.out]; exact HF5.out.size)
                have HGL : Hid (g < lim) := Lib.hid (Nat.lt_trans HGB.out HBL.out)
                have HUG : Hid (¬ u.ownBlock = some g) := Lib.hid (fun e => by have := own_ge HO.out e; have := HGL.out; omega)
                have HS10 : Hid (¬ (u.ownBlock = some b10 ∨ b10 = g)) := Lib.hid (fun e => by rcases e with e | e; (have := own_ge HO.out e; have := HBL.out; omega); (have := HGB.out; omega))
                have HS14 : Hid (¬ (u.ownBlock = some b14 ∨ b14 = g)) := Lib.hid (fun e => by rcases e with e | e; (have := HO0L.out _ e; have := HS14'.out; omega); (have := HGL0.out; have := HS14'.out; omega))
                have HSN : Hid (∀ q, w5.heap.size ≤ q → ¬ (u.ownBlock = some q ∨ q = g)) := Lib.hid (fun q hq e => by
                  rcases e with e | e
                  · obtain ⟨cc, hcc⟩ := own_cells HO.out _ e
                    have := lt_of_block hcc
                    omega
                  · have := lt_of_block HG0.out; omega)
                have HLEN : Hid ((E'.length + 1) * 16 ≤ 140737488355328) := Lib.hid (by
                  rw [HEE'.out, HEE2.out, List.length_append]
                  unfold edAg edAhead
                  rw [List.length_map, List.length_map]
                  have h1 := List.length_filter_le (fun b : Wt => holdsB X b.w b.ag (⟨tx, bl, mo⟩ : Wn)) (all.take q)
                  rw [List.length_take] at h1 ⊢
                  have h2 : ((all.take q).filter fun b => holdsB X b.w b.ag (⟨⟨tx, bl, mo⟩, ag⟩ : Wt).w).length ≤ min q all.length := h1
                  have h3 := HM.out
                  have h4 := HAN.out
                  have h5 : (⟨⟨tx, bl, mo⟩, ag⟩ : Wt).ag.length = ag.length := rfl
                  omega)
                clear hz
                go_wp2_with fail
                refine wp_region_turn2 (S := (fun k => u.ownBlock = some k ∨ k = g)) [false, false, false, false, false, false, false, false, false, false, false, false, false, false, false, false, false, false, false, false, false, false, false, false, false, false, false, false, false, false, false, false, false, false, false, false, false, false, false, false, false, false, false, false, false, false, false, false, false, false, false, false, false, false, false, false, false, false, false, false, false, false, false, false, true, true, true, true, true, true, true, true, true, true, true, true, true, true, true, true, false, false, false] [.eq (.slice (some ⟨g, 0, none⟩) n n), .eq (.int .i64 (j : Int)), .eq (.slice (some ⟨g, 0, none⟩) n n), .eq (.int .i64 (j : Int)), .eq (.pointer (some ⟨g, j, none⟩)), .eq (u), .eq (.pointer (some ⟨b10, 0, none⟩)), .eq (.pointer (some ⟨b10, 0, none⟩)), .eq (.int .i64 tx), .eq (.pointer (some ⟨b14, 0, none⟩)), .eq (.pointer (some ⟨b14, 0, none⟩)), .eq (.int .i64 z), .eq (.agg #[.int .i64 tx, .int .i64 z]), ⟨fun v w1 => ∃ q, v = .slice (some ⟨q, 0, none⟩) 1 1 ∧ w5.heap.size ≤ q ∧ w1.heap[q]? = some (.cells (Ed.cells ⟨tx, z⟩).toArray 62 (0, 0)), fun v w1 w2 ⟨q, h1, h2, h3⟩ hf => ⟨q, h1, h2, hf.keep h3 (HSN.out q h2)⟩⟩, .any, .eq (.pointer (some ⟨g, j, none⟩)), .any] (EdJ lim g csu j u E' ⟨tx, z⟩ 78) [none, none, none, none, none, none, none, none, none, none, none, none, none, none, some 0, none, some 1] [1, 1, 0, 0, 0, 0, 0, 0, 0, 0, 0, 0, 0, 0, 1, 1, 2] [78] 2 (by kernel_rfl) (by kernel_rfl) (by rfl) (by kernel_rfl) (by kernel_rfl) ?hJ ?hJ0 (fun us => ?steps) (fun us wz hG hJ hall => ?fin)
                case hJ =>
                  exact EdJ.keep _ _ _ _ _ _ _ _
                case hJ0 =>
                  exact ⟨HG0.out, HO.out⟩
                case steps =>
                  simp only [fillL, Nat.reduceAdd]
                  refine stepsTurn2.cons (fun wx kk hG hkk hJ hd K hK => ?_) ?_
                  · rw [if_pos (wanted_none rfl)]
                    refine wp_value (w2 := wx) (v := .slice (some ⟨g, 0, none⟩) n n) ?_ (hK _ _ rfl (Fr.refl _ _))
                    clear hd hG hK hJ
                    go_simp
                  refine stepsTurn2.cons (fun wx kk hG hkk hJ hd K hK => ?_) ?_
                  · rw [if_pos (wanted_none rfl)]
                    refine wp_value (w2 := wx) (v := .int .i64 (j : Int)) ?_ (hK _ _ rfl (Fr.refl _ _))
                    clear hd hG hK hJ
                    go_simp
                  refine stepsTurn2.cons (fun wx kk hG hkk hJ hd K hK => ?_) ?_
                  · obtain rfl : kk = 0 := Nat.le_zero.1 hkk
                    rw [if_pos (wanted_none rfl)]
                    refine wp_value (w2 := wx) (v := .slice (some ⟨g, 0, none⟩) n n) ?_ (hK _ _ rfl (Fr.refl _ _))
                    clear hd hG hK hJ
                    go_simp
                  refine stepsTurn2.cons (fun wx kk hG hkk hJ hd K hK => ?_) ?_
                  · obtain rfl : kk = 0 := Nat.le_zero.1 hkk
                    rw [if_pos (wanted_none rfl)]
                    refine wp_value (w2 := wx) (v := .int .i64 (j : Int)) ?_ (hK _ _ rfl (Fr.refl _ _))
                    clear hd hG hK hJ
                    go_simp
                  refine stepsTurn2.cons (fun wx kk hG hkk hJ hd K hK => ?_) ?_
                  · have h66 : us 66 = (.slice (some ⟨g, 0, none⟩) n n) := deps_get hd 0 rfl rfl rfl rfl rfl
                    have h67 : us 67 = (.int .i64 (j : Int)) := deps_get hd 1 rfl rfl rfl rfl rfl
                    obtain rfl : kk = 0 := Nat.le_zero.1 hkk
                    rw [if_pos (wanted_none rfl)]
                    refine wp_value (w2 := wx) (v := .pointer (some ⟨g, j, none⟩)) ?_ (hK _ _ rfl (Fr.refl _ _))
                    clear hd hG hK hJ
                    go_simp
                  refine stepsTurn2.cons (fun wx kk hG hkk hJ hd K hK => ?_) ?_
                  · have h68 : us 68 = (.pointer (some ⟨g, j, none⟩)) := deps_get hd 0 rfl rfl rfl rfl rfl
                    obtain rfl : kk = 0 := Nat.le_zero.1 hkk
                    rw [if_pos (wanted_none rfl)]
                    have hgh : wx.heap[g]? = some (.cells csu.toArray 59 (0, 0)) := hJ.1
                    have hc : wx.cell? ⟨g, j, none⟩ = some u := by rw [cell_of hgh, List.getElem?_toArray]; exact HCJ.out
                    refine wp_value (w2 := wx) (v := u) ?_ (hK _ _ rfl (Fr.refl _ _))
                    clear hd hK hG hJ hgh
                    go_simp
                  refine stepsTurn2.cons (fun wx kk hG hkk hJ hd K hK => ?_) ?_
                  · obtain rfl : kk = 0 := Nat.le_zero.1 hkk
                    rw [if_pos (wanted_none rfl)]
                    refine wp_value (w2 := wx) (v := .pointer (some ⟨b10, 0, none⟩)) ?_ (hK _ _ rfl (Fr.refl _ _))
                    clear hd hG hK hJ
                    go_simp
                  refine stepsTurn2.cons (fun wx kk hG hkk hJ hd K hK => ?_) ?_
                  · have h70 : us 70 = (.pointer (some ⟨b10, 0, none⟩)) := deps_get hd 0 rfl rfl rfl rfl rfl
                    obtain rfl : kk = 0 := Nat.le_zero.1 hkk
                    rw [if_pos (wanted_none rfl)]
                    refine wp_value (w2 := wx) (v := .pointer (some ⟨b10, 0, none⟩)) ?_ (hK _ _ rfl (Fr.refl _ _))
                    clear hd hG hK hJ
                    go_simp
                  refine stepsTurn2.cons (fun wx kk hG hkk hJ hd K hK => ?_) ?_
                  · have h71 : us 71 = (.pointer (some ⟨b10, 0, none⟩)) := deps_get hd 0 rfl rfl rfl rfl rfl
                    obtain rfl : kk = 0 := Nat.le_zero.1 hkk
                    rw [if_pos (wanted_none rfl)]
                    have hc : wx.cell? ⟨b10, 0, none⟩ = some (.int .i64 tx) := by rw [cell_of (hG.keep H10.out HS10.out)]; rfl
                    clear hJ
                    refine wp_value (w2 := wx) (v := .int .i64 tx) ?_ (hK _ _ rfl (Fr.refl _ _))
                    clear hd hK
                    go_simp
                  refine stepsTurn2.cons (fun wx kk hG hkk hJ hd K hK => ?_) ?_
                  · obtain rfl : kk = 0 := Nat.le_zero.1 hkk
                    rw [if_pos (wanted_none rfl)]
                    refine wp_value (w2 := wx) (v := .pointer (some ⟨b14, 0, none⟩)) ?_ (hK _ _ rfl (Fr.refl _ _))
                    clear hd hG hK hJ
                    go_simp
                  refine stepsTurn2.cons (fun wx kk hG hkk hJ hd K hK => ?_) ?_
                  · have h73 : us 73 = (.pointer (some ⟨b14, 0, none⟩)) := deps_get hd 0 rfl rfl rfl rfl rfl
                    obtain rfl : kk = 0 := Nat.le_zero.1 hkk
                    rw [if_pos (wanted_none rfl)]
                    refine wp_value (w2 := wx) (v := .pointer (some ⟨b14, 0, none⟩)) ?_ (hK _ _ rfl (Fr.refl _ _))
                    clear hd hG hK hJ
                    go_simp
                  refine stepsTurn2.cons (fun wx kk hG hkk hJ hd K hK => ?_) ?_
                  · have h74 : us 74 = (.pointer (some ⟨b14, 0, none⟩)) := deps_get hd 0 rfl rfl rfl rfl rfl
                    obtain rfl : kk = 0 := Nat.le_zero.1 hkk
                    rw [if_pos (wanted_none rfl)]
                    have hc : wx.cell? ⟨b14, 0, none⟩ = some (.int .i64 z) := by rw [cell_of (hG.keep H14.out HS14.out)]; rfl
                    clear hJ
                    refine wp_value (w2 := wx) (v := .int .i64 z) ?_ (hK _ _ rfl (Fr.refl _ _))
                    clear hd hK
                    go_simp
                  refine stepsTurn2.cons (fun wx kk hG hkk hJ hd K hK => ?_) ?_
                  · have h72 : us 72 = (.int .i64 tx) := deps_get hd 0 rfl rfl rfl rfl rfl
                    have h75 : us 75 = (.int .i64 z) := deps_get hd 1 rfl rfl rfl rfl rfl
                    obtain rfl : kk = 0 := Nat.le_zero.1 hkk
                    rw [if_pos (wanted_none rfl)]
                    refine wp_value (w2 := wx) (v := .agg #[.int .i64 tx, .int .i64 z]) ?_ (hK _ _ rfl (Fr.refl _ _))
                    clear hd hG hK hJ
                    go_simp
                  refine stepsTurn2.cons (fun wx kk hG hkk hJ hd K hK => ?_) ?_
                  · have h76 : us 76 = (.agg #[.int .i64 tx, .int .i64 z]) := deps_get hd 0 rfl rfl rfl rfl rfl
                    obtain rfl : kk = 0 := Nat.le_zero.1 hkk
                    rw [if_pos (wanted_none rfl)]
                    refine wp_value (w2 := wx.alloc (.cells (Ed.cells ⟨tx, z⟩).toArray 62)) (v := .slice (some ⟨wx.heap.size, 0, none⟩) 1 1) ?_ (hK _ _ ⟨_, rfl, hG.size, alloc_at rfl _⟩ ((Fr.refl _ _).alloc _))
                    clear hd hK hG hJ
                    go_simp
                    try rfl
                  refine stepsTurn2.cons (fun wx hG hJ hd K hK => ?_) ?_
                  · have h69 : us 69 = (u) := deps_get hd 0 rfl rfl rfl rfl rfl
                    have h77 := deps_get hd 1 rfl rfl rfl rfl rfl
                    rw [if_pos (wanted_none rfl)]
                    have hcur : us 69 = u := h69
                    obtain ⟨q, hg1, hg2, hg3⟩ := h77
                    have hgh : wx.heap[g]? = some (.cells csu.toArray 59 (0, 0)) := hJ.1
                    have hsz9 := hG.size
                    refine wp_append_oneS (t := 62) (m := 2) (f := Ed.cells) (.tmp 69) (.tmp 77) 59 16 (.agg #[.int .i64 0, .int .i64 0]) rfl Tryz.underlying59 info_edge rfl (by decide) (by decide) Ed.len Ed.one lim u E' ⟨tx, z⟩ q (by exact hcur) (by exact hg1) hg3 hJ.2 (by have := HZ.out; omega) HLEN.out ?_
                    intro v1 w1 hown1 hf1
                    exact hK v1 w1 trivial (hf1.mono fun k hk => .inl hk) ⟨hf1.keep hgh HUG.out, by simpa [updD] using hown1⟩
                  refine stepsTurn2.cons (fun wx kk hG hkk hJ hd K hK => ?_) ?_
                  · have h64 : us 64 = (.slice (some ⟨g, 0, none⟩) n n) := deps_get hd 0 rfl rfl rfl rfl rfl
                    have h65 : us 65 = (.int .i64 (j : Int)) := deps_get hd 1 rfl rfl rfl rfl rfl
                    rw [if_pos (wanted_none rfl)]
                    refine wp_value (w2 := wx) (v := .pointer (some ⟨g, j, none⟩)) ?_ (hK _ _ rfl (Fr.refl _ _))
                    clear hd hG hK hJ
                    go_simp
                  refine stepsTurn2.cons (fun wx hG hJ hd K hK => ?_) ?_
                  · have h79 : us 79 = (.pointer (some ⟨g, j, none⟩)) := deps_get hd 0 rfl rfl rfl rfl rfl
                    have h78 := deps_get hd 1 rfl rfl rfl rfl rfl
                    rw [if_pos (wanted_none rfl)]
                    have hgh : wx.heap[g]? = some (.cells csu.toArray 59 (0, 0)) := hJ.1
                    have hown : wx.ownsRow lim 62 2 (us 78) (E' ++ [(⟨tx, z⟩ : Ed)]).length ((E' ++ [(⟨tx, z⟩ : Ed)]).flatMap Ed.cells) := hJ.2
                    have hc : wx.cell? ⟨g, j, none⟩ = some u := by rw [cell_of hgh, List.getElem?_toArray]; exact HCJ.out
                    have hc2 : wx.frozen? ⟨g, j, none⟩ = false := free_of hgh j
                    obtain ⟨A9, c9, e9, -⟩ := SrAt.of_own Ed.len hown
                    refine wp_skip (w2 := wx.setCell ⟨g, j, none⟩ (us 78)) ?_ (hK undef _ trivial ((Fr.refl _ _).setCell (by exact .inl (.inr rfl)) _) ⟨by rw [set_cell hgh]; simp [updD], own_keep (by simpa [updD] using hown) ((Fr.refl (fun k => k = g) wx).setCell (by exact .inl rfl) _) (fun k hk e => by have := own_ge hown hk; have := HGL.out; omega)⟩)
                    rw [e9]
                    clear hd hG hK hJ hown hgh
                    go_simp
                  exact stepsTurn2.nil
                case fin =>
                  have h64 : us 64 = (.slice (some ⟨g, 0, none⟩) n n) := all_get hall 0 rfl rfl rfl
                  have h65 : us 65 = (.int .i64 (j : Int)) := all_get hall 1 rfl rfl rfl
                  have h66 : us 66 = (.slice (some ⟨g, 0, none⟩) n n) := all_get hall 2 rfl rfl rfl
                  have h67 : us 67 = (.int .i64 (j : Int)) := all_get hall 3 rfl rfl rfl
                  have h68 : us 68 = (.pointer (some ⟨g, j, none⟩)) := all_get hall 4 rfl rfl rfl
                  have h69 : us 69 = (u) := all_get hall 5 rfl rfl rfl
                  have h70 : us 70 = (.pointer (some ⟨b10, 0, none⟩)) := all_get hall 6 rfl rfl rfl
                  have h71 : us 71 = (.pointer (some ⟨b10, 0, none⟩)) := all_get hall 7 rfl rfl rfl
                  have h72 : us 72 = (.int .i64 tx) := all_get hall 8 rfl rfl rfl
                  have h73 : us 73 = (.pointer (some ⟨b14, 0, none⟩)) := all_get hall 9 rfl rfl rfl
                  have h74 : us 74 = (.pointer (some ⟨b14, 0, none⟩)) := all_get hall 10 rfl rfl rfl
                  have h75 : us 75 = (.int .i64 z) := all_get hall 11 rfl rfl rfl
                  have h76 : us 76 = (.agg #[.int .i64 tx, .int .i64 z]) := all_get hall 12 rfl rfl rfl
                  have h77 := all_get hall 13 rfl rfl rfl
                  have h78 := all_get hall 14 rfl rfl rfl
                  have h79 : us 79 = (.pointer (some ⟨g, j, none⟩)) := all_get hall 15 rfl rfl rfl
                  simp only [fillL, Nat.reduceAdd]
                  clear hall
                  simp only [h64, h65, h66, h67, h68, h69, h70, h71, h72, h73, h74, h75, h76, h79]
                  clear h64 h65 h66 h67 h68 h69 h70 h71 h72 h73 h74 h75 h76 h79
                  have hgh2 : wz.heap[g]? = some (.cells (csu.set j (us 78)).toArray 59 (0, 0)) := hJ.cell
                  have hown2 : wz.ownsRow lim 62 2 (us 78) (E' ++ [(⟨tx, z⟩ : Ed)]).length ((E' ++ [(⟨tx, z⟩ : Ed)]).flatMap Ed.cells) := hJ.own
                  have HGZ : Hid (wz.heap[g]? = some (.cells (cs.set j (us 78)).toArray 59 (0, 0))) := Lib.hid (by rw [hgh2, HCU.out, List.set_set])
                  have HOZ : Hid (wz.ownsRow lim 62 2 (us 78) (E ++ edAhead X ⟨⟨tx, bl, mo⟩, ag⟩ (all.take (q + 1))).length ((E ++ edAhead X ⟨⟨tx, bl, mo⟩, ag⟩ (all.take (q + 1))).flatMap Ed.cells)) := Lib.hid (by rw [HES2.out]; exact hown2)
                  have HFZ := Lib.hid (HF5.out.trans hG (fun k hk => by rcases hk with hk | hk; (exact .inl (.inr (own_ge HO.out hk))); (exact .inl (.inl hk))))
                  clear hJ hG hgh2 hown2
                  go_wp2_with fail
                  go_roundg (j - (q + 1))
                  case measure => omega
                  case rel => exact ⟨q + 1, us 78, by omega, rfl, by first | rfl | (go_num), HGZ.out, HOZ.out, HFZ.out⟩
            · have hqj : q = j := by omega
              subst hqj
              go_wp2_with fail
              go_roundg (n - (q + 1))
              case measure => omega
              case rel =>
                have heq : edgesOf X all q = E' := by unfold edgesOf; rw [HAJ.out, HEE'.out, HEE2.out]
                refine ⟨q + 1, cs.set q u, by omega, rfl, by first | rfl | (go_num), by rw [List.length_set]; exact HCL.out, by rw [← HCU.out]; exact HG0.out, ?_, fun i h1 h2 => ?_, HFrk.out.trans HF.out (fun k hk => by rcases hk with hk | hk; (exact .inl (.inl hk)); (exact .inl (.inr (by have h3 := HFrk.out.size; have h4 := HLIM.out; omega))))⟩
                · rw [List.range_succ, List.map_append]
                  show EdsAt wr g (cs.set q u) (_ ++ [edgesOf X all q])
                  rw [heq]
                  exact (HEDk.out.keep HF.out (by rw [HLIM.out]; exact Nat.le_refl _)).push (by simp) (by rw [HCL.out]; exact hlt) (own_lower HO0.out (by have := HGB.out; have := HBL.out; omega))
                · rw [List.getElem?_set_ne (by omega)]
                  exact HNIL.out i (by omega) h2
    · have hjn : j = n := by omega
      subst hjn
      go_wp2_with fail
      go_ret
      exact ⟨g, cs, rfl, HGH.out, HCL.out, by rw [← HALL.out]; exact HED.out, by have := HGW.out; omega, HFwr.out⟩
end
end Go.Proofs.YtgbaijfgmeealaaGreat
