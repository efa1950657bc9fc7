/-
  Layer 10: grown: what it leaves. Conditions: none.
-/
import Derived.Test.YtgbaijfgmeealaaActs10
import Derived.Test.YtgbaijfgmeealaaK10l
import Derived.Deep.CutRange
set_option linter.unusedVariables false
set_option linter.unusedSimpArgs false
namespace Go.Proofs.Ytgbaijfgmeealaa
open Go.RowKit
theorem AskRet.any2 {w w' : World} {e : Ending} {X : List Tx9} {L : List Lk} {tx block m : Int} (h : AskRet w w' e X L tx block m) : ∃ A n c, e = .returned (.tuple #[.agg #[.slice A n c], .int .i64 (askE X L tx block m)]) ∧ (askE X L tx block m = 0 → SlV 4 Lk.cells w' (.slice A n c) (askL L tx block m)) ∧ Fr F0 w w' := by
  cases h with
  | no h he hf => exact ⟨_, _, _, he, fun e => absurd e h, hf⟩
  | yes h v he hs hf =>
    obtain ⟨A, c, rfl, -⟩ := hs.ex
    exact ⟨_, _, _, by rw [h]; exact he, fun _ => hs, hf⟩
/-- A table's box that is made and stored in a drawn region. -/
def BoxJ (slot lim : Nat) (E : Int) (G : List Lk) (k : Nat) (us : Nat → Value) (w : World) : Prop := 1 ≤ k → ∃ b u, us slot = .pointer (some ⟨b, 0, none⟩) ∧ lim ≤ b ∧ w.heap[b]? = some (.cells #[u] 31 (0, 0)) ∧ (k = 2 → ∃ A n c, u = .slice A n c ∧ (E = 0 → SlV 4 Lk.cells w u G))
theorem BoxJ.keep (slot lim : Nat) (E : Int) (G : List Lk) (k : Nat) (us us' : Nat → Value) (w' w'' : World) (h : BoxJ slot lim E G k us w') (hd : ∀ d ∈ [slot], us' d = us d) (hf : Fr F0 w' w'') : BoxJ slot lim E G k us' w'' := fun hk => by
  obtain ⟨b, u, h1, h2, h3, h4⟩ := h hk
  refine ⟨b, u, by rw [hd slot (by simp)]; exact h1, h2, hf.keep0 h3, fun e => ?_⟩
  obtain ⟨A, n, c, e1, e2⟩ := h4 e
  exact ⟨A, n, c, e1, fun e0 => (e2 e0).keep0 hf⟩
/-- Transactions and their locks, in their boxes (behind w). -/
structure GrA (w wr : World) (X : List Tx9) (L : List Lk) (vx vt : Value) (clk : Int) : Prop where
  rx : wr.heap[w.heap.size]? = some (.cells #[.slice none 0 0, .int .i64 0] 25 (0, 0))
  rt : wr.heap[w.heap.size + 1]? = some (.cells #[.slice none 0 0] 31 (0, 0))
  bx : wr.heap[w.heap.size + 1 + 1]? = some (.cells #[vx, .int .i64 clk] 25 (0, 0))
  bt : wr.heap[w.heap.size + 1 + 1 + 1]? = some (.cells #[vt] 31 (0, 0))
  sx : SlV 4 Tx9.cells wr vx X
  st : SlV 4 Lk.cells wr vt L
  fr : Fr F0 w wr
theorem GrA.keep0 {w wr w2 : World} {X : List Tx9} {L : List Lk} {vx vt : Value} {clk : Int} (h : GrA w wr X L vx vt clk) (hf : Fr F0 wr w2) : GrA w w2 X L vx vt clk :=
  ⟨hf.keep0 h.rx, hf.keep0 h.rt, hf.keep0 h.bx, hf.keep0 h.bt, h.sx.keep0 hf, h.st.keep0 hf, h.fr.then0 hf⟩
theorem GrA.putX {w wr w2 : World} {X X' : List Tx9} {L : List Lk} {vx vt vx' : Value} {clk clk' : Int} (h : GrA w wr X L vx vt clk) (hf : Fr (fun k => k = w.heap.size + 1 + 1) wr w2) (hb : w2.heap[w.heap.size + 1 + 1]? = some (.cells #[vx', .int .i64 clk'] 25 (0, 0))) (hs : SlV 4 Tx9.cells wr vx' X') : GrA w w2 X' L vx' vt clk' :=
  ⟨hf.keep h.rx (by omega), hf.keep h.rt (by omega), hb, hf.keep h.bt (by omega), hs.box Tx9.len h.bx (by show 2 < 4; decide) hf, h.st.box Lk.len h.bx (by show 2 < 4; decide) hf, h.fr.trans hf (fun k hk => .inr (by omega))⟩
theorem GrA.putT {w wr w2 : World} {X : List Tx9} {L L' : List Lk} {vx vt vt' : Value} {clk : Int} (h : GrA w wr X L vx vt clk) (hf : Fr (fun k => k = w.heap.size + 1 + 1 + 1) wr w2) (hb : w2.heap[w.heap.size + 1 + 1 + 1]? = some (.cells #[vt'] 31 (0, 0))) (hs : SlV 4 Lk.cells wr vt' L') : GrA w w2 X L' vx vt' clk :=
  ⟨hf.keep h.rx (by omega), hf.keep h.rt (by omega), hf.keep h.bx (by omega), hb, h.sx.box Tx9.len h.bt (by show 1 < 4; decide) hf, hs.box Lk.len h.bt (by show 1 < 4; decide) hf, h.fr.trans hf (fun k hk => .inr (by omega))⟩
structure GrownRet (w w' : World) (e : Ending) : Prop where
  ex : ∃ X L vx vt clk, e = .returned (.tuple #[.agg #[vx, .int .i64 clk], .agg #[vt]]) ∧ SlV 4 Tx9.cells w' vx X ∧ SlV 4 Lk.cells w' vt L ∧ Grn X L ∧ 0 ≤ clk ∧ clk ≤ 1000 ∧ Fr F0 w w'
theorem results_cells2 {P : Program} {fn : Func} {tmps : Array Value} {w : World} {a c : Nat} {t t' : TypeId} {ad ad' : Addr} {v u : Value} (hfn : fn.results = #[.cell a t, .cell c t']) (ha : tmps.getD a undef = .pointer (some ad)) (hc : tmps.getD c undef = .pointer (some ad')) (hr : (loadVar t ad).run P w = .ok v w) (hr' : (loadVar t' ad').run P w = .ok u w) :
    (results fn tmps).run P w = .ok (.tuple #[v, u]) w := by
  have ha' : tmps[a]?.getD undef = .pointer (some ad) := by rw [← ha]; simp [Array.getD_eq_getD_getElem?]
  have hc' : tmps[c]?.getD undef = .pointer (some ad') := by rw [← hc]; simp [Array.getD_eq_getD_getElem?]
  simp [results, hfn, asAddr, ha', hc', hr, hr']
section
variable {w : World}
set_option maxRecDepth 100000 in
set_option maxHeartbeats 8000000 in
theorem grown_c {A : Option Addr} {N cA : Nat} {l : List Act1} (hA : ActsAt w A N l) (hN : N ≤ 1000) : Calls Try.prog 16 #[.slice A N cA] w fun e w' => GrownRet w w' e := by
  have HACT := Lib.hid hA
  obtain ⟨W, hW⟩ : ∃ W, W = (((w.alloc (.cells #[.slice none 0 0, .int .i64 0] 25)).alloc (.cells #[.slice none 0 0] 31)).alloc (.cells #[.slice none 0 0, .int .i64 0] 25)).alloc (.cells #[.slice none 0 0] 31) := ⟨_, rfl⟩
  have HG0 : Hid (GrA w W [] [] (.slice none 0 0) (.slice none 0 0) 0) := Lib.hid (by
    rw [hW]
    exact ⟨keep_alloc (keep_alloc (keep_alloc (alloc_at rfl _) _) _) _, keep_alloc (keep_alloc (alloc_at (by simp) _) _) _, keep_alloc (alloc_at (by simp) _) _, alloc_at (by simp) _, SlV.nil _ _ _, SlV.nil _ _ _, ((((Fr.refl F0 w).alloc _).alloc _).alloc _).alloc _⟩)
  have HW := Lib.hid hW
  have N0 : (0 : Int) ≤ (N : Int) := Int.natCast_nonneg _
  clear hA hW
  go_enter Try.func16, Try.ntmps16
  go_wp2_with fail
  rw [← HW.out]
  go_loopg [6, 7, 8, 9, 10, 11, 12, 13, 14, 15, 16, 17, 18] N (fun kq x6 x7 x8 x9 x10 x11 x12 x13 x14 x15 x16 x17 x18 wr => ∃ (j : Nat) (X : List Tx9) (L : List Lk) (vx vt : Value) (clk : Int), j ≤ N ∧ kq = N - j ∧ x6 = .int .i64 (j : Int) ∧ GrA w wr X L vx vt clk ∧ Grn X L ∧ 0 ≤ clk ∧ clk ≤ (j : Int))
  case atStart => exact ⟨0, [], [], _, _, 0, Nat.zero_le _, rfl, rfl, HG0.out, Grn.nil, Int.le_refl _, Int.le_refl _⟩
  case round =>
    obtain ⟨j, X, L, vx, vt, clk, hj, rfl, rfl, hga, hgn, hc0, hc1⟩ := hrel
    have HGA := Lib.hid hga
    have HGN := Lib.hid hgn
    have HC0 := Lib.hid hc0
    have HC1 := Lib.hid hc1
    obtain ⟨Ax, cx, rfl, hxr, -⟩ := hga.sx.ex
    obtain ⟨At, ct, rfl, -⟩ := hga.st.ex
    obtain ⟨n, hn⟩ : ∃ n, n = X.length := ⟨_, rfl⟩
    obtain ⟨nt, hnt⟩ : ∃ nt, nt = L.length := ⟨_, rfl⟩
    have HXR := Lib.hid hxr
    have HN := Lib.hid hn
    have HNT := Lib.hid hnt
    rw [← hn, ← hnt] at HGA
    have hn64 : n ≤ 64 := by rw [hn]; exact hgn.len
    have n0 : (0 : Int) ≤ (n : Int) := Int.natCast_nonneg _
    have j0 : (0 : Int) ≤ (j : Int) := Int.natCast_nonneg _
    have k20 : wr.cell? ⟨w.heap.size + 1 + 1, 0, none⟩ = some (.slice Ax n cx) := by rw [cell_of HGA.out.bx]; rfl
    have k21 : wr.cell? ⟨w.heap.size + 1 + 1, 1, none⟩ = some (.int .i64 clk) := by rw [cell_of HGA.out.bx]; rfl
    have k30 : wr.cell? ⟨w.heap.size + 1 + 1 + 1, 0, none⟩ = some (.slice At nt ct) := by rw [cell_of HGA.out.bt]; rfl
    clear hga hgn hc0 hc1 hxr hn hnt
    by_cases hlt : j < N
    · have j1 : (j : Int) < (N : Int) := by omega
      obtain ⟨ab, ao, x, rfl, hx, hok, c0, c1, c2, c3⟩ := (HACT.out.keep0 HGA.out.fr).get hlt
      obtain ⟨wh, atx, ablk, amod⟩ := x
      simp only at c0 c1 c2 c3
      have HCB : Hid (∀ wz, Fr F0 wr wz → wz.cell? ⟨ab, ao + j * 4 + 2, none⟩ = some (.int .i64 ablk) ∧ wz.cell? ⟨ab, ao + j * 4 + 3, none⟩ = some (.int .i64 amod)) := Lib.hid (fun wz hf => ⟨(World.cell?_of_block (w := wr) (hf.block _ (World.block_lt_of_cell? _ _ c2) (fun h => h))).trans c2, (World.cell?_of_block (w := wr) (hf.block _ (World.block_lt_of_cell? _ _ c3) (fun h => h))).trans c3⟩)
      clear hx hok c2 c3
      go_upto_if 31 with fail
      go_cut [8] from 21 to 126 (fun v wc => ∃ id : Int, v = .int .i64 id ∧ (id = -1 ∨ isId X id = true) ∧ wc = wr)
      case first =>
        by_cases hn0 : 0 < n
        · have hn1 : (0 : Int) < (n : Int) := by omega
          obtain ⟨r, hr⟩ : ∃ r : Nat, atx % 65536 = (r : Int) := ⟨(atx % 65536).toNat, by omega⟩
          have hband : bits .and .i64 atx 65535 = (r : Int) := by rw [← hr]; exact i64_and atx 16 (by decide)
          have hw1 : IntKind.i64.wrap ((n : Int) + 1) = (n : Int) + 1 := by rw [IntKind.wrap_i64]; omega
          have hz : ¬ (n : Int) + 1 = 0 := by omega
          have hz2 : ((n : Int) + 1 == 0) = false := by simp; omega
          obtain ⟨s, hs⟩ : ∃ s : Nat, s = r % (n + 1) := ⟨_, rfl⟩
          have hsn : s < n + 1 := by rw [hs]; exact Nat.mod_lt _ (by omega)
          have hrem : Int.tmod (r : Int) ((n : Int) + 1) = (s : Int) := by rw [Int.tmod_eq_emod_of_nonneg (by omega), hs]; simp
          have hw2 : IntKind.i64.wrap ((s : Int) - 1) = (s : Int) - 1 := by rw [IntKind.wrap_i64]; omega
          go_wp2_with fail
          go_meet
          have hmod : (r : Int) % ((n : Int) + 1) = (s : Int) := by rw [hs]; simp
          refine ⟨_, rfl, ?_, rfl⟩
          rw [hmod]
          have e : ∀ x : Int, IntKind.i64.wrap ((s : Int) - 1) = x → x = -1 ∨ isId X x = true := fun x hx => by
            rw [hw2] at hx
            subst hx
            rcases Nat.eq_zero_or_pos s with h | h
            · left; omega
            · right; rw [isId_iff]; have := HN.out; omega
          exact e _ (by rw [IntKind.wrap_i64]; unfold wrap64; omega)
        · have hn1 : ¬ (0 : Int) < (n : Int) := by omega
          go_wp2_with fail
          go_meet
          exact ⟨-1, rfl, .inl rfl, rfl⟩
      case rest =>
        obtain ⟨id, rfl, hid, hwc⟩ := hcut
        subst wc
        have HID := Lib.hid hid
        have HCLK : Hid (clk < 2 ^ 62) := Lib.hid (by have := HC1.out; omega)
        have HX64 : Hid (X.length ≤ 64) := Lib.hid HGN.out.len
        clear hid
        by_cases hw01 : wh = 0 ∨ wh = 1
        · rcases hw01 with rfl | rfl
          all_goals
            go_wp2_with fail
            refine (begin_c clk id HGA.out.sx HX64.out HGN.out.falls HID.out HC0.out HCLK.out).mono ?_
            intro e w2 hbr
            cases hbr with
            | no h he hf =>
              subst he
              have g1 : (beginE X id == 0) = false := by simpa using h
              have HGZ : Hid (GrA w (w2.alloc (.cells #[.slice none 0 0, .int .i64 0] 25)) X L (.slice Ax n cx) (.slice At nt ct) clk) := Lib.hid ((HGA.out.keep0 hf).keep0 ((Fr.refl _ _).alloc _))
              clear hf h
              go_wp2_with fail
              go_roundg (N - (j + 1))
              case measure => omega
              case rel => exact ⟨j + 1, X, L, _, _, clk, by omega, rfl, by first | rfl | (go_num), HGZ.out, HGN.out, HC0.out, by have := HC1.out; omega⟩
            | yes h v2 he hs2 hf2 =>
              subst he
              obtain ⟨A2, c2, rfl⟩ := hs2.exn (n := n + 1) (by rw [List.length_append, ← HN.out]; rfl)
              obtain ⟨W2, hW2⟩ : ∃ W2, W2 = w2.alloc (.cells #[.slice A2 (n + 1) c2, .int .i64 (clk + 1)] 25) := ⟨_, rfl⟩
              have hfW : Fr F0 w2 W2 := by rw [hW2]; exact (Fr.refl _ _).alloc _
              have HS2 := Lib.hid (hs2.keep0 hfW)
              have HG2 := Lib.hid ((HGA.out.keep0 hf2).keep0 hfW)
              have HGN2 : Hid (Grn (X ++ [⟨id, 1, clk + 1, 0⟩]) L) := Lib.hid (HGN.out.begin HID.out h)
              have HW2 := Lib.hid hW2
              clear hs2 hf2 hfW hW2 h
              go_wp2_with (refine wpList_store_at rfl 25 (.tmp 4) (.tmp 82) rfl (w.heap.size + 1 + 1) 0 [.slice A2 (n + 1) c2, .int .i64 (clk + 1)] (by rfl) (by rfl) 25 [.slice Ax n cx, .int .i64 clk] (by rw [← HW2.out]; exact HG2.out.bx) size_tree (Nat.le_refl 2) (tree_one _ _ _ _) ?_; rw [← HW2.out])
              obtain ⟨hb3, hf3⟩ := tree_box (v' := .slice A2 (n + 1) c2) (clk' := clk + 1) rfl HG2.out.bx
              go_roundg (N - (j + 1))
              case measure => omega
              case rel => exact ⟨j + 1, _, L, _, _, clk + 1, by omega, rfl, by first | rfl | (go_num), HG2.out.putX hf3 hb3 HS2.out, HGN2.out, by have := HC0.out; omega, by have := HC1.out; omega⟩
        · by_cases hw2 : wh = 2
          · subst hw2
            clear hw01
            go_wp2_with fail
            refine (commit_c clk id HGA.out.sx HX64.out HC0.out HCLK.out).mono ?_
            intro e w2 hbr
            cases hbr with
            | no h he hf =>
              subst he
              have g1 : (commitE X id == 0) = false := by simpa using h
              have HGZ : Hid (GrA w (w2.alloc (.cells #[.slice none 0 0, .int .i64 0] 25)) X L (.slice Ax n cx) (.slice At nt ct) clk) := Lib.hid ((HGA.out.keep0 hf).keep0 ((Fr.refl _ _).alloc _))
              clear hf h
              go_wp2_with fail
              go_roundg (N - (j + 1))
              case measure => omega
              case rel => exact ⟨j + 1, X, L, _, _, clk, by omega, rfl, by first | rfl | (go_num), HGZ.out, HGN.out, HC0.out, by have := HC1.out; omega⟩
            | yes h v2 he hs2 hf2 =>
              subst he
              have hii := isId_iff.1 (commitE_zero HGN.out.falls h).1
              obtain ⟨q, rfl⟩ : ∃ q : Nat, id = (q : Int) := ⟨id.toNat, by omega⟩
              have hqn : q < X.length := by omega
              have q0 : (0 : Int) ≤ (q : Int) := Int.natCast_nonneg _
              have q1 : (q : Int) < (n : Int) := by have := HN.out; omega
              obtain ⟨xb, xo, rfl, hcs⟩ := HXR.out.get (List.getElem?_eq_getElem hqn) (Tx9.pos _)
              obtain ⟨par, hpar⟩ : ∃ par, par = X[q].parent := ⟨_, rfl⟩
              have hup : upOf X (q : Int) = par := by rw [hpar]; exact upOf_at (List.getElem?_eq_getElem hqn)
              have hpc : wr.cell? ⟨xb, xo + q * 4, none⟩ = some (.int .i64 par) := by rw [hpar]; exact hcs 0 _ rfl
              have HP64 : Hid (par < 64) := Lib.hid (by rw [← hup]; have := upOf_lt HGN.out.falls (commitE_zero HGN.out.falls h).1; have := HX64.out; omega)
              obtain ⟨A2, c2, rfl⟩ := hs2.exn (n := n) (by unfold commitX; rw [endL_len, HN.out])
              obtain ⟨b12, hb12⟩ : ∃ b12, b12 = w2.heap.size := ⟨_, rfl⟩
              obtain ⟨W2, hW2⟩ : ∃ W2, W2 = w2.alloc (.cells #[.slice A2 n c2, .int .i64 (clk + 1)] 25) := ⟨_, rfl⟩
              have hfW : Fr F0 w2 W2 := by rw [hW2]; exact (Fr.refl _ _).alloc _
              have HS2 := Lib.hid (hs2.keep0 hfW)
              have HG2 := Lib.hid ((HGA.out.keep0 hf2).keep0 hfW)
              have H12 : Hid (W2.heap[b12]? = some (.cells #[.slice A2 n c2, .int .i64 (clk + 1)] 25 (0, 0))) := Lib.hid (by rw [hW2]; exact alloc_at hb12 _)
              have HL5 : Hid (w.heap.size + 1 + 1 + 1 < b12) := Lib.hid (by rw [hb12]; exact lt_of_block (HGA.out.keep0 hf2).bt)
              have HPAR : Hid (∀ wz, Fr F0 W2 wz → wz.cell? ⟨xb, xo + q * 4, none⟩ = some (.int .i64 par)) := Lib.hid (fun wz hf => (World.cell?_of_block (w := wr) (((hf2.then0 hfW).then0 hf).block _ (World.block_lt_of_cell? _ _ hpc) (fun h => h))).trans hpc)
              have HT5 := Lib.hid HG2.out.bt
              have HT4 := Lib.hid HG2.out.bx
              have HSL := Lib.hid HG2.out.st
              have HSA := Lib.hid HGN.out.sane
              have HGN2 : Hid (Grn (commitX X (q : Int) clk) (passL L (q : Int) par)) := Lib.hid (by rw [← hup]; exact HGN.out.commit h)
              have HW2 := Lib.hid hW2
              have HB12 := Lib.hid hb12
              clear hs2 hf2 hfW hW2 hb12 h hpc hpar hup hcs hii
              go_wp2_with fail
              rw [← HW2.out, ← HB12.out]
              refine wp_region_last (S := F0) [false, false, false, false, false, false, false, false, false, false, false, false, false, false, false, false, false, false, false, false, false, false, false, false, false, false, false, false, false, false, false, false, false, false, false, false, false, false, false, false, false, false, false, false, false, false, false, false, false, false, false, false, false, false, false, false, false, false, false, false, false, false, false, false, false, false, false, false, false, false, false, false, false, false, false, false, false, false, false, false, false, false, false, false, false, false, false, false, false, false, false, false, false, false, false, false, false, false, false, false, false, false, true, true, true, true, true, true, true, true, true, false, false, false, false, false, false, false, false, false, false, false, false, false, false, false, false, false, false] [.eq (.agg #[.slice At nt ct]), .eq (.int .i64 (q : Int)), .eq (.pointer (some ⟨w.heap.size + 1 + 1, 0, none⟩)), .eq (.slice (some ⟨xb, xo, none⟩) n cx), .eq (.int .i64 (q : Int)), .eq (.pointer (some ⟨xb, xo + q * 4, none⟩)), .eq (.pointer (some ⟨xb, xo + q * 4, none⟩)), .eq (.int .i64 par), ⟨fun v w1 => ∃ u, v = .agg #[u] ∧ SlV 4 Lk.cells w1 u (passL L (q : Int) par), fun v w1 w2 ⟨u, h1, h2⟩ hf => ⟨u, h1, h2.keep0 hf⟩⟩, .any] (by kernel_rfl) (by kernel_rfl) (by rfl) (by rfl) (by kernel_rfl) (fun us => ?steps) (fun us wz hG hall => ?fin)
              case steps =>
                simp only [fillL, Nat.reduceAdd]
                refine stepsHold.cons (fun wx hG hd K hK => ?_) ?_
                · rw [if_pos (wanted_none rfl)]
                  have hc : wx.cell? ⟨w.heap.size + 1 + 1 + 1, 0, none⟩ = some (.slice At nt ct) := by rw [cell_of (hG.keep0 HT5.out)]; rfl
                  refine wp_value (w2 := wx) (v := .agg #[.slice At nt ct]) ?_ (hK _ _ rfl (Fr.refl _ _))
                  clear hd hK
                  go_simp
                refine stepsHold.cons (fun wx hG hd K hK => ?_) ?_
                · rw [if_pos (wanted_none rfl)]
                  refine wp_value (w2 := wx) (v := .int .i64 (q : Int)) ?_ (hK _ _ rfl (Fr.refl _ _))
                  clear hd hG hK
                  go_simp
                refine stepsHold.cons (fun wx hG hd K hK => ?_) ?_
                · rw [if_pos (wanted_none rfl)]
                  refine wp_value (w2 := wx) (v := .pointer (some ⟨w.heap.size + 1 + 1, 0, none⟩)) ?_ (hK _ _ rfl (Fr.refl _ _))
                  clear hd hG hK
                  go_simp
                refine stepsHold.cons (fun wx hG hd K hK => ?_) ?_
                · have h104 : us 104 = (.pointer (some ⟨w.heap.size + 1 + 1, 0, none⟩)) := deps_get hd 0 rfl rfl rfl rfl rfl
                  rw [if_pos (wanted_none rfl)]
                  have hc : wx.cell? ⟨w.heap.size + 1 + 1, 0, none⟩ = some (.slice (some ⟨xb, xo, none⟩) n cx) := by rw [cell_of (hG.keep0 HT4.out)]; rfl
                  refine wp_value (w2 := wx) (v := .slice (some ⟨xb, xo, none⟩) n cx) ?_ (hK _ _ rfl (Fr.refl _ _))
                  clear hd hK
                  go_simp
                refine stepsHold.cons (fun wx hG hd K hK => ?_) ?_
                · rw [if_pos (wanted_none rfl)]
                  refine wp_value (w2 := wx) (v := .int .i64 (q : Int)) ?_ (hK _ _ rfl (Fr.refl _ _))
                  clear hd hG hK
                  go_simp
                refine stepsHold.cons (fun wx hG hd K hK => ?_) ?_
                · have h105 : us 105 = (.slice (some ⟨xb, xo, none⟩) n cx) := deps_get hd 0 rfl rfl rfl rfl rfl
                  have h106 : us 106 = (.int .i64 (q : Int)) := deps_get hd 1 rfl rfl rfl rfl rfl
                  rw [if_pos (wanted_none rfl)]
                  refine wp_value (w2 := wx) (v := .pointer (some ⟨xb, xo + q * 4, none⟩)) ?_ (hK _ _ rfl (Fr.refl _ _))
                  clear hd hG hK
                  go_simp
                refine stepsHold.cons (fun wx hG hd K hK => ?_) ?_
                · have h107 : us 107 = (.pointer (some ⟨xb, xo + q * 4, none⟩)) := deps_get hd 0 rfl rfl rfl rfl rfl
                  rw [if_pos (wanted_none rfl)]
                  refine wp_value (w2 := wx) (v := .pointer (some ⟨xb, xo + q * 4, none⟩)) ?_ (hK _ _ rfl (Fr.refl _ _))
                  clear hd hG hK
                  go_simp
                refine stepsHold.cons (fun wx hG hd K hK => ?_) ?_
                · have h108 : us 108 = (.pointer (some ⟨xb, xo + q * 4, none⟩)) := deps_get hd 0 rfl rfl rfl rfl rfl
                  rw [if_pos (wanted_none rfl)]
                  have hc := HPAR.out wx hG
                  refine wp_value (w2 := wx) (v := .int .i64 par) ?_ (hK _ _ rfl (Fr.refl _ _))
                  clear hd hK
                  go_simp
                refine stepsHold.cons (fun wx hG hd K hK => ?_) ?_
                · have h102 : us 102 = (.agg #[.slice At nt ct]) := deps_get hd 0 rfl rfl rfl rfl rfl
                  have h103 : us 103 = (.int .i64 (q : Int)) := deps_get hd 1 rfl rfl rfl rfl rfl
                  have h109 : us 109 = (.int .i64 par) := deps_get hd 2 rfl rfl rfl rfl rfl
                  rw [if_pos (wanted_none rfl)]
                  refine wp_call (w2 := wx) (f := 15) (args := #[.agg #[.slice At nt ct], .int .i64 (q : Int), .int .i64 par]) ?_ ?_
                  · clear hd hK
                    go_simp
                  · refine ((pass_c (w := wx) (q : Int) par (HSL.out.keep0 hG) HSA.out HP64.out)).mono ?_
                    rintro e w9 ⟨v9, rfl, hs9, hf⟩
                    exact ⟨_, rfl, hK _ _ ⟨v9, rfl, hs9⟩ hf⟩
                exact stepsHold.nil
              case fin =>
                have h102 : us 102 = (.agg #[.slice At nt ct]) := all_get hall 0 rfl rfl rfl
                have h103 : us 103 = (.int .i64 (q : Int)) := all_get hall 1 rfl rfl rfl
                have h104 : us 104 = (.pointer (some ⟨w.heap.size + 1 + 1, 0, none⟩)) := all_get hall 2 rfl rfl rfl
                have h105 : us 105 = (.slice (some ⟨xb, xo, none⟩) n cx) := all_get hall 3 rfl rfl rfl
                have h106 : us 106 = (.int .i64 (q : Int)) := all_get hall 4 rfl rfl rfl
                have h107 : us 107 = (.pointer (some ⟨xb, xo + q * 4, none⟩)) := all_get hall 5 rfl rfl rfl
                have h108 : us 108 = (.pointer (some ⟨xb, xo + q * 4, none⟩)) := all_get hall 6 rfl rfl rfl
                have h109 : us 109 = (.int .i64 par) := all_get hall 7 rfl rfl rfl
                have h110 := all_get hall 8 rfl rfl rfl
                simp only [fillL, Nat.reduceAdd]
                clear hall
                simp only [h102, h103, h104, h105, h106, h107, h108, h109]
                clear h102 h103 h104 h105 h106 h107 h108 h109
                obtain ⟨u5, e5, hs5⟩ := h110
                obtain ⟨A5, c5, rfl, -⟩ := hs5.ex
                obtain ⟨n5, hn5⟩ : ∃ n5, n5 = (passL L (q : Int) par).length := ⟨_, rfl⟩
                rw [← hn5] at e5 hs5
                have ht5 := hG.keep0 HT5.out
                have hz2 := HG2.out.keep0 hG
                refine wp_store_at 31 (.tmp 5) (.tmp 110) rfl (w.heap.size + 1 + 1 + 1) 0 [.slice A5 n5 c5] (by rfl) (by exact e5) 31 [.slice At nt ct] ht5 size_table (Nat.le_refl 1) (by simp [Value.oneCell']) ?_
                obtain ⟨W3, hW3⟩ : ∃ W3, W3 = wz.setRow (w.heap.size + 1 + 1 + 1) (splat [.slice At nt ct] 0 [.slice A5 n5 c5]).toArray := ⟨_, rfl⟩
                have hf3 : Fr (fun k => k = w.heap.size + 1 + 1 + 1) wz W3 := by rw [hW3]; exact (Fr.refl _ _).setRow (by exact .inl rfl) _
                have HG3 := Lib.hid (hz2.putT hf3 (by rw [hW3, setRow_heap _ _ _ _ _ _ ht5]; rfl) hs5)
                have H123 := Lib.hid (hf3.keep (hG.keep0 H12.out) (by have := HL5.out; omega))
                have HS3 := Lib.hid ((HS2.out.keep0 hG).box Tx9.len ht5 (by show 1 < 4; decide) hf3)
                rw [← hW3]
                have g0 : W3.cell? ⟨b12, 0, none⟩ = some (.slice A2 n c2) := by rw [cell_of H123.out]; rfl
                have g1 : W3.cell? ⟨b12, 1, none⟩ = some (.int .i64 (clk + 1)) := by rw [cell_of H123.out]; rfl
                clear hW3 hf3 ht5 hz2 hs5 hn5 hG
                go_wp2_with (refine wpList_store_at rfl 25 (.tmp 4) (.tmp 111) rfl (w.heap.size + 1 + 1) 0 [.slice A2 n c2, .int .i64 (clk + 1)] (by rfl) (by rfl) 25 [.slice (some ⟨xb, xo, none⟩) n cx, .int .i64 clk] HG3.out.bx size_tree (Nat.le_refl 2) (tree_one _ _ _ _) ?_)
                obtain ⟨hb4, hf4⟩ := tree_box (v' := .slice A2 n c2) (clk' := clk + 1) rfl HG3.out.bx
                go_roundg (N - (j + 1))
                case measure => omega
                case rel => exact ⟨j + 1, _, _, _, _, clk + 1, by omega, rfl, by first | rfl | (go_num), HG3.out.putX hf4 hb4 HS3.out, HGN2.out, by have := HC0.out; omega, by have := HC1.out; omega⟩
          · by_cases hw3 : wh = 3
            · subst hw3
              clear hw01 hw2
              go_wp2_with fail
              refine (abort_c clk id HGA.out.sx HX64.out HC0.out HCLK.out).mono ?_
              intro e w2 hbr
              cases hbr with
              | no h he hf =>
                subst he
                have g1 : (abortE X id == 0) = false := by simpa using h
                have HGZ : Hid (GrA w (w2.alloc (.cells #[.slice none 0 0, .int .i64 0] 25)) X L (.slice Ax n cx) (.slice At nt ct) clk) := Lib.hid ((HGA.out.keep0 hf).keep0 ((Fr.refl _ _).alloc _))
                clear hf h
                go_wp2_with fail
                go_roundg (N - (j + 1))
                case measure => omega
                case rel => exact ⟨j + 1, X, L, _, _, clk, by omega, rfl, by first | rfl | (go_num), HGZ.out, HGN.out, HC0.out, by have := HC1.out; omega⟩
              | yes h v2 A3 c3 he hs2 hv3 hbs hf2 =>
                subst he
                obtain ⟨A2, c2, rfl⟩ := hs2.exn (n := n) (by unfold abortX; rw [endL_len, HN.out])
                obtain ⟨b14, hb14⟩ : ∃ b14, b14 = w2.heap.size := ⟨_, rfl⟩
                obtain ⟨W2, hW2⟩ : ∃ W2, W2 = w2.alloc (.cells #[.slice A2 n c2, .int .i64 (clk + 1)] 25) := ⟨_, rfl⟩
                have hfW : Fr F0 w2 W2 := by rw [hW2]; exact (Fr.refl _ _).alloc _
                obtain ⟨I, hI⟩ : ∃ I, I = insL X id undoB := ⟨_, rfl⟩
                obtain ⟨m, hm⟩ : ∃ m, m = I.length := ⟨_, rfl⟩
                have HM := Lib.hid hm
                have hm64 : m ≤ 64 := by have := insL_len X id undoB; have := HX64.out; rw [hm, hI]; omega
                rw [← hI] at hv3 ⊢
                rw [← hm]
                have HS2 := Lib.hid (hs2.keep0 hfW)
                have HG2 := Lib.hid ((HGA.out.keep0 hf2).keep0 hfW)
                have HV2 := Lib.hid (hv3.keep0 hfW)
                have HGN2 : Hid (Grn (abortX X id clk) (freeL L I)) := Lib.hid (by rw [hI]; exact HGN.out.abort h)
                have HW2 := Lib.hid hW2
                have HB14 := Lib.hid hb14
                have m0 : (0 : Int) ≤ (m : Int) := Int.natCast_nonneg _
                have H14 : Hid (W2.heap[b14]? = some (.cells #[.slice A2 n c2, .int .i64 (clk + 1)] 25 (0, 0))) := Lib.hid (by rw [hW2]; exact alloc_at hb14 _)
                have HL5 : Hid (w.heap.size + 1 + 1 + 1 < b14) := Lib.hid (by rw [hb14]; exact lt_of_block (HGA.out.keep0 hf2).bt)
                have HA3 : Hid (∀ ad, A3 = some ad → w.heap.size + 1 + 1 + 1 < ad.block) := Lib.hid (fun ad e => Nat.lt_of_lt_of_le (lt_of_block HGA.out.bt) (hbs ad e))
                clear hbs hs2 hf2 hfW hW2 h hv3 hI hm hb14
                have g0 : W2.cell? ⟨b14, 0, none⟩ = some (.slice A2 n c2) := by rw [cell_of H14.out]; rfl
                have g1 : W2.cell? ⟨b14, 1, none⟩ = some (.int .i64 (clk + 1)) := by rw [cell_of H14.out]; rfl
                obtain ⟨hb4, hf4⟩ := tree_box (v' := .slice A2 n c2) (clk' := clk + 1) rfl HG2.out.bx
                obtain ⟨W3, hW3⟩ : ∃ W3, W3 = W2.setRow (w.heap.size + 1 + 1) (splat [.slice Ax n cx, .int .i64 clk] 0 [.slice A2 n c2, .int .i64 (clk + 1)]).toArray := ⟨_, rfl⟩
                rw [← hW3] at hb4 hf4
                have HG3 := Lib.hid (HG2.out.putX hf4 hb4 HS2.out)
                have HV3 := Lib.hid (HV2.out.keep hf4 (fun ad e hk => by have := HA3.out ad e; omega))
                have HW3 := Lib.hid hW3
                have g2 : W3.cell? ⟨w.heap.size + 1 + 1 + 1, 0, none⟩ = some (.slice At nt ct) := by rw [cell_of HG3.out.bt]; rfl
                clear hb4 hf4 hW3 k20 k21 k30
                go_upto_region 27 with fail
                rw [← HW2.out, ← HB14.out]
                go_wp2_with (refine wpList_store_at rfl 25 (.tmp 4) (.tmp 123) rfl (w.heap.size + 1 + 1) 0 [.slice A2 n c2, .int .i64 (clk + 1)] (by rfl) (by rfl) 25 [.slice Ax n cx, .int .i64 clk] HG2.out.bx size_tree (Nat.le_refl 2) (tree_one _ _ _ _) ?_; rw [← HW3.out])
                refine (free_c (ls := I) (n := m) HM.out.symm HV3.out (by omega) HG3.out.st (by have := sane_len HGN.out.sane; omega)).mono ?_
                rintro e w5 ⟨v5, rfl, hown5, hf5⟩
                have hs5 := SlV.of_own Lk.len hown5
                obtain ⟨A5, c5, rfl, -⟩ := hs5.ex
                obtain ⟨n5, hn5⟩ : ∃ n5, n5 = (freeL L I).length := ⟨_, rfl⟩
                rw [← hn5] at hs5 ⊢
                have HG5 := Lib.hid (HG3.out.keep0 hf5)
                have HS5 := Lib.hid hs5
                clear g0 g1 g2 hown5 hf5 hs5 hn5
                have g1 : w5.cell? ⟨w.heap.size + 1 + 1 + 1, 0, none⟩ = some (.slice At nt ct) := by rw [cell_of HG5.out.bt]; rfl
                have g2 : w5.frozen? ⟨w.heap.size + 1 + 1 + 1, 0, none⟩ = false := free_of HG5.out.bt 0
                go_wp2_with fail
                go_roundg (N - (j + 1))
                case measure => omega
                case rel => exact ⟨j + 1, _, _, _, _, clk + 1, by omega, rfl, by first | rfl | (go_num), HG5.out.putT ((Fr.refl _ _).setCell (by exact .inl rfl) _) (by rw [set_cell HG5.out.bt]; rfl) HS5.out, HGN2.out, by have := HC0.out; omega, by have := HC1.out; omega⟩
            · have g0 : (wh == 0) = false := by simp; omega
              have g1 : (wh == 1) = false := by simp; omega
              have g2 : (wh == 2) = false := by simp; omega
              have g3 : (wh == 3) = false := by simp; omega
              obtain ⟨bq, hbq⟩ : ∃ bq : Nat, ablk % 8 = (bq : Int) := ⟨(ablk % 8).toNat, by omega⟩
              obtain ⟨mq, hmq⟩ : ∃ mq : Nat, amod % 2 = (mq : Int) := ⟨(amod % 2).toNat, by omega⟩
              have HBQ : Hid (bits .and .i64 ablk 7 = (bq : Int)) := Lib.hid (by rw [← hbq]; exact i64_and ablk 3 (by decide))
              have HMQ : Hid (bits .and .i64 amod 1 = (mq : Int)) := Lib.hid (by rw [← hmq]; exact i64_and amod 1 (by decide))
              have HM1 : Hid (IntKind.i64.wrap (1 + (mq : Int)) = 1 + (mq : Int)) := Lib.hid (by rw [IntKind.wrap_i64]; omega)
              have HB0 : Hid ((0 : Int) ≤ (bq : Int)) := Lib.hid (by omega)
              have HB1 : Hid ((bq : Int) < 256) := Lib.hid (by omega)
              have HMM : Hid (1 + (mq : Int) = 1 ∨ 1 + (mq : Int) = 2) := Lib.hid (by omega)
              obtain ⟨lim, hlim⟩ : ∃ lim, lim = wr.heap.size := ⟨_, rfl⟩
              have HLW := Lib.hid hlim
              have HLIM : Hid (∀ wx, Fr (fun k => lim ≤ k) wr wx → Fr F0 wr wx) := Lib.hid (fun wx h => (Fr.refl F0 wr).trans h (fun x hx => .inr (by rw [← hlim]; exact hx)))
              have HL5 : Hid (¬ lim ≤ w.heap.size + 1 + 1 + 1) := Lib.hid (by have := lt_of_block HGA.out.bt; omega)
              have HL4 : Hid (¬ lim ≤ w.heap.size + 1 + 1) := Lib.hid (by have := lt_of_block HGA.out.bx; omega)
              have HT5 := Lib.hid HGA.out.bt
              have HT4 := Lib.hid HGA.out.bx
              have HSL := Lib.hid HGA.out.st
              have HSX := Lib.hid HGA.out.sx
              have HSA := Lib.hid HGN.out.sane
              have HL100 : Hid (L.length ≤ 100000) := Lib.hid (by have := sane_len HGN.out.sane; omega)
              obtain ⟨E, hE⟩ : ∃ E, E = askE X L id (bq : Int) (1 + (mq : Int)) := ⟨_, rfl⟩
              obtain ⟨G, hGG⟩ : ∃ G, G = askL L id (bq : Int) (1 + (mq : Int)) := ⟨_, rfl⟩
              have HE : Hid (askE X L id (bq : Int) (1 + (mq : Int)) = E) := Lib.hid hE.symm
              have HGG : Hid (askL L id (bq : Int) (1 + (mq : Int)) = G) := Lib.hid hGG.symm
              have HGN2 : Hid (E = 0 → Grn X G) := Lib.hid (fun h0 => by rw [hGG]; exact HGN.out.ask ⟨HB0.out, HB1.out⟩ HMM.out (by rw [← hE]; exact h0))
              clear hw01 hw2 hw3 hbq hmq hlim hE hGG
              go_wp2_with fail
              refine wp_region_turnB (lim := lim) (sz := 4) [false, false, false, false, false, false, false, false, false, false, false, false, false, false, false, false, false, true, true, false, false, false, false, false, false, false, false, false, false, false, false, false, false, false, false, false, false, false, false, false, false, false, false, false, false, false, false, true, true, true, true, true, true, true, true, true, true, true, true, true, true, true, true, true, true, true, true, false, false, false, false, false, false, false, false, false, false, false, false, false, false, false, false, false, false, false, false, false, false, false, false, false, false, false, false, false, false, false, false, false, false, false, false, false, false, false, false, false, false, false, false, false, false, false, false, false, false, false, false, false, false, false, false, false, false, false, false, false, false] [.eq (.agg #[.slice At nt ct]), .eq (.agg #[.slice Ax n cx, .int .i64 clk]), .eq (.int .i64 id), .eq (.slice (some ⟨ab, ao, none⟩) N cA), .eq (.int .i64 (j : Int)), .eq (.pointer (some ⟨ab, ao + j * 4, none⟩)), .eq (.pointer (some ⟨ab, ao + j * 4 + 2, none⟩)), .eq (.int .i64 ablk), .eq (.int .i64 (bq : Int)), .eq (.slice (some ⟨ab, ao, none⟩) N cA), .eq (.int .i64 (j : Int)), .eq (.pointer (some ⟨ab, ao + j * 4, none⟩)), .eq (.pointer (some ⟨ab, ao + j * 4 + 3, none⟩)), .eq (.int .i64 amod), .eq (.int .i64 (mq : Int)), .eq (.int .i64 (1 + (mq : Int))), ⟨fun v w1 => ∃ A n c, v = .tuple #[.agg #[.slice A n c], .int .i64 E] ∧ (E = 0 → SlV 4 Lk.cells w1 (.slice A n c) G), fun v w1 w2 ⟨A, n, c, h1, h2⟩ hf => ⟨A, n, c, h1, fun e => (h2 e).keepB Lk.len (by decide) hf⟩⟩, ⟨fun v w1 => ∃ A n c, v = .tuple #[.agg #[.slice A n c], .int .i64 E] ∧ (E = 0 → SlV 4 Lk.cells w1 (.slice A n c) G), fun v w1 w2 ⟨A, n, c, h1, h2⟩ hf => ⟨A, n, c, h1, fun e => (h2 e).keepB Lk.len (by decide) hf⟩⟩, ⟨fun v w1 => ∃ A n c, v = .agg #[.slice A n c] ∧ (E = 0 → SlV 4 Lk.cells w1 (.slice A n c) G), fun v w1 w2 ⟨A, n, c, h1, h2⟩ hf => ⟨A, n, c, h1, fun e => (h2 e).keepB Lk.len (by decide) hf⟩⟩, .eq (.int .i64 E), .any, .any, .eq (.int .i64 E)] (BoxJ 17 lim E G) [none, none, none, none, none, none, none, none, none, none, none, none, none, none, none, none, none, none, none, none, some 0, some 1, none] [17] 2 (by kernel_rfl) (by kernel_rfl) (by rfl) (by kernel_rfl) ?hJ ?hJ0 (fun us => ?steps) (fun us wz hG hJ hall => ?fin)
              case hJ =>
                exact BoxJ.keep 17 lim E G
              case hJ0 =>
                exact fun h => by cases h
              case steps =>
                simp only [fillL, Nat.reduceAdd]
                refine stepsTurnB.cons (fun wx hG hd K hK => ?_) ?_
                · rw [if_pos (wanted_none rfl)]
                  have hc : wx.cell? ⟨w.heap.size + 1 + 1 + 1, 0, none⟩ = some (.slice At nt ct) := by rw [cell_of (hG.fr.keep HT5.out HL5.out)]; rfl
                  refine wp_value (w2 := wx) (v := .agg #[.slice At nt ct]) ?_ (hK _ _ rfl (Fr.refl _ _))
                  clear hd hK
                  go_simp
                refine stepsTurnB.cons (fun wx hG hd K hK => ?_) ?_
                · rw [if_pos (wanted_none rfl)]
                  have hc : wx.cell? ⟨w.heap.size + 1 + 1, 0, none⟩ = some (.slice Ax n cx) := by rw [cell_of (hG.fr.keep HT4.out HL4.out)]; rfl
                  have hc1 : wx.cell? ⟨w.heap.size + 1 + 1, 1, none⟩ = some (.int .i64 clk) := by rw [cell_of (hG.fr.keep HT4.out HL4.out)]; rfl
                  refine wp_value (w2 := wx) (v := .agg #[.slice Ax n cx, .int .i64 clk]) ?_ (hK _ _ rfl (Fr.refl _ _))
                  clear hd hK
                  go_simp
                refine stepsTurnB.cons (fun wx hG hd K hK => ?_) ?_
                · rw [if_pos (wanted_none rfl)]
                  refine wp_value (w2 := wx) (v := .int .i64 id) ?_ (hK _ _ rfl (Fr.refl _ _))
                  clear hd hG hK
                  go_simp
                refine stepsTurnB.cons (fun wx hG hd K hK => ?_) ?_
                · rw [if_pos (wanted_none rfl)]
                  refine wp_value (w2 := wx) (v := .slice (some ⟨ab, ao, none⟩) N cA) ?_ (hK _ _ rfl (Fr.refl _ _))
                  clear hd hG hK
                  go_simp
                refine stepsTurnB.cons (fun wx hG hd K hK => ?_) ?_
                · rw [if_pos (wanted_none rfl)]
                  refine wp_value (w2 := wx) (v := .int .i64 (j : Int)) ?_ (hK _ _ rfl (Fr.refl _ _))
                  clear hd hG hK
                  go_simp
                refine stepsTurnB.cons (fun wx hG hd K hK => ?_) ?_
                · have h51 : us 51 = (.slice (some ⟨ab, ao, none⟩) N cA) := deps_getB hd 0 rfl rfl rfl rfl rfl
                  have h52 : us 52 = (.int .i64 (j : Int)) := deps_getB hd 1 rfl rfl rfl rfl rfl
                  rw [if_pos (wanted_none rfl)]
                  refine wp_value (w2 := wx) (v := .pointer (some ⟨ab, ao + j * 4, none⟩)) ?_ (hK _ _ rfl (Fr.refl _ _))
                  clear hd hG hK
                  go_simp
                refine stepsTurnB.cons (fun wx hG hd K hK => ?_) ?_
                · have h53 : us 53 = (.pointer (some ⟨ab, ao + j * 4, none⟩)) := deps_getB hd 0 rfl rfl rfl rfl rfl
                  rw [if_pos (wanted_none rfl)]
                  refine wp_value (w2 := wx) (v := .pointer (some ⟨ab, ao + j * 4 + 2, none⟩)) ?_ (hK _ _ rfl (Fr.refl _ _))
                  clear hd hG hK
                  go_simp
                refine stepsTurnB.cons (fun wx hG hd K hK => ?_) ?_
                · have h54 : us 54 = (.pointer (some ⟨ab, ao + j * 4 + 2, none⟩)) := deps_getB hd 0 rfl rfl rfl rfl rfl
                  rw [if_pos (wanted_none rfl)]
                  have hc := (HCB.out wx (HLIM.out wx hG.fr)).1
                  refine wp_value (w2 := wx) (v := .int .i64 ablk) ?_ (hK _ _ rfl (Fr.refl _ _))
                  clear hd hK
                  go_simp
                refine stepsTurnB.cons (fun wx hG hd K hK => ?_) ?_
                · have h55 : us 55 = (.int .i64 ablk) := deps_getB hd 0 rfl rfl rfl rfl rfl
                  rw [if_pos (wanted_none rfl)]
                  have hw := HBQ.out
                  refine wp_value (w2 := wx) (v := .int .i64 (bq : Int)) ?_ (hK _ _ rfl (Fr.refl _ _))
                  clear hd hG hK
                  go_simp
                refine stepsTurnB.cons (fun wx hG hd K hK => ?_) ?_
                · rw [if_pos (wanted_none rfl)]
                  refine wp_value (w2 := wx) (v := .slice (some ⟨ab, ao, none⟩) N cA) ?_ (hK _ _ rfl (Fr.refl _ _))
                  clear hd hG hK
                  go_simp
                refine stepsTurnB.cons (fun wx hG hd K hK => ?_) ?_
                · rw [if_pos (wanted_none rfl)]
                  refine wp_value (w2 := wx) (v := .int .i64 (j : Int)) ?_ (hK _ _ rfl (Fr.refl _ _))
                  clear hd hG hK
                  go_simp
                refine stepsTurnB.cons (fun wx hG hd K hK => ?_) ?_
                · have h57 : us 57 = (.slice (some ⟨ab, ao, none⟩) N cA) := deps_getB hd 0 rfl rfl rfl rfl rfl
                  have h58 : us 58 = (.int .i64 (j : Int)) := deps_getB hd 1 rfl rfl rfl rfl rfl
                  rw [if_pos (wanted_none rfl)]
                  refine wp_value (w2 := wx) (v := .pointer (some ⟨ab, ao + j * 4, none⟩)) ?_ (hK _ _ rfl (Fr.refl _ _))
                  clear hd hG hK
                  go_simp
                refine stepsTurnB.cons (fun wx hG hd K hK => ?_) ?_
                · have h59 : us 59 = (.pointer (some ⟨ab, ao + j * 4, none⟩)) := deps_getB hd 0 rfl rfl rfl rfl rfl
                  rw [if_pos (wanted_none rfl)]
                  refine wp_value (w2 := wx) (v := .pointer (some ⟨ab, ao + j * 4 + 3, none⟩)) ?_ (hK _ _ rfl (Fr.refl _ _))
                  clear hd hG hK
                  go_simp
                refine stepsTurnB.cons (fun wx hG hd K hK => ?_) ?_
                · have h60 : us 60 = (.pointer (some ⟨ab, ao + j * 4 + 3, none⟩)) := deps_getB hd 0 rfl rfl rfl rfl rfl
                  rw [if_pos (wanted_none rfl)]
                  have hc := (HCB.out wx (HLIM.out wx hG.fr)).2
                  refine wp_value (w2 := wx) (v := .int .i64 amod) ?_ (hK _ _ rfl (Fr.refl _ _))
                  clear hd hK
                  go_simp
                refine stepsTurnB.cons (fun wx hG hd K hK => ?_) ?_
                · have h61 : us 61 = (.int .i64 amod) := deps_getB hd 0 rfl rfl rfl rfl rfl
                  rw [if_pos (wanted_none rfl)]
                  have hw := HMQ.out
                  refine wp_value (w2 := wx) (v := .int .i64 (mq : Int)) ?_ (hK _ _ rfl (Fr.refl _ _))
                  clear hd hG hK
                  go_simp
                refine stepsTurnB.cons (fun wx hG hd K hK => ?_) ?_
                · have h62 : us 62 = (.int .i64 (mq : Int)) := deps_getB hd 0 rfl rfl rfl rfl rfl
                  rw [if_pos (wanted_none rfl)]
                  have hw := HM1.out
                  refine wp_value (w2 := wx) (v := .int .i64 (1 + (mq : Int))) ?_ (hK _ _ rfl (Fr.refl _ _))
                  clear hd hG hK
                  go_simp
                refine stepsTurnB.cons (fun wx hG hd K hK => ?_) ?_
                · have h48 : us 48 = (.agg #[.slice At nt ct]) := deps_getB hd 0 rfl rfl rfl rfl rfl
                  have h49 : us 49 = (.agg #[.slice Ax n cx, .int .i64 clk]) := deps_getB hd 1 rfl rfl rfl rfl rfl
                  have h50 : us 50 = (.int .i64 id) := deps_getB hd 2 rfl rfl rfl rfl rfl
                  have h56 : us 56 = (.int .i64 (bq : Int)) := deps_getB hd 3 rfl rfl rfl rfl rfl
                  have h63 : us 63 = (.int .i64 (1 + (mq : Int))) := deps_getB hd 4 rfl rfl rfl rfl rfl
                  rw [if_pos (wanted_none rfl)]
                  refine wp_call (w2 := wx) (f := 12) (args := #[.agg #[.slice At nt ct], .agg #[.slice Ax n cx, .int .i64 clk], .int .i64 id, .int .i64 (bq : Int), .int .i64 (1 + (mq : Int))]) ?_ ?_
                  · clear hd hK
                    go_simp
                  · refine (ask_c (w := wx) (X := X) (L := L) clk id (bq : Int) (1 + (mq : Int)) (HSL.out.keepB Lk.len (by decide) hG) HL100.out HSA.out (HSX.out.keepB Tx9.len (by decide) hG) HX64.out HB0.out HB1.out HMM.out).mono ?_
                    intro e w9 har
                    obtain ⟨A, n, c, rfl, hs, hf⟩ := har.any2
                    rw [HE.out] at hs ⊢
                    rw [HGG.out] at hs
                    exact ⟨_, rfl, hK _ _ ⟨A, n, c, rfl, hs⟩ hf⟩
                refine stepsTurnB.cons (fun wx hG hd K hK => ?_) ?_
                · have h64 := deps_getB hd 0 rfl rfl rfl rfl rfl
                  rw [if_pos (wanted_none rfl)]
                  obtain ⟨A, n, c, h64', hs⟩ := h64
                  refine wp_value (w2 := wx) (v := .tuple #[.agg #[.slice A n c], .int .i64 E]) ?_ (hK _ _ ⟨_, _, _, rfl, hs⟩ (Fr.refl _ _))
                  clear hd hG hK hs
                  go_simp
                refine stepsTurnB.cons (fun wx hG hd K hK => ?_) ?_
                · have h47 := deps_getB hd 0 rfl rfl rfl rfl rfl
                  rw [if_pos (wanted_none rfl)]
                  obtain ⟨A, n, c, h47', hs⟩ := h47
                  refine wp_value (w2 := wx) (v := .agg #[.slice A n c]) ?_ (hK _ _ ⟨_, _, _, rfl, hs⟩ (Fr.refl _ _))
                  clear hd hG hK hs
                  go_simp
                refine stepsTurnB.cons (fun wx hG hd K hK => ?_) ?_
                · have h47 := deps_getB hd 0 rfl rfl rfl rfl rfl
                  rw [if_pos (wanted_none rfl)]
                  obtain ⟨A, n, c, h47', hs⟩ := h47
                  refine wp_value (w2 := wx) (v := .int .i64 E) ?_ (hK _ _ rfl (Fr.refl _ _))
                  clear hd hG hK hs
                  go_simp
                refine stepsTurnB.cons (fun wx hG hJ hd K hK => ?_) ?_
                · rw [if_pos (wanted_none rfl)]
                  refine wp_value (w2 := wx.alloc (.cells #[.slice none 0 0] 31)) (v := .pointer (some ⟨wx.heap.size, 0, none⟩)) ?_ (hK _ _ trivial (FrB.of0 ((Fr.refl _ _).alloc _)) (fun _ => ⟨wx.heap.size, _, by simp [updD], hG.fr.size |> fun h => by rw [HLW.out]; exact h, alloc_at rfl _, fun h => by cases h⟩))
                  clear hd hG hK hJ
                  go_simp
                refine stepsTurnB.cons (fun wx hG hJ hd K hK => ?_) ?_
                · have h17 := deps_getB hd 0 rfl rfl rfl rfl rfl
                  have h65 := deps_getB hd 1 rfl rfl rfl rfl rfl
                  rw [if_pos (wanted_none rfl)]
                  obtain ⟨bb, uu, hb1, hb2, hb3, -⟩ := hJ (Nat.le_refl 1)
                  obtain ⟨A, n, c, h65', hs⟩ := h65
                  have hf9 := FrB.small (sz := 4) (lim := lim) hb3 (by show 1 < 4; decide) hb2 ((Fr.refl (fun k => k = bb) wx).setRow (by exact .inl rfl) (splat [uu] 0 [.slice A n c]).toArray)
                  refine wp_store_at 31 (.tmp 17) (.tmp 65) rfl bb 0 [.slice A n c] (by exact hb1) (by exact h65') 31 [uu] hb3 size_table (Nat.le_refl 1) (by simp [Value.oneCell']) (hK undef _ trivial hf9 (fun _ => ⟨bb, .slice A n c, by first | exact hb1 | simpa [updD] using hb1, hb2, by rw [setRow_heap _ _ _ _ _ _ hb3]; rfl, fun _ => ⟨A, n, c, rfl, fun e => (hs e).keepB Lk.len (by decide) hf9⟩⟩))
                refine stepsTurnB.cons (fun wx hG hd K hK => ?_) ?_
                · have h66 : us 66 = (.int .i64 E) := deps_getB hd 0 rfl rfl rfl rfl rfl
                  rw [if_pos (wanted_none rfl)]
                  refine wp_value (w2 := wx) (v := .int .i64 E) ?_ (hK _ _ rfl (Fr.refl _ _))
                  clear hd hG hK
                  go_simp
                exact stepsTurnB.nil
              case fin =>
                have h48 : us 48 = (.agg #[.slice At nt ct]) := all_getB hall 0 rfl rfl rfl
                have h49 : us 49 = (.agg #[.slice Ax n cx, .int .i64 clk]) := all_getB hall 1 rfl rfl rfl
                have h50 : us 50 = (.int .i64 id) := all_getB hall 2 rfl rfl rfl
                have h51 : us 51 = (.slice (some ⟨ab, ao, none⟩) N cA) := all_getB hall 3 rfl rfl rfl
                have h52 : us 52 = (.int .i64 (j : Int)) := all_getB hall 4 rfl rfl rfl
                have h53 : us 53 = (.pointer (some ⟨ab, ao + j * 4, none⟩)) := all_getB hall 5 rfl rfl rfl
                have h54 : us 54 = (.pointer (some ⟨ab, ao + j * 4 + 2, none⟩)) := all_getB hall 6 rfl rfl rfl
                have h55 : us 55 = (.int .i64 ablk) := all_getB hall 7 rfl rfl rfl
                have h56 : us 56 = (.int .i64 (bq : Int)) := all_getB hall 8 rfl rfl rfl
                have h57 : us 57 = (.slice (some ⟨ab, ao, none⟩) N cA) := all_getB hall 9 rfl rfl rfl
                have h58 : us 58 = (.int .i64 (j : Int)) := all_getB hall 10 rfl rfl rfl
                have h59 : us 59 = (.pointer (some ⟨ab, ao + j * 4, none⟩)) := all_getB hall 11 rfl rfl rfl
                have h60 : us 60 = (.pointer (some ⟨ab, ao + j * 4 + 3, none⟩)) := all_getB hall 12 rfl rfl rfl
                have h61 : us 61 = (.int .i64 amod) := all_getB hall 13 rfl rfl rfl
                have h62 : us 62 = (.int .i64 (mq : Int)) := all_getB hall 14 rfl rfl rfl
                have h63 : us 63 = (.int .i64 (1 + (mq : Int))) := all_getB hall 15 rfl rfl rfl
                have h64 := all_getB hall 16 rfl rfl rfl
                have h47 := all_getB hall 17 rfl rfl rfl
                have h65 := all_getB hall 18 rfl rfl rfl
                have h66 : us 66 = (.int .i64 E) := all_getB hall 19 rfl rfl rfl
                have h17 := all_getB hall 20 rfl rfl rfl
                have h18 : us 18 = (.int .i64 E) := all_getB hall 22 rfl rfl rfl
                simp only [fillL, Nat.reduceAdd]
                clear hall
                simp only [h48, h49, h50, h51, h52, h53, h54, h55, h56, h57, h58, h59, h60, h61, h62, h63, h66, h18]
                clear h48 h49 h50 h51 h52 h53 h54 h55 h56 h57 h58 h59 h60 h61 h62 h63 h66 h18
                obtain ⟨b17, u17, e17, hlb, hb17, hb4⟩ := hJ (by decide)
                obtain ⟨A17, n17, c17, rfl, hs17⟩ := hb4 rfl
                have HGZ := Lib.hid (HGA.out.keep0 (HLIM.out wz hG.fr))
                have H17 := Lib.hid hb17
                have HS17 := Lib.hid hs17
                rw [e17]
                clear hJ hG hb4 hb17 hs17 k20 k21 k30 c0 c1
                by_cases hE0 : E = 0
                · have g4 : (E == 0) = true := by simp [hE0]
                  have HE0 := Lib.hid hE0
                  have q1 : wz.cell? ⟨b17, 0, none⟩ = some (.slice A17 n17 c17) := by rw [cell_of H17.out]; rfl
                  have q2 : wz.cell? ⟨w.heap.size + 1 + 1 + 1, 0, none⟩ = some (.slice At nt ct) := by rw [cell_of HGZ.out.bt]; rfl
                  have q3 : wz.frozen? ⟨w.heap.size + 1 + 1 + 1, 0, none⟩ = false := free_of HGZ.out.bt 0
                  clear hE0
                  go_wp2_with fail
                  go_roundg (N - (j + 1))
                  case measure => omega
                  case rel => exact ⟨j + 1, X, G, _, _, clk, by omega, rfl, by first | rfl | (go_num), HGZ.out.putT ((Fr.refl _ _).setCell (by exact .inl rfl) _) (by rw [set_cell HGZ.out.bt]; rfl) (HS17.out HE0.out), HGN2.out HE0.out, HC0.out, by have := HC1.out; omega⟩
                · have g4 : (E == 0) = false := by simp [hE0]
                  clear hE0
                  go_wp2_with fail
                  go_roundg (N - (j + 1))
                  case measure => omega
                  case rel => exact ⟨j + 1, X, L, _, _, clk, by omega, rfl, by first | rfl | (go_num), HGZ.out, HGN.out, HC0.out, by have := HC1.out; omega⟩
    · have hjn : j = N := by omega
      subst hjn
      have r0 : wr.cell? ⟨w.heap.size, 0, none⟩ = some (.slice none 0 0) := by rw [cell_of HGA.out.rx]; rfl
      have r1 : wr.cell? ⟨w.heap.size, 1, none⟩ = some (.int .i64 0) := by rw [cell_of HGA.out.rx]; rfl
      have r2 : wr.cell? ⟨w.heap.size + 1, 0, none⟩ = some (.slice none 0 0) := by rw [cell_of HGA.out.rt]; rfl
      have f0 : wr.frozen? ⟨w.heap.size, 0, none⟩ = false := free_of HGA.out.rx 0
      have f1 : wr.frozen? ⟨w.heap.size, 1, none⟩ = false := free_of HGA.out.rx 1
      have f2 : wr.frozen? ⟨w.heap.size + 1, 0, none⟩ = false := free_of HGA.out.rt 0
      go_wp2_with fail
      go_region
      all_goals
        go_wp2_with fail
        have h1 : (wr.setCell ⟨w.heap.size, 0, none⟩ (.slice Ax n cx)).heap[w.heap.size]? = some (.cells #[.slice Ax n cx, .int .i64 0] 25 (0, 0)) := by rw [set_cell HGA.out.rx]; rfl
        have h2 : ((wr.setCell ⟨w.heap.size, 0, none⟩ (.slice Ax n cx)).setCell ⟨w.heap.size, 1, none⟩ (.int .i64 clk)).heap[w.heap.size]? = some (.cells #[.slice Ax n cx, .int .i64 clk] 25 (0, 0)) := by rw [set_cell h1]; rfl
        have hf2 : Fr (fun k => k = w.heap.size) wr ((wr.setCell ⟨w.heap.size, 0, none⟩ (.slice Ax n cx)).setCell ⟨w.heap.size, 1, none⟩ (.int .i64 clk)) := ((Fr.refl _ _).setCell (by exact .inl rfl) _).setCell (by exact .inl rfl) _
        have hx2 := HGA.out.sx.box Tx9.len HGA.out.rx (by show 2 < 4; decide) hf2
        have ht2 := HGA.out.st.box Lk.len HGA.out.rx (by show 2 < 4; decide) hf2
        have hr2 := hf2.keep HGA.out.rt (by omega)
        have hfw := HGA.out.fr.trans hf2 (fun k hk => .inr (by omega))
        generalize ((wr.setCell ⟨w.heap.size, 0, none⟩ (.slice Ax n cx)).setCell ⟨w.heap.size, 1, none⟩ (.int .i64 clk)) = W2 at *
        have hf3 : Fr (fun k => k = w.heap.size + 1) W2 (W2.setCell ⟨w.heap.size + 1, 0, none⟩ (.slice At nt ct)).drew := ((Fr.refl _ _).setCell (by exact .inl rfl) _).drew
        have h3 : ((W2.setCell ⟨w.heap.size + 1, 0, none⟩ (.slice At nt ct)).drew).heap[w.heap.size + 1]? = some (.cells #[.slice At nt ct] 31 (0, 0)) := (Fr.refl F0 _).drew.keep0 (by rw [set_cell hr2]; rfl)
        have h4 := hf3.keep h2 (by omega)
        refine bodyPost_ret (results_cells2 rfl (by rfl) (by rfl) (load_tree h4) (load_tab h3)) rfl ⟨X, L, _, _, clk, rfl, hx2.box Tx9.len hr2 (by show 1 < 4; decide) hf3, ht2.box Lk.len hr2 (by show 1 < 4; decide) hf3, HGN.out, HC0.out, by have := HC1.out; omega, hfw.trans hf3 (fun k hk => .inr (by omega))⟩
end
end Go.Proofs.Ytgbaijfgmeealaa
