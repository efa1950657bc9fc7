/-
  super's Decode. super's Decode, the walk. Conditions: none.
-/
import Derived.Test.YtdeckbdaencjnaaDoorSe
import Derived.Test.YtdeckbdaencjnaaDoorShelf2
import Derived.Lib.SlBytesRowKit
set_option linter.unusedVariables false
set_option linter.unusedSimpArgs false
namespace Go.Proofs.YtdeckbdaencjnaaDoor
open Go.RowKit

theorem bytesOf_zero {xs : List Int} (h : Bys xs) : (∀ b ∈ Lib.bytesOf xs, ([0] : List UInt8).contains b = true) ↔ xs = List.replicate xs.length 0 := by
  unfold Lib.bytesOf
  constructor
  · intro hb
    refine List.eq_replicate_iff.2 ⟨rfl, fun x hx => ?_⟩
    have := hb (UInt8.ofNat x.toNat) (List.mem_map.2 ⟨x, hx, rfl⟩)
    simp at this
    have h2 := congrArg UInt8.toNat this
    have h3 := h x hx
    simp at h2
    omega
  · intro he b hb
    obtain ⟨x, hx, rfl⟩ := List.mem_map.1 hb
    rw [he] at hx
    rw [(List.mem_replicate.1 hx).2]
    decide
theorem dropWhile_nil {α : Type} (p : α → Bool) (l : List α) : l.dropWhile p = [] ↔ ∀ x ∈ l, p x = true := by
  induction l with
  | nil => simp
  | cons a l ih =>
    by_cases h : p a = true
    · rw [List.dropWhile_cons_of_pos h, ih]
      simp [h]
    · rw [List.dropWhile_cons_of_neg h]
      simp [h]
theorem trimS_nil {l : List UInt8} (p : List UInt8) : Lib.trimS l p = [] ↔ ∀ b ∈ l, p.contains b = true := by
  unfold Lib.trimS Lib.trimLeftS Lib.trimRightS
  rw [dropWhile_nil]
  constructor
  · intro h
    by_cases he : l.reverse.dropWhile (p.contains ·) = []
    · rw [dropWhile_nil] at he
      intro b hb
      exact he b (List.mem_reverse.2 hb)
    · exfalso
      have hne := List.head_dropWhile_not (p.contains ·) he
      have hm : (l.reverse.dropWhile (p.contains ·)).head he ∈ (l.reverse.dropWhile (p.contains ·)).reverse := by
        rw [List.mem_reverse]; exact List.head_mem he
      have := h _ hm
      rw [this] at hne
      cases hne
  · intro h b hb
    have hb2 : b ∈ l.reverse.dropWhile (p.contains ·) := List.mem_reverse.1 hb
    have := (List.dropWhile_suffix (p.contains ·) (l := l.reverse)).subset hb2
    exact h b (List.mem_reverse.1 this)
theorem bytesOf_take (xs : List Int) (n : Nat) : Lib.bytesOf (xs.take n) = (Lib.bytesOf xs).take n := by simp [Lib.bytesOf, List.map_take]
theorem hasPrefix_mark {xs : List Int} (h : Bys xs) (hl : 8 ≤ xs.length) : Lib.hasPrefix (Lib.bytesOf xs) (Lib.bytesOf mark8) = decide (xs.take 8 = mark8) := by
  rw [Bool.eq_iff_iff]
  simp only [Lib.hasPrefix, List.isPrefixOf_iff_prefix, decide_eq_true_eq]
  have hm : Bys mark8 := by
    intro x hx
    simp only [mark8, List.mem_cons, List.not_mem_nil, or_false] at hx
    omega
  constructor
  · intro hp
    have := List.prefix_iff_eq_take.1 hp
    have h8 : (Lib.bytesOf mark8).length = 8 := rfl
    rw [h8, ← bytesOf_take] at this
    exact (bytesOf_inj hm (h.take 8) this).symm
  · intro he
    rw [← he, bytesOf_take]
    exact List.take_prefix _ _

section
variable {w : World}
theorem cut_c (A B : Option Addr) (n c d : Nat) (xs : List Int) (hA : Byt w A c xs) (hn : xs.length = n) (hb : Bys xs) (hl : 8 ≤ n) (hB : BytesAt w B 8 mark8) :
    Calls Tryd.prog 59 #[.slice A n c, .slice B 8 d] w fun e w' => ∃ A' c' R, e = .returned (.tuple #[.slice A' R.length c', .bool (decide (xs.take 8 = mark8))]) ∧ Hid (R = if xs.take 8 = mark8 then xs.drop 8 else xs) ∧ Byt w A' c' R ∧ w = w' := by
  subst hn
  refine (Tryd.bytes_CutPrefix_all A B xs.length c 8 d xs mark8 w rfl rfl hA.cap hA.at_.bin hB.bin).mono ?_
  rintro e w' ⟨rfl, rfl⟩
  rw [trimPrefixV_eq rfl hA.at_.bin, hasPrefix_mark hb hl]
  by_cases h : xs.take 8 = mark8
  · simp only [h, decide_true, if_true]
    have h8 : mark8.length = 8 := rfl
    refine ⟨if c = 8 then A else A.map (·.add 8), c - 8, xs.drop 8, ?_, Lib.hid rfl, hA.drop 8 hl, trivial⟩
    rw [h8]
    unfold Lib.fromV
    simp
  · simp only [h, decide_false, Bool.false_eq_true, if_false]
    exact ⟨A, c, xs, rfl, Lib.hid rfl, hA, trivial⟩
theorem trim0_c (A : Option Addr) (n c : Nat) (xs : List Int) (hA : Byt w A c xs) (hn : xs.length = n) (hb : Bys xs) (hl : 0 < n) :
    Calls Tryd.prog 62 #[.slice A n c, .string ⟨#[0]⟩] w fun e w' => ∃ A' m c', e = .returned (.slice A' m c') ∧ (m = 0 ↔ xs = List.replicate n 0) ∧ Fr F0 w w' := by
  subst hn
  have h8 : Lib.BytesAt w A xs.length (Lib.bytesOf xs) := Lib.BytesIn.at8 hA.at_.bin rfl (fun x hx => by have := hb x hx; omega)
  refine (Tryd.bytes_Trim_one A xs.length c (Lib.bytesOf xs) 0 w (by simp [Lib.bytesOf]) hA.cap hA.big h8 hl (by decide)).mono ?_
  rintro e w' ⟨rfl, q, rfl⟩
  have hle : (Lib.trimS (Lib.bytesOf xs) [0]).length ≤ (Lib.trimRightS (Lib.bytesOf xs) [0]).length := by
    unfold Lib.trimS Lib.trimLeftS
    exact (List.dropWhile_suffix _).length_le
  have hz : Lib.trimS (Lib.bytesOf xs) [0] = [] ↔ xs = List.replicate xs.length 0 := by rw [trimS_nil, bytesOf_zero hb]
  unfold Lib.leftV Lib.fromV
  split
  · rename_i he
    refine ⟨none, 0, 0, rfl, ⟨fun _ => hz.1 (List.eq_nil_of_length_eq_zero (by omega)), fun _ => rfl⟩, (Fr.refl _ _).drewN _⟩
  · rename_i he
    refine ⟨_, _, _, rfl, ?_, (Fr.refl _ _).drewN _⟩
    rw [← hz]
    constructor
    · intro h0
      exact List.eq_nil_of_length_eq_zero (by omega)
    · intro h0
      rw [h0] at he ⊢
      simp at he ⊢
end
end Go.Proofs.YtdeckbdaencjnaaDoor
set_option linter.unusedVariables false
set_option linter.unusedSimpArgs false
namespace Go.Proofs.YtdeckbdaencjnaaDoor
open Go.RowKit

theorem und_super : ∃ d, Tryd.prog.underlying 29 = some d ∧ aggDesc d = true := ⟨_, Tryd.underlying29, rfl⟩
theorem size_super : (Tryd.prog.info? 29).map (·.size) = some 7 := by kernel_rfl
/-- Two results, the first of which lies in memory. -/
theorem results_cell2 {P : Program} {fn : Func} {tmps : Array Value} {w : World} {a c : Nat} {t : TypeId} {ad : Addr} {v u : Value} (hfn : fn.results = #[.cell a t, .tmp c]) (ha : tmps.getD a undef = .pointer (some ad)) (hc : tmps.getD c undef = u) (hr : (loadVar t ad).run P w = .ok v w) :
    (results fn tmps).run P w = .ok (.tuple #[v, u]) w := by
  have ha' : tmps[a]?.getD undef = .pointer (some ad) := by rw [← ha]; simp [Array.getD_eq_getD_getElem?]
  have hc' : tmps[c]?.getD undef = u := by rw [← hc]; simp [Array.getD_eq_getD_getElem?]
  simp [results, hfn, asAddr, ha', hc', hr]
theorem load_super {w : World} {b : Nat} {t : TypeId} {s : Sup} (h : w.heap[b]? = some (.cells s.cells.toArray t (0, 0))) : (loadVar 29 ⟨b, 0, none⟩).run Tryd.prog w = .ok (.agg s.cells.toArray) w := by
  obtain ⟨d, hu, hd⟩ := und_super
  refine run_loadVar_at w b 0 29 s.cells d (fun j v hv => ?_) hu hd size_super
  rw [cell_of h]
  simpa using hv

def foff : List Nat := [0, 8, 12, 14, 16, 18, 26]
/-- What a reader tells of so many bytes, one number behind the other. -/
def decR (R : List Int) : Sup := ⟨fieldAt R 0 8, fieldAt R 8 4, fieldAt R 12 2, fieldAt R 14 2, fieldAt R 16 2, fieldAt R 18 8, fieldAt R 26 8⟩
def flTo (R : List Int) (j : Nat) : List Int := (List.range 7).map fun i => if i < j then fieldAt R (foff.getD i 0) (fwid.getD i 0) else 0
theorem flTo_zero (R : List Int) : flTo R 0 = [0, 0, 0, 0, 0, 0, 0] := rfl
theorem flTo_all (R : List Int) : flTo R 7 = (decR R).fl := rfl
theorem flTo_succ (R : List Int) {j : Nat} (hj : j < 7) : (flTo R j).set j (fieldAt R (foff.getD j 0) (fwid.getD j 0)) = flTo R (j + 1) := by
  have : j = 0 ∨ j = 1 ∨ j = 2 ∨ j = 3 ∨ j = 4 ∨ j = 5 ∨ j = 6 := by omega
  rcases this with rfl | rfl | rfl | rfl | rfl | rfl | rfl <;> rfl
theorem flTo_get (R : List Int) (k : Nat) {j : Nat} (hj : j < 7) : (flTo R k)[j]? = some ((flTo R k).getD j 0) := by simp [flTo, hj]
theorem foff_succ {j : Nat} (hj : j < 6) : foff.getD (j + 1) 0 = foff.getD j 0 + fwid.getD j 0 := by
  have : j = 0 ∨ j = 1 ∨ j = 2 ∨ j = 3 ∨ j = 4 ∨ j = 5 := by omega
  rcases this with rfl | rfl | rfl | rfl | rfl | rfl <;> rfl
/-- Where the j-th number begins. -/
def fbeg (j : Nat) : Nat := if j < 7 then foff.getD j 0 else 34
theorem fbeg_succ {j : Nat} (hj : j < 7) : fbeg (j + 1) = fbeg j + fwid.getD j 0 := by
  have : j = 0 ∨ j = 1 ∨ j = 2 ∨ j = 3 ∨ j = 4 ∨ j = 5 ∨ j = 6 := by omega
  rcases this with rfl | rfl | rfl | rfl | rfl | rfl | rfl <;> rfl
theorem fbeg_le {j : Nat} (hj : j < 7) : fbeg j + fwid.getD j 0 ≤ 34 ∧ 1 ≤ fwid.getD j 0 ∧ fbeg j = foff.getD j 0 := by
  have : j = 0 ∨ j = 1 ∨ j = 2 ∨ j = 3 ∨ j = 4 ∨ j = 5 ∨ j = 6 := by omega
  rcases this with rfl | rfl | rfl | rfl | rfl | rfl | rfl <;> decide
theorem fieldAt_cut (xs : List Int) (i n : Nat) (h : 8 + i + n ≤ 60) : fieldAt ((xs.take 60).drop 8) i n = fieldAt xs (8 + i) n := by
  unfold fieldAt
  congr 2
  rw [List.drop_drop, List.drop_take, List.take_take]
  congr 1
  omega
theorem decR_cut (xs : List Int) : decR ((xs.take 60).drop 8) = decF xs := by
  unfold decR decF
  simp [fieldAt_cut]

theorem Sup.one (s : Sup) : ∀ v ∈ s.cells, v.oneCell' = true := by
  intro v hv
  simp only [Sup.cells, List.mem_cons, List.not_mem_nil, or_false] at hv
  rcases hv with rfl | rfl | rfl | rfl | rfl | rfl | rfl <;> rfl
theorem splat_all {α : Type} (l m : List α) (h : l.length = m.length) : splat l 0 m = m := by
  unfold splat
  rw [List.take_zero, List.nil_append, Nat.zero_add, List.drop_of_length_le (by omega), List.append_nil]
theorem dec_ret {a : Act} {w : World} {b : Nat} {t : TypeId} {s : Sup} {e : Int} {R : Ending → World → Prop} (ha : a.tmps.getD 2 undef = .pointer (some ⟨b, 0, none⟩)) (hc : a.tmps.getD 3 undef = .int .i64 e) (hd : a.defers = [])
    (hh : w.heap[b]? = some (.cells s.cells.toArray t (0, 0))) (hR : R (.returned (.tuple #[.agg s.cells.toArray, .int .i64 e])) w) : bodyPost Tryd.prog Tryd.f18 R .ret a w :=
  bodyPost_ret (results_cell2 Tryd.results18 ha hc (load_super hh)) hd hR
theorem open_n {w : World} (A : Option Addr) (n c : Nat) (xs : List Int) (hl : xs.length = n) (hA : Byt w A c xs) (hn : xs.length ≤ 1099511627776) (hb : Bys xs) :
    Calls Tryd.prog 58 #[.slice A n c] w fun e w' => OpenRet w w' e xs := by
  subst hl
  exact open_c A c xs hA hn hb
theorem decE_64 {xs : List Int} (hl : xs.length = 64) : decE xs = if sealed xs = false then 4 else if okForm xs = true then 0 else 3 := by
  unfold decE
  rw [hl]; rfl
theorem decS_bad {xs : List Int} (h : decE xs ≠ 0) : decS xs = Sup.zero := by unfold decS; rw [if_neg h]
theorem decS_ok {xs : List Int} (h : decE xs = 0) : decS xs = decF xs := by unfold decS; rw [if_pos h]

section
variable {w : World}
/-- What the loop of Decode keeps. -/
structure DecAt (R : List Int) (rb sb fb : Nat) (w4 : World) (j : Nat) (wr : World) : Prop where
  rd : RdAt wr rb sb (R.drop (fbeg j))
  sup : wr.heap[sb]? = some (.cells ((flTo R j).map (Value.int .i64)).toArray 29 (0, 0))
  fld : FieldsAt wr fb sb
  fr : Fr (fun k => k = sb ∨ k = rb) w4 wr
set_option maxRecDepth 100000 in
set_option maxHeartbeats 4000000 in
theorem decode_c (A : Option Addr) (c : Nat) (xs : List Int) (hA : Byt w A c xs) (hn : xs.length ≤ 1099511627776) (hb : Bys xs) :
    Calls Tryd.prog 18 #[.slice A xs.length c] w fun e w' => e = .returned (.tuple #[.agg (decS xs).cells.toArray, .int .i64 (decE xs)]) ∧ Fr F0 w w' := by
  obtain ⟨n, hnx⟩ : ∃ n, n = xs.length := ⟨_, rfl⟩
  have HN := Lib.hid hnx
  have hn' : (n : Int) ≤ 1099511627776 := by omega
  rw [← hnx]
  clear hnx
  by_cases h1 : n < 64
  · have hE : decE xs = 2 := by unfold decE; rw [← HN.out, if_pos h1]
    have HE := Lib.hid hE
    have HSS := Lib.hid (decS_bad (xs := xs) (by rw [hE]; decide))
    have g1 : (n : Int) < 64 := by omega
    clear hE
    go_enter Tryd.func18, Tryd.ntmps18
    go_wp2_with fail
    exact dec_ret (by rfl) (by rfl) rfl (alloc_at rfl _) ⟨by rw [HE.out, HSS.out], (Fr.refl _ _).alloc _⟩
  by_cases h2 : 64 < n
  · have hE : decE xs = 3 := by unfold decE; rw [← HN.out, if_neg h1, if_pos h2]
    have HE := Lib.hid hE
    have HSS := Lib.hid (decS_bad (xs := xs) (by rw [hE]; decide))
    have g1 : ¬ (n : Int) < 64 := by omega
    have g2 : (64 : Int) < (n : Int) := by omega
    clear hE
    go_enter Tryd.func18, Tryd.ntmps18
    go_wp2_with fail
    exact dec_ret (by rfl) (by rfl) rfl (alloc_at rfl _) ⟨by rw [HE.out, HSS.out], (Fr.refl _ _).alloc _⟩
  have hn64 : n = 64 := by omega
  subst hn64
  have HL : Hid (xs.length = 64) := Lib.hid HN.out.symm
  have hE := decE_64 HL.out
  have HE := Lib.hid hE
  clear hE h1 h2 hn'
  have hD0 : (w.alloc (.cells #[.int .i64 0, .int .i64 0, .int .i64 0, .int .i64 0, .int .i64 0, .int .i64 0, .int .i64 0] 29)).heap[w.heap.size]? = some (.cells Sup.zero.cells.toArray 29 (0, 0)) := alloc_at rfl _
  have hf0 : Fr F0 w (w.alloc (.cells #[.int .i64 0, .int .i64 0, .int .i64 0, .int .i64 0, .int .i64 0, .int .i64 0, .int .i64 0] 29)) := (Fr.refl _ _).alloc _
  have HD0 := Lib.hid hD0
  have HF0 := Lib.hid hf0
  clear hD0 hf0
  go_enter Tryd.func18, Tryd.ntmps18
  go_wp2_with fail
  refine (open_n A 64 c xs HL.out (hA.keep0 HF0.out) hn hb).mono ?_
  rintro e w1 ⟨v, rfl, hv, hf1⟩
  have hfr1 : Fr F0 w w1 := HF0.out.then0 hf1
  have HD1 := Lib.hid (hf1.keep0 HD0.out)
  have HFR1 := Lib.hid hfr1
  by_cases hs : sealed xs = true
  · have ho : openE xs = 0 := by simp [openE, HL.out, hs]
    have hE2 : decE xs = if okForm xs = true then 0 else 3 := by rw [HE.out, if_neg (by rw [hs]; decide)]
    have HE2 := Lib.hid hE2
    have hown := hv ho
    rw [ho]
    have e60 : xs.take (xs.length - 4) = xs.take 60 := by rw [HL.out]
    rw [e60] at hown
    obtain ⟨A1, c1, rfl, hb1, hn1⟩ := hown.byt
    obtain ⟨T, hT⟩ : ∃ T, T = xs.take 60 := ⟨_, rfl⟩
    have HT := Lib.hid hT
    have hTl : T.length = 60 := by rw [hT, List.length_take, HL.out]; rfl
    have hTb : Bys T := by rw [hT]; exact hb.take 60
    rw [← hT] at hb1 ⊢
    rw [hTl]
    have HTL := Lib.hid hTl
    clear hv hown hE2 ho hs e60 hT hTl hf1 hfr1
    have hcv := conv_const
    go_wp2_with fail
    have hB : (w1.alloc (.cells #[.int .u8 72, .int .u8 69, .int .u8 82, .int .u8 79, .int .u8 78, .int .u8 49, .int .u8 0, .int .u8 0] 5 (8, 9))).heap[w1.heap.size]? = some (.cells (mark8.map (Value.int .u8)).toArray 5 (8, 9)) := alloc_at rfl _
    have hfb : Fr F0 w1 (w1.alloc (.cells #[.int .u8 72, .int .u8 69, .int .u8 82, .int .u8 79, .int .u8 78, .int .u8 49, .int .u8 0, .int .u8 0] 5 (8, 9))) := (Fr.refl _ _).alloc _
    refine (cut_c A1 (some ⟨w1.heap.size, 0, none⟩) 60 c1 8 T (hb1.keep0 hfb) HTL.out hTb (by decide) (BytesAt.of_block hB)).mono ?_
    rintro e w2 ⟨A2, c2, R, rfl, HR, hb2, rfl⟩
    have HD2 := Lib.hid (hfb.keep0 HD1.out)
    have HFR2 := Lib.hid (HFR1.out.then0 hfb)
    clear hB hb1 hn1 hcv
    generalize hW2 : w1.alloc (.cells #[.int .u8 72, .int .u8 69, .int .u8 82, .int .u8 79, .int .u8 78, .int .u8 49, .int .u8 0, .int .u8 0] 5 (8, 9)) = w2 at *
    clear hW2 hfb
    obtain ⟨ok, hok⟩ : ∃ ok, ok = decide (T.take 8 = mark8) := ⟨_, rfl⟩
    rw [← hok]
    have HOK := Lib.hid hok
    clear hok
    have hRl : 52 ≤ R.length := by
      rw [HR.out]
      split
      · rw [List.length_drop, HTL.out]; decide
      · rw [HTL.out]; decide
    have hRb : Bys R := by
      rw [HR.out]
      split
      · exact hTb.drop 8
      · exact hTb
    have hRm : R.length ≤ 60 := by
      rw [HR.out]
      split
      · rw [List.length_drop, HTL.out]; decide
      · rw [HTL.out]; decide
    obtain ⟨rl, hrl⟩ : ∃ rl, rl = R.length := ⟨_, rfl⟩
    rw [← hrl]
    have HRL := Lib.hid hrl
    clear hrl
    have hlim : ∀ ad, A2 = some ad → 0 < R.length → ad.block < w2.heap.size := by
      intro ad e hp
      subst e
      exact hb2.at_.lt hp
    have HLIM := Lib.hid hlim
    clear hlim
    go_wp2_with fail
    have hb2a : Byt (w2.alloc (.cells #[.int .i64 0, .int .i64 0, .int .i64 0, .int .i64 0, .int .i64 0, .int .i64 0, .int .i64 0] 29)) A2 c2 R := hb2.keep0 ((Fr.refl _ _).alloc _)
    have hs2 : (w2.alloc (.cells #[.int .i64 0, .int .i64 0, .int .i64 0, .int .i64 0, .int .i64 0, .int .i64 0, .int .i64 0] 29)).heap[w2.heap.size]? = some (.cells ((flTo R 0).map (Value.int .i64)).toArray 29 (0, 0)) := alloc_at rfl _
    have hf2a : Fr F0 w2 (w2.alloc (.cells #[.int .i64 0, .int .i64 0, .int .i64 0, .int .i64 0, .int .i64 0, .int .i64 0, .int .i64 0] 29)) := (Fr.refl _ _).alloc _
    rw [HRL.out]
    refine (wnew_c A2 c2 R hb2a w2.heap.size HLIM.out (by simp)).mono ?_
    rintro e w3 ⟨rb, rfl, hrb, hRd, hf3⟩
    rw [← HRL.out]
    have HS3 := Lib.hid (hf3.keep0 hs2)
    have HF3 := Lib.hid (hf2a.then0 hf3)
    have hz3 := hf3.size
    simp at hz3 hrb
    clear hs2 hf2a hb2a
    go_wp2_with fail
    refine (fields_c w2.heap.size).mono ?_
    rintro e w4 ⟨fb, rfl, hfb, hF, hf4⟩
    have hz4 := hf4.size
    have hrl3 := hRd.lt
    have H0 : DecAt R rb w2.heap.size fb w4 0 w4 := ⟨by have := hRd.keep0 hf4; simpa [fbeg, foff] using this, hf4.keep0 HS3.out, hF, Fr.refl _ _⟩
    have HH0 := Lib.hid H0
    have HF4 := Lib.hid (HF3.out.then0 hf4)
    clear H0 hf4 hf3 hRd hF
    go_wp2_with fail
    go_loopg [44] 7 (fun kq x44 wr => ∃ j : Nat, j ≤ 7 ∧ kq = 7 - j ∧ x44 = .int .i64 (j : Int) ∧ DecAt R rb w2.heap.size fb w4 j wr)
    case atStart => exact ⟨0, by omega, rfl, rfl, HH0.out⟩
    case round =>
      obtain ⟨j, hj, rfl, rfl, hI⟩ := hrel
      by_cases hlt : j < 7
      · have hj0 : (0 : Int) ≤ (j : Int) := Int.natCast_nonneg _
        have hj1 : (j : Int) < 7 := by omega
        obtain ⟨c0, k1, k2, k3⟩ := hI.fld.cells hlt
        have hw8 := fwid_le hlt
        obtain ⟨hb1, hb2', hb3⟩ := fbeg_le hlt
        obtain ⟨wd, hwd⟩ : ∃ v, v = fwid.getD j 0 := ⟨_, rfl⟩
        obtain ⟨lo, hlo⟩ : ∃ v, v = flo.getD j 0 := ⟨_, rfl⟩
        obtain ⟨hi, hhi⟩ : ∃ v, v = fhi.getD j 0 := ⟨_, rfl⟩
        rw [← hwd] at k1 hw8 hb1 hb2'
        rw [← hlo] at k2
        rw [← hhi] at k3
        have HWD := Lib.hid hwd
        have HB3 := Lib.hid hb3
        clear hwd hlo hhi hb3
        have hfz := hI.fld.lt
        have hrz := hI.rd.lt
        have hI0 := hI.fr
        have HI := Lib.hid hI
        clear hI
        go_wp2_with fail
        have hfx : Fr F0 wr (wr.alloc (.cells #[.pointer (some ⟨w2.heap.size, j, none⟩), .int .i64 (wd : Int), .int .i64 lo, .int .i64 hi] 92)) := (Fr.refl _ _).alloc _
        have hx0 : (wr.alloc (.cells #[.pointer (some ⟨w2.heap.size, j, none⟩), .int .i64 (wd : Int), .int .i64 lo, .int .i64 hi] 92)).heap[wr.heap.size]? = some (.cells #[.pointer (some ⟨w2.heap.size, j, none⟩), .int .i64 (wd : Int), .int .i64 lo, .int .i64 hi] 92 (0, 0)) := alloc_at rfl _
        refine (get_c (HI.out.rd.keep0 hfx) (hRb.drop _) wd hb2' hw8 (by rw [List.length_drop]; omega)).mono ?_
        rintro e w5 ⟨rfl, hRd5, hf5⟩
        have hwz : w2.heap.size < wr.heap.size := by have := hI0.size; omega
        have hx5 := hf5.keep hx0 (by omega)
        have hs5 : w5.heap[w2.heap.size]? = some (.cells ((flTo R j).map (Value.int .i64)).toArray 29 (0, 0)) := hf5.keep (hfx.keep0 HI.out.sup) (by omega)
        have hfd5 := (HI.out.fld.keep0 hfx).keep hf5 (by omega)
        have q0 : w5.cell? ⟨wr.heap.size, 0, none⟩ = some (.pointer (some ⟨w2.heap.size, j, none⟩)) := by rw [cell_of hx5]; rfl
        have q1 : w5.cell? ⟨w2.heap.size, j, none⟩ = some (.int .i64 ((flTo R j).getD j 0)) := by
          rw [cell_of hs5, List.getElem?_toArray, List.getElem?_map, flTo_get R j hlt]
          rfl
        have q2 := free_of hs5 j
        obtain ⟨u, hu⟩ : ∃ u, u = unle ((R.drop (fbeg j)).take wd) := ⟨_, rfl⟩
        rw [← hu]
        have HU := Lib.hid hu
        have HR5 := Lib.hid hRd5
        have HX := Lib.hid hs5
        have HFD := Lib.hid hfd5
        have HF5 := Lib.hid (((HI.out.fr.alloc (.cells #[.pointer (some ⟨w2.heap.size, j, none⟩), .int .i64 (wd : Int), .int .i64 lo, .int .i64 hi] 92)).trans hf5 (S := fun k => k = w2.heap.size ∨ k = rb) (fun k hk => .inl (.inr hk))))
        clear hu hRd5 hs5 hfd5 hx5 hfx hx0 c0 k1 k2 k3 hf5
        go_wp2_with fail
        go_roundg (7 - (j + 1))
        case measure => omega
        case rel =>
          refine ⟨j + 1, by omega, rfl, by first | rfl | (go_num), ?_⟩
          have hfs : Fr (fun k => k = w2.heap.size) w5 (w5.setCell ⟨w2.heap.size, j, none⟩ (.int .i64 (wrap64 u))) := (Fr.refl _ _).setCell (by exact .inl rfl) _
          have hfe : fieldAt R (foff.getD j 0) (fwid.getD j 0) = wrap64 u := by
            unfold fieldAt
            rw [← HWD.out, ← HB3.out, ← HU.out]
          refine ⟨?_, ?_, HFD.out.keep hfs (by omega), HF5.out.trans hfs (fun k hk => .inl (.inl hk))⟩
          · have := HR5.out.keep hfs (by omega) (by intro k hk; omega)
            rw [List.drop_drop] at this
            rw [fbeg_succ hlt, ← HWD.out]
            exact this
          · have := set_cell HX.out j (.int .i64 (wrap64 u))
            rw [List.setIfInBounds_toArray, ← List.map_set, ← hfe, flTo_succ R hlt] at this
            rw [← hfe]
            exact this
      · have hj7 : j = 7 := by omega
        subst hj7
        obtain ⟨s, hs⟩ : ∃ s, s = decR R := ⟨_, rfl⟩
        have HSR := Lib.hid hs
        have hsup : wr.heap[w2.heap.size]? = some (.cells s.cells.toArray 29 (0, 0)) := by rw [hs]; exact hI.sup
        clear hs
        have f0 : wr.cell? ⟨w2.heap.size, 0, none⟩ = some (.int .i64 s.version) := by rw [cell_of hsup]; rfl
        have f1 : wr.cell? ⟨w2.heap.size, 1, none⟩ = some (.int .i64 s.epoch) := by rw [cell_of hsup]; rfl
        have f2 : wr.cell? ⟨w2.heap.size, 2, none⟩ = some (.int .i64 s.blocks) := by rw [cell_of hsup]; rfl
        have f3 : wr.cell? ⟨w2.heap.size, 3, none⟩ = some (.int .i64 s.counters) := by rw [cell_of hsup]; rfl
        have f4 : wr.cell? ⟨w2.heap.size, 4, none⟩ = some (.int .i64 s.log) := by rw [cell_of hsup]; rfl
        have f5 : wr.cell? ⟨w2.heap.size, 5, none⟩ = some (.int .i64 s.head) := by rw [cell_of hsup]; rfl
        have f6 : wr.cell? ⟨w2.heap.size, 6, none⟩ = some (.int .i64 s.applied) := by rw [cell_of hsup]; rfl
        have hw0 : w.heap.size < w2.heap.size := lt_of_block HD2.out
        have HD := Lib.hid (hI.fr.keep (HF4.out.keep0 HD2.out) (by omega))
        have HFR := Lib.hid ((HFR2.out.then0 HF4.out).trans hI.fr (S := F0) (by intro k hk; exact .inr (by omega)))
        have HRd := Lib.hid hI.rd
        have HSUP := Lib.hid hsup
        have HBR := Lib.hid ((hb2.keep0 HF4.out).keep hI.fr (by intro hp ad e hk; have := HLIM.out ad e hp; omega))
        clear hI hsup
        cases ok with
        | false =>
          have hbad : okForm xs = false := by
            have h8 : ¬ xs.take 8 = mark8 := by
              have := HOK.out
              have h9 : T.take 8 = xs.take 8 := by rw [HT.out, List.take_take]; rfl
              rw [h9] at this
              simpa using this.symm
            unfold okForm
            simp [h8]
          have hE3 : decE xs = 3 := by rw [HE2.out, hbad]; rfl
          have HE3 := Lib.hid hE3
          have HS3' := Lib.hid (decS_bad (xs := xs) (by rw [hE3]; decide))
          clear hE3 hbad f0 f1 f2 f3 f4 f5 f6
          go_wp2_with (refine wpList_store_at rfl 29 (.tmp 2) (.tmp 80) rfl w.heap.size 0 Sup.zero.cells (by rfl) (by rfl) 29 Sup.zero.cells HD.out size_super (by decide) (Sup.one _) ?_)
          refine dec_ret (b := w.heap.size) (t := 29) (by rfl) (by rfl) rfl ?_ ⟨by rw [HE3.out, HS3'.out], HFR.out.setRow (by exact .inr (Nat.le_refl _)) _⟩
          rw [setRow_heap wr w.heap.size _ _ _ _ HD.out, splat_all _ _ rfl]
        | true =>
          have h8 : xs.take 8 = mark8 := by
            have := HOK.out
            have h9 : T.take 8 = xs.take 8 := by rw [HT.out, List.take_take]; rfl
            rw [h9] at this
            simpa using this.symm
          have hRT : R = T.drop 8 := by
            rw [HR.out, if_pos]
            rw [HT.out, List.take_take]
            exact h8
          have hR52 : R.length = 52 := by rw [hRT, List.length_drop, HTL.out]
          have hrl52 : rl = 52 := by rw [HRL.out]; exact hR52
          rw [hrl52]
          have HR52 := Lib.hid hR52
          have HRT := Lib.hid hRT
          have H8 := Lib.hid h8
          have hsx : s = decF xs := by rw [HSR.out, hRT, HT.out]; exact decR_cut xs
          have HSX := Lib.hid hsx
          clear h8 hRT hR52 hrl52 hsx
          go_wp2_with fail
          refine (sane_c s).mono ?_
          rintro e w6 ⟨rfl, hf6⟩
          clear f0 f1 f2 f3 f4 f5 f6
          have HD6 := Lib.hid (hf6.keep0 HD.out)
          have HFR6 := Lib.hid (HFR.out.then0 hf6)
          have hbadE : okForm xs = false → decE xs = 3 := fun h => by rw [HE2.out, h]; rfl
          cases hsn : s.sane with
          | false =>
            have hok : okForm xs = false := by
              unfold okForm
              rw [← HSX.out, hsn]; simp
            have hE3 := hbadE hok
            have HE3 := Lib.hid hE3
            have HS3' := Lib.hid (decS_bad (xs := xs) (by rw [hE3]; decide))
            clear hE3 hok hbadE hsn
            go_wp2_with (refine wpList_store_at rfl 29 (.tmp 2) (.tmp 80) rfl w.heap.size 0 Sup.zero.cells (by rfl) (by rfl) 29 Sup.zero.cells HD6.out size_super (by decide) (Sup.one _) ?_)
            refine dec_ret (b := w.heap.size) (t := 29) (by rfl) (by rfl) rfl ?_ ⟨by rw [HE3.out, HS3'.out], HFR6.out.setRow (by exact .inr (Nat.le_refl _)) _⟩
            rw [setRow_heap w6 w.heap.size _ _ _ _ HD6.out, splat_all _ _ rfl]
          | true =>
            have HSN := Lib.hid hsn
            have HBE := Lib.hid hbadE
            clear hsn hbadE
            have h18 : (R.drop (fbeg 7)).length = 18 := by rw [List.length_drop, HR52.out]; rfl
            have hby18 : Byt w6 (if c2 = 34 then A2 else A2.map (·.add 34)) (c2 - 34) (R.drop 34) := by
              exact (HBR.out.keep0 hf6).drop 34 (by rw [HR52.out]; decide)
            have hcap := hb2.cap
            rw [HR52.out] at hcap
            have hcap' : (52 : Int) ≤ (c2 : Int) := by omega
            have hcut : ∀ W, (Instr.slice 24 (.slice A2 52 c2) (some (.int .i64 34)) none none).run Tryd.prog W = .ok (.slice (if c2 = 34 then A2 else A2.map (·.add 34)) 18 (c2 - 34)) W := fun W => run_from A2 52 c2 34 (by decide) W
            obtain ⟨A3, hA3⟩ : ∃ A3, A3 = (if c2 = 34 then A2 else A2.map (·.add 34)) := ⟨_, rfl⟩
            rw [← hA3] at hby18
            have hcut3 : ∀ W, (Instr.slice 24 (.slice A2 52 c2) (some (.int .i64 34)) none none).run Tryd.prog W = .ok (.slice A3 18 (c2 - 34)) W := by rw [hA3]; exact hcut
            have HBY := Lib.hid hby18
            have H18 := Lib.hid h18
            clear hcut hA3 hby18 h18
            go_wp2_with fail
            refine (left_c (HRd.out.keep0 hf6)).mono ?_
            rintro e w7 ⟨rfl, rfl⟩
            rw [H18.out]
            go_wp2_with fail
            refine (trim0_c A3 18 (c2 - 34) (R.drop 34) HBY.out (by rw [List.length_drop, HR52.out]) (hRb.drop 34) (by decide)).mono ?_
            rintro e w8 ⟨A4, m, c4, rfl, hm, hf8⟩
            have HM := Lib.hid hm
            have HD8 := Lib.hid (hf8.keep0 HD6.out)
            have HFR8 := Lib.hid (HFR6.out.then0 hf8)
            have HSUP8 := Lib.hid (hf8.keep0 (hf6.keep0 HSUP.out))
            have hz18 : R.drop 34 = (xs.drop 42).take 18 := by
              rw [HRT.out, HT.out, List.drop_drop, List.drop_take]
            have HZ18 := Lib.hid hz18
            clear hm hz18 hf8 hcut3
            by_cases hmz : m = 0
            · have hok : okForm xs = true := by
                unfold okForm
                rw [← HSX.out, HSN.out, ← HZ18.out, HM.out.1 hmz, H8.out]
                simp
              have hE0 : decE xs = 0 := by rw [HE2.out, hok]; rfl
              have HE0 := Lib.hid hE0
              have HS0 := Lib.hid (decS_ok hE0)
              subst hmz
              clear hok hE0
              obtain ⟨d, hu, hd⟩ := und_super
              have HU := Lib.hid hu
              have HDD := Lib.hid hd
              have hcs : ∀ j v, s.cells[j]? = some v → w8.cell? ⟨w2.heap.size, 0 + j, none⟩ = some v := by
                intro j v hv
                rw [cell_of HSUP8.out]
                simpa using hv
              have HCS := Lib.hid hcs
              clear hu hd hcs
              go_wp2_with ((refine wpList_load_at rfl 29 (.tmp 8) rfl w2.heap.size 0 (by rfl) s.cells d HCS.out HU.out HDD.out size_super ?_; refine wpList_store_at rfl 29 (.tmp 2) (.tmp 81) rfl w.heap.size 0 s.cells (by rfl) (by rfl) 29 Sup.zero.cells HD8.out size_super (Nat.le_refl 7) (Sup.one _) ?_))
              refine dec_ret (b := w.heap.size) (t := 29) (s := s) (by rfl) (by rfl) rfl ?_ ⟨by rw [HE0.out, HS0.out, ← HSX.out], HFR8.out.setRow (by exact .inr (Nat.le_refl _)) _⟩
              rw [setRow_heap w8 w.heap.size _ _ _ _ HD8.out, splat_all Sup.zero.cells s.cells rfl]
            · have hok : okForm xs = false := by
                cases hk : okForm xs with
                | false => rfl
                | true =>
                  exfalso
                  unfold okForm at hk
                  simp only [Bool.and_eq_true, decide_eq_true_eq] at hk
                  apply hmz
                  rw [HM.out, HZ18.out]
                  exact hk.2
              have hE3 := HBE.out hok
              have HE3 := Lib.hid hE3
              have HS3' := Lib.hid (decS_bad (xs := xs) (by rw [hE3]; decide))
              have hmp : (0 : Int) < (m : Int) := by omega
              clear hE3 hok
              go_wp2_with (refine wpList_store_at rfl 29 (.tmp 2) (.tmp 80) rfl w.heap.size 0 Sup.zero.cells (by rfl) (by rfl) 29 Sup.zero.cells HD8.out size_super (by decide) (Sup.one _) ?_)
              refine dec_ret (b := w.heap.size) (t := 29) (by rfl) (by rfl) rfl ?_ ⟨by rw [HE3.out, HS3'.out], HFR8.out.setRow (by exact .inr (Nat.le_refl _)) _⟩
              rw [setRow_heap w8 w.heap.size _ _ _ _ HD8.out, splat_all _ _ rfl]
  · have ho : openE xs = 4 := by simp [openE, HL.out, hs]
    have hs' : sealed xs = false := by simpa using hs
    have hE4 : decE xs = 4 := by rw [HE.out, if_pos hs']
    have HE4 := Lib.hid hE4
    have HS4 := Lib.hid (decS_bad (xs := xs) (by rw [hE4]; decide))
    rw [ho]
    clear hv ho hs hs' hE4 hf1 hfr1
    go_wp2_with (refine wpList_store_at rfl 29 (.tmp 2) (.tmp 31) rfl w.heap.size 0 Sup.zero.cells (by rfl) (by rfl) 29 Sup.zero.cells HD1.out size_super (by decide) (Sup.one _) ?_)
    refine dec_ret (b := w.heap.size) (t := 29) (by rfl) (by rfl) rfl ?_ ⟨by rw [HE4.out, HS4.out], HFR1.out.setRow (by exact .inr (Nat.le_refl _)) _⟩
    rw [setRow_heap w1 w.heap.size _ _ _ _ HD1.out, splat_all _ _ rfl]
end
end Go.Proofs.YtdeckbdaencjnaaDoor
