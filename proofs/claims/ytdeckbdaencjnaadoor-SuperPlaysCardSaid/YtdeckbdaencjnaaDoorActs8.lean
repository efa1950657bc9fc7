/-
  Layer 8: the things that are done, as an argument holds them; sectors that are bytes. Conditions: none.
-/
import Derived.Test.YtdeckbdaencjnaaDoorArgSup
import Derived.Test.YtdeckbdaencjnaaDoorArgAid
import Derived.Test.YtdeckbdaencjnaaDoorDevG
set_option linter.unusedVariables false
set_option linter.unusedSimpArgs false
namespace Go.Proofs.YtdeckbdaencjnaaDoor
open Go.RowKit Go.Deep Go.ChangeShapes Go.WideShapes Go.ChangeAt

structure Act1 where
  what : Int
  num : Int
  s : Sup
  bA : Option Addr
  bn : Nat
  bc : Nat
  b : List Int
  kA : Option Addr
  kn : Nat
  kc : Nat
  keep : List Bool
def Act1.cells (x : Act1) : List Value := [.int .i64 x.what, .int .i64 x.num, .int .i64 x.s.version, .int .i64 x.s.epoch, .int .i64 x.s.blocks, .int .i64 x.s.counters, .int .i64 x.s.log, .int .i64 x.s.head, .int .i64 x.s.applied, .slice x.bA x.bn x.bc, .slice x.kA x.kn x.kc]
structure ActOk (w : World) (x : Act1) : Prop where
  b : BytesAt w x.bA x.bn x.b
  bb : Bys x.b
  bm : x.bn ≤ 9223372036854775807
  kl : x.keep.length = x.kn
  k : ValsAt w x.kA (x.keep.map Value.bool)
  km : x.kn ≤ 9223372036854775807
  w1 : (Lit.int .i64 x.what).wf = true
  w2 : (Lit.int .i64 x.num).wf = true
theorem ActOk.keep0 {w w' : World} {x : Act1} (h : ActOk w x) (hf : Fr F0 w w') : ActOk w' x := ⟨h.b.keep0 hf, h.bb, h.bm, h.kl, h.k.keep0 hf, h.km, h.w1, h.w2⟩
structure ActsAt (w : World) (A : Option Addr) (n : Nat) (l : List Act1) : Prop where
  len : l.length = n
  cells : ValsAt w A (l.flatMap Act1.cells)
  ok : ∀ x ∈ l, ActOk w x
theorem ActsAt.keep0 {w w' : World} {A : Option Addr} {n : Nat} {l : List Act1} (h : ActsAt w A n l) (hf : Fr F0 w w') : ActsAt w' A n l := ⟨h.len, h.cells.keep0 hf, fun x hx => (h.ok x hx).keep0 hf⟩
theorem ActsAt.get {w : World} {A : Option Addr} {n : Nat} {l : List Act1} (h : ActsAt w A n l) {i : Nat} (hi : i < n) :
    ∃ b off x, A = some ⟨b, off, none⟩ ∧ l[i]? = some x ∧ ActOk w x ∧ ∀ k v, x.cells[k]? = some v → w.cell? ⟨b, off + i * 11 + k, none⟩ = some v := by
  have hl := h.len
  have hil : i < l.length := by omega
  have hx : l[i]? = some l[i] := List.getElem?_eq_getElem hil
  have hfl := cells_flat_len Act1.cells l (m := 11) (fun _ _ => rfl)
  obtain ⟨ad, e, hc⟩ := h.cells.cells (by rw [hfl]; omega)
  obtain ⟨b, off, spot⟩ := ad
  have hx0 : l[0]? = some l[0] := List.getElem?_eq_getElem (by omega)
  have hspot : spot = none := by
    have := hc _ _ (cells_flat_at Act1.cells l (m := 11) (fun _ _ => rfl) 0 0 _ _ hx0 rfl)
    simpa [Addr.add] using World.cell?_spot this
  subst hspot
  refine ⟨b, off, l[i], e, hx, h.ok _ (List.mem_of_getElem? hx), fun k v hv => ?_⟩
  have := hc _ _ (cells_flat_at Act1.cells l (m := 11) (fun _ _ => rfl) i k _ _ hx hv)
  rw [add_at] at this
  rw [Nat.add_assoc]; exact this

section
variable {H : Type} {enc : TypeId × Value → H} {W : World} {base : Nat}
set_option maxRecDepth 100000 in
theorem sup_one (fuel : Nat) (cs : List Value) (y : DataW H × List MemPlace) (hl : cs.length = 7) (h : DataW.trod enc Tryd.prog W base (fun _ => true) true fuel 23 cs = some y) : ∃ s : Sup, cs = s.cells := by
  obtain ⟨xs, k, hk, hxy, _, hxl, hf⟩ := DataW.trod_struct Tryd.underlying23 h
  match xs, hxl, cs, hl with
  | [y0, y1, y2, y3, y4, y5, y6], _, [v0, v1, v2, v3, v4, v5, v6], _ =>
    have g0 := hf 0 _ rfl
    have g1 := hf 1 _ rfl
    have g2 := hf 2 _ rfl
    have g3 := hf 3 _ rfl
    have g4 := hf 4 _ rfl
    have g5 := hf 5 _ rfl
    have g6 := hf 6 _ rfl
    have ci : Tryd.prog.cellsOf 3 = 1 := by kernel_rfl
    simp [ci] at g0 g1 g2 g3 g4 g5 g6
    obtain ⟨n0, e0, _, w0⟩ := DataW.trod_int Tryd.underlying3 g0
    obtain ⟨n1, e1, _, w1⟩ := DataW.trod_int Tryd.underlying3 g1
    obtain ⟨n2, e2, _, w2⟩ := DataW.trod_int Tryd.underlying3 g2
    obtain ⟨n3, e3, _, w3⟩ := DataW.trod_int Tryd.underlying3 g3
    obtain ⟨n4, e4, _, w4⟩ := DataW.trod_int Tryd.underlying3 g4
    obtain ⟨n5, e5, _, w5⟩ := DataW.trod_int Tryd.underlying3 g5
    obtain ⟨n6, e6, _, w6⟩ := DataW.trod_int Tryd.underlying3 g6
    simp at e0 e1 e2 e3 e4 e5 e6
    subst e0; subst e1; subst e2; subst e3; subst e4; subst e5; subst e6
    exact ⟨⟨n0, n1, n2, n3, n4, n5, n6⟩, rfl⟩
set_option maxRecDepth 100000 in
theorem act_one (fuel : Nat) (cs : List Value) (y : DataW H × List MemPlace) (hl : cs.length = 11) (h : DataW.trod enc Tryd.prog W base (fun _ => true) true fuel 62 cs = some y) : ∃ x : Act1, cs = x.cells ∧ ActOk W x := by
  obtain ⟨xs, k, hk, hxy, _, hxl, hf⟩ := DataW.trod_struct Tryd.underlying62 h
  match xs, hxl, cs, hl with
  | [y0, y1, y2, y3, y4], _, [v0, v1, v2, v3, v4, v5, v6, v7, v8, v9, v10], _ =>
    have g0 := hf 0 _ rfl
    have g1 := hf 1 _ rfl
    have g2 := hf 2 _ rfl
    have g3 := hf 3 _ rfl
    have g4 := hf 4 _ rfl
    have ci : Tryd.prog.cellsOf 3 = 1 := by kernel_rfl
    have cs7 : Tryd.prog.cellsOf 23 = 7 := by kernel_rfl
    have cb : Tryd.prog.cellsOf 24 = 1 := by kernel_rfl
    have cl : Tryd.prog.cellsOf 60 = 1 := by kernel_rfl
    simp [ci, cb, cl, cs7] at g0 g1 g2 g3 g4
    obtain ⟨n0, e0, _, w0⟩ := DataW.trod_int Tryd.underlying3 g0
    obtain ⟨n1, e1, _, w1⟩ := DataW.trod_int Tryd.underlying3 g1
    obtain ⟨s, e2⟩ := sup_one _ _ _ rfl g2
    obtain ⟨A3, l3, c3, b3, e3, hb3, hr3, hm3⟩ := cells_bytes Tryd.underlying24 Tryd.underlying5 (by kernel_rfl) g3
    obtain ⟨A4, l4, c4, b4, e4, hl4, hb4, hm4⟩ := cells_bools Tryd.underlying60 Tryd.underlying4 (by kernel_rfl) g4
    simp [Sup.cells] at e0 e1 e2 e3 e4
    obtain ⟨rfl, rfl, rfl, rfl, rfl, rfl, rfl⟩ := e2
    subst e0; subst e1; subst e3; subst e4
    exact ⟨⟨n0, n1, s, A3, l3, c3, b3, A4, l4, c4, b4⟩, rfl, ⟨hb3, hr3, hm3, hl4, hb4, hm4, w0, w1⟩⟩
/-- A slice of things that are done that came in. -/
theorem arg_acts {a : Option Addr} {len cap : Nat} {d : DataW H} {p : List MemPlace} (h : DataW.Trod enc Tryd.prog W base (fun _ => true) true 56 (.slice a len cap) d p) :
    ∃ l : List Act1, ActsAt W a len l ∧ len ≤ 9223372036854775807 := by
  obtain ⟨fuel, hf⟩ := h
  obtain ⟨A, n, c, l, hcs, hl, hok, hv, hm⟩ := cells_structs Act1.cells (ActOk W) (m := 11) Tryd.underlying56 (by kernel_rfl) act_one hf
  simp [Value.cells] at hcs
  obtain ⟨rfl, rfl, rfl⟩ := hcs
  exact ⟨l, ⟨hl, hv, fun x hx => (hok x hx).2⟩, hm⟩
end

/-- A device whose sectors are bytes. -/
structure SecBys (D : Dev) : Prop where
  laid : ∀ x ∈ D.laid, Bys x
  late : ∀ x, some x ∈ D.late → Bys x
theorem SecBys.at {D : Dev} (h : SecBys D) (i : Nat) : Bys (D.at i) := by
  unfold Dev.at
  cases h1 : (D.late[i]?).join with
  | none =>
    simp only [Option.getD_none]
    by_cases hi : i < D.laid.length
    · have : D.laid.getD i [] = D.laid[i] := by simp [hi]
      rw [this]
      exact h.laid _ (List.getElem_mem hi)
    · have : D.laid.getD i [] = [] := by simp [List.getD, List.getElem?_eq_none (show D.laid.length ≤ i by omega)]
      rw [this]; exact Bys.nil
  | some x =>
    simp only [Option.getD_some]
    refine h.late x ?_
    cases h2 : D.late[i]? with
    | none => rw [h2] at h1; cases h1
    | some o =>
      rw [h2] at h1
      simp at h1
      subst h1
      exact List.mem_of_getElem? h2
theorem SecBys.new (n : Nat) : SecBys (Dev.new n) := by
  refine ⟨fun x hx => ?_, fun x hx => ?_⟩
  · rw [(List.mem_replicate.1 hx).2]; exact Bys.zeros 64
  · have := (List.mem_replicate.1 hx).2; cases this
theorem SecBys.of {D D' : Dev} (h : SecBys D) (h1 : D'.laid = D.laid) (h2 : D'.late = D.late) : SecBys D' := ⟨by rw [h1]; exact h.laid, by rw [h2]; exact h.late⟩
theorem SecBys.spend {D : Dev} (h : SecBys D) : SecBys D.spend := h.of D.spend_laid D.spend_late
theorem SecBys.put {D : Dev} (h : SecBys D) (i : Nat) {s : List Int} (hs : Bys s) : SecBys (D.put i s) := by
  refine ⟨h.laid, fun x hx => ?_⟩
  have hx' : some x ∈ D.late.set i (some s) := hx
  rcases List.mem_or_eq_of_mem_set hx' with h1 | h1
  · exact h.late x h1
  · cases h1; exact hs
theorem SecBys.write {D : Dev} (h : SecBys D) (i : Int) {s : List Int} (hs : Bys s) : SecBys (D.write i s) := by
  unfold Dev.write
  repeat' split
  · exact h
  · exact h
  · exact h.spend
  · exact h.spend.put _ (hs.app (Bys.zeros _))
theorem SecBys.lay {D : Dev} (h : SecBys D) : SecBys D.lay := by
  refine ⟨fun x hx => ?_, fun x hx => ?_⟩
  · obtain ⟨i, _, rfl⟩ := List.mem_map.1 hx
    exact h.at i
  · obtain ⟨o, _, e⟩ := List.mem_map.1 hx
    cases e
theorem SecBys.flush {D : Dev} (h : SecBys D) : SecBys D.flush := by
  unfold Dev.flush
  repeat' split
  · exact h
  · exact h.spend
  · exact h.spend.lay
theorem SecBys.budgeted {D : Dev} (h : SecBys D) (k : Int) : SecBys (D.budgeted k) := h.of rfl rfl
theorem layKept_bys {D : Dev} (h : SecBys D) : ∀ (is : List Nat) (bs : List Bool) (l : List (List Int)), (∀ x ∈ l, Bys x) → ∀ x ∈ layKept D is bs l, Bys x
  | [], bs, l, hl => by cases bs <;> simpa [layKept] using hl
  | i :: is, [], l, hl => by simpa [layKept] using hl
  | i :: is, b :: bs, l, hl => by
    unfold layKept
    refine layKept_bys h is bs _ ?_
    split
    · intro x hx
      rcases List.mem_or_eq_of_mem_set hx with h1 | h1
      · exact hl x h1
      · rw [h1]; exact h.at i
    · exact hl
theorem SecBys.crash {D : Dev} (h : SecBys D) (keep : List Bool) : SecBys (D.crash keep) := by
  refine ⟨layKept_bys h _ _ _ h.laid, fun x hx => ?_⟩
  obtain ⟨o, _, e⟩ := List.mem_map.1 hx
  cases e
theorem SecBys.save {D : Dev} (h : SecBys D) (s : Sup) (hs : Bys s.next.enc) : SecBys (D.save s) := by
  unfold Dev.save Dev.saveW
  repeat' split
  · exact h
  · exact h.write _ hs
  · exact (h.write _ hs).flush
end Go.Proofs.YtdeckbdaencjnaaDoor
