/-
  A device as plain data, and where it lies in memory ('DevAt'). Conditions: none.
-/
import Derived.Test.YtjfdfjenodianaaHeap
namespace Go.Proofs.Ytjfdfjenodianaa
open Go.RowKit
open Go.ChangeMaps (setBlock)
open Go.Maps (Keyed)

/-- A device: by sector what is laid down, and what is cached; its budget, whether it is gone, how much was done. -/
structure Dev where
  laid : List (List Int)
  late : List (Option (List Int))
  budget : Int
  gone : Bool
  spent : Int

/-- A sector of nothing. -/
def zsec : List Int := List.replicate 64 0
theorem zsec_len : zsec.length = 64 := by simp [zsec]
theorem zsec_mem {x : Int} (h : x ∈ zsec) : x = 0 := (List.mem_replicate.1 h).2
theorem zsec_eq {l : List Int} (h : l.length = 64) (h0 : ∀ x ∈ l, x = 0) : l = zsec := List.eq_replicate_iff.2 ⟨h, h0⟩
/-- A sector as a value. -/
def secVal (s : List Int) : Value := .agg (s.map (Value.int .u8)).toArray

structure Dev.Ok (D : Dev) : Prop where
  len : D.late.length = D.laid.length
  secs : ∀ s ∈ D.laid, s.length = 64
  lates : ∀ s, some s ∈ D.late → s.length = 64
  pos : 1 ≤ D.laid.length
  most : D.laid.length ≤ 4096
  least : -1 ≤ D.budget
  fits : D.budget ≤ 9223372036854775807

/-- What the cache holds at a key. -/
def Dev.look (D : Dev) : Value → Option Value
  | .int .i64 i => if 0 ≤ i then ((D.late[i.toNat]?).join).map secVal else none
  | _ => none

/-- What is read. -/
def Dev.at (D : Dev) (i : Nat) : List Int := ((D.late[i]?).join).getD (D.laid.getD i [])
def Dev.may (D : Dev) (i : Int) : Int := if D.gone = true then 11 else if i < 0 ∨ (D.laid.length : Int) ≤ i then 1 else 0
def Dev.spendE (D : Dev) : Int := if D.budget = 0 then 11 else 0
def Dev.spend (D : Dev) : Dev :=
  if D.budget = 0 then { D with gone := true } else { D with budget := (if 0 < D.budget then D.budget - 1 else D.budget), spent := wrap64 (D.spent + 1) }
def Dev.new (n : Nat) : Dev := { laid := List.replicate n zsec, late := List.replicate n none, budget := -1, gone := false, spent := 0 }
/-- So many bytes, and what is left of a sector nothing. -/
def pad64 (s : List Int) : List Int := s ++ List.replicate (64 - s.length) 0
def Dev.put (D : Dev) (i : Nat) (s : List Int) : Dev := { D with late := D.late.set i (some s) }
/-- All that is cached is laid down. -/
def Dev.lay (D : Dev) : Dev := { D with laid := (List.range D.laid.length).map D.at, late := D.late.map fun _ => none }
def Dev.budgeted (D : Dev) (k : Int) : Dev := { D with budget := max k (-1) }
/-- The places of what is cached, rising. -/
def Dev.cached (D : Dev) : List Nat := (List.range D.laid.length).filter fun i => ((D.late[i]?).join).isSome
/-- Sectors that are kept: the k-th cached one where keep[k] is so. -/
def layKept (D : Dev) : List Nat → List Bool → List (List Int) → List (List Int)
  | i :: is, b :: bs, l => layKept D is bs (if b then l.set i (D.at i) else l)
  | _, _, l => l
def Dev.crash (D : Dev) (keep : List Bool) : Dev := { laid := layKept D D.cached keep D.laid, late := D.late.map fun _ => none, budget := -1, gone := false, spent := D.spent }

structure DevAt (P : Program) (ti : TypeId) (w : World) (db lb mb : Nat) (D : Dev) : Prop where
  ok : D.Ok
  dev : ∃ t, w.heap[db]? = some (.cells #[.slice (some ⟨lb, 0, none⟩) D.laid.length D.laid.length, .map (some mb), .int .i64 D.budget, .bool D.gone, .int .i64 D.spent] t (0, 0))
  laid : ∃ t, w.heap[lb]? = some (.cells (D.laid.flatten.map (Value.int .u8)).toArray t (0, 0))
  late : ∃ es clock, w.heap[mb]? = some (.map es clock) ∧ MapIs P ti es clock D.look
  ne1 : db ≠ lb
  ne2 : db ≠ mb
  ne3 : lb ≠ mb

section
variable {P : Program} {ti : TypeId} {w w' : World} {db lb mb : Nat} {D : Dev}
/-- The blocks of a device. -/
def Dv (db lb mb : Nat) : Nat → Prop := fun k => k = db ∨ k = lb ∨ k = mb
theorem DevAt.keep {S : Nat → Prop} (h : DevAt P ti w db lb mb D) (hf : Fr S w w') (h1 : ¬ S db) (h2 : ¬ S lb) (h3 : ¬ S mb) : DevAt P ti w' db lb mb D := by
  obtain ⟨t1, e1⟩ := h.dev
  obtain ⟨t2, e2⟩ := h.laid
  obtain ⟨es, c, e3, e4⟩ := h.late
  exact ⟨h.ok, ⟨t1, hf.keep e1 h1⟩, ⟨t2, hf.keep e2 h2⟩, ⟨es, c, hf.keep e3 h3, e4⟩, h.ne1, h.ne2, h.ne3⟩
theorem DevAt.keep0 (h : DevAt P ti w db lb mb D) (hf : Fr F0 w w') : DevAt P ti w' db lb mb D := h.keep hf (fun h => h) (fun h => h) (fun h => h)
/-- The device's own cells. -/
theorem DevAt.cells (h : DevAt P ti w db lb mb D) : w.cell? ⟨db, 0, none⟩ = some (.slice (some ⟨lb, 0, none⟩) D.laid.length D.laid.length) ∧ w.cell? ⟨db, 1, none⟩ = some (.map (some mb)) ∧
    w.cell? ⟨db, 2, none⟩ = some (.int .i64 D.budget) ∧ w.cell? ⟨db, 3, none⟩ = some (.bool D.gone) ∧ w.cell? ⟨db, 4, none⟩ = some (.int .i64 D.spent) ∧
    w.frozen? ⟨db, 2, none⟩ = false ∧ w.frozen? ⟨db, 3, none⟩ = false ∧ w.frozen? ⟨db, 4, none⟩ = false := by
  obtain ⟨t, e⟩ := h.dev
  simp [World.cell?, World.frozen?, e]
theorem DevAt.lt (h : DevAt P ti w db lb mb D) : db < w.heap.size ∧ lb < w.heap.size ∧ mb < w.heap.size := by
  obtain ⟨t1, e1⟩ := h.dev
  obtain ⟨t2, e2⟩ := h.laid
  obtain ⟨es, c, e3, e4⟩ := h.late
  exact ⟨lt_of_block e1, lt_of_block e2, lt_of_block e3⟩
/-- A change of the device's own cells alone. -/
theorem DevAt.own (h : DevAt P ti w db lb mb D) {D' : Dev} (hf : Fr (fun k => k = db) w w') (hl : D'.laid = D.laid) (hlate : D'.late = D.late) (hb : -1 ≤ D'.budget) (hb' : D'.budget ≤ 9223372036854775807)
    (hd : ∃ t, w'.heap[db]? = some (.cells #[.slice (some ⟨lb, 0, none⟩) D.laid.length D.laid.length, .map (some mb), .int .i64 D'.budget, .bool D'.gone, .int .i64 D'.spent] t (0, 0))) : DevAt P ti w' db lb mb D' := by
  obtain ⟨t2, e2⟩ := h.laid
  obtain ⟨es, c, e3, e4⟩ := h.late
  have hlook : D'.look = D.look := by funext x; cases x <;> simp [Dev.look, hlate]
  refine ⟨⟨by rw [hl, hlate]; exact h.ok.len, by rw [hl]; exact h.ok.secs, by rw [hlate]; exact h.ok.lates, by rw [hl]; exact h.ok.pos, by rw [hl]; exact h.ok.most, hb, hb'⟩, by rw [hl]; exact hd, ⟨t2, by rw [hl]; exact hf.keep e2 (fun e => h.ne1 e.symm)⟩, ⟨es, c, hf.keep e3 (fun e => h.ne2 e.symm), by rw [hlook]; exact e4⟩, h.ne1, h.ne2, h.ne3⟩
end
end Go.Proofs.Ytjfdfjenodianaa
