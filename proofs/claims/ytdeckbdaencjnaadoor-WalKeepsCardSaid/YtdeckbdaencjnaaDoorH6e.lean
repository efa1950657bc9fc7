/-
  frame: stamped, next, Gather. Conditions: none.
-/
import Derived.Test.YtdeckbdaencjnaaDoorH6d
import Derived.Test.YtdeckbdaencjnaaDoorRowC
set_option linter.unusedVariables false
set_option linter.unusedSimpArgs false
namespace Go.Proofs.YtdeckbdaencjnaaDoor
open Go.RowKit
def stC (e c a i : Int) : List Value := [.int .i64 e, .int .i64 c, .int .i64 a, .int .i64 i]
theorem stC_one (e c a i : Int) : ∀ v ∈ stC e c a i, v.oneCell' = true := by
  intro v hv
  simp only [stC, List.mem_cons, List.not_mem_nil, or_false] at hv
  rcases hv with rfl | rfl | rfl | rfl <;> rfl
theorem size_stamp : (Tryd.prog.info? 158).map (·.size) = some 4 := by kernel_rfl
theorem und_stamp : ∃ d, Tryd.prog.underlying 158 = some d ∧ aggDesc d = true := ⟨_, Tryd.underlying158, rfl⟩
theorem load_stamp {w : World} {b : Nat} {t : TypeId} {e c a i : Int} (h : w.heap[b]? = some (.cells (stC e c a i).toArray t (0, 0))) : (loadVar 158 ⟨b, 0, none⟩).run Tryd.prog w = .ok (.agg (stC e c a i).toArray) w := by
  obtain ⟨d, hu, hd⟩ := und_stamp
  refine run_loadVar_at w b 0 158 (stC e c a i) d (fun j v hv => ?_) hu hd size_stamp
  rw [cell_of h]
  simpa using hv
structure StAt (w : World) (b : Nat) (e c a i : Int) : Prop where
  row : w.heap[b]? = some (.cells (stC e c a i).toArray 158 (0, 0))
theorem StAt.keep0 {w w' : World} {b : Nat} {e c a i : Int} (h : StAt w b e c a i) (hf : Fr F0 w w') : StAt w' b e c a i := ⟨hf.keep0 h.row⟩
theorem StAt.all {w : World} {b : Nat} {e c a i : Int} (h : StAt w b e c a i) : w.cell? ⟨b, 0, none⟩ = some (.int .i64 e) ∧ w.cell? ⟨b, 1, none⟩ = some (.int .i64 c) ∧ w.cell? ⟨b, 2, none⟩ = some (.int .i64 a) ∧ w.cell? ⟨b, 3, none⟩ = some (.int .i64 i) := by
  refine ⟨?_, ?_, ?_, ?_⟩ <;> (rw [cell_of h.row]; rfl)
section
variable {w : World}
set_option maxRecDepth 100000 in
set_option maxHeartbeats 1000000 in
theorem stamped_c (p : Pc) (A : Option Addr) (n c : Nat) : Calls Tryd.prog 104 #[(.agg #[.int .i64 p.epoch, .int .i64 p.at_, .int .i64 p.index, .int .i64 p.count, .slice A n c])] w fun e w' => e = .returned (.agg #[.int .i64 p.epoch, .int .i64 p.count, .int .i64 p.at_, .int .i64 p.index]) ∧ Fr F0 w w' := by
  go_enter Tryd.func104, Tryd.ntmps104
  go_wp2_with fail
  have h2 : ((w.alloc (.cells #[.int .i64 p.epoch, .int .i64 p.at_, .int .i64 p.index, .int .i64 p.count, .slice A n c] 160)).alloc (.cells #[.int .i64 p.epoch, .int .i64 p.count, .int .i64 p.at_, .int .i64 p.index] 158)).heap[w.heap.size + 1]? = some (.cells (stC p.epoch p.count p.at_ p.index).toArray 158 (0, 0)) := alloc_at (by simp) _
  refine bodyPost_ret (results_cell (ad := ⟨w.heap.size + 1, 0, none⟩) Tryd.results104 (by rfl) (load_stamp h2)) rfl ⟨rfl, ((Fr.refl _ _).alloc _).alloc _⟩
set_option maxRecDepth 100000 in
set_option maxHeartbeats 1000000 in
theorem next6_c (e c a i : Int) (a0 : 0 ≤ a) (a1 : a ≤ 1152921504606846976) (i0 : 0 ≤ i) (i1 : i ≤ 1152921504606846976) : Calls Tryd.prog 105 #[.agg #[.int .i64 e, .int .i64 c, .int .i64 a, .int .i64 i]] w fun r w' => r = .returned (.agg #[.int .i64 e, .int .i64 c, .int .i64 (a + 1), .int .i64 (i + 1)]) ∧ Fr F0 w w' := by
  go_enter Tryd.func105, Tryd.ntmps105
  go_wp2_with fail
  have h2 : ((w.alloc (.cells #[.int .i64 e, .int .i64 c, .int .i64 a, .int .i64 i] 158)).alloc (.cells #[.int .i64 e, .int .i64 c, .int .i64 (a + 1), .int .i64 (i + 1)] 158)).heap[w.heap.size + 1]? = some (.cells (stC e c (a + 1) (i + 1)).toArray 158 (0, 0)) := alloc_at (by simp) _
  refine bodyPost_ret (results_cell (ad := ⟨w.heap.size + 1, 0, none⟩) Tryd.results105 (by rfl) (load_stamp h2)) rfl ⟨rfl, ((Fr.refl _ _).alloc _).alloc _⟩
end
end Go.Proofs.YtdeckbdaencjnaaDoor
