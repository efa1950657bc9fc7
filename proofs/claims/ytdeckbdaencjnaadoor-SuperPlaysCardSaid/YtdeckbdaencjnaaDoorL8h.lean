/-
  ours, theirs: what tells of a device, into the document's form and back. Conditions: none.
-/
import Derived.Test.YtdeckbdaencjnaaDoorL8c
set_option linter.unusedVariables false
set_option linter.unusedSimpArgs false
namespace Go.Proofs.YtdeckbdaencjnaaDoor
open Go.RowKit
section
variable {w : World}
theorem size_rsuper : (Tryd.prog.info? 23).map (·.size) = some 7 := by kernel_rfl
theorem und_rsuper : ∃ d, Tryd.prog.underlying 23 = some d ∧ aggDesc d = true := ⟨_, Tryd.underlying23, rfl⟩
theorem load_rsuper {w : World} {b : Nat} {t : TypeId} {s : Sup} (h : w.heap[b]? = some (.cells s.cells.toArray t (0, 0))) : (loadVar 23 ⟨b, 0, none⟩).run Tryd.prog w = .ok (.agg s.cells.toArray) w := by
  obtain ⟨d, hu, hd⟩ := und_rsuper
  refine run_loadVar_at w b 0 23 s.cells d (fun j v hv => ?_) hu hd size_rsuper
  rw [cell_of h]
  simpa using hv
set_option maxRecDepth 100000 in
set_option maxHeartbeats 1000000 in
theorem ours_c (s : Sup) : Calls Tryd.prog 17 #[(.agg #[.int .i64 s.version, .int .i64 s.epoch, .int .i64 s.blocks, .int .i64 s.counters, .int .i64 s.log, .int .i64 s.head, .int .i64 s.applied])] w fun e w' => e = .returned (.agg #[.int .i64 s.version, .int .i64 s.epoch, .int .i64 s.blocks, .int .i64 s.counters, .int .i64 s.log, .int .i64 s.head, .int .i64 s.applied]) ∧ Fr F0 w w' := by
  go_enter Tryd.func17, Tryd.ntmps17
  go_wp2_with fail
  have h2 : ((w.alloc (.cells #[.int .i64 s.version, .int .i64 s.epoch, .int .i64 s.blocks, .int .i64 s.counters, .int .i64 s.log, .int .i64 s.head, .int .i64 s.applied] 23)).alloc (.cells #[.int .i64 s.version, .int .i64 s.epoch, .int .i64 s.blocks, .int .i64 s.counters, .int .i64 s.log, .int .i64 s.head, .int .i64 s.applied] 29)).heap[w.heap.size + 1]? = some (.cells s.cells.toArray 29 (0, 0)) := alloc_at (by simp) _
  refine bodyPost_ret (results_cell (ad := ⟨w.heap.size + 1, 0, none⟩) Tryd.results17 (by rfl) (load_super h2)) rfl ⟨rfl, ((Fr.refl _ _).alloc _).alloc _⟩
set_option maxRecDepth 100000 in
set_option maxHeartbeats 1000000 in
theorem theirs_c (s : Sup) : Calls Tryd.prog 31 #[(.agg #[.int .i64 s.version, .int .i64 s.epoch, .int .i64 s.blocks, .int .i64 s.counters, .int .i64 s.log, .int .i64 s.head, .int .i64 s.applied])] w fun e w' => e = .returned (.agg #[.int .i64 s.version, .int .i64 s.epoch, .int .i64 s.blocks, .int .i64 s.counters, .int .i64 s.log, .int .i64 s.head, .int .i64 s.applied]) ∧ Fr F0 w w' := by
  go_enter Tryd.func31, Tryd.ntmps31
  go_wp2_with fail
  have h2 : ((w.alloc (.cells #[.int .i64 s.version, .int .i64 s.epoch, .int .i64 s.blocks, .int .i64 s.counters, .int .i64 s.log, .int .i64 s.head, .int .i64 s.applied] 29)).alloc (.cells #[.int .i64 s.version, .int .i64 s.epoch, .int .i64 s.blocks, .int .i64 s.counters, .int .i64 s.log, .int .i64 s.head, .int .i64 s.applied] 23)).heap[w.heap.size + 1]? = some (.cells s.cells.toArray 23 (0, 0)) := alloc_at (by simp) _
  refine bodyPost_ret (results_cell (ad := ⟨w.heap.size + 1, 0, none⟩) Tryd.results31 (by rfl) (load_rsuper h2)) rfl ⟨rfl, ((Fr.refl _ _).alloc _).alloc _⟩
end
end Go.Proofs.YtdeckbdaencjnaaDoor
