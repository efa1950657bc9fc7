/-
  The statements' awake of layer 4: it answers true. Conditions: none.
-/
import Derived.Test.YthepadcjpkcknaaDevG
import Derived.Lib.SlBytesConst
set_option linter.unusedVariables false
set_option linter.unusedSimpArgs false
namespace Go.Proofs.Ythepadcjpkcknaa
open Go.RowKit

theorem NewSec.open_ {w w' : World} {e : Ending} {s : List Int} (h : NewSec w w' e s) : ∃ b t, e = .returned (.tuple #[.slice (some ⟨b, 0, none⟩) 64 64, .int .i64 0]) ∧ w.heap.size ≤ b ∧ w'.heap[b]? = some (.cells (cellsOf s) t (0, 0)) ∧ Fr F0 w w' := h.ex
theorem sec_cell {w : World} {b : Nat} {s : List Int} {t : TypeId} (h : w.heap[b]? = some (.cells (cellsOf s) t (0, 0))) (j : Nat) (x : Int) (hx : s[j]? = some x) : w.cell? ⟨b, j, none⟩ = some (.int .u8 x) := by
  rw [cell_of h]
  simp [cellsOf, hx]

theorem und_u8 : Try.prog.underlying 5 = some (.int .u8) := by kernel_rfl
theorem conv_bytes (W : World) (C : Array Value) (n c : Nat) : (convert 22 22 (.slice (some ⟨W.heap.size, 0, none⟩) n c)).run Try.prog (W.alloc (.cells C 5)) = .ok (.slice (some ⟨W.heap.size, 0, none⟩) n c) (W.alloc (.cells C 5 (C.size, C.size + 1))) := Lib.run_convert_bytes_const W 22 5 C n c und_bytes und_u8

def A1 : Dev := (Dev.new 3).write 2 [97]
def A2 : Dev := A1.crash []

set_option maxRecDepth 100000 in
set_option maxHeartbeats 1000000 in
theorem awake_c (w : World) : Calls Try.prog 9 #[] w fun e w' => e = .returned (.bool true) ∧ Fr F0 w w' := by
  have e1 : (Dev.new 3).writeE 2 [97] = 0 := by decide +kernel
  have g1 : A1.gone = false := by decide +kernel
  have g2 : A2.gone = false := by decide +kernel
  have l1 : 2 < A1.laid.length := by decide +kernel
  have l2 : 2 < A2.laid.length := by decide +kernel
  have a1 : (A1.at 2)[0]? = some 97 := by decide +kernel
  have a2 : (A2.at 2)[0]? = some 0 := by decide +kernel
  have E1 := Lib.hid e1
  have X1 := Lib.hid a1
  have X2 := Lib.hid a2
  clear e1 a1 a2
  have hcv := conv_bytes
  go_enter Try.func9, Try.ntmps9
  go_wp2_with fail
  refine (new_c 3 (by decide) (by decide) _).mono ?_
  rintro e w1 ⟨db, lb, mb, rfl, h1, n1, n2, n3, hf1⟩
  go_wp2_with fail
  have hb1 : (w1.alloc (.cells #[.int .u8 97] 5 (1, 2))).heap[w1.heap.size]? = some (.cells (([97] : List Int).map (Value.int .u8)).toArray 5 (1, 2)) := alloc_at rfl _
  have hlt1 := h1.lt
  refine (write_c (h1.keep0 ((Fr.refl _ _).alloc _)) 2 _ 1 [97] 1 (BytesAt.of_block hb1) (by intro _ ad e; cases e; simp; omega)).mono ?_
  rintro e w2 ⟨rfl, h2, hf2⟩
  clear hb1
  rw [E1.out]
  go_wp2_with fail
  refine (read_c h2 g1 2 l1).mono ?_
  rintro e w3 ⟨b3, t3, rfl, hn3, hb3, hf3⟩
  have HB3 := Lib.hid hb3
  clear hb3
  go_wp2_with fail
  have h3 := h2.keep0 hf3
  refine (crash_c h3 none 0 [] 0 rfl ⟨fun h => by simp at h⟩ (by intro ad e; cases e) (by decide)).mono ?_
  rintro e w4 ⟨rfl, h4, hf4⟩
  go_wp2_with fail
  refine (read_c h4 g2 2 l2).mono ?_
  rintro e w5 ⟨b5, t5, rfl, hn5, hb5, hf5⟩
  have hnb : ¬ Dv db lb mb b3 := by
    have := h2.lt
    rintro (h' | h' | h') <;> omega
  have hb3' := hf5.keep0 (hf4.keep HB3.out hnb)
  have c3 := sec_cell hb3' 0 97 X1.out
  have c5 := sec_cell hb5 0 0 X2.out
  clear hb3' hb5
  go_wp2_with fail
  go_ret
  refine ⟨rfl, ?_⟩
  have k1 : Fr F0 w (w1.alloc (.cells #[.int .u8 97] 5 (1, 2))) := hf1.alloc _
  have k2 := k1.trans hf2 (S := F0) (fun k hk => .inr (by rcases hk with h' | h' | h' <;> omega))
  have k3 := k2.then0 hf3
  have k4 := k3.trans hf4 (S := F0) (fun k hk => .inr (by rcases hk with h' | h' | h' <;> omega))
  exact k4.then0 hf5
end Go.Proofs.Ythepadcjpkcknaa
