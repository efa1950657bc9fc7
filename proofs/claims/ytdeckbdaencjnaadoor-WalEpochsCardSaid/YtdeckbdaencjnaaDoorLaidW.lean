/-
  The world for a door row's witness: unicode/utf8's two tables laid. Conditions: none.
-/
import Derived.Test.YtdeckbdaencjnaaDoorRows
import Derived.Test.YtdeckbdaencjnaaDoorProg
import Derived.WalkKit
import Derived.ProofKit
import Derived.OpenShut
import Derived.Deep.DeepHandedRow
import Derived.Lib.LaidTab
set_option linter.unusedVariables false
namespace Go.Proofs.YtdeckbdaencjnaaDoor
open Go.ChangeShapes Go.WideShapes Go.ChangeAt Go.RowKit

/-- A datum's cells. -/
def litV {H : Type} : DataW H → Value
  | .lit (.int k n) => .int k n
  | _ => .int .u8 0
def rowV {H : Type} : DataW H → List Value
  | .agg l => l.flatMap fun x => match x with
    | .agg m => m.map litV
    | y => [litV y]
  | _ => []
theorem door_own : ownKnob Tryd.prog.godebug = none := by kernel_rfl
theorem door_laidOut : laidOutB Tryd.prog = true := by kernel_rfl
def layAt (cs : List Value) : Obj → Obj
  | .cells _ t frozen => .cells cs.toArray t frozen
  | o => o
/-- The settled world, the tables holding what their initialisers lay. -/
noncomputable def laidWorld (os : Os) : World :=
  { World.holding Tryd.prog os ⟨#[], #[], []⟩ with heap := ((World.holding Tryd.prog os ⟨#[], #[], []⟩).heap.modify 0 (layAt (rowV Rows.laid_unicode_utf8_first))).modify 1 (layAt (rowV (Rows.laid_unicode_utf8_acceptRanges (H := Unit)))) }
def doorLaid : List (String × DataW Unit) := [("unicode/utf8.acceptRanges", Rows.laid_unicode_utf8_acceptRanges), ("unicode/utf8.first", Rows.laid_unicode_utf8_first)]
theorem door_met (os : Os) (args : Array Value) : laidMet Tryd.prog doorLaid ((laidWorld os).forCall (fun _ _ => 0) ⟨#[], args, []⟩).memory :=
  laidMet_of_run' 8 (by kernel_rfl) (by kernel_rfl)
end Go.Proofs.YtdeckbdaencjnaaDoor
