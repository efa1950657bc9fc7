/-
  No cell of these rows narrows 'for every input' (looked for: loops, veiled, ifaces, maps, wideKeys, modest, calm, conditions, laid).
  DERIVED. THE GIVEN ROWS OF THIS SEAT. 6 by the template 'for every input the law returns true; each argument reads behind the call as it read before'; 0 by the template 'total and deterministic' (their statements: YthepadcjpkcknaaTotals.lean).
  GIVEN WITH THE SEED: the statements are not yours to turn. If you find one false, say at which input.
  Laid BY PROGRAM, IN A SANDBOX (cutbox-rows.mjs): the forced cells as the released guide's own fill.sh prints them over the translation e677e9b289a5fb51… (all of the seat's roots in one cut). By AI agents, Wed Nov 11 2026. No macro, syntax, notation, axiom, sorry.
-/
import Derived.Test.YthepadcjpkcknaaChecked
import GoSem.Claim
import GoSem.ClaimJoined
import GoSem.ClaimMapViews
import Derived.JoinedTies
import Derived.KernelRfl
namespace Go.Proofs.Ythepadcjpkcknaa
/- THE CELL 'sum', in the pinned program and in every row, IS THE sha256 OF THE DUMP (.gsa) THAT YthepadcjpkcknaaProg.lean LOADS. Nothing in Lean hashes anything: it is a label: what it is worth is what the hold of that sum in a sandbox is worth. -/
noncomputable def Try.pinned : Pinned := { name := "ythepadcjpkcknaa", sum := "e677e9b289a5fb516b5a33a12c5072dccb9f0d31406acd9a951c9bc72d1d69bd", checked := Try.checked }
namespace Rows
def none {H : Type} : Left H := { results := [], args := [] }

/-- 'heronrylaw04.DeviceApart': WHATEVER THE INPUT: true; the input reads as it did. -/
def deviceApartSpec : ChangeSpec := { name := "deviceApart", fn := fun _ => fun
  | [d1, d2] => { results := [.lit (.bool true)], args := [d1, d2] }
  | _ => none }
def deviceApartRow : OpenClaim := { program := "ythepadcjpkcknaa", sum := "e677e9b289a5fb516b5a33a12c5072dccb9f0d31406acd9a951c9bc72d1d69bd", func := "heronry/heronrylaw04.DeviceApart", spec := "deviceApart", recurses := true, apart := false }
def DeviceApartSaid : Prop := deviceApartRow.holds Try.pinned (OpenSpec.ofChange deviceApartSpec)

/-- ITS FALSE NEIGHBOUR: 'it returns false'. Refute it at one input. -/
def deviceApartWrong : ChangeSpec := { name := "deviceApart", fn := fun _ => fun
  | [d1, d2] => { results := [.lit (.bool false)], args := [d1, d2] }
  | _ => none }
def DeviceApartWrongFalsely : Prop := deviceApartRow.holds Try.pinned (OpenSpec.ofChange deviceApartWrong)

/-- 'heronrylaw04.DeviceKeeps': WHATEVER THE INPUT: true; the input reads as it did. -/
def deviceKeepsSpec : ChangeSpec := { name := "deviceKeeps", fn := fun _ => fun
  | [d1, d2, d3, d4] => { results := [.lit (.bool true)], args := [d1, d2, d3, d4] }
  | _ => none }
def deviceKeepsRow : OpenClaim := { program := "ythepadcjpkcknaa", sum := "e677e9b289a5fb516b5a33a12c5072dccb9f0d31406acd9a951c9bc72d1d69bd", func := "heronry/heronrylaw04.DeviceKeeps", spec := "deviceKeeps", recurses := true, apart := false }
def DeviceKeepsSaid : Prop := deviceKeepsRow.holds Try.pinned (OpenSpec.ofChange deviceKeepsSpec)

/-- ITS FALSE NEIGHBOUR: 'it returns false'. Refute it at one input. -/
def deviceKeepsWrong : ChangeSpec := { name := "deviceKeeps", fn := fun _ => fun
  | [d1, d2, d3, d4] => { results := [.lit (.bool false)], args := [d1, d2, d3, d4] }
  | _ => none }
def DeviceKeepsWrongFalsely : Prop := deviceKeepsRow.holds Try.pinned (OpenSpec.ofChange deviceKeepsWrong)

/-- 'heronrylaw04.DeviceLast': WHATEVER THE INPUT: true; the input reads as it did. -/
def deviceLastSpec : ChangeSpec := { name := "deviceLast", fn := fun _ => fun
  | [d1, d2, d3] => { results := [.lit (.bool true)], args := [d1, d2, d3] }
  | _ => none }
def deviceLastRow : OpenClaim := { program := "ythepadcjpkcknaa", sum := "e677e9b289a5fb516b5a33a12c5072dccb9f0d31406acd9a951c9bc72d1d69bd", func := "heronry/heronrylaw04.DeviceLast", spec := "deviceLast", recurses := true, apart := false }
def DeviceLastSaid : Prop := deviceLastRow.holds Try.pinned (OpenSpec.ofChange deviceLastSpec)

/-- ITS FALSE NEIGHBOUR: 'it returns false'. Refute it at one input. -/
def deviceLastWrong : ChangeSpec := { name := "deviceLast", fn := fun _ => fun
  | [d1, d2, d3] => { results := [.lit (.bool false)], args := [d1, d2, d3] }
  | _ => none }
def DeviceLastWrongFalsely : Prop := deviceLastRow.holds Try.pinned (OpenSpec.ofChange deviceLastWrong)

/-- 'heronrylaw04.DeviceKinds': WHATEVER THE INPUT: true; the input reads as it did. -/
def deviceKindsSpec : ChangeSpec := { name := "deviceKinds", fn := fun _ => fun
  | [d1, d2, d3, d4] => { results := [.lit (.bool true)], args := [d1, d2, d3, d4] }
  | _ => none }
def deviceKindsRow : OpenClaim := { program := "ythepadcjpkcknaa", sum := "e677e9b289a5fb516b5a33a12c5072dccb9f0d31406acd9a951c9bc72d1d69bd", func := "heronry/heronrylaw04.DeviceKinds", spec := "deviceKinds", recurses := true, apart := false }
def DeviceKindsSaid : Prop := deviceKindsRow.holds Try.pinned (OpenSpec.ofChange deviceKindsSpec)

/-- ITS FALSE NEIGHBOUR: 'it returns false'. Refute it at one input. -/
def deviceKindsWrong : ChangeSpec := { name := "deviceKinds", fn := fun _ => fun
  | [d1, d2, d3, d4] => { results := [.lit (.bool false)], args := [d1, d2, d3, d4] }
  | _ => none }
def DeviceKindsWrongFalsely : Prop := deviceKindsRow.holds Try.pinned (OpenSpec.ofChange deviceKindsWrong)

/-- 'heronrylaw04.DevicePlays': WHATEVER THE INPUT: true; the input reads as it did. -/
def devicePlaysSpec : ChangeSpec := { name := "devicePlays", fn := fun _ => fun
  | [d1, d2] => { results := [.lit (.bool true)], args := [d1, d2] }
  | _ => none }
def devicePlaysRow : OpenClaim := { program := "ythepadcjpkcknaa", sum := "e677e9b289a5fb516b5a33a12c5072dccb9f0d31406acd9a951c9bc72d1d69bd", func := "heronry/heronrylaw04.DevicePlays", spec := "devicePlays", recurses := true, apart := false }
def DevicePlaysSaid : Prop := devicePlaysRow.holds Try.pinned (OpenSpec.ofChange devicePlaysSpec)

/-- ITS FALSE NEIGHBOUR: 'it returns false'. Refute it at one input. -/
def devicePlaysWrong : ChangeSpec := { name := "devicePlays", fn := fun _ => fun
  | [d1, d2] => { results := [.lit (.bool false)], args := [d1, d2] }
  | _ => none }
def DevicePlaysWrongFalsely : Prop := devicePlaysRow.holds Try.pinned (OpenSpec.ofChange devicePlaysWrong)

/-- 'heronrylaw04.DeviceBudget': WHATEVER THE INPUT: true; the input reads as it did. -/
def deviceBudgetSpec : ChangeSpec := { name := "deviceBudget", fn := fun _ => fun
  | [d1, d2] => { results := [.lit (.bool true)], args := [d1, d2] }
  | _ => none }
def deviceBudgetRow : OpenClaim := { program := "ythepadcjpkcknaa", sum := "e677e9b289a5fb516b5a33a12c5072dccb9f0d31406acd9a951c9bc72d1d69bd", func := "heronry/heronrylaw04.DeviceBudget", spec := "deviceBudget", recurses := true, apart := false }
def DeviceBudgetSaid : Prop := deviceBudgetRow.holds Try.pinned (OpenSpec.ofChange deviceBudgetSpec)

/-- ITS FALSE NEIGHBOUR: 'it returns false'. Refute it at one input. -/
def deviceBudgetWrong : ChangeSpec := { name := "deviceBudget", fn := fun _ => fun
  | [d1, d2] => { results := [.lit (.bool false)], args := [d1, d2] }
  | _ => none }
def DeviceBudgetWrongFalsely : Prop := deviceBudgetRow.holds Try.pinned (OpenSpec.ofChange deviceBudgetWrong)

/- THE SECOND FORM. 'bulk': how many values and letters a reading holds, each counted each time it is reached (what is shared counts as often as it is met; a slice's spare places count too). A statement '..UptoSaid' is the law's where the arguments, and the package variables that the reading takes, are together of bulk at most 1048576: NARROWER than '..Said'. Prove '..Said' where nothing that the law and all that it calls make is longer than what came in: it says more and counts as full. Else prove '..UptoSaid'. A law counts once. -/
mutual
def uptoBulk {H : Type} : DataW H → Nat
  | .lit (.string bytes) => bytes.length + 1
  | .lit _ => 1
  | .nil => 1
  | .ptr d => uptoBulk d + 1
  | .slice elems spare => uptoBulkAll elems + uptoBulkAll spare + 1
  | .agg parts => uptoBulkAll parts + 1
  | .iface _ d => uptoBulk d + 1
  | .map entries => uptoBulkEntries entries + 1
  | .held _ => 1
def uptoBulkAll {H : Type} : List (DataW H) → Nat
  | [] => 0
  | d :: r => uptoBulk d + uptoBulkAll r
def uptoBulkEntries {H : Type} : List (Lit × DataW H) → Nat
  | [] => 0
  | x :: r => uptoBulkEntry x + uptoBulkEntries r
def uptoBulkEntry {H : Type} : Lit × DataW H → Nat
  | (.string bytes, d) => bytes.length + uptoBulk d + 1
  | (_, d) => uptoBulk d + 1
 end
def uptoSmall : (H : Type) → List (DataW H) → Bool := fun _ ds => decide (uptoBulkAll ds ≤ 1048576)
def OpenSpec.upto (s : _root_.Go.ChangeSpec) : _root_.Go.OpenSpec := { _root_.Go.OpenSpec.ofChange s with cond := some uptoSmall }

/-- 'heronrylaw04.DeviceApart', WHERE WHAT IT READS IS OF BULK AT MOST 1048576: true; the input reads as it did. -/
def deviceApartUptoRow : OpenClaim := { program := "ythepadcjpkcknaa", sum := "e677e9b289a5fb516b5a33a12c5072dccb9f0d31406acd9a951c9bc72d1d69bd", func := "heronry/heronrylaw04.DeviceApart", spec := "deviceApart", recurses := true, apart := false, narrowed := true }
def DeviceApartUptoSaid : Prop := deviceApartUptoRow.holds Try.pinned (OpenSpec.upto deviceApartSpec)

/-- 'heronrylaw04.DeviceKeeps', WHERE WHAT IT READS IS OF BULK AT MOST 1048576: true; the input reads as it did. -/
def deviceKeepsUptoRow : OpenClaim := { program := "ythepadcjpkcknaa", sum := "e677e9b289a5fb516b5a33a12c5072dccb9f0d31406acd9a951c9bc72d1d69bd", func := "heronry/heronrylaw04.DeviceKeeps", spec := "deviceKeeps", recurses := true, apart := false, narrowed := true }
def DeviceKeepsUptoSaid : Prop := deviceKeepsUptoRow.holds Try.pinned (OpenSpec.upto deviceKeepsSpec)

/-- 'heronrylaw04.DeviceLast', WHERE WHAT IT READS IS OF BULK AT MOST 1048576: true; the input reads as it did. -/
def deviceLastUptoRow : OpenClaim := { program := "ythepadcjpkcknaa", sum := "e677e9b289a5fb516b5a33a12c5072dccb9f0d31406acd9a951c9bc72d1d69bd", func := "heronry/heronrylaw04.DeviceLast", spec := "deviceLast", recurses := true, apart := false, narrowed := true }
def DeviceLastUptoSaid : Prop := deviceLastUptoRow.holds Try.pinned (OpenSpec.upto deviceLastSpec)

/-- 'heronrylaw04.DeviceKinds', WHERE WHAT IT READS IS OF BULK AT MOST 1048576: true; the input reads as it did. -/
def deviceKindsUptoRow : OpenClaim := { program := "ythepadcjpkcknaa", sum := "e677e9b289a5fb516b5a33a12c5072dccb9f0d31406acd9a951c9bc72d1d69bd", func := "heronry/heronrylaw04.DeviceKinds", spec := "deviceKinds", recurses := true, apart := false, narrowed := true }
def DeviceKindsUptoSaid : Prop := deviceKindsUptoRow.holds Try.pinned (OpenSpec.upto deviceKindsSpec)

/-- 'heronrylaw04.DevicePlays', WHERE WHAT IT READS IS OF BULK AT MOST 1048576: true; the input reads as it did. -/
def devicePlaysUptoRow : OpenClaim := { program := "ythepadcjpkcknaa", sum := "e677e9b289a5fb516b5a33a12c5072dccb9f0d31406acd9a951c9bc72d1d69bd", func := "heronry/heronrylaw04.DevicePlays", spec := "devicePlays", recurses := true, apart := false, narrowed := true }
def DevicePlaysUptoSaid : Prop := devicePlaysUptoRow.holds Try.pinned (OpenSpec.upto devicePlaysSpec)

/-- 'heronrylaw04.DeviceBudget', WHERE WHAT IT READS IS OF BULK AT MOST 1048576: true; the input reads as it did. -/
def deviceBudgetUptoRow : OpenClaim := { program := "ythepadcjpkcknaa", sum := "e677e9b289a5fb516b5a33a12c5072dccb9f0d31406acd9a951c9bc72d1d69bd", func := "heronry/heronrylaw04.DeviceBudget", spec := "deviceBudget", recurses := true, apart := false, narrowed := true }
def DeviceBudgetUptoSaid : Prop := deviceBudgetUptoRow.holds Try.pinned (OpenSpec.upto deviceBudgetSpec)

end Rows
end Go.Proofs.Ythepadcjpkcknaa
