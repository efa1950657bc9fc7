/-
  No cell of these rows narrows 'for every input' (looked for: loops, veiled, ifaces, maps, wideKeys, modest, calm, conditions, laid).
  DERIVED. THE GIVEN ROWS OF THIS SEAT. 7 by the template 'for every input the law returns true; each argument reads behind the call as it read before'; 0 by the template 'total and deterministic' (their statements: YtgbaijfgmeealaaTotals.lean).
  GIVEN WITH THE SEED: the statements are not yours to turn. If you find one false, say at which input.
  Laid BY PROGRAM, IN A SANDBOX (cutbox-rows.mjs): the forced cells as the released guide's own fill.sh prints them over the translation f142cf9e1afef478… (all of the seat's roots in one cut). By AI agents, Wed Nov 11 2026. No macro, syntax, notation, axiom, sorry.
-/
import Derived.Test.YtgbaijfgmeealaaChecked
import GoSem.Claim
import GoSem.ClaimJoined
import GoSem.ClaimMapViews
import Derived.JoinedTies
import Derived.KernelRfl
namespace Go.Proofs.Ytgbaijfgmeealaa
/- THE CELL 'sum', in the pinned program and in every row, IS THE sha256 OF THE DUMP (.gsa) THAT YtgbaijfgmeealaaProg.lean LOADS. Nothing in Lean hashes anything: it is a label: what it is worth is what the hold of that sum in a sandbox is worth. -/
noncomputable def Try.pinned : Pinned := { name := "ytgbaijfgmeealaa", sum := "f142cf9e1afef478f507ff4cfa3fc2075dd9869b3692609787d90929cdc2afb9", checked := Try.checked }
namespace Rows
def none {H : Type} : Left H := { results := [], args := [] }

/-- 'heronrylaw10.LocksShare': WHATEVER THE INPUT: true; the input reads as it did. -/
def locksShareSpec : ChangeSpec := { name := "locksShare", fn := fun _ => fun
  | [d1, d2] => { results := [.lit (.bool true)], args := [d1, d2] }
  | _ => none }
def locksShareRow : OpenClaim := { program := "ytgbaijfgmeealaa", sum := "f142cf9e1afef478f507ff4cfa3fc2075dd9869b3692609787d90929cdc2afb9", func := "heronry/heronrylaw10.LocksShare", spec := "locksShare", inPlace := ["slices.overlaps[heronry/locks.Lock]"], unfollowed := true, recurses := true, apart := false }
def LocksShareSaid : Prop := locksShareRow.holds Try.pinned (OpenSpec.ofChange locksShareSpec)

/-- ITS FALSE NEIGHBOUR: 'it returns false'. Refute it at one input. -/
def locksShareWrong : ChangeSpec := { name := "locksShare", fn := fun _ => fun
  | [d1, d2] => { results := [.lit (.bool false)], args := [d1, d2] }
  | _ => none }
def LocksShareWrongFalsely : Prop := locksShareRow.holds Try.pinned (OpenSpec.ofChange locksShareWrong)

/-- 'heronrylaw10.LocksPass': WHATEVER THE INPUT: true; the input reads as it did. -/
def locksPassSpec : ChangeSpec := { name := "locksPass", fn := fun _ => fun
  | [d1, d2] => { results := [.lit (.bool true)], args := [d1, d2] }
  | _ => none }
def locksPassRow : OpenClaim := { program := "ytgbaijfgmeealaa", sum := "f142cf9e1afef478f507ff4cfa3fc2075dd9869b3692609787d90929cdc2afb9", func := "heronry/heronrylaw10.LocksPass", spec := "locksPass", inPlace := ["slices.overlaps[heronry/locks.Lock]"], unfollowed := true, recurses := true, apart := false }
def LocksPassSaid : Prop := locksPassRow.holds Try.pinned (OpenSpec.ofChange locksPassSpec)

/-- ITS FALSE NEIGHBOUR: 'it returns false'. Refute it at one input. -/
def locksPassWrong : ChangeSpec := { name := "locksPass", fn := fun _ => fun
  | [d1, d2] => { results := [.lit (.bool false)], args := [d1, d2] }
  | _ => none }
def LocksPassWrongFalsely : Prop := locksPassRow.holds Try.pinned (OpenSpec.ofChange locksPassWrong)

/-- 'heronrylaw10.LocksApart': WHATEVER THE INPUT: true; the input reads as it did. -/
def locksApartSpec : ChangeSpec := { name := "locksApart", fn := fun _ => fun
  | [d] => { results := [.lit (.bool true)], args := [d] }
  | _ => none }
def locksApartRow : OpenClaim := { program := "ytgbaijfgmeealaa", sum := "f142cf9e1afef478f507ff4cfa3fc2075dd9869b3692609787d90929cdc2afb9", func := "heronry/heronrylaw10.LocksApart", spec := "locksApart", inPlace := ["slices.overlaps[heronry/locks.Lock]"], unfollowed := true, recurses := true, apart := false }
def LocksApartSaid : Prop := locksApartRow.holds Try.pinned (OpenSpec.ofChange locksApartSpec)

/-- ITS FALSE NEIGHBOUR: 'it returns false'. Refute it at one input. -/
def locksApartWrong : ChangeSpec := { name := "locksApart", fn := fun _ => fun
  | [d] => { results := [.lit (.bool false)], args := [d] }
  | _ => none }
def LocksApartWrongFalsely : Prop := locksApartRow.holds Try.pinned (OpenSpec.ofChange locksApartWrong)

/-- 'heronrylaw10.LocksEnd': WHATEVER THE INPUT: true; the input reads as it did. -/
def locksEndSpec : ChangeSpec := { name := "locksEnd", fn := fun _ => fun
  | [d1, d2] => { results := [.lit (.bool true)], args := [d1, d2] }
  | _ => none }
def locksEndRow : OpenClaim := { program := "ytgbaijfgmeealaa", sum := "f142cf9e1afef478f507ff4cfa3fc2075dd9869b3692609787d90929cdc2afb9", func := "heronry/heronrylaw10.LocksEnd", spec := "locksEnd", inPlace := ["slices.overlaps[heronry/locks.Lock]"], unfollowed := true, recurses := true, apart := false }
def LocksEndSaid : Prop := locksEndRow.holds Try.pinned (OpenSpec.ofChange locksEndSpec)

/-- ITS FALSE NEIGHBOUR: 'it returns false'. Refute it at one input. -/
def locksEndWrong : ChangeSpec := { name := "locksEnd", fn := fun _ => fun
  | [d1, d2] => { results := [.lit (.bool false)], args := [d1, d2] }
  | _ => none }
def LocksEndWrongFalsely : Prop := locksEndRow.holds Try.pinned (OpenSpec.ofChange locksEndWrong)

/-- 'heronrylaw10.LocksAgain': WHATEVER THE INPUT: true; the input reads as it did. -/
def locksAgainSpec : ChangeSpec := { name := "locksAgain", fn := fun _ => fun
  | [d1, d2, d3, d4] => { results := [.lit (.bool true)], args := [d1, d2, d3, d4] }
  | _ => none }
def locksAgainRow : OpenClaim := { program := "ytgbaijfgmeealaa", sum := "f142cf9e1afef478f507ff4cfa3fc2075dd9869b3692609787d90929cdc2afb9", func := "heronry/heronrylaw10.LocksAgain", spec := "locksAgain", inPlace := ["slices.overlaps[heronry/locks.Lock]"], unfollowed := true, recurses := true, apart := false }
def LocksAgainSaid : Prop := locksAgainRow.holds Try.pinned (OpenSpec.ofChange locksAgainSpec)

/-- ITS FALSE NEIGHBOUR: 'it returns false'. Refute it at one input. -/
def locksAgainWrong : ChangeSpec := { name := "locksAgain", fn := fun _ => fun
  | [d1, d2, d3, d4] => { results := [.lit (.bool false)], args := [d1, d2, d3, d4] }
  | _ => none }
def LocksAgainWrongFalsely : Prop := locksAgainRow.holds Try.pinned (OpenSpec.ofChange locksAgainWrong)

/-- 'heronrylaw11.WaitsRing': WHATEVER THE INPUT: true; the input reads as it did. -/
def waitsRingSpec : ChangeSpec := { name := "waitsRing", fn := fun _ => fun
  | [d1, d2] => { results := [.lit (.bool true)], args := [d1, d2] }
  | _ => none }
def waitsRingRow : OpenClaim := { program := "ytgbaijfgmeealaa", sum := "f142cf9e1afef478f507ff4cfa3fc2075dd9869b3692609787d90929cdc2afb9", func := "heronry/heronrylaw11.WaitsRing", spec := "waitsRing", inPlace := ["slices.overlaps[heronry/locks.Lock]"], unfollowed := true, recurses := true, apart := false }
def WaitsRingSaid : Prop := waitsRingRow.holds Try.pinned (OpenSpec.ofChange waitsRingSpec)

/-- ITS FALSE NEIGHBOUR: 'it returns false'. Refute it at one input. -/
def waitsRingWrong : ChangeSpec := { name := "waitsRing", fn := fun _ => fun
  | [d1, d2] => { results := [.lit (.bool false)], args := [d1, d2] }
  | _ => none }
def WaitsRingWrongFalsely : Prop := waitsRingRow.holds Try.pinned (OpenSpec.ofChange waitsRingWrong)

/-- 'heronrylaw11.WaitsQueue': WHATEVER THE INPUT: true; the input reads as it did. -/
def waitsQueueSpec : ChangeSpec := { name := "waitsQueue", fn := fun _ => fun
  | [d] => { results := [.lit (.bool true)], args := [d] }
  | _ => none }
def waitsQueueRow : OpenClaim := { program := "ytgbaijfgmeealaa", sum := "f142cf9e1afef478f507ff4cfa3fc2075dd9869b3692609787d90929cdc2afb9", func := "heronry/heronrylaw11.WaitsQueue", spec := "waitsQueue", inPlace := ["slices.overlaps[heronry/locks.Lock]"], unfollowed := true, recurses := true, apart := false }
def WaitsQueueSaid : Prop := waitsQueueRow.holds Try.pinned (OpenSpec.ofChange waitsQueueSpec)

/-- ITS FALSE NEIGHBOUR: 'it returns false'. Refute it at one input. -/
def waitsQueueWrong : ChangeSpec := { name := "waitsQueue", fn := fun _ => fun
  | [d] => { results := [.lit (.bool false)], args := [d] }
  | _ => none }
def WaitsQueueWrongFalsely : Prop := waitsQueueRow.holds Try.pinned (OpenSpec.ofChange waitsQueueWrong)

/- THE SECOND FORM. 'bulk': how many values and letters a reading holds, each counted each time it is reached (what is shared counts as often as it is met; a slice's spare places count too). A statement '..UptoSaid' is the law's where the arguments, and the package variables that the reading takes, are together of bulk at most 1048576: NARROWER than '..Said'. Prove '..Said' where nothing that the law and all that it calls make is longer than what came in: it says more and counts as full. Else prove '..UptoSaid'. A law counts once. -/
mutual
def uptoBulk {H : Type} : DataW H → Nat
  | .lit (.string bytes) => bytes.length + 1
  | .lit _ => 1
  | .nil => 1
  | .ptr d => uptoBulk d + 1
  | .slice elems spare => uptoBulkAll elems + uptoBulkAll spare + 1
  | .agg parts => uptoBulkAll parts + 1
  | .iface _ d => uptoBulk d + 1
  | .map entries => uptoBulkEntries entries + 1
  | .held _ => 1
def uptoBulkAll {H : Type} : List (DataW H) → Nat
  | [] => 0
  | d :: r => uptoBulk d + uptoBulkAll r
def uptoBulkEntries {H : Type} : List (Lit × DataW H) → Nat
  | [] => 0
  | x :: r => uptoBulkEntry x + uptoBulkEntries r
def uptoBulkEntry {H : Type} : Lit × DataW H → Nat
  | (.string bytes, d) => bytes.length + uptoBulk d + 1
  | (_, d) => uptoBulk d + 1
 end
def uptoSmall : (H : Type) → List (DataW H) → Bool := fun _ ds => decide (uptoBulkAll ds ≤ 1048576)
def OpenSpec.upto (s : _root_.Go.ChangeSpec) : _root_.Go.OpenSpec := { _root_.Go.OpenSpec.ofChange s with cond := some uptoSmall }

/-- 'heronrylaw10.LocksShare', WHERE WHAT IT READS IS OF BULK AT MOST 1048576: true; the input reads as it did. -/
def locksShareUptoRow : OpenClaim := { program := "ytgbaijfgmeealaa", sum := "f142cf9e1afef478f507ff4cfa3fc2075dd9869b3692609787d90929cdc2afb9", func := "heronry/heronrylaw10.LocksShare", spec := "locksShare", inPlace := ["slices.overlaps[heronry/locks.Lock]"], unfollowed := true, recurses := true, apart := false, narrowed := true }
def LocksShareUptoSaid : Prop := locksShareUptoRow.holds Try.pinned (OpenSpec.upto locksShareSpec)

/-- 'heronrylaw10.LocksPass', WHERE WHAT IT READS IS OF BULK AT MOST 1048576: true; the input reads as it did. -/
def locksPassUptoRow : OpenClaim := { program := "ytgbaijfgmeealaa", sum := "f142cf9e1afef478f507ff4cfa3fc2075dd9869b3692609787d90929cdc2afb9", func := "heronry/heronrylaw10.LocksPass", spec := "locksPass", inPlace := ["slices.overlaps[heronry/locks.Lock]"], unfollowed := true, recurses := true, apart := false, narrowed := true }
def LocksPassUptoSaid : Prop := locksPassUptoRow.holds Try.pinned (OpenSpec.upto locksPassSpec)

/-- 'heronrylaw10.LocksApart', WHERE WHAT IT READS IS OF BULK AT MOST 1048576: true; the input reads as it did. -/
def locksApartUptoRow : OpenClaim := { program := "ytgbaijfgmeealaa", sum := "f142cf9e1afef478f507ff4cfa3fc2075dd9869b3692609787d90929cdc2afb9", func := "heronry/heronrylaw10.LocksApart", spec := "locksApart", inPlace := ["slices.overlaps[heronry/locks.Lock]"], unfollowed := true, recurses := true, apart := false, narrowed := true }
def LocksApartUptoSaid : Prop := locksApartUptoRow.holds Try.pinned (OpenSpec.upto locksApartSpec)

/-- 'heronrylaw10.LocksEnd', WHERE WHAT IT READS IS OF BULK AT MOST 1048576: true; the input reads as it did. -/
def locksEndUptoRow : OpenClaim := { program := "ytgbaijfgmeealaa", sum := "f142cf9e1afef478f507ff4cfa3fc2075dd9869b3692609787d90929cdc2afb9", func := "heronry/heronrylaw10.LocksEnd", spec := "locksEnd", inPlace := ["slices.overlaps[heronry/locks.Lock]"], unfollowed := true, recurses := true, apart := false, narrowed := true }
def LocksEndUptoSaid : Prop := locksEndUptoRow.holds Try.pinned (OpenSpec.upto locksEndSpec)

/-- 'heronrylaw10.LocksAgain', WHERE WHAT IT READS IS OF BULK AT MOST 1048576: true; the input reads as it did. -/
def locksAgainUptoRow : OpenClaim := { program := "ytgbaijfgmeealaa", sum := "f142cf9e1afef478f507ff4cfa3fc2075dd9869b3692609787d90929cdc2afb9", func := "heronry/heronrylaw10.LocksAgain", spec := "locksAgain", inPlace := ["slices.overlaps[heronry/locks.Lock]"], unfollowed := true, recurses := true, apart := false, narrowed := true }
def LocksAgainUptoSaid : Prop := locksAgainUptoRow.holds Try.pinned (OpenSpec.upto locksAgainSpec)

/-- 'heronrylaw11.WaitsRing', WHERE WHAT IT READS IS OF BULK AT MOST 1048576: true; the input reads as it did. -/
def waitsRingUptoRow : OpenClaim := { program := "ytgbaijfgmeealaa", sum := "f142cf9e1afef478f507ff4cfa3fc2075dd9869b3692609787d90929cdc2afb9", func := "heronry/heronrylaw11.WaitsRing", spec := "waitsRing", inPlace := ["slices.overlaps[heronry/locks.Lock]"], unfollowed := true, recurses := true, apart := false, narrowed := true }
def WaitsRingUptoSaid : Prop := waitsRingUptoRow.holds Try.pinned (OpenSpec.upto waitsRingSpec)

/-- 'heronrylaw11.WaitsQueue', WHERE WHAT IT READS IS OF BULK AT MOST 1048576: true; the input reads as it did. -/
def waitsQueueUptoRow : OpenClaim := { program := "ytgbaijfgmeealaa", sum := "f142cf9e1afef478f507ff4cfa3fc2075dd9869b3692609787d90929cdc2afb9", func := "heronry/heronrylaw11.WaitsQueue", spec := "waitsQueue", inPlace := ["slices.overlaps[heronry/locks.Lock]"], unfollowed := true, recurses := true, apart := false, narrowed := true }
def WaitsQueueUptoSaid : Prop := waitsQueueUptoRow.holds Try.pinned (OpenSpec.upto waitsQueueSpec)

end Rows
end Go.Proofs.Ytgbaijfgmeealaa
