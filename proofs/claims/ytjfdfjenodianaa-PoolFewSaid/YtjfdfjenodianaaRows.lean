/-
  No cell of these rows narrows 'for every input' (looked for: loops, veiled, ifaces, maps, wideKeys, modest, calm, conditions, laid).
  DERIVED. THE GIVEN ROWS OF THIS SEAT. 5 by the template 'for every input the law returns true; each argument reads behind the call as it read before'; 0 by the template 'total and deterministic' (their statements: YtjfdfjenodianaaTotals.lean).
  GIVEN WITH THE SEED: the statements are not yours to turn. If you find one false, say at which input.
  Laid BY PROGRAM, IN A SANDBOX (cutbox-rows.mjs): the forced cells as the released guide's own fill.sh prints them over the translation 49f5c367004a0149… (all of the seat's roots in one cut). By AI agents, Wed Nov 11 2026. No macro, syntax, notation, axiom, sorry.
-/
import Derived.Test.YtjfdfjenodianaaChecked
import GoSem.Claim
import GoSem.ClaimJoined
import GoSem.ClaimMapViews
import Derived.JoinedTies
import Derived.KernelRfl
namespace Go.Proofs.Ytjfdfjenodianaa
/- THE CELL 'sum', in the pinned program and in every row, IS THE sha256 OF THE DUMP (.gsa) THAT YtjfdfjenodianaaProg.lean LOADS. Nothing in Lean hashes anything: it is a label: what it is worth is what the hold of that sum in a sandbox is worth. -/
noncomputable def Try.pinned : Pinned := { name := "ytjfdfjenodianaa", sum := "49f5c367004a0149850ab07ff95e06b597869fabc07d60889052303400c36226", checked := Try.checked }
namespace Rows
def none {H : Type} : Left H := { results := [], args := [] }

/-- 'heronrylaw17.PoolTells': WHATEVER THE INPUT: true; the input reads as it did. -/
def poolTellsSpec : ChangeSpec := { name := "poolTells", fn := fun _ => fun
  | [d1, d2] => { results := [.lit (.bool true)], args := [d1, d2] }
  | _ => none }
def poolTellsRow : OpenClaim := { program := "ytjfdfjenodianaa", sum := "49f5c367004a0149850ab07ff95e06b597869fabc07d60889052303400c36226", func := "heronry/heronrylaw17.PoolTells", spec := "poolTells", unfollowed := true, recurses := true, apart := false }
def PoolTellsSaid : Prop := poolTellsRow.holds Try.pinned (OpenSpec.ofChange poolTellsSpec)

/-- ITS FALSE NEIGHBOUR: 'it returns false'. Refute it at one input. -/
def poolTellsWrong : ChangeSpec := { name := "poolTells", fn := fun _ => fun
  | [d1, d2] => { results := [.lit (.bool false)], args := [d1, d2] }
  | _ => none }
def PoolTellsWrongFalsely : Prop := poolTellsRow.holds Try.pinned (OpenSpec.ofChange poolTellsWrong)

/-- 'heronrylaw17.PoolFew': WHATEVER THE INPUT: true; the input reads as it did. -/
def poolFewSpec : ChangeSpec := { name := "poolFew", fn := fun _ => fun
  | [d1, d2] => { results := [.lit (.bool true)], args := [d1, d2] }
  | _ => none }
def poolFewRow : OpenClaim := { program := "ytjfdfjenodianaa", sum := "49f5c367004a0149850ab07ff95e06b597869fabc07d60889052303400c36226", func := "heronry/heronrylaw17.PoolFew", spec := "poolFew", unfollowed := true, recurses := true, apart := false }
def PoolFewSaid : Prop := poolFewRow.holds Try.pinned (OpenSpec.ofChange poolFewSpec)

/-- ITS FALSE NEIGHBOUR: 'it returns false'. Refute it at one input. -/
def poolFewWrong : ChangeSpec := { name := "poolFew", fn := fun _ => fun
  | [d1, d2] => { results := [.lit (.bool false)], args := [d1, d2] }
  | _ => none }
def PoolFewWrongFalsely : Prop := poolFewRow.holds Try.pinned (OpenSpec.ofChange poolFewWrong)

/-- 'heronrylaw17.PoolPins': WHATEVER THE INPUT: true; the input reads as it did. -/
def poolPinsSpec : ChangeSpec := { name := "poolPins", fn := fun _ => fun
  | [d1, d2, d3, d4] => { results := [.lit (.bool true)], args := [d1, d2, d3, d4] }
  | _ => none }
def poolPinsRow : OpenClaim := { program := "ytjfdfjenodianaa", sum := "49f5c367004a0149850ab07ff95e06b597869fabc07d60889052303400c36226", func := "heronry/heronrylaw17.PoolPins", spec := "poolPins", unfollowed := true, recurses := true, apart := false }
def PoolPinsSaid : Prop := poolPinsRow.holds Try.pinned (OpenSpec.ofChange poolPinsSpec)

/-- ITS FALSE NEIGHBOUR: 'it returns false'. Refute it at one input. -/
def poolPinsWrong : ChangeSpec := { name := "poolPins", fn := fun _ => fun
  | [d1, d2, d3, d4] => { results := [.lit (.bool false)], args := [d1, d2, d3, d4] }
  | _ => none }
def PoolPinsWrongFalsely : Prop := poolPinsRow.holds Try.pinned (OpenSpec.ofChange poolPinsWrong)

/-- 'heronrylaw17.PoolSafe': WHATEVER THE INPUT: true; the input reads as it did. -/
def poolSafeSpec : ChangeSpec := { name := "poolSafe", fn := fun _ => fun
  | [d1, d2] => { results := [.lit (.bool true)], args := [d1, d2] }
  | _ => none }
def poolSafeRow : OpenClaim := { program := "ytjfdfjenodianaa", sum := "49f5c367004a0149850ab07ff95e06b597869fabc07d60889052303400c36226", func := "heronry/heronrylaw17.PoolSafe", spec := "poolSafe", unfollowed := true, recurses := true, apart := false }
def PoolSafeSaid : Prop := poolSafeRow.holds Try.pinned (OpenSpec.ofChange poolSafeSpec)

/-- ITS FALSE NEIGHBOUR: 'it returns false'. Refute it at one input. -/
def poolSafeWrong : ChangeSpec := { name := "poolSafe", fn := fun _ => fun
  | [d1, d2] => { results := [.lit (.bool false)], args := [d1, d2] }
  | _ => none }
def PoolSafeWrongFalsely : Prop := poolSafeRow.holds Try.pinned (OpenSpec.ofChange poolSafeWrong)

/-- 'heronrylaw17.PoolWaits': WHATEVER THE INPUT: true; the input reads as it did. -/
def poolWaitsSpec : ChangeSpec := { name := "poolWaits", fn := fun _ => fun
  | [d1, d2] => { results := [.lit (.bool true)], args := [d1, d2] }
  | _ => none }
def poolWaitsRow : OpenClaim := { program := "ytjfdfjenodianaa", sum := "49f5c367004a0149850ab07ff95e06b597869fabc07d60889052303400c36226", func := "heronry/heronrylaw17.PoolWaits", spec := "poolWaits", unfollowed := true, recurses := true, apart := false }
def PoolWaitsSaid : Prop := poolWaitsRow.holds Try.pinned (OpenSpec.ofChange poolWaitsSpec)

/-- ITS FALSE NEIGHBOUR: 'it returns false'. Refute it at one input. -/
def poolWaitsWrong : ChangeSpec := { name := "poolWaits", fn := fun _ => fun
  | [d1, d2] => { results := [.lit (.bool false)], args := [d1, d2] }
  | _ => none }
def PoolWaitsWrongFalsely : Prop := poolWaitsRow.holds Try.pinned (OpenSpec.ofChange poolWaitsWrong)

/- THE SECOND FORM. 'bulk': how many values and letters a reading holds, each counted each time it is reached (what is shared counts as often as it is met; a slice's spare places count too). A statement '..UptoSaid' is the law's where the arguments, and the package variables that the reading takes, are together of bulk at most 1048576: NARROWER than '..Said'. Prove '..Said' where nothing that the law and all that it calls make is longer than what came in: it says more and counts as full. Else prove '..UptoSaid'. A law counts once. -/
mutual
def uptoBulk {H : Type} : DataW H → Nat
  | .lit (.string bytes) => bytes.length + 1
  | .lit _ => 1
  | .nil => 1
  | .ptr d => uptoBulk d + 1
  | .slice elems spare => uptoBulkAll elems + uptoBulkAll spare + 1
  | .agg parts => uptoBulkAll parts + 1
  | .iface _ d => uptoBulk d + 1
  | .map entries => uptoBulkEntries entries + 1
  | .held _ => 1
def uptoBulkAll {H : Type} : List (DataW H) → Nat
  | [] => 0
  | d :: r => uptoBulk d + uptoBulkAll r
def uptoBulkEntries {H : Type} : List (Lit × DataW H) → Nat
  | [] => 0
  | x :: r => uptoBulkEntry x + uptoBulkEntries r
def uptoBulkEntry {H : Type} : Lit × DataW H → Nat
  | (.string bytes, d) => bytes.length + uptoBulk d + 1
  | (_, d) => uptoBulk d + 1
 end
def uptoSmall : (H : Type) → List (DataW H) → Bool := fun _ ds => decide (uptoBulkAll ds ≤ 1048576)
def OpenSpec.upto (s : _root_.Go.ChangeSpec) : _root_.Go.OpenSpec := { _root_.Go.OpenSpec.ofChange s with cond := some uptoSmall }

/-- 'heronrylaw17.PoolTells', WHERE WHAT IT READS IS OF BULK AT MOST 1048576: true; the input reads as it did. -/
def poolTellsUptoRow : OpenClaim := { program := "ytjfdfjenodianaa", sum := "49f5c367004a0149850ab07ff95e06b597869fabc07d60889052303400c36226", func := "heronry/heronrylaw17.PoolTells", spec := "poolTells", unfollowed := true, recurses := true, apart := false, narrowed := true }
def PoolTellsUptoSaid : Prop := poolTellsUptoRow.holds Try.pinned (OpenSpec.upto poolTellsSpec)

/-- 'heronrylaw17.PoolFew', WHERE WHAT IT READS IS OF BULK AT MOST 1048576: true; the input reads as it did. -/
def poolFewUptoRow : OpenClaim := { program := "ytjfdfjenodianaa", sum := "49f5c367004a0149850ab07ff95e06b597869fabc07d60889052303400c36226", func := "heronry/heronrylaw17.PoolFew", spec := "poolFew", unfollowed := true, recurses := true, apart := false, narrowed := true }
def PoolFewUptoSaid : Prop := poolFewUptoRow.holds Try.pinned (OpenSpec.upto poolFewSpec)

/-- 'heronrylaw17.PoolPins', WHERE WHAT IT READS IS OF BULK AT MOST 1048576: true; the input reads as it did. -/
def poolPinsUptoRow : OpenClaim := { program := "ytjfdfjenodianaa", sum := "49f5c367004a0149850ab07ff95e06b597869fabc07d60889052303400c36226", func := "heronry/heronrylaw17.PoolPins", spec := "poolPins", unfollowed := true, recurses := true, apart := false, narrowed := true }
def PoolPinsUptoSaid : Prop := poolPinsUptoRow.holds Try.pinned (OpenSpec.upto poolPinsSpec)

/-- 'heronrylaw17.PoolSafe', WHERE WHAT IT READS IS OF BULK AT MOST 1048576: true; the input reads as it did. -/
def poolSafeUptoRow : OpenClaim := { program := "ytjfdfjenodianaa", sum := "49f5c367004a0149850ab07ff95e06b597869fabc07d60889052303400c36226", func := "heronry/heronrylaw17.PoolSafe", spec := "poolSafe", unfollowed := true, recurses := true, apart := false, narrowed := true }
def PoolSafeUptoSaid : Prop := poolSafeUptoRow.holds Try.pinned (OpenSpec.upto poolSafeSpec)

/-- 'heronrylaw17.PoolWaits', WHERE WHAT IT READS IS OF BULK AT MOST 1048576: true; the input reads as it did. -/
def poolWaitsUptoRow : OpenClaim := { program := "ytjfdfjenodianaa", sum := "49f5c367004a0149850ab07ff95e06b597869fabc07d60889052303400c36226", func := "heronry/heronrylaw17.PoolWaits", spec := "poolWaits", unfollowed := true, recurses := true, apart := false, narrowed := true }
def PoolWaitsUptoSaid : Prop := poolWaitsUptoRow.holds Try.pinned (OpenSpec.upto poolWaitsSpec)

end Rows
end Go.Proofs.Ytjfdfjenodianaa
