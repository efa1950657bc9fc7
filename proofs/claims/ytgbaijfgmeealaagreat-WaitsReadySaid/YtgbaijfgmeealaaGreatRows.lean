/-
  No cell of these rows narrows 'for every input' (looked for: loops, veiled, ifaces, maps, wideKeys, modest, calm, conditions, laid).
  DERIVED. THE GIVEN ROWS OF THIS SEAT. 3 by the template 'for every input the law returns true; each argument reads behind the call as it read before'; 0 by the template 'total and deterministic' (their statements: YtgbaijfgmeealaaGreatTotals.lean).
  GIVEN WITH THE SEED: the statements are not yours to turn. If you find one false, say at which input.
  Laid BY PROGRAM, IN A SANDBOX (cutbox-rows.mjs): the forced cells as the released guide's own fill.sh prints them over the translation de2fa8a739cefb1a… (all of the seat's roots in one cut). By AI agents, Wed Nov 11 2026. No macro, syntax, notation, axiom, sorry.
-/
import Derived.Test.YtgbaijfgmeealaaGreatChecked
import GoSem.Claim
import GoSem.ClaimJoined
import GoSem.ClaimMapViews
import Derived.JoinedTies
import Derived.KernelRfl
namespace Go.Proofs.YtgbaijfgmeealaaGreat
/- THE CELL 'sum', in the pinned program and in every row, IS THE sha256 OF THE DUMP (.gsa) THAT YtgbaijfgmeealaaGreatProg.lean LOADS. Nothing in Lean hashes anything: it is a label: what it is worth is what the hold of that sum in a sandbox is worth. -/
noncomputable def Tryz.pinned : Pinned := { name := "ytgbaijfgmeealaagreat", sum := "de2fa8a739cefb1acfa9550f6feff32fc9c3c9c2e49521620247d4e5a54f1de9", checked := Tryz.checked }
namespace Rows
def none {H : Type} : Left H := { results := [], args := [] }

/-- 'heronrylaw11.WaitsGoOn': WHATEVER THE INPUT: true; the input reads as it did. -/
def waitsGoOnSpec : ChangeSpec := { name := "waitsGoOn", fn := fun _ => fun
  | [d] => { results := [.lit (.bool true)], args := [d] }
  | _ => none }
def waitsGoOnRow : OpenClaim := { program := "ytgbaijfgmeealaagreat", sum := "de2fa8a739cefb1acfa9550f6feff32fc9c3c9c2e49521620247d4e5a54f1de9", func := "heronry/heronrylaw11.WaitsGoOn", spec := "waitsGoOn", inPlace := ["slices.overlaps[heronry/locks.Lock]"], unfollowed := true, recurses := true, apart := false }
def WaitsGoOnSaid : Prop := waitsGoOnRow.holds Tryz.pinned (OpenSpec.ofChange waitsGoOnSpec)

/-- ITS FALSE NEIGHBOUR: 'it returns false'. Refute it at one input. -/
def waitsGoOnWrong : ChangeSpec := { name := "waitsGoOn", fn := fun _ => fun
  | [d] => { results := [.lit (.bool false)], args := [d] }
  | _ => none }
def WaitsGoOnWrongFalsely : Prop := waitsGoOnRow.holds Tryz.pinned (OpenSpec.ofChange waitsGoOnWrong)

/-- 'heronrylaw11.WaitsBreak': WHATEVER THE INPUT: true; the input reads as it did. -/
def waitsBreakSpec : ChangeSpec := { name := "waitsBreak", fn := fun _ => fun
  | [d] => { results := [.lit (.bool true)], args := [d] }
  | _ => none }
def waitsBreakRow : OpenClaim := { program := "ytgbaijfgmeealaagreat", sum := "de2fa8a739cefb1acfa9550f6feff32fc9c3c9c2e49521620247d4e5a54f1de9", func := "heronry/heronrylaw11.WaitsBreak", spec := "waitsBreak", inPlace := ["slices.overlaps[heronry/locks.Lock]"], unfollowed := true, recurses := true, apart := false }
def WaitsBreakSaid : Prop := waitsBreakRow.holds Tryz.pinned (OpenSpec.ofChange waitsBreakSpec)

/-- ITS FALSE NEIGHBOUR: 'it returns false'. Refute it at one input. -/
def waitsBreakWrong : ChangeSpec := { name := "waitsBreak", fn := fun _ => fun
  | [d] => { results := [.lit (.bool false)], args := [d] }
  | _ => none }
def WaitsBreakWrongFalsely : Prop := waitsBreakRow.holds Tryz.pinned (OpenSpec.ofChange waitsBreakWrong)

/-- 'heronrylaw11.WaitsReady': WHATEVER THE INPUT: true; the input reads as it did. -/
def waitsReadySpec : ChangeSpec := { name := "waitsReady", fn := fun _ => fun
  | [d] => { results := [.lit (.bool true)], args := [d] }
  | _ => none }
def waitsReadyRow : OpenClaim := { program := "ytgbaijfgmeealaagreat", sum := "de2fa8a739cefb1acfa9550f6feff32fc9c3c9c2e49521620247d4e5a54f1de9", func := "heronry/heronrylaw11.WaitsReady", spec := "waitsReady", inPlace := ["slices.overlaps[heronry/locks.Lock]"], unfollowed := true, recurses := true, apart := false }
def WaitsReadySaid : Prop := waitsReadyRow.holds Tryz.pinned (OpenSpec.ofChange waitsReadySpec)

/-- ITS FALSE NEIGHBOUR: 'it returns false'. Refute it at one input. -/
def waitsReadyWrong : ChangeSpec := { name := "waitsReady", fn := fun _ => fun
  | [d] => { results := [.lit (.bool false)], args := [d] }
  | _ => none }
def WaitsReadyWrongFalsely : Prop := waitsReadyRow.holds Tryz.pinned (OpenSpec.ofChange waitsReadyWrong)

/- THE SECOND FORM. 'bulk': how many values and letters a reading holds, each counted each time it is reached (what is shared counts as often as it is met; a slice's spare places count too). A statement '..UptoSaid' is the law's where the arguments, and the package variables that the reading takes, are together of bulk at most 1048576: NARROWER than '..Said'. Prove '..Said' where nothing that the law and all that it calls make is longer than what came in: it says more and counts as full. Else prove '..UptoSaid'. A law counts once. -/
mutual
def uptoBulk {H : Type} : DataW H → Nat
  | .lit (.string bytes) => bytes.length + 1
  | .lit _ => 1
  | .nil => 1
  | .ptr d => uptoBulk d + 1
  | .slice elems spare => uptoBulkAll elems + uptoBulkAll spare + 1
  | .agg parts => uptoBulkAll parts + 1
  | .iface _ d => uptoBulk d + 1
  | .map entries => uptoBulkEntries entries + 1
  | .held _ => 1
def uptoBulkAll {H : Type} : List (DataW H) → Nat
  | [] => 0
  | d :: r => uptoBulk d + uptoBulkAll r
def uptoBulkEntries {H : Type} : List (Lit × DataW H) → Nat
  | [] => 0
  | x :: r => uptoBulkEntry x + uptoBulkEntries r
def uptoBulkEntry {H : Type} : Lit × DataW H → Nat
  | (.string bytes, d) => bytes.length + uptoBulk d + 1
  | (_, d) => uptoBulk d + 1
 end
def uptoSmall : (H : Type) → List (DataW H) → Bool := fun _ ds => decide (uptoBulkAll ds ≤ 1048576)
def OpenSpec.upto (s : _root_.Go.ChangeSpec) : _root_.Go.OpenSpec := { _root_.Go.OpenSpec.ofChange s with cond := some uptoSmall }

/-- 'heronrylaw11.WaitsGoOn', WHERE WHAT IT READS IS OF BULK AT MOST 1048576: true; the input reads as it did. -/
def waitsGoOnUptoRow : OpenClaim := { program := "ytgbaijfgmeealaagreat", sum := "de2fa8a739cefb1acfa9550f6feff32fc9c3c9c2e49521620247d4e5a54f1de9", func := "heronry/heronrylaw11.WaitsGoOn", spec := "waitsGoOn", inPlace := ["slices.overlaps[heronry/locks.Lock]"], unfollowed := true, recurses := true, apart := false, narrowed := true }
def WaitsGoOnUptoSaid : Prop := waitsGoOnUptoRow.holds Tryz.pinned (OpenSpec.upto waitsGoOnSpec)

/-- 'heronrylaw11.WaitsBreak', WHERE WHAT IT READS IS OF BULK AT MOST 1048576: true; the input reads as it did. -/
def waitsBreakUptoRow : OpenClaim := { program := "ytgbaijfgmeealaagreat", sum := "de2fa8a739cefb1acfa9550f6feff32fc9c3c9c2e49521620247d4e5a54f1de9", func := "heronry/heronrylaw11.WaitsBreak", spec := "waitsBreak", inPlace := ["slices.overlaps[heronry/locks.Lock]"], unfollowed := true, recurses := true, apart := false, narrowed := true }
def WaitsBreakUptoSaid : Prop := waitsBreakUptoRow.holds Tryz.pinned (OpenSpec.upto waitsBreakSpec)

/-- 'heronrylaw11.WaitsReady', WHERE WHAT IT READS IS OF BULK AT MOST 1048576: true; the input reads as it did. -/
def waitsReadyUptoRow : OpenClaim := { program := "ytgbaijfgmeealaagreat", sum := "de2fa8a739cefb1acfa9550f6feff32fc9c3c9c2e49521620247d4e5a54f1de9", func := "heronry/heronrylaw11.WaitsReady", spec := "waitsReady", inPlace := ["slices.overlaps[heronry/locks.Lock]"], unfollowed := true, recurses := true, apart := false, narrowed := true }
def WaitsReadyUptoSaid : Prop := waitsReadyUptoRow.holds Tryz.pinned (OpenSpec.upto waitsReadySpec)

end Rows
end Go.Proofs.YtgbaijfgmeealaaGreat
