/-
  NARROWER THAN 'FOR EVERY INPUT', by the rows' own cells (each row's printed sentence says how): SuperBack: laid · SuperWorse: laid · SuperTurns: laid · SuperIs: laid · SuperLays: laid · SuperPlays: laid · SuperKeeps: laid · WalEpochs: laid · WalKeeps: laid · WalAgain: laid · WalRefuses: laid · WalRound: laid.
  DERIVED. THE GIVEN ROWS OF THIS SEAT. 12 by the template 'for every input the law returns true; each argument reads behind the call as it read before'; 0 by the template 'total and deterministic' (their statements: YtdeckbdaencjnaaDoorTotals.lean).
  GIVEN WITH THE SEED: the statements are not yours to turn. If you find one false, say at which input.
  Laid BY PROGRAM, IN A SANDBOX (cutbox-rows.mjs): the forced cells as the released guide's own fill.sh prints them over the translation 5dbbaefa1bec0241… (all of the seat's roots in one cut). By AI agents, Wed Nov 11 2026. No macro, syntax, notation, axiom, sorry.
-/
import Derived.Test.YtdeckbdaencjnaaDoorChecked
import GoSem.PinnedTables
import GoSem.Claim
import GoSem.ClaimJoined
import GoSem.ClaimMapViews
import Derived.JoinedTies
import Derived.KernelRfl
namespace Go.Proofs.YtdeckbdaencjnaaDoor
/- THE CELL 'sum', in the pinned program and in every row, IS THE sha256 OF THE DUMP (.gsa) THAT YtdeckbdaencjnaaDoorProg.lean LOADS. Nothing in Lean hashes anything: it is a label: what it is worth is what the hold of that sum in a sandbox is worth. -/
noncomputable def Tryd.pinned : Pinned := { name := "ytdeckbdaencjnaadoor", sum := "5dbbaefa1bec0241cfc0761b4173e5beda42d1886037f4414d56d072f001e7e2", checked := Tryd.checked }
namespace Rows
def none {H : Type} : Left H := { results := [], args := [] }

/- WHAT THE LISTED PACKAGE-LEVEL VARIABLES READ AS WHEN THE CALL BEGINS. Each datum BY PROGRAM (the guide's laid-datum.mjs) off the statement by which the dump's own 'gosem.cut.vars' lays the variable. In a bare row this is a premise. The card (YtdeckbdaencjnaaDoorCards.lean) ties it to the program's text. -/
def laid_unicode_utf8_acceptRanges {H : Type} : DataW H := .agg [.agg [.lit (.int .u8 128), .lit (.int .u8 191)], .agg [.lit (.int .u8 160), .lit (.int .u8 191)], .agg [.lit (.int .u8 128), .lit (.int .u8 159)], .agg [.lit (.int .u8 144), .lit (.int .u8 191)], .agg [.lit (.int .u8 128), .lit (.int .u8 143)], .agg [.lit (.int .u8 0), .lit (.int .u8 0)], .agg [.lit (.int .u8 0), .lit (.int .u8 0)], .agg [.lit (.int .u8 0), .lit (.int .u8 0)], .agg [.lit (.int .u8 0), .lit (.int .u8 0)], .agg [.lit (.int .u8 0), .lit (.int .u8 0)], .agg [.lit (.int .u8 0), .lit (.int .u8 0)], .agg [.lit (.int .u8 0), .lit (.int .u8 0)], .agg [.lit (.int .u8 0), .lit (.int .u8 0)], .agg [.lit (.int .u8 0), .lit (.int .u8 0)], .agg [.lit (.int .u8 0), .lit (.int .u8 0)], .agg [.lit (.int .u8 0), .lit (.int .u8 0)]]
/-- One of Go's own tables, pinned by name: the form's constant. -/
def laid_unicode_utf8_first : DataW Unit := Go.Pinned.utf8First

/-- 'heronrylaw08.SuperBack': WHATEVER THE INPUT: true; the input reads as it did. -/
def superBackSpec : ChangeSpec := { name := "superBack", fn := fun _ => fun
  | [d1, d2, d3] => { results := [.lit (.bool true)], args := [d1, d2, d3] }
  | _ => none }
def superBackRow : OpenClaim := { program := "ytdeckbdaencjnaadoor", sum := "5dbbaefa1bec0241cfc0761b4173e5beda42d1886037f4414d56d072f001e7e2", func := "heronry/heronrylaw08.SuperBack", spec := "superBack", named := ["unicode/utf8.first", "unicode/utf8.acceptRanges"], apart := false, laid := [("unicode/utf8.acceptRanges", laid_unicode_utf8_acceptRanges), ("unicode/utf8.first", laid_unicode_utf8_first)] }
def SuperBackSaid : Prop := superBackRow.holds Tryd.pinned (OpenSpec.ofChange superBackSpec)

/-- ITS FALSE NEIGHBOUR: 'it returns false'. Refute it at one input. -/
def superBackWrong : ChangeSpec := { name := "superBack", fn := fun _ => fun
  | [d1, d2, d3] => { results := [.lit (.bool false)], args := [d1, d2, d3] }
  | _ => none }
def SuperBackWrongFalsely : Prop := superBackRow.holds Tryd.pinned (OpenSpec.ofChange superBackWrong)

/-- 'heronrylaw08.SuperWorse': WHATEVER THE INPUT: true; the input reads as it did. -/
def superWorseSpec : ChangeSpec := { name := "superWorse", fn := fun _ => fun
  | [d1, d2] => { results := [.lit (.bool true)], args := [d1, d2] }
  | _ => none }
def superWorseRow : OpenClaim := { program := "ytdeckbdaencjnaadoor", sum := "5dbbaefa1bec0241cfc0761b4173e5beda42d1886037f4414d56d072f001e7e2", func := "heronry/heronrylaw08.SuperWorse", spec := "superWorse", named := ["unicode/utf8.first", "unicode/utf8.acceptRanges"], apart := false, laid := [("unicode/utf8.acceptRanges", laid_unicode_utf8_acceptRanges), ("unicode/utf8.first", laid_unicode_utf8_first)] }
def SuperWorseSaid : Prop := superWorseRow.holds Tryd.pinned (OpenSpec.ofChange superWorseSpec)

/-- ITS FALSE NEIGHBOUR: 'it returns false'. Refute it at one input. -/
def superWorseWrong : ChangeSpec := { name := "superWorse", fn := fun _ => fun
  | [d1, d2] => { results := [.lit (.bool false)], args := [d1, d2] }
  | _ => none }
def SuperWorseWrongFalsely : Prop := superWorseRow.holds Tryd.pinned (OpenSpec.ofChange superWorseWrong)

/-- 'heronrylaw08.SuperTurns': WHATEVER THE INPUT: true; the input reads as it did. -/
def superTurnsSpec : ChangeSpec := { name := "superTurns", fn := fun _ => fun
  | [d1, d2] => { results := [.lit (.bool true)], args := [d1, d2] }
  | _ => none }
def superTurnsRow : OpenClaim := { program := "ytdeckbdaencjnaadoor", sum := "5dbbaefa1bec0241cfc0761b4173e5beda42d1886037f4414d56d072f001e7e2", func := "heronry/heronrylaw08.SuperTurns", spec := "superTurns", named := ["unicode/utf8.first", "unicode/utf8.acceptRanges"], apart := false, laid := [("unicode/utf8.acceptRanges", laid_unicode_utf8_acceptRanges), ("unicode/utf8.first", laid_unicode_utf8_first)] }
def SuperTurnsSaid : Prop := superTurnsRow.holds Tryd.pinned (OpenSpec.ofChange superTurnsSpec)

/-- ITS FALSE NEIGHBOUR: 'it returns false'. Refute it at one input. -/
def superTurnsWrong : ChangeSpec := { name := "superTurns", fn := fun _ => fun
  | [d1, d2] => { results := [.lit (.bool false)], args := [d1, d2] }
  | _ => none }
def SuperTurnsWrongFalsely : Prop := superTurnsRow.holds Tryd.pinned (OpenSpec.ofChange superTurnsWrong)

/-- 'heronrylaw08.SuperIs': WHATEVER THE INPUT: true; the input reads as it did. -/
def superIsSpec : ChangeSpec := { name := "superIs", fn := fun _ => fun
  | [d1, d2] => { results := [.lit (.bool true)], args := [d1, d2] }
  | _ => none }
def superIsRow : OpenClaim := { program := "ytdeckbdaencjnaadoor", sum := "5dbbaefa1bec0241cfc0761b4173e5beda42d1886037f4414d56d072f001e7e2", func := "heronry/heronrylaw08.SuperIs", spec := "superIs", named := ["unicode/utf8.first", "unicode/utf8.acceptRanges"], apart := false, laid := [("unicode/utf8.acceptRanges", laid_unicode_utf8_acceptRanges), ("unicode/utf8.first", laid_unicode_utf8_first)] }
def SuperIsSaid : Prop := superIsRow.holds Tryd.pinned (OpenSpec.ofChange superIsSpec)

/-- ITS FALSE NEIGHBOUR: 'it returns false'. Refute it at one input. -/
def superIsWrong : ChangeSpec := { name := "superIs", fn := fun _ => fun
  | [d1, d2] => { results := [.lit (.bool false)], args := [d1, d2] }
  | _ => none }
def SuperIsWrongFalsely : Prop := superIsRow.holds Tryd.pinned (OpenSpec.ofChange superIsWrong)

/-- 'heronrylaw08.SuperLays': WHATEVER THE INPUT: true; the input reads as it did. -/
def superLaysSpec : ChangeSpec := { name := "superLays", fn := fun _ => fun
  | [d1, d2, d3] => { results := [.lit (.bool true)], args := [d1, d2, d3] }
  | _ => none }
def superLaysRow : OpenClaim := { program := "ytdeckbdaencjnaadoor", sum := "5dbbaefa1bec0241cfc0761b4173e5beda42d1886037f4414d56d072f001e7e2", func := "heronry/heronrylaw08.SuperLays", spec := "superLays", named := ["unicode/utf8.first", "unicode/utf8.acceptRanges"], apart := false, laid := [("unicode/utf8.acceptRanges", laid_unicode_utf8_acceptRanges), ("unicode/utf8.first", laid_unicode_utf8_first)] }
def SuperLaysSaid : Prop := superLaysRow.holds Tryd.pinned (OpenSpec.ofChange superLaysSpec)

/-- ITS FALSE NEIGHBOUR: 'it returns false'. Refute it at one input. -/
def superLaysWrong : ChangeSpec := { name := "superLays", fn := fun _ => fun
  | [d1, d2, d3] => { results := [.lit (.bool false)], args := [d1, d2, d3] }
  | _ => none }
def SuperLaysWrongFalsely : Prop := superLaysRow.holds Tryd.pinned (OpenSpec.ofChange superLaysWrong)

/-- 'heronrylaw08.SuperPlays': WHATEVER THE INPUT: true; the input reads as it did. -/
def superPlaysSpec : ChangeSpec := { name := "superPlays", fn := fun _ => fun
  | [d1, d2] => { results := [.lit (.bool true)], args := [d1, d2] }
  | _ => none }
def superPlaysRow : OpenClaim := { program := "ytdeckbdaencjnaadoor", sum := "5dbbaefa1bec0241cfc0761b4173e5beda42d1886037f4414d56d072f001e7e2", func := "heronry/heronrylaw08.SuperPlays", spec := "superPlays", recurses := true, named := ["unicode/utf8.first", "unicode/utf8.acceptRanges"], apart := false, laid := [("unicode/utf8.acceptRanges", laid_unicode_utf8_acceptRanges), ("unicode/utf8.first", laid_unicode_utf8_first)] }
def SuperPlaysSaid : Prop := superPlaysRow.holds Tryd.pinned (OpenSpec.ofChange superPlaysSpec)

/-- ITS FALSE NEIGHBOUR: 'it returns false'. Refute it at one input. -/
def superPlaysWrong : ChangeSpec := { name := "superPlays", fn := fun _ => fun
  | [d1, d2] => { results := [.lit (.bool false)], args := [d1, d2] }
  | _ => none }
def SuperPlaysWrongFalsely : Prop := superPlaysRow.holds Tryd.pinned (OpenSpec.ofChange superPlaysWrong)

/-- 'heronrylaw08.SuperKeeps': WHATEVER THE INPUT: true; the input reads as it did. -/
def superKeepsSpec : ChangeSpec := { name := "superKeeps", fn := fun _ => fun
  | [d1, d2, d3] => { results := [.lit (.bool true)], args := [d1, d2, d3] }
  | _ => none }
def superKeepsRow : OpenClaim := { program := "ytdeckbdaencjnaadoor", sum := "5dbbaefa1bec0241cfc0761b4173e5beda42d1886037f4414d56d072f001e7e2", func := "heronry/heronrylaw08.SuperKeeps", spec := "superKeeps", recurses := true, named := ["unicode/utf8.first", "unicode/utf8.acceptRanges"], apart := false, laid := [("unicode/utf8.acceptRanges", laid_unicode_utf8_acceptRanges), ("unicode/utf8.first", laid_unicode_utf8_first)] }
def SuperKeepsSaid : Prop := superKeepsRow.holds Tryd.pinned (OpenSpec.ofChange superKeepsSpec)

/-- ITS FALSE NEIGHBOUR: 'it returns false'. Refute it at one input. -/
def superKeepsWrong : ChangeSpec := { name := "superKeeps", fn := fun _ => fun
  | [d1, d2, d3] => { results := [.lit (.bool false)], args := [d1, d2, d3] }
  | _ => none }
def SuperKeepsWrongFalsely : Prop := superKeepsRow.holds Tryd.pinned (OpenSpec.ofChange superKeepsWrong)

/-- 'heronrylaw07.WalEpochs': WHATEVER THE INPUT: true; the input reads as it did. -/
def walEpochsSpec : ChangeSpec := { name := "walEpochs", fn := fun _ => fun
  | [d1, d2, d3, d4] => { results := [.lit (.bool true)], args := [d1, d2, d3, d4] }
  | _ => none }
def walEpochsRow : OpenClaim := { program := "ytdeckbdaencjnaadoor", sum := "5dbbaefa1bec0241cfc0761b4173e5beda42d1886037f4414d56d072f001e7e2", func := "heronry/heronrylaw07.WalEpochs", spec := "walEpochs", recurses := true, named := ["unicode/utf8.first", "unicode/utf8.acceptRanges"], apart := false, laid := [("unicode/utf8.acceptRanges", laid_unicode_utf8_acceptRanges), ("unicode/utf8.first", laid_unicode_utf8_first)] }
def WalEpochsSaid : Prop := walEpochsRow.holds Tryd.pinned (OpenSpec.ofChange walEpochsSpec)

/-- ITS FALSE NEIGHBOUR: 'it returns false'. Refute it at one input. -/
def walEpochsWrong : ChangeSpec := { name := "walEpochs", fn := fun _ => fun
  | [d1, d2, d3, d4] => { results := [.lit (.bool false)], args := [d1, d2, d3, d4] }
  | _ => none }
def WalEpochsWrongFalsely : Prop := walEpochsRow.holds Tryd.pinned (OpenSpec.ofChange walEpochsWrong)

/-- 'heronrylaw07.WalKeeps': WHATEVER THE INPUT: true; the input reads as it did. -/
def walKeepsSpec : ChangeSpec := { name := "walKeeps", fn := fun _ => fun
  | [d1, d2, d3] => { results := [.lit (.bool true)], args := [d1, d2, d3] }
  | _ => none }
def walKeepsRow : OpenClaim := { program := "ytdeckbdaencjnaadoor", sum := "5dbbaefa1bec0241cfc0761b4173e5beda42d1886037f4414d56d072f001e7e2", func := "heronry/heronrylaw07.WalKeeps", spec := "walKeeps", recurses := true, named := ["unicode/utf8.first", "unicode/utf8.acceptRanges"], apart := false, laid := [("unicode/utf8.acceptRanges", laid_unicode_utf8_acceptRanges), ("unicode/utf8.first", laid_unicode_utf8_first)] }
def WalKeepsSaid : Prop := walKeepsRow.holds Tryd.pinned (OpenSpec.ofChange walKeepsSpec)

/-- ITS FALSE NEIGHBOUR: 'it returns false'. Refute it at one input. -/
def walKeepsWrong : ChangeSpec := { name := "walKeeps", fn := fun _ => fun
  | [d1, d2, d3] => { results := [.lit (.bool false)], args := [d1, d2, d3] }
  | _ => none }
def WalKeepsWrongFalsely : Prop := walKeepsRow.holds Tryd.pinned (OpenSpec.ofChange walKeepsWrong)

/-- 'heronrylaw07.WalAgain': WHATEVER THE INPUT: true; the input reads as it did. -/
def walAgainSpec : ChangeSpec := { name := "walAgain", fn := fun _ => fun
  | [d1, d2] => { results := [.lit (.bool true)], args := [d1, d2] }
  | _ => none }
def walAgainRow : OpenClaim := { program := "ytdeckbdaencjnaadoor", sum := "5dbbaefa1bec0241cfc0761b4173e5beda42d1886037f4414d56d072f001e7e2", func := "heronry/heronrylaw07.WalAgain", spec := "walAgain", recurses := true, named := ["unicode/utf8.first", "unicode/utf8.acceptRanges"], apart := false, laid := [("unicode/utf8.acceptRanges", laid_unicode_utf8_acceptRanges), ("unicode/utf8.first", laid_unicode_utf8_first)] }
def WalAgainSaid : Prop := walAgainRow.holds Tryd.pinned (OpenSpec.ofChange walAgainSpec)

/-- ITS FALSE NEIGHBOUR: 'it returns false'. Refute it at one input. -/
def walAgainWrong : ChangeSpec := { name := "walAgain", fn := fun _ => fun
  | [d1, d2] => { results := [.lit (.bool false)], args := [d1, d2] }
  | _ => none }
def WalAgainWrongFalsely : Prop := walAgainRow.holds Tryd.pinned (OpenSpec.ofChange walAgainWrong)

/-- 'heronrylaw07.WalRefuses': WHATEVER THE INPUT: true; the input reads as it did. -/
def walRefusesSpec : ChangeSpec := { name := "walRefuses", fn := fun _ => fun
  | [d1, d2, d3] => { results := [.lit (.bool true)], args := [d1, d2, d3] }
  | _ => none }
def walRefusesRow : OpenClaim := { program := "ytdeckbdaencjnaadoor", sum := "5dbbaefa1bec0241cfc0761b4173e5beda42d1886037f4414d56d072f001e7e2", func := "heronry/heronrylaw07.WalRefuses", spec := "walRefuses", recurses := true, named := ["unicode/utf8.first", "unicode/utf8.acceptRanges"], apart := false, laid := [("unicode/utf8.acceptRanges", laid_unicode_utf8_acceptRanges), ("unicode/utf8.first", laid_unicode_utf8_first)] }
def WalRefusesSaid : Prop := walRefusesRow.holds Tryd.pinned (OpenSpec.ofChange walRefusesSpec)

/-- ITS FALSE NEIGHBOUR: 'it returns false'. Refute it at one input. -/
def walRefusesWrong : ChangeSpec := { name := "walRefuses", fn := fun _ => fun
  | [d1, d2, d3] => { results := [.lit (.bool false)], args := [d1, d2, d3] }
  | _ => none }
def WalRefusesWrongFalsely : Prop := walRefusesRow.holds Tryd.pinned (OpenSpec.ofChange walRefusesWrong)

/-- 'heronrylaw07.WalRound': WHATEVER THE INPUT: true; the input reads as it did. -/
def walRoundSpec : ChangeSpec := { name := "walRound", fn := fun _ => fun
  | [d1, d2] => { results := [.lit (.bool true)], args := [d1, d2] }
  | _ => none }
def walRoundRow : OpenClaim := { program := "ytdeckbdaencjnaadoor", sum := "5dbbaefa1bec0241cfc0761b4173e5beda42d1886037f4414d56d072f001e7e2", func := "heronry/heronrylaw07.WalRound", spec := "walRound", recurses := true, named := ["unicode/utf8.first", "unicode/utf8.acceptRanges"], apart := false, laid := [("unicode/utf8.acceptRanges", laid_unicode_utf8_acceptRanges), ("unicode/utf8.first", laid_unicode_utf8_first)] }
def WalRoundSaid : Prop := walRoundRow.holds Tryd.pinned (OpenSpec.ofChange walRoundSpec)

/-- ITS FALSE NEIGHBOUR: 'it returns false'. Refute it at one input. -/
def walRoundWrong : ChangeSpec := { name := "walRound", fn := fun _ => fun
  | [d1, d2] => { results := [.lit (.bool false)], args := [d1, d2] }
  | _ => none }
def WalRoundWrongFalsely : Prop := walRoundRow.holds Tryd.pinned (OpenSpec.ofChange walRoundWrong)

/- THE SECOND FORM. 'bulk': how many values and letters a reading holds, each counted each time it is reached (what is shared counts as often as it is met; a slice's spare places count too). A statement '..UptoSaid' is the law's where the arguments, and the package variables that the reading takes, are together of bulk at most 1048576: NARROWER than '..Said'. Prove '..Said' where nothing that the law and all that it calls make is longer than what came in: it says more and counts as full. Else prove '..UptoSaid'. A law counts once. -/
mutual
def uptoBulk {H : Type} : DataW H → Nat
  | .lit (.string bytes) => bytes.length + 1
  | .lit _ => 1
  | .nil => 1
  | .ptr d => uptoBulk d + 1
  | .slice elems spare => uptoBulkAll elems + uptoBulkAll spare + 1
  | .agg parts => uptoBulkAll parts + 1
  | .iface _ d => uptoBulk d + 1
  | .map entries => uptoBulkEntries entries + 1
  | .held _ => 1
def uptoBulkAll {H : Type} : List (DataW H) → Nat
  | [] => 0
  | d :: r => uptoBulk d + uptoBulkAll r
def uptoBulkEntries {H : Type} : List (Lit × DataW H) → Nat
  | [] => 0
  | x :: r => uptoBulkEntry x + uptoBulkEntries r
def uptoBulkEntry {H : Type} : Lit × DataW H → Nat
  | (.string bytes, d) => bytes.length + uptoBulk d + 1
  | (_, d) => uptoBulk d + 1
 end
def uptoSmall : (H : Type) → List (DataW H) → Bool := fun _ ds => decide (uptoBulkAll ds ≤ 1048576)
def OpenSpec.upto (s : _root_.Go.ChangeSpec) : _root_.Go.OpenSpec := { _root_.Go.OpenSpec.ofChange s with cond := some uptoSmall }

/-- 'heronrylaw08.SuperBack', WHERE WHAT IT READS IS OF BULK AT MOST 1048576: true; the input reads as it did. -/
def superBackUptoRow : OpenClaim := { program := "ytdeckbdaencjnaadoor", sum := "5dbbaefa1bec0241cfc0761b4173e5beda42d1886037f4414d56d072f001e7e2", func := "heronry/heronrylaw08.SuperBack", spec := "superBack", named := ["unicode/utf8.first", "unicode/utf8.acceptRanges"], apart := false, laid := [("unicode/utf8.acceptRanges", laid_unicode_utf8_acceptRanges), ("unicode/utf8.first", laid_unicode_utf8_first)], narrowed := true }
def SuperBackUptoSaid : Prop := superBackUptoRow.holds Tryd.pinned (OpenSpec.upto superBackSpec)

/-- 'heronrylaw08.SuperWorse', WHERE WHAT IT READS IS OF BULK AT MOST 1048576: true; the input reads as it did. -/
def superWorseUptoRow : OpenClaim := { program := "ytdeckbdaencjnaadoor", sum := "5dbbaefa1bec0241cfc0761b4173e5beda42d1886037f4414d56d072f001e7e2", func := "heronry/heronrylaw08.SuperWorse", spec := "superWorse", named := ["unicode/utf8.first", "unicode/utf8.acceptRanges"], apart := false, laid := [("unicode/utf8.acceptRanges", laid_unicode_utf8_acceptRanges), ("unicode/utf8.first", laid_unicode_utf8_first)], narrowed := true }
def SuperWorseUptoSaid : Prop := superWorseUptoRow.holds Tryd.pinned (OpenSpec.upto superWorseSpec)

/-- 'heronrylaw08.SuperTurns', WHERE WHAT IT READS IS OF BULK AT MOST 1048576: true; the input reads as it did. -/
def superTurnsUptoRow : OpenClaim := { program := "ytdeckbdaencjnaadoor", sum := "5dbbaefa1bec0241cfc0761b4173e5beda42d1886037f4414d56d072f001e7e2", func := "heronry/heronrylaw08.SuperTurns", spec := "superTurns", named := ["unicode/utf8.first", "unicode/utf8.acceptRanges"], apart := false, laid := [("unicode/utf8.acceptRanges", laid_unicode_utf8_acceptRanges), ("unicode/utf8.first", laid_unicode_utf8_first)], narrowed := true }
def SuperTurnsUptoSaid : Prop := superTurnsUptoRow.holds Tryd.pinned (OpenSpec.upto superTurnsSpec)

/-- 'heronrylaw08.SuperIs', WHERE WHAT IT READS IS OF BULK AT MOST 1048576: true; the input reads as it did. -/
def superIsUptoRow : OpenClaim := { program := "ytdeckbdaencjnaadoor", sum := "5dbbaefa1bec0241cfc0761b4173e5beda42d1886037f4414d56d072f001e7e2", func := "heronry/heronrylaw08.SuperIs", spec := "superIs", named := ["unicode/utf8.first", "unicode/utf8.acceptRanges"], apart := false, laid := [("unicode/utf8.acceptRanges", laid_unicode_utf8_acceptRanges), ("unicode/utf8.first", laid_unicode_utf8_first)], narrowed := true }
def SuperIsUptoSaid : Prop := superIsUptoRow.holds Tryd.pinned (OpenSpec.upto superIsSpec)

/-- 'heronrylaw08.SuperLays', WHERE WHAT IT READS IS OF BULK AT MOST 1048576: true; the input reads as it did. -/
def superLaysUptoRow : OpenClaim := { program := "ytdeckbdaencjnaadoor", sum := "5dbbaefa1bec0241cfc0761b4173e5beda42d1886037f4414d56d072f001e7e2", func := "heronry/heronrylaw08.SuperLays", spec := "superLays", named := ["unicode/utf8.first", "unicode/utf8.acceptRanges"], apart := false, laid := [("unicode/utf8.acceptRanges", laid_unicode_utf8_acceptRanges), ("unicode/utf8.first", laid_unicode_utf8_first)], narrowed := true }
def SuperLaysUptoSaid : Prop := superLaysUptoRow.holds Tryd.pinned (OpenSpec.upto superLaysSpec)

/-- 'heronrylaw08.SuperPlays', WHERE WHAT IT READS IS OF BULK AT MOST 1048576: true; the input reads as it did. -/
def superPlaysUptoRow : OpenClaim := { program := "ytdeckbdaencjnaadoor", sum := "5dbbaefa1bec0241cfc0761b4173e5beda42d1886037f4414d56d072f001e7e2", func := "heronry/heronrylaw08.SuperPlays", spec := "superPlays", recurses := true, named := ["unicode/utf8.first", "unicode/utf8.acceptRanges"], apart := false, laid := [("unicode/utf8.acceptRanges", laid_unicode_utf8_acceptRanges), ("unicode/utf8.first", laid_unicode_utf8_first)], narrowed := true }
def SuperPlaysUptoSaid : Prop := superPlaysUptoRow.holds Tryd.pinned (OpenSpec.upto superPlaysSpec)

/-- 'heronrylaw08.SuperKeeps', WHERE WHAT IT READS IS OF BULK AT MOST 1048576: true; the input reads as it did. -/
def superKeepsUptoRow : OpenClaim := { program := "ytdeckbdaencjnaadoor", sum := "5dbbaefa1bec0241cfc0761b4173e5beda42d1886037f4414d56d072f001e7e2", func := "heronry/heronrylaw08.SuperKeeps", spec := "superKeeps", recurses := true, named := ["unicode/utf8.first", "unicode/utf8.acceptRanges"], apart := false, laid := [("unicode/utf8.acceptRanges", laid_unicode_utf8_acceptRanges), ("unicode/utf8.first", laid_unicode_utf8_first)], narrowed := true }
def SuperKeepsUptoSaid : Prop := superKeepsUptoRow.holds Tryd.pinned (OpenSpec.upto superKeepsSpec)

/-- 'heronrylaw07.WalEpochs', WHERE WHAT IT READS IS OF BULK AT MOST 1048576: true; the input reads as it did. -/
def walEpochsUptoRow : OpenClaim := { program := "ytdeckbdaencjnaadoor", sum := "5dbbaefa1bec0241cfc0761b4173e5beda42d1886037f4414d56d072f001e7e2", func := "heronry/heronrylaw07.WalEpochs", spec := "walEpochs", recurses := true, named := ["unicode/utf8.first", "unicode/utf8.acceptRanges"], apart := false, laid := [("unicode/utf8.acceptRanges", laid_unicode_utf8_acceptRanges), ("unicode/utf8.first", laid_unicode_utf8_first)], narrowed := true }
def WalEpochsUptoSaid : Prop := walEpochsUptoRow.holds Tryd.pinned (OpenSpec.upto walEpochsSpec)

/-- 'heronrylaw07.WalKeeps', WHERE WHAT IT READS IS OF BULK AT MOST 1048576: true; the input reads as it did. -/
def walKeepsUptoRow : OpenClaim := { program := "ytdeckbdaencjnaadoor", sum := "5dbbaefa1bec0241cfc0761b4173e5beda42d1886037f4414d56d072f001e7e2", func := "heronry/heronrylaw07.WalKeeps", spec := "walKeeps", recurses := true, named := ["unicode/utf8.first", "unicode/utf8.acceptRanges"], apart := false, laid := [("unicode/utf8.acceptRanges", laid_unicode_utf8_acceptRanges), ("unicode/utf8.first", laid_unicode_utf8_first)], narrowed := true }
def WalKeepsUptoSaid : Prop := walKeepsUptoRow.holds Tryd.pinned (OpenSpec.upto walKeepsSpec)

/-- 'heronrylaw07.WalAgain', WHERE WHAT IT READS IS OF BULK AT MOST 1048576: true; the input reads as it did. -/
def walAgainUptoRow : OpenClaim := { program := "ytdeckbdaencjnaadoor", sum := "5dbbaefa1bec0241cfc0761b4173e5beda42d1886037f4414d56d072f001e7e2", func := "heronry/heronrylaw07.WalAgain", spec := "walAgain", recurses := true, named := ["unicode/utf8.first", "unicode/utf8.acceptRanges"], apart := false, laid := [("unicode/utf8.acceptRanges", laid_unicode_utf8_acceptRanges), ("unicode/utf8.first", laid_unicode_utf8_first)], narrowed := true }
def WalAgainUptoSaid : Prop := walAgainUptoRow.holds Tryd.pinned (OpenSpec.upto walAgainSpec)

/-- 'heronrylaw07.WalRefuses', WHERE WHAT IT READS IS OF BULK AT MOST 1048576: true; the input reads as it did. -/
def walRefusesUptoRow : OpenClaim := { program := "ytdeckbdaencjnaadoor", sum := "5dbbaefa1bec0241cfc0761b4173e5beda42d1886037f4414d56d072f001e7e2", func := "heronry/heronrylaw07.WalRefuses", spec := "walRefuses", recurses := true, named := ["unicode/utf8.first", "unicode/utf8.acceptRanges"], apart := false, laid := [("unicode/utf8.acceptRanges", laid_unicode_utf8_acceptRanges), ("unicode/utf8.first", laid_unicode_utf8_first)], narrowed := true }
def WalRefusesUptoSaid : Prop := walRefusesUptoRow.holds Tryd.pinned (OpenSpec.upto walRefusesSpec)

/-- 'heronrylaw07.WalRound', WHERE WHAT IT READS IS OF BULK AT MOST 1048576: true; the input reads as it did. -/
def walRoundUptoRow : OpenClaim := { program := "ytdeckbdaencjnaadoor", sum := "5dbbaefa1bec0241cfc0761b4173e5beda42d1886037f4414d56d072f001e7e2", func := "heronry/heronrylaw07.WalRound", spec := "walRound", recurses := true, named := ["unicode/utf8.first", "unicode/utf8.acceptRanges"], apart := false, laid := [("unicode/utf8.acceptRanges", laid_unicode_utf8_acceptRanges), ("unicode/utf8.first", laid_unicode_utf8_first)], narrowed := true }
def WalRoundUptoSaid : Prop := walRoundUptoRow.holds Tryd.pinned (OpenSpec.upto walRoundSpec)

end Rows
end Go.Proofs.YtdeckbdaencjnaaDoor
