/-
  DERIVED. GIVEN WITH THE SEED: THE CARDS: each row of YtdeckbdaencjnaaDoorRows.lean that lists a variable, with what it lists TIED to the program's text (the seventh form; the later family's looks); each row that meets fmt, with fmt's text TOLD by the authors' own Lean function (tested against real Go, not proved from fmt's source: count such statements apart). THE CARD IS WHAT COUNTS. Prove the row's statement (the work); the ties are given (YtdeckbdaencjnaaDoorTie.lean); close each card by the builder's one call (the guide's Derived/Test/ToyasCard.lean, 'card_holds'). Laid BY PROGRAM, IN A SANDBOX (cutbox-door.mjs). By AI agents, Wed Nov 11 2026. No macro, syntax, notation, axiom, sorry.
-/
import Derived.Test.YtdeckbdaencjnaaDoorRows
import GoSem.ClaimSeven
namespace Go.Proofs.YtdeckbdaencjnaaDoor
namespace Rows

/-- THE TIED CARD OF 'heronrylaw08.SuperBack'. -/
def superBackCard : Claim7 := { stood := { row := superBackRow, standIns := [], harness := (true, "48321c360c143cb263c4a29b04d004ec5f97bc40148f189771ae29a57ac6dee3"), looks := false }, kinds := [], alts := [], laidByText := true, laidKinds := [.data, .pinned], laidTests := true, laidLooks := .later }
def SuperBackCardSaid : Prop := Claim7.holds Tryd.pinned (.plain (OpenSpec.ofChange superBackSpec)) superBackCard

/-- THE TIED CARD OF 'heronrylaw08.SuperWorse'. -/
def superWorseCard : Claim7 := { stood := { row := superWorseRow, standIns := [], harness := (true, "48321c360c143cb263c4a29b04d004ec5f97bc40148f189771ae29a57ac6dee3"), looks := false }, kinds := [], alts := [], laidByText := true, laidKinds := [.data, .pinned], laidTests := true, laidLooks := .later }
def SuperWorseCardSaid : Prop := Claim7.holds Tryd.pinned (.plain (OpenSpec.ofChange superWorseSpec)) superWorseCard

/-- THE TIED CARD OF 'heronrylaw08.SuperTurns'. -/
def superTurnsCard : Claim7 := { stood := { row := superTurnsRow, standIns := [], harness := (true, "48321c360c143cb263c4a29b04d004ec5f97bc40148f189771ae29a57ac6dee3"), looks := false }, kinds := [], alts := [], laidByText := true, laidKinds := [.data, .pinned], laidTests := true, laidLooks := .later }
def SuperTurnsCardSaid : Prop := Claim7.holds Tryd.pinned (.plain (OpenSpec.ofChange superTurnsSpec)) superTurnsCard

/-- THE TIED CARD OF 'heronrylaw08.SuperIs'. -/
def superIsCard : Claim7 := { stood := { row := superIsRow, standIns := [], harness := (true, "48321c360c143cb263c4a29b04d004ec5f97bc40148f189771ae29a57ac6dee3"), looks := false }, kinds := [], alts := [], laidByText := true, laidKinds := [.data, .pinned], laidTests := true, laidLooks := .later }
def SuperIsCardSaid : Prop := Claim7.holds Tryd.pinned (.plain (OpenSpec.ofChange superIsSpec)) superIsCard

/-- THE TIED CARD OF 'heronrylaw08.SuperLays'. -/
def superLaysCard : Claim7 := { stood := { row := superLaysRow, standIns := [], harness := (true, "48321c360c143cb263c4a29b04d004ec5f97bc40148f189771ae29a57ac6dee3"), looks := false }, kinds := [], alts := [], laidByText := true, laidKinds := [.data, .pinned], laidTests := true, laidLooks := .later }
def SuperLaysCardSaid : Prop := Claim7.holds Tryd.pinned (.plain (OpenSpec.ofChange superLaysSpec)) superLaysCard

/-- THE TIED CARD OF 'heronrylaw08.SuperPlays'. -/
def superPlaysCard : Claim7 := { stood := { row := superPlaysRow, standIns := [], harness := (true, "48321c360c143cb263c4a29b04d004ec5f97bc40148f189771ae29a57ac6dee3"), looks := false }, kinds := [], alts := [], laidByText := true, laidKinds := [.data, .pinned], laidTests := true, laidLooks := .later }
def SuperPlaysCardSaid : Prop := Claim7.holds Tryd.pinned (.plain (OpenSpec.ofChange superPlaysSpec)) superPlaysCard

/-- THE TIED CARD OF 'heronrylaw08.SuperKeeps'. -/
def superKeepsCard : Claim7 := { stood := { row := superKeepsRow, standIns := [], harness := (true, "48321c360c143cb263c4a29b04d004ec5f97bc40148f189771ae29a57ac6dee3"), looks := false }, kinds := [], alts := [], laidByText := true, laidKinds := [.data, .pinned], laidTests := true, laidLooks := .later }
def SuperKeepsCardSaid : Prop := Claim7.holds Tryd.pinned (.plain (OpenSpec.ofChange superKeepsSpec)) superKeepsCard

/-- THE TIED CARD OF 'heronrylaw07.WalEpochs'. -/
def walEpochsCard : Claim7 := { stood := { row := walEpochsRow, standIns := [], harness := (true, "48321c360c143cb263c4a29b04d004ec5f97bc40148f189771ae29a57ac6dee3"), looks := false }, kinds := [], alts := [], laidByText := true, laidKinds := [.data, .pinned], laidTests := true, laidLooks := .later }
def WalEpochsCardSaid : Prop := Claim7.holds Tryd.pinned (.plain (OpenSpec.ofChange walEpochsSpec)) walEpochsCard

/-- THE TIED CARD OF 'heronrylaw07.WalKeeps'. -/
def walKeepsCard : Claim7 := { stood := { row := walKeepsRow, standIns := [], harness := (true, "48321c360c143cb263c4a29b04d004ec5f97bc40148f189771ae29a57ac6dee3"), looks := false }, kinds := [], alts := [], laidByText := true, laidKinds := [.data, .pinned], laidTests := true, laidLooks := .later }
def WalKeepsCardSaid : Prop := Claim7.holds Tryd.pinned (.plain (OpenSpec.ofChange walKeepsSpec)) walKeepsCard

/-- THE TIED CARD OF 'heronrylaw07.WalAgain'. -/
def walAgainCard : Claim7 := { stood := { row := walAgainRow, standIns := [], harness := (true, "48321c360c143cb263c4a29b04d004ec5f97bc40148f189771ae29a57ac6dee3"), looks := false }, kinds := [], alts := [], laidByText := true, laidKinds := [.data, .pinned], laidTests := true, laidLooks := .later }
def WalAgainCardSaid : Prop := Claim7.holds Tryd.pinned (.plain (OpenSpec.ofChange walAgainSpec)) walAgainCard

/-- THE TIED CARD OF 'heronrylaw07.WalRefuses'. -/
def walRefusesCard : Claim7 := { stood := { row := walRefusesRow, standIns := [], harness := (true, "48321c360c143cb263c4a29b04d004ec5f97bc40148f189771ae29a57ac6dee3"), looks := false }, kinds := [], alts := [], laidByText := true, laidKinds := [.data, .pinned], laidTests := true, laidLooks := .later }
def WalRefusesCardSaid : Prop := Claim7.holds Tryd.pinned (.plain (OpenSpec.ofChange walRefusesSpec)) walRefusesCard

/-- THE TIED CARD OF 'heronrylaw07.WalRound'. -/
def walRoundCard : Claim7 := { stood := { row := walRoundRow, standIns := [], harness := (true, "48321c360c143cb263c4a29b04d004ec5f97bc40148f189771ae29a57ac6dee3"), looks := false }, kinds := [], alts := [], laidByText := true, laidKinds := [.data, .pinned], laidTests := true, laidLooks := .later }
def WalRoundCardSaid : Prop := Claim7.holds Tryd.pinned (.plain (OpenSpec.ofChange walRoundSpec)) walRoundCard

/-- THE SECOND FORM's CARD OF 'heronrylaw08.SuperBack'. -/
def superBackUptoCard : Claim7 := { stood := { row := superBackUptoRow, standIns := [], harness := (true, "48321c360c143cb263c4a29b04d004ec5f97bc40148f189771ae29a57ac6dee3"), looks := false }, kinds := [], alts := [], laidByText := true, laidKinds := [.data, .pinned], laidTests := true, laidLooks := .later }
def SuperBackUptoCardSaid : Prop := Claim7.holds Tryd.pinned (.plain (OpenSpec.upto superBackSpec)) superBackUptoCard

/-- THE SECOND FORM's CARD OF 'heronrylaw08.SuperWorse'. -/
def superWorseUptoCard : Claim7 := { stood := { row := superWorseUptoRow, standIns := [], harness := (true, "48321c360c143cb263c4a29b04d004ec5f97bc40148f189771ae29a57ac6dee3"), looks := false }, kinds := [], alts := [], laidByText := true, laidKinds := [.data, .pinned], laidTests := true, laidLooks := .later }
def SuperWorseUptoCardSaid : Prop := Claim7.holds Tryd.pinned (.plain (OpenSpec.upto superWorseSpec)) superWorseUptoCard

/-- THE SECOND FORM's CARD OF 'heronrylaw08.SuperTurns'. -/
def superTurnsUptoCard : Claim7 := { stood := { row := superTurnsUptoRow, standIns := [], harness := (true, "48321c360c143cb263c4a29b04d004ec5f97bc40148f189771ae29a57ac6dee3"), looks := false }, kinds := [], alts := [], laidByText := true, laidKinds := [.data, .pinned], laidTests := true, laidLooks := .later }
def SuperTurnsUptoCardSaid : Prop := Claim7.holds Tryd.pinned (.plain (OpenSpec.upto superTurnsSpec)) superTurnsUptoCard

/-- THE SECOND FORM's CARD OF 'heronrylaw08.SuperIs'. -/
def superIsUptoCard : Claim7 := { stood := { row := superIsUptoRow, standIns := [], harness := (true, "48321c360c143cb263c4a29b04d004ec5f97bc40148f189771ae29a57ac6dee3"), looks := false }, kinds := [], alts := [], laidByText := true, laidKinds := [.data, .pinned], laidTests := true, laidLooks := .later }
def SuperIsUptoCardSaid : Prop := Claim7.holds Tryd.pinned (.plain (OpenSpec.upto superIsSpec)) superIsUptoCard

/-- THE SECOND FORM's CARD OF 'heronrylaw08.SuperLays'. -/
def superLaysUptoCard : Claim7 := { stood := { row := superLaysUptoRow, standIns := [], harness := (true, "48321c360c143cb263c4a29b04d004ec5f97bc40148f189771ae29a57ac6dee3"), looks := false }, kinds := [], alts := [], laidByText := true, laidKinds := [.data, .pinned], laidTests := true, laidLooks := .later }
def SuperLaysUptoCardSaid : Prop := Claim7.holds Tryd.pinned (.plain (OpenSpec.upto superLaysSpec)) superLaysUptoCard

/-- THE SECOND FORM's CARD OF 'heronrylaw08.SuperPlays'. -/
def superPlaysUptoCard : Claim7 := { stood := { row := superPlaysUptoRow, standIns := [], harness := (true, "48321c360c143cb263c4a29b04d004ec5f97bc40148f189771ae29a57ac6dee3"), looks := false }, kinds := [], alts := [], laidByText := true, laidKinds := [.data, .pinned], laidTests := true, laidLooks := .later }
def SuperPlaysUptoCardSaid : Prop := Claim7.holds Tryd.pinned (.plain (OpenSpec.upto superPlaysSpec)) superPlaysUptoCard

/-- THE SECOND FORM's CARD OF 'heronrylaw08.SuperKeeps'. -/
def superKeepsUptoCard : Claim7 := { stood := { row := superKeepsUptoRow, standIns := [], harness := (true, "48321c360c143cb263c4a29b04d004ec5f97bc40148f189771ae29a57ac6dee3"), looks := false }, kinds := [], alts := [], laidByText := true, laidKinds := [.data, .pinned], laidTests := true, laidLooks := .later }
def SuperKeepsUptoCardSaid : Prop := Claim7.holds Tryd.pinned (.plain (OpenSpec.upto superKeepsSpec)) superKeepsUptoCard

/-- THE SECOND FORM's CARD OF 'heronrylaw07.WalEpochs'. -/
def walEpochsUptoCard : Claim7 := { stood := { row := walEpochsUptoRow, standIns := [], harness := (true, "48321c360c143cb263c4a29b04d004ec5f97bc40148f189771ae29a57ac6dee3"), looks := false }, kinds := [], alts := [], laidByText := true, laidKinds := [.data, .pinned], laidTests := true, laidLooks := .later }
def WalEpochsUptoCardSaid : Prop := Claim7.holds Tryd.pinned (.plain (OpenSpec.upto walEpochsSpec)) walEpochsUptoCard

/-- THE SECOND FORM's CARD OF 'heronrylaw07.WalKeeps'. -/
def walKeepsUptoCard : Claim7 := { stood := { row := walKeepsUptoRow, standIns := [], harness := (true, "48321c360c143cb263c4a29b04d004ec5f97bc40148f189771ae29a57ac6dee3"), looks := false }, kinds := [], alts := [], laidByText := true, laidKinds := [.data, .pinned], laidTests := true, laidLooks := .later }
def WalKeepsUptoCardSaid : Prop := Claim7.holds Tryd.pinned (.plain (OpenSpec.upto walKeepsSpec)) walKeepsUptoCard

/-- THE SECOND FORM's CARD OF 'heronrylaw07.WalAgain'. -/
def walAgainUptoCard : Claim7 := { stood := { row := walAgainUptoRow, standIns := [], harness := (true, "48321c360c143cb263c4a29b04d004ec5f97bc40148f189771ae29a57ac6dee3"), looks := false }, kinds := [], alts := [], laidByText := true, laidKinds := [.data, .pinned], laidTests := true, laidLooks := .later }
def WalAgainUptoCardSaid : Prop := Claim7.holds Tryd.pinned (.plain (OpenSpec.upto walAgainSpec)) walAgainUptoCard

/-- THE SECOND FORM's CARD OF 'heronrylaw07.WalRefuses'. -/
def walRefusesUptoCard : Claim7 := { stood := { row := walRefusesUptoRow, standIns := [], harness := (true, "48321c360c143cb263c4a29b04d004ec5f97bc40148f189771ae29a57ac6dee3"), looks := false }, kinds := [], alts := [], laidByText := true, laidKinds := [.data, .pinned], laidTests := true, laidLooks := .later }
def WalRefusesUptoCardSaid : Prop := Claim7.holds Tryd.pinned (.plain (OpenSpec.upto walRefusesSpec)) walRefusesUptoCard

/-- THE SECOND FORM's CARD OF 'heronrylaw07.WalRound'. -/
def walRoundUptoCard : Claim7 := { stood := { row := walRoundUptoRow, standIns := [], harness := (true, "48321c360c143cb263c4a29b04d004ec5f97bc40148f189771ae29a57ac6dee3"), looks := false }, kinds := [], alts := [], laidByText := true, laidKinds := [.data, .pinned], laidTests := true, laidLooks := .later }
def WalRoundUptoCardSaid : Prop := Claim7.holds Tryd.pinned (.plain (OpenSpec.upto walRoundSpec)) walRoundUptoCard
end Rows
end Go.Proofs.YtdeckbdaencjnaaDoor
