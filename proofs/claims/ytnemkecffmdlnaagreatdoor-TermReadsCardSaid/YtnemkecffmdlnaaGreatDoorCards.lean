/-
  DERIVED. GIVEN WITH THE SEED: THE CARDS: each row of YtnemkecffmdlnaaGreatDoorRows.lean that lists a variable, with what it lists TIED to the program's text (the seventh form; the later family's looks); each row that meets fmt, with fmt's text TOLD by the authors' own Lean function (tested against real Go, not proved from fmt's source: count such statements apart). THE CARD IS WHAT COUNTS. Prove the row's statement (the work); the ties are given (YtnemkecffmdlnaaGreatDoorTie.lean); close each card by the builder's one call (the guide's Derived/Test/ToyasCard.lean, 'card_holds'). Laid BY PROGRAM, IN A SANDBOX (cutbox-door.mjs). By AI agents, Wed Nov 11 2026. No macro, syntax, notation, axiom, sorry.
-/
import Derived.Test.YtnemkecffmdlnaaGreatDoorRows
import GoSem.ClaimSeven
namespace Go.Proofs.YtnemkecffmdlnaaGreatDoor
namespace Rows

/-- THE TIED CARD OF 'loupelaw20.CodeChecks'. -/
def codeChecksCard : Claim7 := { stood := { row := codeChecksRow, standIns := [], harness := (true, "53390f804619518248a6c6496be5c74044465e0eeae43fdee2af6433978b0485"), looks := true }, kinds := [], alts := [], laidByText := true, laidKinds := [.data, .data, .data, .data, .data], laidTests := true, laidLooks := .later }
def CodeChecksCardSaid : Prop := Claim7.holds Tryz.pinned (.plain (OpenSpec.ofChange codeChecksSpec)) codeChecksCard

/-- THE TIED CARD OF 'loupelaw20.CodePrints'. -/
def codePrintsCard : Claim7 := { stood := { row := codePrintsRow, standIns := [], harness := (true, "53390f804619518248a6c6496be5c74044465e0eeae43fdee2af6433978b0485"), looks := true }, kinds := [], alts := [], laidByText := true, laidKinds := [.data, .data, .data, .data, .data], laidTests := true, laidLooks := .later }
def CodePrintsCardSaid : Prop := Claim7.holds Tryz.pinned (.plain (OpenSpec.ofChange codePrintsSpec)) codePrintsCard

/-- THE TIED CARD OF 'loupelaw20.CodeParses'. -/
def codeParsesCard : Claim7 := { stood := { row := codeParsesRow, standIns := [], harness := (true, "53390f804619518248a6c6496be5c74044465e0eeae43fdee2af6433978b0485"), looks := true }, kinds := [], alts := [], laidByText := true, laidKinds := [.data, .data, .data, .data, .sentinel, .sentinel, .data, .data, .pinned], laidTests := true, laidLooks := .later }
def CodeParsesCardSaid : Prop := Claim7.holds Tryz.pinned (.plain (OpenSpec.ofChange codeParsesSpec)) codeParsesCard

/-- THE TIED CARD OF 'loupelaw20.CodeThereAndBack'. -/
def codeThereAndBackCard : Claim7 := { stood := { row := codeThereAndBackRow, standIns := [], harness := (true, "53390f804619518248a6c6496be5c74044465e0eeae43fdee2af6433978b0485"), looks := true }, kinds := [], alts := [], laidByText := true, laidKinds := [.data, .data, .data, .data, .sentinel, .sentinel, .data, .data, .pinned], laidTests := true, laidLooks := .later }
def CodeThereAndBackCardSaid : Prop := Claim7.holds Tryz.pinned (.plain (OpenSpec.ofChange codeThereAndBackSpec)) codeThereAndBackCard

/-- THE TIED CARD OF 'loupelaw14.TermReads'. -/
def termReadsCard : Claim7 := { stood := { row := termReadsRow, standIns := [], harness := (true, "53390f804619518248a6c6496be5c74044465e0eeae43fdee2af6433978b0485"), looks := true }, kinds := [], alts := [], laidByText := true, laidKinds := [.data, .data, .data, .data, .data], laidTests := true, laidLooks := .later }
def TermReadsCardSaid : Prop := Claim7.holds Tryz.pinned (.plain (OpenSpec.ofChange termReadsSpec)) termReadsCard

/-- THE TIED CARD OF 'loupelaw14.TermElaborates'. -/
def termElaboratesCard : Claim7 := { stood := { row := termElaboratesRow, standIns := [], harness := (true, "53390f804619518248a6c6496be5c74044465e0eeae43fdee2af6433978b0485"), looks := true }, kinds := [], alts := [], laidByText := true, laidKinds := [.data, .data, .data, .data, .data], laidTests := true, laidLooks := .later }
def TermElaboratesCardSaid : Prop := Claim7.holds Tryz.pinned (.plain (OpenSpec.ofChange termElaboratesSpec)) termElaboratesCard

/-- THE TIED CARD OF 'loupelaw14.TermNamed'. -/
def termNamedCard : Claim7 := { stood := { row := termNamedRow, standIns := [], harness := (true, "53390f804619518248a6c6496be5c74044465e0eeae43fdee2af6433978b0485"), looks := true }, kinds := [], alts := [], laidByText := true, laidKinds := [.data, .data, .data, .data, .data], laidTests := true, laidLooks := .later }
def TermNamedCardSaid : Prop := Claim7.holds Tryz.pinned (.plain (OpenSpec.ofChange termNamedSpec)) termNamedCard

/-- THE TIED CARD OF 'loupelaw14.TermJoins'. -/
def termJoinsCard : Claim7 := { stood := { row := termJoinsRow, standIns := [], harness := (true, "53390f804619518248a6c6496be5c74044465e0eeae43fdee2af6433978b0485"), looks := true }, kinds := [], alts := [], laidByText := true, laidKinds := [.data, .data, .data, .data, .data], laidTests := true, laidLooks := .later }
def TermJoinsCardSaid : Prop := Claim7.holds Tryz.pinned (.plain (OpenSpec.ofChange termJoinsSpec)) termJoinsCard

/-- THE SECOND FORM's CARD OF 'loupelaw20.CodeChecks'. -/
def codeChecksUptoCard : Claim7 := { stood := { row := codeChecksUptoRow, standIns := [], harness := (true, "53390f804619518248a6c6496be5c74044465e0eeae43fdee2af6433978b0485"), looks := true }, kinds := [], alts := [], laidByText := true, laidKinds := [.data, .data, .data, .data, .data], laidTests := true, laidLooks := .later }
def CodeChecksUptoCardSaid : Prop := Claim7.holds Tryz.pinned (.plain (OpenSpec.upto codeChecksSpec)) codeChecksUptoCard

/-- THE SECOND FORM's CARD OF 'loupelaw20.CodePrints'. -/
def codePrintsUptoCard : Claim7 := { stood := { row := codePrintsUptoRow, standIns := [], harness := (true, "53390f804619518248a6c6496be5c74044465e0eeae43fdee2af6433978b0485"), looks := true }, kinds := [], alts := [], laidByText := true, laidKinds := [.data, .data, .data, .data, .data], laidTests := true, laidLooks := .later }
def CodePrintsUptoCardSaid : Prop := Claim7.holds Tryz.pinned (.plain (OpenSpec.upto codePrintsSpec)) codePrintsUptoCard

/-- THE SECOND FORM's CARD OF 'loupelaw20.CodeParses'. -/
def codeParsesUptoCard : Claim7 := { stood := { row := codeParsesUptoRow, standIns := [], harness := (true, "53390f804619518248a6c6496be5c74044465e0eeae43fdee2af6433978b0485"), looks := true }, kinds := [], alts := [], laidByText := true, laidKinds := [.data, .data, .data, .data, .sentinel, .sentinel, .data, .data, .pinned], laidTests := true, laidLooks := .later }
def CodeParsesUptoCardSaid : Prop := Claim7.holds Tryz.pinned (.plain (OpenSpec.upto codeParsesSpec)) codeParsesUptoCard

/-- THE SECOND FORM's CARD OF 'loupelaw20.CodeThereAndBack'. -/
def codeThereAndBackUptoCard : Claim7 := { stood := { row := codeThereAndBackUptoRow, standIns := [], harness := (true, "53390f804619518248a6c6496be5c74044465e0eeae43fdee2af6433978b0485"), looks := true }, kinds := [], alts := [], laidByText := true, laidKinds := [.data, .data, .data, .data, .sentinel, .sentinel, .data, .data, .pinned], laidTests := true, laidLooks := .later }
def CodeThereAndBackUptoCardSaid : Prop := Claim7.holds Tryz.pinned (.plain (OpenSpec.upto codeThereAndBackSpec)) codeThereAndBackUptoCard

/-- THE SECOND FORM's CARD OF 'loupelaw14.TermReads'. -/
def termReadsUptoCard : Claim7 := { stood := { row := termReadsUptoRow, standIns := [], harness := (true, "53390f804619518248a6c6496be5c74044465e0eeae43fdee2af6433978b0485"), looks := true }, kinds := [], alts := [], laidByText := true, laidKinds := [.data, .data, .data, .data, .data], laidTests := true, laidLooks := .later }
def TermReadsUptoCardSaid : Prop := Claim7.holds Tryz.pinned (.plain (OpenSpec.upto termReadsSpec)) termReadsUptoCard

/-- THE SECOND FORM's CARD OF 'loupelaw14.TermElaborates'. -/
def termElaboratesUptoCard : Claim7 := { stood := { row := termElaboratesUptoRow, standIns := [], harness := (true, "53390f804619518248a6c6496be5c74044465e0eeae43fdee2af6433978b0485"), looks := true }, kinds := [], alts := [], laidByText := true, laidKinds := [.data, .data, .data, .data, .data], laidTests := true, laidLooks := .later }
def TermElaboratesUptoCardSaid : Prop := Claim7.holds Tryz.pinned (.plain (OpenSpec.upto termElaboratesSpec)) termElaboratesUptoCard

/-- THE SECOND FORM's CARD OF 'loupelaw14.TermNamed'. -/
def termNamedUptoCard : Claim7 := { stood := { row := termNamedUptoRow, standIns := [], harness := (true, "53390f804619518248a6c6496be5c74044465e0eeae43fdee2af6433978b0485"), looks := true }, kinds := [], alts := [], laidByText := true, laidKinds := [.data, .data, .data, .data, .data], laidTests := true, laidLooks := .later }
def TermNamedUptoCardSaid : Prop := Claim7.holds Tryz.pinned (.plain (OpenSpec.upto termNamedSpec)) termNamedUptoCard

/-- THE SECOND FORM's CARD OF 'loupelaw14.TermJoins'. -/
def termJoinsUptoCard : Claim7 := { stood := { row := termJoinsUptoRow, standIns := [], harness := (true, "53390f804619518248a6c6496be5c74044465e0eeae43fdee2af6433978b0485"), looks := true }, kinds := [], alts := [], laidByText := true, laidKinds := [.data, .data, .data, .data, .data], laidTests := true, laidLooks := .later }
def TermJoinsUptoCardSaid : Prop := Claim7.holds Tryz.pinned (.plain (OpenSpec.upto termJoinsSpec)) termJoinsUptoCard
end Rows
end Go.Proofs.YtnemkecffmdlnaaGreatDoor
