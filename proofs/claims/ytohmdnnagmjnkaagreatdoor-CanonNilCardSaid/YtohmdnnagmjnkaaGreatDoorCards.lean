/-
  DERIVED. GIVEN WITH THE SEED: THE CARDS: each row of YtohmdnnagmjnkaaGreatDoorRows.lean that lists a variable, with what it lists TIED to the program's text (the seventh form; the later family's looks); each row that meets fmt, with fmt's text TOLD by the authors' own Lean function (tested against real Go, not proved from fmt's source: count such statements apart). THE CARD IS WHAT COUNTS. Prove the row's statement (the work); the ties are given (YtohmdnnagmjnkaaGreatDoorTie.lean); close each card by the builder's one call (the guide's Derived/Test/ToyasCard.lean, 'card_holds'). Laid BY PROGRAM, IN A SANDBOX (cutbox-door.mjs). By AI agents, Wed Nov 11 2026. No macro, syntax, notation, axiom, sorry.
-/
import Derived.Test.YtohmdnnagmjnkaaGreatDoorRows
import GoSem.ClaimSeven
namespace Go.Proofs.YtohmdnnagmjnkaaGreatDoor
namespace Rows

/-- THE TIED CARD OF 'loupelaw18.EvalNil'. -/
def evalNilCard : Claim7 := { stood := { row := evalNilRow, standIns := [], harness := (true, "b45a5a777492ddad37b831919d28dc8dfe47ea502a5aa7ec2d2618ca78fbc944"), looks := true }, kinds := [], alts := [], laidByText := true, laidKinds := [.data, .data, .data, .data, .data], laidTests := true, laidLooks := .later }
def EvalNilCardSaid : Prop := Claim7.holds Tryz.pinned (.plain (OpenSpec.ofChange evalNilSpec)) evalNilCard

/-- THE TIED CARD OF 'loupelaw23.StreamNil'. -/
def streamNilCard : Claim7 := { stood := { row := streamNilRow, standIns := [], harness := (true, "b45a5a777492ddad37b831919d28dc8dfe47ea502a5aa7ec2d2618ca78fbc944"), looks := true }, kinds := [], alts := [], laidByText := true, laidKinds := [.data, .data, .data, .data, .data], laidTests := true, laidLooks := .later }
def StreamNilCardSaid : Prop := Claim7.holds Tryz.pinned (.plain (OpenSpec.ofChange streamNilSpec)) streamNilCard

/-- THE TIED CARD OF 'loupelaw15.CanonNil'. -/
def canonNilCard : Claim7 := { stood := { row := canonNilRow, standIns := [], harness := (true, "b45a5a777492ddad37b831919d28dc8dfe47ea502a5aa7ec2d2618ca78fbc944"), looks := true }, kinds := [], alts := [], laidByText := true, laidKinds := [.data, .data, .data, .data, .data], laidTests := true, laidLooks := .later }
def CanonNilCardSaid : Prop := Claim7.holds Tryz.pinned (.plain (OpenSpec.ofChange canonNilSpec)) canonNilCard

/-- THE TIED CARD OF 'loupelaw16.CheckNil'. -/
def checkNilCard : Claim7 := { stood := { row := checkNilRow, standIns := [], harness := (true, "b45a5a777492ddad37b831919d28dc8dfe47ea502a5aa7ec2d2618ca78fbc944"), looks := true }, kinds := [], alts := [], laidByText := true, laidKinds := [.data, .data, .data, .data, .data], laidTests := true, laidLooks := .later }
def CheckNilCardSaid : Prop := Claim7.holds Tryz.pinned (.plain (OpenSpec.ofChange checkNilSpec)) checkNilCard

/-- THE SECOND FORM's CARD OF 'loupelaw18.EvalNil'. -/
def evalNilUptoCard : Claim7 := { stood := { row := evalNilUptoRow, standIns := [], harness := (true, "b45a5a777492ddad37b831919d28dc8dfe47ea502a5aa7ec2d2618ca78fbc944"), looks := true }, kinds := [], alts := [], laidByText := true, laidKinds := [.data, .data, .data, .data, .data], laidTests := true, laidLooks := .later }
def EvalNilUptoCardSaid : Prop := Claim7.holds Tryz.pinned (.plain (OpenSpec.upto evalNilSpec)) evalNilUptoCard

/-- THE SECOND FORM's CARD OF 'loupelaw23.StreamNil'. -/
def streamNilUptoCard : Claim7 := { stood := { row := streamNilUptoRow, standIns := [], harness := (true, "b45a5a777492ddad37b831919d28dc8dfe47ea502a5aa7ec2d2618ca78fbc944"), looks := true }, kinds := [], alts := [], laidByText := true, laidKinds := [.data, .data, .data, .data, .data], laidTests := true, laidLooks := .later }
def StreamNilUptoCardSaid : Prop := Claim7.holds Tryz.pinned (.plain (OpenSpec.upto streamNilSpec)) streamNilUptoCard

/-- THE SECOND FORM's CARD OF 'loupelaw15.CanonNil'. -/
def canonNilUptoCard : Claim7 := { stood := { row := canonNilUptoRow, standIns := [], harness := (true, "b45a5a777492ddad37b831919d28dc8dfe47ea502a5aa7ec2d2618ca78fbc944"), looks := true }, kinds := [], alts := [], laidByText := true, laidKinds := [.data, .data, .data, .data, .data], laidTests := true, laidLooks := .later }
def CanonNilUptoCardSaid : Prop := Claim7.holds Tryz.pinned (.plain (OpenSpec.upto canonNilSpec)) canonNilUptoCard

/-- THE SECOND FORM's CARD OF 'loupelaw16.CheckNil'. -/
def checkNilUptoCard : Claim7 := { stood := { row := checkNilUptoRow, standIns := [], harness := (true, "b45a5a777492ddad37b831919d28dc8dfe47ea502a5aa7ec2d2618ca78fbc944"), looks := true }, kinds := [], alts := [], laidByText := true, laidKinds := [.data, .data, .data, .data, .data], laidTests := true, laidLooks := .later }
def CheckNilUptoCardSaid : Prop := Claim7.holds Tryz.pinned (.plain (OpenSpec.upto checkNilSpec)) checkNilUptoCard
end Rows
end Go.Proofs.YtohmdnnagmjnkaaGreatDoor
