/-
  No cell of these rows narrows 'for every input' (looked for: loops, veiled, ifaces, maps, wideKeys, modest, calm, conditions, laid).
  DERIVED. THE GIVEN ROWS OF THIS SEAT. 4 by the template 'for every input the law returns true; each argument reads behind the call as it read before'; 0 by the template 'total and deterministic' (their statements: YtoglkgbjehbcpaaTotals.lean).
  GIVEN WITH THE SEED: the statements are not yours to turn. If you find one false, say at which input.
  Laid BY PROGRAM, IN A SANDBOX (cutbox-rows.mjs): the forced cells as the released guide's own fill.sh prints them over the translation c4c0ba146de1054c… (all of the seat's roots in one cut). By AI agents, Wed Nov 11 2026. No macro, syntax, notation, axiom, sorry.
-/
import Derived.Test.YtoglkgbjehbcpaaChecked
import GoSem.Claim
import GoSem.ClaimJoined
import GoSem.ClaimMapViews
import Derived.JoinedTies
import Derived.KernelRfl
namespace Go.Proofs.Ytoglkgbjehbcpaa
/- THE CELL 'sum', in the pinned program and in every row, IS THE sha256 OF THE DUMP (.gsa) THAT YtoglkgbjehbcpaaProg.lean LOADS. Nothing in Lean hashes anything: it is a label: what it is worth is what the hold of that sum in a sandbox is worth. -/
noncomputable def Try.pinned : Pinned := { name := "ytoglkgbjehbcpaa", sum := "c4c0ba146de1054cdc4650de6048d3110a99b3b7674e6fe7d3d26c3c97efe6f7", checked := Try.checked }
namespace Rows
def none {H : Type} : Left H := { results := [], args := [] }

/-- 'loupelaw24.EditApplies': WHATEVER THE INPUT: true; the input reads as it did. -/
def editAppliesSpec : ChangeSpec := { name := "editApplies", fn := fun _ => fun
  | [d1, d2] => { results := [.lit (.bool true)], args := [d1, d2] }
  | _ => none }
def editAppliesRow : OpenClaim := { program := "ytoglkgbjehbcpaa", sum := "c4c0ba146de1054cdc4650de6048d3110a99b3b7674e6fe7d3d26c3c97efe6f7", func := "loupe/loupelaw24.EditApplies", spec := "editApplies", inPlace := ["internal/abi.NoEscape"], apart := false }
def EditAppliesSaid : Prop := editAppliesRow.holds Try.pinned (OpenSpec.ofChange editAppliesSpec)

/-- ITS FALSE NEIGHBOUR: 'it returns false'. Refute it at one input. -/
def editAppliesWrong : ChangeSpec := { name := "editApplies", fn := fun _ => fun
  | [d1, d2] => { results := [.lit (.bool false)], args := [d1, d2] }
  | _ => none }
def EditAppliesWrongFalsely : Prop := editAppliesRow.holds Try.pinned (OpenSpec.ofChange editAppliesWrong)

/-- 'loupelaw24.EditInverts': WHATEVER THE INPUT: true; the input reads as it did. -/
def editInvertsSpec : ChangeSpec := { name := "editInverts", fn := fun _ => fun
  | [d1, d2] => { results := [.lit (.bool true)], args := [d1, d2] }
  | _ => none }
def editInvertsRow : OpenClaim := { program := "ytoglkgbjehbcpaa", sum := "c4c0ba146de1054cdc4650de6048d3110a99b3b7674e6fe7d3d26c3c97efe6f7", func := "loupe/loupelaw24.EditInverts", spec := "editInverts", inPlace := ["internal/abi.NoEscape"], apart := false }
def EditInvertsSaid : Prop := editInvertsRow.holds Try.pinned (OpenSpec.ofChange editInvertsSpec)

/-- ITS FALSE NEIGHBOUR: 'it returns false'. Refute it at one input. -/
def editInvertsWrong : ChangeSpec := { name := "editInverts", fn := fun _ => fun
  | [d1, d2] => { results := [.lit (.bool false)], args := [d1, d2] }
  | _ => none }
def EditInvertsWrongFalsely : Prop := editInvertsRow.holds Try.pinned (OpenSpec.ofChange editInvertsWrong)

/-- 'loupelaw24.EditUndoes': WHATEVER THE INPUT: true; the input reads as it did. -/
def editUndoesSpec : ChangeSpec := { name := "editUndoes", fn := fun _ => fun
  | [d1, d2] => { results := [.lit (.bool true)], args := [d1, d2] }
  | _ => none }
def editUndoesRow : OpenClaim := { program := "ytoglkgbjehbcpaa", sum := "c4c0ba146de1054cdc4650de6048d3110a99b3b7674e6fe7d3d26c3c97efe6f7", func := "loupe/loupelaw24.EditUndoes", spec := "editUndoes", inPlace := ["internal/abi.NoEscape"], apart := false }
def EditUndoesSaid : Prop := editUndoesRow.holds Try.pinned (OpenSpec.ofChange editUndoesSpec)

/-- ITS FALSE NEIGHBOUR: 'it returns false'. Refute it at one input. -/
def editUndoesWrong : ChangeSpec := { name := "editUndoes", fn := fun _ => fun
  | [d1, d2] => { results := [.lit (.bool false)], args := [d1, d2] }
  | _ => none }
def EditUndoesWrongFalsely : Prop := editUndoesRow.holds Try.pinned (OpenSpec.ofChange editUndoesWrong)

/-- 'loupelaw24.EditDiffs': WHATEVER THE INPUT: true; the input reads as it did. -/
def editDiffsSpec : ChangeSpec := { name := "editDiffs", fn := fun _ => fun
  | [d1, d2, d3] => { results := [.lit (.bool true)], args := [d1, d2, d3] }
  | _ => none }
def editDiffsRow : OpenClaim := { program := "ytoglkgbjehbcpaa", sum := "c4c0ba146de1054cdc4650de6048d3110a99b3b7674e6fe7d3d26c3c97efe6f7", func := "loupe/loupelaw24.EditDiffs", spec := "editDiffs", inPlace := ["internal/abi.NoEscape"], apart := false }
def EditDiffsSaid : Prop := editDiffsRow.holds Try.pinned (OpenSpec.ofChange editDiffsSpec)

/-- ITS FALSE NEIGHBOUR: 'it returns false'. Refute it at one input. -/
def editDiffsWrong : ChangeSpec := { name := "editDiffs", fn := fun _ => fun
  | [d1, d2, d3] => { results := [.lit (.bool false)], args := [d1, d2, d3] }
  | _ => none }
def EditDiffsWrongFalsely : Prop := editDiffsRow.holds Try.pinned (OpenSpec.ofChange editDiffsWrong)

/- THE SECOND FORM. 'bulk': how many values and letters a reading holds, each counted each time it is reached (what is shared counts as often as it is met; a slice's spare places count too). A statement '..UptoSaid' is the law's where the arguments, and the package variables that the reading takes, are together of bulk at most 1048576: NARROWER than '..Said'. Prove '..Said' where nothing that the law and all that it calls make is longer than what came in: it says more and counts as full. Else prove '..UptoSaid'. A law counts once. -/
mutual
def uptoBulk {H : Type} : DataW H → Nat
  | .lit (.string bytes) => bytes.length + 1
  | .lit _ => 1
  | .nil => 1
  | .ptr d => uptoBulk d + 1
  | .slice elems spare => uptoBulkAll elems + uptoBulkAll spare + 1
  | .agg parts => uptoBulkAll parts + 1
  | .iface _ d => uptoBulk d + 1
  | .map entries => uptoBulkEntries entries + 1
  | .held _ => 1
def uptoBulkAll {H : Type} : List (DataW H) → Nat
  | [] => 0
  | d :: r => uptoBulk d + uptoBulkAll r
def uptoBulkEntries {H : Type} : List (Lit × DataW H) → Nat
  | [] => 0
  | x :: r => uptoBulkEntry x + uptoBulkEntries r
def uptoBulkEntry {H : Type} : Lit × DataW H → Nat
  | (.string bytes, d) => bytes.length + uptoBulk d + 1
  | (_, d) => uptoBulk d + 1
 end
def uptoSmall : (H : Type) → List (DataW H) → Bool := fun _ ds => decide (uptoBulkAll ds ≤ 1048576)
def OpenSpec.upto (s : _root_.Go.ChangeSpec) : _root_.Go.OpenSpec := { _root_.Go.OpenSpec.ofChange s with cond := some uptoSmall }

/-- 'loupelaw24.EditApplies', WHERE WHAT IT READS IS OF BULK AT MOST 1048576: true; the input reads as it did. -/
def editAppliesUptoRow : OpenClaim := { program := "ytoglkgbjehbcpaa", sum := "c4c0ba146de1054cdc4650de6048d3110a99b3b7674e6fe7d3d26c3c97efe6f7", func := "loupe/loupelaw24.EditApplies", spec := "editApplies", inPlace := ["internal/abi.NoEscape"], apart := false, narrowed := true }
def EditAppliesUptoSaid : Prop := editAppliesUptoRow.holds Try.pinned (OpenSpec.upto editAppliesSpec)

/-- 'loupelaw24.EditInverts', WHERE WHAT IT READS IS OF BULK AT MOST 1048576: true; the input reads as it did. -/
def editInvertsUptoRow : OpenClaim := { program := "ytoglkgbjehbcpaa", sum := "c4c0ba146de1054cdc4650de6048d3110a99b3b7674e6fe7d3d26c3c97efe6f7", func := "loupe/loupelaw24.EditInverts", spec := "editInverts", inPlace := ["internal/abi.NoEscape"], apart := false, narrowed := true }
def EditInvertsUptoSaid : Prop := editInvertsUptoRow.holds Try.pinned (OpenSpec.upto editInvertsSpec)

/-- 'loupelaw24.EditUndoes', WHERE WHAT IT READS IS OF BULK AT MOST 1048576: true; the input reads as it did. -/
def editUndoesUptoRow : OpenClaim := { program := "ytoglkgbjehbcpaa", sum := "c4c0ba146de1054cdc4650de6048d3110a99b3b7674e6fe7d3d26c3c97efe6f7", func := "loupe/loupelaw24.EditUndoes", spec := "editUndoes", inPlace := ["internal/abi.NoEscape"], apart := false, narrowed := true }
def EditUndoesUptoSaid : Prop := editUndoesUptoRow.holds Try.pinned (OpenSpec.upto editUndoesSpec)

/-- 'loupelaw24.EditDiffs', WHERE WHAT IT READS IS OF BULK AT MOST 1048576: true; the input reads as it did. -/
def editDiffsUptoRow : OpenClaim := { program := "ytoglkgbjehbcpaa", sum := "c4c0ba146de1054cdc4650de6048d3110a99b3b7674e6fe7d3d26c3c97efe6f7", func := "loupe/loupelaw24.EditDiffs", spec := "editDiffs", inPlace := ["internal/abi.NoEscape"], apart := false, narrowed := true }
def EditDiffsUptoSaid : Prop := editDiffsUptoRow.holds Try.pinned (OpenSpec.upto editDiffsSpec)

end Rows
end Go.Proofs.Ytoglkgbjehbcpaa
