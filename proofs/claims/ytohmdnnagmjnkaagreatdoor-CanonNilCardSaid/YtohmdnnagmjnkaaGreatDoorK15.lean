/-
  Part 15 of the proof.
-/
import Derived.Test.YtohmdnnagmjnkaaGreatDoorK10
set_option linter.unusedSimpArgs false
set_option linter.unusedVariables false
set_option linter.defProp false
namespace Go.CE
set_option maxRecDepth 100000
theorem mb25_ok : memoOk (KK []) 2000 MB25 = true := by kernel_rfl
end Go.CE
