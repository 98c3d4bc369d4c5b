/-
  Part 12 of the proof.
-/
import Derived.Test.YtohmdnnagmjnkaaGreatDoorK10
set_option linter.unusedSimpArgs false
set_option linter.unusedVariables false
set_option linter.defProp false
namespace Go.CE
set_option maxRecDepth 100000
theorem mb22_ok : memoOk (KK []) 2000 MB22 = true := by kernel_rfl
end Go.CE
