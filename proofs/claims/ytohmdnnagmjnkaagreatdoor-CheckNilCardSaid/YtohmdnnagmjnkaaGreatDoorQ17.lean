/-
  Part 17 of the proof.
-/
import Derived.Test.YtohmdnnagmjnkaaGreatDoorQ10
set_option linter.unusedSimpArgs false
set_option linter.unusedVariables false
set_option linter.defProp false
namespace Go.CE
set_option maxRecDepth 100000
theorem mb37_ok : memoOk (KK []) 2000 MB37 = true := by kernel_rfl
end Go.CE
