/-
  Part 13 of the proof.
-/
import Derived.Test.YtohmdnnagmjnkaaGreatDoorK10
set_option linter.unusedSimpArgs false
set_option linter.unusedVariables false
set_option linter.defProp false
namespace Go.CE
set_option maxRecDepth 100000
theorem mb23_ok : memoOk (KK [] RB) 2000 MB23 = true := by kernel_rfl
end Go.CE
