/-
  Part 27 of the proof.
-/
import Derived.Test.YtohmdnnagmjnkaaGreatDoorQ25
set_option linter.unusedSimpArgs false
set_option linter.unusedVariables false
set_option linter.defProp false
namespace Go.CE
set_option maxRecDepth 100000
theorem mt2_ok : memoOk (KK LKb) 2000 MT2 = true := by kernel_rfl
end Go.CE
