/-
  Part 16 of the proof.
-/
import Derived.Test.YtohmdnnagmjnkaaGreatDoorS15
set_option linter.unusedSimpArgs false
set_option linter.unusedVariables false
set_option linter.defProp false
namespace Go.CE
set_option maxRecDepth 100000
theorem mb15_ok : memoOk (KK LS) 2000 MB15 = true := by kernel_rfl
end Go.CE
