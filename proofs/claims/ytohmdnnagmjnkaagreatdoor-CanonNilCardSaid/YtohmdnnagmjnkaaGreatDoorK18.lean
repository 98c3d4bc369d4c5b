/-
  Part 18 of the proof.
-/
import Derived.Test.YtohmdnnagmjnkaaGreatDoorK17
import Derived.Test.YtohmdnnagmjnkaaGreatDoorK10
import Derived.Test.YtohmdnnagmjnkaaGreatDoorK16
set_option linter.unusedSimpArgs false
set_option linter.unusedVariables false
set_option linter.defProp false
namespace Go.CE
set_option maxRecDepth 100000
noncomputable def Lr : Hooks := [(21, memoH [MS21]), (141, memoH [MB23])]
theorem runR : isT (run (KK Lr RB) 2000 5 [.u 0, .u 1] .e 0) = true := by kernel_rfl
end Go.CE
