/-
  LE, the engine, part 25: the rules of part 24 under one name.
-/
import Derived.Test.YtoglkgbjehbcpaaE24
namespace Go.LE
set_option linter.unusedSimpArgs false
set_option linter.defProp false
set_option linter.unusedVariables false

def ev6 := (And.intro @semMake_int (And.intro @mkU_slice (And.intro @mkV_some (And.intro @slAt_zero (And.intro @slU_slice (And.intro @slV_some (And.intro @semSlice_x11 (And.intro @semSlice_x10 (And.intro @semSlice_x01 (And.intro @factC_ev @factK_some))))))))))

end Go.LE
