/-
  Part 17 of the proof.
-/
import Derived.Test.YtohmdnnagmjnkaaGreatDoorK16
import Derived.Test.YtohmdnnagmjnkaaGreatDoorK11
import Derived.Test.YtohmdnnagmjnkaaGreatDoorK12
set_option linter.unusedSimpArgs false
set_option linter.unusedVariables false
set_option linter.defProp false
namespace Go.CE
open Go.RowKit
open Go.Proofs
set_option maxRecDepth 100000
noncomputable def Lc : Hooks := [(66, st 500), (141, memoH [MB21, MB22])]
theorem lc_ok {U : Nat → Value} {L : Hooks} {r : RG} : ∀ p ∈ Lc, HookOk Tryz.prog (KK L r) U p.1 p.2 := by
  intro p hp
  simp only [Lc, List.mem_cons, List.not_mem_nil, or_false] at hp
  rcases hp with rfl | rfl
  · exact hook_start (m := 500)
  · refine memo_hook (r' := .e) (L' := []) (m := 2000) RgOk.e (kk_ok fun p hp => by cases hp) fun M hM => ?_
    simp only [List.mem_cons, List.not_mem_nil, or_false] at hM
    rcases hM with rfl | rfl
    · exact ⟨rfl, mb21_ok⟩
    · exact ⟨rfl, mb22_ok⟩
noncomputable def MS21 : Memo := ⟨21, [], .v (.bool true), [], 2662⟩
theorem ms21_ok : memoOk (KK Lc) 2000 MS21 = true := by kernel_rfl
end Go.CE
