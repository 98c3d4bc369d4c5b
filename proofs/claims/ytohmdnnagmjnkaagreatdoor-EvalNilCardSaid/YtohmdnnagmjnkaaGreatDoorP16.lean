/-
  Part 16 of the proof.
-/
import Derived.Test.YtohmdnnagmjnkaaGreatDoorP11
import Derived.Test.YtohmdnnagmjnkaaGreatDoorP12
import Derived.Test.YtohmdnnagmjnkaaGreatDoorP13
import Derived.Test.YtohmdnnagmjnkaaGreatDoorP14
import Derived.Test.YtohmdnnagmjnkaaGreatDoorP15
set_option linter.unusedSimpArgs false
set_option linter.unusedVariables false
set_option linter.defProp false
section
namespace Go.CE
open Go.RowKit
open Go.Proofs
section
variable {U : Nat → Value} {L L' : Hooks} {B : Nat → Prop} {W : World} {f : FuncId} {m : Nat}
theorem cok_kk (h : COk Tryz.prog (KK L) U B W) : COk Tryz.prog (KK L') U B W := ⟨h.ty, h.gl, h.u, h.cmp, h.hel, h.eg⟩
theorem memo_hook (hP : POk Tryz.prog (KK L') U) : ∀ {Ms : List Memo}, (∀ M ∈ Ms, M.f = f ∧ memoOk (KK L') m M = true) → HookOk Tryz.prog (KK L) U f (memoH Ms)
  | [], h => fun B W hC l H n x H' n' hr => by simp [memoH] at hr
  | M :: r, h => fun B W hC l H n x H' n' hr E w xs hh hd => by
    simp only [memoH] at hr
    cases he : eqXL M.args l with
    | false =>
      rw [he] at hr
      exact memo_hook hP (fun M' hM => h M' (List.mem_cons_of_mem _ hM)) B W hC l H n x H' n' hr E w xs hh hd
    | true =>
      rw [he] at hr
      simp only [memo1] at hr
      obtain ⟨hf, hok⟩ := h M List.mem_cons_self
      have := eqXL_eq he
      subst this
      cases hp : putAll n M.L H with
      | none => rw [hp] at hr; cases hr
      | some G =>
        rw [hp] at hr
        simp only [memoK, R.ok.injEq] at hr
        obtain ⟨rfl, rfl, rfl⟩ := hr
        subst hf
        exact memo_res (m := m) (fun B W hC => run_sound hP m B W hC) hok (cok_kk hC) hh hd hp
noncomputable def LB : Hooks := [(141, memoH [MB1, MB2, MB3, MB4, MB5])]
theorem lb_ok : ∀ p ∈ LB, HookOk Tryz.prog (KK L) U p.1 p.2 := by
  intro p hp
  simp only [LB, List.mem_cons, List.not_mem_nil, or_false] at hp
  subst hp
  refine memo_hook (L' := []) (m := 2000) (kk_ok fun p hp => by cases hp) fun M hM => ?_
  simp only [List.mem_cons, List.not_mem_nil, or_false] at hM
  rcases hM with rfl | rfl | rfl | rfl | rfl
  · exact ⟨rfl, mb1_ok⟩
  · exact ⟨rfl, mb2_ok⟩
  · exact ⟨rfl, mb3_ok⟩
  · exact ⟨rfl, mb4_ok⟩
  · exact ⟨rfl, mb5_ok⟩
end
end Go.CE
end
section
namespace Go.CE
set_option maxRecDepth 100000
noncomputable def MB7 : Memo := ⟨7, [], .v (.bool true), [], 7091⟩
theorem mb7_ok : memoOk (KK LB) 2000 MB7 = true := by kernel_rfl
end Go.CE
end
