/-
  Part 28 of the proof.
-/
import Derived.Test.YtohmdnnagmjnkaaGreatDoorQ26
import Derived.Test.YtohmdnnagmjnkaaGreatDoorQ27
import Derived.Test.YtohmdnnagmjnkaaGreatDoorQ18
import Derived.Test.YtohmdnnagmjnkaaGreatDoorQ19
import Derived.Test.YtohmdnnagmjnkaaGreatDoorQ20
import Derived.Test.YtohmdnnagmjnkaaGreatDoorQ21
import Derived.Test.YtohmdnnagmjnkaaGreatDoorQ25
set_option linter.unusedSimpArgs false
set_option linter.unusedVariables false
set_option linter.defProp false
namespace Go.CE
open Go.RowKit
open Go.Proofs
set_option maxRecDepth 100000
noncomputable def L27 : Hooks := [(29, memoH [MT1, MT2])]
theorem l27_ok {U : Nat → Value} {L : Hooks} {r : RG} : ∀ p ∈ L27, HookOk Tryz.prog (KK L r) U p.1 p.2 := by
  intro p hp
  simp only [L27, List.mem_cons, List.not_mem_nil, or_false] at hp
  subst hp
  refine memo_hook (r' := .e) (L' := LKb) (m := 2000) RgOk.e (kk_ok lkb_ok) fun M hM => ?_
  simp only [List.mem_cons, List.not_mem_nil, or_false] at hM
  rcases hM with rfl | rfl
  · exact ⟨rfl, mt1_ok⟩
  · exact ⟨rfl, mt2_ok⟩
noncomputable def MS27 : Memo := ⟨27, [], .v (.bool true), [], 14840⟩
theorem ms27_ok : memoOk (KK L27) 2000 MS27 = true := by kernel_rfl
section
variable {U : Nat → Value} {L : Hooks} {r : RG}
theorem h27_ok : HookOk Tryz.prog (KK L r) U 27 (memoH [MS27]) := by
  refine memo_hook (r' := .e) (L' := L27) (m := 2000) RgOk.e (kk_ok l27_ok) fun M hM => ?_
  simp only [List.mem_cons, List.not_mem_nil, or_false] at hM
  subst hM
  exact ⟨rfl, ms27_ok⟩
theorem one_ok {M : Memo} (hf : M.f = 114) (hM : memoOk (KK []) 2000 M = true) : HookOk Tryz.prog (KK L r) U 114 (memoH [M]) := by
  refine memo_hook (r' := .e) (L' := []) (m := 2000) RgOk.e (kk_ok fun p hp => by cases hp) fun M' hM' => ?_
  simp only [List.mem_cons, List.not_mem_nil, or_false] at hM'
  subst hM'
  exact ⟨hf, hM⟩
theorem rb_hook (hR : RgOk U RB) : HookOk Tryz.prog (KK L r) U 114 (memoH [MB38, MB41]) := by
  refine memo_hook (r' := RB) (L' := []) (m := 2000) hR (kk_ok fun p hp => by cases hp) fun M hM => ?_
  simp only [List.mem_cons, List.not_mem_nil, or_false] at hM
  rcases hM with rfl | rfl
  · exact ⟨rfl, mb38_ok⟩
  · exact ⟨rfl, mb41_ok⟩
theorem two_ok {h : List V → HP → Nat → R} (h1 : HookOk Tryz.prog (KK L r) U 114 h) : ∀ p ∈ ([(27, memoH [MS27]), (114, h)] : Hooks), HookOk Tryz.prog (KK L r) U p.1 p.2 := by
  intro p hp
  simp only [List.mem_cons, List.not_mem_nil, or_false] at hp
  rcases hp with rfl | rfl
  · exact h27_ok
  · exact h1
theorem la_ok : ∀ p ∈ ([(27, memoH [MS27])] : Hooks), HookOk Tryz.prog (KK L r) U p.1 p.2 := by
  intro p hp
  simp only [List.mem_cons, List.not_mem_nil, or_false] at hp
  subst hp
  exact h27_ok
end
noncomputable def La : Hooks := [(27, memoH [MS27])]
noncomputable def Lr : Hooks := [(27, memoH [MS27]), (114, memoH [MB38, MB41])]
noncomputable def L1 : Hooks := [(27, memoH [MS27]), (114, memoH [MB39])]
noncomputable def L2 : Hooks := [(27, memoH [MS27]), (114, memoH [MB40])]
theorem run0 : isT (run (KK La R0) 2000 6 [.u 0] .e 0) = true := by kernel_rfl
theorem run1 : isT (run (KK L1) 2000 6 [.v (.int .i64 1)] .e 0) = true := by kernel_rfl
theorem run2 : isT (run (KK L2) 2000 6 [.v (.int .i64 2)] .e 0) = true := by kernel_rfl
theorem runR : isT (run (KK Lr RB) 2000 6 [.u 0] .e 0) = true := by kernel_rfl
theorem run5 : isT (run (KK La R5) 2000 6 [.u 0] .e 0) = true := by kernel_rfl
theorem law_check (z : Int) {w : World} (hg : GlOk w) : Calls Tryz.prog 6 #[.int .i64 z] w fun e w' => e = .returned (.bool true) ∧ Go.LE.Keeps w [] w' := by
  have d0 : DenL (fun _ => .int .i64 z) (fun _ => none) [.u 0] [.int .i64 z] := .cons (by simp only [Den]) .nil
  by_cases h0 : z < 1
  · exact law_of (U := fun _ => .int .i64 z) (r := R0) (fun _ => rfl) (rg_ok rfl (fun x hx => by cases hx) (fun x hx => by cases hx; omega)) la_ok Tryz.func6 rfl d0 run0 hg
  by_cases h5 : 4096 < z
  · exact law_of (U := fun _ => .int .i64 z) (r := R5) (fun _ => rfl) (rg_ok rfl (fun x hx => by cases hx; omega) (fun x hx => by cases hx)) la_ok Tryz.func6 rfl d0 run5 hg
  by_cases h1 : z = 1
  · subst h1
    exact law_of (U := fun _ => .int .i64 1) (r := .e) (fun _ => rfl) RgOk.e (two_ok (one_ok rfl mb39_ok)) Tryz.func6 rfl (l := [.v (.int .i64 1)]) (.cons (by simp only [Den]) .nil) run1 hg
  by_cases h2 : z = 2
  · subst h2
    exact law_of (U := fun _ => .int .i64 2) (r := .e) (fun _ => rfl) RgOk.e (two_ok (one_ok rfl mb40_ok)) Tryz.func6 rfl (l := [.v (.int .i64 2)]) (.cons (by simp only [Den]) .nil) run2 hg
  have hR : RgOk (fun _ => .int .i64 z) RB := rg_ok rfl (fun x hx => by cases hx; omega) (fun x hx => by cases hx; omega)
  exact law_of (U := fun _ => .int .i64 z) (r := RB) (fun _ => rfl) hR (two_ok (rb_hook hR)) Tryz.func6 rfl d0 runR hg
end Go.CE
