/-
  Part 19 of the proof.
-/
import Derived.Test.YtohmdnnagmjnkaaGreatDoorK18
import Derived.Test.YtohmdnnagmjnkaaGreatDoorK13
import Derived.Test.YtohmdnnagmjnkaaGreatDoorK14
import Derived.Test.YtohmdnnagmjnkaaGreatDoorK15
set_option linter.unusedSimpArgs false
set_option linter.unusedVariables false
set_option linter.defProp false
namespace Go.CE
open Go.RowKit
open Go.Proofs
set_option maxRecDepth 100000
section
variable {U : Nat → Value} {L : Hooks} {r : RG}
theorem h21_ok : HookOk Tryz.prog (KK L r) U 21 (memoH [MS21]) := by
  refine memo_hook (r' := .e) (L' := Lc) (m := 2000) RgOk.e (kk_ok lc_ok) fun M hM => ?_
  simp only [List.mem_cons, List.not_mem_nil, or_false] at hM
  subst hM
  exact ⟨rfl, ms21_ok⟩
theorem one_ok {M : Memo} (hf : M.f = 141) (hM : memoOk (KK []) 2000 M = true) : HookOk Tryz.prog (KK L r) U 141 (memoH [M]) := by
  refine memo_hook (r' := .e) (L' := []) (m := 2000) RgOk.e (kk_ok fun p hp => by cases hp) fun M' hM' => ?_
  simp only [List.mem_cons, List.not_mem_nil, or_false] at hM'
  subst hM'
  exact ⟨hf, hM⟩
theorem rb_hook (hR : RgOk U RB) : HookOk Tryz.prog (KK L r) U 141 (memoH [MB23]) := by
  refine memo_hook (r' := RB) (L' := []) (m := 2000) hR (kk_ok fun p hp => by cases hp) fun M hM => ?_
  simp only [List.mem_cons, List.not_mem_nil, or_false] at hM
  subst hM
  exact ⟨rfl, mb23_ok⟩
theorem two_ok {h : List V → HP → Nat → R} (h1 : HookOk Tryz.prog (KK L r) U 141 h) : ∀ p ∈ ([(21, memoH [MS21]), (141, h)] : Hooks), HookOk Tryz.prog (KK L r) U p.1 p.2 := by
  intro p hp
  simp only [List.mem_cons, List.not_mem_nil, or_false] at hp
  rcases hp with rfl | rfl
  · exact h21_ok
  · exact h1
theorem la_ok : ∀ p ∈ ([(21, memoH [MS21])] : Hooks), HookOk Tryz.prog (KK L r) U p.1 p.2 := by
  intro p hp
  simp only [List.mem_cons, List.not_mem_nil, or_false] at hp
  subst hp
  exact h21_ok
end
noncomputable def La : Hooks := [(21, memoH [MS21])]
noncomputable def L1 : Hooks := [(21, memoH [MS21]), (141, memoH [MB24])]
noncomputable def L2 : Hooks := [(21, memoH [MS21]), (141, memoH [MB25])]
theorem run0 : isT (run (KK La R0) 2000 5 [.u 0, .u 1] .e 0) = true := by kernel_rfl
theorem run1 : isT (run (KK L1) 2000 5 [.v (.int .i64 1), .u 1] .e 0) = true := by kernel_rfl
theorem run2 : isT (run (KK L2) 2000 5 [.v (.int .i64 2), .u 1] .e 0) = true := by kernel_rfl
theorem run5 : isT (run (KK La R5) 2000 5 [.u 0, .u 1] .e 0) = true := by kernel_rfl
def UU (z : Int) (s : ByteArray) (i : Nat) : Value := if i = 0 then .int .i64 z else .string s
theorem uu_one (z : Int) (s : ByteArray) : ∀ i, (UU z s i).oneCell' = true := fun i => by unfold UU; split <;> rfl
theorem law_canon (z : Int) (s : ByteArray) {w : World} (hg : GlOk w) : Calls Tryz.prog 5 #[.int .i64 z, .string s] w fun e w' => e = .returned (.bool true) ∧ Go.LE.Keeps w [] w' := by
  have u0 : UU z s 0 = .int .i64 z := rfl
  have d1 : DenL (UU z s) (fun _ => none) [.u 1] [.string s] := .cons (by simp only [Den]; rfl) .nil
  have d0 : DenL (UU z s) (fun _ => none) [.u 0, .u 1] [.int .i64 z, .string s] := .cons (by simp only [Den]; rfl) d1
  by_cases h0 : z < 1
  · exact law_of (U := UU z s) (r := R0) (uu_one z s) (rg_ok u0 (fun x hx => by cases hx) (fun x hx => by cases hx; omega)) la_ok Tryz.func5 rfl d0 run0 hg
  by_cases h5 : 4096 < z
  · exact law_of (U := UU z s) (r := R5) (uu_one z s) (rg_ok u0 (fun x hx => by cases hx; omega) (fun x hx => by cases hx)) la_ok Tryz.func5 rfl d0 run5 hg
  by_cases h1 : z = 1
  · subst h1
    exact law_of (U := UU 1 s) (r := .e) (uu_one 1 s) RgOk.e (two_ok (one_ok rfl mb24_ok)) Tryz.func5 rfl (l := [.v (.int .i64 1), .u 1]) (.cons (by simp only [Den]) d1) run1 hg
  by_cases h2 : z = 2
  · subst h2
    exact law_of (U := UU 2 s) (r := .e) (uu_one 2 s) RgOk.e (two_ok (one_ok rfl mb25_ok)) Tryz.func5 rfl (l := [.v (.int .i64 2), .u 1]) (.cons (by simp only [Den]) d1) run2 hg
  have hR : RgOk (UU z s) RB := rg_ok u0 (fun x hx => by cases hx; omega) (fun x hx => by cases hx; omega)
  exact law_of (U := UU z s) (r := RB) (uu_one z s) hR (two_ok (rb_hook hR)) Tryz.func5 rfl d0 runR hg
end Go.CE
