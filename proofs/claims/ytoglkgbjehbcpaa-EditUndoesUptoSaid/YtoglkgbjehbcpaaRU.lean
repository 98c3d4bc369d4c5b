/-
  EditUndoesUptoSaid: EditUndoes returns true for every text and every list of edits whose bulk together is at most 1048576, and leaves them as they were.
-/
import Derived.Test.YtoglkgbjehbcpaaEU
import Derived.Test.YtoglkgbjehbcpaaRK
namespace Go.Proofs.Ytoglkgbjehbcpaa.editUndoes
open Go.ChangeShapes Go.WideShapes Go.ChangeAt Go.RowKit Go.LE
open Go.ChangeMaps (open_string shut_string)
set_option linter.unusedVariables false

theorem contract (H : Type) (enc : TypeId × Value → H) (W : World) (base : Nat) (args : Array Value) (ds gs : List (DataW H)) (before : List MemPlace)
    (hval : ∀ (j : Nat) t v, Try.f5.params[j]? = some t → args[j]? = some v → Value.okWide Try.prog W .any base t v)
    (hW : DataW.Whole enc Try.prog Try.f5.params.toList Rows.editUndoesSpec.vars false W args.toList ds gs before) (hk : Rows.uptoSmall H (ds ++ gs) = true) :
    Calls Try.prog 5 args W fun e W' => ∃ v, e = .returned v ∧ Rows.editUndoesSpec.post enc Try.prog Try.f5 false true false false W args v W' := by
  have hW' := hW
  obtain ⟨p, q, hA0, hV, rfl, hfz, hnd⟩ := hW
  have hA : DataW.TrodAll enc Try.prog W 0 (fun _ => true) true Try.f5.params.toList args.toList ds p := hA0
  rw [Try.params5] at hA hval
  obtain ⟨v0, vs0, d0, ds0, p0, q0, hargs, rfl, rfl, h0, r0⟩ := trodAll_cons hA
  obtain ⟨v1, vs1, d1, ds1, p1, q1, rfl, rfl, rfl, h1, r1⟩ := trodAll_cons r0
  obtain ⟨rfl, rfl, rfl⟩ := trodAll_nil r1
  obtain rfl : args = #[v0, v1] := by cases args; simp_all
  obtain ⟨rfl, rfl⟩ := trodVars_none hV
  obtain ⟨a, rfl, rfl, rfl, ha⟩ := open_string Try.underlying9 (hval 0 9 v0 rfl rfl) h0
  have hbulk : (a.data.toList.length + 1) + Rows.uptoBulk d1 ≤ 1048576 := by
    have h : Rows.uptoBulkAll [DataW.lit (H := H) (.string a.data.toList), d1] ≤ 1048576 := of_decide_eq_true hk
    simpa only [Rows.uptoBulkAll, Rows.uptoBulk, Nat.add_zero] using h
  have hsz : a.data.toList.length = a.size := by rw [Array.length_toList]; rfl
  obtain ⟨ao, c, l, rfl, hsl, hl, hp⟩ := open_eds (hval 1 22 v1 rfl rfl) h1 (by omega)
  refine (undoes_any a l ao c W (by omega) (fun e he => Nat.le_trans (hp e he) (by omega)) hl hsl).mono fun e W' ⟨he, hkp⟩ => ?_
  subst he
  exact ⟨_, rfl, law_post laid0 maps0 full0 (by kernel_rfl) (tb := 4) rfl Try.underlying4 rfl hW' rfl rfl rfl hkp⟩

set_option maxRecDepth 100000 in
theorem lifted (os : Os) (started : os.Started) (H : Type) (enc : TypeId × Value → H) (F : Stop.Interp) :
    ReturnsInHanded {} Try.checked os 5 .any ((Rows.OpenSpec.upto Rows.editUndoesSpec).pre6 enc Try.prog Try.f5 Rows.editUndoesUptoRow.domain false) (((Rows.OpenSpec.upto Rows.editUndoesSpec).at F).post enc Try.prog Try.f5 false true false false) := by
  refine returnsInHanded_of_cond (C := Try.checked) (s := Rows.OpenSpec.upto Rows.editUndoesSpec) (k := Rows.uptoSmall) rfl own0 started (by kernel_rfl) Try.func5
    (OpenSpec.witness (enc := enc) (C := Try.checked) (s := Rows.OpenSpec.upto Rows.editUndoesSpec) (k := Rows.uptoSmall) rfl false ⟨#[], #[.string .empty, .slice none 0 0], []⟩ 8 (by kernel_rfl) (by kernel_rfl) (by kernel_rfl)
      (x := ([.lit (.string []), .nil], [], [])) (by kernel_rfl) rfl (by kernel_rfl)) ?_
  intro W base args ds gs before hval hW _ hk _
  exact contract H enc W base args ds gs before hval hW hk

theorem proved : Rows.EditUndoesUptoSaid :=
  OpenClaim.holds_of_cond 5 Try.f5 rfl rfl rfl rfl rfl rfl rfl ⟨rfl, rfl, rfl, rfl, rfl⟩ rfl rfl rfl rfl rfl (by kernel_rfl) Try.func5 (by kernel_rfl)
    (of_decide_eq_true (by kernel_rfl)) (by unfold Func.isWrapper; first | (rw [if_pos (by decide +kernel)]; kernel_rfl) | (rw [if_neg (by decide +kernel)]; exact ⟨rfl, rfl⟩))
    (fun os started H enc _ F => lifted os started H enc F)
#print axioms proved
end Go.Proofs.Ytoglkgbjehbcpaa.editUndoes
