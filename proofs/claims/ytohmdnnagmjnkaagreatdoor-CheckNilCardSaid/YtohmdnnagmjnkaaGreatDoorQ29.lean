/-
  Part 29 of the proof.
-/
import Derived.Test.YtohmdnnagmjnkaaGreatDoorRows
import Derived.JoinedCond
set_option linter.unusedSimpArgs false
set_option linter.unusedVariables false
set_option linter.defProp false
namespace Go.Proofs.YtohmdnnagmjnkaaGreatDoor.checkNil
set_option maxRecDepth 100000
theorem k0 : Rows.checkNilRow.wf (OpenSpec.ofChange (OpenSpec.ofChange Rows.checkNilSpec).bare) = true := by kernel_rfl
theorem k1 : laidOutB Tryz.prog = true := by kernel_rfl
theorem k2 : mapsRowed Tryz.prog = true := by kernel_rfl
theorem k3 : Tryz.f6.params.all (Tryz.prog.readableRec ·) = true := by kernel_rfl
theorem k4 : namedTie Tryz.prog Rows.checkNilRow.named (OpenSpec.ofChange Rows.checkNilSpec).bare.vars = true := by kernel_rfl
theorem k5 : (Rows.checkNilRow.stops == []) = true := by kernel_rfl
theorem k6 : (Tryz.prog.stops == []) = true := by kernel_rfl
theorem k7 : (Rows.checkNilRow.knobs == []) = true := by kernel_rfl
theorem k8 : (Tryz.prog.stopKnobs == []) = true := by kernel_rfl
theorem k9 : (Rows.checkNilRow.inPlace == Tryz.prog.inPlace 6) = true := by kernel_rfl
theorem k10 : (Rows.checkNilRow.unfollowed == Tryz.prog.unfollowed 6) = true := by kernel_rfl
theorem k11 : (Rows.checkNilRow.recurses == Tryz.prog.recurses 6) = true := by kernel_rfl
theorem k12 : (Rows.checkNilRow.named == Tryz.prog.varsNamed 6) = true := by kernel_rfl
theorem k13 : (Rows.checkNilRow.maps == (Tryz.f6.params.toList ++ (OpenSpec.ofChange Rows.checkNilSpec).bare.plain.varTypes Tryz.prog).any (Tryz.prog.mapsRec ·)) = true := by kernel_rfl
theorem k14 : (Rows.checkNilRow.ifaces == (Tryz.f6.params.toList ++ (OpenSpec.ofChange Rows.checkNilSpec).bare.plain.varTypes Tryz.prog).any (Tryz.prog.ifacesRec ·)) = true := by kernel_rfl
theorem k15 : (Rows.checkNilRow.mapsOut == Tryz.prog.mapsAmong Tryz.f6.resultTypes.toList) = true := by kernel_rfl
theorem k16 : (Rows.checkNilRow.loops == (Tryz.f6.params.toList ++ (OpenSpec.ofChange Rows.checkNilSpec).bare.plain.varTypes Tryz.prog).any (Tryz.prog.loopsFrom ·)) = true := by kernel_rfl
theorem k17 : (Rows.checkNilRow.wideKeys == (Tryz.f6.params.toList ++ (OpenSpec.ofChange Rows.checkNilSpec).bare.plain.varTypes Tryz.prog ++ Tryz.f6.resultTypes.toList).any (Tryz.prog.wideKeysFrom ·)) = true := by kernel_rfl
theorem k18 : (OpenSpec.ofChange Rows.checkNilSpec).bare.vars.all (Tryz.prog.varReadable ·) = true := by kernel_rfl
theorem k19 : Tryz.f6.resultTypes.all (fun t => Tryz.prog.readableRec t && decide (t < Tryz.prog.types.size)) = true := by kernel_rfl
theorem k20 : (Rows.checkNilRow.ifacesOut == Tryz.f6.resultTypes.toList.any (Tryz.prog.ifacesRec ·)) = true := by kernel_rfl
theorem k21 : (Rows.checkNilRow.loopsOut == Tryz.f6.resultTypes.toList.any (Tryz.prog.loopsFrom ·)) = true := by kernel_rfl
theorem k22 : (Rows.checkNilRow.plainKeys == Tryz.prog.plainKeys) = true := by kernel_rfl
theorem k23 : Rows.checkNilRow.shortTexts.isNone = true := by kernel_rfl
theorem k24 : Tryz.prog.stopsHeard = true := by kernel_rfl
theorem k25 : Tryz.prog.mayEnter = true := by kernel_rfl
theorem k26 : (Rows.checkNilRow.lifted == Tryz.prog.liftsFinal) = true := by kernel_rfl
theorem k27 : (Tryz.prog.make == some Rows.checkNilRow.make) = true := by kernel_rfl
theorem k28 : (Rows.checkNilRow.kinds == (if Rows.checkNilRow.domain.isEmpty then [] else Tryz.f6.params.toList.map fun t => match Tryz.prog.underlying t with | some (.int k) => some k | _ => none)) = true := by kernel_rfl
theorem k29 : (Rows.checkNilRow.pinned == Rows.checkNilRow.pinnedBy) = true := by kernel_rfl
theorem k30 : (Rows.checkNilRow.veiled == (Tryz.f6.params.toList ++ (OpenSpec.ofChange Rows.checkNilSpec).bare.plain.varTypes Tryz.prog ++ Tryz.f6.resultTypes.toList).any (Tryz.prog.veiledRec ·)) = true := by kernel_rfl
theorem k31 : Rows.checkNilRow.veiledFits Tryz.prog Tryz.f6.params.toList (Tryz.f6.params.toList ++ (OpenSpec.ofChange Rows.checkNilSpec).bare.plain.varTypes Tryz.prog ++ Tryz.f6.resultTypes.toList) = true := by kernel_rfl
theorem facts : joinedFacts Tryz.prog 6 Tryz.f6 (OpenSpec.ofChange Rows.checkNilSpec).bare Rows.checkNilRow = true := by
  unfold joinedFacts
  simp only [Bool.and_eq_true]
  exact ⟨⟨⟨⟨⟨⟨⟨⟨⟨⟨⟨⟨⟨⟨⟨⟨⟨⟨⟨⟨⟨⟨⟨⟨⟨⟨⟨⟨⟨⟨⟨k0, k1⟩, k2⟩, k3⟩, k4⟩, k5⟩, k6⟩, k7⟩, k8⟩, k9⟩, k10⟩, k11⟩, k12⟩, k13⟩, k14⟩, k15⟩, k16⟩, k17⟩, k18⟩, k19⟩, k20⟩, k21⟩, k22⟩, k23⟩, k24⟩, k25⟩, k26⟩, k27⟩, k28⟩, k29⟩, k30⟩, k31⟩
end Go.Proofs.YtohmdnnagmjnkaaGreatDoor.checkNil
