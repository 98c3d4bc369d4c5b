/-
  Part 20 of the proof.
-/
import Derived.Test.YtohmdnnagmjnkaaGreatDoorRows
import Derived.JoinedCond
set_option linter.unusedSimpArgs false
set_option linter.unusedVariables false
set_option linter.defProp false
namespace Go.Proofs.YtohmdnnagmjnkaaGreatDoor.canonNil
set_option maxRecDepth 100000
theorem k0 : Rows.canonNilRow.wf (OpenSpec.ofChange (OpenSpec.ofChange Rows.canonNilSpec).bare) = true := by kernel_rfl
theorem k1 : laidOutB Tryz.prog = true := by kernel_rfl
theorem k2 : mapsRowed Tryz.prog = true := by kernel_rfl
theorem k3 : Tryz.f5.params.all (Tryz.prog.readableRec ·) = true := by kernel_rfl
theorem k4 : namedTie Tryz.prog Rows.canonNilRow.named (OpenSpec.ofChange Rows.canonNilSpec).bare.vars = true := by kernel_rfl
theorem k5 : (Rows.canonNilRow.stops == []) = true := by kernel_rfl
theorem k6 : (Tryz.prog.stops == []) = true := by kernel_rfl
theorem k7 : (Rows.canonNilRow.knobs == []) = true := by kernel_rfl
theorem k8 : (Tryz.prog.stopKnobs == []) = true := by kernel_rfl
theorem k9 : (Rows.canonNilRow.inPlace == Tryz.prog.inPlace 5) = true := by kernel_rfl
theorem k10 : (Rows.canonNilRow.unfollowed == Tryz.prog.unfollowed 5) = true := by kernel_rfl
theorem k11 : (Rows.canonNilRow.recurses == Tryz.prog.recurses 5) = true := by kernel_rfl
theorem k12 : (Rows.canonNilRow.named == Tryz.prog.varsNamed 5) = true := by kernel_rfl
theorem k13 : (Rows.canonNilRow.maps == (Tryz.f5.params.toList ++ (OpenSpec.ofChange Rows.canonNilSpec).bare.plain.varTypes Tryz.prog).any (Tryz.prog.mapsRec ·)) = true := by kernel_rfl
theorem k14 : (Rows.canonNilRow.ifaces == (Tryz.f5.params.toList ++ (OpenSpec.ofChange Rows.canonNilSpec).bare.plain.varTypes Tryz.prog).any (Tryz.prog.ifacesRec ·)) = true := by kernel_rfl
theorem k15 : (Rows.canonNilRow.mapsOut == Tryz.prog.mapsAmong Tryz.f5.resultTypes.toList) = true := by kernel_rfl
theorem k16 : (Rows.canonNilRow.loops == (Tryz.f5.params.toList ++ (OpenSpec.ofChange Rows.canonNilSpec).bare.plain.varTypes Tryz.prog).any (Tryz.prog.loopsFrom ·)) = true := by kernel_rfl
theorem k17 : (Rows.canonNilRow.wideKeys == (Tryz.f5.params.toList ++ (OpenSpec.ofChange Rows.canonNilSpec).bare.plain.varTypes Tryz.prog ++ Tryz.f5.resultTypes.toList).any (Tryz.prog.wideKeysFrom ·)) = true := by kernel_rfl
theorem k18 : (OpenSpec.ofChange Rows.canonNilSpec).bare.vars.all (Tryz.prog.varReadable ·) = true := by kernel_rfl
theorem k19 : Tryz.f5.resultTypes.all (fun t => Tryz.prog.readableRec t && decide (t < Tryz.prog.types.size)) = true := by kernel_rfl
theorem k20 : (Rows.canonNilRow.ifacesOut == Tryz.f5.resultTypes.toList.any (Tryz.prog.ifacesRec ·)) = true := by kernel_rfl
theorem k21 : (Rows.canonNilRow.loopsOut == Tryz.f5.resultTypes.toList.any (Tryz.prog.loopsFrom ·)) = true := by kernel_rfl
theorem k22 : (Rows.canonNilRow.plainKeys == Tryz.prog.plainKeys) = true := by kernel_rfl
theorem k23 : Rows.canonNilRow.shortTexts.isNone = true := by kernel_rfl
theorem k24 : Tryz.prog.stopsHeard = true := by kernel_rfl
theorem k25 : Tryz.prog.mayEnter = true := by kernel_rfl
theorem k26 : (Rows.canonNilRow.lifted == Tryz.prog.liftsFinal) = true := by kernel_rfl
theorem k27 : (Tryz.prog.make == some Rows.canonNilRow.make) = true := by kernel_rfl
theorem k28 : (Rows.canonNilRow.kinds == (if Rows.canonNilRow.domain.isEmpty then [] else Tryz.f5.params.toList.map fun t => match Tryz.prog.underlying t with | some (.int k) => some k | _ => none)) = true := by kernel_rfl
theorem k29 : (Rows.canonNilRow.pinned == Rows.canonNilRow.pinnedBy) = true := by kernel_rfl
theorem k30 : (Rows.canonNilRow.veiled == (Tryz.f5.params.toList ++ (OpenSpec.ofChange Rows.canonNilSpec).bare.plain.varTypes Tryz.prog ++ Tryz.f5.resultTypes.toList).any (Tryz.prog.veiledRec ·)) = true := by kernel_rfl
theorem k31 : Rows.canonNilRow.veiledFits Tryz.prog Tryz.f5.params.toList (Tryz.f5.params.toList ++ (OpenSpec.ofChange Rows.canonNilSpec).bare.plain.varTypes Tryz.prog ++ Tryz.f5.resultTypes.toList) = true := by kernel_rfl
theorem facts : joinedFacts Tryz.prog 5 Tryz.f5 (OpenSpec.ofChange Rows.canonNilSpec).bare Rows.canonNilRow = true := by
  unfold joinedFacts
  simp only [Bool.and_eq_true]
  exact ⟨⟨⟨⟨⟨⟨⟨⟨⟨⟨⟨⟨⟨⟨⟨⟨⟨⟨⟨⟨⟨⟨⟨⟨⟨⟨⟨⟨⟨⟨⟨k0, k1⟩, k2⟩, k3⟩, k4⟩, k5⟩, k6⟩, k7⟩, k8⟩, k9⟩, k10⟩, k11⟩, k12⟩, k13⟩, k14⟩, k15⟩, k16⟩, k17⟩, k18⟩, k19⟩, k20⟩, k21⟩, k22⟩, k23⟩, k24⟩, k25⟩, k26⟩, k27⟩, k28⟩, k29⟩, k30⟩, k31⟩
end Go.Proofs.YtohmdnnagmjnkaaGreatDoor.canonNil
