/-
  Part 18 of the proof.
-/
import Derived.Test.YtohmdnnagmjnkaaGreatDoorRows
import Derived.JoinedCond
set_option linter.unusedSimpArgs false
set_option linter.unusedVariables false
set_option linter.defProp false
namespace Go.Proofs.YtohmdnnagmjnkaaGreatDoor.streamNil
set_option maxRecDepth 100000
theorem k0 : Rows.streamNilRow.wf (OpenSpec.ofChange (OpenSpec.ofChange Rows.streamNilSpec).bare) = true := by kernel_rfl
theorem k1 : laidOutB Tryz.prog = true := by kernel_rfl
theorem k2 : mapsRowed Tryz.prog = true := by kernel_rfl
theorem k3 : Tryz.f4.params.all (Tryz.prog.readableRec ·) = true := by kernel_rfl
theorem k4 : namedTie Tryz.prog Rows.streamNilRow.named (OpenSpec.ofChange Rows.streamNilSpec).bare.vars = true := by kernel_rfl
theorem k5 : (Rows.streamNilRow.stops == []) = true := by kernel_rfl
theorem k6 : (Tryz.prog.stops == []) = true := by kernel_rfl
theorem k7 : (Rows.streamNilRow.knobs == []) = true := by kernel_rfl
theorem k8 : (Tryz.prog.stopKnobs == []) = true := by kernel_rfl
theorem k9 : (Rows.streamNilRow.inPlace == Tryz.prog.inPlace 4) = true := by kernel_rfl
theorem k10 : (Rows.streamNilRow.unfollowed == Tryz.prog.unfollowed 4) = true := by kernel_rfl
theorem k11 : (Rows.streamNilRow.recurses == Tryz.prog.recurses 4) = true := by kernel_rfl
theorem k12 : (Rows.streamNilRow.named == Tryz.prog.varsNamed 4) = true := by kernel_rfl
theorem k13 : (Rows.streamNilRow.maps == (Tryz.f4.params.toList ++ (OpenSpec.ofChange Rows.streamNilSpec).bare.plain.varTypes Tryz.prog).any (Tryz.prog.mapsRec ·)) = true := by kernel_rfl
theorem k14 : (Rows.streamNilRow.ifaces == (Tryz.f4.params.toList ++ (OpenSpec.ofChange Rows.streamNilSpec).bare.plain.varTypes Tryz.prog).any (Tryz.prog.ifacesRec ·)) = true := by kernel_rfl
theorem k15 : (Rows.streamNilRow.mapsOut == Tryz.prog.mapsAmong Tryz.f4.resultTypes.toList) = true := by kernel_rfl
theorem k16 : (Rows.streamNilRow.loops == (Tryz.f4.params.toList ++ (OpenSpec.ofChange Rows.streamNilSpec).bare.plain.varTypes Tryz.prog).any (Tryz.prog.loopsFrom ·)) = true := by kernel_rfl
theorem k17 : (Rows.streamNilRow.wideKeys == (Tryz.f4.params.toList ++ (OpenSpec.ofChange Rows.streamNilSpec).bare.plain.varTypes Tryz.prog ++ Tryz.f4.resultTypes.toList).any (Tryz.prog.wideKeysFrom ·)) = true := by kernel_rfl
theorem k18 : (OpenSpec.ofChange Rows.streamNilSpec).bare.vars.all (Tryz.prog.varReadable ·) = true := by kernel_rfl
theorem k19 : Tryz.f4.resultTypes.all (fun t => Tryz.prog.readableRec t && decide (t < Tryz.prog.types.size)) = true := by kernel_rfl
theorem k20 : (Rows.streamNilRow.ifacesOut == Tryz.f4.resultTypes.toList.any (Tryz.prog.ifacesRec ·)) = true := by kernel_rfl
theorem k21 : (Rows.streamNilRow.loopsOut == Tryz.f4.resultTypes.toList.any (Tryz.prog.loopsFrom ·)) = true := by kernel_rfl
theorem k22 : (Rows.streamNilRow.plainKeys == Tryz.prog.plainKeys) = true := by kernel_rfl
theorem k23 : Rows.streamNilRow.shortTexts.isNone = true := by kernel_rfl
theorem k24 : Tryz.prog.stopsHeard = true := by kernel_rfl
theorem k25 : Tryz.prog.mayEnter = true := by kernel_rfl
theorem k26 : (Rows.streamNilRow.lifted == Tryz.prog.liftsFinal) = true := by kernel_rfl
theorem k27 : (Tryz.prog.make == some Rows.streamNilRow.make) = true := by kernel_rfl
theorem k28 : (Rows.streamNilRow.kinds == (if Rows.streamNilRow.domain.isEmpty then [] else Tryz.f4.params.toList.map fun t => match Tryz.prog.underlying t with | some (.int k) => some k | _ => none)) = true := by kernel_rfl
theorem k29 : (Rows.streamNilRow.pinned == Rows.streamNilRow.pinnedBy) = true := by kernel_rfl
theorem k30 : (Rows.streamNilRow.veiled == (Tryz.f4.params.toList ++ (OpenSpec.ofChange Rows.streamNilSpec).bare.plain.varTypes Tryz.prog ++ Tryz.f4.resultTypes.toList).any (Tryz.prog.veiledRec ·)) = true := by kernel_rfl
theorem k31 : Rows.streamNilRow.veiledFits Tryz.prog Tryz.f4.params.toList (Tryz.f4.params.toList ++ (OpenSpec.ofChange Rows.streamNilSpec).bare.plain.varTypes Tryz.prog ++ Tryz.f4.resultTypes.toList) = true := by kernel_rfl
theorem facts : joinedFacts Tryz.prog 4 Tryz.f4 (OpenSpec.ofChange Rows.streamNilSpec).bare Rows.streamNilRow = true := by
  unfold joinedFacts
  simp only [Bool.and_eq_true]
  exact ⟨⟨⟨⟨⟨⟨⟨⟨⟨⟨⟨⟨⟨⟨⟨⟨⟨⟨⟨⟨⟨⟨⟨⟨⟨⟨⟨⟨⟨⟨⟨k0, k1⟩, k2⟩, k3⟩, k4⟩, k5⟩, k6⟩, k7⟩, k8⟩, k9⟩, k10⟩, k11⟩, k12⟩, k13⟩, k14⟩, k15⟩, k16⟩, k17⟩, k18⟩, k19⟩, k20⟩, k21⟩, k22⟩, k23⟩, k24⟩, k25⟩, k26⟩, k27⟩, k28⟩, k29⟩, k30⟩, k31⟩
end Go.Proofs.YtohmdnnagmjnkaaGreatDoor.streamNil
