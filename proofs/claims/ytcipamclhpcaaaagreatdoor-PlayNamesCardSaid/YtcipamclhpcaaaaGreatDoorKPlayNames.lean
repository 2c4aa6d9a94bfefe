import Derived.Test.YtcipamclhpcaaaaGreatDoorRows
import Derived.WalkKit
import Derived.ProofKit
import Derived.OpenShut
/- Closed facts of the row. -/
namespace Go.Proofs.YtcipamclhpcaaaaGreatDoor.playNames
open Go.ChangeShapes Go.WideShapes Go.ChangeAt Go.RowKit
theorem k1 : Rows.playNamesRow.wf (OpenSpec.ofChange Rows.playNamesSpec) = true := by kernel_rfl
theorem k4 : Tryz.f3.params.all (Tryz.prog.readableRec ·) = true := by kernel_rfl
theorem k5 : namedTie Tryz.prog Rows.playNamesRow.named Rows.playNamesSpec.vars = true := by kernel_rfl
theorem k6 : (Rows.playNamesRow.stops == []) = true := by kernel_rfl
theorem k8 : (Rows.playNamesRow.knobs == []) = true := by kernel_rfl
theorem k10 : (Rows.playNamesRow.inPlace == Tryz.prog.inPlace 3) = true := by kernel_rfl
theorem k11 : (Rows.playNamesRow.unfollowed == Tryz.prog.unfollowed 3) = true := by kernel_rfl
theorem k12 : (Rows.playNamesRow.recurses == Tryz.prog.recurses 3) = true := by kernel_rfl
theorem k13 : (Rows.playNamesRow.named == Tryz.prog.varsNamed 3) = true := by kernel_rfl
theorem k14 : (Rows.playNamesRow.maps == (Tryz.f3.params.toList ++ Rows.playNamesSpec.plain.varTypes Tryz.prog).any (Tryz.prog.mapsRec ·)) = true := by kernel_rfl
theorem k15 : (Rows.playNamesRow.ifaces == (Tryz.f3.params.toList ++ Rows.playNamesSpec.plain.varTypes Tryz.prog).any (Tryz.prog.ifacesRec ·)) = true := by kernel_rfl
theorem k16 : (Rows.playNamesRow.mapsOut == Tryz.prog.mapsAmong Tryz.f3.resultTypes.toList) = true := by kernel_rfl
theorem k17 : (Rows.playNamesRow.loops == (Tryz.f3.params.toList ++ Rows.playNamesSpec.plain.varTypes Tryz.prog).any (Tryz.prog.loopsFrom ·)) = true := by kernel_rfl
theorem k18 : (Rows.playNamesRow.wideKeys == (Tryz.f3.params.toList ++ Rows.playNamesSpec.plain.varTypes Tryz.prog ++ Tryz.f3.resultTypes.toList).any (Tryz.prog.wideKeysFrom ·)) = true := by kernel_rfl
theorem k19 : Rows.playNamesSpec.vars.all (Tryz.prog.varReadable ·) = true := by kernel_rfl
theorem k20 : Tryz.f3.resultTypes.all (fun t => Tryz.prog.readableRec t && decide (t < Tryz.prog.types.size)) = true := by kernel_rfl
theorem k21 : (Rows.playNamesRow.ifacesOut == Tryz.f3.resultTypes.toList.any (Tryz.prog.ifacesRec ·)) = true := by kernel_rfl
theorem k22 : (Rows.playNamesRow.loopsOut == Tryz.f3.resultTypes.toList.any (Tryz.prog.loopsFrom ·)) = true := by kernel_rfl
theorem k23 : (Rows.playNamesRow.plainKeys == Tryz.prog.plainKeys) = true := by kernel_rfl
theorem k24 : Rows.playNamesRow.shortTexts.isNone = true := by kernel_rfl
theorem k27 : (Rows.playNamesRow.lifted == Tryz.prog.liftsFinal) = true := by kernel_rfl
theorem k28 : (Tryz.prog.make == some Rows.playNamesRow.make) = true := by kernel_rfl
theorem k30 : (Rows.playNamesRow.pinned == Rows.playNamesRow.pinnedBy) = true := by kernel_rfl
theorem k31 : (Rows.playNamesRow.veiled == (Tryz.f3.params.toList ++ Rows.playNamesSpec.plain.varTypes Tryz.prog ++ Tryz.f3.resultTypes.toList).any (Tryz.prog.veiledRec ·)) = true := by kernel_rfl
theorem k32 : Rows.playNamesRow.veiledFits Tryz.prog Tryz.f3.params.toList (Tryz.f3.params.toList ++ Rows.playNamesSpec.plain.varTypes Tryz.prog ++ Tryz.f3.resultTypes.toList) = true := by kernel_rfl
theorem kn : Tryz.prog.funcNamed Rows.playNamesRow.func = some 3 := by kernel_rfl
end Go.Proofs.YtcipamclhpcaaaaGreatDoor.playNames

