import Derived.Test.YtcipamclhpcaaaaGreatDoorRows
import Derived.WalkKit
import Derived.ProofKit
import Derived.OpenShut
/- Closed facts of the row. -/
namespace Go.Proofs.YtcipamclhpcaaaaGreatDoor.shellLong
open Go.ChangeShapes Go.WideShapes Go.ChangeAt Go.RowKit
theorem k1 : Rows.shellLongRow.wf (OpenSpec.ofChange Rows.shellLongSpec) = true := by kernel_rfl
theorem k4 : Tryz.f5.params.all (Tryz.prog.readableRec ·) = true := by kernel_rfl
theorem k5 : namedTie Tryz.prog Rows.shellLongRow.named Rows.shellLongSpec.vars = true := by kernel_rfl
theorem k6 : (Rows.shellLongRow.stops == []) = true := by kernel_rfl
theorem k8 : (Rows.shellLongRow.knobs == []) = true := by kernel_rfl
theorem k10 : (Rows.shellLongRow.inPlace == Tryz.prog.inPlace 5) = true := by kernel_rfl
theorem k11 : (Rows.shellLongRow.unfollowed == Tryz.prog.unfollowed 5) = true := by kernel_rfl
theorem k12 : (Rows.shellLongRow.recurses == Tryz.prog.recurses 5) = true := by kernel_rfl
theorem k13 : (Rows.shellLongRow.named == Tryz.prog.varsNamed 5) = true := by kernel_rfl
theorem k14 : (Rows.shellLongRow.maps == (Tryz.f5.params.toList ++ Rows.shellLongSpec.plain.varTypes Tryz.prog).any (Tryz.prog.mapsRec ·)) = true := by kernel_rfl
theorem k15 : (Rows.shellLongRow.ifaces == (Tryz.f5.params.toList ++ Rows.shellLongSpec.plain.varTypes Tryz.prog).any (Tryz.prog.ifacesRec ·)) = true := by kernel_rfl
theorem k16 : (Rows.shellLongRow.mapsOut == Tryz.prog.mapsAmong Tryz.f5.resultTypes.toList) = true := by kernel_rfl
theorem k17 : (Rows.shellLongRow.loops == (Tryz.f5.params.toList ++ Rows.shellLongSpec.plain.varTypes Tryz.prog).any (Tryz.prog.loopsFrom ·)) = true := by kernel_rfl
theorem k18 : (Rows.shellLongRow.wideKeys == (Tryz.f5.params.toList ++ Rows.shellLongSpec.plain.varTypes Tryz.prog ++ Tryz.f5.resultTypes.toList).any (Tryz.prog.wideKeysFrom ·)) = true := by kernel_rfl
theorem k19 : Rows.shellLongSpec.vars.all (Tryz.prog.varReadable ·) = true := by kernel_rfl
theorem k20 : Tryz.f5.resultTypes.all (fun t => Tryz.prog.readableRec t && decide (t < Tryz.prog.types.size)) = true := by kernel_rfl
theorem k21 : (Rows.shellLongRow.ifacesOut == Tryz.f5.resultTypes.toList.any (Tryz.prog.ifacesRec ·)) = true := by kernel_rfl
theorem k22 : (Rows.shellLongRow.loopsOut == Tryz.f5.resultTypes.toList.any (Tryz.prog.loopsFrom ·)) = true := by kernel_rfl
theorem k23 : (Rows.shellLongRow.plainKeys == Tryz.prog.plainKeys) = true := by kernel_rfl
theorem k24 : Rows.shellLongRow.shortTexts.isNone = true := by kernel_rfl
theorem k27 : (Rows.shellLongRow.lifted == Tryz.prog.liftsFinal) = true := by kernel_rfl
theorem k28 : (Tryz.prog.make == some Rows.shellLongRow.make) = true := by kernel_rfl
theorem k30 : (Rows.shellLongRow.pinned == Rows.shellLongRow.pinnedBy) = true := by kernel_rfl
theorem k31 : (Rows.shellLongRow.veiled == (Tryz.f5.params.toList ++ Rows.shellLongSpec.plain.varTypes Tryz.prog ++ Tryz.f5.resultTypes.toList).any (Tryz.prog.veiledRec ·)) = true := by kernel_rfl
theorem k32 : Rows.shellLongRow.veiledFits Tryz.prog Tryz.f5.params.toList (Tryz.f5.params.toList ++ Rows.shellLongSpec.plain.varTypes Tryz.prog ++ Tryz.f5.resultTypes.toList) = true := by kernel_rfl
theorem kn : Tryz.prog.funcNamed Rows.shellLongRow.func = some 5 := by kernel_rfl
end Go.Proofs.YtcipamclhpcaaaaGreatDoor.shellLong

