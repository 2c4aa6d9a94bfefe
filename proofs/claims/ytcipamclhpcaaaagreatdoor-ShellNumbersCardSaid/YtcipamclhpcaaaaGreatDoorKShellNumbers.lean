import Derived.Test.YtcipamclhpcaaaaGreatDoorRows
import Derived.WalkKit
import Derived.ProofKit
import Derived.OpenShut
/- Closed facts of the row. -/
namespace Go.Proofs.YtcipamclhpcaaaaGreatDoor.shellNumbers
open Go.ChangeShapes Go.WideShapes Go.ChangeAt Go.RowKit
theorem k1 : Rows.shellNumbersRow.wf (OpenSpec.ofChange Rows.shellNumbersSpec) = true := by kernel_rfl
theorem k4 : Tryz.f4.params.all (Tryz.prog.readableRec ·) = true := by kernel_rfl
theorem k5 : namedTie Tryz.prog Rows.shellNumbersRow.named Rows.shellNumbersSpec.vars = true := by kernel_rfl
theorem k6 : (Rows.shellNumbersRow.stops == []) = true := by kernel_rfl
theorem k8 : (Rows.shellNumbersRow.knobs == []) = true := by kernel_rfl
theorem k10 : (Rows.shellNumbersRow.inPlace == Tryz.prog.inPlace 4) = true := by kernel_rfl
theorem k11 : (Rows.shellNumbersRow.unfollowed == Tryz.prog.unfollowed 4) = true := by kernel_rfl
theorem k12 : (Rows.shellNumbersRow.recurses == Tryz.prog.recurses 4) = true := by kernel_rfl
theorem k13 : (Rows.shellNumbersRow.named == Tryz.prog.varsNamed 4) = true := by kernel_rfl
theorem k14 : (Rows.shellNumbersRow.maps == (Tryz.f4.params.toList ++ Rows.shellNumbersSpec.plain.varTypes Tryz.prog).any (Tryz.prog.mapsRec ·)) = true := by kernel_rfl
theorem k15 : (Rows.shellNumbersRow.ifaces == (Tryz.f4.params.toList ++ Rows.shellNumbersSpec.plain.varTypes Tryz.prog).any (Tryz.prog.ifacesRec ·)) = true := by kernel_rfl
theorem k16 : (Rows.shellNumbersRow.mapsOut == Tryz.prog.mapsAmong Tryz.f4.resultTypes.toList) = true := by kernel_rfl
theorem k17 : (Rows.shellNumbersRow.loops == (Tryz.f4.params.toList ++ Rows.shellNumbersSpec.plain.varTypes Tryz.prog).any (Tryz.prog.loopsFrom ·)) = true := by kernel_rfl
theorem k18 : (Rows.shellNumbersRow.wideKeys == (Tryz.f4.params.toList ++ Rows.shellNumbersSpec.plain.varTypes Tryz.prog ++ Tryz.f4.resultTypes.toList).any (Tryz.prog.wideKeysFrom ·)) = true := by kernel_rfl
theorem k19 : Rows.shellNumbersSpec.vars.all (Tryz.prog.varReadable ·) = true := by kernel_rfl
theorem k20 : Tryz.f4.resultTypes.all (fun t => Tryz.prog.readableRec t && decide (t < Tryz.prog.types.size)) = true := by kernel_rfl
theorem k21 : (Rows.shellNumbersRow.ifacesOut == Tryz.f4.resultTypes.toList.any (Tryz.prog.ifacesRec ·)) = true := by kernel_rfl
theorem k22 : (Rows.shellNumbersRow.loopsOut == Tryz.f4.resultTypes.toList.any (Tryz.prog.loopsFrom ·)) = true := by kernel_rfl
theorem k23 : (Rows.shellNumbersRow.plainKeys == Tryz.prog.plainKeys) = true := by kernel_rfl
theorem k24 : Rows.shellNumbersRow.shortTexts.isNone = true := by kernel_rfl
theorem k27 : (Rows.shellNumbersRow.lifted == Tryz.prog.liftsFinal) = true := by kernel_rfl
theorem k28 : (Tryz.prog.make == some Rows.shellNumbersRow.make) = true := by kernel_rfl
theorem k30 : (Rows.shellNumbersRow.pinned == Rows.shellNumbersRow.pinnedBy) = true := by kernel_rfl
theorem k31 : (Rows.shellNumbersRow.veiled == (Tryz.f4.params.toList ++ Rows.shellNumbersSpec.plain.varTypes Tryz.prog ++ Tryz.f4.resultTypes.toList).any (Tryz.prog.veiledRec ·)) = true := by kernel_rfl
theorem k32 : Rows.shellNumbersRow.veiledFits Tryz.prog Tryz.f4.params.toList (Tryz.f4.params.toList ++ Rows.shellNumbersSpec.plain.varTypes Tryz.prog ++ Tryz.f4.resultTypes.toList) = true := by kernel_rfl
theorem kn : Tryz.prog.funcNamed Rows.shellNumbersRow.func = some 4 := by kernel_rfl
end Go.Proofs.YtcipamclhpcaaaaGreatDoor.shellNumbers

