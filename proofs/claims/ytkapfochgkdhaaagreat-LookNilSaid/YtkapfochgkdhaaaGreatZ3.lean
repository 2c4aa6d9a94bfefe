/- Closed facts of the row. -/
import Derived.Test.YtkapfochgkdhaaaGreatRows
import Derived.WalkKit
import Derived.ProofKit
import Derived.OpenShut
namespace Go.Proofs.YtkapfochgkdhaaaGreat.lookNil
open Go.ChangeShapes Go.WideShapes Go.ChangeAt Go.RowKit
theorem k1 : Rows.lookNilRow.wf (OpenSpec.ofChange Rows.lookNilSpec) = true := by kernel_rfl
theorem k3 : mapsRowed Tryz.prog = true := by kernel_rfl
theorem k4 : Tryz.f11.params.all (Tryz.prog.readableRec ·) = true := by kernel_rfl
theorem k5 : namedTie Tryz.prog Rows.lookNilRow.named Rows.lookNilSpec.vars = true := by kernel_rfl
theorem k6 : (Rows.lookNilRow.stops == []) = true := by kernel_rfl
theorem k7 : (Tryz.prog.stops == []) = true := by kernel_rfl
theorem k8 : (Rows.lookNilRow.knobs == []) = true := by kernel_rfl
theorem k9 : (Tryz.prog.stopKnobs == []) = true := by kernel_rfl
theorem k10 : (Rows.lookNilRow.inPlace == Tryz.prog.inPlace 11) = true := by kernel_rfl
theorem k11 : (Rows.lookNilRow.unfollowed == Tryz.prog.unfollowed 11) = true := by kernel_rfl
theorem k12 : (Rows.lookNilRow.recurses == Tryz.prog.recurses 11) = true := by kernel_rfl
theorem k13 : (Rows.lookNilRow.named == Tryz.prog.varsNamed 11) = true := by kernel_rfl
theorem k14 : (Rows.lookNilRow.maps == (Tryz.f11.params.toList ++ Rows.lookNilSpec.plain.varTypes Tryz.prog).any (Tryz.prog.mapsRec ·)) = true := by kernel_rfl
theorem k15 : (Rows.lookNilRow.ifaces == (Tryz.f11.params.toList ++ Rows.lookNilSpec.plain.varTypes Tryz.prog).any (Tryz.prog.ifacesRec ·)) = true := by kernel_rfl
theorem k16 : (Rows.lookNilRow.mapsOut == Tryz.prog.mapsAmong Tryz.f11.resultTypes.toList) = true := by kernel_rfl
theorem k17 : (Rows.lookNilRow.loops == (Tryz.f11.params.toList ++ Rows.lookNilSpec.plain.varTypes Tryz.prog).any (Tryz.prog.loopsFrom ·)) = true := by kernel_rfl
theorem k18 : (Rows.lookNilRow.wideKeys == (Tryz.f11.params.toList ++ Rows.lookNilSpec.plain.varTypes Tryz.prog ++ Tryz.f11.resultTypes.toList).any (Tryz.prog.wideKeysFrom ·)) = true := by kernel_rfl
theorem k19 : Rows.lookNilSpec.vars.all (Tryz.prog.varReadable ·) = true := by kernel_rfl
theorem k20 : Tryz.f11.resultTypes.all (fun t => Tryz.prog.readableRec t && decide (t < Tryz.prog.types.size)) = true := by kernel_rfl
theorem k21 : (Rows.lookNilRow.ifacesOut == Tryz.f11.resultTypes.toList.any (Tryz.prog.ifacesRec ·)) = true := by kernel_rfl
theorem k22 : (Rows.lookNilRow.loopsOut == Tryz.f11.resultTypes.toList.any (Tryz.prog.loopsFrom ·)) = true := by kernel_rfl
theorem k23 : (Rows.lookNilRow.plainKeys == Tryz.prog.plainKeys) = true := by kernel_rfl
theorem k24 : Rows.lookNilRow.shortTexts.isNone = true := by kernel_rfl
theorem k25 : Tryz.prog.stopsHeard = true := by kernel_rfl
theorem k27 : (Rows.lookNilRow.lifted == Tryz.prog.liftsFinal) = true := by kernel_rfl
theorem k28 : (Tryz.prog.make == some Rows.lookNilRow.make) = true := by kernel_rfl
theorem k30 : (Rows.lookNilRow.pinned == Rows.lookNilRow.pinnedBy) = true := by kernel_rfl
theorem k31 : (Rows.lookNilRow.veiled == (Tryz.f11.params.toList ++ Rows.lookNilSpec.plain.varTypes Tryz.prog ++ Tryz.f11.resultTypes.toList).any (Tryz.prog.veiledRec ·)) = true := by kernel_rfl
theorem k32 : Rows.lookNilRow.veiledFits Tryz.prog Tryz.f11.params.toList (Tryz.f11.params.toList ++ Rows.lookNilSpec.plain.varTypes Tryz.prog ++ Tryz.f11.resultTypes.toList) = true := by kernel_rfl
theorem kn : Tryz.prog.funcNamed Rows.lookNilRow.func = some 11 := by kernel_rfl
end Go.Proofs.YtkapfochgkdhaaaGreat.lookNil
