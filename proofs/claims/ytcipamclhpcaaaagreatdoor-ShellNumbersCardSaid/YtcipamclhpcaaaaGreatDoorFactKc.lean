import Derived.Test.YtcipamclhpcaaaaGreatDoorRows
import Derived.WalkKit
import Derived.ProofKit
import Derived.OpenShut
/- Closed facts of the program. -/
namespace Go.Proofs.YtcipamclhpcaaaaGreatDoor
open Go.ChangeShapes Go.WideShapes Go.ChangeAt Go.RowKit
theorem kq2 : mapsRowed Tryz.prog = true := by kernel_rfl
theorem kq6 : (Tryz.prog.stops == []) = true := by kernel_rfl
theorem kq8 : (Tryz.prog.stopKnobs == []) = true := by kernel_rfl
theorem kq24 : Tryz.prog.stopsHeard = true := by kernel_rfl
theorem pe : Tryz.pinned.checked.prog = Tryz.prog := by kernel_rfl
theorem own : ownKnob Tryz.prog.godebug = none := by kernel_rfl
end Go.Proofs.YtcipamclhpcaaaaGreatDoor

