import Derived.Test.YtcipamclhpcaaaaGreatDoorRows
import Derived.WalkKit
import Derived.ProofKit
import Derived.OpenShut
/- Closed facts of the program: it may be entered. -/
namespace Go.Proofs.YtcipamclhpcaaaaGreatDoor
open Go.ChangeShapes Go.WideShapes Go.ChangeAt Go.RowKit
theorem kq25 : Tryz.prog.mayEnter = true := by kernel_rfl
end Go.Proofs.YtcipamclhpcaaaaGreatDoor

