/- Closed facts of the row: the program may be entered. -/
import Derived.Test.YtkapfochgkdhaaaGreatRows
import Derived.WalkKit
import Derived.ProofKit
import Derived.OpenShut
namespace Go.Proofs.YtkapfochgkdhaaaGreat.lookNil
open Go.ChangeShapes Go.WideShapes Go.ChangeAt Go.RowKit
theorem k26 : Tryz.prog.mayEnter = true := by kernel_rfl
end Go.Proofs.YtkapfochgkdhaaaGreat.lookNil
