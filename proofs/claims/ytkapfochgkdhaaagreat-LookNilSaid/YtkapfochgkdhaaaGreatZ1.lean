/- Closed facts of the row: the types are laid out. -/
import Derived.Test.YtkapfochgkdhaaaGreatRows
import Derived.WalkKit
import Derived.ProofKit
import Derived.OpenShut
namespace Go.Proofs.YtkapfochgkdhaaaGreat.lookNil
open Go.ChangeShapes Go.WideShapes Go.ChangeAt Go.RowKit
theorem k2 : laidOutB Tryz.prog = true := by kernel_rfl
end Go.Proofs.YtkapfochgkdhaaaGreat.lookNil
