import Derived.Test.YtcipamclhpcaaaaGreatDoorRows
import Derived.LaidByTextLater
import Derived.LaidSub
import Derived.SevenTiedAt
/- The door's run: it ends. -/
namespace Go.Proofs.YtcipamclhpcaaaaGreatDoor.own
open Go
theorem hd : ∀ os tape, varsDone Tryz.prog 400 (varsId Tryz.prog) os tape = true := fun _ _ => by kernel_rfl
end Go.Proofs.YtcipamclhpcaaaaGreatDoor.own

