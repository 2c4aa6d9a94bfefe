import Derived.Test.YtcipamclhpcaaaaGreatDoorCards
import Derived.SevenTiedAt
import Derived.Test.YtcipamclhpcaaaaGreatDoorFactKg
/- The card's closed facts. -/
namespace Go.Proofs.YtcipamclhpcaaaaGreatDoor.shellLong
open Go.ChangeShapes Go.WideShapes Go.ChangeAt Go.RowKit
theorem byText : Rows.shellLongRow.wfByText (OpenSpec.ofChange Rows.shellLongSpec) = true := by kernel_rfl
theorem mainIs : Tryz.pinned.checked.prog.mainIs = some ((true, "6973daad96ceec1caa9cc9050160ec60db34f499c694825fcc4f5e5f5aca9dc2").1, (true, "6973daad96ceec1caa9cc9050160ec60db34f499c694825fcc4f5e5f5aca9dc2").2.toList) := by kernel_rfl
theorem looks : true = Tryz.pinned.checked.prog.looks [] := by kernel_rfl
theorem noStand : ([5].all fun u => !Tryz.pinned.checked.prog.wantsStandIn u) = true := by kernel_rfl
theorem goes : false = Rows.shellLongRow.goesBy Tryz.pinned.checked.prog := by
  rw [pe]
  exact (noGo_by rfl).symm
end Go.Proofs.YtcipamclhpcaaaaGreatDoor.shellLong

