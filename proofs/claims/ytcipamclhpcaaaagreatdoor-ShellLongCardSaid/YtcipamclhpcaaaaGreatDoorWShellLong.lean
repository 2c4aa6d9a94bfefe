import Derived.Test.YtcipamclhpcaaaaGreatDoorRows
import Derived.ProofKit
import Derived.Lay
import Derived.MakeChecks
import Derived.LaidLaws
/- One start that fits. -/
namespace Go.Proofs.YtcipamclhpcaaaaGreatDoor.shellLong
open Go.ChangeShapes Go.WideShapes Go.ChangeAt Go.RowKit
set_option maxRecDepth 100000
theorem shaped (os : Os) : ((World.laidAll Tryz.prog os Rows.shellLongRow.laid).forCall (fun _ _ => 0) ⟨#[], #[.int .u8 0], []⟩).Shaped Tryz.checked.prog := World.shaped_of_ZipB (by kernel_rfl) (by kernel_rfl)
theorem okB (os : Os) : Input.okWideB Tryz.checked.prog ((World.laidAll Tryz.prog os Rows.shellLongRow.laid).forCall (fun _ _ => 0) ⟨#[], #[.int .u8 0], []⟩) 5 ⟨#[], #[.int .u8 0], []⟩ = true := by kernel_rfl
theorem preB (os : Os) (H : Type) (enc : TypeId × Value → H) : Rows.shellLongSpec.preB enc Tryz.checked.prog Tryz.f5 [] false ((World.laidAll Tryz.prog os Rows.shellLongRow.laid).forCall (fun _ _ => 0) ⟨#[], #[.int .u8 0], []⟩).memory #[.int .u8 0] 8 = true := by kernel_rfl
theorem sizedB (os : Os) (H : Type) (enc : TypeId × Value → H) : Rows.shellLongSpec.sizedB enc Tryz.checked.prog Tryz.f5 false ((World.laidAll Tryz.prog os Rows.shellLongRow.laid).forCall (fun _ _ => 0) ⟨#[], #[.int .u8 0], []⟩).memory #[.int .u8 0] 8 = true := by kernel_rfl
theorem met (os : Os) : laidMetH Tryz.prog Rows.shellLongRow.laid ((World.laidAll Tryz.prog os Rows.shellLongRow.laid).forCall (fun _ _ => 0) ⟨#[], #[.int .u8 0], []⟩).memory := by
  rw [MakeChecks.laidMetH_plain _ _ _ (by kernel_rfl)]
  exact laidMet_laidAll _ (by kernel_rfl) (by kernel_rfl)
theorem noInit : Tryz.checked.prog.inits.idxOf? 5 = none := by kernel_rfl
end Go.Proofs.YtcipamclhpcaaaaGreatDoor.shellLong

