import Derived.Test.YtcipamclhpcaaaaGreatDoorRows
import Derived.ProofKit
import Derived.Lay
import Derived.MakeChecks
import Derived.LaidLaws
/- One start that fits. -/
namespace Go.Proofs.YtcipamclhpcaaaaGreatDoor.shellNumbers
open Go.ChangeShapes Go.WideShapes Go.ChangeAt Go.RowKit
set_option maxRecDepth 100000
theorem shaped (os : Os) : ((World.laidAll Tryz.prog os Rows.shellNumbersRow.laid).forCall (fun _ _ => 0) ⟨#[], #[.int .u64 0, .string ⟨#[]⟩], []⟩).Shaped Tryz.checked.prog := World.shaped_of_ZipB (by kernel_rfl) (by kernel_rfl)
theorem okB (os : Os) : Input.okWideB Tryz.checked.prog ((World.laidAll Tryz.prog os Rows.shellNumbersRow.laid).forCall (fun _ _ => 0) ⟨#[], #[.int .u64 0, .string ⟨#[]⟩], []⟩) 4 ⟨#[], #[.int .u64 0, .string ⟨#[]⟩], []⟩ = true := by kernel_rfl
theorem preB (os : Os) (H : Type) (enc : TypeId × Value → H) : Rows.shellNumbersSpec.preB enc Tryz.checked.prog Tryz.f4 [] false ((World.laidAll Tryz.prog os Rows.shellNumbersRow.laid).forCall (fun _ _ => 0) ⟨#[], #[.int .u64 0, .string ⟨#[]⟩], []⟩).memory #[.int .u64 0, .string ⟨#[]⟩] 8 = true := by kernel_rfl
theorem sizedB (os : Os) (H : Type) (enc : TypeId × Value → H) : Rows.shellNumbersSpec.sizedB enc Tryz.checked.prog Tryz.f4 false ((World.laidAll Tryz.prog os Rows.shellNumbersRow.laid).forCall (fun _ _ => 0) ⟨#[], #[.int .u64 0, .string ⟨#[]⟩], []⟩).memory #[.int .u64 0, .string ⟨#[]⟩] 8 = true := by kernel_rfl
theorem met (os : Os) : laidMetH Tryz.prog Rows.shellNumbersRow.laid ((World.laidAll Tryz.prog os Rows.shellNumbersRow.laid).forCall (fun _ _ => 0) ⟨#[], #[.int .u64 0, .string ⟨#[]⟩], []⟩).memory := by
  rw [MakeChecks.laidMetH_plain _ _ _ (by kernel_rfl)]
  exact laidMet_laidAll _ (by kernel_rfl) (by kernel_rfl)
theorem noInit : Tryz.checked.prog.inits.idxOf? 4 = none := by kernel_rfl
end Go.Proofs.YtcipamclhpcaaaaGreatDoor.shellNumbers

