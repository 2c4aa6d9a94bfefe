import Derived.Test.YtcipamclhpcaaaaGreatDoorRows
import Derived.ProofKit
import Derived.Lay
import Derived.MakeChecks
import Derived.LaidLaws
/- One start that fits. -/
namespace Go.Proofs.YtcipamclhpcaaaaGreatDoor.playNames
open Go.ChangeShapes Go.WideShapes Go.ChangeAt Go.RowKit
set_option maxRecDepth 100000
theorem shaped (os : Os) : ((World.laidAll Tryz.prog os Rows.playNamesRow.laid).forCall (fun _ _ => 0) ⟨#[], #[.int .u8 0, .agg #[.int .u8 0, .int .i64 0, .int .i64 0, .slice none 0 0, .int .u64 0, .int .u64 0, .slice none 0 0, .bool false, .int .i64 0, .int .u64 0, .int .i64 0, .bool false]], []⟩).Shaped Tryz.checked.prog := World.shaped_of_ZipB (by kernel_rfl) (by kernel_rfl)
theorem okB (os : Os) : Input.okWideB Tryz.checked.prog ((World.laidAll Tryz.prog os Rows.playNamesRow.laid).forCall (fun _ _ => 0) ⟨#[], #[.int .u8 0, .agg #[.int .u8 0, .int .i64 0, .int .i64 0, .slice none 0 0, .int .u64 0, .int .u64 0, .slice none 0 0, .bool false, .int .i64 0, .int .u64 0, .int .i64 0, .bool false]], []⟩) 3 ⟨#[], #[.int .u8 0, .agg #[.int .u8 0, .int .i64 0, .int .i64 0, .slice none 0 0, .int .u64 0, .int .u64 0, .slice none 0 0, .bool false, .int .i64 0, .int .u64 0, .int .i64 0, .bool false]], []⟩ = true := by kernel_rfl
theorem preB (os : Os) (H : Type) (enc : TypeId × Value → H) : Rows.playNamesSpec.preB enc Tryz.checked.prog Tryz.f3 [] false ((World.laidAll Tryz.prog os Rows.playNamesRow.laid).forCall (fun _ _ => 0) ⟨#[], #[.int .u8 0, .agg #[.int .u8 0, .int .i64 0, .int .i64 0, .slice none 0 0, .int .u64 0, .int .u64 0, .slice none 0 0, .bool false, .int .i64 0, .int .u64 0, .int .i64 0, .bool false]], []⟩).memory #[.int .u8 0, .agg #[.int .u8 0, .int .i64 0, .int .i64 0, .slice none 0 0, .int .u64 0, .int .u64 0, .slice none 0 0, .bool false, .int .i64 0, .int .u64 0, .int .i64 0, .bool false]] 8 = true := by kernel_rfl
theorem sizedB (os : Os) (H : Type) (enc : TypeId × Value → H) : Rows.playNamesSpec.sizedB enc Tryz.checked.prog Tryz.f3 false ((World.laidAll Tryz.prog os Rows.playNamesRow.laid).forCall (fun _ _ => 0) ⟨#[], #[.int .u8 0, .agg #[.int .u8 0, .int .i64 0, .int .i64 0, .slice none 0 0, .int .u64 0, .int .u64 0, .slice none 0 0, .bool false, .int .i64 0, .int .u64 0, .int .i64 0, .bool false]], []⟩).memory #[.int .u8 0, .agg #[.int .u8 0, .int .i64 0, .int .i64 0, .slice none 0 0, .int .u64 0, .int .u64 0, .slice none 0 0, .bool false, .int .i64 0, .int .u64 0, .int .i64 0, .bool false]] 8 = true := by kernel_rfl
theorem met (os : Os) : laidMetH Tryz.prog Rows.playNamesRow.laid ((World.laidAll Tryz.prog os Rows.playNamesRow.laid).forCall (fun _ _ => 0) ⟨#[], #[.int .u8 0, .agg #[.int .u8 0, .int .i64 0, .int .i64 0, .slice none 0 0, .int .u64 0, .int .u64 0, .slice none 0 0, .bool false, .int .i64 0, .int .u64 0, .int .i64 0, .bool false]], []⟩).memory := by
  rw [MakeChecks.laidMetH_plain _ _ _ (by kernel_rfl)]
  exact laidMet_laidAll _ (by kernel_rfl) (by kernel_rfl)
theorem noInit : Tryz.checked.prog.inits.idxOf? 3 = none := by kernel_rfl
theorem cells1 : ((Tryz.prog.cellsOf 5 == 1) && (Tryz.prog.cellsOf 3 == 1) && (Tryz.prog.cellsOf 22 == 1) && (Tryz.prog.cellsOf 23 == 1) && (Tryz.prog.cellsOf 24 == 1) && (Tryz.prog.cellsOf 4 == 1) && (Tryz.prog.cellsOf 26 == 12)) = true := by kernel_rfl
theorem reads26 : Tryz.prog.readableRec 26 = true := by kernel_rfl
theorem size26 : decide (26 < Tryz.prog.types.size) = true := by kernel_rfl
end Go.Proofs.YtcipamclhpcaaaaGreatDoor.playNames

