import Derived.Test.YtcipamclhpcaaaaGreatDoorRows
import Derived.WalkKit
import Derived.ProofKit
import Derived.OpenShut
/- Closed facts of the program: the types are laid out. -/
namespace Go.Proofs.YtcipamclhpcaaaaGreatDoor
open Go.ChangeShapes Go.WideShapes Go.ChangeAt Go.RowKit
theorem kqn : Tryz.prog.types.size = 661 := by kernel_rfl
theorem kqr0 : (List.range' 0 132).all (rowFine Tryz.prog) = true := by kernel_rfl
theorem kqr1 : (List.range' 132 132).all (rowFine Tryz.prog) = true := by kernel_rfl
theorem kqr2 : (List.range' 264 132).all (rowFine Tryz.prog) = true := by kernel_rfl
theorem kqr3 : (List.range' 396 132).all (rowFine Tryz.prog) = true := by kernel_rfl
theorem kqr4 : (List.range' 528 133).all (rowFine Tryz.prog) = true := by kernel_rfl
theorem kqg : Tryz.prog.globals.all (fun g => decide (g.type < Tryz.prog.types.size)) = true := by kernel_rfl
theorem kqf : Tryz.prog.funcs.all (fun f => f.params.all fun t => decide (t < Tryz.prog.types.size)) = true := by kernel_rfl
theorem kq1 : laidOutB Tryz.prog = true := by
  unfold laidOutB
  rw [kqg, kqf, Bool.and_true, Bool.and_true, List.all_eq_true]
  intro i hi
  have hi := List.mem_range.1 hi
  rw [kqn] at hi
  by_cases h0 : i < 132
  · exact List.all_eq_true.1 kqr0 i (List.mem_range'_1.2 (by omega))
  by_cases h1 : i < 264
  · exact List.all_eq_true.1 kqr1 i (List.mem_range'_1.2 (by omega))
  by_cases h2 : i < 396
  · exact List.all_eq_true.1 kqr2 i (List.mem_range'_1.2 (by omega))
  by_cases h3 : i < 528
  · exact List.all_eq_true.1 kqr3 i (List.mem_range'_1.2 (by omega))
  by_cases h4 : i < 661
  · exact List.all_eq_true.1 kqr4 i (List.mem_range'_1.2 (by omega))
  omega
end Go.Proofs.YtcipamclhpcaaaaGreatDoor

