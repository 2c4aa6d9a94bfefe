import Derived.Test.YtcipamclhpcaaaaGreatDoorRows
import Derived.KernelRfl
import Derived.Shelf.Vars
/- The variables' places and types: closed facts. -/
namespace Go.Proofs.YtcipamclhpcaaaaGreatDoor
open Go
def rowOk : Option (Array Value × TypeId) → Bool
  | some (z, t) => (z.size == 1) && (t == 3)
  | none => false
def glOk (P : Program) : Bool :=
  (P.globalNamed "stepstone/play.names" == some 0) && ((P.globals[0]?).map (·.type) == some 60) && (P.cellsOf 9 == 1) &&
  ((P.globalNamed "internal/strconv.uint64pow10" == some 2) && ((P.globals[2]?).map (·.type) == some 359) && (P.cellsOf 23 == 1) && (P.cellsOf 359 == 20)) &&
  ((P.globalNamed "strconv.ErrSyntax" == some 3) && ((P.globals[3]?).map (·.type) == some 71)) &&
  ((P.globalNamed "strconv.ErrRange" == some 4) && ((P.globals[4]?).map (·.type) == some 71)) &&
  (decide (1 < P.globals.size) && P.buildable 3 && (P.cellTypes P.depth 3 == some [3]) && rowOk (((begin P (fun _ _ => 0) default).world.heap[1]?).bind Obj.row?))
theorem glF : glOk Tryz.prog = true := by kernel_rfl
theorem row1 {x : Option (Array Value × TypeId)} (h : rowOk x = true) : ∃ z, x = some (z, 3) ∧ z.size = 1 := by
  cases x with
  | none => cases h
  | some y =>
    obtain ⟨z, t⟩ := y
    simp only [rowOk, Bool.and_eq_true, beq_iff_eq] at h
    obtain ⟨h1, rfl⟩ := h
    exact ⟨z, rfl, h1⟩
end Go.Proofs.YtcipamclhpcaaaaGreatDoor

