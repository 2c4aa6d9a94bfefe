import Derived.Test.YtcipamclhpcaaaaGreatDoorStN
import Derived.Test.YtcipamclhpcaaaaGreatDoorStR
import Derived.Test.YtcipamclhpcaaaaGreatDoorStT
import Derived.Test.YtcipamclhpcaaaaGreatDoorProg
/- The head of a seat: the program's name and its facts. -/
namespace Go.St
open Go Go.Proofs
noncomputable abbrev prog : Program := Tryz.prog
theorem prog.mixed : prog.follows .mixedOrders = true := by kernel_rfl
def noNumB (P : Program) : Bool := P.funcs.all fun fn => !(fn.name == "runtime.NumGoroutine")
theorem noNum_of {P : Program} (h : noNumB P = true) : NoNumGo P := by
  intro f fn hf he
  have := (Array.all_eq_true_iff_forall_mem.1 h) fn (Array.mem_of_getElem? hf)
  simp [he] at this
theorem prog.noNum : NoNumGo prog := noNum_of (by kernel_rfl)
theorem kc {A B : Prop} (a : A) (h : A = B) : B := h ▸ a
def rfPs : Code → Array Tmp
  | .rangeFunc _ ps _ _ => ps
  | _ => #[]
def rfAs : Code → Code
  | .rangeFunc _ _ a _ => a
  | c => c
def rfBo : Code → Code
  | .rangeFunc _ _ _ b => b
  | c => c
def loopBody : Code → Code
  | .loop c => c
  | c => c
end Go.St

