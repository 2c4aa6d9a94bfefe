import Derived.Test.YtcipamclhpcaaaaGreatDoorFactKc
import Derived.SevenTiedAt
/- No goroutine is begun. -/
namespace Go.Proofs.YtcipamclhpcaaaaGreatDoor
open Go.ChangeShapes Go.WideShapes Go.ChangeAt Go.RowKit
theorem noGo : Tryz.prog.funcs.any Func.goes = false := by kernel_rfl
theorem noGo_at (f : FuncId) : Tryz.prog.goes f = false := by
  have h := Array.any_eq_false.1 noGo
  have h2 : ∀ g : FuncId, (Tryz.prog.funcs[g]?).any Func.goes = false := by
    intro g
    cases e : Tryz.prog.funcs[g]? with
    | none => rfl
    | some fn =>
      obtain ⟨hi, he⟩ := Array.getElem?_eq_some_iff.1 e
      have := h g hi
      rw [he] at this
      simpa using this
  unfold Program.goes
  rw [noGo, Bool.and_false, Bool.or_false, List.any_eq_false]
  intro g _
  rw [h2 g]; decide
theorem noGo_by {c : OpenClaim} (h : c.start = .entering) : c.goesBy Tryz.prog = false := by
  unfold OpenClaim.goesBy Program.goesAt Program.goesFrom
  rw [h]
  cases Tryz.prog.funcNamed c.func with
  | none => rfl
  | some f => simp [noGo_at f]
end Go.Proofs.YtcipamclhpcaaaaGreatDoor

