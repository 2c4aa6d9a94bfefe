import Derived.Test.YtcipamclhpcaaaaGreatDoorDn0
import Derived.Test.YtcipamclhpcaaaaGreatDoorFactGk
set_option linter.unusedVariables false
set_option linter.unusedSimpArgs false
/- What a row lays as the calls' names. -/
namespace Go.Proofs.YtcipamclhpcaaaaGreatDoor
open Go Go.St
theorem namesD_eq : Go.St.namesD = Rows.laid_stepstone_play_names := by kernel_rfl
theorem names_laid {W : World} (h : Lib.VarReads Tryz.prog W "stepstone/play.names" Rows.laid_stepstone_play_names) : ∀ (i : Nat) (x : ByteArray), namesL[i]? = some x → W.cell? ⟨0, i, none⟩ = some (.string x) := by
  have k := glF
  unfold glOk at k
  simp only [Bool.and_eq_true, beq_iff_eq] at k
  obtain ⟨⟨⟨⟨⟨⟨k1, k2⟩, k3⟩, _⟩, _⟩, _⟩, _⟩ := k
  rw [← namesD_eq] at h
  exact names_of_reads (g := 0) k1 k2 Tryz.underlying60 Tryz.underlying9 k3 h
end Go.Proofs.YtcipamclhpcaaaaGreatDoor

