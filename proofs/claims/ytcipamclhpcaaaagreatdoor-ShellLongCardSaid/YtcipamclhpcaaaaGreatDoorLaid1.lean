import Derived.Test.YtcipamclhpcaaaaGreatDoorDn1
import Derived.Test.YtcipamclhpcaaaaGreatDoorLaid0
set_option linter.unusedVariables false
set_option linter.unusedSimpArgs false
/- What the rows of the shell lay is what its calls read. -/
namespace Go.Proofs.YtcipamclhpcaaaaGreatDoor
open Go Go.St
theorem pow_eq : (Lib.tabData .u64 Lib.pow10Tab : DataW Unit) = Rows.laid_internal_strconv_uint64pow10 := by kernel_rfl
set_option maxRecDepth 10000 in
theorem gf_laid {W : World} (hN : Lib.VarReads Tryz.prog W "stepstone/play.names" Rows.laid_stepstone_play_names) (hT : Lib.VarReads Tryz.prog W "internal/strconv.uint64pow10" Rows.laid_internal_strconv_uint64pow10)
    (hS : Lib.VarReads Tryz.prog W "strconv.ErrSyntax" Rows.laid_strconv_ErrSyntax) (hR : Lib.VarReads Tryz.prog W "strconv.ErrRange" Rows.laid_strconv_ErrRange) (hsh : W.ShapedOpen Tryz.prog) : GF W := by
  have k := glF
  unfold glOk at k
  simp only [Bool.and_eq_true, beq_iff_eq, decide_eq_true_eq] at k
  obtain ⟨⟨⟨⟨_, ⟨⟨⟨t1, t2⟩, t3⟩, t4⟩⟩, ⟨s1, s2⟩⟩, ⟨r1, r2⟩⟩, ⟨⟨⟨m1, m2⟩, m3⟩, m4⟩⟩ := k
  obtain ⟨z, m5, m6⟩ := row1 m4
  rw [← pow_eq] at hT
  have a1 : Lib.TabIs Tryz.prog W "internal/strconv.uint64pow10" .u64 Lib.pow10Tab := tab_of_reads (g := 2) (t := 359) (e := 23) (n := 20) t1 t2 Tryz.underlying359 Tryz.underlying23 t3 t4 hT
  have a2 := cell_of_shapedOpen_int (g := 1) hsh m1 m5 m6 m2 m3 Tryz.underlying3
  have a3 := iface_of_reads (g := 3) s1 s2 Tryz.underlying71 hS
  have a4 := iface_of_reads (g := 4) r1 r2 Tryz.underlying71 hR
  exact ⟨names_laid hN, a1, a2, a3, a4⟩
end Go.Proofs.YtcipamclhpcaaaaGreatDoor

