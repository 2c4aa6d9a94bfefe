import Derived.Test.YtcipamclhpcaaaaGreatDoorFactTs
import Derived.Test.YtcipamclhpcaaaaGreatDoorFactTn
import Derived.Test.YtcipamclhpcaaaaGreatDoorFactTd
import Derived.Test.YtcipamclhpcaaaaGreatDoorFactTh
import Derived.Test.YtcipamclhpcaaaaGreatDoorFactTi
import Derived.Test.YtcipamclhpcaaaaGreatDoorFactTf
/- The ties. -/
namespace Go.Proofs.YtcipamclhpcaaaaGreatDoor.own
open Go
theorem tie2 : Tryz.prog.laidByTextLater [("unicode/utf8.acceptRanges", Rows.laid_unicode_utf8_acceptRanges), ("stepstone/play.names", Rows.laid_stepstone_play_names), ("strconv.ErrSyntax", Rows.laid_strconv_ErrSyntax), ("strconv.ErrRange", Rows.laid_strconv_ErrRange), ("internal/strconv.uint64pow10", Rows.laid_internal_strconv_uint64pow10), ("math/bits.deBruijn32tab", Rows.laid_math_bits_deBruijn32tab), ("math/bits.deBruijn64tab", Rows.laid_math_bits_deBruijn64tab)] [.data, .data, .sentinel, .sentinel, .data, .data, .data] true :=
  Program.laidByTextLater_by_run 400 8 hw hw' hroot hk hg hn hd h1 h2
theorem tie : Tryz.prog.laidByTextLater [("stepstone/play.names", Rows.laid_stepstone_play_names)] [.data] true :=
  Program.laidByTextLater.sub tie2 ["stepstone/play.names"] (by kernel_rfl) (by kernel_rfl)
theorem playNames_row_tie : Rows.playNamesRow.laidByTextAt .later Tryz.pinned [.data] true :=
  OpenClaim.laidByTextAt_later rfl rfl tie noOwnUnsafe
theorem shellNumbers_row_tie : Rows.shellNumbersRow.laidByTextAt .later Tryz.pinned [.pinned, .data, .data, .sentinel, .sentinel, .data, .data, .data] true :=
  OpenClaim.laidByTextAt_pinned rfl rfl tie2 rfl rfl rfl rfl (fun y hy _e => by
    simp only [Rows.shellNumbersRow, List.zip_cons_cons, List.zip_nil_right, List.mem_cons, List.mem_nil_iff, or_false] at hy
    rcases hy with rfl | rfl | rfl | rfl | rfl | rfl | rfl | rfl
    · exact ⟨pin_laid_unicode_utf8_first, by kernel_rfl⟩
    · cases _e
    · cases _e
    · cases _e
    · cases _e
    · cases _e
    · cases _e
    · cases _e) fits2
theorem shellLong_row_tie : Rows.shellLongRow.laidByTextAt .later Tryz.pinned [.pinned, .data, .data, .sentinel, .sentinel, .data, .data, .data] true :=
  OpenClaim.laidByTextAt_pinned rfl rfl tie2 rfl rfl rfl rfl (fun y hy _e => by
    simp only [Rows.shellLongRow, List.zip_cons_cons, List.zip_nil_right, List.mem_cons, List.mem_nil_iff, or_false] at hy
    rcases hy with rfl | rfl | rfl | rfl | rfl | rfl | rfl | rfl
    · exact ⟨pin_laid_unicode_utf8_first, by kernel_rfl⟩
    · cases _e
    · cases _e
    · cases _e
    · cases _e
    · cases _e
    · cases _e
    · cases _e) fits2
end Go.Proofs.YtcipamclhpcaaaaGreatDoor.own

