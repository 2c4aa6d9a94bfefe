import Derived.Test.YtcipamclhpcaaaaGreatDoorRows
import Derived.LaidByTextLater
import Derived.LaidSub
import Derived.SevenTiedAt
/- The door's run: closed facts of the program. -/
namespace Go.Proofs.YtcipamclhpcaaaaGreatDoor.own
open Go
theorem hw : Tryz.prog.worded (varsWordLater true) = true := by kernel_rfl
theorem hw' : Tryz.prog.worded (varsWordLater !true) = false := by kernel_rfl
theorem hroot : Tryz.prog.worded rootWordLater = true := by kernel_rfl
theorem hk : ([("unicode/utf8.acceptRanges", Rows.laid_unicode_utf8_acceptRanges), ("stepstone/play.names", Rows.laid_stepstone_play_names), ("strconv.ErrSyntax", Rows.laid_strconv_ErrSyntax), ("strconv.ErrRange", Rows.laid_strconv_ErrRange), ("internal/strconv.uint64pow10", Rows.laid_internal_strconv_uint64pow10), ("math/bits.deBruijn32tab", Rows.laid_math_bits_deBruijn32tab), ("math/bits.deBruijn64tab", Rows.laid_math_bits_deBruijn64tab)] : List (String × DataW Unit)).map (fun x => Tryz.prog.kindOfLater x.1) = [LaidKind.data, .data, .sentinel, .sentinel, .data, .data, .data].map some := by kernel_rfl
theorem hg : (Tryz.prog.funcNamed "gosem.cut.vars").isSome = true := by kernel_rfl
end Go.Proofs.YtcipamclhpcaaaaGreatDoor.own

