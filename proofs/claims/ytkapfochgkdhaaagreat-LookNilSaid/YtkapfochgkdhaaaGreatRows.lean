/-
  No cell of these rows narrows 'for every input' (looked for: loops, veiled, ifaces, maps, wideKeys, modest, calm, conditions, laid).
  DERIVED. THE GIVEN ROWS OF THIS SEAT. 14 by the template 'for every input the law returns true; each argument reads behind the call as it read before'; 0 by the template 'total and deterministic' (their statements: YtkapfochgkdhaaaGreatTotals.lean).
  GIVEN WITH THE SEED: the statements are not yours to turn. If you find one false, say at which input.
  Laid BY PROGRAM, IN A SANDBOX (cutbox-rows.mjs): the forced cells as the released guide's own fill.sh prints them over the translation 027c0116ffe2107b… (all of the seat's roots in one cut). By AI agents, Wed Nov 11 2026. No macro, syntax, notation, axiom, sorry.
-/
import Derived.Test.YtkapfochgkdhaaaGreatChecked
import GoSem.Claim
import GoSem.ClaimJoined
import GoSem.ClaimMapViews
import Derived.JoinedTies
import Derived.KernelRfl
namespace Go.Proofs.YtkapfochgkdhaaaGreat
/- THE CELL 'sum', in the pinned program and in every row, IS THE sha256 OF THE DUMP (.gsa) THAT YtkapfochgkdhaaaGreatProg.lean LOADS. Nothing in Lean hashes anything: it is a label: what it is worth is what the hold of that sum in a sandbox is worth. -/
noncomputable def Tryz.pinned : Pinned := { name := "ytkapfochgkdhaaagreat", sum := "027c0116ffe2107b1b7a5f613fbabae685d0066237535d59621bfd4503f133a1", checked := Tryz.checked }
namespace Rows
def none {H : Type} : Left H := { results := [], args := [] }

/-- 'stepstonelaw23.DictAgain': WHATEVER THE INPUT: true; the input reads as it did. -/
def dictAgainSpec : ChangeSpec := { name := "dictAgain", fn := fun _ => fun
  | [d1, d2, d3, d4] => { results := [.lit (.bool true)], args := [d1, d2, d3, d4] }
  | _ => none }
def dictAgainRow : OpenClaim := { program := "ytkapfochgkdhaaagreat", sum := "027c0116ffe2107b1b7a5f613fbabae685d0066237535d59621bfd4503f133a1", func := "stepstone/stepstonelaw23.DictAgain", spec := "dictAgain", unfollowed := true, recurses := true, apart := false }
def DictAgainSaid : Prop := dictAgainRow.holds Tryz.pinned (OpenSpec.ofChange dictAgainSpec)

/-- ITS FALSE NEIGHBOUR: 'it returns false'. Refute it at one input. -/
def dictAgainWrong : ChangeSpec := { name := "dictAgain", fn := fun _ => fun
  | [d1, d2, d3, d4] => { results := [.lit (.bool false)], args := [d1, d2, d3, d4] }
  | _ => none }
def DictAgainWrongFalsely : Prop := dictAgainRow.holds Tryz.pinned (OpenSpec.ofChange dictAgainWrong)

/-- 'stepstonelaw25.ShelfFull': WHATEVER THE INPUT: true; the input reads as it did. -/
def shelfFullSpec : ChangeSpec := { name := "shelfFull", fn := fun _ => fun
  | [d1, d2, d3, d4, d5] => { results := [.lit (.bool true)], args := [d1, d2, d3, d4, d5] }
  | _ => none }
def shelfFullRow : OpenClaim := { program := "ytkapfochgkdhaaagreat", sum := "027c0116ffe2107b1b7a5f613fbabae685d0066237535d59621bfd4503f133a1", func := "stepstone/stepstonelaw25.ShelfFull", spec := "shelfFull", unfollowed := true, recurses := true, apart := false }
def ShelfFullSaid : Prop := shelfFullRow.holds Tryz.pinned (OpenSpec.ofChange shelfFullSpec)

/-- ITS FALSE NEIGHBOUR: 'it returns false'. Refute it at one input. -/
def shelfFullWrong : ChangeSpec := { name := "shelfFull", fn := fun _ => fun
  | [d1, d2, d3, d4, d5] => { results := [.lit (.bool false)], args := [d1, d2, d3, d4, d5] }
  | _ => none }
def ShelfFullWrongFalsely : Prop := shelfFullRow.holds Tryz.pinned (OpenSpec.ofChange shelfFullWrong)

/-- 'stepstonelaw25.ShelfBytes': WHATEVER THE INPUT: true; the input reads as it did. -/
def shelfBytesSpec : ChangeSpec := { name := "shelfBytes", fn := fun _ => fun
  | [d1, d2, d3, d4] => { results := [.lit (.bool true)], args := [d1, d2, d3, d4] }
  | _ => none }
def shelfBytesRow : OpenClaim := { program := "ytkapfochgkdhaaagreat", sum := "027c0116ffe2107b1b7a5f613fbabae685d0066237535d59621bfd4503f133a1", func := "stepstone/stepstonelaw25.ShelfBytes", spec := "shelfBytes", unfollowed := true, recurses := true, apart := false }
def ShelfBytesSaid : Prop := shelfBytesRow.holds Tryz.pinned (OpenSpec.ofChange shelfBytesSpec)

/-- ITS FALSE NEIGHBOUR: 'it returns false'. Refute it at one input. -/
def shelfBytesWrong : ChangeSpec := { name := "shelfBytes", fn := fun _ => fun
  | [d1, d2, d3, d4] => { results := [.lit (.bool false)], args := [d1, d2, d3, d4] }
  | _ => none }
def ShelfBytesWrongFalsely : Prop := shelfBytesRow.holds Tryz.pinned (OpenSpec.ofChange shelfBytesWrong)

/-- 'stepstonelaw20.FacePlays': WHATEVER THE INPUT: true; the input reads as it did. -/
def facePlaysSpec : ChangeSpec := { name := "facePlays", fn := fun _ => fun
  | [d1, d2] => { results := [.lit (.bool true)], args := [d1, d2] }
  | _ => none }
def facePlaysRow : OpenClaim := { program := "ytkapfochgkdhaaagreat", sum := "027c0116ffe2107b1b7a5f613fbabae685d0066237535d59621bfd4503f133a1", func := "stepstone/stepstonelaw20.FacePlays", spec := "facePlays", unfollowed := true, recurses := true, apart := false }
def FacePlaysSaid : Prop := facePlaysRow.holds Tryz.pinned (OpenSpec.ofChange facePlaysSpec)

/-- ITS FALSE NEIGHBOUR: 'it returns false'. Refute it at one input. -/
def facePlaysWrong : ChangeSpec := { name := "facePlays", fn := fun _ => fun
  | [d1, d2] => { results := [.lit (.bool false)], args := [d1, d2] }
  | _ => none }
def FacePlaysWrongFalsely : Prop := facePlaysRow.holds Tryz.pinned (OpenSpec.ofChange facePlaysWrong)

/-- 'stepstonelaw20.FaceRanges': WHATEVER THE INPUT: true; the input reads as it did. -/
def faceRangesSpec : ChangeSpec := { name := "faceRanges", fn := fun _ => fun
  | [d1, d2, d3, d4, d5, d6, d7] => { results := [.lit (.bool true)], args := [d1, d2, d3, d4, d5, d6, d7] }
  | _ => none }
def faceRangesRow : OpenClaim := { program := "ytkapfochgkdhaaagreat", sum := "027c0116ffe2107b1b7a5f613fbabae685d0066237535d59621bfd4503f133a1", func := "stepstone/stepstonelaw20.FaceRanges", spec := "faceRanges", unfollowed := true, recurses := true, apart := false }
def FaceRangesSaid : Prop := faceRangesRow.holds Tryz.pinned (OpenSpec.ofChange faceRangesSpec)

/-- ITS FALSE NEIGHBOUR: 'it returns false'. Refute it at one input. -/
def faceRangesWrong : ChangeSpec := { name := "faceRanges", fn := fun _ => fun
  | [d1, d2, d3, d4, d5, d6, d7] => { results := [.lit (.bool false)], args := [d1, d2, d3, d4, d5, d6, d7] }
  | _ => none }
def FaceRangesWrongFalsely : Prop := faceRangesRow.holds Tryz.pinned (OpenSpec.ofChange faceRangesWrong)

/-- 'stepstonelaw23.DictPlays': WHATEVER THE INPUT: true; the input reads as it did. -/
def dictPlaysSpec : ChangeSpec := { name := "dictPlays", fn := fun _ => fun
  | [d1, d2, d3, d4, d5] => { results := [.lit (.bool true)], args := [d1, d2, d3, d4, d5] }
  | _ => none }
def dictPlaysRow : OpenClaim := { program := "ytkapfochgkdhaaagreat", sum := "027c0116ffe2107b1b7a5f613fbabae685d0066237535d59621bfd4503f133a1", func := "stepstone/stepstonelaw23.DictPlays", spec := "dictPlays", unfollowed := true, recurses := true, apart := false }
def DictPlaysSaid : Prop := dictPlaysRow.holds Tryz.pinned (OpenSpec.ofChange dictPlaysSpec)

/-- ITS FALSE NEIGHBOUR: 'it returns false'. Refute it at one input. -/
def dictPlaysWrong : ChangeSpec := { name := "dictPlays", fn := fun _ => fun
  | [d1, d2, d3, d4, d5] => { results := [.lit (.bool false)], args := [d1, d2, d3, d4, d5] }
  | _ => none }
def DictPlaysWrongFalsely : Prop := dictPlaysRow.holds Tryz.pinned (OpenSpec.ofChange dictPlaysWrong)

/-- 'stepstonelaw24.LookVersions': WHATEVER THE INPUT: true; the input reads as it did. -/
def lookVersionsSpec : ChangeSpec := { name := "lookVersions", fn := fun _ => fun
  | [d1, d2, d3, d4] => { results := [.lit (.bool true)], args := [d1, d2, d3, d4] }
  | _ => none }
def lookVersionsRow : OpenClaim := { program := "ytkapfochgkdhaaagreat", sum := "027c0116ffe2107b1b7a5f613fbabae685d0066237535d59621bfd4503f133a1", func := "stepstone/stepstonelaw24.LookVersions", spec := "lookVersions", unfollowed := true, recurses := true, apart := false }
def LookVersionsSaid : Prop := lookVersionsRow.holds Tryz.pinned (OpenSpec.ofChange lookVersionsSpec)

/-- ITS FALSE NEIGHBOUR: 'it returns false'. Refute it at one input. -/
def lookVersionsWrong : ChangeSpec := { name := "lookVersions", fn := fun _ => fun
  | [d1, d2, d3, d4] => { results := [.lit (.bool false)], args := [d1, d2, d3, d4] }
  | _ => none }
def LookVersionsWrongFalsely : Prop := lookVersionsRow.holds Tryz.pinned (OpenSpec.ofChange lookVersionsWrong)

/-- 'stepstonelaw24.LookPlays': WHATEVER THE INPUT: true; the input reads as it did. -/
def lookPlaysSpec : ChangeSpec := { name := "lookPlays", fn := fun _ => fun
  | [d1, d2, d3, d4, d5, d6] => { results := [.lit (.bool true)], args := [d1, d2, d3, d4, d5, d6] }
  | _ => none }
def lookPlaysRow : OpenClaim := { program := "ytkapfochgkdhaaagreat", sum := "027c0116ffe2107b1b7a5f613fbabae685d0066237535d59621bfd4503f133a1", func := "stepstone/stepstonelaw24.LookPlays", spec := "lookPlays", unfollowed := true, recurses := true, apart := false }
def LookPlaysSaid : Prop := lookPlaysRow.holds Tryz.pinned (OpenSpec.ofChange lookPlaysSpec)

/-- ITS FALSE NEIGHBOUR: 'it returns false'. Refute it at one input. -/
def lookPlaysWrong : ChangeSpec := { name := "lookPlays", fn := fun _ => fun
  | [d1, d2, d3, d4, d5, d6] => { results := [.lit (.bool false)], args := [d1, d2, d3, d4, d5, d6] }
  | _ => none }
def LookPlaysWrongFalsely : Prop := lookPlaysRow.holds Tryz.pinned (OpenSpec.ofChange lookPlaysWrong)

/-- 'stepstonelaw24.LookNil': WHATEVER THE INPUT: true; the input reads as it did. -/
def lookNilSpec : ChangeSpec := { name := "lookNil", fn := fun _ => fun
  | [d1, d2] => { results := [.lit (.bool true)], args := [d1, d2] }
  | _ => none }
def lookNilRow : OpenClaim := { program := "ytkapfochgkdhaaagreat", sum := "027c0116ffe2107b1b7a5f613fbabae685d0066237535d59621bfd4503f133a1", func := "stepstone/stepstonelaw24.LookNil", spec := "lookNil", unfollowed := true, recurses := true, apart := false }
def LookNilSaid : Prop := lookNilRow.holds Tryz.pinned (OpenSpec.ofChange lookNilSpec)

/-- ITS FALSE NEIGHBOUR: 'it returns false'. Refute it at one input. -/
def lookNilWrong : ChangeSpec := { name := "lookNil", fn := fun _ => fun
  | [d1, d2] => { results := [.lit (.bool false)], args := [d1, d2] }
  | _ => none }
def LookNilWrongFalsely : Prop := lookNilRow.holds Tryz.pinned (OpenSpec.ofChange lookNilWrong)

/-- 'stepstonelaw23.DictNil': WHATEVER THE INPUT: true; the input reads as it did. -/
def dictNilSpec : ChangeSpec := { name := "dictNil", fn := fun _ => fun
  | [d1, d2, d3, d4, d5, d6] => { results := [.lit (.bool true)], args := [d1, d2, d3, d4, d5, d6] }
  | _ => none }
def dictNilRow : OpenClaim := { program := "ytkapfochgkdhaaagreat", sum := "027c0116ffe2107b1b7a5f613fbabae685d0066237535d59621bfd4503f133a1", func := "stepstone/stepstonelaw23.DictNil", spec := "dictNil", unfollowed := true, recurses := true, apart := false }
def DictNilSaid : Prop := dictNilRow.holds Tryz.pinned (OpenSpec.ofChange dictNilSpec)

/-- ITS FALSE NEIGHBOUR: 'it returns false'. Refute it at one input. -/
def dictNilWrong : ChangeSpec := { name := "dictNil", fn := fun _ => fun
  | [d1, d2, d3, d4, d5, d6] => { results := [.lit (.bool false)], args := [d1, d2, d3, d4, d5, d6] }
  | _ => none }
def DictNilWrongFalsely : Prop := dictNilRow.holds Tryz.pinned (OpenSpec.ofChange dictNilWrong)

/-- 'stepstonelaw20.FaceArgs': WHATEVER THE INPUT: true; the input reads as it did. -/
def faceArgsSpec : ChangeSpec := { name := "faceArgs", fn := fun _ => fun
  | [d1, d2, d3, d4, d5, d6] => { results := [.lit (.bool true)], args := [d1, d2, d3, d4, d5, d6] }
  | _ => none }
def faceArgsRow : OpenClaim := { program := "ytkapfochgkdhaaagreat", sum := "027c0116ffe2107b1b7a5f613fbabae685d0066237535d59621bfd4503f133a1", func := "stepstone/stepstonelaw20.FaceArgs", spec := "faceArgs", unfollowed := true, recurses := true, apart := false }
def FaceArgsSaid : Prop := faceArgsRow.holds Tryz.pinned (OpenSpec.ofChange faceArgsSpec)

/-- ITS FALSE NEIGHBOUR: 'it returns false'. Refute it at one input. -/
def faceArgsWrong : ChangeSpec := { name := "faceArgs", fn := fun _ => fun
  | [d1, d2, d3, d4, d5, d6] => { results := [.lit (.bool false)], args := [d1, d2, d3, d4, d5, d6] }
  | _ => none }
def FaceArgsWrongFalsely : Prop := faceArgsRow.holds Tryz.pinned (OpenSpec.ofChange faceArgsWrong)

/-- 'stepstonelaw25.ShelfCursors': WHATEVER THE INPUT: true; the input reads as it did. -/
def shelfCursorsSpec : ChangeSpec := { name := "shelfCursors", fn := fun _ => fun
  | [d1, d2, d3, d4, d5] => { results := [.lit (.bool true)], args := [d1, d2, d3, d4, d5] }
  | _ => none }
def shelfCursorsRow : OpenClaim := { program := "ytkapfochgkdhaaagreat", sum := "027c0116ffe2107b1b7a5f613fbabae685d0066237535d59621bfd4503f133a1", func := "stepstone/stepstonelaw25.ShelfCursors", spec := "shelfCursors", unfollowed := true, recurses := true, apart := false }
def ShelfCursorsSaid : Prop := shelfCursorsRow.holds Tryz.pinned (OpenSpec.ofChange shelfCursorsSpec)

/-- ITS FALSE NEIGHBOUR: 'it returns false'. Refute it at one input. -/
def shelfCursorsWrong : ChangeSpec := { name := "shelfCursors", fn := fun _ => fun
  | [d1, d2, d3, d4, d5] => { results := [.lit (.bool false)], args := [d1, d2, d3, d4, d5] }
  | _ => none }
def ShelfCursorsWrongFalsely : Prop := shelfCursorsRow.holds Tryz.pinned (OpenSpec.ofChange shelfCursorsWrong)

/-- 'stepstonelaw25.ShelfVersions': WHATEVER THE INPUT: true; the input reads as it did. -/
def shelfVersionsSpec : ChangeSpec := { name := "shelfVersions", fn := fun _ => fun
  | [d1, d2, d3, d4, d5] => { results := [.lit (.bool true)], args := [d1, d2, d3, d4, d5] }
  | _ => none }
def shelfVersionsRow : OpenClaim := { program := "ytkapfochgkdhaaagreat", sum := "027c0116ffe2107b1b7a5f613fbabae685d0066237535d59621bfd4503f133a1", func := "stepstone/stepstonelaw25.ShelfVersions", spec := "shelfVersions", unfollowed := true, recurses := true, apart := false }
def ShelfVersionsSaid : Prop := shelfVersionsRow.holds Tryz.pinned (OpenSpec.ofChange shelfVersionsSpec)

/-- ITS FALSE NEIGHBOUR: 'it returns false'. Refute it at one input. -/
def shelfVersionsWrong : ChangeSpec := { name := "shelfVersions", fn := fun _ => fun
  | [d1, d2, d3, d4, d5] => { results := [.lit (.bool false)], args := [d1, d2, d3, d4, d5] }
  | _ => none }
def ShelfVersionsWrongFalsely : Prop := shelfVersionsRow.holds Tryz.pinned (OpenSpec.ofChange shelfVersionsWrong)

/-- 'stepstonelaw25.ShelfHandles': WHATEVER THE INPUT: true; the input reads as it did. -/
def shelfHandlesSpec : ChangeSpec := { name := "shelfHandles", fn := fun _ => fun
  | [d1, d2, d3, d4, d5] => { results := [.lit (.bool true)], args := [d1, d2, d3, d4, d5] }
  | _ => none }
def shelfHandlesRow : OpenClaim := { program := "ytkapfochgkdhaaagreat", sum := "027c0116ffe2107b1b7a5f613fbabae685d0066237535d59621bfd4503f133a1", func := "stepstone/stepstonelaw25.ShelfHandles", spec := "shelfHandles", unfollowed := true, recurses := true, apart := false }
def ShelfHandlesSaid : Prop := shelfHandlesRow.holds Tryz.pinned (OpenSpec.ofChange shelfHandlesSpec)

/-- ITS FALSE NEIGHBOUR: 'it returns false'. Refute it at one input. -/
def shelfHandlesWrong : ChangeSpec := { name := "shelfHandles", fn := fun _ => fun
  | [d1, d2, d3, d4, d5] => { results := [.lit (.bool false)], args := [d1, d2, d3, d4, d5] }
  | _ => none }
def ShelfHandlesWrongFalsely : Prop := shelfHandlesRow.holds Tryz.pinned (OpenSpec.ofChange shelfHandlesWrong)

/- THE SECOND FORM. 'bulk': how many values and letters a reading holds, each counted each time it is reached (what is shared counts as often as it is met; a slice's spare places count too). A statement '..UptoSaid' is the law's where the arguments, and the package variables that the reading takes, are together of bulk at most 1048576: NARROWER than '..Said'. Prove '..Said' where nothing that the law and all that it calls make is longer than what came in: it says more and counts as full. Else prove '..UptoSaid'. A law counts once. -/
mutual
def uptoBulk {H : Type} : DataW H → Nat
  | .lit (.string bytes) => bytes.length + 1
  | .lit _ => 1
  | .nil => 1
  | .ptr d => uptoBulk d + 1
  | .slice elems spare => uptoBulkAll elems + uptoBulkAll spare + 1
  | .agg parts => uptoBulkAll parts + 1
  | .iface _ d => uptoBulk d + 1
  | .map entries => uptoBulkEntries entries + 1
  | .held _ => 1
def uptoBulkAll {H : Type} : List (DataW H) → Nat
  | [] => 0
  | d :: r => uptoBulk d + uptoBulkAll r
def uptoBulkEntries {H : Type} : List (Lit × DataW H) → Nat
  | [] => 0
  | x :: r => uptoBulkEntry x + uptoBulkEntries r
def uptoBulkEntry {H : Type} : Lit × DataW H → Nat
  | (.string bytes, d) => bytes.length + uptoBulk d + 1
  | (_, d) => uptoBulk d + 1
 end
def uptoSmall : (H : Type) → List (DataW H) → Bool := fun _ ds => decide (uptoBulkAll ds ≤ 1048576)
def OpenSpec.upto (s : _root_.Go.ChangeSpec) : _root_.Go.OpenSpec := { _root_.Go.OpenSpec.ofChange s with cond := some uptoSmall }

/-- 'stepstonelaw23.DictAgain', WHERE WHAT IT READS IS OF BULK AT MOST 1048576: true; the input reads as it did. -/
def dictAgainUptoRow : OpenClaim := { program := "ytkapfochgkdhaaagreat", sum := "027c0116ffe2107b1b7a5f613fbabae685d0066237535d59621bfd4503f133a1", func := "stepstone/stepstonelaw23.DictAgain", spec := "dictAgain", unfollowed := true, recurses := true, apart := false, narrowed := true }
def DictAgainUptoSaid : Prop := dictAgainUptoRow.holds Tryz.pinned (OpenSpec.upto dictAgainSpec)

/-- 'stepstonelaw25.ShelfFull', WHERE WHAT IT READS IS OF BULK AT MOST 1048576: true; the input reads as it did. -/
def shelfFullUptoRow : OpenClaim := { program := "ytkapfochgkdhaaagreat", sum := "027c0116ffe2107b1b7a5f613fbabae685d0066237535d59621bfd4503f133a1", func := "stepstone/stepstonelaw25.ShelfFull", spec := "shelfFull", unfollowed := true, recurses := true, apart := false, narrowed := true }
def ShelfFullUptoSaid : Prop := shelfFullUptoRow.holds Tryz.pinned (OpenSpec.upto shelfFullSpec)

/-- 'stepstonelaw25.ShelfBytes', WHERE WHAT IT READS IS OF BULK AT MOST 1048576: true; the input reads as it did. -/
def shelfBytesUptoRow : OpenClaim := { program := "ytkapfochgkdhaaagreat", sum := "027c0116ffe2107b1b7a5f613fbabae685d0066237535d59621bfd4503f133a1", func := "stepstone/stepstonelaw25.ShelfBytes", spec := "shelfBytes", unfollowed := true, recurses := true, apart := false, narrowed := true }
def ShelfBytesUptoSaid : Prop := shelfBytesUptoRow.holds Tryz.pinned (OpenSpec.upto shelfBytesSpec)

/-- 'stepstonelaw20.FacePlays', WHERE WHAT IT READS IS OF BULK AT MOST 1048576: true; the input reads as it did. -/
def facePlaysUptoRow : OpenClaim := { program := "ytkapfochgkdhaaagreat", sum := "027c0116ffe2107b1b7a5f613fbabae685d0066237535d59621bfd4503f133a1", func := "stepstone/stepstonelaw20.FacePlays", spec := "facePlays", unfollowed := true, recurses := true, apart := false, narrowed := true }
def FacePlaysUptoSaid : Prop := facePlaysUptoRow.holds Tryz.pinned (OpenSpec.upto facePlaysSpec)

/-- 'stepstonelaw20.FaceRanges', WHERE WHAT IT READS IS OF BULK AT MOST 1048576: true; the input reads as it did. -/
def faceRangesUptoRow : OpenClaim := { program := "ytkapfochgkdhaaagreat", sum := "027c0116ffe2107b1b7a5f613fbabae685d0066237535d59621bfd4503f133a1", func := "stepstone/stepstonelaw20.FaceRanges", spec := "faceRanges", unfollowed := true, recurses := true, apart := false, narrowed := true }
def FaceRangesUptoSaid : Prop := faceRangesUptoRow.holds Tryz.pinned (OpenSpec.upto faceRangesSpec)

/-- 'stepstonelaw23.DictPlays', WHERE WHAT IT READS IS OF BULK AT MOST 1048576: true; the input reads as it did. -/
def dictPlaysUptoRow : OpenClaim := { program := "ytkapfochgkdhaaagreat", sum := "027c0116ffe2107b1b7a5f613fbabae685d0066237535d59621bfd4503f133a1", func := "stepstone/stepstonelaw23.DictPlays", spec := "dictPlays", unfollowed := true, recurses := true, apart := false, narrowed := true }
def DictPlaysUptoSaid : Prop := dictPlaysUptoRow.holds Tryz.pinned (OpenSpec.upto dictPlaysSpec)

/-- 'stepstonelaw24.LookVersions', WHERE WHAT IT READS IS OF BULK AT MOST 1048576: true; the input reads as it did. -/
def lookVersionsUptoRow : OpenClaim := { program := "ytkapfochgkdhaaagreat", sum := "027c0116ffe2107b1b7a5f613fbabae685d0066237535d59621bfd4503f133a1", func := "stepstone/stepstonelaw24.LookVersions", spec := "lookVersions", unfollowed := true, recurses := true, apart := false, narrowed := true }
def LookVersionsUptoSaid : Prop := lookVersionsUptoRow.holds Tryz.pinned (OpenSpec.upto lookVersionsSpec)

/-- 'stepstonelaw24.LookPlays', WHERE WHAT IT READS IS OF BULK AT MOST 1048576: true; the input reads as it did. -/
def lookPlaysUptoRow : OpenClaim := { program := "ytkapfochgkdhaaagreat", sum := "027c0116ffe2107b1b7a5f613fbabae685d0066237535d59621bfd4503f133a1", func := "stepstone/stepstonelaw24.LookPlays", spec := "lookPlays", unfollowed := true, recurses := true, apart := false, narrowed := true }
def LookPlaysUptoSaid : Prop := lookPlaysUptoRow.holds Tryz.pinned (OpenSpec.upto lookPlaysSpec)

/-- 'stepstonelaw24.LookNil', WHERE WHAT IT READS IS OF BULK AT MOST 1048576: true; the input reads as it did. -/
def lookNilUptoRow : OpenClaim := { program := "ytkapfochgkdhaaagreat", sum := "027c0116ffe2107b1b7a5f613fbabae685d0066237535d59621bfd4503f133a1", func := "stepstone/stepstonelaw24.LookNil", spec := "lookNil", unfollowed := true, recurses := true, apart := false, narrowed := true }
def LookNilUptoSaid : Prop := lookNilUptoRow.holds Tryz.pinned (OpenSpec.upto lookNilSpec)

/-- 'stepstonelaw23.DictNil', WHERE WHAT IT READS IS OF BULK AT MOST 1048576: true; the input reads as it did. -/
def dictNilUptoRow : OpenClaim := { program := "ytkapfochgkdhaaagreat", sum := "027c0116ffe2107b1b7a5f613fbabae685d0066237535d59621bfd4503f133a1", func := "stepstone/stepstonelaw23.DictNil", spec := "dictNil", unfollowed := true, recurses := true, apart := false, narrowed := true }
def DictNilUptoSaid : Prop := dictNilUptoRow.holds Tryz.pinned (OpenSpec.upto dictNilSpec)

/-- 'stepstonelaw20.FaceArgs', WHERE WHAT IT READS IS OF BULK AT MOST 1048576: true; the input reads as it did. -/
def faceArgsUptoRow : OpenClaim := { program := "ytkapfochgkdhaaagreat", sum := "027c0116ffe2107b1b7a5f613fbabae685d0066237535d59621bfd4503f133a1", func := "stepstone/stepstonelaw20.FaceArgs", spec := "faceArgs", unfollowed := true, recurses := true, apart := false, narrowed := true }
def FaceArgsUptoSaid : Prop := faceArgsUptoRow.holds Tryz.pinned (OpenSpec.upto faceArgsSpec)

/-- 'stepstonelaw25.ShelfCursors', WHERE WHAT IT READS IS OF BULK AT MOST 1048576: true; the input reads as it did. -/
def shelfCursorsUptoRow : OpenClaim := { program := "ytkapfochgkdhaaagreat", sum := "027c0116ffe2107b1b7a5f613fbabae685d0066237535d59621bfd4503f133a1", func := "stepstone/stepstonelaw25.ShelfCursors", spec := "shelfCursors", unfollowed := true, recurses := true, apart := false, narrowed := true }
def ShelfCursorsUptoSaid : Prop := shelfCursorsUptoRow.holds Tryz.pinned (OpenSpec.upto shelfCursorsSpec)

/-- 'stepstonelaw25.ShelfVersions', WHERE WHAT IT READS IS OF BULK AT MOST 1048576: true; the input reads as it did. -/
def shelfVersionsUptoRow : OpenClaim := { program := "ytkapfochgkdhaaagreat", sum := "027c0116ffe2107b1b7a5f613fbabae685d0066237535d59621bfd4503f133a1", func := "stepstone/stepstonelaw25.ShelfVersions", spec := "shelfVersions", unfollowed := true, recurses := true, apart := false, narrowed := true }
def ShelfVersionsUptoSaid : Prop := shelfVersionsUptoRow.holds Tryz.pinned (OpenSpec.upto shelfVersionsSpec)

/-- 'stepstonelaw25.ShelfHandles', WHERE WHAT IT READS IS OF BULK AT MOST 1048576: true; the input reads as it did. -/
def shelfHandlesUptoRow : OpenClaim := { program := "ytkapfochgkdhaaagreat", sum := "027c0116ffe2107b1b7a5f613fbabae685d0066237535d59621bfd4503f133a1", func := "stepstone/stepstonelaw25.ShelfHandles", spec := "shelfHandles", unfollowed := true, recurses := true, apart := false, narrowed := true }
def ShelfHandlesUptoSaid : Prop := shelfHandlesUptoRow.holds Tryz.pinned (OpenSpec.upto shelfHandlesSpec)

end Rows
end Go.Proofs.YtkapfochgkdhaaaGreat
