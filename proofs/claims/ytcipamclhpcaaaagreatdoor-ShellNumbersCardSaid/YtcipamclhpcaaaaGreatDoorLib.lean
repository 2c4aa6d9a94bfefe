import Derived.Shelf.Strings.Builder1
import Derived.Shelf.Strings.BuilderF
import Derived.Shelf.Strconv.Itoa0
import Derived.Shelf.Strconv.Itoa1
import Derived.Shelf.LaysM
import Derived.Shelf.Strconv.Itoa2
import Derived.Shelf.Strconv.Itoa3
import Derived.Ground.MpProg
import Derived.Shelf.Pu.ParseUintPublic10
import Derived.Shelf.Pu.ErrVarParseUint
import Derived.Shelf.Strings.Cut
import Derived.Shelf.Sort.Plain
import Derived.Shelf.Strings.Split
import Derived.Shelf.Slices.Equal
import Derived.Test.YtcipamclhpcaaaaGreatDoorProg
/-
  DERIVED: THE SHELF's CONTRACTS AT THIS DUMP, IN PLAIN WORDS (tools/lay-plain.mjs out of 'TdLay.lean', which tools/lay-shelf.mjs wrote): THE SAME DECLARATIONS UNDER THE SAME NAMES: 'import', 'namespace', 'open', 'def', 'theorem' AND NOTHING ELSE: no command of the shelf's: FOR A HAND-IN. Each laying: the table of numbers ('.._ren') and one theorem, a field a fact of the dump's own or the kernel's comparison; each contract: ONE APPLICATION.
-/
namespace Go.Proofs
open Go.Shelf
def Tryz.lays169_ren : Go.Shelf.Ren := ⟨fun | 169 => 32 | n => n, fun | 70 => 64 | 9 => 9 | 0 => 0 | 72 => 66 | 37 => 24 | 127 => 125 | 3 => 3 | 5 => 5 | n => n, fun | n => n⟩
theorem Tryz.lays169 : Go.Proofs.Lays.n169 Tryz.prog Tryz.lays169_ren := {
  mixed := by kernel_rfl
  f169 := Tryz.func32.trans (congrArg some (by kernel_rfl))
  t0 := Tryz.underlying0
  a0 := Tryz.isAgg0
  z0 := Tryz.sizeOf0
  v0 := Tryz.zeroValue0
  t3 := Tryz.underlying3
  a3 := Tryz.isAgg3
  z3 := Tryz.sizeOf3
  v3 := Tryz.zeroValue3
  t9 := Tryz.underlying9
  a9 := Tryz.isAgg9
  z9 := Tryz.sizeOf9
  v9 := Tryz.zeroValue9
  t37 := Tryz.underlying24
  a37 := Tryz.isAgg24
  z37 := Tryz.sizeOf24
  v37 := Tryz.zeroValue24
  t70 := Tryz.underlying64
  a70 := Tryz.isAgg64
  z70 := Tryz.sizeOf64
  v70 := Tryz.zeroValue64
  t72 := Tryz.underlying66
  a72 := Tryz.isAgg66
  z72 := Tryz.sizeOf66
  v72 := Tryz.zeroValue66
  t127 := Tryz.underlying125
  a127 := Tryz.isAgg125
  z127 := Tryz.sizeOf125
  v127 := Tryz.zeroValue125 }
theorem Tryz.Builder_Extra_169 : Builder.Extra Tryz.prog Tryz.lays169_ren := {
  sizeBuilder := by kernel_rfl
  liesBuilder := by kernel_rfl
  t5 := Tryz.underlying5
  a5 := Tryz.isAgg5
  z5 := Tryz.sizeOf5
  v5 := Tryz.zeroValue5
  infoByte := by kernel_rfl
  cellsByte := by kernel_rfl
  sizeByte := by kernel_rfl
  neB5 := by decide }
def Tryz.lays283_ren : Go.Shelf.Ren := ⟨fun | 283 => 212 | n => n, fun | 3 => 3 | 9 => 9 | 4 => 4 | n => n, fun | n => n⟩
theorem Tryz.lays283 : Go.Proofs.Lays.n283 Tryz.prog Tryz.lays283_ren := {
  mixed := by kernel_rfl
  f283 := Tryz.func212.trans (congrArg some (by kernel_rfl))
  t3 := Tryz.underlying3
  a3 := Tryz.isAgg3
  z3 := Tryz.sizeOf3
  v3 := Tryz.zeroValue3
  t4 := Tryz.underlying4
  a4 := Tryz.isAgg4
  z4 := Tryz.sizeOf4
  v4 := Tryz.zeroValue4
  t9 := Tryz.underlying9
  a9 := Tryz.isAgg9
  z9 := Tryz.sizeOf9
  v9 := Tryz.zeroValue9 }
open Go.Lib in
/-- internal/strconv.small: "small returns the string for an i with 0 <= i < nSmalls.": i's decimal numeral. The world is as it was. (LAID: no walk: one application.) -/
theorem Tryz.internal_strconv_small (i : Nat) (h : i < 100) (w : World) :
    Calls Tryz.prog 212 #[.int .i64 i] w fun e w' => e = .returned (.string ⟨(Lib.decDigits i).toArray⟩) ∧ w' = w := Any.internal_strconv_small Tryz.lays283 i h w
def Tryz.laysM284_ren : Go.Shelf.Ren := ⟨fun | 284 => 213 | 129 => 82 | 317 => 255 | 318 => 256 | n => n, fun | 53 => 23 | 3 => 3 | 212 => 359 | 0 => 0 | 4 => 4 | 46 => 78 | 5 => 5 | 9 => 9 | n => n, fun | 17 => 2 | n => n⟩
theorem Tryz.laysM284 : Go.Proofs.LaysM.n284 Tryz.prog Tryz.laysM284_ren := {
  mixed := by kernel_rfl
  f129 := Tryz.func82.trans (congrArg some (by kernel_rfl))
  f284 := Tryz.func213.trans (congrArg some (by kernel_rfl))
  f317 := Tryz.func255.trans (congrArg some (by kernel_rfl))
  f318 := Tryz.func256.trans (congrArg some (by kernel_rfl))
  t0 := Tryz.underlying0
  a0 := Tryz.isAgg0
  z0 := Tryz.sizeOf0
  v0 := Tryz.zeroValue0
  t3 := Tryz.underlying3
  a3 := Tryz.isAgg3
  z3 := Tryz.sizeOf3
  v3 := Tryz.zeroValue3
  t4 := Tryz.underlying4
  a4 := Tryz.isAgg4
  z4 := Tryz.sizeOf4
  v4 := Tryz.zeroValue4
  t5 := Tryz.underlying5
  a5 := Tryz.isAgg5
  z5 := Tryz.sizeOf5
  v5 := Tryz.zeroValue5
  t9 := Tryz.underlying9
  a9 := Tryz.isAgg9
  z9 := Tryz.sizeOf9
  v9 := Tryz.zeroValue9
  t46 := Tryz.underlying78
  a46 := Tryz.isAgg78
  z46 := Tryz.sizeOf78
  v46 := Tryz.zeroValue78
  t53 := Tryz.underlying23
  a53 := Tryz.isAgg23
  z53 := Tryz.sizeOf23
  v53 := Tryz.zeroValue23
  t212 := Tryz.underlying359
  a212 := Tryz.isAgg359
  z212 := Tryz.sizeOf359
  v212 := Tryz.zeroValue359
  g17 := by kernel_rfl
  i0 := by kernel_rfl
  i3 := by kernel_rfl
  i4 := by kernel_rfl
  i5 := by kernel_rfl
  i9 := by kernel_rfl
  i46 := by kernel_rfl
  i53 := by kernel_rfl
  i212 := by kernel_rfl
  m17 := by kernel_rfl }
open Go.Lib in
/-- internal/strconv.numDigits, at a d that is not 0: THE NUMBER OF d's DECIMAL DIGITS. The world is as it was. (LAID: no walk: one application.) -/
theorem Tryz.internal_strconv_numDigits (u : Nat) (h1 : 1 ≤ u) (h2 : u < 18446744073709551616) (w : World) (htab : Lib.TabIs Tryz.prog w "internal/strconv.uint64pow10" .u64 Lib.pow10Tab) :
    Calls Tryz.prog 213 #[.int .u64 u] w fun e w' => e = .returned (.int .i64 (Lib.nDigits u)) ∧ w' = w := Any.internal_strconv_numDigits Tryz.laysM284 u h1 h2 w htab
def Tryz.lays285_ren : Go.Shelf.Ren := ⟨fun | 285 => 214 | n => n, fun | 37 => 24 | 53 => 23 | 3 => 3 | 4 => 4 | 51 => 136 | 9 => 9 | 5 => 5 | 0 => 0 | n => n, fun | n => n⟩
theorem Tryz.lays285 : Go.Proofs.Lays.n285 Tryz.prog Tryz.lays285_ren := {
  mixed := by kernel_rfl
  f285 := Tryz.func214.trans (congrArg some (by kernel_rfl))
  t0 := Tryz.underlying0
  a0 := Tryz.isAgg0
  z0 := Tryz.sizeOf0
  v0 := Tryz.zeroValue0
  t3 := Tryz.underlying3
  a3 := Tryz.isAgg3
  z3 := Tryz.sizeOf3
  v3 := Tryz.zeroValue3
  t4 := Tryz.underlying4
  a4 := Tryz.isAgg4
  z4 := Tryz.sizeOf4
  v4 := Tryz.zeroValue4
  t5 := Tryz.underlying5
  a5 := Tryz.isAgg5
  z5 := Tryz.sizeOf5
  v5 := Tryz.zeroValue5
  t9 := Tryz.underlying9
  a9 := Tryz.isAgg9
  z9 := Tryz.sizeOf9
  v9 := Tryz.zeroValue9
  t37 := Tryz.underlying24
  a37 := Tryz.isAgg24
  z37 := Tryz.sizeOf24
  v37 := Tryz.zeroValue24
  t51 := Tryz.underlying136
  a51 := Tryz.isAgg136
  z51 := Tryz.sizeOf136
  v51 := Tryz.zeroValue136
  t53 := Tryz.underlying23
  a53 := Tryz.isAgg23
  z53 := Tryz.sizeOf23
  v53 := Tryz.zeroValue23 }
open Go.RowKit Go.Sort Go.Lib in
/-- internal/strconv.formatBase10: "formatBase10 formats the decimal representation of u into a. The caller is responsible for ensuring that a is big enough to hold u. If a is too big, leading zeros will be filled in as needed.": THE ROW HOLDS u's DIGITS ('FmtInv .. 0 ..': every place t holds 'dg u (len - 1 - t)'); all else is as it was but for the count of draws. (LAID: no walk: one application.) -/
theorem Tryz.internal_strconv_formatBase10 (blk off cap : Nat) (u : Nat) (d : Array UInt8) (w : World) (hH : Holds (fun (b : UInt8) => Value.int .u8 (b.toNat : Int)) w blk off d) (hu : u < 10 ^ d.size) (hu64 : u < 18446744073709551616) (hsz : d.size < 4611686018427387904) :
    Calls Tryz.prog 214 #[.slice (some ⟨blk, off, none⟩) d.size cap, .int .u64 u] w fun e w' =>
      e = .returned (.tuple #[]) ∧ ∃ (n v' : Nat) (dk : Array UInt8), w' = (putRow (fun (b : UInt8) => Value.int .u8 (b.toNat : Int)) w blk off dk).drewN n ∧ FmtInv d.size u 0 v' dk := Any.internal_strconv_formatBase10 Tryz.lays285 blk off cap u d w hH hu hu64 hsz
def Tryz.lays171_ren : Go.Shelf.Ren := ⟨fun | 171 => 126 | 243 => 168 | 246 => 210 | 283 => 212 | 284 => 213 | 285 => 214 | 286 => 215 | 129 => 82 | 317 => 255 | 318 => 256 | 319 => 257 | 320 => 258 | 337 => 281 | 338 => 282 | n => n, fun | 3 => 3 | 9 => 9 | 2 => 2 | 4 => 4 | 171 => 296 | 0 => 0 | 53 => 23 | 37 => 24 | 5 => 5 | 173 => 298 | 212 => 359 | 51 => 136 | 20 => 20 | 213 => 360 | 46 => 78 | 232 => 412 | 233 => 413 | n => n, fun | 17 => 2 | 18 => 7 | 19 => 8 | n => n⟩
theorem Tryz.lays171 : Go.Proofs.Lays.n171 Tryz.prog Tryz.lays171_ren := {
  mixed := by kernel_rfl
  f129 := Tryz.func82.trans (congrArg some (by kernel_rfl))
  f171 := Tryz.func126.trans (congrArg some (by kernel_rfl))
  f243 := Tryz.func168.trans (congrArg some (by kernel_rfl))
  f246 := Tryz.func210.trans (congrArg some (by kernel_rfl))
  f283 := Tryz.func212.trans (congrArg some (by kernel_rfl))
  f284 := Tryz.func213.trans (congrArg some (by kernel_rfl))
  f285 := Tryz.func214.trans (congrArg some (by kernel_rfl))
  f286 := Tryz.func215.trans (congrArg some (by kernel_rfl))
  f317 := Tryz.func255.trans (congrArg some (by kernel_rfl))
  f318 := Tryz.func256.trans (congrArg some (by kernel_rfl))
  f319 := Tryz.func257.trans (congrArg some (by kernel_rfl))
  f320 := Tryz.func258.trans (congrArg some (by kernel_rfl))
  f337 := Tryz.func281.trans (congrArg some (by kernel_rfl))
  f338 := Tryz.func282.trans (congrArg some (by kernel_rfl))
  t0 := Tryz.underlying0
  a0 := Tryz.isAgg0
  z0 := Tryz.sizeOf0
  v0 := Tryz.zeroValue0
  t2 := Tryz.underlying2
  a2 := Tryz.isAgg2
  z2 := Tryz.sizeOf2
  v2 := Tryz.zeroValue2
  t3 := Tryz.underlying3
  a3 := Tryz.isAgg3
  z3 := Tryz.sizeOf3
  v3 := Tryz.zeroValue3
  t4 := Tryz.underlying4
  a4 := Tryz.isAgg4
  z4 := Tryz.sizeOf4
  v4 := Tryz.zeroValue4
  t5 := Tryz.underlying5
  a5 := Tryz.isAgg5
  z5 := Tryz.sizeOf5
  v5 := Tryz.zeroValue5
  t9 := Tryz.underlying9
  a9 := Tryz.isAgg9
  z9 := Tryz.sizeOf9
  v9 := Tryz.zeroValue9
  t20 := Tryz.underlying20
  a20 := Tryz.isAgg20
  z20 := Tryz.sizeOf20
  v20 := Tryz.zeroValue20
  t37 := Tryz.underlying24
  a37 := Tryz.isAgg24
  z37 := Tryz.sizeOf24
  v37 := Tryz.zeroValue24
  t46 := Tryz.underlying78
  a46 := Tryz.isAgg78
  z46 := Tryz.sizeOf78
  v46 := Tryz.zeroValue78
  t51 := Tryz.underlying136
  a51 := Tryz.isAgg136
  z51 := Tryz.sizeOf136
  v51 := Tryz.zeroValue136
  t53 := Tryz.underlying23
  a53 := Tryz.isAgg23
  z53 := Tryz.sizeOf23
  v53 := Tryz.zeroValue23
  t171 := Tryz.underlying296
  a171 := Tryz.isAgg296
  z171 := Tryz.sizeOf296
  v171 := Tryz.zeroValue296
  t173 := Tryz.underlying298
  a173 := Tryz.isAgg298
  z173 := Tryz.sizeOf298
  v173 := Tryz.zeroValue298
  t212 := Tryz.underlying359
  a212 := Tryz.isAgg359
  z212 := Tryz.sizeOf359
  v212 := Tryz.zeroValue359
  t213 := Tryz.underlying360
  a213 := Tryz.isAgg360
  z213 := Tryz.sizeOf360
  t232 := Tryz.underlying412
  a232 := Tryz.isAgg412
  z232 := Tryz.sizeOf412
  v232 := Tryz.zeroValue412
  t233 := Tryz.underlying413
  a233 := Tryz.isAgg413
  z233 := Tryz.sizeOf413
  v233 := Tryz.zeroValue413
  g17 := by kernel_rfl
  g18 := by kernel_rfl
  g19 := by kernel_rfl }
open Go.RowKit Go.Sort Go.Lib in
/-- THE ROAD WITHOUT THE TABLE: 0 <= i < 100: NO PREMISE ON THE WORLD, AND THE WORLD IS AS IT WAS: a row that keeps its argument in that range need list no table ('laid = []'). (LAID: no walk: one application.) -/
theorem Tryz.strconv_Itoa_small (i : Nat) (hi : i < 100) (w : World) :
    Calls Tryz.prog 126 #[.int .i64 i] w fun e w' => e = .returned (.string ⟨(Lib.decDigits i).toArray⟩) ∧ w' = w := Any.strconv_Itoa_small Tryz.lays171 i hi w
def Tryz.laysPu14_ren : Go.Shelf.Ren := ⟨fun | 14 => 165 | 16 => 207 | 17 => 208 | 19 => 248 | 20 => 249 | 21 => 250 | 22 => 251 | 23 => 252 | 24 => 253 | 25 => 279 | 27 => 126 | 26 => 280 | 28 => 168 | 29 => 210 | 30 => 212 | 31 => 213 | 32 => 214 | 33 => 215 | 35 => 82 | 34 => 255 | 36 => 256 | 37 => 257 | 38 => 258 | 39 => 281 | 40 => 282 | n => n, fun | 9 => 9 | 3 => 3 | 22 => 23 | 24 => 71 | 25 => 236 | 4 => 4 | 34 => 352 | 5 => 5 | 36 => 78 | 37 => 24 | 0 => 0 | 39 => 354 | 21 => 21 | 44 => 400 | 47 => 125 | 50 => 411 | 48 => 409 | 2 => 2 | 52 => 296 | 55 => 298 | 59 => 359 | 60 => 136 | 20 => 20 | 61 => 360 | 65 => 412 | 66 => 413 | 67 => 75 | n => n, fun | 0 => 3 | 1 => 4 | 2 => 2 | 3 => 7 | 4 => 8 | n => n⟩
theorem Tryz.laysPu14 : Go.Proofs.LaysPu.n14 Tryz.prog Tryz.laysPu14_ren := {
  mixed := by kernel_rfl
  f14 := Tryz.func165.trans (congrArg some (by kernel_rfl))
  f16 := Tryz.func207.trans (congrArg some (by kernel_rfl))
  f17 := Tryz.func208.trans (congrArg some (by kernel_rfl))
  f19 := Tryz.func248.trans (congrArg some (by kernel_rfl))
  f20 := Tryz.func249.trans (congrArg some (by kernel_rfl))
  f21 := Tryz.func250.trans (congrArg some (by kernel_rfl))
  f22 := Tryz.func251.trans (congrArg some (by kernel_rfl))
  f23 := Tryz.func252.trans (congrArg some (by kernel_rfl))
  f24 := Tryz.func253.trans (congrArg some (by kernel_rfl))
  f25 := Tryz.func279.trans (congrArg some (by kernel_rfl))
  f26 := Tryz.func280.trans (congrArg some (by kernel_rfl))
  f27 := Tryz.func126.trans (congrArg some (by kernel_rfl))
  f28 := Tryz.func168.trans (congrArg some (by kernel_rfl))
  f29 := Tryz.func210.trans (congrArg some (by kernel_rfl))
  f30 := Tryz.func212.trans (congrArg some (by kernel_rfl))
  f31 := Tryz.func213.trans (congrArg some (by kernel_rfl))
  f32 := Tryz.func214.trans (congrArg some (by kernel_rfl))
  f33 := Tryz.func215.trans (congrArg some (by kernel_rfl))
  f34 := Tryz.func255.trans (congrArg some (by kernel_rfl))
  f35 := Tryz.func82.trans (congrArg some (by kernel_rfl))
  f36 := Tryz.func256.trans (congrArg some (by kernel_rfl))
  f37 := Tryz.func257.trans (congrArg some (by kernel_rfl))
  f38 := Tryz.func258.trans (congrArg some (by kernel_rfl))
  f39 := Tryz.func281.trans (congrArg some (by kernel_rfl))
  f40 := Tryz.func282.trans (congrArg some (by kernel_rfl))
  t0 := Tryz.underlying0
  a0 := Tryz.isAgg0
  z0 := Tryz.sizeOf0
  v0 := Tryz.zeroValue0
  i0 := by kernel_rfl
  t2 := Tryz.underlying2
  a2 := Tryz.isAgg2
  z2 := Tryz.sizeOf2
  v2 := Tryz.zeroValue2
  i2 := by kernel_rfl
  t3 := Tryz.underlying3
  a3 := Tryz.isAgg3
  z3 := Tryz.sizeOf3
  v3 := Tryz.zeroValue3
  i3 := by kernel_rfl
  t4 := Tryz.underlying4
  a4 := Tryz.isAgg4
  z4 := Tryz.sizeOf4
  v4 := Tryz.zeroValue4
  i4 := by kernel_rfl
  t5 := Tryz.underlying5
  a5 := Tryz.isAgg5
  z5 := Tryz.sizeOf5
  v5 := Tryz.zeroValue5
  i5 := by kernel_rfl
  t9 := Tryz.underlying9
  a9 := Tryz.isAgg9
  z9 := Tryz.sizeOf9
  v9 := Tryz.zeroValue9
  i9 := by kernel_rfl
  t20 := Tryz.underlying20
  a20 := Tryz.isAgg20
  z20 := Tryz.sizeOf20
  v20 := Tryz.zeroValue20
  i20 := by kernel_rfl
  t21 := Tryz.underlying21
  a21 := Tryz.isAgg21
  z21 := Tryz.sizeOf21
  v21 := Tryz.zeroValue21
  i21 := by kernel_rfl
  t22 := Tryz.underlying23
  a22 := Tryz.isAgg23
  z22 := Tryz.sizeOf23
  v22 := Tryz.zeroValue23
  i22 := by kernel_rfl
  t24 := Tryz.underlying71
  a24 := Tryz.isAgg71
  z24 := Tryz.sizeOf71
  v24 := Tryz.zeroValue71
  i24 := by kernel_rfl
  t25 := Tryz.underlying236
  a25 := Tryz.isAgg236
  z25 := Tryz.sizeOf236
  v25 := Tryz.zeroValue236
  i25 := by kernel_rfl
  t34 := Tryz.underlying352
  a34 := Tryz.isAgg352
  z34 := Tryz.sizeOf352
  v34 := Tryz.zeroValue352
  i34 := by kernel_rfl
  c34 := by kernel_rfl
  t36 := Tryz.underlying78
  a36 := Tryz.isAgg78
  z36 := Tryz.sizeOf78
  v36 := Tryz.zeroValue78
  i36 := by kernel_rfl
  t37 := Tryz.underlying24
  a37 := Tryz.isAgg24
  z37 := Tryz.sizeOf24
  v37 := Tryz.zeroValue24
  i37 := by kernel_rfl
  t39 := Tryz.underlying354
  a39 := Tryz.isAgg354
  z39 := Tryz.sizeOf354
  v39 := Tryz.zeroValue354
  i39 := by kernel_rfl
  t44 := Tryz.underlying400
  a44 := Tryz.isAgg400
  z44 := Tryz.sizeOf400
  v44 := Tryz.zeroValue400
  i44 := by kernel_rfl
  t47 := Tryz.underlying125
  a47 := Tryz.isAgg125
  z47 := Tryz.sizeOf125
  v47 := Tryz.zeroValue125
  i47 := by kernel_rfl
  t48 := Tryz.underlying409
  a48 := Tryz.isAgg409
  z48 := Tryz.sizeOf409
  v48 := Tryz.zeroValue409
  i48 := by kernel_rfl
  t50 := Tryz.underlying411
  a50 := Tryz.isAgg411
  z50 := Tryz.sizeOf411
  v50 := Tryz.zeroValue411
  i50 := by kernel_rfl
  t52 := Tryz.underlying296
  a52 := Tryz.isAgg296
  z52 := Tryz.sizeOf296
  v52 := Tryz.zeroValue296
  i52 := by kernel_rfl
  t55 := Tryz.underlying298
  a55 := Tryz.isAgg298
  z55 := Tryz.sizeOf298
  v55 := Tryz.zeroValue298
  i55 := by kernel_rfl
  t59 := Tryz.underlying359
  a59 := Tryz.isAgg359
  z59 := Tryz.sizeOf359
  v59 := Tryz.zeroValue359
  i59 := by kernel_rfl
  t60 := Tryz.underlying136
  a60 := Tryz.isAgg136
  z60 := Tryz.sizeOf136
  v60 := Tryz.zeroValue136
  i60 := by kernel_rfl
  t61 := Tryz.underlying360
  a61 := Tryz.isAgg360
  z61 := Tryz.sizeOf360
  t65 := Tryz.underlying412
  a65 := Tryz.isAgg412
  z65 := Tryz.sizeOf412
  v65 := Tryz.zeroValue412
  i65 := by kernel_rfl
  t66 := Tryz.underlying413
  a66 := Tryz.isAgg413
  z66 := Tryz.sizeOf413
  v66 := Tryz.zeroValue413
  i66 := by kernel_rfl
  t67 := Tryz.underlying75
  a67 := Tryz.isAgg75
  z67 := Tryz.sizeOf75
  v67 := Tryz.zeroValue75
  i67 := by kernel_rfl
  g0 := by kernel_rfl
  m0 := by kernel_rfl
  g1 := by kernel_rfl
  m1 := by kernel_rfl
  g2 := by kernel_rfl
  m2 := by kernel_rfl
  g3 := by kernel_rfl
  m3 := by kernel_rfl
  g4 := by kernel_rfl
  m4 := by kernel_rfl }
open Go.RowKit in
/-- strconv.ParseUint(s, 10, 64), AT EVERY STRING THAT SPELLS A uint64 ('Lib.parseUintB 64 s.data.toList = .ok u'): u, AND NO ERROR. (LAID: no walk: one application.) -/
theorem Tryz.strconv_ParseUint_10_at64_ok (s : ByteArray) (hmax : s.size ≤ 9223372036854775806) (u : Nat) (h : Lib.parseUintB 64 s.data.toList = .ok u) (w : World) :
    Calls Tryz.prog 165 #[.string s, .int .i64 10, .int .i64 64] w fun e w' => e = .returned (.tuple #[.int .u64 u, .nilIface]) ∧ (w' = w ∨ w' = Lib.bytesWorld w 5 s) := Any.strconv_ParseUint_10_at64_ok Tryz.laysPu14 s hmax u h w
open Go.RowKit in
/-- strconv.ParseUint(s, 10, 64), AT EVERY STRING THAT IS NO ROW OF DECIMAL DIGITS (a sign is a fault): 0, AND AN ERROR THAT IS NOT nil: a *NumError in a new block N: {Func: "ParseUint", Num: s's bytes, Err: what the variable ErrSyntax holds}. Of what was there nothing has turned. (LAID: no walk: one application.) -/
theorem Tryz.strconv_ParseUint_10_at64_syntax (s : ByteArray) (hlim : s.size ≤ 281474976710656) (h : Lib.parseUintB 64 s.data.toList = Lib.NumEnd.syntax) (ev : Value) (w : World) (hv : w.cell? ⟨3, 0, none⟩ = some ev) (hev : ev = .nilIface ∨ ∃ te pe, ev = .iface te pe) :
    Calls Tryz.prog 165 #[.string s, .int .i64 10, .int .i64 64] w fun e w' => ∃ N, e = .returned (.tuple #[.int .u64 0, .iface 354 (.pointer (some ⟨N, 0, none⟩))]) ∧ w.heap.size ≤ N ∧ w'.heap[N]? = some (.cells #[.string ⟨#[80, 97, 114, 115, 101, 85, 105, 110, 116]⟩, .string s, ev] 400 (0, 0)) ∧ Below w.heap.size w w' := Any.strconv_ParseUint_10_at64_syntax Tryz.laysPu14 s hlim h ev w hv hev
open Go.RowKit in
/-- strconv.ParseUint(s, 10, 64), AT EVERY NUMERAL THAT NO uint64 HOLDS: THE GREATEST uint64, AND AN ERROR THAT IS NOT nil: a *NumError in a new block N: {Func: "ParseUint", Num: s's bytes, Err: what the variable ErrRange holds}. Of what was there nothing has turned. (LAID: no walk: one application.) -/
theorem Tryz.strconv_ParseUint_10_at64_range (s : ByteArray) (hlim : s.size ≤ 281474976710656) (h : Lib.parseUintB 64 s.data.toList = .range) (ev : Value) (w : World) (hv : w.cell? ⟨4, 0, none⟩ = some ev) (hev : ev = .nilIface ∨ ∃ te pe, ev = .iface te pe) :
    Calls Tryz.prog 165 #[.string s, .int .i64 10, .int .i64 64] w fun e w' => ∃ N, e = .returned (.tuple #[.int .u64 18446744073709551615, .iface 354 (.pointer (some ⟨N, 0, none⟩))]) ∧ w.heap.size ≤ N ∧ w'.heap[N]? = some (.cells #[.string ⟨#[80, 97, 114, 115, 101, 85, 105, 110, 116]⟩, .string s, ev] 400 (0, 0)) ∧ Below w.heap.size w w' := Any.strconv_ParseUint_10_at64_range Tryz.laysPu14 s hlim h ev w hv hev
open Go.RowKit in
theorem Tryz.strconv_ParseUint_10_at64_syntax_var (s : ByteArray) (hlim : s.size ≤ 281474976710656) (h : Lib.parseUintB 64 s.data.toList = Lib.NumEnd.syntax) (tp : TypeId) (p : Value) (w : World) (hvar : w.var? Tryz.prog "strconv.ErrSyntax" = some #[.iface tp p]) :
    Calls Tryz.prog 165 #[.string s, .int .i64 10, .int .i64 64] w fun e w' => ∃ N, e = .returned (.tuple #[.int .u64 0, .iface 354 (.pointer (some ⟨N, 0, none⟩))]) ∧ w.heap.size ≤ N ∧ w'.heap[N]? = some (.cells #[.string ⟨#[80, 97, 114, 115, 101, 85, 105, 110, 116]⟩, .string s, .iface tp p] 400 (0, 0)) ∧ Below w.heap.size w w' := Any.strconv_ParseUint_10_at64_syntax_var Tryz.laysPu14 s hlim h tp p w hvar
open Go.RowKit in
theorem Tryz.strconv_ParseUint_10_at64_range_var (s : ByteArray) (hlim : s.size ≤ 281474976710656) (h : Lib.parseUintB 64 s.data.toList = .range) (tp : TypeId) (p : Value) (w : World) (hvar : w.var? Tryz.prog "strconv.ErrRange" = some #[.iface tp p]) :
    Calls Tryz.prog 165 #[.string s, .int .i64 10, .int .i64 64] w fun e w' => ∃ N, e = .returned (.tuple #[.int .u64 18446744073709551615, .iface 354 (.pointer (some ⟨N, 0, none⟩))]) ∧ w.heap.size ≤ N ∧ w'.heap[N]? = some (.cells #[.string ⟨#[80, 97, 114, 115, 101, 85, 105, 110, 116]⟩, .string s, .iface tp p] 400 (0, 0)) ∧ Below w.heap.size w w' := Any.strconv_ParseUint_10_at64_range_var Tryz.laysPu14 s hlim h tp p w hvar
def Tryz.lays145_ren : Go.Shelf.Ren := ⟨fun | 145 => 65 | 220 => 117 | 219 => 161 | 217 => 200 | 225 => 201 | 224 => 202 | 267 => 203 | 266 => 243 | 314 => 244 | n => n, fun | 9 => 9 | 4 => 4 | 59 => 117 | 3 => 3 | 5 => 5 | 46 => 78 | 146 => 348 | 51 => 136 | n => n, fun | 1 => 1 | n => n⟩
theorem Tryz.lays145 : Go.Proofs.Lays.n145 Tryz.prog Tryz.lays145_ren := {
  mixed := by kernel_rfl
  f145 := Tryz.func65.trans (congrArg some (by kernel_rfl))
  f217 := Tryz.func200.trans (congrArg some (by kernel_rfl))
  f219 := Tryz.func161.trans (congrArg some (by kernel_rfl))
  f220 := Tryz.func117.trans (congrArg some (by kernel_rfl))
  f224 := Tryz.func202.trans (congrArg some (by kernel_rfl))
  f225 := Tryz.func201.trans (congrArg some (by kernel_rfl))
  f266 := Tryz.func243.trans (congrArg some (by kernel_rfl))
  f267 := Tryz.func203.trans (congrArg some (by kernel_rfl))
  f314 := Tryz.func244.trans (congrArg some (by kernel_rfl))
  t3 := Tryz.underlying3
  a3 := Tryz.isAgg3
  z3 := Tryz.sizeOf3
  v3 := Tryz.zeroValue3
  t4 := Tryz.underlying4
  a4 := Tryz.isAgg4
  z4 := Tryz.sizeOf4
  v4 := Tryz.zeroValue4
  t5 := Tryz.underlying5
  a5 := Tryz.isAgg5
  z5 := Tryz.sizeOf5
  v5 := Tryz.zeroValue5
  t9 := Tryz.underlying9
  a9 := Tryz.isAgg9
  z9 := Tryz.sizeOf9
  v9 := Tryz.zeroValue9
  t46 := Tryz.underlying78
  a46 := Tryz.isAgg78
  z46 := Tryz.sizeOf78
  v46 := Tryz.zeroValue78
  t51 := Tryz.underlying136
  a51 := Tryz.isAgg136
  z51 := Tryz.sizeOf136
  v51 := Tryz.zeroValue136
  t59 := Tryz.underlying117
  a59 := Tryz.isAgg117
  z59 := Tryz.sizeOf117
  v59 := Tryz.zeroValue117
  t146 := Tryz.underlying348
  a146 := Tryz.isAgg348
  z146 := Tryz.sizeOf348
  v146 := Tryz.zeroValue348
  g1 := by kernel_rfl }
open Go.RowKit Go.Lib in
/-- strings.Cut: "Cut slices s around the first instance of sep, returning the text before and after sep. The found result reports whether sep appears in s. If sep does not appear in s, cut returns s, "", false.": IT RETURNS 'Lib.cut s sep'; the world is as it was but for the count of draws. (LAID: no walk: one application.) -/
theorem Tryz.strings_Cut (s sep : ByteArray) (m : Int) (w : World) (hs : s.size < 4294967281) (hm : w.cell? ⟨1, 0, none⟩ = some (.int .i64 m)) :
    Calls Tryz.prog 65 #[.string s, .string sep] w fun e w' => e = .returned (.tuple #[.string ⟨(Lib.cut s.data.toList sep.data.toList).1.toArray⟩, .string ⟨(Lib.cut s.data.toList sep.data.toList).2.1.toArray⟩, .bool (Lib.cut s.data.toList sep.data.toList).2.2]) ∧ ∃ n, w' = w.drewN n := Any.strings_Cut Tryz.lays145 s sep m w hs hm
def Tryz.lays190_ren : Go.Shelf.Ren := ⟨fun | 190 => 20 | 125 => 34 | 258 => 33 | 128 => 81 | 129 => 82 | 302 => 72 | 303 => 73 | 304 => 74 | 305 => 75 | 306 => 76 | 307 => 77 | 308 => 78 | 309 => 79 | 310 => 80 | 333 => 131 | 329 => 132 | 330 => 133 | 334 => 134 | 335 => 135 | 336 => 136 | 344 => 173 | n => n, fun | 31 => 28 | 9 => 9 | 3 => 3 | 46 => 78 | 0 => 0 | 51 => 136 | 53 => 23 | 4 => 4 | 183 => 128 | 182 => 127 | 131 => 133 | 5 => 5 | 218 => 200 | 222 => 203 | 228 => 247 | 229 => 248 | n => n, fun | n => n⟩
theorem Tryz.lays190 : Go.Proofs.Lays.n190 Tryz.prog Tryz.lays190_ren := {
  mixed := by kernel_rfl
  f125 := Tryz.func34.trans (congrArg some (by kernel_rfl))
  f128 := Tryz.func81.trans (congrArg some (by kernel_rfl))
  f129 := Tryz.func82.trans (congrArg some (by kernel_rfl))
  f190 := Tryz.func20.trans (congrArg some (by kernel_rfl))
  f258 := Tryz.func33.trans (congrArg some (by kernel_rfl))
  f302 := Tryz.func72.trans (congrArg some (by kernel_rfl))
  f303 := Tryz.func73.trans (congrArg some (by kernel_rfl))
  f304 := Tryz.func74.trans (congrArg some (by kernel_rfl))
  f305 := Tryz.func75.trans (congrArg some (by kernel_rfl))
  f306 := Tryz.func76.trans (congrArg some (by kernel_rfl))
  f307 := Tryz.func77.trans (congrArg some (by kernel_rfl))
  f308 := Tryz.func78.trans (congrArg some (by kernel_rfl))
  f309 := Tryz.func79.trans (congrArg some (by kernel_rfl))
  f310 := Tryz.func80.trans (congrArg some (by kernel_rfl))
  f329 := Tryz.func132.trans (congrArg some (by kernel_rfl))
  f330 := Tryz.func133.trans (congrArg some (by kernel_rfl))
  f333 := Tryz.func131.trans (congrArg some (by kernel_rfl))
  f334 := Tryz.func134.trans (congrArg some (by kernel_rfl))
  f335 := Tryz.func135.trans (congrArg some (by kernel_rfl))
  f336 := Tryz.func136.trans (congrArg some (by kernel_rfl))
  f344 := Tryz.func173.trans (congrArg some (by kernel_rfl))
  t0 := Tryz.underlying0
  a0 := Tryz.isAgg0
  z0 := Tryz.sizeOf0
  v0 := Tryz.zeroValue0
  t3 := Tryz.underlying3
  a3 := Tryz.isAgg3
  z3 := Tryz.sizeOf3
  v3 := Tryz.zeroValue3
  t4 := Tryz.underlying4
  a4 := Tryz.isAgg4
  z4 := Tryz.sizeOf4
  v4 := Tryz.zeroValue4
  t5 := Tryz.underlying5
  a5 := Tryz.isAgg5
  z5 := Tryz.sizeOf5
  v5 := Tryz.zeroValue5
  t9 := Tryz.underlying9
  a9 := Tryz.isAgg9
  z9 := Tryz.sizeOf9
  v9 := Tryz.zeroValue9
  t31 := Tryz.underlying28
  a31 := Tryz.isAgg28
  z31 := Tryz.sizeOf28
  v31 := Tryz.zeroValue28
  t46 := Tryz.underlying78
  a46 := Tryz.isAgg78
  z46 := Tryz.sizeOf78
  v46 := Tryz.zeroValue78
  t51 := Tryz.underlying136
  a51 := Tryz.isAgg136
  z51 := Tryz.sizeOf136
  v51 := Tryz.zeroValue136
  t53 := Tryz.underlying23
  a53 := Tryz.isAgg23
  z53 := Tryz.sizeOf23
  v53 := Tryz.zeroValue23
  t131 := Tryz.underlying133
  a131 := Tryz.isAgg133
  z131 := Tryz.sizeOf133
  v131 := Tryz.zeroValue133
  t182 := Tryz.underlying127
  a182 := Tryz.isAgg127
  z182 := Tryz.sizeOf127
  v182 := Tryz.zeroValue127
  t183 := Tryz.underlying128
  a183 := Tryz.isAgg128
  z183 := Tryz.sizeOf128
  v183 := Tryz.zeroValue128
  t218 := Tryz.underlying200
  a218 := Tryz.isAgg200
  z218 := Tryz.sizeOf200
  v218 := Tryz.zeroValue200
  t222 := Tryz.underlying203
  a222 := Tryz.isAgg203
  z222 := Tryz.sizeOf203
  v222 := Tryz.zeroValue203
  t228 := Tryz.underlying247
  a228 := Tryz.isAgg247
  z228 := Tryz.sizeOf247
  v228 := Tryz.zeroValue247
  t229 := Tryz.underlying248
  a229 := Tryz.isAgg248
  z229 := Tryz.sizeOf248
  v229 := Tryz.zeroValue248 }
open Go.Sort Go.RowKit in
theorem Tryz.slices_Sort_string (blk off cap : Nat) (ss : List (List UInt8)) (w : World) (hH : Holds encStr w blk off ss.toArray) (hblk : blk < w.heap.size) (hsz : ss.length < 4611686018427387904) :
    Calls Tryz.prog 20 #[.slice (some ⟨blk, off, none⟩) ss.length cap] w fun e w' =>
      e = .returned (.tuple #[]) ∧ ∃ n os, w' = grow (putRow encStr (Sort.ahead w n) blk off (ss.mergeSort fun x y => decide (x ≤ y)).toArray) os := Any.slices_Sort_string Tryz.lays190 blk off cap ss w hH hblk hsz
def Tryz.lays146_ren : Go.Shelf.Ren := ⟨fun | 146 => 119 | 221 => 162 | 268 => 204 | 138 => 205 | 143 => 206 | 195 => 245 | 197 => 246 | 218 => 247 | 219 => 161 | 260 => 278 | 217 => 200 | 225 => 201 | 224 => 202 | 267 => 203 | 266 => 243 | 314 => 244 | n => n, fun | 9 => 9 | 31 => 28 | 3 => 3 | 4 => 4 | 0 => 0 | 105 => 350 | 21 => 21 | 5 => 5 | 46 => 78 | 119 => 405 | 139 => 408 | 138 => 407 | 146 => 348 | 51 => 136 | n => n, fun | 1 => 1 | 3 => 5 | 4 => 6 | n => n⟩
theorem Tryz.lays146 : Go.Proofs.Lays.n146 Tryz.prog Tryz.lays146_ren := {
  mixed := by kernel_rfl
  f138 := Tryz.func205.trans (congrArg some (by kernel_rfl))
  f143 := Tryz.func206.trans (congrArg some (by kernel_rfl))
  f146 := Tryz.func119.trans (congrArg some (by kernel_rfl))
  f195 := Tryz.func245.trans (congrArg some (by kernel_rfl))
  f197 := Tryz.func246.trans (congrArg some (by kernel_rfl))
  f217 := Tryz.func200.trans (congrArg some (by kernel_rfl))
  f218 := Tryz.func247.trans (congrArg some (by kernel_rfl))
  f219 := Tryz.func161.trans (congrArg some (by kernel_rfl))
  f221 := Tryz.func162.trans (congrArg some (by kernel_rfl))
  f224 := Tryz.func202.trans (congrArg some (by kernel_rfl))
  f225 := Tryz.func201.trans (congrArg some (by kernel_rfl))
  f260 := Tryz.func278.trans (congrArg some (by kernel_rfl))
  f266 := Tryz.func243.trans (congrArg some (by kernel_rfl))
  f267 := Tryz.func203.trans (congrArg some (by kernel_rfl))
  f268 := Tryz.func204.trans (congrArg some (by kernel_rfl))
  f314 := Tryz.func244.trans (congrArg some (by kernel_rfl))
  t0 := Tryz.underlying0
  a0 := Tryz.isAgg0
  z0 := Tryz.sizeOf0
  v0 := Tryz.zeroValue0
  t3 := Tryz.underlying3
  a3 := Tryz.isAgg3
  z3 := Tryz.sizeOf3
  v3 := Tryz.zeroValue3
  t4 := Tryz.underlying4
  a4 := Tryz.isAgg4
  z4 := Tryz.sizeOf4
  v4 := Tryz.zeroValue4
  t5 := Tryz.underlying5
  a5 := Tryz.isAgg5
  z5 := Tryz.sizeOf5
  v5 := Tryz.zeroValue5
  t9 := Tryz.underlying9
  a9 := Tryz.isAgg9
  z9 := Tryz.sizeOf9
  v9 := Tryz.zeroValue9
  t21 := Tryz.underlying21
  a21 := Tryz.isAgg21
  z21 := Tryz.sizeOf21
  v21 := Tryz.zeroValue21
  t31 := Tryz.underlying28
  a31 := Tryz.isAgg28
  z31 := Tryz.sizeOf28
  v31 := Tryz.zeroValue28
  t46 := Tryz.underlying78
  a46 := Tryz.isAgg78
  z46 := Tryz.sizeOf78
  v46 := Tryz.zeroValue78
  t51 := Tryz.underlying136
  a51 := Tryz.isAgg136
  z51 := Tryz.sizeOf136
  v51 := Tryz.zeroValue136
  t105 := Tryz.underlying350
  a105 := Tryz.isAgg350
  z105 := Tryz.sizeOf350
  v105 := Tryz.zeroValue350
  t119 := Tryz.underlying405
  a119 := Tryz.isAgg405
  z119 := Tryz.sizeOf405
  t138 := Tryz.underlying407
  a138 := Tryz.isAgg407
  z138 := Tryz.sizeOf407
  v138 := Tryz.zeroValue407
  t139 := Tryz.underlying408
  a139 := Tryz.isAgg408
  z139 := Tryz.sizeOf408
  v139 := Tryz.zeroValue408
  t146 := Tryz.underlying348
  a146 := Tryz.isAgg348
  z146 := Tryz.sizeOf348
  v146 := Tryz.zeroValue348
  g1 := by kernel_rfl
  g3 := by kernel_rfl
  g4 := by kernel_rfl }
open Go.RowKit Go.Lib in
/-- strings.Split. (LAID: no walk: one application.) -/
theorem Tryz.strings_Split (s sep : ByteArray) (m : Int) (w : World) (hs : s.size < 4294967281) (hm : w.cell? ⟨1, 0, none⟩ = some (.int .i64 m)) (h1 : 1 ≤ sep.size) :
    Calls Tryz.prog 119 #[.string s, .string sep] w fun e w' =>
      e = .returned (.slice (some ⟨w.heap.size, 0, none⟩) (Lib.countB s sep + 1) (Lib.countB s sep + 1)) ∧ w' = w.alloc (.cells ((Lib.splitB sep 0 (Lib.countB s sep) s).map Value.string).toArray 9) := Any.strings_Split Tryz.lays146 (by kernel_rfl) s sep m w hs hm h1
end Go.Proofs

