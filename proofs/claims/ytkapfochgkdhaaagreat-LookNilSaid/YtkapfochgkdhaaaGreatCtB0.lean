/- Contracts: bits, the plain part. -/
import Derived.Test.YtkapfochgkdhaaaGreatStW
import Derived.Laws.MathBits
namespace Go.St
open Go

theorem wrap_nat {k : IntKind} {n : Nat} (hk : k.signed = false) (h : n < 2 ^ k.bits) : k.wrap (n : Int) = (n : Int) := by
  unfold IntKind.wrap
  simp only [hk, Bool.false_and, Bool.false_eq_true, if_false]
  rw [Int.emod_eq_of_lt (by omega) (by exact_mod_cast h)]
theorem bAnd_u64 {x y : Nat} (hx : x < 18446744073709551616) (hy : y < 18446744073709551616) : bAnd .u64 (x : Int) (y : Int) = ((x &&& y : Nat) : Int) := by
  show IntKind.u64.wrap (((BitVec.ofInt 64 (x : Int) &&& BitVec.ofInt 64 (y : Int)).toNat : Nat) : Int) = _
  simp only [BitVec.ofInt_natCast, BitVec.toNat_and, BitVec.toNat_ofNat]
  rw [Nat.mod_eq_of_lt hx, Nat.mod_eq_of_lt hy]
  exact wrap_nat rfl (Nat.lt_of_le_of_lt Nat.and_le_left hx)
theorem bOr_u64 {x y : Nat} (hx : x < 18446744073709551616) (hy : y < 18446744073709551616) : bOr .u64 (x : Int) (y : Int) = ((x ||| y : Nat) : Int) := by
  show IntKind.u64.wrap (((BitVec.ofInt 64 (x : Int) ||| BitVec.ofInt 64 (y : Int)).toNat : Nat) : Int) = _
  simp only [BitVec.ofInt_natCast, BitVec.toNat_or, BitVec.toNat_ofNat]
  rw [Nat.mod_eq_of_lt hx, Nat.mod_eq_of_lt hy]
  exact wrap_nat rfl (Nat.or_lt_two_pow (n := 64) hx hy)
theorem bXor_u64 {x y : Nat} (hx : x < 18446744073709551616) (hy : y < 18446744073709551616) : bXor .u64 (x : Int) (y : Int) = ((x ^^^ y : Nat) : Int) := by
  show IntKind.u64.wrap (((BitVec.ofInt 64 (x : Int) ^^^ BitVec.ofInt 64 (y : Int)).toNat : Nat) : Int) = _
  simp only [BitVec.ofInt_natCast, BitVec.toNat_xor, BitVec.toNat_ofNat]
  rw [Nat.mod_eq_of_lt hx, Nat.mod_eq_of_lt hy]
  exact wrap_nat rfl (Nat.xor_lt_two_pow (n := 64) hx hy)
theorem bAndNot_u64 {x y : Nat} (hx : x < 18446744073709551616) (hy : y < 18446744073709551616) : bAndNot .u64 (x : Int) (y : Int) = ((x &&& (18446744073709551615 - y) : Nat) : Int) := by
  show IntKind.u64.wrap (((BitVec.ofInt 64 (x : Int) &&& ~~~(BitVec.ofInt 64 (y : Int))).toNat : Nat) : Int) = _
  simp only [BitVec.ofInt_natCast, BitVec.toNat_and, BitVec.toNat_ofNat, BitVec.toNat_not]
  rw [Nat.mod_eq_of_lt hx, Nat.mod_eq_of_lt hy]
  exact wrap_nat rfl (Nat.lt_of_le_of_lt Nat.and_le_left hx)
theorem bXor_rng {x y : Int} : 0 ≤ bXor .u64 x y ∧ bXor .u64 x y < 18446744073709551616 := by
  unfold bXor; rw [show IntKind.u64.wrap = wu64 from rfl, wu64_eq]; omega
theorem bOr_rng {x y : Int} : 0 ≤ bOr .u64 x y ∧ bOr .u64 x y < 18446744073709551616 := by
  unfold bOr; rw [show IntKind.u64.wrap = wu64 from rfl, wu64_eq]; omega
theorem bAnd_rng {x y : Int} : 0 ≤ bAnd .u64 x y ∧ bAnd .u64 x y < 18446744073709551616 := by
  unfold bAnd; rw [show IntKind.u64.wrap = wu64 from rfl, wu64_eq]; omega
theorem wu64_rng (x : Int) : 0 ≤ wu64 x ∧ wu64 x < 18446744073709551616 := by rw [wu64_eq]; omega
theorem fdiv_nat (x m : Nat) : ((x : Int)).fdiv (2 ^ m) = ((x / 2 ^ m : Nat) : Int) := by
  rw [Int.fdiv_eq_ediv_of_nonneg _ (by exact_mod_cast Nat.zero_le _)]
  exact_mod_cast rfl
theorem shr_u64 {x m : Nat} (hm : m ≤ 64) : shr .u64 (x : Int) m = ((x / 2 ^ m : Nat) : Int) := by
  unfold shr; rw [show min m IntKind.u64.bits = m from Nat.min_eq_left hm, fdiv_nat]
theorem shl_u64 {x m : Nat} (hm : m ≤ 64) : shl .u64 (x : Int) m = ((x * 2 ^ m % 18446744073709551616 : Nat) : Int) := by
  unfold shl
  rw [show min m IntKind.u64.bits = m from Nat.min_eq_left hm]
  show wu64 ((x : Int) * 2 ^ m) = _
  rw [wu64_eq]
  have : ((x * 2 ^ m : Nat) : Int) = (x : Int) * 2 ^ m := by rw [Int.natCast_mul]; congr 1
  rw [← this]; omega
theorem nat_of {x : Int} (h : 0 ≤ x) : ∃ n : Nat, x = (n : Int) := ⟨x.toNat, by omega⟩
/-- a mask of the low bits is a rest -/
theorem bAnd_mask {a : Int} {j : Nat} (hj : j ≤ 62) : bAnd .i64 a ((2 : Int) ^ j - 1) = a % 2 ^ j := by
  show IntKind.i64.wrap (((BitVec.ofInt 64 a &&& BitVec.ofInt 64 ((2 : Int) ^ j - 1)).toNat : Nat) : Int) = _
  have hp : (2 : Nat) ^ j ≤ 2 ^ 62 := Nat.pow_le_pow_right (by decide) hj
  have hp0 := Nat.two_pow_pos j
  have e1 : ((2 : Int) ^ j - 1) = (((2 ^ j - 1 : Nat)) : Int) := by
    have : ((2 ^ j : Nat) : Int) = (2 : Int) ^ j := by exact_mod_cast rfl
    omega
  rw [e1]
  simp only [BitVec.ofInt_natCast, BitVec.toNat_and, BitVec.toNat_ofNat, BitVec.toNat_ofInt]
  rw [Nat.mod_eq_of_lt (show 2 ^ j - 1 < 2 ^ 64 by omega), Nat.and_two_pow_sub_one_eq_mod]
  have e2 : ((((a % (2 ^ 64 : Nat)).toNat % 2 ^ j : Nat)) : Int) = a % 2 ^ j := by
    have h0 : 0 ≤ a % ((2 ^ 64 : Nat) : Int) := Int.emod_nonneg _ (by decide)
    rw [Int.natCast_emod, Int.toNat_of_nonneg h0]
    have hd : ((2 ^ j : Nat) : Int) ∣ ((2 ^ 64 : Nat) : Int) := by
      exact_mod_cast Nat.pow_dvd_pow 2 (by omega)
    rw [Int.emod_emod_of_dvd _ hd]
    exact_mod_cast rfl
  rw [e2]
  have h1 : 0 ≤ a % 2 ^ j := Int.emod_nonneg _ (by have : (0 : Int) < 2 ^ j := by exact_mod_cast hp0
                                                   omega)
  have h2 : a % 2 ^ j < 2 ^ j := Int.emod_lt_of_pos _ (by exact_mod_cast hp0)
  have h3 : (2 : Int) ^ j ≤ 4611686018427387904 := by
    have : ((2 ^ j : Nat) : Int) ≤ ((2 ^ 62 : Nat) : Int) := by exact_mod_cast hp
    have h4 : ((2 ^ j : Nat) : Int) = (2 : Int) ^ j := by exact_mod_cast rfl
    rw [h4] at this; simpa using this
  exact w64_id (by omega) (by omega)
end Go.St
