/- Contracts: bits of a word. -/
import Derived.Test.YtkapfochgkdhaaaGreatCtH
import Derived.Test.YtkapfochgkdhaaaGreatCtB1
namespace Go.St
open Go Go.Proofs
attribute [local irreducible] stP alP drP stCs lI64 lU64 lU8 lB lP lL lR AppV ClrV

def oneN (i : Int) : Nat := if 0 ≤ i ∧ i < 64 then 2 ^ i.toNat else 0
def belowN (i : Int) : Nat := if i ≤ 0 then 0 else if 64 ≤ i then 18446744073709551615 else 2 ^ i.toNat - 1
theorem p64 {n : Nat} (h : n < 64) : 2 ^ n ≤ 9223372036854775808 := by
  have : 2 ^ n ≤ 2 ^ 63 := Nat.pow_le_pow_right (by decide) (by omega)
  exact this
theorem oneN_lt (i : Int) : oneN i < 18446744073709551616 := by
  unfold oneN; split
  · have := p64 (n := i.toNat) (by omega); omega
  · decide
theorem belowN_lt (i : Int) : belowN i < 18446744073709551616 := by
  unfold belowN; split
  · decide
  · split
    · decide
    · have := p64 (n := i.toNat) (by omega); omega
theorem tb_oneN {i : Int} {j : Nat} : (oneN i).testBit j = decide (0 ≤ i ∧ i < 64 ∧ j = i.toNat) := by
  unfold oneN; split
  · rename_i h
    rw [Nat.testBit_two_pow]
    simp [h.1, h.2, eq_comm]
  · rename_i h
    simp; intro h1 h2; exact absurd ⟨h1, h2⟩ h
theorem tb_ones (j : Nat) : (18446744073709551615 : Nat).testBit j = decide (j < 64) := by
  have := Nat.testBit_two_pow_sub_one 64 j
  simpa using this
theorem tb_belowN {i : Int} {j : Nat} : (belowN i).testBit j = decide (j < 64 ∧ (j : Int) < i) := by
  unfold belowN; split
  · rw [Nat.zero_testBit]; symm; simp; omega
  · split
    · rw [tb_ones]; by_cases h : j < 64 <;> simp [h]; omega
    · rw [Nat.testBit_two_pow_sub_one]; congr 1; apply propext; omega
theorem tb_not {y : Nat} (hy : y < 18446744073709551616) (j : Nat) : (18446744073709551615 - y).testBit j = (decide (j < 64) && !y.testBit j) := by
  have := Nat.testBit_two_pow_sub_succ (n := 64) (x := y) hy j
  rw [show 2 ^ 64 - (y + 1) = 18446744073709551615 - y by omega] at this
  exact this
theorem shl_one {m : Nat} (h : m < 64) : shl .u64 (1 : Int) m = ((2 ^ m : Nat) : Int) := by
  have := shl_u64 (x := 1) (m := m) (by omega)
  rw [show ((1 : Nat) : Int) = 1 from rfl] at this
  rw [this, Nat.one_mul, Nat.mod_eq_of_lt]
  have := p64 h; omega
section
variable {w : World} {K : Int → World → Prop} {W : Nat} {i : Int}
theorem bit_one_spec (k : K (oneN i : Nat) w) : bit_one.C i w K := by
  apply bit_one.ok
  have ht : bit_there.C i w fun q2 W3 => cond (!q2) (K 0 W3) (shP i fun m4 => K (shl .u64 1 m4) W3) := by
    apply bit_there.ok
    refine cond_c (fun h => ?_) fun h => ?_
    · simp only [ge_iff_le, decide_eq_true_eq] at h
      refine cond_c (fun h2 => ?_) fun h2 => ?_
      · have h2 : ¬ i < 64 := by simpa using h2
        rw [show oneN i = 0 by unfold oneN; rw [if_neg]; omega] at k; exact k
      · have h2 : i < 64 := by simpa using h2
        refine shP_of h ?_
        rw [shl_one (by omega)]
        rw [show oneN i = 2 ^ i.toNat by unfold oneN; rw [if_pos ⟨h, h2⟩]] at k; exact k
    · have h : ¬ 0 ≤ i := by simpa using h
      rw [show oneN i = 0 by unfold oneN; rw [if_neg]; omega] at k; exact k
  exact ht
theorem bit_below_spec (k : K (belowN i : Nat) w) : bit_below.C i w K := by
  apply bit_below.ok
  unfold belowN at k
  refine cond_c (fun h => ?_) fun h => ?_
  · have h : i ≤ 0 := by simpa using h
    rw [if_pos h] at k; exact k
  · have h : ¬ i ≤ 0 := by simpa using h
    rw [if_neg h] at k
    refine cond_c (fun h2 => ?_) fun h2 => ?_
    · have h2 : 64 ≤ i := by simpa using h2
      rw [if_pos h2] at k; exact k
    · have h2 : ¬ 64 ≤ i := by simpa using h2
      rw [if_neg h2] at k
      refine shP_of (by omega) ?_
      have hp := p64 (n := i.toNat) (by omega)
      have hp0 := Nat.two_pow_pos i.toNat
      rw [shl_one (by omega), show ((2 ^ i.toNat : Nat) : Int) - 1 = ((2 ^ i.toNat - 1 : Nat) : Int) by omega, wu64_id (by omega) (by omega)]
      exact k
theorem bit_Get_spec (hW : W < 18446744073709551616) {K : Bool → World → Prop} (k : K (decide (0 ≤ i ∧ i < 64) && W.testBit i.toNat) w) : bit_Get.C (W : Int) i w K := by
  apply bit_Get.ok
  refine bit_one_spec ?_
  rw [bAnd_u64 hW (oneN_lt i)]
  have : (((W &&& oneN i : Nat) : Int) != 0) = (decide (0 ≤ i ∧ i < 64) && W.testBit i.toNat) := by
    by_cases h : 0 ≤ i ∧ i < 64
    · simp only [h, and_self, decide_true, Bool.true_and]
      cases hb : W.testBit i.toNat with
      | true =>
        have : (W &&& oneN i).testBit i.toNat = true := by rw [Nat.testBit_and, hb, tb_oneN]; simp [h]
        have hne : W &&& oneN i ≠ 0 := by intro e; rw [e] at this; simp at this
        simp; omega
      | false =>
        have : W &&& oneN i = 0 := by
          apply Nat.eq_of_testBit_eq
          intro j
          rw [Nat.testBit_and, tb_oneN, Nat.zero_testBit]
          by_cases hj : j = i.toNat
          · subst hj; simp [hb]
          · simp [hj]
        rw [this]; rfl
    · have : oneN i = 0 := by unfold oneN; rw [if_neg h]
      rw [this]; simp [h]
  rw [this]; exact k
theorem bit_Set_spec (hW : W < 18446744073709551616) (k : K ((W ||| oneN i : Nat)) w) : bit_Set.C (W : Int) i w K := by
  apply bit_Set.ok
  refine bit_one_spec ?_
  rw [bOr_u64 hW (oneN_lt i)]; exact k
theorem bit_Clear_spec (hW : W < 18446744073709551616) (k : K ((W &&& (18446744073709551615 - oneN i) : Nat)) w) : bit_Clear.C (W : Int) i w K := by
  apply bit_Clear.ok
  refine bit_one_spec ?_
  rw [bAndNot_u64 hW (oneN_lt i)]; exact k
theorem bit_Mask_spec {j : Int} (k : K ((belowN j &&& (18446744073709551615 - belowN i) : Nat)) w) : bit_Mask.C i j w K := by
  apply bit_Mask.ok
  refine bit_below_spec (bit_below_spec ?_)
  rw [bAndNot_u64 (belowN_lt j) (belowN_lt i)]; exact k
theorem bits_Ones_spec (hW : W < 18446744073709551616) (k : K (pc W : Nat) w) : math_bits_OnesCount64.C (W : Int) w K := by
  apply math_bits_OnesCount64.ok
  have a1 : ∀ x : Nat, x < 18446744073709551616 → ∀ y : Nat, y < 18446744073709551616 → bAnd .u64 (x : Int) (y : Int) = ((x &&& y : Nat) : Int) := fun x hx y hy => bAnd_u64 hx hy
  have m1 : bAnd .u64 (shr .u64 (W : Int) 1) (6148914691236517205 : Int) = ((W / 2 &&& 6148914691236517205 : Nat) : Int) := by
    rw [shr_u64 (by decide)]; exact a1 _ (by omega) 6148914691236517205 (by decide)
  have m2 : bAnd .u64 (W : Int) (6148914691236517205 : Int) = ((W &&& 6148914691236517205 : Nat) : Int) := a1 _ hW 6148914691236517205 (by decide)
  obtain ⟨y, z, u, hx1, hx2, hb3, hy, hyb, hz, hzb, hu, hub, hmod⟩ := swar_all W hW
  unfold math_bits_OnesCount64.F
  rw [m1, m2]
  generalize hX1 : (W / 2 &&& 6148914691236517205) + (W &&& 6148914691236517205) = x1 at hx1 hx2 hb3 hy
  have c1 : wu64 (((W / 2 &&& 6148914691236517205 : Nat) : Int) + ((W &&& 6148914691236517205 : Nat) : Int)) = (x1 : Int) := by rw [wu64_id (by omega) (by omega)]; omega
  rw [c1]
  have m3 : bAnd .u64 (shr .u64 (x1 : Int) 2) (3689348814741910323 : Int) = ((x1 / 4 &&& 3689348814741910323 : Nat) : Int) := by
    rw [shr_u64 (by decide)]; exact a1 _ (by omega) 3689348814741910323 (by decide)
  have m4 : bAnd .u64 (x1 : Int) (3689348814741910323 : Int) = ((x1 &&& 3689348814741910323 : Nat) : Int) := a1 _ (by omega) 3689348814741910323 (by decide)
  rw [m3, m4]
  generalize hX2 : (x1 / 4 &&& 3689348814741910323) + (x1 &&& 3689348814741910323) = x2 at hx2 hb3 hy
  have c2 : wu64 (((x1 / 4 &&& 3689348814741910323 : Nat) : Int) + ((x1 &&& 3689348814741910323 : Nat) : Int)) = (x2 : Int) := by rw [wu64_id (by omega) (by omega)]; omega
  rw [c2, shr_u64 (m := 4) (by decide)]
  have c3 : wu64 (((x2 / 2 ^ 4 : Nat) : Int) + (x2 : Int)) = ((x2 / 16 + x2 : Nat) : Int) := by rw [wu64_id (by omega) (by omega)]; omega
  rw [c3]
  have m5 : bAnd .u64 ((x2 / 16 + x2 : Nat) : Int) (1085102592571150095 : Int) = ((((x2 / 16 + x2) &&& 1085102592571150095 : Nat)) : Int) := a1 _ (by omega) 1085102592571150095 (by decide)
  rw [m5]
  generalize hX3 : ((x2 / 16 + x2) &&& 1085102592571150095) = x3 at hb3 hy
  rw [shr_u64 (m := 8) (by decide), show wu64 ((x3 : Int) + ((x3 / 2 ^ 8 : Nat) : Int)) = (y : Int) by rw [wu64_id (by omega) (by omega)]; omega]
  rw [shr_u64 (m := 16) (by decide), show wu64 ((y : Int) + ((y / 2 ^ 16 : Nat) : Int)) = (z : Int) by rw [wu64_id (by omega) (by omega)]; omega]
  rw [shr_u64 (m := 32) (by decide), show wu64 ((z : Int) + ((z / 2 ^ 32 : Nat) : Int)) = (u : Int) by rw [wu64_id (by omega) (by omega)]; omega]
  rw [w64_id (by omega) (by omega)]
  have := bAnd_mask (a := (u : Int)) (j := 7) (by decide)
  rw [show ((2 : Int) ^ 7 - 1) = 127 by decide] at this
  rw [this, show ((u : Int) % 2 ^ 7) = ((pc W : Nat) : Int) by omega]
  exact k
theorem bit_Count_spec (hW : W < 18446744073709551616) (k : K (pc W : Nat) w) : bit_Count.C (W : Int) w K := bit_Count.ok (bits_Ones_spec hW k)
theorem bit_Rank_spec (hW : W < 18446744073709551616) (k : K (pc (W &&& belowN i) : Nat) w) : bit_Rank.C (W : Int) i w K := by
  apply bit_Rank.ok
  refine bit_below_spec ?_
  rw [bAnd_u64 hW (belowN_lt i)]
  exact bit_Count_spec (Nat.lt_of_le_of_lt Nat.and_le_left hW) k
end

/-! ### the least and the greatest set bit -/
def dbTab : List Int := [0, 1, 56, 2, 57, 49, 28, 3, 61, 58, 42, 50, 38, 29, 17, 4, 62, 47, 59, 36, 45, 43, 51, 22, 53, 39, 33, 30, 24, 18, 12, 5, 63, 55, 48, 27, 60, 41, 37, 16, 46, 35, 44, 21, 52, 32, 23, 11, 54, 26, 40, 15, 34, 20, 31, 10, 25, 14, 19, 9, 13, 8, 7, 6]
/-- the library's table, which is never written -/
def Dbr (_ : Unit) (_ : Unit) : HP := blk 0 (dbTab.map fun n => .int .u8 n)
inductive IsLow (W : Nat) : Int → Prop where
  | none : W = 0 → IsLow W (-1)
  | some (i : Nat) : i < 64 → W.testBit i = true → (∀ j, j < i → W.testBit j = false) → IsLow W (i : Int)
inductive IsHigh (W : Nat) : Int → Prop where
  | none : W = 0 → IsHigh W (-1)
  | some (i : Nat) : i < 64 → W.testBit i = true → (∀ j, i < j → W.testBit j = false) → IsHigh W (i : Int)
theorem low_form : ∀ (n W : Nat), W ≠ 0 → W < 2 ^ n → ∃ t q, t < n ∧ W = 2 ^ t * (2 * q + 1)
  | 0, W, h0, h => by simp at h; exact absurd h h0
  | n + 1, W, h0, h => by
    by_cases hw : W % 2 = 1
    · exact ⟨0, W / 2, by omega, by simp; omega⟩
    · obtain ⟨t, q, ht, he⟩ := low_form n (W / 2) (by omega) (by rw [Nat.pow_succ] at h; omega)
      exact ⟨t + 1, q, by omega, by rw [Nat.pow_succ, Nat.mul_right_comm, ← he]; omega⟩
theorem and_compl {q n : Nat} (h : q < 2 ^ n) : q &&& (2 ^ n - 1 - q) = 0 := by
  apply Nat.eq_of_testBit_eq
  intro j
  have := Nat.testBit_two_pow_sub_succ h j
  rw [Nat.testBit_and, Nat.sub_sub, Nat.add_comm 1 q, this, Nat.zero_testBit]
  cases q.testBit j <;> simp
theorem low_and_n {n W t q : Nat} (ht : t < n) (hW : W < 2 ^ n) (he : W = 2 ^ t * (2 * q + 1)) : W &&& (2 ^ n - W) = 2 ^ t := by
  obtain ⟨m, rfl⟩ : ∃ m, n = t + (m + 1) := ⟨n - t - 1, by omega⟩
  have hp : 2 ^ (t + (m + 1)) = 2 ^ t * (2 * 2 ^ m) := by rw [Nat.pow_add, Nat.pow_succ, Nat.mul_comm (2 ^ m) 2]
  rw [hp] at hW ⊢
  have hq : q < 2 ^ m := by
    rw [he] at hW
    have := Nat.lt_of_mul_lt_mul_left hW
    omega
  have e2 : 2 ^ t * (2 * 2 ^ m) - W = 2 ^ t * (2 * (2 ^ m - 1 - q) + 1) := by
    rw [he, ← Nat.mul_sub]; congr 1; omega
  have h0 := and_split t 0 (2 * q + 1) 0 (2 * (2 ^ m - 1 - q) + 1) (Nat.two_pow_pos t) (Nat.two_pow_pos t)
  simp only [Nat.zero_add] at h0
  have h1 := and_split 1 1 q 1 (2 ^ m - 1 - q) (by decide) (by decide)
  rw [and_compl hq] at h1
  have h2 : (2 * q + 1) &&& (2 * (2 ^ m - 1 - q) + 1) = 1 := by
    rw [Nat.add_comm (2 * q) 1, Nat.add_comm (2 * (2 ^ m - 1 - q)) 1]; exact h1
  rw [e2, he, h0, h2]; simp
theorem low_and {W t q : Nat} (ht : t < 64) (hW : W < 18446744073709551616) (he : W = 2 ^ t * (2 * q + 1)) : W &&& (18446744073709551616 - W) = 2 ^ t := by
  have h64 : (2 : Nat) ^ 64 = 18446744073709551616 := by decide
  have := low_and_n (n := 64) ht (by rw [h64]; exact hW) he
  rw [h64] at this; exact this
theorem low_is {W t q : Nat} (ht : t < 64) (he : W = 2 ^ t * (2 * q + 1)) : IsLow W (t : Int) := by
  have hb : ∀ j, W.testBit j = if j < t then false else (2 * q + 1).testBit (j - t) := fun j => by
    have := Nat.testBit_two_pow_mul_add (2 * q + 1) (Nat.two_pow_pos t) j
    rw [Nat.add_zero] at this
    rw [he, this]; simp
  refine .some t ht ?_ fun j hj => ?_
  · rw [hb]; simp
  · rw [hb, if_pos hj]
def dbIdx (t : Nat) : Nat := 2 ^ t * 285870213051353865 % 18446744073709551616 / 2 ^ 58
theorem db_tab : ∀ t : Fin 64, dbIdx t.val < 64 ∧ dbTab[dbIdx t.val]? = some (t.val : Int) := by decide +kernel
section
variable {w : World} {K : Int → World → Prop} {W : Nat} {i : Int} {L : List HP} {F : HP → List HP} [g : Foc Dbr () () L F]
include g
theorem bit_Low_spec (h : Sat w L) (hW : W < 18446744073709551616) (k : ∀ r, IsLow W r → K r w) : bit_Low.C (W : Int) w K := by
  apply bit_Low.ok
  refine cond_c (fun h0 => ?_) fun h0 => ?_
  · have h0 : W = 0 := by simpa using h0
    exact k _ (.none h0)
  · have h0 : W ≠ 0 := by simpa using h0
    apply math_bits_TrailingZeros64.ok
    refine cond_f (by simpa using h0) ?_
    obtain ⟨t, q, ht, he⟩ := low_form 64 W h0 hW
    rw [show wu64 (0 - (W : Int)) = ((18446744073709551616 - W : Nat) : Int) by rw [wu64_eq]; omega, bAnd_u64 hW (by omega), low_and ht hW he]
    obtain ⟨hd1, hd2⟩ := db_tab ⟨t, ht⟩
    simp only at hd1 hd2
    have hp := p64 ht
    have hi : shr .u64 (wu64 (((2 ^ t : Nat) : Int) * 285870213051353865)) 58 = ((dbIdx t : Nat) : Int) := by
      rw [show wu64 (((2 ^ t : Nat) : Int) * 285870213051353865) = ((2 ^ t * 285870213051353865 % 18446744073709551616 : Nat) : Int) by rw [wu64_eq]; omega, shr_u64 (by decide)]
      rfl
    rw [hi]
    clear hi
    generalize dbIdx t = d at hd1 hd2 ⊢
    refine ⟨by omega, by omega, ?_⟩
    obtain ⟨M, h, _⟩ := g.op h
    have hc := Sat.ld (b := 0) (cs := dbTab.map fun n => .int .u8 n) h d
    rw [List.getElem?_map, hd2] at hc
    refine lU8.mk (n := (t : Int)) (by rw [show 0 + ((d : Nat) : Int).toNat * 1 = d by omega]; exact hc) ?_
    rw [w64_id (by omega) (by omega)]
    exact k _ (low_is ht he)
theorem bit_Next_spec (h : Sat w L) (hW : W < 18446744073709551616) (k : ∀ r, IsLow (W &&& (18446744073709551615 - belowN i)) r → K r w) : bit_Next.C (W : Int) i w K := by
  apply bit_Next.ok
  refine bit_below_spec ?_
  rw [bAndNot_u64 hW (belowN_lt i)]
  exact bit_Low_spec h (Nat.lt_of_le_of_lt Nat.and_le_left hW) k
end
section
variable {w : World} {K : Int → World → Prop} {W : Nat} {i : Int}
theorem high_is {W : Nat} (h0 : W ≠ 0) (hW : W < 18446744073709551616) : IsHigh W ((bitLen W : Int) - 1) := by
  obtain ⟨h1, h2⟩ := bitLen_spec W
  have h2 := h2 h0
  have hb : bitLen W ≠ 0 := by
    unfold bitLen; rw [if_neg h0]; omega
  obtain ⟨n, hn⟩ : ∃ n, bitLen W = n + 1 := ⟨bitLen W - 1, by omega⟩
  rw [hn] at h1 h2 ⊢
  simp only [Nat.add_sub_cancel] at h2
  have hn64 : n < 64 := by
    rcases Nat.lt_or_ge n 64 with h | h
    · exact h
    · have := Nat.pow_le_pow_right (n := 2) (by decide) h
      omega
  rw [show ((n + 1 : Nat) : Int) - 1 = (n : Int) by omega]
  refine .some n hn64 ?_ fun j hj => ?_
  · obtain ⟨r, hr⟩ : ∃ r, W = 2 ^ n + r := ⟨W - 2 ^ n, by omega⟩
    have hlt : r < 2 ^ n := by rw [Nat.pow_succ] at h1; omega
    have := Nat.testBit_two_pow_mul_add 1 hlt n
    rw [Nat.mul_one] at this
    rw [hr, this]; simp
  · exact Nat.testBit_lt_two_pow (Nat.lt_of_lt_of_le h1 (Nat.pow_le_pow_right (by decide) hj))
theorem bit_High_spec (hW : W < 18446744073709551616) (k : ∀ r, IsHigh W r → K r w) : bit_High.C (W : Int) w K := by
  apply bit_High.ok
  refine bits_Len64_spec hW ?_
  have hle : bitLen W ≤ 64 := by
    unfold bitLen; split
    · omega
    · rename_i h; have := (Nat.log2_lt h).2 (show W < 2 ^ 64 from hW); omega
  rw [w64_id (by omega) (by omega)]
  by_cases h0 : W = 0
  · subst h0; exact k _ (.none rfl)
  · exact k _ (high_is h0 hW)
theorem bit_Prev_spec (hW : W < 18446744073709551616) (k : ∀ r, (i < 0 → r = -1) → (0 ≤ i → IsHigh (W &&& (belowN i ||| oneN i)) r) → K r w) : bit_Prev.C (W : Int) i w K := by
  apply bit_Prev.ok
  refine cond_c (fun h => ?_) fun h => ?_
  · have h : i < 0 := by simpa using h
    exact k _ (fun _ => rfl) (fun h0 => by omega)
  · have h : ¬ i < 0 := by simpa using h
    refine bit_below_spec (bit_one_spec ?_)
    have hor : (belowN i ||| oneN i) < 18446744073709551616 := Nat.or_lt_two_pow (n := 64) (belowN_lt i) (oneN_lt i)
    rw [bOr_u64 (belowN_lt i) (oneN_lt i), bAnd_u64 hW hor]
    exact bit_High_spec (Nat.lt_of_le_of_lt Nat.and_le_left hW) fun r hr => k r (fun h0 => by omega) fun _ => hr
theorem bit_Make_spec {L : List HP} {F : HP → List HP} {b : Nat} [q : Foc blk b [.int .i64 i] L F] (h : Sat w L) (k : K (oneN i : Nat) w) : bit_Make.C (some ⟨b, 0, none⟩) 1 1 w K := by
  apply bit_Make.ok
  show LoopT _ _ _
  refine LoopT.of (fun s w' => w' = w ∧ ((s = (0, 0)) ∨ s = (((oneN i : Nat) : Int), 1))) (fun s => (1 - s.2).toNat) ⟨rfl, .inl rfl⟩ ?_
  rintro s w' ⟨rfl, rfl | rfl⟩
  · dsimp only [bit_Make.B1]
    refine cond_t (by decide) ?_
    refine ⟨by decide, by decide, ?_⟩
    refine lI64.of h (by rfl) ?_
    refine bit_one_spec ?_
    have e : bOr .u64 (0 : Int) ((oneN i : Nat) : Int) = ((oneN i : Nat) : Int) := by
      have := bOr_u64 (x := 0) (y := oneN i) (by decide) (oneN_lt i)
      simpa using this
    rw [e]
    exact ⟨⟨rfl, .inr rfl⟩, by decide⟩
  · dsimp only [bit_Make.B1]
    refine cond_f (by decide) ?_
    exact k
end
end Go.St
