/- Contracts: tables. -/
import Derived.Test.YtkapfochgkdhaaaGreatCtA
import Derived.Test.YtkapfochgkdhaaaGreatCtB0
import Derived.Test.YtkapfochgkdhaaaGreatCtH0
namespace Go.St
open Go Go.Proofs
attribute [local irreducible] stP alP drP stCs lI64 lU64 lU8 lB lP lL lR AppV ClrV

theorem len8tab_size : len8tab.size = 256 := by kernel_rfl
set_option maxRecDepth 100000 in
theorem len8tab_bt {n : Nat} (h : n < 256) : bt len8tab (n : Int) = (bitLen n : Int) := by
  have hs : n < len8tab.size := by rw [len8tab_size]; exact h
  unfold bt
  rw [Int.toNat_natCast, getElem?_pos len8tab n hs]
  have := len8tab_get n h
  simp only [Option.getD_some]
  exact_mod_cast this
theorem bits_Len64_spec {n : Nat} (hn : n < 18446744073709551616) {w : World} {K : Int → World → Prop} (k : K (bitLen n : Int) w) : math_bits_Len64.C (n : Int) w K := by
  apply math_bits_Len64.ok
  have hle : ∀ x : Nat, x < 256 → bitLen x ≤ 8 := bitLen_le8
  -- the last step
  have t2 : ∀ (x c : Nat), x < 65536 → c ≤ 48 → bitLen n = c + bitLen x → math_bits_Len64.T2 K (x : Int) (c : Int) w := by
    intro x c hx hc he
    unfold math_bits_Len64.T2
    refine cond_c (fun h => ?_) fun h => ?_
    · simp only [ge_iff_le, decide_eq_true_eq] at h
      rw [shr_u64 (by decide), show wu8 ((x / 2 ^ 8 : Nat) : Int) = ((x / 2 ^ 8 : Nat) : Int) by rw [wu8_eq]; omega]
      refine ⟨by omega, by rw [len8tab_size]; omega, ?_⟩
      have h8 : x / 2 ^ 8 < 256 := by omega
      rw [len8tab_bt h8]
      have := hle _ h8
      have hs := bitLen_shift x 8 (by omega)
      rw [w64_id (x := (bitLen (x / 2 ^ 8) : Int)) (by omega) (by omega), w64_id (x := (c : Int) + 8) (by omega) (by omega), w64_id (by omega) (by omega), show (c : Int) + 8 + (bitLen (x / 2 ^ 8) : Int) = (bitLen n : Int) by omega]
      exact k
    · simp only [ge_iff_le, decide_eq_false_iff_not] at h
      have h8 : x < 256 := by omega
      rw [show wu8 ((x : Nat) : Int) = ((x : Nat) : Int) by rw [wu8_eq]; omega]
      refine ⟨by omega, by rw [len8tab_size]; omega, ?_⟩
      rw [len8tab_bt h8]
      have := hle _ h8
      rw [w64_id (x := (bitLen x : Int)) (by omega) (by omega), w64_id (by omega) (by omega), show (c : Int) + (bitLen x : Int) = (bitLen n : Int) by omega]
      exact k
  have t1 : ∀ (x c : Nat), x < 4294967296 → c ≤ 32 → bitLen n = c + bitLen x → math_bits_Len64.T1 K (x : Int) (c : Int) w := by
    intro x c hx hc he
    unfold math_bits_Len64.T1
    refine cond_c (fun h => ?_) fun h => ?_
    · simp only [ge_iff_le, decide_eq_true_eq] at h
      rw [shr_u64 (by decide), w64_id (by omega) (by omega)]
      have hs := bitLen_shift x 16 (by omega)
      exact t2 (x / 2 ^ 16) (c + 16) (by omega) (by omega) (by omega)
    · simp only [ge_iff_le, decide_eq_false_iff_not] at h
      exact t2 x c (by omega) (by omega) he
  unfold math_bits_Len64.F
  refine cond_c (fun h => ?_) fun h => ?_
  · simp only [ge_iff_le, decide_eq_true_eq] at h
    rw [shr_u64 (by decide)]
    have hs := bitLen_shift n 32 (by omega)
    exact t1 (n / 2 ^ 32) 32 (by omega) (by omega) (by omega)
  · simp only [ge_iff_le, decide_eq_false_iff_not] at h
    exact t1 n 0 (by omega) (by omega) (by omega)
theorem bits_Len_spec {n : Nat} (hn : n < 18446744073709551616) {w : World} {K : Int → World → Prop} (k : K (bitLen n : Int) w) : math_bits_Len.C (n : Int) w K :=
  math_bits_Len.ok (bits_Len64_spec hn k)
theorem bitLen_mask (j : Nat) : bitLen (2 ^ j - 1) = j := by
  have hp := Nat.two_pow_pos j
  obtain ⟨h1, h2⟩ := bitLen_spec (2 ^ j - 1)
  by_cases hj : j = 0
  · subst hj; rfl
  · have h3 := h2 (by have : 2 ^ 1 ≤ 2 ^ j := Nat.pow_le_pow_right (by decide) (by omega)
                      omega)
    have h4 : bitLen (2 ^ j - 1) - 1 < j := (Nat.pow_lt_pow_iff_right (a := 2) (by decide)).1 (by omega)
    have h5 : j ≤ bitLen (2 ^ j - 1) := by
      rcases Nat.lt_or_ge (bitLen (2 ^ j - 1)) j with h | h
      · have := Nat.pow_le_pow_right (n := 2) (by decide) (show bitLen (2 ^ j - 1) + 1 ≤ j from h)
        rw [Nat.pow_succ] at this
        have := Nat.two_pow_pos (bitLen (2 ^ j - 1))
        omega
      · exact h
    omega

def rotl (x k : Int) : Int := bOr .u64 (shl .u64 x (bAnd .u64 (wu64 k) 63).toNat) (shr .u64 x (wu64 (64 - bAnd .u64 (wu64 k) 63)).toNat)
theorem shP_of {b : Int} {K : Nat → Prop} (h : 0 ≤ b) (k : K b.toNat) : shP b K := by
  cases b with
  | ofNat n => exact k
  | negSucc n => exact absurd h (by simp)
theorem bits_Rotate_spec {x k : Int} {w : World} {K : Int → World → Prop} (q : K (rotl x k) w) : math_bits_RotateLeft64.C x k w K := by
  apply math_bits_RotateLeft64.ok
  refine shP_of bAnd_rng.1 (shP_of (wu64_rng _).1 q)
def oddF (seed turn : Int) : Int := bOr .u64 (rotl (wu64 (wu64 (seed * 11400714819323198485) + 15111065706836454659)) turn) 1
def mixF (seed l p : Int) : Int :=
  let x := wu64 (wu64 (p * oddF seed 0) + wu64 (wu64 l * oddF seed 23))
  wu64 (bXor .u64 x (shr .u64 x 29) * oddF seed 41)
def homeN (seed : Int) (j : Nat) (l p : Int) : Nat := (mixF seed l p).toNat / 2 ^ (64 - j)
theorem homeN_lt {seed l p : Int} {j : Nat} (hj : j ≤ 64) : homeN seed j l p < 2 ^ j := by
  unfold homeN
  have h := wu64_rng (bXor .u64 (wu64 (wu64 (p * oddF seed 0) + wu64 (wu64 l * oddF seed 23))) (shr .u64 (wu64 (wu64 (p * oddF seed 0) + wu64 (wu64 l * oddF seed 23))) 29) * oddF seed 41)
  rw [Nat.div_lt_iff_lt_mul (Nat.two_pow_pos _), ← Nat.pow_add, show j + (64 - j) = 64 by omega]
  unfold mixF
  simp only
  omega

def eEnt : Enc Ent := ⟨fun x => [.int .u8 x.lev, .int .u64 x.pre, .int .u64 x.v, .bool x.full], 4, by decide, fun _ => rfl, fun x v h => by
  simp only [List.mem_cons, List.not_mem_nil, or_false] at h
  rcases h with rfl | rfl | rfl | rfl <;> rfl⟩
def zEnt : Ent := ⟨0, 0, 0, false⟩
/-- a table's own block -/
abbrev tblk (t m : Nat) (a : Option Addr) (L : Nat) (seed n pr : Int) : HP := blk t [.pointer (some ⟨m, 0, none⟩), .slice a L L, .int .u64 seed, .int .i64 n, .int .i64 pr]
section
variable {w : World} {t m : Nat} {a : Option Addr} {L : Nat} {seed n pr : Int} {F : HP → List HP} {M : List HP}
theorem hash_odd_spec [i : Foc blk t [.pointer (some ⟨m, 0, none⟩), .slice a L L, .int .u64 seed, .int .i64 n, .int .i64 pr] M F] {turn : Int} {K : Int → World → Prop} (h : Sat w M) (k : K (oddF seed turn) w) : hash_Table_odd.C (some ⟨t, 0, none⟩) turn w K := by
  apply hash_Table_odd.ok
  refine lU64.of h (by rfl) ?_
  exact bits_Rotate_spec k
theorem hash_next_spec [i : Foc blk t [.pointer (some ⟨m, 0, none⟩), .slice a L L, .int .u64 seed, .int .i64 n, .int .i64 pr] M F] {j x : Nat} {K : Int → World → Prop} (h : Sat w M) (hL : L = 2 ^ j) (hj1 : 1 ≤ j) (hj : j ≤ 40) (hx : x < L)
    (k : K (nx L x 1 : Nat) w) : hash_Table_next.C (some ⟨t, 0, none⟩) (x : Int) w K := by
  apply hash_Table_next.ok
  refine lL.of h (by rfl) ?_
  have h2 : 2 ^ j ≤ 2 ^ 40 := Nat.pow_le_pow_right (by decide) hj
  have h3 : 2 ^ 1 ≤ 2 ^ j := Nat.pow_le_pow_right (by decide) hj1
  have hLc : ((L : Nat) : Int) = (2 : Int) ^ j := by rw [hL]; exact_mod_cast rfl
  rw [w64_id (x := (x : Int) + 1) (by omega) (by omega), w64_id (x := (L : Int) - 1) (by omega) (by omega), hLc, bAnd_mask (by omega), ← hLc]
  have : ((x : Int) + 1) % (L : Int) = (nx L x 1 : Nat) := by
    unfold nx
    split
    · rw [Int.emod_eq_of_lt (by omega) (by omega)]; omega
    · rw [show x + 1 = L by omega, show (x : Int) + 1 = (L : Int) by omega, Int.emod_self]; omega
  rw [this]; exact k
theorem hash_far_spec [i : Foc blk t [.pointer (some ⟨m, 0, none⟩), .slice a L L, .int .u64 seed, .int .i64 n, .int .i64 pr] M F] {j x y : Nat} {K : Int → World → Prop} (h : Sat w M) (hL : L = 2 ^ j) (hj : j ≤ 40) (hx : x < L) (hy : y < L)
    (k : K (ds L x y : Nat) w) : hash_Table_far.C (some ⟨t, 0, none⟩) (x : Int) (y : Int) w K := by
  apply hash_Table_far.ok
  refine lL.of h (by rfl) ?_
  have h2 : 2 ^ j ≤ 2 ^ 40 := Nat.pow_le_pow_right (by decide) hj
  have hLc : ((L : Nat) : Int) = (2 : Int) ^ j := by rw [hL]; exact_mod_cast rfl
  rw [w64_id (x := (y : Int) - x) (by omega) (by omega), w64_id (x := (L : Int) - 1) (by omega) (by omega), hLc, bAnd_mask (by omega), ← hLc]
  have : ((y : Int) - x) % (L : Int) = (ds L x y : Nat) := by
    unfold ds
    split
    · rw [Int.emod_eq_of_lt (by omega) (by omega)]; omega
    · rw [show (y : Int) - x = ((y : Int) - x + L) - L by omega, Int.sub_emod_right, Int.emod_eq_of_lt (by omega) (by omega)]; omega
  rw [this]; exact k
theorem hash_home_spec [i : Foc blk t [.pointer (some ⟨m, 0, none⟩), .slice a L L, .int .u64 seed, .int .i64 n, .int .i64 pr] M F] {j : Nat} {l p : Int} {K : Int → World → Prop} (h : Sat w M) (hL : L = 2 ^ j) (hj1 : 1 ≤ j) (hj : j ≤ 40)
    (k : ∀ w', Sat w' M → K (homeN seed j l p : Nat) w') : hash_Table_home.C (some ⟨t, 0, none⟩) l p w K := by
  apply hash_Table_home.ok
  refine alP.of h fun r w h => ?_
  refine drP.of h fun w h => ?_
  refine lU64.of h (by rfl) ?_
  refine lU8.of h (by rfl) ?_
  refine hash_odd_spec h ?_
  refine ⟨Foc.cells inferInstance h (by rfl), Foc.cells inferInstance h (by rfl), ?_⟩
  refine hash_odd_spec h ?_
  refine ⟨Foc.cells inferInstance h (by rfl), Foc.cells inferInstance h (by rfl), ?_⟩
  refine hash_odd_spec h ?_
  refine lL.of h (by rfl) ?_
  have h2 : 2 ^ j ≤ 2 ^ 40 := Nat.pow_le_pow_right (by decide) hj
  have h3 : 2 ^ 1 ≤ 2 ^ j := Nat.pow_le_pow_right (by decide) hj1
  rw [w64_id (x := (L : Int) - 1) (by omega) (by omega), show ((L : Int) - 1) = ((2 ^ j - 1 : Nat) : Int) by omega, wu64_id (by omega) (by omega)]
  refine bits_Len_spec (by omega) ?_
  rw [bitLen_mask, w64_id (x := (64 : Int) - (j : Int)) (by omega) (by omega)]
  refine shP_of (by omega) ?_
  have e1 : ((64 : Int) - (j : Int)).toNat = 64 - j := by omega
  rw [e1]
  obtain ⟨y, hy⟩ := nat_of (wu64_rng (bXor .u64 (wu64 (wu64 (p * oddF seed 0) + wu64 (wu64 l * oddF seed 23))) (shr .u64 (wu64 (wu64 (p * oddF seed 0) + wu64 (wu64 l * oddF seed 23))) 29) * oddF seed 41)).1
  have hlt := homeN_lt (seed := seed) (l := l) (p := p) (j := j) (by omega)
  have hh : homeN seed j l p = y / 2 ^ (64 - j) := by
    unfold homeN mixF; simp only; rw [hy]; simp
  rw [hy, shr_u64 (by omega), ← hh, w64_id (by omega) (by omega)]
  exact k _ h.drop

theorem zrow_rows {T : Type} {E : Enc T} {z : T} {n : Nat} (zc : Array Value) (h : zc.toList = E.e z) : (zrow zc (n * E.sz)).toList = E.rows (List.replicate n z) := by
  rw [← zeroCells_rows h n]
  have hs : zc.size = E.sz := by rw [← Array.length_toList, h, E.len]
  unfold zrow Builtin.zeroCells
  rw [hs]
theorem Own.ofZrow {T : Type} {E : Enc T} {z : T} {n r : Nat} {w : World} {M : List HP} {zc : Array Value} (hz : zc.toList = E.e z) (h : Sat w (blk r (zrow zc (n * E.sz)).toList :: M)) :
    Sat w (Own E (some ⟨r, 0, none⟩) (n, n, List.replicate n z) :: M) := by
  rw [zrow_rows zc hz] at h
  exact Own.ofBlk (rest := []) ⟨by simp, Nat.le_refl _, by simp⟩ (by simpa using h)
theorem LoopT.of {σ : Type} {B : σ → World → (σ → World → Prop) → Prop} {s : σ} {w : World} (I : σ → World → Prop) (μ : σ → Nat) (h0 : I s w) (hs : ∀ s w, I s w → B s w fun s' w' => I s' w' ∧ μ s' < μ s) : LoopT B s w :=
  ⟨I, fun s _ => μ s, h0, hs⟩
theorem hash_find_spec {A : List Ent} {j : Nat} {l p : Int} {K : Int → Bool → World → Prop} (h : Sat w (tblk t m a L seed n pr :: Own eEnt a (L, L, A) :: M)) (hL : L = 2 ^ j) (hj1 : 1 ≤ j) (hj : j ≤ 40)
    (hr : Ring (homeN seed j) L A) {e : Nat} (he : e < L) (hemp : fl A e = false)
    (k : ∀ i pr' w', Found (homeN seed j) L A l p i → Sat w' (tblk t m a L seed n pr' :: Own eEnt a (L, L, A) :: M) → K (i : Nat) (fl A i) w') : hash_Table_find.C (some ⟨t, 0, none⟩) l p w K := by
  apply hash_Table_find.ok
  refine alP.of h fun r w h => ?_
  refine stP.of h (by simp) fun w h => ?_
  refine lAu8_u64.of h (by rfl) ?_
  refine hash_home_spec h hL hj1 hj fun w h => ?_
  have hh := hr.hom l p
  have h3 : 2 ^ 1 ≤ 2 ^ j := Nat.pow_le_pow_right (by decide) hj1
  show LoopT _ _ _
  refine LoopT.of (fun s w => ∃ d pr', d < L ∧ s = (nx L (homeN seed j l p) d : Nat) ∧ (∀ c, c < d → fl A (nx L (homeN seed j l p) c) = true ∧ ¬ isK A (nx L (homeN seed j l p) c) l p) ∧
    Sat w (blk r [.int .u8 l, .int .u64 p] :: tblk t m a L seed n pr' :: Own eEnt a (L, L, A) :: M)) (fun s => ds L (homeN seed j l p) e - ds L (homeN seed j l p) s.toNat) ⟨0, 1, by omega, by rw [show nx L (homeN seed j l p) 0 = homeN seed j l p by unfold nx; rw [Nat.add_zero, if_pos hh]], fun c hc => by omega, h⟩ ?_
  rintro s w ⟨d, pr', hd, rfl, hway, h⟩
  obtain ⟨hde, hstep⟩ := found_step hr he hemp hd hway
  have hi : nx L (homeN seed j l p) d < L := nx_lt hh hd
  have hA : nx L (homeN seed j l p) d < A.length := by rw [hr.len]; exact hi
  generalize hI : nx L (homeN seed j l p) d = I at hi hA hstep ⊢
  have hget := List.getElem?_eq_getElem hA
  have hfx : fl A I = (A[I]).full := fl_of hget
  -- the end: what stands there
  have hend : (fl A I = true → isK A I l p) → ∀ w, Sat w (blk r [.int .u8 l, .int .u64 p] :: tblk t m a L seed n pr' :: Own eEnt a (L, L, A) :: M) → hash_Table_find.T1 K (some ⟨t, 0, none⟩) (I : Nat) w := by
    intro his w h
    unfold hash_Table_find.T1
    refine drP.of h fun w h => ?_
    refine lL.of h (by rfl) ?_
    obtain ⟨b, rfl, _, hc⟩ := Own.get (E := eEnt) (a := a) (l := L) (c := L) h hget
    refine ⟨by omega, by omega, ?_⟩
    refine lB.mk (n := fl A I) (by rw [show 0 + ((I : Nat) : Int).toNat * 4 + 3 = I * eEnt.sz + 3 by simp [eEnt], hc 3 (by decide), hfx]; rfl) ?_
    refine k I pr' _ ⟨hi, fun c hc => ?_, his⟩ h.drop
    have : ds L (homeN seed j l p) I = d := by rw [← hI, ds_nx hh hd]
    exact hway c (by omega)
  refine drP.of h fun w h => ?_
  refine lL.of h (by rfl) ?_
  obtain ⟨b, rfl, _, hc⟩ := Own.get (E := eEnt) (a := a) (l := L) (c := L) h hget
  refine ⟨by omega, by omega, ?_⟩
  have hidx : 0 + ((I : Nat) : Int).toNat * 4 = I * eEnt.sz + 0 := by simp [eEnt]
  refine lB.mk (n := (A[I]).full) (by rw [hidx, Nat.add_assoc, hc _ (by decide)]; rfl) ?_
  refine cond_c (fun hb => ?_) fun hb => ?_
  · refine lL.of h (by rfl) ?_
    refine ⟨by omega, by omega, ?_⟩
    refine lAu8_u64.mk (n1 := (A[I]).lev) (n2 := (A[I]).pre) (by
      rw [hidx]
      exact ⟨by rw [hc _ (by decide)]; rfl, by rw [Nat.add_assoc, hc _ (by decide)]; rfl, trivial⟩) ?_
    refine lAu8_u64.of h (by rfl) ?_
    refine cond_c (fun hk => ?_) fun hk => ?_
    · have hnk : ¬ isK A I l p := by
        rintro ⟨x, hx, rfl, rfl⟩
        rw [hget] at hx; cases hx
        simp at hk
      have hlt := hstep (by rw [hfx, hb])
      have hd1 : d + 1 < L := by have := ds_lt hh he; omega
      refine hash_next_spec h hL hj1 hj hi ?_
      refine lI64.of h (by rfl) ?_
      refine stP.of h (by simp) fun w h => ?_
      have hn1 : nx L I 1 = nx L (homeN seed j l p) (d + 1) := by
        rw [← hI]; unfold nx; (repeat' split) <;> omega
      refine ⟨⟨d + 1, w64 (pr' + 1), hd1, by rw [hn1], fun c hc => ?_, h⟩, ?_⟩
      · by_cases e1 : c = d
        · subst e1; rw [hI]; exact ⟨by rw [hfx, hb], hnk⟩
        · exact hway c (by omega)
      · rw [hn1]
        simp only [Int.toNat_natCast]
        rw [ds_nx hh hd1, ← hI, ds_nx hh hd]; omega
    · refine hend (fun _ => ⟨_, hget, ?_⟩) w h
      simpa using hk
  · exact hend (fun hf => by rw [hfx, hb] at hf; cases hf) w h

/-- what the first i places of a ring say -/
def SaysTo (f : Int → Int → Option Int) (A : List Ent) (i : Nat) : Prop :=
  ∀ l p v, f l p = some v ↔ ∃ q : Nat, ∃ e : Ent, q < i ∧ A[q]? = some e ∧ e.full = true ∧ e.lev = l ∧ e.pre = p ∧ e.v = v
theorem SaysTo.all {f g : Int → Int → Option Int} {A : List Ent} (h : SaysTo g A A.length) (hf : Says f A) : g = f := by
  funext l p
  have : ∀ v, g l p = some v ↔ f l p = some v := fun v => by
    rw [h, hf]
    constructor
    · rintro ⟨q, e, _, r⟩; exact ⟨q, e, r⟩
    · rintro ⟨q, e, r⟩; exact ⟨q, e, (List.getElem?_eq_some_iff.1 r.1).1, r⟩
  cases h1 : g l p with
  | none => cases h2 : f l p with
    | none => rfl
    | some v => rw [(this v).2 h2] at h1; cases h1
  | some v => rw [(this v).1 h1]
theorem SaysTo.skip {f : Int → Int → Option Int} {A : List Ent} {i : Nat} {e : Ent} (h : SaysTo f A i) (he : A[i]? = some e) (hb : e.full = false) : SaysTo f A (i + 1) := by
  intro l p v
  rw [h]
  constructor
  · rintro ⟨q, x, hq, r⟩; exact ⟨q, x, by omega, r⟩
  · rintro ⟨q, x, hq, hx, hf, r⟩
    refine ⟨q, x, ?_, hx, hf, r⟩
    rcases Nat.lt_or_ge q i with h | h
    · exact h
    · have : q = i := by omega
      subst this; rw [he] at hx; cases hx; rw [hb] at hf; cases hf
theorem SaysTo.new {h : Int → Int → Nat} {L : Nat} {f : Int → Int → Option Int} {A : List Ent} {i : Nat} {e : Ent} (hr : Ring h L A) (hs : SaysTo f A i) (he : A[i]? = some e) (hb : e.full = true) :
    f e.lev e.pre = none ∧ SaysTo (Tb.up f e.lev e.pre (some e.v)) A (i + 1) := by
  have hn : f e.lev e.pre = none := by
    cases hx : f e.lev e.pre with
    | none => rfl
    | some v =>
      obtain ⟨q, x, hq, hx', hf, h1, h2, _⟩ := (hs _ _ _).1 hx
      have := hr.uniq q i e.lev e.pre (by rw [fl_of hx', hf]) (by rw [fl_of he, hb]) ⟨x, hx', h1, h2⟩ ⟨e, he, rfl, rfl⟩
      omega
  refine ⟨hn, ?_⟩
  intro l p v
  unfold Tb.up
  split
  · rename_i hlp
    obtain ⟨rfl, rfl⟩ := hlp
    constructor
    · intro hv; cases hv; exact ⟨i, e, by omega, he, hb, rfl, rfl, rfl⟩
    · rintro ⟨q, x, hq, hx, hf, h1, h2, h3⟩
      have := hr.uniq q i e.lev e.pre (by rw [fl_of hx, hf]) (by rw [fl_of he, hb]) ⟨x, hx, h1, h2⟩ ⟨e, he, rfl, rfl⟩
      subst this; rw [he] at hx; cases hx; rw [← h3]
  · rename_i hlp
    rw [hs]
    constructor
    · rintro ⟨q, x, hq, r⟩; exact ⟨q, x, by omega, r⟩
    · rintro ⟨q, x, hq, hx, hf, h1, h2, h3⟩
      refine ⟨q, x, ?_, hx, hf, h1, h2, h3⟩
      rcases Nat.lt_or_ge q i with h | h
      · exact h
      · have : q = i := by omega
        subst this; rw [he] at hx; cases hx; exact absurd ⟨h1.symm, h2.symm⟩ hlp
theorem hash_rehash_spec {A : List Ent} {j j2 L2 : Nat} {f : Int → Int → Option Int} {K : World → Prop} (h : Sat w (tblk t m a L seed n pr :: Own eEnt a (L, L, A) :: M)) (hLj : L ≤ 2 ^ 41)
    (hr : Ring (homeN seed j) L A) (hs : Says f A) (hL2 : L2 = 2 ^ j2) (hj1 : 1 ≤ j2) (hj2 : j2 ≤ 40) (hc : cnt A < L2)
    (k : ∀ a2 B w', Ring (homeN seed j2) L2 B → Says f B → cnt B = cnt A → Sat w' (tblk t m a2 L2 seed n pr :: Own eEnt a2 (L2, L2, B) :: M) → K w') : hash_Table_rehash.C (some ⟨t, 0, none⟩) (L2 : Int) w K := by
  apply hash_Table_rehash.ok
  have h2 : 2 ^ j2 ≤ 2 ^ 40 := Nat.pow_le_pow_right (by decide) hj2
  have hw : w64 (L2 : Int) = (L2 : Int) := w64_id (by omega) (by omega)
  refine lL.of h (by rfl) ?_
  refine ⟨⟨by rw [hw]; omega, by omega, by rw [hw]; omega⟩, ?_⟩
  rw [hw, Int.toNat_natCast]
  refine alP.of h fun r w h => ?_
  have h := Own.ofZrow (E := eEnt) (z := zEnt) rfl h
  refine stP.of h (by simp) fun w h => ?_
  refine lI64.of h (by rfl) ?_
  obtain ⟨ring0, says0⟩ := ring_rep (h := homeN seed j2) (L := L2) (fun l p => by rw [hL2]; exact homeN_lt (by omega)) (z := zEnt) rfl
  show LoopT _ _ _
  have h := h.pull 1
  simp only [pullL] at h
  refine LoopT.of (fun s w => ∃ i : Nat, s = (i : Int) ∧ i ≤ L ∧ ∃ B g pr', Ring (homeN seed j2) L2 B ∧ Says g B ∧ SaysTo g A i ∧ cnt B = cnt (A.take i) ∧
    Sat w (tblk t m (some ⟨r, 0, none⟩) L2 seed n pr' :: Own eEnt (some ⟨r, 0, none⟩) (L2, L2, B) :: Own eEnt a (L, L, A) :: M)) (fun s => L - s.toNat)
    ⟨0, rfl, by omega, _, _, pr, ring0, says0, fun l p v => ⟨(fun h => by cases h), fun ⟨q, e, hq, _⟩ => (by omega)⟩, by rw [cnt_rep _ _ rfl]; rfl, h⟩ ?_
  rintro s w ⟨i, rfl, hi, B, g, pr', rB, sB, sT, hcnt, h⟩
  refine cond_c (fun hlt => ?_) fun hlt => ?_
  · simp only [decide_eq_true_eq] at hlt
    have hiA : i < A.length := by rw [hr.len]; omega
    have hget := List.getElem?_eq_getElem hiA
    obtain ⟨b, rfl, _, hcs⟩ := Own.cells (E := eEnt) (a := a) (l := L) (c := L) h hget
    refine ⟨by omega, by omega, ?_⟩
    refine lAu8_u64_u64_b.mk (by rw [show 0 + ((i : Nat) : Int).toNat * 4 = i * eEnt.sz + 0 by simp [eEnt]]; exact hcs 0 _ rfl) ?_
    refine alP.of h fun r2 w h => ?_
    refine stCs.of h (Nat.le_of_ble_eq_true rfl) (by simp [Value.oneCell']) fun w h => ?_
    refine lB.of h (by rfl) ?_
    have hnext : w64 ((i : Int) + 1) = ((i + 1 : Nat) : Int) := by rw [w64_id (by omega) (by omega)]; omega
    have hct := cnt_take_succ hget
    generalize A[i] = x at hget hct h ⊢
    refine cond_c (fun hb => ?_) fun hb => ?_
    · obtain ⟨hnone, hT'⟩ := SaysTo.new hr sT hget hb
      have hB : cnt B < B.length := by
        rw [hcnt, rB.len]; have := cnt_take_le A i; omega
      obtain ⟨e, he, hemp⟩ := ex_empty hB
      rw [rB.len] at he
      refine lAu8_u64.of h (by rfl) ?_
      have h := h.pull 1
      simp only [pullL] at h
      have h := h.pull 2
      simp only [pullL] at h
      have h := h.pull 1
      simp only [pullL] at h
      refine hash_find_spec h hL2 hj1 hj2 rB he hemp fun q pr2 w hq h => ?_
      have hqf : fl B q = false := by
        cases hf : fl B q with
        | false => rfl
        | true =>
          obtain ⟨y, _, _, _, _, hy⟩ := hq.some rB sB hf
          rw [hnone] at hy; cases hy
      have hqB : q < B.length := by rw [rB.len]; exact hq.lt
      refine drP.of h fun w h => ?_
      refine lL.of h (by rfl) ?_
      refine lAu8_u64_u64_b.of h (by rfl) ?_
      refine ⟨by omega, by have := hq.lt; omega, ?_⟩
      rw [show 0 + ((q : Nat) : Int).toNat * 4 = q * eEnt.sz + 0 by simp [eEnt]]
      refine Own.stCs (E := eEnt) (y := ⟨x.lev, x.pre, x.v, true⟩) (l := L2) (c := L2) h (List.getElem?_eq_getElem hqB) (Nat.le_of_ble_eq_true rfl) (by simp [Value.oneCell']) (by rw [hb]; rfl) fun w h => ?_
      obtain ⟨rB', sB'⟩ := ring_put rB sB hq hqf x.v
      have hcB := cnt_set (A := B) (i := q) ⟨x.lev, x.pre, x.v, true⟩ (List.getElem?_eq_getElem hqB)
      have hfe : (B[q]).full = false := by rw [← fl_of (List.getElem?_eq_getElem hqB)]; exact hqf
      rw [hfe] at hcB
      refine ⟨⟨i + 1, hnext, by omega, _, _, pr2, rB', sB', hT', by rw [hct, hb]; simp at hcB ⊢; omega, ?_⟩, by rw [hnext]; simp only [Int.toNat_natCast]; omega⟩
      have h := h.pull 2
      simp only [pullL] at h
      exact h.drop
    · refine ⟨⟨i + 1, hnext, by omega, B, g, pr', rB, sB, sT.skip hget hb, by rw [hct, hb]; simpa using hcnt, h.drop⟩, by rw [hnext]; simp only [Int.toNat_natCast]; omega⟩
  · simp only [decide_eq_false_iff_not] at hlt
    have hiL : i = A.length := by rw [hr.len]; omega
    subst hiL
    have hg := sT.all hs
    subst hg
    refine stP.of h (by simp) fun w h => ?_
    refine k (some ⟨r, 0, none⟩) B w rB sB (by rw [hcnt, List.take_length]) ?_
    have h := h.pull 2
    simp only [pullL] at h
    exact h.drop

structure Tb where
  m : Nat
  f : Int → Int → Option Int
  n : Nat
structure TbOk (s : Tb) (A : List Ent) (seed : Int) (j : Nat) : Prop where
  ring : Ring (homeN seed j) (2 ^ j) A
  says : Says s.f A
  cnt : cnt A = s.n
  half : 2 * s.n ≤ 2 ^ j
  j3 : 3 ≤ j
  j40 : j ≤ 40
  big : 2 ^ j = 8 ∨ 2 ^ j ≤ 8 * s.n
def TabR (t : Nat) (s : Tb) : HP := ex fun (A : List Ent) => ex fun (x : Int × Int) => ex fun (j : Nat) => ex fun (a : Option Addr) =>
  sp (pur (TbOk s A x.1 j)) (sp (tblk t s.m a (2 ^ j) x.1 (s.n : Int) x.2) (Own eEnt a (2 ^ j, 2 ^ j, A)))
theorem TabR.un {s : Tb} (h : Sat w (TabR t s :: M)) : ∃ A seed pr j a, TbOk s A seed j ∧ Sat w (tblk t s.m a (2 ^ j) seed (s.n : Int) pr :: Own eEnt a (2 ^ j, 2 ^ j, A) :: M) := by
  obtain ⟨A, h⟩ := Sat.ex.1 h; obtain ⟨⟨seed, pr⟩, h⟩ := Sat.ex.1 h; obtain ⟨j, h⟩ := Sat.ex.1 h; obtain ⟨a, h⟩ := Sat.ex.1 h
  obtain ⟨hp, h⟩ := Sat.pur.1 (Sat.sep.1 h)
  exact ⟨A, seed, pr, j, a, hp, Sat.sep.1 h⟩
theorem TabR.mk {s : Tb} {A : List Ent} {j : Nat} (hp : TbOk s A seed j) (h : Sat w (tblk t s.m a (2 ^ j) seed (s.n : Int) pr :: Own eEnt a (2 ^ j, 2 ^ j, A) :: M)) : Sat w (TabR t s :: M) :=
  Sat.ex.2 ⟨A, Sat.ex.2 ⟨(seed, pr), Sat.ex.2 ⟨j, Sat.ex.2 ⟨a, Sat.sep.2 (Sat.pur.2 ⟨hp, Sat.sep.2 h⟩)⟩⟩⟩⟩
theorem pow8 {j : Nat} (h : 3 ≤ j) : 8 ≤ 2 ^ j := Nat.pow_le_pow_right (n := 2) (by decide) h
theorem pow40 {j : Nat} (h : j ≤ 40) : 2 ^ j ≤ 1099511627776 := Nat.pow_le_pow_right (n := 2) (by decide) h
theorem TbOk.empty {s : Tb} {A : List Ent} {j : Nat} (hp : TbOk s A seed j) : ∃ e, e < 2 ^ j ∧ fl A e = false := by
  have h8 := pow8 hp.j3
  have := hp.half
  obtain ⟨e, h1, h2⟩ := ex_empty (A := A) (by rw [hp.cnt, hp.ring.len]; omega)
  exact ⟨e, by rw [← hp.ring.len]; exact h1, h2⟩
theorem hash_New_spec {seed : Int} {K : Option Addr → World → Prop} (h : Sat w M) (k : ∀ t w', Sat w' (TabR t ⟨m, fun _ _ => none, 0⟩ :: M) → K (some ⟨t, 0, none⟩) w') : hash_New.C (some ⟨m, 0, none⟩) seed w K := by
  apply hash_New.ok
  refine cond_f rfl ?_
  refine ⟨by decide, ?_⟩
  refine alP.of h fun r w h => ?_
  have h := Own.ofZrow (E := eEnt) (z := zEnt) (n := 8) rfl h
  refine alP.of h fun r2 w h => ?_
  refine k r2 w ?_
  obtain ⟨ring0, says0⟩ := ring_rep (h := homeN seed 3) (L := 2 ^ 3) (fun l p => homeN_lt (by omega)) (z := zEnt) rfl
  exact TabR.mk (s := ⟨m, fun _ _ => none, 0⟩) (A := List.replicate 8 zEnt) (j := 3) (seed := seed) (pr := 0) ⟨ring0, says0, cnt_rep _ _ rfl, Nat.le_of_ble_eq_true rfl, by decide, by decide, .inl rfl⟩ h
theorem hash_Clear_spec {s : Tb} [i : Foc TabR t s M F] {K : World → Prop} (h : Sat w M) (k : ∀ w', Sat w' (F (TabR t ⟨s.m, fun _ _ => none, 0⟩)) → K w') : hash_Table_Clear.C (some ⟨t, 0, none⟩) w K := by
  apply hash_Table_Clear.ok
  obtain ⟨N, h, hb⟩ := i.op h
  obtain ⟨A, seed, pr, j, a, hp, h⟩ := TabR.un h
  refine cond_t rfl ?_
  refine ⟨by decide, ?_⟩
  refine alP.of h fun r w h => ?_
  have h := Own.ofZrow (E := eEnt) (z := zEnt) (n := 8) rfl h
  refine stP.of h (by simp) fun w h => ?_
  refine stP.of h (by simp) fun w h => ?_
  refine stP.of h (by simp) fun w h => ?_
  refine k _ (hb ?_)
  obtain ⟨ring0, says0⟩ := ring_rep (h := homeN seed 3) (L := 2 ^ 3) (fun l p => homeN_lt (by omega)) (z := zEnt) rfl
  have h := (h.pull 2).drop.pull 1
  exact TabR.mk (s := ⟨s.m, fun _ _ => none, 0⟩) (A := List.replicate 8 zEnt) (j := 3) (seed := seed) (pr := 0) ⟨ring0, says0, cnt_rep _ _ rfl, Nat.le_of_ble_eq_true rfl, by decide, by decide, .inl rfl⟩ h
theorem hash_Len_spec {s : Tb} [i : Foc TabR t s M F] {K : Int → World → Prop} (h : Sat w M) (k : K (s.n : Int) w) : hash_Table_Len.C (some ⟨t, 0, none⟩) w K := by
  apply hash_Table_Len.ok
  obtain ⟨N, h, hb⟩ := i.op h
  obtain ⟨A, seed, pr, j, a, hp, h⟩ := TabR.un h
  exact lI64.of h (by rfl) k
theorem hash_Get_spec {s : Tb} [i : Foc TabR t s M F] (hm : s.m = m) {G : HP → List HP} [q : Foc Mtr m () (F emp) G] {l p : Int} {K : Int → Bool → World → Prop} (h : Sat w M)
    (k : ∀ w', Sat w' M → K ((s.f l p).getD 0) (s.f l p).isSome w') : hash_Table_Get.C (some ⟨t, 0, none⟩) l p w K := by
  apply hash_Table_Get.ok
  obtain ⟨N, h, hb, _⟩ := Foc.op2 (i := i) (j := q) h
  refine alP.of h fun r w h => ?_
  refine cond_f rfl ?_
  obtain ⟨A, seed, pr, j, a, hp, h⟩ := TabR.un (h.pull 1)
  refine lP.of h (by rfl) ?_
  rw [hm] at h ⊢
  refine count_Call_spec h fun w h => ?_
  refine lAu8_u64.of h (by rfl) ?_
  obtain ⟨e, he, hemp⟩ := hp.empty
  refine hash_find_spec h rfl (by have := hp.j3; omega) hp.j40 hp.ring he hemp fun x pr' w hx h => ?_
  have hback : Sat w M := hb (by
    have h2 := TabR.mk (s := s) (A := A) (j := j) (seed := seed) (pr := pr') (a := a) (t := t) hp (by rw [hm]; exact h)
    exact (h2.pull 1).drop)
  refine cond_c (fun hf => ?_) fun hf => ?_
  · have hf : fl A x = false := by simpa using hf
    rw [hx.none hp.ring hp.says hf] at k
    exact k _ hback
  · have hf : fl A x = true := by simpa using hf
    obtain ⟨y, hy, _, _, _, hfy⟩ := hx.some hp.ring hp.says hf
    rw [hfy] at k
    have h40 := pow40 hp.j40
    have hlt := hx.lt
    refine lL.of h (by rfl) ?_
    obtain ⟨b, rfl, _, hc⟩ := Own.get (E := eEnt) (a := a) (l := 2 ^ j) (c := 2 ^ j) h hy
    refine ⟨by omega, by omega, ?_⟩
    refine lU64.mk (n := y.v) (by rw [show 0 + ((x : Nat) : Int).toNat * 4 + 2 = x * eEnt.sz + 2 by simp [eEnt], hc 2 (by decide)]; rfl) ?_
    exact k _ hback
theorem hash_Put_spec {s : Tb} [i : Foc TabR t s M F] {l p v : Int} {K : Bool → World → Prop} (h : Sat w M) (hn : s.n < 2 ^ 30)
    (k1 : ∀ u w', s.f l p = some u → Sat w' (F (TabR t ⟨s.m, Tb.up s.f l p (some v), s.n⟩)) → K false w')
    (k2 : ∀ w', s.f l p = none → Sat w' (F (TabR t ⟨s.m, Tb.up s.f l p (some v), s.n + 1⟩)) → K true w') : hash_Table_Put.C (some ⟨t, 0, none⟩) l p v w K := by
  apply hash_Table_Put.ok
  obtain ⟨N, h, hb⟩ := i.op h
  refine alP.of h fun r w h => ?_
  refine cond_f rfl ?_
  refine lAu8_u64.of h (by rfl) ?_
  obtain ⟨A, seed, pr, j, a, hp, h⟩ := TabR.un (h.pull 1)
  obtain ⟨e, he, hemp⟩ := hp.empty
  have h8 := pow8 hp.j3
  have h40 := pow40 hp.j40
  have hhalf := hp.half
  refine hash_find_spec h rfl (by have := hp.j3; omega) hp.j40 hp.ring he hemp fun x pr' w hx h => ?_
  have hlt := hx.lt
  refine cond_c (fun hf => ?_) fun hf => ?_
  · obtain ⟨y, hy, hyf, rfl, rfl, hfy⟩ := hx.some hp.ring hp.says hf
    refine lL.of h (by rfl) ?_
    obtain ⟨b, rfl, _, _⟩ := Own.get (E := eEnt) (a := a) (l := 2 ^ j) (c := 2 ^ j) h hy
    refine ⟨by omega, by omega, ?_⟩
    rw [show 0 + ((x : Nat) : Int).toNat * 4 + 2 = x * eEnt.sz + 2 by simp [eEnt]]
    refine Own.stP (E := eEnt) (y := ⟨y.lev, y.pre, v, true⟩) (l := 2 ^ j) (c := 2 ^ j) h hy (by decide) (by rw [← hyf]; rfl) fun w h => ?_
    obtain ⟨r1, r2⟩ := ring_val hp.ring hp.says hy hyf v
    have hc := cnt_set (A := A) (i := x) ⟨y.lev, y.pre, v, true⟩ hy
    rw [hyf] at hc
    refine k1 _ _ hfy (hb ?_)
    have h2 := TabR.mk (s := ⟨s.m, Tb.up s.f y.lev y.pre (some v), s.n⟩) (t := t) (pr := pr') (a := some ⟨b, 0, none⟩) (j := j) (seed := seed) ⟨r1, r2, by have := hp.cnt; simp at hc ⊢; omega, hp.half, hp.j3, hp.j40, hp.big⟩ h
    exact (h2.pull 1).drop
  · have hnone := hx.none hp.ring hp.says hf
    have hxA : x < A.length := by rw [hp.ring.len]; exact hlt
    have hget := List.getElem?_eq_getElem hxA
    refine drP.of h fun w h => ?_
    refine lL.of h (by rfl) ?_
    refine lAu8_u64.of h (by rfl) ?_
    obtain ⟨b, rfl, _, _⟩ := Own.get (E := eEnt) (a := a) (l := 2 ^ j) (c := 2 ^ j) h hget
    refine ⟨by omega, by omega, ?_⟩
    rw [show 0 + ((x : Nat) : Int).toNat * 4 = x * eEnt.sz + 0 by simp [eEnt]]
    refine Own.stCs (E := eEnt) (y := ⟨l, p, v, true⟩) (l := 2 ^ j) (c := 2 ^ j) h hget (Nat.le_of_ble_eq_true rfl) (by simp [Value.oneCell']) rfl fun w h => ?_
    obtain ⟨r1, r2⟩ := ring_put hp.ring hp.says hx hf v
    have hc := cnt_set (A := A) (i := x) ⟨l, p, v, true⟩ hget
    have hfe : (A[x]).full = false := by rw [← fl_of hget]; exact hf
    rw [hfe] at hc
    have hcn := hp.cnt
    simp only [Bool.toNat_false, Bool.toNat_true, Nat.add_zero] at hc
    refine lI64.of h (by rfl) ?_
    refine stP.of h (by simp) fun w h => ?_
    have e1 : w64 ((s.n : Int) + 1) = ((s.n + 1 : Nat) : Int) := by rw [w64_id (by omega) (by omega)]; omega
    rw [e1] at h
    refine drP.of h fun w h => ?_
    refine lI64.of h (by rfl) ?_
    refine lL.of h (by rfl) ?_
    have e2 : w64 ((2 : Int) * ((s.n + 1 : Nat) : Int)) = 2 * ((s.n + 1 : Nat) : Int) := w64_id (by omega) (by omega)
    rw [e2]
    refine cond_c (fun hg => ?_) fun hg => ?_
    · simp only [gt_iff_lt, decide_eq_true_eq] at hg
      refine lL.of h (by rfl) ?_
      have hj : j ≤ 31 := by
        rcases Nat.lt_or_ge 31 j with h | h
        · have := Nat.pow_le_pow_right (n := 2) (by decide) (show 32 ≤ j from h)
          omega
        · exact h
      have e3 : w64 ((2 : Int) * ((2 ^ j : Nat) : Int)) = ((2 ^ (j + 1) : Nat) : Int) := by
        rw [w64_id (by omega) (by omega), Nat.pow_succ]; omega
      rw [e3]
      refine hash_rehash_spec (f := Tb.up s.f l p (some v)) (j := j) h (by omega) r1 r2 rfl (by omega) (by omega) (by rw [hc, hcn, Nat.pow_succ]; omega) fun a2 B w rB sB cB h => ?_
      refine k2 _ hnone (hb ?_)
      have h2 := TabR.mk (s := ⟨s.m, Tb.up s.f l p (some v), s.n + 1⟩) (t := t) (j := j + 1) (seed := seed) ⟨rB, sB, by show _ = s.n + 1; omega, by show 2 * (s.n + 1) ≤ _; rw [Nat.pow_succ]; omega, by have := hp.j3; omega, by omega, .inr (by show _ ≤ 8 * (s.n + 1); rw [Nat.pow_succ]; omega)⟩ h
      exact (h2.pull 1).drop
    · simp only [gt_iff_lt, decide_eq_false_iff_not] at hg
      refine k2 _ hnone (hb ?_)
      have h2 := TabR.mk (s := ⟨s.m, Tb.up s.f l p (some v), s.n + 1⟩) (t := t) (j := j) (seed := seed) ⟨r1, r2, by show _ = s.n + 1; omega, by show 2 * (s.n + 1) ≤ _; omega, hp.j3, hp.j40, by
        rcases hp.big with h | h
        · exact .inl h
        · right; show _ ≤ 8 * (s.n + 1); omega⟩ h
      exact (h2.pull 1).drop

theorem hash_Drop_end {s : Tb} {A : List Ent} {j o i : Nat} {f' : Int → Int → Option Int} {K : Bool → World → Prop} (h : Sat w (tblk t s.m a (2 ^ j) seed (s.n : Int) pr :: Own eEnt a (2 ^ j, 2 ^ j, A) :: M))
    (hh : Hole (homeN seed j) (2 ^ j) A o i) (hs : SaysO f' A o) (hemp : fl A i = false) (hc : cnt A = s.n) (hhalf : 2 * s.n ≤ 2 ^ j) (j3 : 3 ≤ j) (j40 : j ≤ 40) (big : 2 ^ j = 8 ∨ 2 ^ j ≤ 8 * s.n)
    (k : ∀ w', 0 < s.n → Sat w' (TabR t ⟨s.m, f', s.n - 1⟩ :: M) → K true w') : hash_Table_Drop.T1 K (some ⟨t, 0, none⟩) (o : Nat) w := by
  unfold hash_Table_Drop.T1
  have h8 := pow8 j3
  have h40 := pow40 j40
  have hoA : o < A.length := by rw [hh.len]; exact hh.ho
  have ho := hh.ho
  have hget := List.getElem?_eq_getElem hoA
  refine lL.of h (by rfl) ?_
  obtain ⟨b, rfl, _, _⟩ := Own.get (E := eEnt) (a := a) (l := 2 ^ j) (c := 2 ^ j) h hget
  refine ⟨by omega, by omega, ?_⟩
  rw [show 0 + ((o : Nat) : Int).toNat * 4 = o * eEnt.sz + 0 by simp [eEnt]]
  refine Own.stCs (E := eEnt) (y := zEnt) (l := 2 ^ j) (c := 2 ^ j) h hget (Nat.le_of_ble_eq_true rfl) (by simp [Value.oneCell']) rfl fun w h => ?_
  obtain ⟨r1, r2⟩ := hole_end hh hs (z := zEnt) rfl hemp
  have hcs := cnt_set (A := A) (i := o) zEnt hget
  have hfe : (A[o]).full = true := by rw [← fl_of hget]; exact hh.fo
  rw [hfe] at hcs
  simp only [zEnt, Bool.toNat_false, Bool.toNat_true, Nat.add_zero] at hcs
  refine lI64.of h (by rfl) ?_
  refine stP.of h (by simp) fun w h => ?_
  have e1 : w64 ((s.n : Int) - 1) = ((s.n - 1 : Nat) : Int) := by rw [w64_id (by omega) (by omega)]; omega
  rw [e1] at h
  refine drP.of h fun w h => ?_
  refine lL.of h (by rfl) ?_
  have same : (2 ^ j = 8 ∨ 2 ^ j ≤ 8 * (s.n - 1)) → ∀ w, Sat w (tblk t s.m (some ⟨b, 0, none⟩) (2 ^ j) seed ((s.n - 1 : Nat) : Int) pr :: Own eEnt (some ⟨b, 0, none⟩) (2 ^ j, 2 ^ j, A.set o zEnt) :: M) → K true w := fun hb w h => by
    refine k w (by omega) ?_
    exact TabR.mk (s := ⟨s.m, f', s.n - 1⟩) (t := t) (j := j) (seed := seed) ⟨r1, r2, by show _ = s.n - 1; simp only [zEnt]; omega, by show 2 * (s.n - 1) ≤ _; omega, j3, j40, hb⟩ h
  refine cond_c (fun hg => ?_) fun hg => ?_
  · simp only [gt_iff_lt, decide_eq_true_eq] at hg
    refine lI64.of h (by rfl) ?_
    refine lL.of h (by rfl) ?_
    rw [show w64 ((8 : Int) * ((s.n - 1 : Nat) : Int)) = 8 * ((s.n - 1 : Nat) : Int) from w64_id (by omega) (by omega)]
    refine cond_c (fun hg2 => ?_) fun hg2 => ?_
    · simp only [decide_eq_true_eq] at hg2
      have hj4 : 4 ≤ j := by
        rcases Nat.lt_or_ge j 4 with h | h
        · have : j = 3 := by omega
          subst this; omega
        · exact h
      obtain ⟨q, rfl⟩ : ∃ q, j = q + 1 := ⟨j - 1, by omega⟩
      have hq8 := pow8 (j := q) (by omega)
      have hps : 2 ^ (q + 1) = 2 ^ q * 2 := Nat.pow_succ ..
      refine lL.of h (by rfl) ?_
      rw [show w64 (Int.tdiv ((2 ^ (q + 1) : Nat) : Int) 2) = ((2 ^ q : Nat) : Int) by
        rw [Int.tdiv_eq_ediv_of_nonneg (by omega), w64_id (by omega) (by omega)]; omega]
      refine hash_rehash_spec (f := f') (j := q + 1) h (by omega) r1 r2 rfl (by omega) (by omega) (by simp only [zEnt]; omega) fun a2 B w rB sB cB h => ?_
      refine k w (by omega) ?_
      simp only [zEnt] at cB
      exact TabR.mk (s := ⟨s.m, f', s.n - 1⟩) (t := t) (j := q) (seed := seed) ⟨rB, sB, by show _ = s.n - 1; omega, by show 2 * (s.n - 1) ≤ _; omega, by omega, by omega, by
        rcases big with h | h
        · omega
        · by_cases h1 : 2 ^ q = 8
          · exact .inl h1
          · right; show _ ≤ 8 * (s.n - 1)
            have hq4 : 4 ≤ q := by
              rcases Nat.lt_or_ge q 4 with h | h
              · have : q = 3 := by omega
                subst this; omega
              · exact h
            have := Nat.pow_le_pow_right (n := 2) (by decide) hq4
            omega⟩ h
    · simp only [decide_eq_false_iff_not] at hg2
      exact same (.inr (by omega)) w h
  · simp only [gt_iff_lt, decide_eq_false_iff_not] at hg
    exact same (.inl (by omega)) w h
theorem hash_Drop_spec {s : Tb} [i : Foc TabR t s M F] {l p : Int} {K : Bool → World → Prop} (h : Sat w M)
    (k0 : ∀ w', s.f l p = none → Sat w' M → K false w')
    (k1 : ∀ u w', s.f l p = some u → 0 < s.n → Sat w' (F (TabR t ⟨s.m, Tb.up s.f l p none, s.n - 1⟩)) → K true w') : hash_Table_Drop.C (some ⟨t, 0, none⟩) l p w K := by
  apply hash_Table_Drop.ok
  obtain ⟨N, h, hb0, hb⟩ := i.back h
  refine alP.of h fun r w h => ?_
  refine cond_f rfl ?_
  refine lAu8_u64.of h (by rfl) ?_
  obtain ⟨A, seed, pr, j, a, hp, h⟩ := TabR.un (h.pull 1)
  obtain ⟨e, he, hemp⟩ := hp.empty
  have h8 := pow8 hp.j3
  have h40 := pow40 hp.j40
  have hj1 : 1 ≤ j := by have := hp.j3; omega
  refine hash_find_spec h rfl hj1 hp.j40 hp.ring he hemp fun x pr' w hx h => ?_
  have hlt := hx.lt
  refine cond_c (fun hf => ?_) fun hf => ?_
  · have hf : fl A x = false := by simpa using hf
    refine k0 _ (hx.none hp.ring hp.says hf) (hb0 ?_)
    have h2 := TabR.mk (s := s) (A := A) (j := j) (seed := seed) (pr := pr') (a := a) (t := t) hp h
    exact (h2.pull 1).drop
  · have hf : fl A x = true := by simpa using hf
    obtain ⟨y, hy, hyf, rfl, rfl, hfy⟩ := hx.some hp.ring hp.says hf
    refine hash_next_spec h rfl hj1 hp.j40 hlt ?_
    obtain ⟨H0, S0⟩ := hole_new hp.ring hp.says (by omega) hy hyf
    show LoopT _ _ _
    refine LoopT.of (fun s' w => ∃ o i : Nat, ∃ A', s' = ((o : Int), (i : Int)) ∧ Hole (homeN seed j) (2 ^ j) A' o i ∧ SaysO (Tb.up s.f y.lev y.pre none) A' o ∧ cnt A' = s.n ∧ fl A' e = false ∧
      Sat w (tblk t s.m a (2 ^ j) seed (s.n : Int) pr' :: Own eEnt a (2 ^ j, 2 ^ j, A') :: blk r [.int .u8 y.lev, .int .u64 y.pre] :: N)) (fun s' => ds (2 ^ j) s'.2.toNat e)
      ⟨x, nx (2 ^ j) x 1, A, rfl, H0, S0, hp.cnt, hemp, h⟩ ?_
    rintro s' w ⟨o, i, A', rfl, hh, hs, hc, he', h⟩
    have hi := hh.hi; have ho := hh.ho
    have hiA : i < A'.length := by rw [hh.len]; exact hi
    have hget := List.getElem?_eq_getElem hiA
    have hoA : o < A'.length := by rw [hh.len]; exact ho
    simp only
    refine lL.of h (by rfl) ?_
    obtain ⟨b, rfl, _, hcs⟩ := Own.get (E := eEnt) (a := a) (l := 2 ^ j) (c := 2 ^ j) h hget
    refine ⟨by omega, by omega, ?_⟩
    have hidx : ∀ q : Nat, 0 + ((q : Nat) : Int).toNat * 4 = q * eEnt.sz + 0 := fun q => by simp [eEnt]
    have hfi : fl A' i = (A'[i]).full := fl_of hget
    refine lB.mk (n := (A'[i]).full) (by rw [hidx, Nat.add_assoc, hcs _ (by decide)]; rfl) ?_
    refine cond_c (fun hbb => ?_) fun hbb => ?_
    · refine lL.of h (by rfl) ?_
      refine ⟨by omega, by omega, ?_⟩
      refine lAu8_u64.mk (n1 := (A'[i]).lev) (n2 := (A'[i]).pre) (by
        rw [hidx]
        exact ⟨by rw [hcs _ (by decide)]; rfl, by rw [Nat.add_assoc, hcs _ (by decide)]; rfl, trivial⟩) ?_
      refine hash_home_spec h rfl hj1 hp.j40 fun w h => ?_
      have hhm := hh.hom (A'[i]).lev (A'[i]).pre
      refine hash_far_spec h rfl hp.j40 hhm hi ?_
      refine hash_far_spec h rfl hp.j40 ho hi ?_
      have hie : i ≠ e := by rintro rfl; rw [hfi, hbb] at he'; cases he'
      have hmeas : ds (2 ^ j) (nx (2 ^ j) i 1) e < ds (2 ^ j) i e := by unfold ds nx; (repeat' split) <;> omega
      refine cond_c (fun hg => ?_) fun hg => ?_
      · simp only [ge_iff_le, decide_eq_true_eq] at hg
        refine drP.of h fun w h => ?_
        refine lL.of h (by rfl) ?_
        refine lL.of h (by rfl) ?_
        refine ⟨by omega, by omega, ?_⟩
        obtain ⟨b2, hb2, _, hc2⟩ := Own.cells (E := eEnt) (a := some ⟨b, 0, none⟩) (l := 2 ^ j) (c := 2 ^ j) h hget
        cases hb2
        refine lAu8_u64_u64_b.mk (by rw [hidx]; exact hc2 0 _ rfl) ?_
        refine ⟨by omega, by omega, ?_⟩
        rw [hidx]
        refine Own.stCs (E := eEnt) (y := A'[i]) (l := 2 ^ j) (c := 2 ^ j) h (List.getElem?_eq_getElem hoA) (Nat.le_of_ble_eq_true rfl) (by simp [Value.oneCell']) rfl fun w h => ?_
        refine hash_next_spec h rfl hj1 hp.j40 hi ?_
        obtain ⟨H1, S1⟩ := hole_move hh hs (by omega) hget hbb (by omega)
        have hcc := cnt_set (A := A') (i := o) (A'[i]) (List.getElem?_eq_getElem hoA)
        have hfo : (A'[o]).full = true := by rw [← fl_of (List.getElem?_eq_getElem hoA)]; exact hh.fo
        rw [hfo, hbb] at hcc
        refine ⟨⟨i, nx (2 ^ j) i 1, _, rfl, H1, S1, by omega, ?_, h⟩, by simpa using hmeas⟩
        rw [fl_set hoA, if_neg, he']
        rintro rfl; rw [hh.fo] at he'; cases he'
      · simp only [ge_iff_le, decide_eq_false_iff_not] at hg
        refine hash_next_spec h rfl hj1 hp.j40 hi ?_
        have H1 := hole_stay hh (by omega) hget hbb (by omega) he (by rintro rfl; rw [hh.fo] at he'; cases he') he'
        exact ⟨⟨o, nx (2 ^ j) i 1, A', rfl, H1, hs, hc, he', h⟩, by simpa using hmeas⟩
    · refine hash_Drop_end h hh hs (by rw [hfi, hbb]) hc hp.half hp.j3 hp.j40 hp.big fun w hn0 h => ?_
      exact k1 _ w hfy hn0 (hb (h.pull 1).drop)
end
end Go.St
