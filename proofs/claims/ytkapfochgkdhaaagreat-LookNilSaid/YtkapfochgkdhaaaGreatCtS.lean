/- Contracts: slices of keys. -/
import Derived.Test.YtkapfochgkdhaaaGreatCtA
import Derived.Test.YtkapfochgkdhaaaGreatCtS0
import Derived.Test.YtkapfochgkdhaaaGreatCtH
import Derived.Test.YtkapfochgkdhaaaGreatStX
import Derived.Test.YtkapfochgkdhaaaGreatF0
namespace Go.St
open Go Go.Proofs
attribute [local irreducible] stP alP drP stCs lI64 lU64 lU8 lB lP lL lR AppV ClrV

def eK : Enc Nat := ⟨fun n => [.int .u64 (n : Int)], 1, by decide, fun _ => rfl, fun _ v h => by simp at h; subst h; rfl⟩
def encK (n : Int) : List Value := [.int .u64 n]
section
variable {w : World} {M : List HP} {F : HP → List HP} {a : Option Addr} {l c : Nat} {xs : List Nat}
theorem kRd [i : Foc (Own eK) a (l, c, xs) M F] (h : Sat w M) {n : Int} {x : Nat} {K : Int → Prop} (h0 : 0 ≤ n) (hx : xs[n.toNat]? = some x) (k : K x) :
    nn a fun b o => 0 ≤ n ∧ n < ((l : Nat) : Int) ∧ lU64 w b (o + Int.toNat n * 1) K := by
  obtain ⟨b, rfl, hl, hc⟩ := Own.get (E := eK) (a := a) (l := l) (c := c) h hx
  refine ⟨h0, by omega, lU64.mk ?_ k⟩
  have := hc 0 (by decide)
  simpa [eK] using this
theorem kWr [i : Foc (Own eK) a (l, c, xs) M F] (h : Sat w M) {n : Int} {x v : Nat} {K : World → Prop} (h0 : 0 ≤ n) (hx : xs[n.toNat]? = some x) (k : ∀ w', Sat w' (F (Own eK a (l, c, xs.set n.toNat v))) → K w') :
    nn a fun b o => 0 ≤ n ∧ n < ((l : Nat) : Int) ∧ stP w b (o + Int.toNat n * 1) (.int .u64 (v : Int)) K := by
  obtain ⟨b, rfl, hl, _⟩ := Own.get (E := eK) (a := a) (l := l) (c := c) h hx
  refine ⟨h0, by omega, ?_⟩
  have := Own.stP (E := eK) (l := l) (c := c) (k := 0) (y := v) (u := .int .u64 (v : Int)) (K := K) (b := b) h hx (by decide) rfl k
  simpa [eK] using this
theorem cmp_Less_spec {x y : Int} {K : Bool → World → Prop} (k : K (decide (x < y)) w) : cmp_Less_uint64.C x y w K := by
  apply cmp_Less_uint64.ok
  have e : ∀ {z : Int} {K : Bool → World → Prop}, K false w → cmp_isNaN_uint64.C z w K := fun {z K} k => by
    apply cmp_isNaN_uint64.ok
    show K (z != z) w
    simpa using k
  refine e (cond_f rfl k)
theorem slices_insertionSort_spec {p q : Nat} {K : World → Prop} (h : Sat w (Own eK a (l, c, xs) :: M)) (hp : p ≤ q) (hq : q ≤ l) (hl : l < 2 ^ 40) (k : ∀ ys w', PermOn xs ys p q → SortedOn ys p q → Sat w' (Own eK a (l, c, ys) :: M) → K w') :
    slices_insertionSortOrdered_uint64.C a l c (p : Int) (q : Int) w K := by
  apply slices_insertionSortOrdered_uint64.ok
  show LoopT _ _ _
  rw [w64_id (by omega) (by omega)]
  refine LoopT.of (fun s w => ∃ (i : Nat) (ys : List Nat), s = (i : Int) ∧ p < i ∧ (i ≤ q ∨ i = p + 1) ∧ PermOn xs ys p q ∧ SortedOn ys p i ∧ Sat w (Own eK a (l, c, ys) :: M)) (fun s => q + 1 - s.toNat) ?_ ?_
  · exact ⟨p + 1, xs, by omega, by omega, .inr rfl, .refl, fun i j x y h1 h2 h3 => by omega, h⟩
  · rintro s w ⟨i, ys, rfl, h1, h2, h3, h4, h⟩
    refine cond_c (fun hc => ?_) fun hc => ?_
    · have hc : i < q := by simpa using hc
      have hlen := (Own.len h).1
      show LoopT _ _ _
      refine LoopT.of (fun s w => ∃ (j : Nat) (zs : List Nat), s = (j : Int) ∧ p ≤ j ∧ j ≤ i ∧ PermOn xs zs p q ∧ SortedBut zs p (i + 1) j ∧ Sat w (Own eK a (l, c, zs) :: M)) (fun s => s.toNat) ?_ ?_
      · exact ⟨i, ys, rfl, by omega, by omega, h3, h4.next, h⟩
      · rintro s w ⟨j, zs, rfl, g1, g2, g3, g4, h⟩
        have hlen := (Own.len h).1
        refine drP.of h fun w h => ?_
        have fin : ∀ w, SortedOn zs p (i + 1) → Sat w (Own eK a (l, c, zs) :: M) → (∃ (i' : Nat) (ys : List Nat), (w64 ((i : Int) + 1)) = (i' : Int) ∧ p < i' ∧ (i' ≤ q ∨ i' = p + 1) ∧ PermOn xs ys p q ∧ SortedOn ys p i' ∧ Sat w (Own eK a (l, c, ys) :: M)) ∧ (q + 1 - (w64 ((i : Int) + 1)).toNat) < (q + 1 - ((i : Int)).toNat) := by
          intro w hs h
          rw [w64_id (by omega) (by omega)]
          exact ⟨⟨i + 1, zs, by omega, by omega, .inl (by omega), g3, hs, h⟩, by omega⟩
        refine cond_c (fun hj => ?_) fun hj => ?_
        · have hj : p < j := by simpa using hj
          obtain ⟨j, rfl⟩ : ∃ j', j = j' + 1 := ⟨j - 1, by omega⟩
          have e1 : w64 (((j + 1 : Nat) : Int) - 1) = (j : Int) := by rw [w64_id (by omega) (by omega)]; omega
          have hx : zs[j]? = some zs[j] := List.getElem?_eq_getElem (by omega)
          have hy : zs[j + 1]? = some zs[j + 1] := List.getElem?_eq_getElem (by omega)
          rw [e1]
          refine kRd h (by omega) (by rw [Int.toNat_natCast]; exact hy) ?_
          refine kRd h (by omega) (by rw [Int.toNat_natCast]; exact hx) ?_
          refine cmp_Less_spec ?_
          refine cond_c (fun hlt => ?_) fun hlt => ?_
          · have hlt : zs[j + 1] < zs[j] := by simpa using hlt
            refine drP.of h fun w h => ?_
            refine kRd h (by omega) (by rw [Int.toNat_natCast]; exact hx) ?_
            refine kRd h (by omega) (by rw [Int.toNat_natCast]; exact hy) ?_
            refine kWr h (by omega) (by rw [Int.toNat_natCast]; exact hy) fun w h => ?_
            refine kWr (x := zs[j]) h (by omega) (by simp [List.getElem?_set_ne]) fun w h => ?_
            refine ⟨⟨j, _, rfl, by omega, by omega, ?_, ?_, h⟩, by omega⟩
            · exact g3.swap (by simp) (by simp; omega) (by simp; omega) (by simp) (by simp)
            · exact g4.step (by omega) (by omega) hx hy hlt
          · have hlt : ¬ zs[j + 1] < zs[j] := by simpa using hlt
            exact fin _ (g4.done (by omega) hx hy hlt) h
        · have hj : ¬ p < j := by simpa using hj
          obtain rfl : j = p := by omega
          exact fin _ g4.first h
    · have hc : ¬ i < q := by simpa using hc
      refine k ys _ h3 ?_ h
      rcases h2 with h2 | rfl
      · obtain rfl : i = q := by omega
        exact h4
      · intro i j x y; omega
theorem slices_Sort_spec {K : World → Prop} (h : Sat w (Own eK a (l, c, xs) :: M)) (hl : l ≤ 12) (k : ∀ ys w', ys.Perm xs → ys.Pairwise (· ≤ ·) → Sat w' (Own eK a (l, c, ys) :: M) → K w') : slices_Sort_uint64_uint64.C a l c w K := by
  apply slices_Sort_uint64_uint64.ok
  have hlen := Own.len h
  unfold slices_Sort_uint64_uint64.F
  rw [wu64_id (by omega) (by omega)]
  refine bits_Len_spec (by omega) ?_
  apply slices_pdqsortOrdered_uint64.ok
  show LoopT _ _ _
  refine LoopT.of (fun s w => s = ((0 : Int), (l : Int), (bitLen l : Int), true, true) ∧ Sat w (Own eK a (l, c, xs) :: M)) (fun _ => 0) ⟨rfl, h⟩ ?_
  rintro s w ⟨rfl, h⟩
  refine cond_t (by rw [w64_id (by omega) (by omega)]; simp; omega) ?_
  refine slices_insertionSort_spec (p := 0) (q := l) h (by omega) (by omega) (by omega) fun ys w hp hs h => ?_
  refine k ys _ hp.p ?_ h
  have := hp.len
  exact SortedOn.asc (by rw [this, hlen.1]; exact hs)
theorem rRd (rd : Rdb eK M a l xs) (h : Sat w M) {n : Int} {x : Nat} {K : Int → Prop} (h0 : 0 ≤ n) (hx : xs[n.toNat]? = some x) (k : K x) :
    nn a fun b o => 0 ≤ n ∧ n < ((l : Nat) : Int) ∧ lU64 w b (o + Int.toNat n * 1) K := by
  obtain ⟨b, o, rfl, hl, hc⟩ := rd.get h hx
  refine ⟨h0, by omega, lU64.mk ?_ k⟩
  have := hc 0 (by decide)
  simpa [eK] using this
theorem slices_Clone_spec {K : Option Addr → Nat → Nat → World → Prop} (h : Sat w M) (rd : Rdb eK M a l xs) (hl : l < 2 ^ 40) (k : ∀ a' c' w', Sat w' (Own eK a' (l, c', xs) :: M) → K a' l c' w') : slices_Clone_uint64_uint64.C a l c w K := by
  apply slices_Clone_uint64_uint64.ok
  obtain ⟨hr, hlen⟩ := rd w h
  refine cond_c (fun h1 => ?_) fun h1 => ?_
  · cases a with
    | none =>
      rcases hr with rfl | ⟨b, o, e, _⟩
      · simp at hlen; subst hlen; exact k none 0 _ (Own.nil h)
      · cases e
    | some _ => cases h1
  · refine alP.of h fun r w h => ?_
    have hr := (rd w h.drop).1
    have h := Own.ofBlk (E := eK) (xs := []) (l := 0) (c := 0) (rest := []) ⟨rfl, Nat.le_refl _, rfl⟩ h
    have hok : appOk prog #[23, 23] eK.sz 8 = true := by kernel_rfl
    refine AppV.own (E := eK) (l := 0) (c := 0) (xs := []) (ys := xs) h hok hr hlen (by omega) (by decide) fun a' c' w h => ?_
    refine ⟨a', _, c', rfl, ?_⟩
    rw [Nat.zero_add] at h ⊢
    exact k a' c' _ h
theorem slices_Values_spec {K : Value → World → Prop} (h : Sat w M) (k : ∀ r w', Sat w' (blk r [.slice a l c] :: M) → K (.func (.func 210) #[] #[.pointer (some ⟨r, 0, none⟩)]) w') : slices_Values_uint64_uint64.C a l c w K := by
  apply slices_Values_uint64_uint64.ok
  exact alP.of h fun r w h => k r w h
theorem slices_Values_tells {r : Nat} {D : HP} (hl : l < 2 ^ 40) : Tells prog D (.func (.func 210) #[] #[.pointer (some ⟨r, 0, none⟩)]) (fun n : Nat => [.int .u64 (n : Int)]) xs [blk r [.slice a l c], Own eK a (l, c, xs)] := by
  refine ⟨210, _, rfl, by kernel_rfl, ?_⟩
  intro y J Z w K L0 hy h0 h hk
  refine slices_Values_uint64_uint64_1.ok (x1 := y) (b2 := r) (o3 := 0) (K := K) ?_ |> fun z => z.mono ?_
  · refine lL.of h (by rfl) ?_
    show LoopT _ _ _
    refine LoopT.of (fun s w => ∃ (i : Nat) (L : List HP), s = (i : Int) ∧ i ≤ l ∧ J i L ∧ Sat w (D :: ([blk r [.slice a l c], Own eK a (l, c, xs)] ++ L))) (fun s => l - s.toNat) ⟨0, L0, rfl, Nat.zero_le _, h0, h⟩ ?_
    rintro s w ⟨i, L, rfl, h1, hJ, h⟩
    have hlen := (Own.len (h.pull 2)).1
    refine cond_c (fun hc => ?_) fun hc => ?_
    · have hc : i < l := by simpa using hc
      have hx : xs[i]? = some xs[i] := List.getElem?_eq_getElem (by omega)
      refine kRd h (by omega) (by rw [Int.toNat_natCast]; exact hx) ?_
      refine hy i _ L w _ hx hJ h fun b w' L' hb h => ?_
      refine ⟨b, rfl, ?_⟩
      cases b with
      | false => exact cond_t rfl (hk _ L' (.inr hb) h)
      | true =>
        refine cond_f rfl ?_
        rw [w64_id (by omega) (by omega)]
        exact ⟨⟨i + 1, L', by omega, by omega, hb, h⟩, by omega⟩
    · have hc : ¬ i < l := by simpa using hc
      obtain rfl : i = xs.length := by omega
      exact hk _ L (.inl hJ) h
  · exact fun v w1 h => h.2
theorem take_snoc {xs : List Nat} {n x : Nat} (hx : xs[n]? = some x) : xs.take (n + 1) = xs.take n ++ [x] := by
  rw [List.take_add_one, hx]; rfl
theorem sorted_le {xs : List Nat} (hs : xs.Pairwise (· ≤ ·)) {i j x y : Nat} (hij : i ≤ j) (hx : xs[i]? = some x) (hy : xs[j]? = some y) : x ≤ y := by
  rcases Nat.lt_or_eq_of_le hij with h | rfl
  · obtain ⟨h1, rfl⟩ := List.getElem?_eq_some_iff.1 hx
    obtain ⟨h2, rfl⟩ := List.getElem?_eq_some_iff.1 hy
    exact List.pairwise_iff_getElem.1 hs i j h1 h2 h
  · rw [hx] at hy; cases hy; exact Nat.le_refl _
theorem sorted_take_le {xs : List Nat} (hs : xs.Pairwise (· ≤ ·)) {n y z : Nat} (hy : xs[n]? = some y) (hz : z ∈ xs.take (n + 1)) : z ≤ y := by
  obtain ⟨i, hi⟩ := List.mem_iff_getElem?.1 hz
  rw [List.getElem?_take] at hi
  split at hi
  · exact sorted_le hs (by omega) hi hy
  · cases hi
theorem asc_snoc {l : List Nat} {x : Nat} (h : Asc l) (hx : ∀ z ∈ l, z < x) : Asc (l ++ [x]) := by
  refine List.pairwise_append.2 ⟨h, by simp, fun a ha b hb => ?_⟩
  simp at hb; subst hb; exact hx a ha
theorem slices_Compact_spec {K : Option Addr → Nat → Nat → World → Prop} (h : Sat w (Own eK a (l, c, xs) :: M)) (hl : l < 2 ^ 40) (hs : xs.Pairwise (· ≤ ·))
    (k : ∀ l' ys w', Asc ys → (∀ x, x ∈ ys ↔ x ∈ xs) → l' ≤ l → Sat w' (Own eK a (l', c, ys) :: M) → K a l' c w') : slices_Compact_uint64_uint64.C a l c w K := by
  apply slices_Compact_uint64_uint64.ok
  have hlen := Own.len h
  refine cond_c (fun h1 => ?_) fun h1 => ?_
  · have h1 : l < 2 := by simp at h1; omega
    refine k l xs _ ?_ (fun _ => Iff.rfl) (Nat.le_refl _) h
    match xs, hlen with
    | [], _ => exact List.Pairwise.nil
    | [x], _ => exact List.pairwise_singleton _ _
    | x :: y :: zs, hl => simp at hl; omega
  have h1 : ¬ l < 2 := by simp at h1; omega
  show LoopT _ _ _
  refine LoopT.of (fun s w => ∃ n : Nat, s = (n : Int) ∧ 1 ≤ n ∧ n ≤ l ∧ Asc (xs.take n) ∧ Sat w (Own eK a (l, c, xs) :: M)) (fun s => l - s.toNat) ⟨1, rfl, by omega, by omega, ?_, h⟩ ?_
  · match xs with
    | [] => exact List.Pairwise.nil
    | x :: zs => simp
  rintro s w ⟨n, rfl, h2, h3, h4, h⟩
  refine cond_c (fun hc => ?_) fun hc => ?_
  · have hc : n < l := by simpa using hc
    obtain ⟨n, rfl⟩ : ∃ n', n = n' + 1 := ⟨n - 1, by omega⟩
    have e1 : w64 (((n + 1 : Nat) : Int) - 1) = (n : Int) := by rw [w64_id (by omega) (by omega)]; omega
    have e2 : w64 (((n + 1 : Nat) : Int) + 1) = ((n + 2 : Nat) : Int) := by rw [w64_id (by omega) (by omega)]; omega
    have hx : xs[n]? = some xs[n] := List.getElem?_eq_getElem (by omega)
    have hy : xs[n + 1]? = some xs[n + 1] := List.getElem?_eq_getElem (by omega)
    refine drP.of h fun w h => ?_
    rw [e1, e2]
    refine kRd h (by omega) (by rw [Int.toNat_natCast]; exact hy) ?_
    refine kRd h (by omega) (by rw [Int.toNat_natCast]; exact hx) ?_
    refine cond_c (fun heq => ?_) fun heq => ?_
    · have heq : xs[n + 1] = xs[n] := by simp at heq; omega
      refine ⟨by omega, by omega, ?_⟩
      obtain ⟨b, rest, rfl, _, _⟩ := Own.toBlk h (by omega)
      show LoopT _ _ _
      rw [Int.toNat_natCast, slA_some, if_neg (by omega)]
      refine LoopT.of (fun s w => ∃ (i k : Nat) (zs : List Nat), s = ((i : Int), (k : Int)) ∧ 1 ≤ k ∧ n + 1 + k ≤ l ∧ i < n + 1 + k ∧ (∀ j, i ≤ j → zs[j]? = xs[j]?) ∧ Asc (zs.take i) ∧ (∀ x, x ∈ zs.take i ↔ x ∈ xs.take (n + 1 + k)) ∧ Sat w (Own eK (some ⟨b, 0, none⟩) (l, c, zs) :: M)) (fun s => l - s.2.toNat)
        ⟨n + 1, 1, xs, rfl, by omega, by omega, by omega, fun _ _ => rfl, h4, fun x => ?_, h⟩ ?_
      · rw [take_snoc hy, List.mem_append, List.mem_singleton]
        constructor
        · exact .inl
        · rintro (h | rfl)
          · exact h
          · rw [heq, take_snoc hx]; exact List.mem_append_right _ (List.mem_singleton.2 rfl)
      rintro s w ⟨i, k', zs, rfl, g1, g2, g3, g4, g5, g6, h⟩
      have hlz := Own.len h
      refine cond_c (fun hc2 => ?_) fun hc2 => ?_
      · have hc2 : n + 1 + k' < l := by simp at hc2; omega
        obtain ⟨k', rfl⟩ : ∃ n', k' = n' + 1 := ⟨k' - 1, by omega⟩
        have e3 : w64 (((k' + 1 : Nat) : Int) - 1) = (k' : Int) := by rw [w64_id (by omega) (by omega)]; omega
        have e4 : w64 (((k' + 1 : Nat) : Int) + 1) = ((k' + 2 : Nat) : Int) := by rw [w64_id (by omega) (by omega)]; omega
        have hu : xs[n + 1 + k']? = some xs[n + 1 + k'] := List.getElem?_eq_getElem (by omega)
        have hv : xs[n + 1 + (k' + 1)]? = some xs[n + 1 + (k' + 1)] := List.getElem?_eq_getElem (by omega)
        have hzu := (g4 (n + 1 + k') (by omega)).trans hu
        have hzv := (g4 (n + 1 + (k' + 1)) (by omega)).trans hv
        refine drP.of h fun w h => ?_
        rw [e3, e4]
        have rd : ∀ {q x : Nat} {K : Int → Prop}, zs[n + 1 + q]? = some x → q < l - (n + 1) → K x → nn (some ⟨b, 0 + (n + 1) * 1, none⟩) fun b o => 0 ≤ (q : Int) ∧ (q : Int) < ((l - (n + 1) : Nat) : Int) ∧ lU64 w b (o + Int.toNat (q : Int) * 1) K := by
          intro q x K hx hq k
          obtain ⟨b', hb', hl', hcl⟩ := Own.get (E := eK) (a := some ⟨b, 0, none⟩) (l := l) (c := c) h hx
          cases hb'
          refine ⟨by omega, by omega, lU64.mk ?_ k⟩
          have := hcl 0 (by decide)
          simpa [eK] using this
        refine rd hzv (by omega) ?_
        refine rd hzu (by omega) ?_
        refine cond_c (fun hne => ?_) fun hne => ?_
        · have hne : xs[n + 1 + (k' + 1)] ≠ xs[n + 1 + k'] := by simp at hne; omega
          have hle := sorted_le hs (show n + 1 + k' ≤ n + 1 + (k' + 1) by omega) hu hv
          refine rd hzv (by omega) ?_
          have hzi : zs[i]? = some zs[i] := List.getElem?_eq_getElem (by omega)
          refine kWr h (by omega) (by rw [Int.toNat_natCast]; exact hzi) fun w h => ?_
          rw [Int.toNat_natCast] at h
          have e5 : w64 ((i : Int) + 1) = ((i + 1 : Nat) : Int) := by rw [w64_id (by omega) (by omega)]; omega
          have e6 : (zs.set i xs[n + 1 + (k' + 1)]).take (i + 1) = zs.take i ++ [xs[n + 1 + (k' + 1)]] := by
            rw [take_snoc (x := xs[n + 1 + (k' + 1)]) (by rw [List.getElem?_set_self (by omega)])]
            rw [List.take_set, List.set_eq_of_length_le (by simp; omega)]
          refine ⟨⟨i + 1, k' + 2, _, by rw [e5], by omega, by omega, by omega, ?_, ?_, ?_, h⟩, by simp; omega⟩
          · intro j hj
            rw [List.getElem?_set_ne (by omega)]; exact g4 j (by omega)
          · rw [e6]
            refine asc_snoc g5 fun z hz => ?_
            have := sorted_take_le hs hu ((g6 z).1 hz); omega
          · intro x
            rw [e6, show n + 1 + (k' + 2) = n + 1 + (k' + 1) + 1 by omega, take_snoc hv, List.mem_append, List.mem_append, g6]
        · have hne : xs[n + 1 + (k' + 1)] = xs[n + 1 + k'] := by simp at hne; omega
          refine ⟨⟨i, k' + 2, zs, rfl, by omega, by omega, by omega, g4, g5, fun x => ?_, h⟩, by simp; omega⟩
          rw [show n + 1 + (k' + 2) = n + 1 + (k' + 1) + 1 by omega, take_snoc hv, List.mem_append, List.mem_singleton, g6]
          constructor
          · exact .inl
          · rintro (h | rfl)
            · exact h
            · rw [hne, show n + 1 + (k' + 1) = n + 1 + k' + 1 by omega, take_snoc hu]; exact List.mem_append_right _ (List.mem_singleton.2 rfl)
      · have hc2 : ¬ n + 1 + k' < l := by simp at hc2; omega
        have hz : clrZ prog #[23] = some (eK.e 0) := by kernel_rfl
        rw [Int.toNat_natCast, slA_some, if_neg (by omega)]
        refine ⟨by omega, by omega, ?_⟩
        refine ClrV.own (E := eK) (z := 0) (o := i) (n := l - i) (l := l) (c := c) (a := some ⟨b, 0, none⟩) h hz (.inr ⟨b, rfl, by simp [eK]⟩) (by omega) fun _ w h => ?_
        refine ⟨by omega, by omega, ?_⟩
        rw [slA_zero (.inr ⟨_, _, rfl⟩), Nat.sub_zero, Nat.sub_zero]
        have h := Own.cut (n := i) h (by omega)
        refine k i (zs.take i) _ g5 (fun x => ?_) (by omega) ?_
        · rw [g6, List.take_of_length_le (by omega)]
        · rw [List.append_assoc, List.take_left' (by simp; omega)] at h; exact h
    · have heq : xs[n + 1] ≠ xs[n] := by simp at heq; omega
      have hle := sorted_le hs (show n ≤ n + 1 by omega) hx hy
      refine ⟨⟨n + 2, rfl, by omega, by omega, ?_, h⟩, by omega⟩
      rw [take_snoc hy]
      exact asc_snoc h4 fun z hz => by have := sorted_take_le hs hx hz; omega
  · have hc : ¬ n < l := by simpa using hc
    rw [List.take_of_length_le (by omega)] at h4
    exact k l xs _ h4 (fun _ => Iff.rfl) (Nat.le_refl _) h
end
end Go.St
