/- Contracts: the document's lists of keys. -/
import Derived.Test.YtkapfochgkdhaaaGreatCtS
import Derived.Test.YtkapfochgkdhaaaGreatF0
namespace Go.St
open Go Go.Proofs
attribute [local irreducible] stP alP drP stCs lI64 lU64 lU8 lB lP lL lR AppV ClrV

/-- where a key stands, or would stand -/
def fnd (k : Nat) (l : List Nat) : Nat := (l.takeWhile (fun x => x < k)).length
theorem fnd_le {k : Nat} {l : List Nat} : fnd k l ≤ l.length := by
  unfold fnd; exact (List.takeWhile_prefix _).length_le
theorem fnd_take {k : Nat} {l : List Nat} : l.take (fnd k l) = l.takeWhile (fun x => x < k) := by
  unfold fnd
  have h := List.takeWhile_append_dropWhile (p := fun x => decide (x < k)) (l := l)
  conv => lhs; arg 2; rw [← h]
  exact List.take_left' rfl
theorem fnd_drop {k : Nat} {l : List Nat} : l.drop (fnd k l) = l.dropWhile (fun x => x < k) := by
  unfold fnd
  have h := List.takeWhile_append_dropWhile (p := fun x => decide (x < k)) (l := l)
  conv => lhs; arg 2; rw [← h]
  exact List.drop_left' rfl
theorem ins_fnd {k : Nat} : ∀ {l : List Nat}, Asc l → k ∉ l → ins k l = l.take (fnd k l) ++ k :: l.drop (fnd k l)
  | [], _, _ => rfl
  | x :: l, ha, hk => by
    rw [fnd_take, fnd_drop]
    unfold ins
    by_cases h1 : k < x
    · rw [if_pos h1, List.takeWhile_cons_of_neg (by simp; omega), List.dropWhile_cons_of_neg (by simp; omega)]; rfl
    · have h2 : k ≠ x := fun e => hk (by simp [e])
      rw [if_neg h1, if_neg h2, List.takeWhile_cons_of_pos (by simp; omega), List.dropWhile_cons_of_pos (by simp; omega)]
      have := ins_fnd (asc_cons.1 ha).2 (fun h => hk (List.mem_cons_of_mem _ h))
      rw [fnd_take, fnd_drop] at this
      rw [this]; rfl
theorem ins_mem {k : Nat} {l : List Nat} (ha : Asc l) (hk : k ∈ l) : ins k l = l := (asc_ins ha).ext ha fun x => by rw [mem_ins]; constructor <;> grind
theorem mem_tw {p : Nat → Bool} : ∀ {l : List Nat} {x : Nat}, x ∈ l.takeWhile p → p x = true
  | y :: l, x, h => by
    rw [List.takeWhile_cons] at h
    split at h
    · rcases List.mem_cons.1 h with rfl | h
      · assumption
      · exact mem_tw h
    · cases h
theorem fnd_at {k : Nat} {l : List Nat} (ha : Asc l) : l[fnd k l]? = some k ↔ k ∈ l := by
  have e : l[fnd k l]? = (l.dropWhile (fun x => x < k)).head? := by rw [← fnd_drop, List.head?_drop]
  rw [e]
  constructor
  · intro h
    have := List.mem_of_head? h
    exact (List.dropWhile_suffix _).subset this
  · clear e
    intro h
    induction l with
    | nil => cases h
    | cons x l ih =>
      by_cases h1 : x < k
      · rw [List.dropWhile_cons_of_pos (by simpa using h1)]
        refine ih (asc_cons.1 ha).2 ?_
        rcases List.mem_cons.1 h with rfl | h
        · omega
        · exact h
      · rw [List.dropWhile_cons_of_neg (by simpa using h1)]
        rcases List.mem_cons.1 h with rfl | h
        · rfl
        · have := (asc_cons.1 ha).1 _ h; omega
section
variable {w : World} {M : List HP} {a : Option Addr} {l c : Nat} {xs : List Nat}
theorem r11_Find_spec {k : Nat} {K : Int → Bool → World → Prop} (h : Sat w M) (rd : Rdb eK M a l xs) (hl : l < 2 ^ 40) (q : ∀ w', Sat w' M → K (fnd k xs) (decide (xs[fnd k xs]? = some k)) w') : stepstoneref11_Find.C a l c (k : Int) w K := by
  apply stepstoneref11_Find.ok
  have hlen := (rd w h).2
  show LoopT _ _ _
  refine LoopT.of (fun s w => ∃ i : Nat, s = (i : Int) ∧ i ≤ fnd k xs ∧ Sat w M) (fun s => l - s.toNat) ⟨0, rfl, Nat.zero_le _, h⟩ ?_
  rintro s w ⟨i, rfl, hi, h⟩
  have hle := fnd_le (k := k) (l := xs)
  have end_ : i = fnd k xs → stepstoneref11_Find.T1 K a l c (k : Int) (i : Int) w := by
    rintro rfl
    unfold stepstoneref11_Find.T1
    refine drP.of h fun w h => ?_
    refine cond_c (fun hc => ?_) fun hc => ?_
    · have hc : fnd k xs < l := by simpa using hc
      have hx : xs[fnd k xs]? = some xs[fnd k xs] := List.getElem?_eq_getElem (by omega)
      refine rRd rd h (by omega) (by rw [Int.toNat_natCast]; exact hx) ?_
      have := q w h
      rw [hx] at this
      have e : (((xs[fnd k xs] : Nat) : Int) == (k : Int)) = decide (some xs[fnd k xs] = some k) := by
        rw [Bool.eq_iff_iff]; simp; omega
      rw [e]; exact this
    · have hc : ¬ fnd k xs < l := by simpa using hc
      have := q w h
      rw [List.getElem?_eq_none (by omega)] at this
      exact this
  refine cond_c (fun hc => ?_) fun hc => ?_
  · have hc : i < l := by simpa using hc
    have hx : xs[i]? = some xs[i] := List.getElem?_eq_getElem (by omega)
    refine rRd rd h (by omega) (by rw [Int.toNat_natCast]; exact hx) ?_
    have hget : i < fnd k xs → xs[i] < k := fun h => by
      have h2 : xs[i] ∈ xs.take (fnd k xs) := List.mem_iff_getElem?.2 ⟨i, by rw [List.getElem?_take_of_lt h, hx]⟩
      rw [fnd_take] at h2
      have := mem_tw h2
      simpa using this
    have hnot : i = fnd k xs → ¬ xs[i] < k := fun h => by
      have h2 : (xs.dropWhile fun x => decide (x < k)).head? = some xs[i] := by rw [← fnd_drop, List.head?_drop, ← h, hx]
      have := List.head?_dropWhile_not (fun x => decide (x < k)) xs
      rw [h2] at this; simpa using this
    refine cond_c (fun hlt => ?_) fun hlt => ?_
    · have hlt : xs[i] < k := by simpa using hlt
      rw [w64_id (by omega) (by omega)]
      exact ⟨⟨i + 1, by omega, by have : i ≠ fnd k xs := fun h => hnot h hlt
                                  omega, h⟩, by omega⟩
    · have hlt : ¬ xs[i] < k := by simpa using hlt
      exact end_ (by have : ¬ i < fnd k xs := fun h => hlt (hget h)
                     omega)
  · have hc : ¬ i < l := by simpa using hc
    exact end_ (by omega)
theorem r11_Add_spec {k : Nat} {K : Option Addr → Nat → Nat → World → Prop} (h : Sat w M) (rd : Rdb eK M a l xs) (hc : l ≤ c) (hl : l < 2 ^ 38) (ha : Asc xs) (q1 : k ∈ xs → ∀ w', Sat w' M → K a l c w')
    (q2 : k ∉ xs → ∀ a' c' w', Sat w' (Own eK a' (l + 1, c', ins k xs) :: M) → K a' (l + 1) c' w') : stepstoneref11_Add.C a l c (k : Int) w K := by
  apply stepstoneref11_Add.ok
  have hlen := (rd w h).2
  refine r11_Find_spec h rd (by omega) fun w h => ?_
  have hle := fnd_le (k := k) (l := xs)
  refine cond_c (fun h1 => ?_) fun h1 => ?_
  · exact q1 ((fnd_at ha).1 (by simpa using h1)) _ h
  · have hk : k ∉ xs := fun hk => by have := (fnd_at ha).2 hk; simp [this] at h1
    have hok : appOk prog #[23, 23] eK.sz 8 = true := by kernel_rfl
    refine alP.of h fun r w h => ?_
    refine ⟨by omega, by omega, ?_⟩
    have h0 := Own.ofBlk (E := eK) (xs := []) (l := 0) (c := 0) (rest := []) ⟨rfl, Nat.le_refl _, rfl⟩ h
    have r1 := (Rdb.part (c := c) rd (Nat.zero_le (fnd k xs)) (by omega) hc).cons (A := blk r #[].toList) w h
    rw [Int.toNat_natCast]
    refine AppV.own (E := eK) (l := 0) (c := 0) (xs := []) h0 hok r1.1 r1.2 (by omega) (by decide) fun a1 c1 w h => ?_
    refine ⟨_, _, _, rfl, ?_⟩
    refine alP.of h fun r2 w h => ?_
    refine AppV.own (E := eK) (a := a1) (c := c1) (ys := [k]) h hok (Reads.own (E := eK) (ys := [k]) (b := r2) h (List.prefix_refl _)) rfl (by omega) (by decide) fun a2 c2 w h => ?_
    refine ⟨_, _, _, rfl, ?_⟩
    refine ⟨by omega, by omega, ?_⟩
    have r2 := (Rdb.part (c := c) (i := fnd k xs) (j := l) rd (by omega) (Nat.le_refl _) hc).cons.cons w h
    refine AppV.own (E := eK) (a := a2) (c := c2) h hok r2.1 r2.2 (by omega) (by decide) fun a3 c3 w h => ?_
    refine ⟨_, _, _, rfl, ?_⟩
    have e1 : 0 + (fnd k xs - 0) + 1 + (l - fnd k xs) = l + 1 := by omega
    have e2 : [] ++ (xs.drop 0).take (fnd k xs - 0) ++ [k] ++ (xs.drop (fnd k xs)).take (l - fnd k xs) = ins k xs := by
      rw [ins_fnd ha hk, List.take_of_length_le (i := l - fnd k xs) (by simp; omega)]
      simp
    rw [e1, e2] at h
    rw [e1]
    exact q2 hk a3 c3 _ (h.drop)
theorem r11_Of_spec {K : Option Addr → Nat → Nat → World → Prop} (h : Sat w M) (rd : Rdb eK M a l xs) (hl : l < 2 ^ 38) (q : ∀ a' c' w', Sat w' (Own eK a' ((keysOf xs).length, c', keysOf xs) :: M) → K a' (keysOf xs).length c' w') : stepstoneref11_Of.C a l c w K := by
  apply stepstoneref11_Of.ok
  have hlen := (rd w h).2
  show LoopT _ _ _
  refine LoopT.of (fun s w => ∃ (i a' c' : _) (ys : List Nat), s = (a', ys.length, c', ((i : Nat) : Int)) ∧ i ≤ l ∧ ys = keysOf (xs.take i) ∧ ys.length ≤ i ∧ Sat w (Own eK a' (ys.length, c', ys) :: M)) (fun s => l - s.2.2.2.toNat) ⟨0, none, 0, [], rfl, Nat.zero_le _, by simp [keysOf], Nat.le_refl _, Own.nil h⟩ ?_
  rintro s w ⟨i, a', c', ys, rfl, hi, hys, hyl, h⟩
  refine cond_c (fun hc => ?_) fun hc => ?_
  · have hc : i < l := by simpa using hc
    have hx : xs[i]? = some xs[i] := List.getElem?_eq_getElem (by omega)
    refine rRd rd.cons h (by omega) (by rw [Int.toNat_natCast]; exact hx) ?_
    have e : keysOf (xs.take (i + 1)) = ins xs[i] ys := by
      rw [take_snoc hx, hys]; unfold keysOf; rw [List.foldl_append]; rfl
    have hay : Asc ys := by rw [hys]; exact asc_keysOf
    refine r11_Add_spec (c := c') h Rdb.own (Own.len h).2 (by omega) hay (fun hm w h => ?_) fun hm a2 c2 w h => ?_
    · rw [w64_id (by omega) (by omega)]
      refine ⟨⟨i + 1, a', c', ys, by congr, by omega, ?_, by omega, h⟩, by simp; omega⟩
      rw [e, ins_mem hay hm]
    · rw [w64_id (by omega) (by omega)]
      have hl2 := len_ins hm
      have h := (h.pull 1).drop
      rw [← hl2] at h ⊢
      refine ⟨⟨i + 1, a2, c2, ins xs[i] ys, by congr, by omega, ?_, by omega, h⟩, by simp; omega⟩
      rw [e]
  · have hc : ¬ i < l := by simpa using hc
    obtain rfl : i = l := by omega
    rw [List.take_of_length_le (by omega)] at hys
    subst hys
    exact q a' c' w h
theorem r1_Words_spec {n : Nat} {K : Option Addr → Nat → Nat → World → Prop} (h : Sat w M) (rd : Rdb eK M a l xs) (hl : l < 2 ^ 62) (hn : n ≤ 2 ^ 38) (q : ∀ a' c' w', Sat w' (Own eK a' ((xs.take n).length, c', xs.take n) :: M) → K a' (xs.take n).length c' w') : stepstoneref01_Words.C a l c (n : Int) w K := by
  apply stepstoneref01_Words.ok
  have hlen := (rd w h).2
  show LoopT _ _ _
  refine LoopT.of (fun s w => ∃ (i a' c' : _), s = (a', (xs.take (min i n)).length, c', ((i : Nat) : Int)) ∧ i ≤ l ∧ Sat w (Own eK a' ((xs.take (min i n)).length, c', xs.take (min i n)) :: M)) (fun s => l - s.2.2.2.toNat) ⟨0, none, 0, by simp, Nat.zero_le _, by simpa using Own.nil h⟩ ?_
  rintro s w ⟨i, a', c', rfl, hi, h⟩
  refine cond_c (fun hc => ?_) fun hc => ?_
  · have hc : i < l := by simpa using hc
    have hx : xs[i]? = some xs[i] := List.getElem?_eq_getElem (by omega)
    refine rRd rd.cons h (by omega) (by rw [Int.toNat_natCast]; exact hx) ?_
    rw [w64_id (by omega) (by omega)]
    refine cond_c (fun hlt => ?_) fun hlt => ?_
    · have hlt : i < n := by simpa using hlt
      have hok : appOk prog #[23, 23] eK.sz 8 = true := by kernel_rfl
      refine alP.of h fun r w h => ?_
      refine AppV.own (E := eK) (a := a') (c := c') (ys := [xs[i]]) h hok (Reads.own (E := eK) (ys := [xs[i]]) (b := r) h (List.prefix_refl _)) rfl (by simp; omega) (by decide) fun a2 c2 w h => ?_
      refine ⟨_, _, _, rfl, ?_⟩
      have e1 : xs.take (min i n) ++ [xs[i]] = xs.take (min (i + 1) n) := by rw [Nat.min_eq_left (by omega), Nat.min_eq_left (by omega), take_snoc hx]
      have e2 : (xs.take (min i n)).length + 1 = (xs.take (min (i + 1) n)).length := by rw [← e1]; simp
      have h := h.drop
      rw [e1, e2] at h
      rw [e2]
      exact ⟨⟨i + 1, a2, c2, by congr, by omega, h⟩, by simp; omega⟩
    · have hlt : ¬ i < n := by simpa using hlt
      have e1 : min i n = min (i + 1) n := by omega
      rw [e1] at h ⊢
      exact ⟨⟨i + 1, a', c', by congr, by omega, h⟩, by simp; omega⟩
  · have hc : ¬ i < l := by simpa using hc
    obtain rfl : i = l := by omega
    have e1 : xs.take (min i n) = xs.take n := by
      rcases Nat.le_total i n with h | h
      · rw [Nat.min_eq_left h, List.take_of_length_le (by omega), List.take_of_length_le (by omega)]
      · rw [Nat.min_eq_right h]
    rw [e1] at h ⊢
    exact q a' c' w h
end
end Go.St
