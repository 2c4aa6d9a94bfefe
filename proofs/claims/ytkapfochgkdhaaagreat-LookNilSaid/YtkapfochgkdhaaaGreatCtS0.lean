/- Sorting, plain. -/
import Derived.Test.YtkapfochgkdhaaaGreatCtK
namespace Go.St

/-- the same elements; outside of a part nothing is changed -/
structure PermOn (xs ys : List Nat) (a b : Nat) : Prop where
  p : ys.Perm xs
  o : ∀ i, i < a ∨ b ≤ i → ys[i]? = xs[i]?
def SortedOn (xs : List Nat) (a b : Nat) : Prop := ∀ i j x y, a ≤ i → i < j → j < b → xs[i]? = some x → xs[j]? = some y → x ≤ y
theorem PermOn.refl {xs : List Nat} {a b : Nat} : PermOn xs xs a b := ⟨.refl _, fun _ _ => rfl⟩
theorem PermOn.len {xs ys : List Nat} {a b : Nat} (h : PermOn xs ys a b) : ys.length = xs.length := h.p.length_eq
theorem PermOn.trans {xs ys zs : List Nat} {a b : Nat} (h1 : PermOn xs ys a b) (h2 : PermOn ys zs a b) : PermOn xs zs a b := ⟨h2.p.trans h1.p, fun i hi => (h2.o i hi).trans (h1.o i hi)⟩
theorem set_swap_perm : ∀ {xs : List Nat} {i j x y : Nat}, i < j → xs[i]? = some x → xs[j]? = some y → ((xs.set j x).set i y).Perm xs
  | [], i, j, x, y, _, h, _ => by simp at h
  | z :: xs, 0, j + 1, x, y, _, hi, hj => by
    simp only [List.getElem?_cons_zero, Option.some.injEq] at hi
    subst hi
    simp only [List.getElem?_cons_succ] at hj
    simp only [List.set_cons_succ, List.set_cons_zero]
    have hl := (List.getElem?_eq_some_iff.1 hj)
    obtain ⟨hl, rfl⟩ := hl
    have e1 : xs = xs.take j ++ xs[j] :: xs.drop (j + 1) := by simp
    have e2 : xs.set j z = xs.take j ++ z :: xs.drop (j + 1) := by rw [List.set_eq_take_append_cons_drop, if_pos hl]
    rw [e2]
    conv => rhs; rw [e1]
    refine ((List.perm_middle (a := z) (l₁ := xs.take j) (l₂ := xs.drop (j + 1))).cons _).trans ?_
    refine (List.Perm.swap _ _ _).trans ?_
    exact ((List.perm_middle (a := xs[j]) (l₁ := xs.take j) (l₂ := xs.drop (j + 1))).symm).cons _
  | z :: xs, i + 1, j + 1, x, y, h, hi, hj => by
    simp only [List.getElem?_cons_succ] at hi hj
    simp only [List.set_cons_succ]
    exact (set_swap_perm (by omega) hi hj).cons _
theorem PermOn.swap {xs ys : List Nat} {a b i j x y : Nat} (h : PermOn xs ys a b) (hij : i < j) (ha : a ≤ i) (hb : j < b) (hi : ys[i]? = some x) (hj : ys[j]? = some y) : PermOn xs ((ys.set j x).set i y) a b := by
  refine ⟨(set_swap_perm hij hi hj).trans h.p, fun k hk => ?_⟩
  rw [List.getElem?_set_ne (by omega), List.getElem?_set_ne (by omega)]
  exact h.o k hk
/-- sorted but for what stands at j -/
def SortedBut (xs : List Nat) (a b j : Nat) : Prop := ∀ p q x y, a ≤ p → p < q → q < b → q ≠ j → xs[p]? = some x → xs[q]? = some y → x ≤ y
theorem SortedBut.step {xs : List Nat} {a b j x y : Nat} (h : SortedBut xs a b (j + 1)) (ha : a ≤ j) (hb : j + 1 < b) (hx : xs[j]? = some x) (hy : xs[j + 1]? = some y) (hl : y < x) : SortedBut ((xs.set (j + 1) x).set j y) a b j := by
  intro p q u v hp hpq hq hqj hu hv
  have hlen := (List.getElem?_eq_some_iff.1 hy).1
  simp only [List.getElem?_set, List.length_set] at hu hv
  have := h p q
  by_cases e1 : q = j + 1
  · subst e1
    rw [if_neg (by omega), if_pos rfl, if_pos hlen] at hv
    cases hv
    by_cases e2 : p = j
    · subst e2
      rw [if_pos rfl, if_pos (by omega)] at hu; cases hu; omega
    · rw [if_neg (by omega), if_neg (by omega)] at hu
      exact h p j u x hp (by omega) (by omega) (by omega) hu hx
  · rw [if_neg (by omega), if_neg (by omega)] at hv
    by_cases e2 : p = j
    · subst e2
      rw [if_pos rfl, if_pos (by omega)] at hu; cases hu
      exact h (p + 1) q y v (by omega) (by omega) hq e1 hy hv
    · rw [if_neg (by omega)] at hu
      by_cases e3 : p = j + 1
      · subst e3
        rw [if_pos rfl, if_pos hlen] at hu; cases hu
        exact h j q x v (by omega) (by omega) hq e1 hx hv
      · rw [if_neg (by omega)] at hu
        exact h p q u v hp hpq hq e1 hu hv
theorem SortedBut.done {xs : List Nat} {a b j x y : Nat} (h : SortedBut xs a b (j + 1)) (_ : a ≤ j) (hx : xs[j]? = some x) (hy : xs[j + 1]? = some y) (hl : ¬ y < x) : SortedOn xs a b := by
  intro p q u v hp hpq hq hu hv
  by_cases e1 : q = j + 1
  · subst e1
    rw [hy] at hv; cases hv
    by_cases e2 : p = j
    · subst e2; rw [hx] at hu; cases hu; omega
    · have := h p j u x hp (by omega) (by omega) (by omega) hu hx; omega
  · exact h p q u v hp hpq hq e1 hu hv
theorem SortedBut.first {xs : List Nat} {a b : Nat} (h : SortedBut xs a b a) : SortedOn xs a b := fun p q u v hp hpq hq hu hv => h p q u v hp hpq hq (by omega) hu hv
theorem SortedOn.next {xs : List Nat} {a b : Nat} (h : SortedOn xs a b) : SortedBut xs a (b + 1) b := fun p q u v hp hpq hq hne hu hv => h p q u v hp hpq (by omega) hu hv
theorem SortedOn.asc {xs : List Nat} (h : SortedOn xs 0 xs.length) : xs.Pairwise (· ≤ ·) := by
  rw [List.pairwise_iff_getElem]
  intro i j hi hj hij
  exact h i j _ _ (Nat.zero_le _) hij hj (List.getElem?_eq_getElem hi) (List.getElem?_eq_getElem hj)
/-- without repeated ones -/
def ddup : List Nat → List Nat
  | [] => []
  | x :: xs => x :: (ddup xs).dropWhile (fun y => y = x)
/-- keys as a rising list -/
def keysOf (l : List Nat) : List Nat := l.foldl (fun s k => ins k s) []
theorem mem_foldl_ins {l : List Nat} : ∀ {s : List Nat} {x : Nat}, x ∈ l.foldl (fun s k => ins k s) s ↔ x ∈ s ∨ x ∈ l := by
  induction l with
  | nil => intro s x; simp
  | cons k l ih => intro s x; rw [List.foldl_cons, ih, mem_ins]; simp only [List.mem_cons]; grind
theorem asc_foldl_ins {l : List Nat} : ∀ {s : List Nat}, Asc s → Asc (l.foldl (fun s k => ins k s) s) := by
  induction l with
  | nil => intro s h; exact h
  | cons k l ih => intro s h; exact ih (asc_ins h)
theorem mem_keysOf {l : List Nat} {x : Nat} : x ∈ keysOf l ↔ x ∈ l := by unfold keysOf; rw [mem_foldl_ins]; simp
theorem asc_keysOf {l : List Nat} : Asc (keysOf l) := asc_foldl_ins List.Pairwise.nil
end Go.St
