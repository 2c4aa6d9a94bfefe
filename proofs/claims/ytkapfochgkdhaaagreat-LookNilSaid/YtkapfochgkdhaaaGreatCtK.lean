/- Keys as rising lists, plain. -/
import Derived.Test.YtkapfochgkdhaaaGreatCtP0
namespace Go.St

abbrev Asc (l : List Nat) : Prop := l.Pairwise (· < ·)
theorem asc_cons {x : Nat} {l : List Nat} : Asc (x :: l) ↔ (∀ y ∈ l, x < y) ∧ Asc l := List.pairwise_cons
def ins (k : Nat) : List Nat → List Nat
  | [] => [k]
  | x :: l => if k < x then k :: x :: l else if k = x then x :: l else x :: ins k l
def del (k : Nat) (l : List Nat) : List Nat := l.filter (fun x => x ≠ k)
def nxt (k : Nat) (l : List Nat) : Option Nat := l.find? (fun x => k ≤ x)
def prv (k : Nat) (l : List Nat) : Option Nat := l.reverse.find? (fun x => x ≤ k)
theorem mem_ins {k j : Nat} : ∀ {l : List Nat}, j ∈ ins k l ↔ j = k ∨ j ∈ l
  | [] => by simp [ins]
  | x :: l => by
    unfold ins
    split
    · simp
    · split
      · next h => subst h; simp
      · rw [List.mem_cons, mem_ins, List.mem_cons]; grind
theorem asc_ins {k : Nat} : ∀ {l : List Nat}, Asc l → Asc (ins k l)
  | [], _ => by simp [ins]
  | x :: l, h => by
    rw [asc_cons] at h
    unfold ins
    split
    · refine asc_cons.2 ⟨fun y hy => ?_, asc_cons.2 h⟩
      rcases List.mem_cons.1 hy with rfl | hy
      · assumption
      · have := h.1 y hy; omega
    · split
      · exact asc_cons.2 h
      · refine asc_cons.2 ⟨fun y hy => ?_, asc_ins h.2⟩
        rcases mem_ins.1 hy with rfl | hy
        · omega
        · exact h.1 y hy
theorem len_ins {k : Nat} : ∀ {l : List Nat}, k ∉ l → (ins k l).length = l.length + 1
  | [], _ => rfl
  | x :: l, h => by
    unfold ins
    split
    · rfl
    · split
      · next h2 => subst h2; simp at h
      · simp [len_ins (fun h3 => h (List.mem_cons_of_mem _ h3))]
theorem mem_del {k j : Nat} {l : List Nat} : j ∈ del k l ↔ j ∈ l ∧ j ≠ k := by simp [del]
theorem asc_del {k : Nat} {l : List Nat} (h : Asc l) : Asc (del k l) := h.filter _
theorem Asc.nodup {l : List Nat} (h : Asc l) : l.Nodup := h.imp (fun h => by omega)
theorem Asc.ext : ∀ {a b : List Nat}, Asc a → Asc b → (∀ x, x ∈ a ↔ x ∈ b) → a = b
  | [], [], _, _, _ => rfl
  | [], y :: b, _, _, h => by have := (h y).2 (by simp); simp at this
  | x :: a, [], _, _, h => by have := (h x).1 (by simp); simp at this
  | x :: a, y :: b, ha, hb, h => by
    rw [asc_cons] at ha hb
    have h1 := (h x).1 (by simp)
    have h2 := (h y).2 (by simp)
    have e : x = y := by
      rcases List.mem_cons.1 h1 with e | h1
      · exact e
      · rcases List.mem_cons.1 h2 with e | h2
        · exact e.symm
        · have := ha.1 _ h2; have := hb.1 _ h1; omega
    subst e
    rw [Asc.ext ha.2 hb.2 fun z => ?_]
    have hz := h z
    simp only [List.mem_cons] at hz
    constructor
    · intro hm
      rcases hz.1 (.inr hm) with e | h
      · subst e; have := ha.1 _ hm; omega
      · exact h
    · intro hm
      rcases hz.2 (.inr hm) with e | h
      · subst e; have := hb.1 _ hm; omega
      · exact h
theorem del_ins {k : Nat} {l : List Nat} (h : Asc l) (hk : k ∈ l) : l = ins k (del k l) := by
  refine h.ext (asc_ins (asc_del h)) fun x => ?_
  rw [mem_ins, mem_del]; grind
theorem len_del {k : Nat} {l : List Nat} (h : Asc l) (hk : k ∈ l) : (del k l).length + 1 = l.length := by
  conv => rhs; rw [del_ins h hk]
  rw [len_ins]; simp [mem_del]
theorem nxt_some {k r : Nat} : ∀ {l : List Nat}, Asc l → r ∈ l → k ≤ r → (∀ z ∈ l, k ≤ z → r ≤ z) → nxt k l = some r
  | [], _, h, _, _ => by cases h
  | x :: l, ha, hr, hk, hz => by
    unfold nxt
    rw [List.find?_cons]
    by_cases hx : k ≤ x
    · simp only [hx, decide_true]
      have h1 := hz x (by simp) hx
      rw [asc_cons] at ha
      rcases List.mem_cons.1 hr with rfl | hr
      · rfl
      · have := ha.1 _ hr; omega
    · simp only [hx, decide_false]
      rw [asc_cons] at ha
      rcases List.mem_cons.1 hr with rfl | hr
      · omega
      · exact nxt_some ha.2 hr hk (fun z h => hz z (List.mem_cons_of_mem _ h))
theorem nxt_none {k : Nat} {l : List Nat} (h : ∀ z ∈ l, z < k) : nxt k l = none := by
  unfold nxt; rw [List.find?_eq_none]; intro z hz; have := h z hz; simp; omega
theorem nxt_mem {k r : Nat} {l : List Nat} (h : nxt k l = some r) : r ∈ l ∧ k ≤ r := by
  unfold nxt at h
  exact ⟨List.mem_of_find?_eq_some h, by simpa using List.find?_some h⟩
theorem prv_some {k r : Nat} {l : List Nat} (ha : Asc l) (hr : r ∈ l) (hk : r ≤ k) (hz : ∀ z ∈ l, z ≤ k → z ≤ r) : prv k l = some r := by
  unfold prv
  have ha : l.reverse.Pairwise (fun a b => b < a) := List.pairwise_reverse.2 ha
  have hr : r ∈ l.reverse := List.mem_reverse.2 hr
  have hz : ∀ z ∈ l.reverse, z ≤ k → z ≤ r := fun z h => hz z (List.mem_reverse.1 h)
  generalize l.reverse = m at ha hr hz
  induction m with
  | nil => cases hr
  | cons x m ih =>
    rw [List.find?_cons]
    rw [List.pairwise_cons] at ha
    by_cases hx : x ≤ k
    · simp only [hx, decide_true]
      have h1 := hz x (by simp) hx
      rcases List.mem_cons.1 hr with rfl | hr
      · rfl
      · have := ha.1 _ hr; omega
    · simp only [hx, decide_false]
      rcases List.mem_cons.1 hr with rfl | hr
      · omega
      · exact ih ha.2 hr (fun z h => hz z (List.mem_cons_of_mem _ h))
theorem prv_none {k : Nat} {l : List Nat} (h : ∀ z ∈ l, k < z) : prv k l = none := by
  unfold prv; rw [List.find?_eq_none]; intro z hz; have := h z (List.mem_reverse.1 hz); simp; omega
theorem prv_mem {k r : Nat} {l : List Nat} (h : prv k l = some r) : r ∈ l ∧ r ≤ k := by
  unfold prv at h
  exact ⟨List.mem_reverse.1 (List.mem_of_find?_eq_some h), by simpa using List.find?_some h⟩
theorem Asc.first {r : Nat} : ∀ {l : List Nat}, Asc l → r ∈ l → (∀ z ∈ l, r ≤ z) → l.head? = some r
  | [], _, h, _ => by cases h
  | x :: l, ha, hr, hz => by
    have h1 := hz x (by simp)
    rcases List.mem_cons.1 hr with rfl | hr
    · rfl
    · have := (asc_cons.1 ha).1 _ hr; omega
theorem Asc.last {r : Nat} : ∀ {l : List Nat}, Asc l → r ∈ l → (∀ z ∈ l, z ≤ r) → l.getLast? = some r
  | [], _, h, _ => by cases h
  | [x], _, hr, _ => by simp at hr; subst hr; rfl
  | x :: y :: l, ha, hr, hz => by
    rw [List.getLast?_cons_cons]
    refine Asc.last (asc_cons.1 ha).2 ?_ fun z h => hz z (List.mem_cons_of_mem _ h)
    rcases List.mem_cons.1 hr with rfl | hr
    · have h1 := (asc_cons.1 ha).1 y (by simp)
      have := hz y (by simp); omega
    · exact hr
/-- what the empty and the found look like as results -/
def oK (o : Option Nat) (K : Int → Bool → Prop) : Prop := match o with
  | some r => K r true
  | none => K 0 false
end Go.St
