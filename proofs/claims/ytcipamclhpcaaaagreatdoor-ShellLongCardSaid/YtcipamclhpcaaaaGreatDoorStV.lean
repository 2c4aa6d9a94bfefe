import Derived.Test.YtcipamclhpcaaaaGreatDoorStU
/- St core, part V: reads and writes in rows; what may be known of cells. -/
namespace Go.St
open Go

section
variable {w : World} {b o : Nat}
theorem lI64.mk {n : Int} {K : Int → Prop} (e : w.cell? ⟨b, o, none⟩ = some (.int .i64 n)) (k : K n) : lI64 w b o K := ⟨n, e, k⟩
theorem lU64.mk {n : Int} {K : Int → Prop} (e : w.cell? ⟨b, o, none⟩ = some (.int .u64 n)) (k : K n) : lU64 w b o K := ⟨n, e, k⟩
theorem lU16.mk {n : Int} {K : Int → Prop} (e : w.cell? ⟨b, o, none⟩ = some (.int .u16 n)) (k : K n) : lU16 w b o K := ⟨n, e, k⟩
theorem lU8.mk {n : Int} {K : Int → Prop} (e : w.cell? ⟨b, o, none⟩ = some (.int .u8 n)) (k : K n) : lU8 w b o K := ⟨n, e, k⟩
theorem lB.mk {n : Bool} {K : Bool → Prop} (e : w.cell? ⟨b, o, none⟩ = some (.bool n)) (k : K n) : lB w b o K := ⟨n, e, k⟩
theorem lS.mk {n : ByteArray} {K : ByteArray → Prop} (e : w.cell? ⟨b, o, none⟩ = some (.string n)) (k : K n) : lS w b o K := ⟨n, e, k⟩
theorem lP.mk {n : Option Addr} {K : Option Addr → Prop} (e : w.cell? ⟨b, o, none⟩ = some (.pointer n)) (k : K n) : lP w b o K := ⟨n, e, k⟩
theorem lL.mk {a : Option Addr} {l c : Nat} {K : Option Addr → Nat → Nat → Prop} (e : w.cell? ⟨b, o, none⟩ = some (.slice a l c)) (k : K a l c) : lL w b o K := ⟨a, l, c, e, k⟩
theorem lR.mk {v : Value} {K : Value → Prop} (e : w.cell? ⟨b, o, none⟩ = some v) (k : K v) : lR w b o K := ⟨v, e, k⟩
end

theorem setsAt_app {A B vs : List Value} {o : Nat} (h : o + vs.length ≤ A.length) : setsAt (A ++ B) o vs = setsAt A o vs ++ B := by
  rw [setsAt_eq (by simp; omega), setsAt_eq h]
  rw [List.take_append_of_le_length (by omega), List.drop_append_of_le_length h]
  simp
theorem setsAt_right {A B vs : List Value} {o : Nat} (h : o + vs.length ≤ B.length) : setsAt (A ++ B) (A.length + o) vs = A ++ setsAt B o vs := by
  rw [setsAt_eq (by simp; omega), setsAt_eq h]
  rw [List.take_length_add_append, show A.length + o + vs.length = A.length + (o + vs.length) by omega, List.drop_length_add_append]
  simp
section
variable {T : Type} {E : Enc T}
theorem Enc.rows_setp {xs : List T} {i o : Nat} {x y : T} {us : List Value} (rest : List Value) (hi : xs[i]? = some x) (ho : o + us.length ≤ E.sz) (hy : setsAt (E.e x) o us = E.e y) :
    setsAt (E.rows xs ++ rest) (i * E.sz + o) us = E.rows (xs.set i y) ++ rest := by
  obtain ⟨hlt, rfl⟩ := List.getElem?_eq_some_iff.1 hi
  have hl := E.rows_len (xs.take i)
  have : (xs.take i).length = i := by simp; omega
  rw [this] at hl
  have hs : E.rows (xs.set i y) = E.rows (xs.take i) ++ E.e y ++ E.rows (xs.drop (i + 1)) := by
    rw [Enc.rows_split (xs := xs.set i y) (i := i) (by simpa using hlt)]
    simp [List.take_set_of_le, List.drop_set_of_lt]
  rw [hs, Enc.rows_split hlt, ← hl]
  simp only [List.append_assoc]
  rw [setsAt_right (by simp [E.len]; omega), setsAt_app (by rw [E.len]; exact ho), hy]
theorem Enc.rows_set1 {xs : List T} {i o : Nat} {x y : T} {u : Value} (rest : List Value) (hi : xs[i]? = some x) (ho : o < E.sz) (hy : (E.e x).set o u = E.e y) :
    (E.rows xs ++ rest).set (i * E.sz + o) u = E.rows (xs.set i y) ++ rest := by
  have := Enc.rows_setp (us := [u]) rest hi (o := o) (y := y) (by simp; omega) hy
  exact this
end

section
variable {T : Type} {E : Enc T} {w : World} {L : List HP} {F : HP → List HP} {a : Option Addr} {l c : Nat} {xs : List T}
theorem Own.get [i : Foc (Own E) a (l, c, xs) L F] (h : Sat w L) {n : Nat} {x : T} (hx : xs[n]? = some x) :
    ∃ b, a = some ⟨b, 0, none⟩ ∧ n < l ∧ ∀ j, j < E.sz → w.cell? ⟨b, n * E.sz + j, none⟩ = (E.e x)[j]? := by
  obtain ⟨M, h, _⟩ := i.op h
  obtain ⟨hl, hc⟩ := Own.len h
  have hn : n < xs.length := (List.getElem?_eq_some_iff.1 hx).1
  obtain ⟨b, rest, rfl, _, h⟩ := Own.toBlk h (by omega)
  refine ⟨b, rfl, by omega, fun j hj => ?_⟩
  rw [h.ld, Enc.rows_at rest hx hj]
theorem cellsAre.of {w : World} {b : Nat} : ∀ {us : List Value} {o : Nat}, (∀ j v, us[j]? = some v → w.cell? ⟨b, o + j, none⟩ = some v) → cellsAre w b o us
  | [], _, _ => trivial
  | u :: us, o, hs => ⟨hs 0 u rfl, cellsAre.of fun j v hj => by
      have := hs (j + 1) v (by simpa using hj)
      rw [show o + 1 + j = o + (j + 1) by omega]; exact this⟩
/-- a thing's cells, or some of them from k on -/
theorem Own.cells [i : Foc (Own E) a (l, c, xs) L F] (h : Sat w L) {n : Nat} {x : T} (hx : xs[n]? = some x) :
    ∃ b, a = some ⟨b, 0, none⟩ ∧ n < l ∧ ∀ k us, ((E.e x).drop k).take us.length = us → cellsAre w b (n * E.sz + k) us := by
  obtain ⟨b, rfl, hn, hj⟩ := Own.get (i := i) h hx
  refine ⟨b, rfl, hn, fun k us hus => cellsAre.of fun j v hv => ?_⟩
  rw [← hus, List.getElem?_take, List.getElem?_drop] at hv
  split at hv
  · rw [Nat.add_assoc, hj]
    · exact hv
    · have := (List.getElem?_eq_some_iff.1 hv).1
      rw [E.len] at this; exact this
  · cases hv
/-- a store into a thing -/
theorem Own.stCs {b : Nat} {n k : Nat} {x y : T} {us : List Value} {K : World → Prop} [i : Foc (Own E) (some ⟨b, 0, none⟩) (l, c, xs) L F] (h : Sat w L) (hx : xs[n]? = some x) (hk : k + us.length ≤ E.sz) (hv : ∀ v ∈ us, v.oneCell' = true) (hy : setsAt (E.e x) k us = E.e y)
    (q : ∀ w1, Sat w1 (F (Own E (some ⟨b, 0, none⟩) (l, c, xs.set n y))) → K w1) : stCs b (n * E.sz + k) us w K := by
  obtain ⟨M, h, hb⟩ := i.op h
  obtain ⟨hl, hc⟩ := Own.len h
  have hn : n < xs.length := (List.getElem?_eq_some_iff.1 hx).1
  obtain ⟨b', rest, hbb, p, h⟩ := Own.toBlk h (by omega)
  cases hbb
  refine h.stC ?_ hv fun w1 h1 => q w1 (hb (Own.ofBlk (rest := rest) ⟨by simp; exact p.1, p.2.1, p.2.2⟩ ?_))
  · rw [List.length_append, E.rows_len]
    have : (n + 1) * E.sz ≤ xs.length * E.sz := Nat.mul_le_mul_right _ hn
    rw [Nat.add_mul] at this
    omega
  · rw [Enc.rows_setp rest hx hk hy] at h1; exact h1
theorem Own.stP {b : Nat} {n k : Nat} {x y : T} {u : Value} {K : World → Prop} [i : Foc (Own E) (some ⟨b, 0, none⟩) (l, c, xs) L F] (h : Sat w L) (hx : xs[n]? = some x) (hk : k < E.sz) (hy : (E.e x).set k u = E.e y)
    (q : ∀ w1, Sat w1 (F (Own E (some ⟨b, 0, none⟩) (l, c, xs.set n y))) → K w1) : stP w b (n * E.sz + k) u K := by
  obtain ⟨M, h, hb⟩ := i.op h
  obtain ⟨hl, hc⟩ := Own.len h
  have hn : n < xs.length := (List.getElem?_eq_some_iff.1 hx).1
  obtain ⟨b', rest, hbb, p, h⟩ := Own.toBlk h (by omega)
  cases hbb
  refine h.st ?_ fun w1 h1 => q w1 (hb (Own.ofBlk (rest := rest) ⟨by simp; exact p.1, p.2.1, p.2.2⟩ ?_))
  · rw [List.length_append, E.rows_len]
    have : (n + 1) * E.sz ≤ xs.length * E.sz := Nat.mul_le_mul_right _ hn
    rw [Nat.add_mul] at this
    omega
  · rw [Enc.rows_set1 rest hx hk hy] at h1; exact h1
theorem AppV.own {P : Program} {ats : Array TypeId} {bytes : Nat} {ty : TypeId} {ys : List T} {r : Option Addr} {n m : Nat} {K : Value → World → Prop} [i : Foc (Own E) a (l, c, xs) L F]
    (h : Sat w L) (ok : appOk P ats E.sz bytes = true) (src : Reads E w r ys) (hn : ys.length = n) (hb : l + n ≤ 2 ^ 40) (hby : bytes ≤ 64)
    (k : ∀ a' c' w', Sat w' (F (Own E a' (l + n, c', xs ++ ys))) → K (.slice a' (l + n) c') w') : AppV P ats ty (.slice a l c) (.slice r n m) w K := by
  obtain ⟨M, h, hb'⟩ := i.op h
  exact AppV.of ok h hn src hb hby fun a' c' w' h' => k a' c' w' (hb' h')
end

/-! ### encodings -/
def eI64 : Enc Int := ⟨fun n => [.int .i64 n], 1, by decide, fun _ => rfl, fun _ v h => by simp at h; subst h; rfl⟩
def eU16 : Enc Int := ⟨fun n => [.int .u16 n], 1, by decide, fun _ => rfl, fun _ v h => by simp at h; subst h; rfl⟩
def eU8 : Enc Int := ⟨fun n => [.int .u8 n], 1, by decide, fun _ => rfl, fun _ v h => by simp at h; subst h; rfl⟩
def Enc.flag {T : Type} (E : Enc T) : Enc (T × Bool) := ⟨fun p => E.e p.1 ++ [.bool p.2], E.sz + 1, by omega, fun p => by simp [E.len], fun p v h => by
  simp only [List.mem_append, List.mem_singleton] at h
  rcases h with h | rfl
  · exact E.one _ v h
  · rfl⟩
end Go.St

