import Derived.Test.YtcipamclhpcaaaaGreatDoorStT
import Derived.Test.YtcipamclhpcaaaaGreatDoorStL
import Derived.Test.YtcipamclhpcaaaaGreatDoorStG
import Derived.Laws.AppendOwn
import Derived.Laws.CopyRow
/- St core, part U: rows of things; slices that own their array; slices of memory that stays. -/
namespace Go.St
open Go

/-- how a thing lies in memory -/
structure Enc (T : Type) where
  e : T → List Value
  sz : Nat
  pos : 0 < sz
  len : ∀ x, (e x).length = sz
  one : ∀ x, ∀ v ∈ e x, v.oneCell' = true
def Enc.rows {T : Type} (E : Enc T) : List T → List Value
  | [] => []
  | x :: xs => E.e x ++ E.rows xs
section
variable {T : Type} {E : Enc T}
theorem Enc.rows_app (xs ys : List T) : E.rows (xs ++ ys) = E.rows xs ++ E.rows ys := by
  induction xs with
  | nil => rfl
  | cons x xs ih => simp [Enc.rows, ih]
theorem Enc.rows_len (xs : List T) : (E.rows xs).length = xs.length * E.sz := by
  induction xs with
  | nil => simp [Enc.rows]
  | cons x xs ih => simp [Enc.rows, ih, E.len, Nat.add_mul, Nat.add_comm]
theorem Enc.rows_one (xs : List T) : ∀ v ∈ E.rows xs, v.oneCell' = true := by
  induction xs with
  | nil => intro v h; cases h
  | cons x xs ih =>
    intro v h
    simp only [Enc.rows, List.mem_append] at h
    rcases h with h | h
    · exact E.one x v h
    · exact ih v h
theorem Enc.rows_split {xs : List T} {i : Nat} (hi : i < xs.length) : E.rows xs = E.rows (xs.take i) ++ E.e xs[i] ++ E.rows (xs.drop (i + 1)) := by
  conv => lhs; rw [← List.take_append_drop i xs, List.drop_eq_getElem_cons hi]
  rw [Enc.rows_app, Enc.rows, List.append_assoc]
theorem Enc.rows_at {xs : List T} {i : Nat} {x : T} (rest : List Value) (h : xs[i]? = some x) {j : Nat} (hj : j < E.sz) : (E.rows xs ++ rest)[i * E.sz + j]? = (E.e x)[j]? := by
  obtain ⟨hi, rfl⟩ := List.getElem?_eq_some_iff.1 h
  have hl := E.rows_len (xs.take i)
  have : (xs.take i).length = i := by simp; omega
  rw [this] at hl
  rw [Enc.rows_split hi, List.append_assoc, List.append_assoc, List.getElem?_append_right (by omega), hl, Nat.add_sub_cancel_left, List.getElem?_append_left (by rw [E.len]; exact hj)]
end

/-- a slice, in parts -/
abbrev Sli := Option Addr × Nat × Nat
def ownB (a : Option Addr) (c : Nat) (cs : List Value) : HP :=
  match a with
  | none => pur (c = 0)
  | some ⟨b, o, s⟩ => sp (pur (o = 0 ∧ s = none)) (blk b cs)
/-- a slice with an array of its own -/
def Own {T : Type} (E : Enc T) (a : Option Addr) (s : Nat × Nat × List T) : HP :=
  ex fun (rest : List Value) => sp (pur (s.2.2.length = s.1 ∧ s.1 ≤ s.2.1 ∧ rest.length = (s.2.1 - s.1) * E.sz)) (ownB a s.2.1 (E.rows s.2.2 ++ rest))
section
variable {T : Type} {E : Enc T} {w : World} {M : List HP} {a : Option Addr} {l c : Nat} {xs : List T}
theorem Own.un (h : Sat w (Own E a (l, c, xs) :: M)) : ∃ rest : List Value, (xs.length = l ∧ l ≤ c ∧ rest.length = (c - l) * E.sz) ∧ Sat w (ownB a c (E.rows xs ++ rest) :: M) := by
  obtain ⟨r, h⟩ := Sat.ex.1 h
  obtain ⟨p, h⟩ := Sat.pur.1 (Sat.sep.1 h)
  exact ⟨r, p, h⟩
theorem Own.mk {rest : List Value} (p : xs.length = l ∧ l ≤ c ∧ rest.length = (c - l) * E.sz) (h : Sat w (ownB a c (E.rows xs ++ rest) :: M)) : Sat w (Own E a (l, c, xs) :: M) :=
  Sat.ex.2 ⟨rest, Sat.sep.2 (Sat.pur.2 ⟨p, h⟩)⟩
theorem Own.nil (h : Sat w M) : Sat w (Own E none (0, 0, []) :: M) :=
  Own.mk (rest := []) ⟨rfl, Nat.le_refl _, by simp⟩ (Sat.pur.2 ⟨rfl, h⟩)
/-- one that isn't empty has a block -/
theorem Own.toBlk (h : Sat w (Own E a (l, c, xs) :: M)) (hc : 0 < c) :
    ∃ (b : Nat) (rest : List Value), a = some ⟨b, 0, none⟩ ∧ (xs.length = l ∧ l ≤ c ∧ rest.length = (c - l) * E.sz) ∧ Sat w (blk b (E.rows xs ++ rest) :: M) := by
  obtain ⟨rest, p, h⟩ := Own.un h
  cases a with
  | none => have := (Sat.pur.1 h).1; omega
  | some ad =>
    obtain ⟨b, o, s⟩ := ad
    obtain ⟨⟨e1, e2⟩, h'⟩ := Sat.pur.1 (Sat.sep.1 h)
    subst e1; subst e2
    exact ⟨b, rest, rfl, p, h'⟩
theorem Own.ofBlk {b : Nat} {rest : List Value} (p : xs.length = l ∧ l ≤ c ∧ rest.length = (c - l) * E.sz) (h : Sat w (Go.St.blk b (E.rows xs ++ rest) :: M)) : Sat w (Own E (some ⟨b, 0, none⟩) (l, c, xs) :: M) :=
  Own.mk p (Sat.sep.2 (Sat.pur.2 ⟨⟨rfl, rfl⟩, h⟩))
theorem Own.len (h : Sat w (Own E a (l, c, xs) :: M)) : xs.length = l ∧ l ≤ c := by
  obtain ⟨_, ⟨h1, h2, _⟩, _⟩ := Own.un h; exact ⟨h1, h2⟩
end

/-! ### append -/
/-- what a program says of a slice type: its elements' cells and bytes -/
def appOk (P : Program) (ats : Array TypeId) (sz bytes : Nat) : Bool :=
  match ats.toList with
  | [t, u] => match Nat.beq t u with
    | true => match P.underlying t with
      | some (.slice e) => match P.info? e with
        | some i => match i.zero with
          | some z => Nat.beq i.size sz && Nat.beq i.bytes bytes && Nat.beq z.cells.size sz
          | none => false
        | none => false
      | _ => false
    | false => false
  | _ => false
theorem appOk.out {P : Program} {ats : Array TypeId} {sz bytes : Nat} (h : appOk P ats sz bytes = true) :
    ∃ t e i z, ats = #[t, t] ∧ P.underlying t = some (.slice e) ∧ P.info? e = some i ∧ i.zero = some z ∧ i.size = sz ∧ i.bytes = bytes ∧ z.cells.size = sz := by
  unfold appOk at h
  split at h
  · rename_i t u ha
    split at h
    · rename_i htu
      have htu := Nat.eq_of_beq_eq_true htu; subst htu
      split at h
      · rename_i e hu
        split at h
        · rename_i i hi
          split at h
          · rename_i z hz
            simp only [Bool.and_eq_true] at h
            exact ⟨t, e, i, z, list2 ha, hu, hi, hz, Nat.eq_of_beq_eq_true h.1.1, Nat.eq_of_beq_eq_true h.1.2, Nat.eq_of_beq_eq_true h.2⟩
          · cases h
        · cases h
      · cases h
    · cases h
  · cases h
/-- what a slice reads as in a world -/
def Reads {T : Type} (E : Enc T) (w : World) (a : Option Addr) (xs : List T) : Prop :=
  xs = [] ∨ ∃ b o, a = some ⟨b, o, none⟩ ∧ ∀ j v, (E.rows xs)[j]? = some v → w.cell? ⟨b, o + j, none⟩ = some v
theorem Sat.setRow' {w w' : World} {b : Nat} {cs ds : List Value} {M : List HP} (h : Sat w (blk b cs :: M)) (hw : ∀ t, w.heap[b]? = some (.cells cs.toArray t) → w'.heap[b]? = some (.cells ds.toArray t)) (hk : ∀ c, c ≠ b → w'.heap[c]? = w.heap[c]?) (hs : Same w w') :
    Sat w' (blk b ds :: M) := by
  obtain ⟨t, h⟩ := Sat.ex.1 h
  exact Sat.ex.2 ⟨t, h.upd (hw t (one_get h)) hk hs rfl⟩
theorem AppV.of {P : Program} {ats : Array TypeId} {bytes : Nat} {ty : TypeId} {T : Type} {E : Enc T} {w : World} {M : List HP} {a : Option Addr} {l c : Nat} {xs ys : List T} {r : Option Addr} {n m : Nat} {K : Value → World → Prop}
    (ok : appOk P ats E.sz bytes = true) (h : Sat w (Own E a (l, c, xs) :: M)) (hn : ys.length = n) (src : Reads E w r ys) (hb : l + n ≤ 2 ^ 40) (hby : bytes ≤ 64)
    (k : ∀ a' c' w', Sat w' (Own E a' (l + n, c', xs ++ ys) :: M) → K (.slice a' (l + n) c') w') : AppV P ats ty (.slice a l c) (.slice r n m) w K := by
  obtain ⟨t, e, i, z, rfl, ht, hi, hz, hsz, rfl, hzs⟩ := appOk.out ok
  obtain ⟨rest, ⟨hl, hlc, hrl⟩, ho⟩ := Own.un h
  have hrows := E.rows_len ys
  have hbb : (l + n) * i.bytes ≤ 140737488355328 := by
    have := Nat.mul_le_mul hb hby
    exact Nat.le_trans this (by decide)
  -- what is read
  have hf : ∀ w', (∀ b o, w'.cell? ⟨b, o, none⟩ = w.cell? ⟨b, o, none⟩) → ∃ news : Array Value, news.toList = E.rows ys ∧ (Builtin.firstCells i.size n (.slice r n m)).run P w' = .ok news w' := by
    intro w' hw
    rcases src with rfl | ⟨b, o, rfl, hs⟩
    · simp only [List.length_nil] at hn
      refine ⟨#[], by simp [Enc.rows], ?_⟩
      subst hn
      cases r with
      | none => simp [Builtin.firstCells]
      | some b =>
        have := run_firstCells_some (P := P) w' i.size 0 b 0 m [] (by simp) (by simp)
        simpa using this
    · exact ⟨(E.rows ys).toArray, by simp, run_firstCells_some w' i.size n ⟨b, o, none⟩ n m (E.rows ys) (by rw [hrows, hn, hsz]) (fun j v hj => by rw [addr_add, hw]; exact hs j v hj)⟩
  obtain ⟨news, hnews, hfr⟩ := hf w (fun _ _ => rfl)
  show runV P (Builtin.append_ #[t, t] ty #[.slice a l c, .slice r n m]) w K
  by_cases hroom : l + n ≤ c
  · -- in its place
    cases a with
    | none =>
      have hc : c = 0 := (Sat.pur.1 ho).1
      have hn0 : n = 0 := by omega
      have hys : ys = [] := List.eq_nil_of_length_eq_zero (by omega)
      subst hys
      have : (Builtin.append_ #[t, t] ty #[.slice none l c, .slice r n m]).run P w = .ok (.slice none (l + n) c) w := by
        simp [Builtin.append_, run_underlying ht, sizeOf, typeInfo, hi, Builtin.lenOf, hroom, hfr]
      unfold runV; rw [this]
      refine k _ _ _ (Own.mk (rest := rest) ⟨by simp; omega, hroom, by rw [hrl]; simp [hn0]⟩ (by simpa using ho))
    | some ad =>
      obtain ⟨b, o, s⟩ := ad
      obtain ⟨⟨e1, e2⟩, ho'⟩ := Sat.pur.1 (Sat.sep.1 ho)
      subst e1; subst e2; clear ho; have ho := ho'; clear ho'
      obtain ⟨tt, hx⟩ := Sat.ex.1 ho
      have hg := one_get hx
      have hlen : (E.rows xs ++ rest).length = c * E.sz := by rw [List.length_append, E.rows_len, hrl, hl, ← Nat.add_mul]; congr 1; omega
      have hfit : l * E.sz + (E.rows ys).length ≤ c * E.sz := by rw [hrows, hn, ← Nat.add_mul]; exact Nat.mul_le_mul_right _ hroom
      have hst := run_storeCells_at P b (l * E.sz) tt (E.rows ys) 0 (E.rows xs ++ rest).toArray w hg (by simp only [List.size_toArray]; rw [hlen]; omega) (E.rows_one ys)
      have hrun : (Builtin.append_ #[t, t] ty #[.slice (some ⟨b, 0, none⟩) l c, .slice r n m]).run P w = .ok (.slice (some ⟨b, 0, none⟩) (l + n) c)
          (w.setRow b ((E.rows xs ++ rest).take (l * E.sz) ++ E.rows ys ++ (E.rows xs ++ rest).drop (l * E.sz + (E.rows ys).length)).toArray) := by
        simp only [Nat.add_zero] at hst
        have hfr2 : (Builtin.firstCells E.sz n (.slice r n m)).run P w = .ok news w := by rw [← hsz]; exact hfr
        simp [Builtin.append_, run_underlying ht, sizeOf, typeInfo, hi, Builtin.lenOf, hroom, hfr2, Addr.add_lit, hnews, hsz]
        simpa using congrArg (fun x => x.andThen fun _ w => Result.ok (Value.slice (some ⟨b, 0, none⟩) (l + n) c) w) hst
      unfold runV; rw [hrun]
      have e1 : (E.rows xs ++ rest).take (l * E.sz) = E.rows xs := List.take_left' (by rw [E.rows_len, hl])
      have e2 : (E.rows xs ++ rest).drop (l * E.sz + (E.rows ys).length) = rest.drop (n * E.sz) := by
        have hlx : (E.rows xs).length = l * E.sz := by rw [E.rows_len, hl]
        rw [List.drop_append, hlx, hrows, hn, List.drop_eq_nil_of_le (by omega)]
        simp
      rw [e1, e2]
      refine k _ _ _ (Own.ofBlk (rest := rest.drop (n * E.sz)) ⟨by simp; omega, hroom, by rw [List.length_drop, hrl, ← Nat.sub_mul]; congr 1; omega⟩ ?_)
      refine ho.setRow' (fun t' ht' => ?_) (fun c hc => setRow_other w b c _ hc) ⟨rfl, rfl⟩
      rw [setRow_heap w b _ _ t' _ ht', Enc.rows_app]
  · -- it grows
    have hcap : l + n ≤ grownCap w (l + n) c e := grownCap_ge w _ c e
    have hfin : ∀ cs : Array Value, cs.toList = E.rows xs ++ E.rows ys → (Builtin.append_ #[t, t] ty #[.slice a l c, .slice r n m]).run P w =
        .ok (.slice (some ⟨w.heap.size, 0, none⟩) (l + n) (grownCap w (l + n) c e)) (w.drew.alloc (.cells (cs ++ Builtin.zeroCells z.cells (grownCap w (l + n) c e - (l + n))) e)) →
        runV P (Builtin.append_ #[t, t] ty #[.slice a l c, .slice r n m]) w K := by
      intro cs hcs hrun
      unfold runV; rw [hrun]
      refine k _ _ _ (Own.ofBlk (rest := (Builtin.zeroCells z.cells (grownCap w (l + n) c e - (l + n))).toList) ⟨by simp; omega, hcap, by simp [size_zeroCells, hzs]⟩ ?_)
      have := (h.drop.drew).alloc (cs ++ Builtin.zeroCells z.cells (grownCap w (l + n) c e - (l + n))) e
      rw [Array.toList_append, hcs] at this
      rw [Enc.rows_app]; exact this
    have hold : ∃ old : Array Value, old.toList = E.rows xs ∧ (Builtin.firstCells i.size l (.slice a l c)).run P w.drew = .ok old w.drew := by
      cases a with
      | none =>
        have hc : c = 0 := (Sat.pur.1 ho).1
        have hx : xs = [] := List.eq_nil_of_length_eq_zero (by omega)
        subst hx
        exact ⟨#[], by simp [Enc.rows], by simp [Builtin.firstCells]⟩
      | some ad =>
        obtain ⟨b, o, s⟩ := ad
        obtain ⟨⟨e1, e2⟩, ho'⟩ := Sat.pur.1 (Sat.sep.1 ho)
        subst e1; subst e2; clear ho; have ho := ho'; clear ho'
        refine ⟨(E.rows xs).toArray, by simp, run_firstCells_some w.drew i.size l ⟨b, 0, none⟩ l c (E.rows xs) (by rw [E.rows_len, hl, hsz]) (fun j v hj => ?_)⟩
        rw [addr_add, World.cell?_drew, ho.ld, Nat.zero_add, List.getElem?_append_left (by
          rcases Nat.lt_or_ge j (E.rows xs).length with h | h
          · exact h
          · rw [List.getElem?_eq_none h] at hj; cases hj)]
        exact hj
    obtain ⟨old, hold, hro⟩ := hold
    obtain ⟨news', hnews', hfr'⟩ := hf w.drew (fun _ _ => rfl)
    refine hfin (old ++ news') (by rw [Array.toList_append, hold, hnews']) ?_
    have hn' : ¬ (l + n ≤ c) := hroom
    have h63 : ¬ (9223372036854775807 < ((l : Int) + (n : Int))) := by omega
    have h48 : ¬ (281474976710656 < Builtin.nextslicecap (l + n) c * i.bytes) := by
      have := growslice_fits (need := l + n) (old := c) (bytes := i.bytes) (by omega) hbb
      omega
    simp [Builtin.append_, run_underlying ht, sizeOf, typeInfo, zeroValue, hi, hz, Builtin.lenOf, hn', h63, h48, Question.forced, hro, hfr', newRow, grownCap]

theorem Reads.own {T : Type} {E : Enc T} {w : World} {b : Nat} {cs : List Value} {L : List HP} {F : HP → List HP} [i : Foc blk b cs L F] (h : Sat w L) {ys : List T} (hp : E.rows ys <+: cs) : Reads E w (some ⟨b, 0, none⟩) ys := by
  obtain ⟨M, h, _⟩ := i.op h
  refine .inr ⟨b, 0, rfl, fun j v hj => ?_⟩
  rw [h.ld, Nat.zero_add]
  obtain ⟨t, rfl⟩ := hp
  rw [List.getElem?_append_left (by
    rcases Nat.lt_or_ge j (E.rows ys).length with h | h
    · exact h
    · rw [List.getElem?_eq_none h] at hj; cases hj)]
  exact hj
end Go.St

