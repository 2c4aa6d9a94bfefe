/- Contracts: pools, the plain part. -/
import Derived.Test.YtkapfochgkdhaaaGreatStV
namespace Go.St
open Go

structure Pl (T : Type) where
  m : Nat
  f : Nat → Option T
  n : Nat
  lim : Nat
def Pl.up {T : Type} (f : Nat → Option T) (i : Nat) (o : Option T) : Nat → Option T := fun j => if j = i then o else f j
def Pl.at {T : Type} (s : Pl T) (i : Int) : Option T := if 0 ≤ i then s.f i.toNat else none
/-- the cells and the free places of a pool -/
structure PlOk {T : Type} (s : Pl T) (cs : List (T × Bool)) (fr : List Nat) : Prop where
  f : ∀ i, s.f i = match cs[i]? with
    | some (v, true) => some v
    | _ => none
  nd : fr.Nodup
  mem : ∀ i, i ∈ fr ↔ ∃ v, cs[i]? = some (v, false)
  len : cs.length = s.n + fr.length
  lim : cs.length ≤ s.lim
  cap : s.lim ≤ 1048576
section
variable {T : Type} {s : Pl T} {cs : List (T × Bool)} {fr : List Nat}
theorem PlOk.le (h : PlOk s cs fr) : s.n ≤ s.lim := by have := h.len; have := h.lim; omega
theorem PlOk.get (h : PlOk s cs fr) {i : Nat} {v : T} (e : s.f i = some v) : cs[i]? = some (v, true) := by
  rw [h.f] at e
  split at e
  · rename_i h1; cases e; exact h1
  · cases e
theorem PlOk.lt (h : PlOk s cs fr) {i : Nat} {v : T} (e : s.f i = some v) : i < cs.length := (List.getElem?_eq_some_iff.1 (h.get e)).1
theorem PlOk.no (h : PlOk s cs fr) {i : Nat} (e : s.f i = none) (hi : i < cs.length) : ∃ v, cs[i]? = some (v, false) := by
  rw [h.f] at e
  have : cs[i]? = some cs[i] := List.getElem?_eq_getElem hi
  rw [this] at e
  rw [this]
  generalize cs[i] = x at e
  obtain ⟨v, b⟩ := x
  cases b
  · exact ⟨v, rfl⟩
  · cases e
theorem PlOk.new (m lim : Nat) (h : lim ≤ 1048576) : PlOk (T := T) ⟨m, fun _ => none, 0, lim⟩ [] [] :=
  ⟨fun i => by simp, List.nodup_nil, fun i => by simp, rfl, Nat.zero_le _, h⟩
theorem PlOk.put (h : PlOk s cs fr) {i : Nat} {v u : T} (e : s.f i = some u) : PlOk ⟨s.m, Pl.up s.f i (some v), s.n, s.lim⟩ (cs.set i (v, true)) fr := by
  have hi := h.lt e
  have hg := h.get e
  refine ⟨fun j => ?_, h.nd, fun j => ?_, by simpa using h.len, by simpa using h.lim, h.cap⟩
  · simp only [Pl.up, List.getElem?_set]
    by_cases hj : j = i
    · subst hj; simp [hi]
    · rw [if_neg hj, if_neg (Ne.symm hj)]; exact h.f j
  · rw [h.mem, List.getElem?_set]
    by_cases hj : i = j
    · subst hj
      have hg' : cs[i] = (u, true) := by rw [List.getElem?_eq_getElem hi] at hg; exact Option.some.inj hg
      simp [hi, hg']
    · rw [if_neg hj]
theorem PlOk.free (h : PlOk s cs fr) {i : Nat} {v u : T} (e : s.f i = some u) : PlOk ⟨s.m, Pl.up s.f i none, s.n - 1, s.lim⟩ (cs.set i (v, false)) (fr ++ [i]) := by
  have hi := h.lt e
  have hg := h.get e
  have hni : i ∉ fr := fun hm => by
    obtain ⟨v, hv⟩ := (h.mem i).1 hm
    rw [hg] at hv; cases hv
  have hn : 0 < s.n := by
    -- the places that are not free
    have h1 := h.len
    have hsub : (i :: fr).length ≤ cs.length := by
      have hs : (i :: fr) ⊆ List.range cs.length := fun j hj => by
        rw [List.mem_range]
        rcases List.mem_cons.1 hj with rfl | hj
        · exact hi
        · obtain ⟨v, hv⟩ := (h.mem j).1 hj
          exact (List.getElem?_eq_some_iff.1 hv).1
      have := (List.nodup_cons.2 ⟨hni, h.nd⟩).length_le_of_subset hs
      simpa using this
    simp at hsub; omega
  refine ⟨fun j => ?_, ?_, fun j => ?_, by have := h.len; simp; omega, by simpa using h.lim, h.cap⟩
  · simp only [Pl.up, List.getElem?_set]
    by_cases hj : j = i
    · subst hj; simp [hi]
    · rw [if_neg hj, if_neg (Ne.symm hj)]; exact h.f j
  · rw [List.nodup_append]
    exact ⟨h.nd, by simp, fun a ha b hb => by simp at hb; subst hb; rintro rfl; exact hni ha⟩
  · rw [List.mem_append, h.mem, List.getElem?_set]
    by_cases hj : i = j
    · subst hj; simp [hi]
    · rw [if_neg hj]; simp [Ne.symm hj]
theorem PlOk.pop {i : Nat} (h : PlOk s cs (fr ++ [i])) (v : T) : s.f i = none ∧ i < cs.length ∧ PlOk ⟨s.m, Pl.up s.f i (some v), s.n + 1, s.lim⟩ (cs.set i (v, true)) fr := by
  obtain ⟨u, hu⟩ := (h.mem i).1 (by simp)
  have hi := (List.getElem?_eq_some_iff.1 hu).1
  have hnd := List.nodup_append.1 h.nd
  have hni : i ∉ fr := fun hm => hnd.2.2 i hm i (by simp) rfl
  refine ⟨by rw [h.f, hu], hi, fun j => ?_, hnd.1, fun j => ?_, by have := h.len; simp at this ⊢; omega, by simpa using h.lim, h.cap⟩
  · simp only [Pl.up, List.getElem?_set]
    by_cases hj : j = i
    · subst hj; simp [hi]
    · rw [if_neg hj, if_neg (Ne.symm hj)]; exact h.f j
  · rw [List.getElem?_set]
    by_cases hj : i = j
    · subst hj; simp [hi, hni]
    · rw [if_neg hj, ← h.mem]; simp [Ne.symm hj]
theorem PlOk.push (h : PlOk s cs []) (hn : s.n < s.lim) (v : T) : s.f cs.length = none ∧ PlOk ⟨s.m, Pl.up s.f cs.length (some v), s.n + 1, s.lim⟩ (cs ++ [(v, true)]) [] := by
  have hl := h.len
  refine ⟨by rw [h.f]; simp, fun j => ?_, List.nodup_nil, fun j => ?_, by simp at hl ⊢; omega, by simp at hl ⊢; omega, h.cap⟩
  · simp only [Pl.up]
    by_cases hj : j = cs.length
    · subst hj; simp
    · rw [if_neg hj, h.f]
      rcases Nat.lt_or_ge j cs.length with h1 | h1
      · rw [List.getElem?_append_left h1]
      · rw [List.getElem?_eq_none h1, List.getElem?_eq_none (by simp; omega)]
  · rw [h.mem]
    rcases Nat.lt_or_ge j cs.length with h1 | h1
    · rw [List.getElem?_append_left h1]
    · rw [List.getElem?_eq_none h1, List.getElem?_append_right h1]
      cases hk : j - cs.length <;> simp
end

def eNat : Enc Nat := ⟨fun n => [.int .i64 (n : Int)], 1, by decide, fun _ => rfl, fun _ v h => by simp at h; subst h; rfl⟩
/-- a pool in memory, without its meter -/
def PoolR {T : Type} (E : Enc T) (p : Nat) (s : Pl T) : HP :=
  ex fun (cs : List (T × Bool)) => ex fun (fr : List Nat) => ex fun (c : Sli) => ex fun (f : Sli) =>
    sp (pur (PlOk s cs fr)) (sp (blk p [.pointer (some ⟨s.m, 0, none⟩), .slice c.1 c.2.1 c.2.2, .slice f.1 f.2.1 f.2.2, .int .i64 (s.n : Int), .int .i64 (s.lim : Int)]) (sp (Own E.flag c.1 (c.2.1, c.2.2, cs)) (Own eNat f.1 (f.2.1, f.2.2, fr))))
section
variable {T : Type} {E : Enc T} {p : Nat} {s : Pl T} {w : World} {M : List HP}
theorem PoolR.un (h : Sat w (PoolR E p s :: M)) : ∃ cs fr ca cl cc fa fl fc, PlOk s cs fr ∧
    Sat w (blk p [.pointer (some ⟨s.m, 0, none⟩), .slice ca cl cc, .slice fa fl fc, .int .i64 (s.n : Int), .int .i64 (s.lim : Int)] :: Own E.flag ca (cl, cc, cs) :: Own eNat fa (fl, fc, fr) :: M) := by
  obtain ⟨cs, h⟩ := Sat.ex.1 h; obtain ⟨fr, h⟩ := Sat.ex.1 h; obtain ⟨⟨ca, cl, cc⟩, h⟩ := Sat.ex.1 h; obtain ⟨⟨fa, fl, fc⟩, h⟩ := Sat.ex.1 h
  obtain ⟨hp, h⟩ := Sat.pur.1 (Sat.sep.1 h)
  have h := (Sat.sep.1 h).pull 1
  have h := ((Sat.sep.1 h).pull 2)
  exact ⟨cs, fr, ca, cl, cc, fa, fl, fc, hp, h⟩
theorem PoolR.mk {cs : List (T × Bool)} {fr : List Nat} {ca fa : Option Addr} {cl cc fl fc : Nat} (hp : PlOk s cs fr)
    (h : Sat w (blk p [.pointer (some ⟨s.m, 0, none⟩), .slice ca cl cc, .slice fa fl fc, .int .i64 (s.n : Int), .int .i64 (s.lim : Int)] :: Own E.flag ca (cl, cc, cs) :: Own eNat fa (fl, fc, fr) :: M)) : Sat w (PoolR E p s :: M) := by
  refine Sat.ex.2 ⟨cs, Sat.ex.2 ⟨fr, Sat.ex.2 ⟨(ca, cl, cc), Sat.ex.2 ⟨(fa, fl, fc), Sat.sep.2 (Sat.pur.2 ⟨hp, Sat.sep.2 ?_⟩)⟩⟩⟩⟩
  have h := h.pull 1
  have h := h.pull 2
  simp only [pullL] at h
  -- [fr, cs, blk]
  have h1 := (h.pull 1)
  simp only [pullL] at h1
  have h2 := Sat.sep.2 h1
  exact h2.pull 1
end
end Go.St
