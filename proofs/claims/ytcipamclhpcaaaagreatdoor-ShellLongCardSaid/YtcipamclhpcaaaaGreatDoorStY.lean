import Derived.Test.YtcipamclhpcaaaaGreatDoorStX
import Derived.Lib.AppendStr
import Derived.Below
import Derived.Sort.OwnSorted
/- St core, part Y: what library calls leave; bytes of a string appended. -/
namespace Go.St
open Go
/-- what is behind a call that leaves all blocks that there are -/
theorem Sat.below {w w' : World} {L : List HP} (h : Sat w L) (b : Go.RowKit.Below w.heap.size w w') : Sat w' L := by
  obtain ⟨g, i, x⟩ := h
  refine ⟨g, heapIn_of i (fun c hc => ?_) fun W r => ⟨b.os.trans r.os, b.output.trans r.out, Nat.le_trans r.size b.size⟩, x⟩
  refine b.block c ?_
  cases e : g (.inl c) with
  | none => exact absurd e hc
  | some o => exact get_lt (i.m c o e)
/-- .. but for one block, which is lost -/
theorem Sat.lose {w w' : World} {b : Nat} {o : Obj} {L : List HP} (h : Sat w (one b o :: L)) (hk : ∀ c, c < w.heap.size → c ≠ b → w'.heap[c]? = w.heap[c]?) (hs : Same w w') (hsz : w.heap.size ≤ w'.heap.size) : Sat w' L := by
  obtain ⟨g, i, f, k, d, rfl, ⟨_, rfl⟩, y⟩ := h
  refine ⟨k, heapIn_of (i.right d) (fun c hc => ?_) fun W r => ⟨hs.os.trans r.os, hs.out.trans r.out, Nat.le_trans r.size hsz⟩, y⟩
  refine hk c ?_ ?_
  · cases e : k (.inl c) with
    | none => exact absurd e hc
    | some o => exact get_lt ((i.right d).m c o e)
  · rintro rfl
    rcases d (.inl c) with h1 | h1
    · simp [oneH] at h1
    · exact hc h1
/-- .. but for one block, which holds other cells -/
theorem Sat.turn {w w' : World} {b : Nat} {o o' : Obj} {L : List HP} (h : Sat w (one b o :: L)) (hb : w'.heap[b]? = some o') (ho : nfz o') (hk : ∀ c, c < w.heap.size → c ≠ b → w'.heap[c]? = w.heap[c]?) (hs : Same w w') (hsz : w.heap.size ≤ w'.heap.size) : Sat w' (one b o' :: L) := by
  obtain ⟨g, i, f, k, d, rfl, ⟨_, rfl⟩, y⟩ := h
  have hr : ∀ W, RelW W w → RelW W w' := fun W r => ⟨hs.os.trans r.os, hs.out.trans r.out, Nat.le_trans r.size hsz⟩
  have hd : (oneH b o').Dj k := fun c => by
    cases c with
    | inr W => exact .inl rfl
    | inl c =>
      by_cases e : c = b
      · right
        rcases d (.inl c) with h1 | h1
        · subst e; simp [oneH] at h1
        · exact h1
      · left; simp [oneH, e]
  refine ⟨(oneH b o').or k, Hp.In.or ⟨?_, fun W x e => by cases e⟩ ?_, oneH b o', k, hd, rfl, ⟨ho, rfl⟩, y⟩
  · intro c x e
    simp only [oneH] at e
    split at e
    · rename_i e1; subst e1; cases e; exact hb
    · cases e
  · refine heapIn_of (i.right d) (fun c hc => hk c ?_ ?_) hr
    · cases e : k (.inl c) with
      | none => exact absurd e hc
      | some o => exact get_lt ((i.right d).m c o e)
    · rintro rfl
      rcases d (.inl c) with h1 | h1
      · simp [oneH] at h1
      · exact hc h1
def eB : Enc UInt8 := ⟨fun n => [.int .u8 (n.toNat : Int)], 1, by decide, fun _ => rfl, fun _ v h => by simp at h; subst h; rfl⟩
def eStr : Enc ByteArray := ⟨fun s => [.string s], 1, by decide, fun _ => rfl, fun _ v h => by simp at h; subst h; rfl⟩
def appSOk (P : Program) (ats : Array TypeId) : Bool :=
  match ats.toList with
  | [t, u] => match P.underlying t, P.underlying u with
    | some (.slice e), some .string => match P.info? e with
      | some i => match i.zero with
        | some z => Nat.beq i.size 1 && Nat.beq i.bytes 1 && Nat.beq z.cells.size 1
        | none => false
      | none => false
    | _, _ => false
  | _ => false
theorem appSOk.out {P : Program} {ats : Array TypeId} (h : appSOk P ats = true) :
    ∃ t u e i z, ats = #[t, u] ∧ P.underlying t = some (.slice e) ∧ P.underlying u = some .string ∧ P.info? e = some i ∧ i.zero = some z ∧ i.size = 1 ∧ i.bytes = 1 ∧ z.cells.size = 1 := by
  unfold appSOk at h
  split at h
  · rename_i t u ha
    split at h
    · rename_i e h1 h2
      split at h
      · rename_i i hi
        split at h
        · rename_i z hz
          simp only [Bool.and_eq_true] at h
          refine ⟨t, u, e, i, z, by apply Array.ext'; simpa using ha, h1, h2, hi, hz, Nat.eq_of_beq_eq_true h.1.1, Nat.eq_of_beq_eq_true h.1.2, Nat.eq_of_beq_eq_true h.2⟩
        · cases h
      · cases h
    · cases h
  · cases h
end Go.St

