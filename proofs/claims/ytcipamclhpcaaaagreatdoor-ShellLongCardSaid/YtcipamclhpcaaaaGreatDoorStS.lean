import Derived.Test.YtcipamclhpcaaaaGreatDoorStN
import Derived.Test.YtcipamclhpcaaaaGreatDoorStR
/- St core, part S: separated memory: what a list of parts of memory holds, one beside the other. -/
namespace Go.St
open Go

/-- not frozen -/
def nfz : Obj → Prop
  | .cells _ _ fr => fr = (0, 0)
  | _ => True
/-- what a call has turned of a world: nothing but its memory -/
structure RelW (W w : World) : Prop where
  os : w.os = W.os
  out : w.output = W.output
  size : W.heap.size ≤ w.heap.size
abbrev Ix := Nat ⊕ World
abbrev Hp := Ix → Option Obj
structure Hp.In (h : Hp) (w : World) : Prop where
  m : ∀ b o, h (.inl b) = some o → w.heap[b]? = some o
  r : ∀ W o, h (.inr W) = some o → RelW W w
def Hp.Dj (h g : Hp) : Prop := ∀ b, h b = none ∨ g b = none
def Hp.or (h g : Hp) : Hp := fun b => (h b).or (g b)
abbrev HP := Hp → Prop
def emp : HP := fun h => ∀ b, h b = none
def sp (A B : HP) : HP := fun h => ∃ f g : Hp, f.Dj g ∧ h = f.or g ∧ A f ∧ B g
def pur (p : Prop) : HP := fun h => p ∧ ∀ b, h b = none
def ex {α : Sort _} (A : α → HP) : HP := fun h => ∃ a, A a h
def seps : List HP → HP
  | [] => emp
  | A :: L => sp A (seps L)
def oneH (b : Nat) (o : Obj) : Hp
  | .inl c => if c = b then some o else none
  | .inr _ => none
def one (b : Nat) (o : Obj) : HP := fun h => nfz o ∧ h = oneH b o
/-- a block of cells that may be written -/
def blk (b : Nat) (cs : List Value) : HP := ex fun t => one b (.cells cs.toArray t)
def Sat (w : World) (L : List HP) : Prop := ∃ h : Hp, h.In w ∧ seps L h
/-- all that there was -/
def Start (W : World) : HP := fun h => (∀ b o, W.heap[b]? = some o → h (.inl b) = some o) ∧ ∃ o, h (.inr W) = some o

theorem Hp.Dj.symm {h g : Hp} (d : h.Dj g) : g.Dj h := fun b => (d b).symm
theorem Hp.or_comm {h g : Hp} (d : h.Dj g) : h.or g = g.or h := by
  funext b; unfold Hp.or
  rcases d b with e | e <;> rw [e] <;> simp
theorem Hp.or_assoc (f g h : Hp) : (f.or g).or h = f.or (g.or h) := by
  funext b; unfold Hp.or; cases f b <;> simp
theorem Hp.In.left {f g : Hp} {w : World} (h : (f.or g).In w) : f.In w :=
  ⟨fun b o e => h.m b o (by unfold Hp.or; rw [e]; rfl), fun b o e => h.r b o (by unfold Hp.or; rw [e]; rfl)⟩
theorem Hp.In.right {f g : Hp} {w : World} (h : (f.or g).In w) (d : f.Dj g) : g.In w := by
  rw [Hp.or_comm d] at h; exact h.left
theorem Hp.In.or {f g : Hp} {w : World} (h1 : f.In w) (h2 : g.In w) : (f.or g).In w := by
  constructor
  · intro b o e
    unfold Hp.or at e
    cases hf : f (.inl b) with
    | none => rw [hf] at e; exact h2.m b o (by simpa using e)
    | some x => rw [hf] at e; exact h1.m b o (by simp at e; rw [hf, e])
  · intro b o e
    unfold Hp.or at e
    cases hf : f (.inr b) with
    | none => rw [hf] at e; exact h2.r b o (by simpa using e)
    | some x => rw [hf] at e; exact h1.r b o (by simp at e; rw [hf, e])

theorem sp_comm {A B : HP} {h : Hp} (x : sp A B h) : sp B A h := by
  obtain ⟨f, g, d, rfl, a, b⟩ := x
  exact ⟨g, f, d.symm, Hp.or_comm d, b, a⟩
theorem sp_assoc {A B C : HP} {h : Hp} (x : sp (sp A B) C h) : sp A (sp B C) h := by
  obtain ⟨_, g, d, rfl, ⟨f1, f2, d1, rfl, a, b⟩, c⟩ := x
  have hd : ∀ b, (f1 b = none ∧ f2 b = none) ∨ g b = none := fun b => by
    rcases d b with e | e
    · unfold Hp.or at e
      cases h1 : f1 b with
      | none => rw [h1] at e; exact .inl ⟨rfl, by simpa using e⟩
      | some x => rw [h1] at e; simp at e
    · exact .inr e
  refine ⟨f1, f2.or g, fun b => ?_, Hp.or_assoc _ _ _, a, f2, g, fun b => ?_, rfl, b, c⟩
  · rcases hd b with ⟨e, _⟩ | e
    · exact .inl e
    · rcases d1 b with e1 | e1
      · exact .inl e1
      · right; unfold Hp.or; rw [e1, e]; rfl
  · rcases hd b with ⟨_, e⟩ | e
    · exact .inl e
    · exact .inr e
theorem sp_assoc' {A B C : HP} {h : Hp} (x : sp A (sp B C) h) : sp (sp A B) C h :=
  sp_comm (sp_assoc (sp_comm (sp_assoc (sp_comm x))))
theorem sp_mono {A A' B B' : HP} {h : Hp} (x : sp A B h) (ha : ∀ h, A h → A' h) (hb : ∀ h, B h → B' h) : sp A' B' h := by
  obtain ⟨f, g, d, e, a, b⟩ := x
  exact ⟨f, g, d, e, ha _ a, hb _ b⟩
theorem sp_swap {A B C : HP} {h : Hp} (x : sp A (sp B C) h) : sp B (sp A C) h :=
  sp_assoc (sp_mono (sp_assoc' x) (fun _ => sp_comm) (fun _ => id))
theorem sp_emp {A : HP} {h : Hp} (x : sp emp A h) : A h := by
  obtain ⟨f, g, d, rfl, a, b⟩ := x
  have : f.or g = g := by funext c; unfold Hp.or; rw [a c]; rfl
  rw [this]; exact b
theorem emp_sp {A : HP} {h : Hp} (x : A h) : sp emp A h :=
  ⟨fun _ => none, h, fun _ => .inl rfl, by funext c; simp [Hp.or], fun _ => rfl, x⟩

theorem seps_app {L M : List HP} {h : Hp} : seps (L ++ M) h ↔ sp (seps L) (seps M) h := by
  induction L generalizing h with
  | nil => exact ⟨emp_sp, sp_emp⟩
  | cons A L ih =>
    constructor
    · intro x
      exact sp_assoc' (sp_mono (A := A) (B := seps (L ++ M)) x (fun _ => id) fun _ => ih.1)
    · intro x
      exact sp_mono (sp_assoc (A := A) x) (fun _ => id) fun _ => ih.2

/-! ### lists -/
def pullL : Nat → List HP → List HP
  | 0, L => L
  | _ + 1, [] => []
  | n + 1, A :: L => match pullL n L with
    | [] => [A]
    | B :: M => B :: A :: M
theorem seps_pull : ∀ {n : Nat} {L : List HP} {h : Hp}, seps L h → seps (pullL n L) h
  | 0, _, _, x => x
  | _ + 1, [], _, x => x
  | n + 1, A :: L, h, x => by
    have y : sp A (seps (pullL n L)) h := sp_mono x (fun _ => id) fun _ => seps_pull
    unfold pullL
    split
    · rename_i e; rw [e] at y; exact y
    · rename_i B M e; rw [e] at y; exact sp_swap y
theorem Sat.pull {w : World} {L : List HP} (n : Nat) (h : Sat w L) : Sat w (pullL n L) := by
  obtain ⟨g, i, x⟩ := h; exact ⟨g, i, seps_pull x⟩
theorem Sat.drop {w : World} {A : HP} {L : List HP} (h : Sat w (A :: L)) : Sat w L := by
  obtain ⟨g, i, f, k, d, rfl, _, b⟩ := h
  exact ⟨k, i.right d, b⟩
theorem Sat.nil (w : World) : Sat w [] := ⟨fun _ => none, ⟨fun _ _ e => (by simp at e), fun _ _ e => (by simp at e)⟩, fun _ => rfl⟩
theorem Sat.mono {w : World} {A B : HP} {L : List HP} (h : Sat w (A :: L)) (k : ∀ g, A g → B g) : Sat w (B :: L) := by
  obtain ⟨g, i, x⟩ := h
  exact ⟨g, i, sp_mono (A := A) x k fun _ => id⟩
theorem Sat.sep {w : World} {A B : HP} {L : List HP} : Sat w (sp A B :: L) ↔ Sat w (A :: B :: L) :=
  ⟨fun ⟨g, i, x⟩ => ⟨g, i, sp_assoc x⟩, fun ⟨g, i, x⟩ => ⟨g, i, sp_assoc' x⟩⟩
theorem Sat.seps {w : World} {M L : List HP} : Sat w (seps M :: L) ↔ Sat w (M ++ L) :=
  ⟨fun ⟨g, i, x⟩ => ⟨g, i, seps_app.2 x⟩, fun ⟨g, i, x⟩ => ⟨g, i, seps_app.1 x⟩⟩
theorem Sat.ex {α : Sort _} {w : World} {A : α → HP} {L : List HP} : Sat w (ex A :: L) ↔ ∃ a, Sat w (A a :: L) :=
  ⟨fun ⟨g, i, f, k, d, e, ⟨a, x⟩, y⟩ => ⟨a, g, i, f, k, d, e, x, y⟩, fun ⟨a, g, i, f, k, d, e, x, y⟩ => ⟨g, i, f, k, d, e, ⟨a, x⟩, y⟩⟩
theorem Sat.pur {w : World} {p : Prop} {L : List HP} : Sat w (pur p :: L) ↔ p ∧ Sat w L :=
  ⟨fun ⟨g, i, x⟩ => by
    obtain ⟨f, k, d, e, ⟨hp, a⟩, b⟩ := x
    exact ⟨hp, g, i, sp_emp ⟨f, k, d, e, a, b⟩⟩, fun ⟨hp, g, i, x⟩ => ⟨g, i, sp_mono (emp_sp x) (fun _ a => ⟨hp, a⟩) fun _ => id⟩⟩
theorem Sat.emp {w : World} {L : List HP} : Sat w (emp :: L) ↔ Sat w L := by
  refine ⟨Sat.drop, fun ⟨g, i, x⟩ => ⟨g, i, emp_sp x⟩⟩
theorem Sat.app {w : World} {M L : List HP} (h : Sat w (M ++ L)) : Sat w L := by
  induction M with
  | nil => exact h
  | cons A M ih => exact ih h.drop

/-! ### memory -/
theorem one_get {b : Nat} {o : Obj} {w : World} {L : List HP} (h : Sat w (one b o :: L)) : w.heap[b]? = some o := by
  obtain ⟨g, i, f, k, d, rfl, ⟨_, rfl⟩, _⟩ := h
  exact i.left.m b o (by simp [oneH])
theorem get_lt {w : World} {b : Nat} {o : Obj} (h : w.heap[b]? = some o) : b < w.heap.size := by
  rcases Nat.lt_or_ge b w.heap.size with h1 | h1
  · exact h1
  · rw [Array.getElem?_eq_none h1] at h; cases h
theorem Sat.lt {b : Nat} {o : Obj} {w : World} {L : List HP} (h : Sat w (one b o :: L)) : b < w.heap.size := get_lt (one_get h)
/-- beside memory nothing is turned -/
structure Same (w w' : World) : Prop where
  os : w'.os = w.os
  out : w'.output = w.output
theorem heapIn_of {h : Hp} {w w' : World} (i : h.In w) (hk : ∀ b, h (.inl b) ≠ none → w'.heap[b]? = w.heap[b]?) (hr : ∀ W, RelW W w → RelW W w') : h.In w' :=
  ⟨fun b o e => by rw [hk b (by rw [e]; simp)]; exact i.m b o e, fun W o e => hr W (i.r W o e)⟩
/-- another object in a block's place -/
theorem Sat.upd {b : Nat} {o o' : Obj} {w w' : World} {L : List HP} (h : Sat w (one b o :: L)) (hb : w'.heap[b]? = some o') (hk : ∀ c, c ≠ b → w'.heap[c]? = w.heap[c]?) (hs : Same w w') (ho : nfz o') :
    Sat w' (one b o' :: L) := by
  have hlt := Sat.lt h
  have hsz : w.heap.size = w'.heap.size := by
    rcases Nat.lt_trichotomy w.heap.size w'.heap.size with h1 | h1 | h1
    · have h2 := hk w.heap.size (by omega)
      rw [Array.getElem?_eq_none (Nat.le_refl _), Array.getElem?_eq_getElem h1] at h2; cases h2
    · exact h1
    · by_cases e : w'.heap.size = b
      · rw [Array.getElem?_eq_none (by omega)] at hb; cases hb
      · have h2 := hk w'.heap.size e
        rw [Array.getElem?_eq_none (Nat.le_refl _), Array.getElem?_eq_getElem h1] at h2; cases h2
  obtain ⟨g, i, f, k, d, rfl, ⟨_, rfl⟩, y⟩ := h
  have hd : (oneH b o').Dj k := fun c => by
    cases c with
    | inr W => exact .inl rfl
    | inl c =>
      by_cases e : c = b
      · right
        rcases d (.inl c) with h1 | h1
        · subst e; simp [oneH] at h1
        · exact h1
      · left; simp [oneH, e]
  have hr : ∀ W, RelW W w → RelW W w' := fun W r => by
    exact ⟨hs.os.trans r.os, hs.out.trans r.out, by rw [← hsz]; exact r.size⟩
  refine ⟨(oneH b o').or k, Hp.In.or ⟨?_, fun W x e => by cases e⟩ ?_, oneH b o', k, hd, rfl, ⟨ho, rfl⟩, y⟩
  · intro c x e
    simp only [oneH] at e
    split at e
    · rename_i e1; subst e1; cases e; exact hb
    · cases e
  · refine heapIn_of (i.right d) (fun c hc => hk c ?_) hr
    rintro rfl
    rcases d (.inl c) with h1 | h1
    · simp [oneH] at h1
    · exact hc h1
theorem Sat.keep {w w' : World} {L : List HP} (h : Sat w L) (hk : w'.heap = w.heap) (hs : Same w w') : Sat w' L := by
  obtain ⟨g, i, x⟩ := h
  refine ⟨g, heapIn_of i (fun c hc => by rw [hk]) fun W r => ?_, x⟩
  exact ⟨hs.os.trans r.os, hs.out.trans r.out, by rw [hk]; exact r.size⟩
theorem Sat.allocO {w : World} {L : List HP} (h : Sat w L) (o : Obj) (ho : nfz o) : Sat (w.alloc o) (one w.heap.size o :: L) := by
  obtain ⟨g, i, x⟩ := h
  have hg : g (.inl w.heap.size) = none := by
    cases e : g (.inl w.heap.size) with
    | none => rfl
    | some y => have := i.m _ _ e; simp at this
  have hd : (oneH w.heap.size o).Dj g := fun c => by
    cases c with
    | inr W => exact .inl rfl
    | inl c =>
      by_cases e : c = w.heap.size
      · right; rw [e]; exact hg
      · left; simp [oneH, e]
  refine ⟨(oneH w.heap.size o).or g, Hp.In.or ⟨?_, fun W x e => by cases e⟩ ?_, _, g, hd, rfl, ⟨ho, rfl⟩, x⟩
  · intro c y e
    simp only [oneH] at e
    split at e
    · rename_i e1; subst e1; cases e; show (w.heap.push o)[w.heap.size]? = _; simp
    · cases e
  · refine heapIn_of i (fun c hc => ?_) fun W r => ⟨r.os, r.out, ?_⟩
    · have hlt : c < w.heap.size := by
        cases e : g (.inl c) with
        | none => exact absurd e hc
        | some y => exact get_lt (i.m c y e)
      show (w.heap.push o)[c]? = _; simp [Array.getElem?_push, Nat.ne_of_lt hlt]
    · have := r.size
      show W.heap.size ≤ (w.heap.push o).size
      rw [Array.size_push]; omega
/-- a call begins -/
theorem Sat.start (W : World) : Sat W [Start W] := by
  classical
  have r : RelW W W := ⟨rfl, rfl, Nat.le_refl _⟩
  let g : Hp := fun c => match c with | .inl b => W.heap[b]? | .inr V => if RelW V W then some (.cells #[] 0) else none
  refine ⟨g, ⟨fun b o h => h, fun V o h => ?_⟩, ?_⟩
  · simp only [g] at h
    split at h
    · assumption
    · cases h
  · exact ⟨g, fun _ => none, fun b => .inr rfl, by funext c; unfold Hp.or; simp, ⟨fun b o (h : W.heap[b]? = some o) => h, .cells #[] 0, by simp [g, r]⟩, fun _ => rfl⟩
theorem Sat.end {W w : World} {L : List HP} (h : Sat w (Start W :: L)) : RelW W w ∧ ∀ (b : Nat) (o : Obj), W.heap[b]? = some o → w.heap[b]? = some o := by
  obtain ⟨g, i, f, k, d, rfl, ⟨h1, o, h2⟩, _⟩ := h
  exact ⟨i.left.r W o h2, fun b o h => i.left.m b o (h1 b o h)⟩
theorem Sat.alloc {w : World} {L : List HP} (h : Sat w L) (cs : Array Value) (t : TypeId) : Sat (w.alloc (.cells cs t)) (blk w.heap.size cs.toList :: L) :=
  Sat.ex.2 ⟨t, by simpa using h.allocO (.cells cs t) rfl⟩
theorem Sat.drew {w : World} {L : List HP} (h : Sat w L) : Sat w.drew L := h.keep rfl ⟨rfl, rfl⟩

theorem Sat.ld {w : World} {L : List HP} {b : Nat} {cs : List Value} (h : Sat w (blk b cs :: L)) (o : Nat) : w.cell? ⟨b, o, none⟩ = cs[o]? := by
  obtain ⟨t, h⟩ := Sat.ex.1 h
  simp [World.cell?, one_get h]
theorem Sat.fz {w : World} {L : List HP} {b : Nat} {cs : List Value} (h : Sat w (blk b cs :: L)) (o : Nat) : w.frozen? ⟨b, o, none⟩ = false := by
  obtain ⟨t, h⟩ := Sat.ex.1 h
  simp [World.frozen?, one_get h]
theorem Sat.setCell {w : World} {L : List HP} {b : Nat} {cs : List Value} (h : Sat w (blk b cs :: L)) (o : Nat) (v : Value) : Sat (w.setCell ⟨b, o, none⟩ v) (blk b (cs.set o v) :: L) := by
  obtain ⟨t, h⟩ := Sat.ex.1 h
  refine Sat.ex.2 ⟨t, h.upd ?_ ?_ ?_ ?_⟩
  · have := one_get h
    simp [World.setCell, Array.getElem?_modify, this]
  · intro c hc
    simp [World.setCell, Array.getElem?_modify, Ne.symm hc]
  · exact ⟨rfl, rfl⟩
  · rfl
/-- the rules for the typed forms -/
theorem Sat.al {w : World} {L : List HP} {cs : Array Value} {t : TypeId} {K : Nat → World → Prop} (h : Sat w L) (k : ∀ r w1, Sat w1 (blk r cs.toList :: L) → K r w1) : alP w cs t K :=
  k _ _ (h.alloc cs t)
theorem Sat.dr {w : World} {L : List HP} {K : World → Prop} (h : Sat w L) (k : ∀ w1, Sat w1 L → K w1) : drP w K := k _ h.drew
theorem Sat.st {w : World} {L : List HP} {b o : Nat} {cs : List Value} {v : Value} {K : World → Prop} (h : Sat w (blk b cs :: L)) (ho : o < cs.length) (k : ∀ w1, Sat w1 (blk b (cs.set o v) :: L) → K w1) : stP w b o v K :=
  ⟨⟨⟨cs[o], by rw [h.ld]; simp [ho]⟩, h.fz o⟩, k _ (h.setCell o v)⟩
def setsAt (cs : List Value) : Nat → List Value → List Value
  | _, [] => cs
  | o, v :: vs => setsAt (cs.set o v) (o + 1) vs
theorem setsAt_eq : ∀ {vs cs : List Value} {o : Nat}, o + vs.length ≤ cs.length → setsAt cs o vs = cs.take o ++ vs ++ cs.drop (o + vs.length)
  | [], cs, o, h => by simp [setsAt]
  | v :: vs, cs, o, h => by
    simp only [List.length_cons] at h
    rw [setsAt, setsAt_eq (by simp; omega)]
    apply List.ext_getElem?
    intro i
    simp only [List.getElem?_append, List.length_append, List.length_take, List.length_set, List.getElem?_take, List.getElem?_drop, List.getElem?_set, List.length_cons]
    have h1 : min (o + 1) cs.length = o + 1 := by omega
    have h2 : min o cs.length = o := by omega
    simp only [h1, h2]
    by_cases ha : i < o
    · simp [show i < o + 1 + vs.length by omega, show i < o + 1 by omega, ha, show ¬ o = i by omega, show i < o + (vs.length + 1) by omega]
    · by_cases hb : i = o
      · subst hb
        simp [show i < i + 1 + vs.length by omega, show i < cs.length by omega]
      · by_cases hc : i < o + 1 + vs.length
        · obtain ⟨k, rfl⟩ : ∃ k, i = o + 1 + k := ⟨i - o - 1, by omega⟩
          simp [show o + 1 + k < o + 1 + vs.length by omega, show ¬ o + 1 + k < o + 1 by omega, show ¬ o + 1 + k < o by omega, show o + 1 + k < o + (vs.length + 1) by omega, show o + 1 + k - o = k + 1 by omega]
        · simp [hc, show ¬ i < o + (vs.length + 1) by omega, show o + 1 + vs.length + (i - (o + 1 + vs.length)) = i by omega, show o + (vs.length + 1) + (i - (o + (vs.length + 1))) = i by omega, show ¬ o = i by omega]
theorem Sat.stC {L : List HP} {b : Nat} {K : World → Prop} : ∀ {vs : List Value} {o : Nat} {cs : List Value} {w : World}, Sat w (blk b cs :: L) → o + vs.length ≤ cs.length → (∀ v ∈ vs, v.oneCell' = true) →
    (∀ w1, Sat w1 (blk b (setsAt cs o vs) :: L) → K w1) → stCs b o vs w K
  | [], o, cs, w, h, _, _, k => k w h
  | v :: vs, o, cs, w, h, ho, hv, k => by
    simp only [List.length_cons] at ho
    have hc : canSt w b o := ⟨⟨cs[o]'(by omega), by rw [h.ld]; simp⟩, h.fz o⟩
    have h1 := hv v List.mem_cons_self
    have : ∀ {p : Prop}, p → stOne v p := fun hp => by
      unfold stOne; split <;> first | exact hp | (simp [Value.oneCell'] at h1)
    exact this ⟨hc, Sat.stC (h.setCell o v) (by simp; omega) (fun u hu => hv u (List.mem_cons_of_mem _ hu)) k⟩
theorem cellsAre_of {w : World} {L : List HP} {b : Nat} {cs : List Value} (h : Sat w (blk b cs :: L)) : ∀ {us : List Value} {o : Nat}, (∀ j u, us[j]? = some u → cs[o + j]? = some u) → cellsAre w b o us
  | [], _, _ => trivial
  | u :: us, o, hs => ⟨by rw [h.ld]; exact hs 0 u rfl, cellsAre_of h fun j v hj => by
      have := hs (j + 1) v (by simpa using hj)
      rw [show o + 1 + j = o + (j + 1) by omega]; exact this⟩

/-- two blocks are not one -/
theorem Sat.ne {w : World} {L : List HP} {a b : Nat} {cs ds : List Value} (h : Sat w (blk a cs :: blk b ds :: L)) : a ≠ b := by
  obtain ⟨t, h⟩ := Sat.ex.1 h
  have h2 := (h.pull 1)
  simp only [pullL] at h2
  obtain ⟨u, h2⟩ := Sat.ex.1 h2
  obtain ⟨g, i, f, k, d, rfl, ⟨_, rfl⟩, f2, k2, d2, rfl, ⟨_, rfl⟩, z⟩ := h2
  rintro rfl
  rcases d (.inl a) with e | e
  · simp [oneH] at e
  · unfold Hp.or at e; simp [oneH] at e
end Go.St

