import Derived.Test.YtcipamclhpcaaaaGreatDoorStA
import Derived.Laws.Sem
import Derived.Laws.Cells
import Derived.Laws.Slices
import Derived.Laws.StructEq
import Derived.Laws.Small
import Derived.Laws.Build
/- St core, part B: reads: operations that leave the world as it is. -/
namespace Go.St
open Go

/-! ### typed existentials -/
def exTy (z : Value) (F : Value → Prop) : Prop :=
  match z with
  | .int k _ => ∃ n : Int, F (.int k n)
  | .bool _ => ∃ b : Bool, F (.bool b)
  | .string _ => ∃ s : ByteArray, F (.string s)
  | .pointer _ => ∃ p : Option Addr, F (.pointer p)
  | .slice _ _ _ => ∃ (a : Option Addr) (l c : Nat), F (.slice a l c)
  | _ => ∃ v, F v
def exTys : List Value → (List Value → Prop) → Prop
  | [], F => F []
  | z :: zs, F => exTy z fun u => exTys zs fun us => F (u :: us)
theorem exTy.out {z : Value} {F : Value → Prop} (h : exTy z F) : ∃ v, F v := by
  unfold exTy at h
  split at h <;> first | (obtain ⟨x, h⟩ := h; exact ⟨_, h⟩) | (obtain ⟨a, l, c, h⟩ := h; exact ⟨_, h⟩)
theorem exTy.mono {z : Value} {F G : Value → Prop} (h : exTy z F) (hg : ∀ v, F v → G v) : exTy z G := by
  unfold exTy at *
  split at h <;> first | (obtain ⟨x, h⟩ := h; exact ⟨x, hg _ h⟩) | (obtain ⟨a, l, c, h⟩ := h; exact ⟨a, l, c, hg _ h⟩)
theorem exTys.out {zs : List Value} {F : List Value → Prop} (h : exTys zs F) : ∃ us, us.length = zs.length ∧ F us := by
  induction zs generalizing F with
  | nil => exact ⟨[], rfl, h⟩
  | cons z zs ih =>
    obtain ⟨u, h⟩ := exTy.out h
    obtain ⟨us, hl, h⟩ := ih h
    exact ⟨u :: us, by simp [hl], h⟩
theorem exTys.mono {zs : List Value} {F G : List Value → Prop} (h : exTys zs F) (hg : ∀ v, F v → G v) : exTys zs G := by
  induction zs generalizing F G with
  | nil => exact hg _ h
  | cons z zs ih => exact exTy.mono h fun u h => ih h fun us h => hg _ h

inductive TyI where
  | one (z : Value)
  | many (zs : List Value)
def chk {α : Type} (n m : Nat) (x : α) : Option α := cond (Nat.beq n m) (some x) none
theorem chk_some {α : Type} {n m : Nat} {x y : α} (h : chk n m x = some y) : n = m ∧ x = y := by
  unfold chk at h
  cases hb : Nat.beq n m
  · rw [hb] at h; cases h
  · rw [hb] at h; exact ⟨Nat.eq_of_beq_eq_true hb, by simpa using h⟩
def tyOf (P : Program) (t : TypeId) : Option TyI :=
  match P.underlying t with
  | none => none
  | some d =>
    match P.info? t with
    | none => none
    | some i =>
      match d with
      | .struct _ => match i.zero with
        | some (.agg zs) => chk zs.toList.length i.size (.many zs.toList)
        | _ => none
      | .array _ _ => match i.zero with
        | some (.agg zs) => chk zs.toList.length i.size (.many zs.toList)
        | _ => none
      | _ => match i.zero with
        | some z => chk i.size 1 (.one z)
        | none => none
def exTyI (t : TyI) (F : Value → Prop) : Prop :=
  match t with
  | .one z => exTy z F
  | .many zs => exTys zs fun us => F (.agg us.toArray)
def exTyL (P : Program) : List TypeId → (List Value → Prop) → Prop
  | [], F => F []
  | t :: ts, F => match tyOf P t with
    | some ty => exTyI ty fun u => exTyL P ts fun us => F (u :: us)
    | none => ∃ u, exTyL P ts fun us => F (u :: us)
/-- A value of a call's result type, its shape laid open. -/
def exOut (P : Program) (t : TypeId) (F : Value → Prop) : Prop :=
  match P.underlying t with
  | some (.tuple ts) => exTyL P ts.toList fun us => F (.tuple us.toArray)
  | _ => match tyOf P t with
    | some ty => exTyI ty F
    | none => ∃ v, F v
theorem exTyI.out {t : TyI} {F : Value → Prop} (h : exTyI t F) : ∃ v, F v := by
  cases t with
  | one z => exact exTy.out h
  | many zs => obtain ⟨us, _, h⟩ := exTys.out h; exact ⟨_, h⟩
theorem exTyI.mono {t : TyI} {F G : Value → Prop} (h : exTyI t F) (hg : ∀ v, F v → G v) : exTyI t G := by
  cases t with
  | one z => exact exTy.mono h hg
  | many zs => exact exTys.mono h fun _ h => hg _ h
theorem exTyL.out {P : Program} {ts : List TypeId} {F : List Value → Prop} (h : exTyL P ts F) : ∃ us, F us := by
  induction ts generalizing F with
  | nil => exact ⟨[], h⟩
  | cons t ts ih =>
    unfold exTyL at h
    split at h
    · obtain ⟨u, h⟩ := exTyI.out h
      obtain ⟨us, h⟩ := ih h
      exact ⟨_, h⟩
    · obtain ⟨u, h⟩ := h
      obtain ⟨us, h⟩ := ih h
      exact ⟨_, h⟩
theorem exTyL.mono {P : Program} {ts : List TypeId} {F G : List Value → Prop} (h : exTyL P ts F) (hg : ∀ v, F v → G v) : exTyL P ts G := by
  induction ts generalizing F G with
  | nil => exact hg _ h
  | cons t ts ih =>
    simp only [exTyL] at *
    split at h
    · exact exTyI.mono h fun u h => ih (G := fun us => G (u :: us)) h fun us h => hg _ h
    · obtain ⟨u, h⟩ := h
      exact ⟨u, ih (G := fun us => G (u :: us)) h fun us h => hg _ h⟩
theorem exOut.out {P : Program} {t : TypeId} {F : Value → Prop} (h : exOut P t F) : ∃ v, F v := by
  unfold exOut at h
  split at h
  · obtain ⟨us, h⟩ := exTyL.out h; exact ⟨_, h⟩
  · split at h
    · exact exTyI.out h
    · exact h
theorem exOut.mono {P : Program} {t : TypeId} {F G : Value → Prop} (h : exOut P t F) (hg : ∀ v, F v → G v) : exOut P t G := by
  unfold exOut at *
  split at h
  · exact exTyL.mono h fun _ h => hg _ h
  · split at h
    · exact exTyI.mono h hg
    · obtain ⟨v, h⟩ := h; exact ⟨v, hg _ h⟩

/-! ### reads of memory -/
def cellsAre (w : World) (b o : Nat) : List Value → Prop
  | [] => True
  | u :: us => w.cell? ⟨b, o, none⟩ = some u ∧ cellsAre w b (o + 1) us
abbrev Seen := Option (Nat × Nat × List Value)
def heldC (w : World) : Seen → Prop
  | none => True
  | some (b, o, us) => cellsAre w b o us
def ldT (P : Program) (t : TypeId) (w : World) (b o : Nat) (K : Value → Seen → Prop) : Prop :=
  match tyOf P t with
  | some (.one z) => exTy z fun u => w.cell? ⟨b, o, none⟩ = some u ∧ K u (some (b, o, [u]))
  | some (.many zs) => exTys zs fun us => cellsAre w b o us ∧ K (.agg us.toArray) (some (b, o, us))
  | none => False

theorem cellsAre.get {w : World} {b : Nat} : ∀ {us : List Value} {o : Nat}, cellsAre w b o us → ∀ j v, us[j]? = some v → w.cell? ⟨b, o + j, none⟩ = some v
  | [], _, _, j, v, h => by simp at h
  | u :: us, o, hc, j, v, h => by
    cases j with
    | zero => simp at h; subst h; exact hc.1
    | succ j =>
      have := cellsAre.get hc.2 j v (by simpa using h)
      rw [show o + 1 + j = o + (j + 1) by omega] at this; exact this

theorem addr_add (b o n : Nat) : (⟨b, o, none⟩ : Addr).add n = ⟨b, o + n, none⟩ := by
  unfold Addr.add
  by_cases h : n = 0
  · subst h; simp
  · simp [h]

theorem run_underlying {P : Program} {t : TypeId} {d : TypeDesc} (h : P.underlying t = some d) (w : World) : (underlying t).run P w = .ok d w := by
  simp [underlying, h]
theorem run_typeInfo {P : Program} {t : TypeId} {i : TypeInfo} (h : P.info? t = some i) (w : World) : (typeInfo t).run P w = .ok i w := by
  simp [typeInfo, h]
theorem run_sizeOf {P : Program} {t : TypeId} {i : TypeInfo} (h : P.info? t = some i) (w : World) : (sizeOf t).run P w = .ok i.size w := by
  simp [sizeOf, run_typeInfo h]

theorem tyOf_one {P : Program} {t : TypeId} {z : Value} (h : tyOf P t = some (.one z)) (w : World) : (isAgg t).run P w = .ok false w := by
  unfold tyOf at h
  split at h
  · cases h
  · rename_i d hd
    split at h
    · cases h
    · rename_i i hi
      simp only [isAgg, Sem.run_bind, run_underlying hd, Result.andThen_ok]
      split at h
      · split at h
        · cases (chk_some h).2
        · cases h
      · split at h
        · cases (chk_some h).2
        · cases h
      · rename_i h1 h2
        cases d <;> first | rfl | (exact absurd rfl (h1 _)) | (exact absurd rfl (h2 _ _))
theorem tyOf_one_size {P : Program} {t : TypeId} {z : Value} (h : tyOf P t = some (.one z)) (w : World) : (sizeOf t).run P w = .ok 1 w ∧ ∃ i, P.info? t = some i ∧ i.size = 1 := by
  unfold tyOf at h
  split at h
  · cases h
  · rename_i d hd
    split at h
    · cases h
    · rename_i i hi
      suffices hs : i.size = 1 by exact ⟨by rw [run_sizeOf hi, hs], i, hi, hs⟩
      split at h
      · split at h
        · cases (chk_some h).2
        · cases h
      · split at h
        · cases (chk_some h).2
        · cases h
      · split at h
        · exact (chk_some h).1
        · cases h
theorem tyOf_many {P : Program} {t : TypeId} {zs : List Value} (h : tyOf P t = some (.many zs)) (w : World) : (isAgg t).run P w = .ok true w ∧ (sizeOf t).run P w = .ok zs.length w := by
  unfold tyOf at h
  split at h
  · cases h
  · rename_i d hd
    split at h
    · cases h
    · rename_i i hi
      simp only [isAgg, Sem.run_bind, run_underlying hd, Result.andThen_ok, run_sizeOf hi]
      split at h
      · split at h
        · obtain ⟨h1, h2⟩ := chk_some h
          cases h2
          exact ⟨rfl, by rw [h1]⟩
        · cases h
      · split at h
        · obtain ⟨h1, h2⟩ := chk_some h
          cases h2
          exact ⟨rfl, by rw [h1]⟩
        · cases h
      · split at h
        · cases (chk_some h).2
        · cases h

theorem run_loadVar_one {P : Program} {t : TypeId} {z u : Value} (h : tyOf P t = some (.one z)) {w : World} {b o : Nat} (hc : w.cell? ⟨b, o, none⟩ = some u) :
    (loadVar t ⟨b, o, none⟩).run P w = .ok u w := by
  simp [loadVar, tyOf_one h w, hc]
theorem run_loadVar_many {P : Program} {t : TypeId} {zs us : List Value} (h : tyOf P t = some (.many zs)) (hl : us.length = zs.length) {w : World} {b o : Nat} (hc : cellsAre w b o us) :
    (loadVar t ⟨b, o, none⟩).run P w = .ok (.agg us.toArray) w := by
  have hr := run_loadCells_list (P := P) (w := w) ⟨b, o, none⟩ us (fun j v hj => by rw [addr_add]; exact hc.get j v hj)
  simp [loadVar, (tyOf_many h w).1, (tyOf_many h w).2, ← hl, hr]

theorem ldT_sound {P : Program} {t : TypeId} {w : World} {b o : Nat} {K : Value → Seen → Prop} (h : ldT P t w b o K) :
    ∃ v C, K v C ∧ heldC w C ∧ ∀ w', heldC w' C → (loadVar t ⟨b, o, none⟩).run P w' = .ok v w' := by
  unfold ldT at h
  split at h
  · rename_i z hz
    obtain ⟨u, hc, hk⟩ := exTy.out h
    exact ⟨u, _, hk, ⟨hc, trivial⟩, fun w' hw => run_loadVar_one hz hw.1⟩
  · rename_i zs hz
    obtain ⟨us, hl, hc, hk⟩ := exTys.out h
    exact ⟨_, _, hk, hc, fun w' hw => run_loadVar_many hz hl hw⟩
  · exact h.elim

end Go.St

