import Derived.Test.YtcipamclhpcaaaaGreatDoorStF
import Derived.Laws.NewBlocks
/- St core, part E: 'rdOp' and 'efOp'. -/
namespace Go.St
open Go

/-- Does the operation leave the world as it is (whatever it is given)? -/
def isRd (P : Program) (o : Op) : Bool :=
  match o with
  | .move _ | .assign _ | .pick _ _ _ | .nilCheck _ | .binOp _ _ _ _ _ | .unOp _ _ _ | .makeInterface _ _ | .makeFunc _ _ _ | .slice _ _ _ _ _ | .fieldAddr _ _ _ | .field _ _ _
  | .indexAddr _ _ _ | .index _ _ _ | .extract _ _ | .load _ _ | .build _ _ => true
  | .convert _ d _ => isIntT P d
  | .call c => match c.callee with
    | .builtin b => match b with
      | .len | .cap | .max | .min => true
      | _ => false
    | _ => false
  | _ => false

abbrev KV := Value → Seen → Prop
def pv (K : KV) : Value → Prop := fun v => K v none

def rdOp (P : Program) (o : Op) (fr : Fr) (w : World) (K : KV) : Prop :=
  match o with
  | .move x => K (ev fr x) none
  | .assign x => K (ev fr x) none
  | .pick c a b => match ev fr c with
    | .bool t => cond t (K (ev fr a) none) (K (ev fr b) none)
    | _ => False
  | .nilCheck x => nnVal (ev fr x) (pv K)
  | .binOp op t x y _ => binP P op t y (ev fr x) (ev fr y) (pv K)
  | .unOp op _ x => unP op (ev fr x) (pv K)
  | .convert s d x => cvP P s d (ev fr x) (pv K)
  | .makeInterface t x => mkiP P t (ev fr x) (pv K)
  | .makeFunc f a b => K (.func f (a.toList.map (ev fr)).toArray (b.toList.map (ev fr)).toArray) none
  | .slice t x lo hi mx => slcP P t (ev fr x) (lo.map (ev fr)) (hi.map (ev fr)) (mx.map (ev fr)) (pv K)
  | .fieldAddr s x f => atP (ev fr x) fun b o => match fieldOff P s f with
    | some k => K (.pointer (some ⟨b, o + k, none⟩)) none
    | none => False
  | .field t x f => fldP P t (ev fr x) f (pv K)
  | .indexAddr t x i => idxP P t (ev fr x) (ev fr i) (pv K)
  | .index t x i => indP P t (ev fr x) (ev fr i) (pv K)
  | .extract t i => extP (ev fr t) i (pv K)
  | .load t a => atP (ev fr a) fun b o => ldT P t w b o K
  | .build t ps => bldT P t (ps.toList.map fun (i, x) => (i, ev fr x)) (pv K)
  | .call c => match c.callee with
    | .builtin b => match b with
      | .len => match c.argTypes[0]? with
        | some t => match c.args.toList with
          | [x] => lenP P t (ev fr x) (pv K)
          | _ => False
        | none => False
      | .cap => match c.argTypes[0]? with
        | some t => match c.args.toList with
          | [x] => capP P t (ev fr x) (pv K)
          | _ => False
        | none => False
      | .max => mmP true (c.args.toList.map (ev fr)) (pv K)
      | .min => mmP false (c.args.toList.map (ev fr)) (pv K)
      | _ => False
    | _ => False
  | _ => False

theorem mapArr {α β : Type} (f : α → β) (a : Array α) : (a.toList.map f).toArray = a.map f := by
  rw [← Array.toList_inj]; simp
theorem andThen_assoc {α β γ : Type} (x : Result α) (f : α → World → Result β) (g : β → World → Result γ) :
    (x.andThen f).andThen g = x.andThen fun a w => (f a w).andThen g := by cases x <;> rfl

theorem rdOp_sound {P : Program} {o : Oper} {fr : Fr} {w : World} {K : KV} (h : rdOp P o.op fr w K) :
    ∃ v C, K v C ∧ heldC w C ∧ ∀ w', heldC w' C → (execOp (ev fr) o).run P w' = .ok (.value v) w' := by
  obtain ⟨dst, op, ty, pos, after, guard⟩ := o
  have pure1 : ∀ {s : Sem Value} {f : Op → Prop}, (∃ v, pv K v ∧ ∀ w', s.run P w' = .ok v w') → (∀ w', (execOp (ev fr) ⟨dst, op, ty, pos, after, guard⟩).run P w' = (s.run P w').andThen fun v w => .ok (.value v) w) →
      ∃ v C, K v C ∧ heldC w C ∧ ∀ w', heldC w' C → (execOp (ev fr) ⟨dst, op, ty, pos, after, guard⟩).run P w' = .ok (.value v) w' := by
    rintro s _ ⟨v, hk, hr⟩ he
    exact ⟨v, none, hk, trivial, fun w' _ => by rw [he, hr]; rfl⟩
  cases op <;> simp only [rdOp] at h
  case move x => exact ⟨_, _, h, trivial, fun _ _ => rfl⟩
  case assign x => exact ⟨_, _, h, trivial, fun _ _ => rfl⟩
  case pick c a b =>
    split at h
    · rename_i t ht
      cases t
      · exact ⟨_, _, h, trivial, fun _ _ => by simp [execOp, ht, asBool]⟩
      · exact ⟨_, _, h, trivial, fun _ _ => by simp [execOp, ht, asBool]⟩
    · exact h.elim
  case nilCheck x =>
    obtain ⟨hk, hv⟩ := h.out
    refine ⟨_, _, hk, trivial, fun w' _ => ?_⟩
    rcases hv with ⟨b, o, hv⟩ | ⟨t, x', hv⟩ | ⟨g, s, c, hv⟩ | ⟨g, s, c, hv⟩ <;> simp [execOp, hv]
  case binOp op t x y yt => exact pure1 (f := fun _ => True) (binP_sound (x := x) h) fun w' => by simp [execOp, andThen_assoc]
  case unOp op t x => exact pure1 (f := fun _ => True) (unP_sound h) fun w' => by simp [execOp]
  case convert s d x => exact pure1 (f := fun _ => True) (cvP_sound h) fun w' => by simp [execOp]
  case makeInterface t x => exact pure1 (f := fun _ => True) (mkiP_sound h) fun w' => by simp [execOp]
  case makeFunc f a b => exact ⟨_, _, h, trivial, fun w' _ => by simp [execOp, Instr.makeFunc, mapArr]⟩
  case slice t x lo hi mx => exact pure1 (f := fun _ => True) (slcP_sound h) fun w' => by simp [execOp]
  case fieldAddr s x f =>
    obtain ⟨b, o, hx, h⟩ := h.out
    split at h
    · rename_i k hk
      exact ⟨_, _, h, trivial, fun w' _ => by simp [execOp, hx, fieldOff_sound hk]⟩
    · exact h.elim
  case field t x f => exact pure1 (f := fun _ => True) (fldP_sound h) fun w' => by simp [execOp]
  case indexAddr t x i => exact pure1 (f := fun _ => True) (idxP_sound h) fun w' => by simp [execOp]
  case index t x i => exact pure1 (f := fun _ => True) (indP_sound h) fun w' => by simp [execOp]
  case extract t i => exact pure1 (f := fun _ => True) (extP_sound h) fun w' => by simp [execOp]
  case load t a =>
    obtain ⟨b, o, ha, h⟩ := h.out
    obtain ⟨v, C, hk, hc, hr⟩ := ldT_sound h
    exact ⟨v, C, hk, hc, fun w' hw => by simp [execOp, ha, Instr.loadAt, Instr.sureAddr, hr w' hw]⟩
  case build t ps =>
    refine pure1 (f := fun _ => True) (bldT_sound h) fun w' => ?_
    rw [mapArr]
    simp [execOp]
  case call c =>
    obtain ⟨callee, args, ats⟩ := c
    split at h
    · rename_i b hb
      simp only at hb
      subst hb
      split at h
      · split at h
        · rename_i t ht
          split at h
          · rename_i x hx
            have ha : args = #[x] := by rw [← Array.toList_inj]; simpa using hx
            subst ha
            exact pure1 (f := fun _ => True) (lenP_sound (ty := ty) ht h) fun w' => by simp [execOp, resolve, invoke, builtin]
          · exact h.elim
        · exact h.elim
      · split at h
        · rename_i t ht
          split at h
          · rename_i x hx
            have ha : args = #[x] := by rw [← Array.toList_inj]; simpa using hx
            subst ha
            exact pure1 (f := fun _ => True) (capP_sound (ty := ty) ht h) fun w' => by simp [execOp, resolve, invoke, builtin]
          · exact h.elim
        · exact h.elim
      · refine pure1 (f := fun _ => True) (mmP_sound (mx := true) (ts := ats) (ty := ty) h) fun w' => ?_
        simp [execOp, resolve, invoke, builtin, mapArr]
      · refine pure1 (f := fun _ => True) (mmP_sound (mx := false) (ts := ats) (ty := ty) h) fun w' => ?_
        simp [execOp, resolve, invoke, builtin, mapArr]
      · exact h.elim
    · exact h.elim
end Go.St

