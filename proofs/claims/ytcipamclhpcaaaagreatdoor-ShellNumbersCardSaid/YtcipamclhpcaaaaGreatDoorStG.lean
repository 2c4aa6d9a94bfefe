import Derived.Test.YtcipamclhpcaaaaGreatDoorStE
/- St core, part G: 'efOp', the effects; operations. -/
namespace Go.St
open Go

/-- A run that gives a value. -/
def runV (P : Program) (s : Sem Value) (w : World) (K : Value → World → Prop) : Prop :=
  match s.run P w with
  | .ok v w' => K v w'
  | _ => False
def InvV (P : Program) (recv : Value) (m : String) (args : Array Value) (w : World) (K : Value → World → Prop) : Prop :=
  upV P K ((callMethod recv m args).run P w)
def DynV (P : Program) (f : Value) (args : Array Value) (w : World) (K : Value → World → Prop) : Prop :=
  upV P K ((do let d ← Deferred.ofValue f args; invoke d.target d.args : Sem Next).run P w)
def AppV (P : Program) (ats : Array TypeId) (ty : TypeId) (s x : Value) (w : World) (K : Value → World → Prop) : Prop :=
  runV P (Builtin.append_ ats ty #[s, x]) w K
def CpyV (P : Program) (ats : Array TypeId) (ty : TypeId) (s x : Value) (w : World) (K : Value → World → Prop) : Prop :=
  runV P (Builtin.copy_ ats ty #[s, x]) w K
def ClrV (P : Program) (ats : Array TypeId) (ty : TypeId) (s : Value) (w : World) (K : Value → World → Prop) : Prop :=
  runV P (Builtin.clear_ ats ty #[s]) w K
def TasV (P : Program) (x : Value) (xt at_ : TypeId) (ok : Bool) (w : World) (K : Value → World → Prop) : Prop :=
  runV P (Instr.typeAssert x xt at_ ok) w K
def CnvV (P : Program) (src dst : TypeId) (x : Value) (w : World) (K : Value → World → Prop) : Prop :=
  runV P (convert src dst x) w K
theorem runV.out {P : Program} {s : Sem Value} {w : World} {K : Value → World → Prop} (h : runV P s w K) : ∃ v w', K v w' ∧ s.run P w = .ok v w' := by
  unfold runV at h
  split at h
  · exact ⟨_, _, h, ‹_›⟩
  · exact h.elim
theorem runV.mono {P : Program} {s : Sem Value} {w : World} {K K' : Value → World → Prop} (h : runV P s w K) (hk : ∀ v w', K v w' → K' v w') : runV P s w K' := by
  obtain ⟨v, w', hK, hr⟩ := h.out
  unfold runV; rw [hr]; exact hk _ _ hK

/-- May the function be called by its text? -/
def hasBody (P : Program) (f : FuncId) : Bool :=
  match P.funcs[f]? with
  | some fn => match fn.body with
    | some _ => true
    | none => false
  | none => false
def NoNumGo (P : Program) : Prop := ∀ (f : FuncId) (fn : Func), P.funcs[f]? = some fn → fn.name ≠ "runtime.NumGoroutine"

def outK (P : Program) (t : TypeId) (K : Value → World → Prop) : Value → World → Prop :=
  fun v w => exOut P t fun u => v = u ∧ K u w
theorem outK.out {P : Program} {t : TypeId} {K : Value → World → Prop} {v : Value} {w : World} (h : outK P t K v w) : K v w := by
  obtain ⟨u, rfl, h⟩ := exOut.out h; exact h
theorem outK.mono {P : Program} {t : TypeId} {K K' : Value → World → Prop} {v : Value} {w : World} (h : outK P t K v w) (hk : ∀ v w, K v w → K' v w) : outK P t K' v w :=
  exOut.mono h fun _ ⟨h1, h2⟩ => ⟨h1, hk _ _ h2⟩
/-- what a type assertion gives: with an 'ok', the pair -/
def tasK (P : Program) (ty at_ : TypeId) (ok : Bool) (K : Value → World → Prop) : Value → World → Prop :=
  match ok with
  | true => fun v w => exOut P at_ fun u => ∃ b : Bool, v = .tuple #[u, .bool b] ∧ K (.tuple #[u, .bool b]) w
  | false => outK P ty K
theorem tasK.out {P : Program} {ty at_ : TypeId} {ok : Bool} {K : Value → World → Prop} {v : Value} {w : World} (h : tasK P ty at_ ok K v w) : K v w := by
  cases ok
  · exact outK.out h
  · simp only [tasK] at h
    obtain ⟨u, b, e, h'⟩ := exOut.out h; subst e; exact h'
theorem tasK.mono {P : Program} {ty at_ : TypeId} {ok : Bool} {K K' : Value → World → Prop} {v : Value} {w : World} (h : tasK P ty at_ ok K v w) (hk : ∀ v w, K v w → K' v w) : tasK P ty at_ ok K' v w := by
  cases ok
  · exact outK.mono h hk
  · simp only [tasK] at h ⊢
    exact exOut.mono h fun _ ⟨b, h1, h2⟩ => ⟨b, h1, hk _ _ h2⟩

def efOp (P : Program) (o : Op) (ty : TypeId) (fr : Fr) (w : World) (K : Value → World → Prop) : Prop :=
  match o with
  | .store t a x => atP (ev fr a) fun b o => stT P t w b o (ev fr x) fun w' => K undef w'
  | .alloc t => match P.info? t with
    | none => False
    | some i => match i.zero with
      | none => False
      | some z => K (.pointer (some ⟨w.heap.size, 0, none⟩)) (w.alloc (.cells z.cells t))
  | .box t x => cellsP P t (ev fr x) fun cs => K (.pointer (some ⟨w.heap.size, 0, none⟩)) (w.alloc (.cells cs.toArray t))
  | .buildSlice t n ps => bslT P t n (ps.toList.map fun (i, x) => (i, ev fr x)) w K
  | .makeSlice t l c => mkS P t (ev fr l) (ev fr c) w K
  | .convert s d x => CnvV P s d (ev fr x) w (outK P ty K)
  | .typeAssert x xt at_ ok => TasV P (ev fr x) xt at_ ok w (tasK P ty at_ ok K)
  | .call c => match c.callee with
    | .value f => match f with
      | .func g => match hasBody P g with
        | true => CallsV P g (c.args.toList.map (ev fr)).toArray w (outK P ty K)
        | false => DynV P (.func (.func g) #[] #[]) (c.args.toList.map (ev fr)).toArray w (outK P ty K)
      | x => DynV P (ev fr x) (c.args.toList.map (ev fr)).toArray w (outK P ty K)
    | .invoke r m => InvV P (ev fr r) m (c.args.toList.map (ev fr)).toArray w (outK P ty K)
    | .builtin b => match b with
      | .append => match c.args.toList with
        | [s, x] => AppV P c.argTypes ty (ev fr s) (ev fr x) w (outK P ty K)
        | _ => False
      | .copy => match c.args.toList with
        | [s, x] => CpyV P c.argTypes ty (ev fr s) (ev fr x) w (outK P ty K)
        | _ => False
      | .clear => match c.args.toList with
        | [s] => ClrV P c.argTypes ty (ev fr s) w K
        | _ => False
      | _ => False
  | _ => False

theorem list2 {α : Type} {a : Array α} {x y : α} (h : a.toList = [x, y]) : a = #[x, y] := by rw [← Array.toList_inj]; simpa using h
theorem list1 {α : Type} {a : Array α} {x : α} (h : a.toList = [x]) : a = #[x] := by rw [← Array.toList_inj]; simpa using h

theorem efOp_sound {P : Program} (hP : NoNumGo P) {o : Oper} {fr : Fr} {w : World} {K : Value → World → Prop} (h : efOp P o.op o.type fr w K) :
    upV P K ((execOp (ev fr) o).run P w) := by
  obtain ⟨dst, op, ty, pos, after, guard⟩ := o
  have rv : ∀ {s : Sem Value} {K' : Value → World → Prop}, runV P s w K' → (∀ v w', K' v w' → K v w') → (execOp (ev fr) ⟨dst, op, ty, pos, after, guard⟩).run P w = (s.run P w).andThen (fun v w => .ok (.value v) w) →
      upV P K ((execOp (ev fr) ⟨dst, op, ty, pos, after, guard⟩).run P w) := by
    intro s K' hr hk he
    obtain ⟨v, w', hK, hr⟩ := hr.out
    rw [he, hr]; exact hk _ _ hK
  cases op <;> simp only [efOp] at h
  case store t a x =>
    obtain ⟨b, o, ha, h⟩ := h.out
    obtain ⟨w', hk, hr⟩ := stT_sound h
    simp only [execOp, Instr.storeAt, ha, Instr.sureAddr, Sem.run_bind, Sem.run_pure, Result.andThen_ok, hr]
    exact hk
  case alloc t =>
    split at h
    · exact h.elim
    · rename_i i hi
      split at h
      · exact h.elim
      · rename_i z hz
        simp [execOp, Instr.alloc, run_zeroValue hi hz, newVar, newRow]
        exact h
  case box t x =>
    obtain ⟨i, hi, hs, h⟩ := h.out
    simp only [Array.toArray_toList] at h
    simp [execOp, Instr.box, newVar, newRow]
    exact h
  case buildSlice t n ps =>
    obtain ⟨v, w', hk, hr⟩ := bslT_sound h
    rw [mapArr] at hr
    simp only [execOp, Sem.run_bind, hr, Result.andThen_ok]
    exact hk
  case makeSlice t l c =>
    obtain ⟨v, w', hk, hr⟩ := mkS_sound h
    simp only [execOp, Sem.run_bind, hr, Result.andThen_ok]
    exact hk
  case convert s d x => exact rv h (fun _ _ h => outK.out h) (by simp [execOp])
  case typeAssert x xt at_ ok => exact rv h (fun _ _ h => tasK.out h) (by simp [execOp])
  case call c =>
    obtain ⟨callee, args, ats⟩ := c
    split at h
    · rename_i f hf
      simp only at hf; subst hf
      split at h
      · rename_i g
        split at h
        · rename_i hb
          unfold hasBody at hb
          split at hb
          · rename_i fn hfn
            split at hb
            · rename_i body hbody
              have hn := hP g fn hfn
              have : (execOp (ev fr) ⟨dst, .call ⟨.value (.func g), args, ats⟩, ty, pos, after, guard⟩).run P w = .ok (.enter g (args.map (ev fr))) w := by
                simp [execOp, resolve, Deferred.ofValue, ev, invoke, callFunc, hfn, hn, hbody]
              rw [this]
              rw [mapArr] at h
              exact h.mono fun _ _ h => outK.out h
            · cases hb
          · cases hb
        · rw [mapArr] at h
          exact upV.mono h fun _ _ h => outK.out h
      · rw [mapArr] at h
        exact upV.mono h fun _ _ h => outK.out h
    · rename_i r m hf
      simp only at hf; subst hf
      rw [mapArr] at h
      have : (execOp (ev fr) ⟨dst, .call ⟨.invoke r m, args, ats⟩, ty, pos, after, guard⟩).run P w = (callMethod (ev fr r) m (args.map (ev fr))).run P w := by
        simp only [execOp, resolve, Sem.run_bind, Sem.run_pure, Result.andThen_ok, invoke]
        simp
        have e0 : (#[ev fr r] ++ Array.map (ev fr) args)[0]? = some (ev fr r) := by rw [Array.getElem?_append]; simp
        have e1 : (Array.map (ev fr) args).extract 0 args.size = Array.map (ev fr) args := by
          rw [show args.size = (Array.map (ev fr) args).size by simp]; simp
        rw [e0]; simp only [e1]
      rw [this]
      exact upV.mono h fun _ _ h => outK.out h
    · rename_i b hf
      simp only at hf; subst hf
      split at h
      · split at h
        · rename_i s x ha
          have := list2 ha; subst this
          exact rv h (fun _ _ h => outK.out h) (by simp [execOp, resolve, invoke, builtin])
        · exact h.elim
      · split at h
        · rename_i s x ha
          have := list2 ha; subst this
          exact rv h (fun _ _ h => outK.out h) (by simp [execOp, resolve, invoke, builtin])
        · exact h.elim
      · split at h
        · rename_i s ha
          have := list1 ha; subst this
          exact rv h (fun _ _ h => h) (by simp [execOp, resolve, invoke, builtin])
        · exact h.elim
      · exact h.elim
end Go.St

