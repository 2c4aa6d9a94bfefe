import Derived.RangeFuncLeaves
import Derived.OrdersIn
import Derived.Laws.World
import Derived.Laws.Rows
/- St core, part A: frames, the shallow reading of operations, its soundness at the machine's own run. -/
namespace Go.St
open Go

abbrev Fr := Nat → Value
def upd (f : Fr) (d : Nat) (v : Value) : Fr := fun t => cond (Nat.beq t d) v (f t)
def updO (f : Fr) : Option Nat → Value → Fr
  | some d, v => upd f d v
  | none, _ => f
def ev (f : Fr) : Operand → Value
  | .tmp t => f t
  | .const v => v
  | .global g => .pointer (some ⟨g, 0, none⟩)
  | .func g => .func (.func g) #[] #[]

theorem upd_same (f : Fr) (d : Nat) (v : Value) : upd f d v d = v := by simp [upd]
theorem upd_ne (f : Fr) {d t : Nat} (v : Value) (h : t ≠ d) : upd f d v t = f t := by
  have : Nat.beq t d = false := by
    cases hb : Nat.beq t d
    · rfl
    · exact absurd (Nat.eq_of_beq_eq_true hb) h
  simp [upd, this]
theorem upd_self (f : Fr) (d : Nat) (v : Value) (h : f d = v) : upd f d v = f := by
  funext t
  by_cases e : t = d
  · subst e; rw [upd_same, h]
  · rw [upd_ne f v e]

/-- The wide fence, in a round of a range over a function or in none. -/
def FW (r : Option Nat) : Fence := { fn := fun _ => True, depth := none, alive := false, round := r }

def CallsV (P : Program) (f : FuncId) (args : Array Value) (w : World) (K : Value → World → Prop) : Prop :=
  CallsIn (FW none) 0 P f args w fun e w' => ∃ v, e = .returned v ∧ K v w'
def RoundV (P : Program) (l : Nat) (f : FuncId) (tmps : Array Value) (assign body : Code) (w : World) (K : Value → World → Prop) : Prop :=
  RoundIn (FW none) 0 P l f tmps assign body w fun e w' => ∃ v, e = .returned v ∧ K v w'

theorem CallsV.mono {P : Program} {f : FuncId} {args : Array Value} {w : World} {K K' : Value → World → Prop} (h : CallsV P f args w K)
    (hk : ∀ v w', K v w' → K' v w') : CallsV P f args w K' :=
  ⟨h.1, fun cs hr => let ⟨e, w', fr, ⟨v, he, hK⟩, hc⟩ := h.2 cs hr; ⟨e, w', fr, ⟨v, he, hk _ _ hK⟩, hc⟩⟩
theorem RoundV.mono {P : Program} {l : Nat} {f : FuncId} {tmps : Array Value} {assign body : Code} {w : World} {K K' : Value → World → Prop}
    (h : RoundV P l f tmps assign body w K) (hk : ∀ v w', K v w' → K' v w') : RoundV P l f tmps assign body w K' :=
  RoundIn.mono h fun _ _ ⟨v, he, hK⟩ => ⟨v, he, hk _ _ hK⟩

/-- What an operation's run comes to. -/
def upV (P : Program) (K : Value → World → Prop) : Result Next → Prop
  | .ok (.value v) w => K v w
  | .ok .skip w => K undef w
  | .ok (.enter f args) w => CallsV P f args w K
  | .ok (.row row args) w => RowsIn (FW none) 0 P row args w K
  | .ok (.round l f tmps assign body) w => RoundV P l f tmps assign body w K
  | _ => False

theorem upV.mono {P : Program} {K K' : Value → World → Prop} {x : Result Next} (h : upV P K x) (hk : ∀ v w', K v w' → K' v w') : upV P K' x := by
  cases x with
  | ok n w =>
    cases n <;> simp only [upV] at h ⊢
    case value v => exact hk _ _ h
    case skip => exact hk _ _ h
    case enter f args => exact h.mono hk
    case row row args => exact h.mono hk
    case round l f tmps assign body => exact h.mono hk
  | halt h' w => exact h.elim

theorem fenced_FW (P : Program) (m : Machine) (r : Option Nat) : m.fenced P (FW r) := by
  intro g _
  refine ⟨fun h => ?_, Or.inl trivial, fun _ _ => trivial, fun _ h => ?_⟩
  · simp [FW] at h
  · simp [FW] at h
theorem room_FW (r : Option Nat) (n : Nat) : (FW r).room n := fun _ h => by simp [FW] at h
theorem callsFW {P : Program} {f : FuncId} {args : Array Value} {w : World} {r r' : Option Nat} {n n' : Nat} {R : Ending → World → Prop}
    (h : CallsIn (FW r) n P f args w R) : CallsIn (FW r') n' P f args w R :=
  ⟨trivial, fun cs _ => h.2 cs (room_FW _ _)⟩
theorem roundFW {P : Program} {l : Nat} {f : FuncId} {tmps : Array Value} {assign body : Code} {w : World} {r r' : Option Nat} {n n' : Nat} {R : Ending → World → Prop}
    (h : RoundIn (FW r) n P l f tmps assign body w R) : RoundIn (FW r') n' P l f tmps assign body w R :=
  ⟨trivial, fun c cs _ => h.2 c cs (room_FW _ _)⟩
theorem rowsFW {P : Program} {row : String} {args : Array Value} {w : World} {r r' : Option Nat} {n n' : Nat} {R : Value → World → Prop}
    (h : RowsIn (FW r) n P row args w R) : RowsIn (FW r') n' P row args w R :=
  fun c cs _ => h c cs (room_FW _ _)

theorem callsV_calls {P : Program} {f : FuncId} {args : Array Value} {w : World} {K : Value → World → Prop} (h : CallsV P f args w K) :
    Calls P f args w (fun e w' => ∃ v, e = .returned v ∧ K v w') := by
  refine callsIn_wide (n := 0) |>.1 ?_
  refine ⟨trivial, fun cs hr => ?_⟩
  obtain ⟨e, w', fr, hK, hc, h1, h2⟩ := h.2 cs (room_FW _ _)
  refine ⟨e, w', fr, hK, ?_, h1, h2⟩
  have : (Machine.fenced P (FW none)) = (Machine.fenced P Fence.wide) := by
    funext m; exact propext ⟨fun _ => fenced_wide P m, fun _ => fenced_FW P m _⟩
  rw [← this]; exact hc
theorem callsV_of_calls {P : Program} {f : FuncId} {args : Array Value} {w : World} {K : Value → World → Prop} (h : Calls P f args w (fun e w' => ∃ v, e = .returned v ∧ K v w')) :
    CallsV P f args w K := by
  have h' := (callsIn_wide (n := 0)).2 h
  refine ⟨trivial, fun cs hr => ?_⟩
  obtain ⟨e, w', fr, hK, hc, h1, h2⟩ := h'.2 cs (room_wide _)
  refine ⟨e, w', fr, hK, ?_, h1, h2⟩
  have : (Machine.fenced P (FW none)) = (Machine.fenced P Fence.wide) := by
    funext m; exact propext ⟨fun _ => fenced_wide P m, fun _ => fenced_FW P m _⟩
  rw [this]; exact hc

/-- An operation that is no 'defer': its run read by 'upV' is its wp at the wide fence. -/
theorem upV_wpIn {P : Program} {o : Oper} {a : Act} {w : World} {K : Value → World → Prop} {r : Option Nat} {Q : Exit → Act → World → Prop} {next : Act → World → Prop}
    (hnd : ∀ c, o.op ≠ .defer c) (h : upV P K ((execOp a.eval o).run P w)) (hn : ∀ v w', K v w' → next (a.put o.dst v) w') : o.wpIn (FW r) 0 P a w next Q := by
  refine ⟨fun _ _ => trivial, ?_⟩
  show Oper.uponIn (FW r) 0 P o a next Q (Sem.run P (Oper.semAt r a.eval o) w)
  rw [Oper.semAt_eq r a.eval o hnd]
  generalize (execOp a.eval o).run P w = x at h
  cases x with
  | ok n w' =>
    cases n <;> simp only [upV] at h <;> simp only [Oper.uponIn]
    case value v => exact hn _ _ h
    case skip => exact hn _ _ h
    case enter f args =>
      refine ⟨fun h => by simp [FW] at h, callsFW (r := none) (n := 0) ?_⟩
      exact ⟨trivial, fun cs hr => let ⟨e, w', fr, ⟨v, he, hK⟩, hc⟩ := h.2 cs hr; ⟨e, w', fr, by subst he; exact hn _ _ hK, hc⟩⟩
    case row row args => exact ⟨fun h => by simp [FW] at h, rowsFW (r := none) (n := 0) (h.mono fun v w' hK => hn _ _ hK)⟩
    case round l f tmps assign body =>
      refine ⟨fun h => by simp [FW] at h, roundFW (r := none) (n := 0) ?_⟩
      exact RoundIn.mono h fun e w' ⟨v, he, hK⟩ => by subst he; exact hn _ _ hK
  | halt x w' => exact h.elim

end Go.St

