import Derived.Test.YtcipamclhpcaaaaGreatDoorStS
/- St core, part T: finding a part of memory in a list; the rules of one step. -/
namespace Go.St
open Go

theorem seps_perm {L M : List HP} (p : L.Perm M) : ∀ {h : Hp}, seps L h → seps M h := by
  induction p with
  | nil => exact id
  | cons A _ ih => intro h x; exact sp_mono (A := A) x (fun _ => id) fun _ => ih
  | swap A B L => intro h x; exact sp_swap x
  | trans _ _ ih1 ih2 => intro h x; exact ih2 (ih1 x)
theorem Sat.perm {w : World} {L M : List HP} (h : Sat w L) (p : L.Perm M) : Sat w M := by
  obtain ⟨g, i, x⟩ := h; exact ⟨g, i, seps_perm p x⟩

/-- In L there is R b x; F B: the list with B in its place. -/
class Foc {β α : Type} (R : β → α → HP) (b : β) (x : outParam α) (L : List HP) (F : outParam (HP → List HP)) : Prop where
  ok : ∃ M : List HP, L.Perm (R b x :: M) ∧ ∀ B, (F B).Perm (B :: M)
instance (priority := high) Foc.here {β α : Type} {R : β → α → HP} {b : β} {x : α} {L : List HP} : Foc R b x (R b x :: L) (fun B => B :: L) := ⟨L, .refl _, fun _ => .refl _⟩
instance Foc.there {β α : Type} {R : β → α → HP} {b : β} {x : α} {A : HP} {L : List HP} {F : HP → List HP} [i : Foc R b x L F] : Foc R b x (A :: L) (fun B => A :: F B) := by
  obtain ⟨M, p, q⟩ := i.ok
  exact ⟨A :: M, (p.cons A).trans (.swap _ _ _), fun B => ((q B).cons A).trans (.swap _ _ _)⟩
theorem Foc.op {β α : Type} {R : β → α → HP} {b : β} {x : α} {L : List HP} {F : HP → List HP} {w : World} [i : Foc R b x L F] (h : Sat w L) :
    ∃ M, Sat w (R b x :: M) ∧ ∀ {B : HP} {w' : World}, Sat w' (B :: M) → Sat w' (F B) := by
  obtain ⟨M, p, q⟩ := i.ok
  exact ⟨M, h.perm p, fun h' => h'.perm (q _).symm⟩
theorem Foc.back {β α : Type} {R : β → α → HP} {b : β} {x : α} {L : List HP} {F : HP → List HP} {w : World} [i : Foc R b x L F] (h : Sat w L) :
    ∃ M, Sat w (R b x :: M) ∧ (∀ {w' : World}, Sat w' (R b x :: M) → Sat w' L) ∧ ∀ {B : HP} {w' : World}, Sat w' (B :: M) → Sat w' (F B) := by
  obtain ⟨M, p, q⟩ := i.ok
  exact ⟨M, h.perm p, fun h' => h'.perm p.symm, fun h' => h'.perm (q _).symm⟩
/-- two parts, the second one found beside the first -/
theorem Foc.op2 {γ δ α β : Type} {R : γ → α → HP} {b : γ} {x : α} {L : List HP} {F : HP → List HP} {S : δ → β → HP} {c : δ} {y : β} {G : HP → List HP} {w : World}
    [i : Foc R b x L F] [j : Foc S c y (F emp) G] (h : Sat w L) :
    ∃ M, Sat w (R b x :: S c y :: M) ∧ (∀ {w' : World}, Sat w' (R b x :: S c y :: M) → Sat w' L) ∧ ∀ {B : HP} {w' : World}, Sat w' (B :: S c y :: M) → Sat w' (F B) := by
  obtain ⟨M, p, q⟩ := i.ok
  obtain ⟨N, p2, q2⟩ := j.ok
  have key : ∀ (B : HP) (w : World), Sat w (B :: S c y :: N) ↔ Sat w (B :: M) := fun B w => by
    have e : (emp :: M).Perm (S c y :: N) := (q emp).symm.trans p2
    constructor
    · intro h
      have h1 : Sat w (B :: emp :: M) := h.perm (e.symm.cons B)
      exact (Sat.emp.1 (h1.perm (.swap _ _ _)))
    · intro h
      exact ((Sat.emp.2 h).perm (.swap _ _ _)).perm (e.cons B)
  exact ⟨N, (key _ _).2 (h.perm p), fun h' => ((key _ _).1 h').perm p.symm, fun h' => ((key _ _).1 h').perm (q _).symm⟩

theorem Foc.cells {w : World} {b : Nat} {cs us : List Value} {o : Nat} {L : List HP} {F : HP → List HP} (i : Foc blk b cs L F) (h : Sat w L) (e : (cs.drop o).take us.length = us) : cellsAre w b o us := by
  obtain ⟨M, h, _⟩ := i.op h
  refine cellsAre_of h fun j u hj => ?_
  rw [← e, List.getElem?_take, List.getElem?_drop] at hj
  split at hj
  · exact hj
  · cases hj

/-! ### loads of one cell -/
section
variable (w : World) (b o : Nat)
def lI64 (K : Int → Prop) : Prop := ∃ n : Int, w.cell? ⟨b, o, none⟩ = some (.int .i64 n) ∧ K n
def lI32 (K : Int → Prop) : Prop := ∃ n : Int, w.cell? ⟨b, o, none⟩ = some (.int .i32 n) ∧ K n
def lU64 (K : Int → Prop) : Prop := ∃ n : Int, w.cell? ⟨b, o, none⟩ = some (.int .u64 n) ∧ K n
def lU32 (K : Int → Prop) : Prop := ∃ n : Int, w.cell? ⟨b, o, none⟩ = some (.int .u32 n) ∧ K n
def lU16 (K : Int → Prop) : Prop := ∃ n : Int, w.cell? ⟨b, o, none⟩ = some (.int .u16 n) ∧ K n
def lU8 (K : Int → Prop) : Prop := ∃ n : Int, w.cell? ⟨b, o, none⟩ = some (.int .u8 n) ∧ K n
def lB (K : Bool → Prop) : Prop := ∃ n : Bool, w.cell? ⟨b, o, none⟩ = some (.bool n) ∧ K n
def lS (K : ByteArray → Prop) : Prop := ∃ n : ByteArray, w.cell? ⟨b, o, none⟩ = some (.string n) ∧ K n
def lP (K : Option Addr → Prop) : Prop := ∃ p : Option Addr, w.cell? ⟨b, o, none⟩ = some (.pointer p) ∧ K p
def lL (K : Option Addr → Nat → Nat → Prop) : Prop := ∃ (a : Option Addr) (l c : Nat), w.cell? ⟨b, o, none⟩ = some (.slice a l c) ∧ K a l c
def lR (K : Value → Prop) : Prop := ∃ v : Value, w.cell? ⟨b, o, none⟩ = some v ∧ K v
end
section
variable {w : World} {b o : Nat} {L : List HP} {cs : List Value} {F : HP → List HP} [i : Foc blk b cs L F] (h : Sat w L)
include h i
theorem Sat.cell : w.cell? ⟨b, o, none⟩ = cs[o]? := by obtain ⟨M, h, _⟩ := i.op h; exact h.ld o
theorem lI64.of {n : Int} {K : Int → Prop} (e : cs[o]? = some (.int .i64 n)) (k : K n) : lI64 w b o K := ⟨n, by rw [Sat.cell h]; exact e, k⟩
theorem lI32.of {n : Int} {K : Int → Prop} (e : cs[o]? = some (.int .i32 n)) (k : K n) : lI32 w b o K := ⟨n, by rw [Sat.cell h]; exact e, k⟩
theorem lU64.of {n : Int} {K : Int → Prop} (e : cs[o]? = some (.int .u64 n)) (k : K n) : lU64 w b o K := ⟨n, by rw [Sat.cell h]; exact e, k⟩
theorem lU32.of {n : Int} {K : Int → Prop} (e : cs[o]? = some (.int .u32 n)) (k : K n) : lU32 w b o K := ⟨n, by rw [Sat.cell h]; exact e, k⟩
theorem lU16.of {n : Int} {K : Int → Prop} (e : cs[o]? = some (.int .u16 n)) (k : K n) : lU16 w b o K := ⟨n, by rw [Sat.cell h]; exact e, k⟩
theorem lU8.of {n : Int} {K : Int → Prop} (e : cs[o]? = some (.int .u8 n)) (k : K n) : lU8 w b o K := ⟨n, by rw [Sat.cell h]; exact e, k⟩
theorem lB.of {n : Bool} {K : Bool → Prop} (e : cs[o]? = some (.bool n)) (k : K n) : lB w b o K := ⟨n, by rw [Sat.cell h]; exact e, k⟩
theorem lS.of {n : ByteArray} {K : ByteArray → Prop} (e : cs[o]? = some (.string n)) (k : K n) : lS w b o K := ⟨n, by rw [Sat.cell h]; exact e, k⟩
theorem lP.of {n : Option Addr} {K : Option Addr → Prop} (e : cs[o]? = some (.pointer n)) (k : K n) : lP w b o K := ⟨n, by rw [Sat.cell h]; exact e, k⟩
theorem lL.of {a : Option Addr} {l c : Nat} {K : Option Addr → Nat → Nat → Prop} (e : cs[o]? = some (.slice a l c)) (k : K a l c) : lL w b o K := ⟨a, l, c, by rw [Sat.cell h]; exact e, k⟩
theorem lR.of {v : Value} {K : Value → Prop} (e : cs[o]? = some v) (k : K v) : lR w b o K := ⟨v, by rw [Sat.cell h]; exact e, k⟩
theorem stP.of {v : Value} {K : World → Prop} (ho : o < cs.length) (k : ∀ w1, Sat w1 (F (blk b (cs.set o v))) → K w1) : stP w b o v K := by
  obtain ⟨M, h, hb⟩ := i.op h
  exact h.st ho fun w1 h1 => k w1 (hb h1)
theorem stCs.of {vs : List Value} {K : World → Prop} (ho : o + vs.length ≤ cs.length) (hv : ∀ v ∈ vs, v.oneCell' = true) (k : ∀ w1, Sat w1 (F (blk b (setsAt cs o vs))) → K w1) : stCs b o vs w K := by
  obtain ⟨M, h, hb⟩ := i.op h
  exact h.stC ho hv fun w1 h1 => k w1 (hb h1)
end
theorem alP.of {w : World} {L : List HP} {cs : Array Value} {t : TypeId} {K : Nat → World → Prop} (h : Sat w L) (k : ∀ r w1, Sat w1 (blk r cs.toList :: L) → K r w1) : alP w cs t K := h.al k
theorem drP.of {w : World} {L : List HP} {K : World → Prop} (h : Sat w L) (k : ∀ w1, Sat w1 L → K w1) : drP w K := h.dr k
theorem cond_t {p : Prop} {q : Prop} {b : Bool} (hb : b = true) (h : p) : cond b p q := by subst hb; exact h
theorem cond_f {p : Prop} {q : Prop} {b : Bool} (hb : b = false) (h : q) : cond b p q := by subst hb; exact h
theorem cond_c {p : Prop} {q : Prop} {b : Bool} (ht : b = true → p) (hf : b = false → q) : cond b p q := by
  cases b
  · exact hf rfl
  · exact ht rfl
end Go.St

