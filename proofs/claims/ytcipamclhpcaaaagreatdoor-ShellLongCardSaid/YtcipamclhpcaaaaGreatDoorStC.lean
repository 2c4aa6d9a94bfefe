import Derived.Test.YtcipamclhpcaaaaGreatDoorStB
import Derived.Laws.Strings
/- St core, part C: operations on values alone. -/
namespace Go.St
open Go

def dvP (b : Int) (K : Prop) : Prop :=
  match b with
  | .ofNat n => match n with
    | 0 => False
    | _ + 1 => K
  | .negSucc _ => K
theorem dvP.out {b : Int} {K : Prop} (h : dvP b K) : b ≠ 0 ∧ K := by
  unfold dvP at h
  split at h
  · split at h
    · exact h.elim
    · rename_i n; exact ⟨by intro e; have : ((n + 1 : Nat) : Int) = 0 := e; omega, h⟩
  · exact ⟨(by intro e; cases e), h⟩
def shP (b : Int) (K : Nat → Prop) : Prop :=
  match b with
  | .ofNat n => K n
  | .negSucc _ => False
theorem shP.out {b : Int} {K : Nat → Prop} (h : shP b K) : 0 ≤ b ∧ K b.toNat := by
  unfold shP at h
  split at h
  · exact ⟨Int.natCast_nonneg _, h⟩
  · exact h.elim
def shl (k : IntKind) (x : Int) (n : Nat) : Int := k.wrap (x * 2 ^ (min n k.bits))
def shr (k : IntKind) (x : Int) (n : Nat) : Int := x.fdiv (2 ^ (min n k.bits))
def bAnd (k : IntKind) (x y : Int) : Int := k.wrap (BitVec.ofInt k.bits x &&& BitVec.ofInt k.bits y).toNat
def bOr (k : IntKind) (x y : Int) : Int := k.wrap (BitVec.ofInt k.bits x ||| BitVec.ofInt k.bits y).toNat
def bXor (k : IntKind) (x y : Int) : Int := k.wrap (BitVec.ofInt k.bits x ^^^ BitVec.ofInt k.bits y).toNat
def bAndNot (k : IntKind) (x y : Int) : Int := k.wrap (BitVec.ofInt k.bits x &&& ~~~(BitVec.ofInt k.bits y)).toNat

def intBin (op : BinOp) (k : IntKind) (a b : Int) (K : Value → Prop) : Prop :=
  match op with
  | .add => K (.int k (k.wrap (a + b)))
  | .sub => K (.int k (k.wrap (a - b)))
  | .mul => K (.int k (k.wrap (a * b)))
  | .quo => dvP b (K (.int k (k.wrap (a.tdiv b))))
  | .rem => dvP b (K (.int k (a.tmod b)))
  | .and => K (.int k (bAnd k a b))
  | .or => K (.int k (bOr k a b))
  | .xor => K (.int k (bXor k a b))
  | .andNot => K (.int k (bAndNot k a b))
  | .eql => K (.bool (a == b))
  | .neq => K (.bool (a != b))
  | .lss => K (.bool (decide (a < b)))
  | .leq => K (.bool (decide (a ≤ b)))
  | .gtr => K (.bool (decide (a > b)))
  | .geq => K (.bool (decide (a ≥ b)))
  | _ => False

theorem intBin_sound {P : Program} {op : BinOp} {k : IntKind} {t : TypeId} {a b : Int} {K : Value → Prop} (h : intBin op k a b K) :
    ∃ v, K v ∧ ∀ w, (binOp op t (.int k a) (.int k b)).run P w = .ok v w := by
  cases op <;> simp only [intBin] at h
  case quo => obtain ⟨h0, h⟩ := h.out; exact ⟨_, h, fun w => by simp [binOp, Op.intDiv, h0]⟩
  case rem => obtain ⟨h0, h⟩ := h.out; exact ⟨_, h, fun w => by simp [binOp, Op.intDiv, h0]⟩
  all_goals first
    | exact h.elim
    | exact ⟨_, h, fun w => by simp [binOp, Op.intArith, Op.intCmp, Op.intBits, bAnd, bOr, bXor, bAndNot]⟩

def strBin (op : BinOp) (x y : ByteArray) (K : Value → Prop) : Prop :=
  match op with
  | .add => ((x.size + y.size : Nat) : Int) ≤ IntKind.i64.max ∧ K (.string (x ++ y))
  | .eql => K (.bool (x.toList == y.toList))
  | .neq => K (.bool (!(x.toList == y.toList)))
  | .lss => K (.bool (Op.bytesLess x.toList y.toList))
  | .leq => K (.bool (Op.bytesLess x.toList y.toList || x.toList == y.toList))
  | .gtr => K (.bool (!(Op.bytesLess x.toList y.toList || x.toList == y.toList)))
  | .geq => K (.bool (!(Op.bytesLess x.toList y.toList)))
  | _ => False
theorem strBin_sound {P : Program} {op : BinOp} {t : TypeId} {a b : ByteArray} {K : Value → Prop} (h : strBin op a b K) :
    ∃ v, K v ∧ ∀ w, (binOp op t (.string a) (.string b)).run P w = .ok v w := by
  cases op <;> simp only [strBin] at h
  case add =>
    refine ⟨_, h.2, fun w => ?_⟩
    have : ¬ ((a.size + b.size : Nat) : Int) > IntKind.i64.max := by have := h.1; omega
    simp only [binOp, Op.stringOp]
    rw [if_neg this]; rfl
  all_goals first
    | exact h.elim
    | exact ⟨_, h, fun w => by simp [binOp, Op.stringOp]⟩

/-! equality of plain structs -/
def partP (P : Program) (t : TypeId) (cs : Array Value) (off : Nat) : Option Value :=
  match tyOf P t with
  | some (.many zs) => some (.agg (cs.extract off (off + zs.length)))
  | some (.one _) => cs[off]?
  | none => none
theorem partP_sound {P : Program} {t : TypeId} {cs : Array Value} {off : Nat} {v : Value} (h : partP P t cs off = some v) (w : World) : (part t cs off).run P w = .ok v w := by
  unfold partP at h
  split at h
  · rename_i zs hz
    cases h
    simp [part, (tyOf_many hz w).1, (tyOf_many hz w).2]
  · rename_i z hz
    simp [part, tyOf_one hz w, h]
  · cases h
def eqFieldsP (P : Program) (e : TypeId → Value → Value → Option Bool) (xs ys : Array Value) : List Field → Option Bool
  | [] => some true
  | f :: fs => match f.name == "_" with
    | true => none
    | false => match partP P f.type xs f.offset with
      | none => none
      | some a => match partP P f.type ys f.offset with
        | none => none
        | some b => match e f.type a b with
          | none => none
          | some r => match eqFieldsP P e xs ys fs with
            | none => none
            | some s => some (r && s)
def eqPure (P : Program) : Nat → TypeId → Value → Value → Option Bool
  | 0, _, _, _ => none
  | d + 1, t, x, y => match P.underlying t with
    | some .bool => match x with
      | .bool a => match y with
        | .bool b => some (a == b)
        | _ => none
      | _ => none
    | some (.int _) => match x with
      | .int k a => match y with
        | .int k' b => cond (decide (k = k')) (some (a == b)) none
        | _ => none
      | _ => none
    | some .string => match x with
      | .string a => match y with
        | .string b => some (a.toList == b.toList)
        | _ => none
      | _ => none
    | some (.struct fs) => match P.stoodInHeld t with
      | true => none
      | false => match x with
        | .agg xs => match y with
          | .agg ys => eqFieldsP P (eqPure P d) xs ys fs.toList
          | _ => none
        | _ => none
    | _ => none
theorem eqFieldsP_sound {P : Program} {e : TypeId → Value → Value → Option Bool} {D : Nat} (he : ∀ t x y r, e t x y = some r → ∀ w, (Op.equalIn D t x y).run P w = .ok r w)
    {xs ys : Array Value} : ∀ {fs : List Field} {r : Bool}, eqFieldsP P e xs ys fs = some r → ∀ w, (Op.eqFields D xs ys fs).run P w = .ok r w
  | [], r, h, w => by simp [eqFieldsP] at h; subst h; rfl
  | f :: fs, r, h, w => by
    unfold eqFieldsP at h
    split at h
    · cases h
    · rename_i hn
      have hn' : f.name ≠ "_" := by simpa using hn
      split at h
      · cases h
      · rename_i a ha
        split at h
        · cases h
        · rename_i b hb
          split at h
          · cases h
          · rename_i r1 hr
            split at h
            · cases h
            · rename_i s hs
              cases h
              simp only [Op.eqFields, hn', ne_eq, not_false_eq_true, if_true, Sem.run_bind, partP_sound ha, partP_sound hb, Result.andThen_ok, he _ _ _ _ hr]
              cases r1
              · simp
              · simpa using eqFieldsP_sound he hs w
theorem eqPure_sound {P : Program} : ∀ {d : Nat} {t : TypeId} {x y : Value} {r : Bool}, eqPure P d t x y = some r → ∀ D, d ≤ D → ∀ w, (Op.equalIn D t x y).run P w = .ok r w
  | 0, _, _, _, _, h, _, _, _ => by simp [eqPure] at h
  | d + 1, t, x, y, r, h, D, hD, w => by
    obtain ⟨D, rfl⟩ : ∃ m, D = m + 1 := ⟨D - 1, by omega⟩
    unfold eqPure at h
    split at h
    · rename_i hu
      split at h
      · split at h
        · cases h; exact run_equalIn_bool' w D t _ _ hu
        · cases h
      · cases h
    · rename_i hu
      split at h
      · split at h
        · rename_i k a _ k' b
          by_cases hk : k = k'
          · subst hk
            simp at h; subst h
            exact run_equalIn_int w D t _ _ _ _ hu
          · simp [hk] at h
        · cases h
      · cases h
    · rename_i hu
      split at h
      · split at h
        · cases h; exact run_equalIn_string w D t _ _ hu
        · cases h
      · cases h
    · rename_i fs hu
      split at h
      · cases h
      · rename_i hs
        split at h
        · split at h
          · have hf : P.fieldsOf t = fs := by simp [Program.fieldsOf, hu]
            rw [run_equalIn_struct w D t _ _ (by rw [hf]; exact hu) hs, hf]
            exact eqFieldsP_sound (fun t x y r h w => eqPure_sound h D (by omega) w) h w
          · cases h
        · cases h
    · cases h

def nilIf (v : Value) (K : Bool → Prop) : Prop :=
  match v with
  | .nilIface => K true
  | .iface _ _ => K false
  | _ => False
def nilFn (v : Value) (K : Bool → Prop) : Prop :=
  match v with
  | .nilFunc => K true
  | .func _ _ _ => K false
  | _ => False
def eqn (op : BinOp) (b : Bool) (K : Value → Prop) : Prop :=
  match op with
  | .eql => K (.bool b)
  | .neq => K (.bool (!b))
  | _ => False
def isConstO : Operand → Bool
  | .const _ => true
  | _ => false

def binP (P : Program) (op : BinOp) (t : TypeId) (y : Operand) (a b : Value) (K : Value → Prop) : Prop :=
  match b with
  | .nilIface => match isConstO y with
    | true => match P.underlying t with
      | some (.interface _) => nilIf a fun r => eqn op r K
      | _ => False
    | false => False
  | .nilFunc => match P.underlying t with
    | some (.func _ _ _) => nilFn a fun r => eqn op r K
    | _ => False
  | .int k' n => match a with
    | .int k m => match op with
      | .shl => shP n fun s => K (.int k (shl k m s))
      | .shr => shP n fun s => K (.int k (shr k m s))
      | _ => cond (decide (k = k')) (intBin op k m n K) False
    | _ => False
  | .string q => match a with
    | .string p => strBin op p q K
    | _ => False
  | .bool q => match a with
    | .bool p => match P.underlying t with
      | some .bool => eqn op (p == q) K
      | _ => False
    | _ => False
  | .agg ys => match a with
    | .agg xs => match P.eqGuardType P.depth t with
      | true => False
      | false => match eqPure P 4 t (.agg xs) (.agg ys) with
        | some r => eqn op r K
        | none => False
    | _ => False
  | .pointer q => match q with
    | none => match a with
      | .pointer p => match P.underlying t with
        | some (.pointer _) => eqn op p.isNone K
        | _ => False
      | _ => False
    | some _ => False
  | .slice q _ _ => match q with
    | none => match a with
      | .slice p _ _ => match P.underlying t with
        | some (.slice _) => eqn op p.isNone K
        | _ => False
      | _ => False
    | some _ => False
  | _ => False

theorem eqn_sound {P : Program} {op : BinOp} {t : TypeId} {a b : Value} {r : Bool} {K : Value → Prop} (h : eqn op r K)
    (he : ∀ w, (Op.equal t a b).run P w = .ok r w) (h1 : binOp .eql t a b = (do pure (.bool (← Op.equal t a b)))) (h2 : binOp .neq t a b = (do pure (.bool (!(← Op.equal t a b))))) :
    ∃ v, K v ∧ ∀ w, (binOp op t a b).run P w = .ok v w := by
  unfold eqn at h
  split at h
  · exact ⟨_, h, fun w => by rw [h1]; simp [he w]⟩
  · exact ⟨_, h, fun w => by rw [h2]; simp [he w]⟩
  · exact h.elim

theorem guard_plain {P : Program} {op : BinOp} {t : TypeId} {x y : Operand} {a b : Value} (w : World) (h1 : ¬ (a = .nilIface ∧ b = .nilIface)) (h2 : ∀ xs ys, ¬ (a = .agg xs ∧ b = .agg ys)) :
    (eqGuard op t x y a b).run P w = .ok () w := by
  cases op <;> first
    | rfl
    | (simp only [eqGuard, Bool.not_true, Bool.false_eq_true, if_false]
       split
       · exact absurd ⟨rfl, rfl⟩ h1
       · exact absurd ⟨rfl, rfl⟩ (h2 _ _)
       · rfl)

section
variable {P : Program} {t : TypeId} (w : World) (d : Nat)
theorem eq_nn {ms : Array (String × TypeId)} (hu : P.underlying t = some (.interface ms)) : (Op.equalIn (d + 1) t .nilIface .nilIface).run P w = .ok true w := by simp [Op.equalIn, run_underlying hu]
theorem eq_in {ms : Array (String × TypeId)} (hu : P.underlying t = some (.interface ms)) (u : TypeId) (v : Value) : (Op.equalIn (d + 1) t (.iface u v) .nilIface).run P w = .ok false w := by simp [Op.equalIn, run_underlying hu]
theorem eq_ff {p r : Array TypeId} {v : Bool} (hu : P.underlying t = some (.func p r v)) : (Op.equalIn (d + 1) t .nilFunc .nilFunc).run P w = .ok true w := by simp [Op.equalIn, run_underlying hu]
theorem eq_fn {p r : Array TypeId} {v : Bool} (hu : P.underlying t = some (.func p r v)) (f : Fn) (a b : Array Value) : (Op.equalIn (d + 1) t (.func f a b) .nilFunc).run P w = .ok false w := by simp [Op.equalIn, run_underlying hu]
theorem eq_pn {e : TypeId} (hu : P.underlying t = some (.pointer e)) (p : Option Addr) : (Op.equalIn (d + 1) t (.pointer p) (.pointer none)).run P w = .ok p.isNone w := by cases p <;> simp [Op.equalIn, run_underlying hu]
theorem eq_sn {e : TypeId} (hu : P.underlying t = some (.slice e)) (p : Option Addr) (l c l' c' : Nat) : (Op.equalIn (d + 1) t (.slice p l c) (.slice none l' c')).run P w = .ok p.isNone w := by cases p <;> simp [Op.equalIn, run_underlying hu]
end
theorem equal_of {P : Program} {t : TypeId} {a b : Value} {r : Bool} {w : World} (h : ∀ d, (Op.equalIn (d + 1) t a b).run P w = .ok r w) : (Op.equal t a b).run P w = .ok r w := h 9999

theorem binP_sound {P : Program} {op : BinOp} {t : TypeId} {x y : Operand} {a b : Value} {K : Value → Prop} (h : binP P op t y a b K) :
    ∃ v, K v ∧ ∀ w, (do eqGuard op t x y a b; binOp op t a b : Sem Value).run P w = .ok v w := by
  suffices hs : (∃ v, K v ∧ ∀ w, (binOp op t a b).run P w = .ok v w) ∧ ∀ w, (eqGuard op t x y a b).run P w = .ok () w by
    obtain ⟨⟨v, hk, hr⟩, hg⟩ := hs
    exact ⟨v, hk, fun w => by simp [hg w, hr w]⟩
  unfold binP at h
  split at h
  · split at h
    · rename_i hy
      split at h
      · rename_i ms hu
        unfold nilIf at h
        split at h
        · refine ⟨eqn_sound h (fun w => equal_of fun d => eq_nn w d hu) rfl rfl, fun w => ?_⟩
          cases y <;> first
            | (simp [isConstO] at hy; done)
            | (cases op <;> simp [eqGuard])
        · exact ⟨eqn_sound h (fun w => equal_of fun d => eq_in w d hu _ _) rfl rfl, fun w => guard_plain w (by simp) (by simp)⟩
        · exact h.elim
      · exact h.elim
    · exact h.elim
  · split at h
    · rename_i hu
      unfold nilFn at h
      split at h
      · exact ⟨eqn_sound h (fun w => equal_of fun d => eq_ff w d hu) rfl rfl, fun w => guard_plain w (by simp) (by simp)⟩
      · exact ⟨eqn_sound h (fun w => equal_of fun d => eq_fn w d hu _ _ _) rfl rfl, fun w => guard_plain w (by simp) (by simp)⟩
      · exact h.elim
    · exact h.elim
  · rename_i k' n
    split at h
    · rename_i k m
      refine ⟨?_, fun w => guard_plain w (by simp) (by simp)⟩
      split at h
      · obtain ⟨h0, h⟩ := h.out
        exact ⟨_, h, fun w => by simp [binOp, Op.shift, shl, show ¬ n < 0 by omega]⟩
      · obtain ⟨h0, h⟩ := h.out
        exact ⟨_, h, fun w => by simp [binOp, Op.shift, shr, show ¬ n < 0 by omega]⟩
      · by_cases hk : k = k'
        · subst hk
          simp only [decide_true, cond_true] at h
          exact intBin_sound h
        · simp [hk] at h
    · exact h.elim
  · split at h
    · exact ⟨strBin_sound h, fun w => guard_plain w (by simp) (by simp)⟩
    · exact h.elim
  · split at h
    · split at h
      · rename_i hu
        exact ⟨eqn_sound h (fun w => run_equal_bool w t _ _ hu) rfl rfl, fun w => guard_plain w (by simp) (by simp)⟩
      · exact h.elim
    · exact h.elim
  · split at h
    · split at h
      · exact h.elim
      · rename_i hg
        split at h
        · rename_i r hr
          exact ⟨eqn_sound h (fun w => eqPure_sound hr Op.maxDepth (by decide) w) rfl rfl, fun w => run_eqGuard_agg w op t x y _ _ hg⟩
        · exact h.elim
    · exact h.elim
  · split at h
    · split at h
      · rename_i p
        split at h
        · rename_i e hu
          exact ⟨eqn_sound h (fun w => equal_of fun d => eq_pn w d hu _) rfl rfl, fun w => guard_plain w (by simp) (by simp)⟩
        · exact h.elim
      · exact h.elim
    · exact h.elim
  · split at h
    · split at h
      · rename_i p _ _
        split at h
        · rename_i e hu
          exact ⟨eqn_sound h (fun w => equal_of fun d => eq_sn w d hu _ _ _ _ _) rfl rfl, fun w => guard_plain w (by simp) (by simp)⟩
        · exact h.elim
      · exact h.elim
    · exact h.elim
  · exact h.elim

end Go.St

