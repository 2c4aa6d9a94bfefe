import Derived.Test.YtcipamclhpcaaaaGreatDoorStC
import Derived.Laws.Entries
/- St core, part D: 'rdOp': the operations that leave the world as it is; their soundness. -/
namespace Go.St
open Go

def nn (p : Option Addr) (K : Nat → Nat → Prop) : Prop :=
  match p with
  | some ⟨b, o, none⟩ => K b o
  | _ => False
theorem nn.out {p : Option Addr} {K : Nat → Nat → Prop} (h : nn p K) : ∃ b o, p = some ⟨b, o, none⟩ ∧ K b o := by
  unfold nn at h
  split at h
  · exact ⟨_, _, rfl, h⟩
  · exact h.elim
def nnVal (v : Value) (K : Value → Prop) : Prop :=
  match v with
  | .pointer p => nn p fun b o => K (.pointer (some ⟨b, o, none⟩))
  | .iface t x => K (.iface t x)
  | .func f s c => match f with
    | .func g => K (.func (.func g) s c)
    | .yield l => K (.func (.yield l) s c)
    | _ => False
  | _ => False
theorem nnVal.out {v : Value} {K : Value → Prop} (h : nnVal v K) : K v ∧ ((∃ b o, v = .pointer (some ⟨b, o, none⟩)) ∨ (∃ t x, v = .iface t x) ∨ (∃ g s c, v = .func (.func g) s c) ∨ (∃ g s c, v = .func (.yield g) s c)) := by
  unfold nnVal at h
  split at h
  · obtain ⟨b, o, rfl, h⟩ := h.out; exact ⟨h, .inl ⟨_, _, rfl⟩⟩
  · exact ⟨h, .inr (.inl ⟨_, _, rfl⟩)⟩
  · split at h
    · exact ⟨h, .inr (.inr (.inl ⟨_, _, _, rfl⟩))⟩
    · exact ⟨h, .inr (.inr (.inr ⟨_, _, _, rfl⟩))⟩
    · exact h.elim
  · exact h.elim
def atP (v : Value) (K : Nat → Nat → Prop) : Prop :=
  match v with
  | .pointer p => nn p K
  | _ => False
theorem atP.out {v : Value} {K : Nat → Nat → Prop} (h : atP v K) : ∃ b o, v = .pointer (some ⟨b, o, none⟩) ∧ K b o := by
  unfold atP at h
  split at h
  · obtain ⟨b, o, rfl, h⟩ := h.out; exact ⟨b, o, rfl, h⟩
  · exact h.elim

def fieldOff (P : Program) (s : TypeId) (f : Nat) : Option Nat :=
  match P.underlying s with
  | some (.struct fs) => match fs[f]? with
    | some fd => match P.info? fd.type with
      | some i => match i.size with
        | 0 => none
        | _ + 1 => some fd.offset
      | none => none
    | none => none
  | _ => none
theorem fieldOff_sound {P : Program} {s : TypeId} {f k : Nat} (h : fieldOff P s f = some k) (b o : Nat) (w : World) :
    (Instr.fieldAt s (.pointer (some ⟨b, o, none⟩)) f).run P w = .ok (.pointer (some ⟨b, o + k, none⟩)) w := by
  unfold fieldOff at h
  split at h
  · rename_i fs hu
    split at h
    · rename_i fd hf
      split at h
      · rename_i i hi
        split at h
        · cases h
        · rename_i n hn
          cases h
          simp [Instr.fieldAt, run_underlying hu, hf, Instr.sureAddr, fieldPlace, run_sizeOf hi, hn, addr_add]
      · cases h
    · cases h
  · cases h

def sizeP (P : Program) (t : TypeId) (K : Nat → Prop) : Prop :=
  match P.info? t with
  | some i => K i.size
  | none => False
def idxP (P : Program) (t : TypeId) (x i : Value) (K : Value → Prop) : Prop :=
  match P.underlying t with
  | some (.slice e) => match x with
    | .slice a l _ => match i with
      | .int _ n => sizeP P e fun sz => nn a fun b o => 0 ≤ n ∧ n < (l : Int) ∧ K (.pointer (some ⟨b, o + n.toNat * sz, none⟩))
      | _ => False
    | _ => False
  | some (.array len e) => match i with
    | .int _ n => sizeP P e fun sz => atP x fun b o => 0 ≤ n ∧ n < (len : Int) ∧ K (.pointer (some ⟨b, o + n.toNat * sz, none⟩))
    | _ => False
  | _ => False
theorem sizeP.out {P : Program} {t : TypeId} {K : Nat → Prop} (h : sizeP P t K) : ∃ i, P.info? t = some i ∧ K i.size := by
  unfold sizeP at h
  split at h
  · exact ⟨_, ‹_›, h⟩
  · exact h.elim
theorem idxP_sound {P : Program} {t : TypeId} {x i : Value} {K : Value → Prop} (h : idxP P t x i K) :
    ∃ v, K v ∧ ∀ w, (Instr.indexAt t x i).run P w = .ok v w := by
  unfold idxP at h
  split at h
  · rename_i e hu
    split at h
    · split at h
      · obtain ⟨inf, hi, h⟩ := h.out
        obtain ⟨b, o, rfl, h0, h1, h⟩ := h.out
        exact ⟨_, h, fun w => by simp [Instr.indexAt, asIntOf, run_underlying hu, h0, h1, run_sizeOf hi, addr_add]⟩
      · exact h.elim
    · exact h.elim
  · rename_i len e hu
    split at h
    · obtain ⟨inf, hi, h⟩ := h.out
      obtain ⟨b, o, rfl, h0, h1, h⟩ := h.out
      exact ⟨_, h, fun w => by simp [Instr.indexAt, asIntOf, run_underlying hu, h0, h1, run_sizeOf hi, addr_add, Instr.sureAddr]⟩
    · exact h.elim
  · exact h.elim

/-- a byte of a string -/
def bt (s : ByteArray) (n : Int) : Int := ((s[n.toNat]?).getD 0).toNat
def indP (P : Program) (t : TypeId) (x i : Value) (K : Value → Prop) : Prop :=
  match P.underlying t with
  | some .string => match x with
    | .string s => match i with
      | .int _ n => 0 ≤ n ∧ n < (s.size : Int) ∧ K (.int .u8 (bt s n))
      | _ => False
    | _ => False
  | some (.array len e) => match x with
    | .agg cs => match i with
      | .int _ n => 0 ≤ n ∧ n < (len : Int) ∧ sizeP P e fun sz => match partP P e cs (n.toNat * sz) with
        | some v => K v
        | none => False
      | _ => False
    | _ => False
  | _ => False
theorem indP_sound {P : Program} {t : TypeId} {x i : Value} {K : Value → Prop} (h : indP P t x i K) :
    ∃ v, K v ∧ ∀ w, (Instr.index t x i).run P w = .ok v w := by
  unfold indP at h
  split at h
  · rename_i hu
    split at h
    · split at h
      · rename_i s _ k n
        obtain ⟨h0, h1, h⟩ := h
        refine ⟨_, h, fun w => ?_⟩
        have hlt : n.toNat < s.size := by omega
        simp [Instr.index, asIntOf, run_underlying hu, h0, bt, hlt]
      · exact h.elim
    · exact h.elim
  · rename_i len e hu
    split at h
    · split at h
      · obtain ⟨h0, h1, h⟩ := h
        obtain ⟨inf, hi, h⟩ := h.out
        split at h
        · rename_i v hv
          exact ⟨v, h, fun w => by simp [Instr.index, asIntOf, run_underlying hu, h0, h1, run_sizeOf hi, partP_sound hv]⟩
        · exact h.elim
      · exact h.elim
    · exact h.elim
  · exact h.elim

def bdP (x : Option Value) (d y : Nat) (K : Nat → Prop) : Prop :=
  match x with
  | none => K d
  | some v => match v with
    | .int _ i => 0 ≤ i ∧ i ≤ (y : Int) ∧ K i.toNat
    | _ => False
/-- where a part of a slice begins -/
def slA (a : Option Addr) (m l sz : Nat) : Option Addr := if m = l then a else a.map (·.add (l * sz))
def slcP (P : Program) (t : TypeId) (x : Value) (lo hi mx : Option Value) (K : Value → Prop) : Prop :=
  match P.underlying t with
  | some (.slice e) => match x with
    | .slice a len cap => sizeP P e fun sz => match mx with
      | none => bdP hi len cap fun h => bdP lo 0 h fun l => K (.slice (slA a cap l sz) (h - l) (cap - l))
      | some _ => match hi with
        | none => False
        | some _ => bdP mx cap cap fun m => bdP hi len m fun h => bdP lo 0 h fun l => K (.slice (slA a m l sz) (h - l) (m - l))
    | _ => False
  | some .string => match x with
    | .string s => match mx with
      | none => bdP hi s.size s.size fun h => bdP lo 0 h fun l => K (.string (s.extract l h))
      | some _ => False
    | _ => False
  | _ => False
theorem bdP.out {x : Option Value} {d y : Nat} {K : Nat → Prop} (h : bdP x d y K) : (x = none ∧ K d) ∨ ∃ k i, x = some (.int k i) ∧ 0 ≤ i ∧ i ≤ (y : Int) ∧ K i.toNat := by
  unfold bdP at h
  split at h
  · exact .inl ⟨rfl, h⟩
  · split at h
    · exact .inr ⟨_, _, rfl, h⟩
    · exact h.elim
theorem slcP_sound {P : Program} {t : TypeId} {x : Value} {lo hi mx : Option Value} {K : Value → Prop} (h : slcP P t x lo hi mx K) :
    ∃ v, K v ∧ ∀ w, (Instr.sliceAt t x lo hi mx).run P w = .ok v w := by
  unfold slcP at h
  split at h
  · rename_i e hu
    split at h
    · rename_i a len cap
      obtain ⟨inf, hi', h⟩ := h.out
      split at h
      · rcases h.out with ⟨h1, h⟩ | ⟨kh, ih, h1, hh0, hh1, h⟩ <;> rcases h.out with ⟨h2, h⟩ | ⟨kl, il, h2, hl0, hl1, h⟩ <;>
          exact ⟨_, h, fun w => by simp_all [Instr.sliceAt, Instr.slice, run_underlying hu, Instr.sliceBounds, run_sliceBound, run_sizeOf hi', slA]⟩
      · split at h
        · exact h.elim
        · rcases h.out with ⟨h1, h⟩ | ⟨km, im, h1, hm0, hm1, h⟩ <;> rcases h.out with ⟨h2, h⟩ | ⟨kh, ih, h2, hh0, hh1, h⟩ <;> rcases h.out with ⟨h3, h⟩ | ⟨kl, il, h3, hl0, hl1, h⟩ <;> first
            | (cases h1; done)
            | (cases h2; done)
            | exact ⟨_, h, fun w => by simp_all [Instr.sliceAt, Instr.slice, run_underlying hu, Instr.sliceBounds, run_sliceBound, run_sizeOf hi', slA]⟩
    · exact h.elim
  · rename_i hu
    split at h
    · split at h
      · rcases h.out with ⟨h1, h⟩ | ⟨kh, ih, h1, hh0, hh1, h⟩ <;> rcases h.out with ⟨h2, h⟩ | ⟨kl, il, h2, hl0, hl1, h⟩ <;>
          exact ⟨_, h, fun w => by simp_all [Instr.sliceAt, Instr.slice, run_underlying hu, Instr.sliceBounds, run_sliceBound]⟩
      · exact h.elim
    · exact h.elim
  · exact h.elim

/-- a field of a struct value -/
def fldP (P : Program) (t : TypeId) (x : Value) (f : Nat) (K : Value → Prop) : Prop :=
  match P.underlying t with
  | some (.struct fs) => match fs[f]? with
    | some fd => match x with
      | .agg cs => match partP P fd.type cs fd.offset with
        | some v => K v
        | none => False
      | _ => False
    | none => False
  | _ => False
theorem fldP_sound {P : Program} {t : TypeId} {x : Value} {f : Nat} {K : Value → Prop} (h : fldP P t x f K) :
    ∃ v, K v ∧ ∀ w, (Instr.field t x f).run P w = .ok v w := by
  unfold fldP at h
  split at h
  · rename_i fs hu
    split at h
    · rename_i fd hf
      split at h
      · split at h
        · rename_i v hv
          exact ⟨v, h, fun w => by simp [Instr.field, run_underlying hu, hf, asAgg, partP_sound hv]⟩
        · exact h.elim
      · exact h.elim
    · exact h.elim
  · exact h.elim

def extP (x : Value) (i : Nat) (K : Value → Prop) : Prop :=
  match x with
  | .tuple vs => match vs[i]? with
    | some v => K v
    | none => False
  | _ => False
theorem extP_sound {P : Program} {x : Value} {i : Nat} {K : Value → Prop} (h : extP x i K) : ∃ v, K v ∧ ∀ w, (Instr.extract x i).run P w = .ok v w := by
  unfold extP at h
  split at h
  · split at h
    · rename_i v hv; exact ⟨v, h, fun w => by simp [Instr.extract, hv]⟩
    · exact h.elim
  · exact h.elim

def unP (op : UnOp) (x : Value) (K : Value → Prop) : Prop :=
  match op with
  | .not => match x with
    | .bool b => K (.bool (!b))
    | _ => False
  | .neg => match x with
    | .int k n => K (.int k (k.wrap (0 - n)))
    | _ => False
  | .xor => match x with
    | .int k n => K (.int k (bXor k (if k.signed then -1 else k.max) n))
    | _ => False
  | .plus => False
theorem unP_sound {P : Program} {op : UnOp} {x : Value} {K : Value → Prop} (h : unP op x K) : ∃ v, K v ∧ ∀ w, (Op.unary op x).run P w = .ok v w := by
  unfold unP at h
  split at h <;> (try split at h) <;> first
    | exact h.elim
    | exact ⟨_, h, fun w => by simp [Op.unary, Op.intArith, Op.intBits, bXor]⟩

def isIntT (P : Program) (t : TypeId) : Bool :=
  match P.underlying t with
  | some (.int _) => true
  | _ => false
def cvP (P : Program) (src dst : TypeId) (x : Value) (K : Value → Prop) : Prop :=
  match P.underlying src with
  | none => False
  | some _ => match P.underlying dst with
    | some (.int k) => match x with
      | .int _ n => K (.int k (k.wrap n))
      | _ => False
    | _ => False
theorem cvP_sound {P : Program} {src dst : TypeId} {x : Value} {K : Value → Prop} (h : cvP P src dst x K) : ∃ v, K v ∧ ∀ w, (convert src dst x).run P w = .ok v w := by
  unfold cvP at h
  split at h
  · exact h.elim
  · rename_i d hs
    split at h
    · rename_i k hd
      split at h
      · exact ⟨_, h, fun w => by simp [convert, run_underlying hs, run_underlying hd, Conv.intToInt]⟩
      · exact h.elim
    · exact h.elim

def mkiP (P : Program) (t : TypeId) (x : Value) (K : Value → Prop) : Prop :=
  match P.underlying t with
  | none => False
  | some (.interface _) => False
  | some _ => K (.iface t x)
theorem mkiP_sound {P : Program} {t : TypeId} {x : Value} {K : Value → Prop} (h : mkiP P t x K) : ∃ v, K v ∧ ∀ w, (Instr.makeInterface t x).run P w = .ok v w := by
  unfold mkiP at h
  split at h
  · exact h.elim
  · exact h.elim
  · rename_i d hn hu
    refine ⟨_, h, fun w => ?_⟩
    simp only [Instr.makeInterface, Sem.run_bind, run_underlying hu, Result.andThen_ok]
    rfl

def lenP (P : Program) (t : TypeId) (x : Value) (K : Value → Prop) : Prop :=
  match P.underlying t with
  | some .string => match x with
    | .string s => K (.int .i64 s.size)
    | _ => False
  | some (.slice _) => match x with
    | .slice _ n _ => K (.int .i64 n)
    | _ => False
  | some (.array n _) => K (.int .i64 n)
  | _ => False
theorem lenP_sound {P : Program} {t ty : TypeId} {ts : Array TypeId} {x : Value} {K : Value → Prop} (ht : ts[0]? = some t) (h : lenP P t x K) :
    ∃ v, K v ∧ ∀ w, (Builtin.len_ ts ty #[x]).run P w = .ok v w := by
  unfold lenP at h
  split at h
  · rename_i hu
    split at h
    · exact ⟨_, h, fun w => by simp [Builtin.len_, ht, run_underlying hu, goInt]⟩
    · exact h.elim
  · rename_i hu
    split at h
    · exact ⟨_, h, fun w => by simp [Builtin.len_, ht, run_underlying hu, goInt]⟩
    · exact h.elim
  · rename_i hu
    exact ⟨_, h, fun w => by simp [Builtin.len_, ht, run_underlying hu, goInt]⟩
  · exact h.elim
def capP (P : Program) (t : TypeId) (x : Value) (K : Value → Prop) : Prop :=
  match P.underlying t with
  | some (.slice _) => match x with
    | .slice _ _ n => K (.int .i64 n)
    | _ => False
  | _ => False
theorem capP_sound {P : Program} {t ty : TypeId} {ts : Array TypeId} {x : Value} {K : Value → Prop} (ht : ts[0]? = some t) (h : capP P t x K) :
    ∃ v, K v ∧ ∀ w, (Builtin.cap_ ts ty #[x]).run P w = .ok v w := by
  unfold capP at h
  split at h
  · rename_i hu
    split at h
    · exact ⟨_, h, fun w => by simp [Builtin.cap_, ht, run_underlying hu, goInt]⟩
    · exact h.elim
  · exact h.elim
def mxI (a b : Int) : Int := if b > a then b else a
def mnI (a b : Int) : Int := if b < a then b else a
def mmP (mx : Bool) (xs : List Value) (K : Value → Prop) : Prop :=
  match xs with
  | [a, b] => match a with
    | .int k m => match b with
      | .int _ n => K (.int k (cond mx (mxI m n) (mnI m n)))
      | _ => False
    | _ => False
  | _ => False
theorem mmP_sound {P : Program} {mx : Bool} {xs : List Value} {ts : Array TypeId} {ty : TypeId} {K : Value → Prop} (h : mmP mx xs K) :
    ∃ v, K v ∧ ∀ w, (if mx then Builtin.max_ ts ty xs.toArray else Builtin.min_ ts ty xs.toArray).run P w = .ok v w := by
  unfold mmP at h
  split at h
  · split at h
    · split at h
      · refine ⟨_, h, fun w => ?_⟩
        cases mx
        · exact run_min_int2 w ts ty _ _ _ _
        · exact run_max_int2 w ts ty _ _ _ _
      · exact h.elim
    · exact h.elim
  · exact h.elim

/-! struct and array literals -/
def placesP (P : Program) : List Field → Option (List (Nat × Nat))
  | [] => some []
  | f :: fs => match P.info? f.type with
    | none => none
    | some i => match placesP P fs with
      | none => none
      | some l => some ((f.offset, i.size) :: l)
theorem placesP_sound {P : Program} : ∀ {fs : List Field} {l : List (Nat × Nat)}, placesP P fs = some l → ∀ w, (fs.mapM fun f => do pure (f.offset, ← sizeOf f.type) : Sem _).run P w = .ok l w
  | [], l, h, w => by simp [placesP] at h; subst h; rfl
  | f :: fs, l, h, w => by
    unfold placesP at h
    split at h
    · cases h
    · rename_i i hi
      split at h
      · cases h
      · rename_i l' hl
        cases h
        have := placesP_sound hl w
        simp only [List.mapM_cons, Sem.run_bind, run_sizeOf hi, Result.andThen_ok, Sem.run_pure, this]
theorem run_zeroValue {P : Program} {t : TypeId} {i : TypeInfo} {z : Value} (h : P.info? t = some i) (hz : i.zero = some z) (w : World) : (zeroValue t).run P w = .ok z w := by
  simp [zeroValue, run_typeInfo h, hz]
theorem run_mapM_array {α β : Type} {P : Program} (f : α → Sem β) (xs : Array α) (l : List β) (w : World) (h : (xs.toList.mapM f).run P w = .ok l w) : (xs.mapM f).run P w = .ok l.toArray w := by
  rw [Array.mapM_eq_mapM_toList]
  simp [h]
end Go.St

