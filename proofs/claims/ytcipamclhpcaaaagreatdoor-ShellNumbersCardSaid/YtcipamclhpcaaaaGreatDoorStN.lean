import Derived.Test.YtcipamclhpcaaaaGreatDoorStM
/- St core, part N: the words of the printed forms. -/
namespace Go.St
open Go

abbrev w64 (n : Int) : Int := IntKind.i64.wrap n
abbrev wu64 (n : Int) : Int := IntKind.u64.wrap n
abbrev wu8 (n : Int) : Int := IntKind.u8.wrap n
abbrev wu16 (n : Int) : Int := IntKind.u16.wrap n
abbrev wu32 (n : Int) : Int := IntKind.u32.wrap n
abbrev w32 (n : Int) : Int := IntKind.i32.wrap n
/-- a store of one cell -/
def stP (w : World) (b o : Nat) (v : Value) (K : World → Prop) : Prop := canSt w b o ∧ K (w.setCell ⟨b, o, none⟩ v)
/-- a new block -/
def alP (w : World) (cs : Array Value) (t : TypeId) (K : Nat → World → Prop) : Prop := K w.heap.size (w.alloc (.cells cs t))
/-- a draw -/
def drP (w : World) (K : World → Prop) : Prop := K w.drew

/-! values read back into their shapes -/
section
variable {β : Sort _}
def gI64 (d : β) (v : Value) (K : Int → β) : β := match v with | .int k n => (match k with | .i64 => K n | _ => d) | _ => d
def gI32 (d : β) (v : Value) (K : Int → β) : β := match v with | .int k n => (match k with | .i32 => K n | _ => d) | _ => d
def gU64 (d : β) (v : Value) (K : Int → β) : β := match v with | .int k n => (match k with | .u64 => K n | _ => d) | _ => d
def gU32 (d : β) (v : Value) (K : Int → β) : β := match v with | .int k n => (match k with | .u32 => K n | _ => d) | _ => d
def gU16 (d : β) (v : Value) (K : Int → β) : β := match v with | .int k n => (match k with | .u16 => K n | _ => d) | _ => d
def gU8 (d : β) (v : Value) (K : Int → β) : β := match v with | .int k n => (match k with | .u8 => K n | _ => d) | _ => d
def gB (d : β) (v : Value) (K : Bool → β) : β := match v with | .bool b => K b | _ => d
def gS (d : β) (v : Value) (K : ByteArray → β) : β := match v with | .string b => K b | _ => d
def gP (d : β) (v : Value) (K : Option Addr → β) : β := match v with | .pointer p => K p | _ => d
def gN (d : β) (v : Value) (K : Nat → Nat → β) : β := match v with | .pointer p => (match p with | some ⟨b, o, none⟩ => K b o | _ => d) | _ => d
def gL (d : β) (v : Value) (K : Option Addr → Nat → Nat → β) : β := match v with | .slice a l c => K a l c | _ => d
def gR (_ : β) (v : Value) (K : Value → β) : β := K v
def gA (d : β) (v : Value) (K : List Value → β) : β := match v with | .agg cs => K cs.toList | _ => d
def gT (d : β) (v : Value) (K : List Value → β) : β := match v with | .tuple cs => K cs.toList | _ => d
def gC (d : β) (l : List Value) (K : Value → List Value → β) : β := match l with | v :: l => K v l | [] => d
def gE (d : β) (l : List Value) (K : β) : β := match l with | [] => K | _ :: _ => d
end
section
variable {β : Sort _} {d x : β} {v : Value} {l : List Value}
theorem gI64.out {K : Int → β} (h : gI64 d v K = x) : (∃ n, v = .int .i64 n ∧ K n = x) ∨ d = x := by
  revert h; unfold gI64
  repeat' first | exact fun h => .inr h | exact fun h => .inl ⟨_, rfl, h⟩ | split
theorem gI32.out {K : Int → β} (h : gI32 d v K = x) : (∃ n, v = .int .i32 n ∧ K n = x) ∨ d = x := by
  revert h; unfold gI32
  repeat' first | exact fun h => .inr h | exact fun h => .inl ⟨_, rfl, h⟩ | split
theorem gU64.out {K : Int → β} (h : gU64 d v K = x) : (∃ n, v = .int .u64 n ∧ K n = x) ∨ d = x := by
  revert h; unfold gU64
  repeat' first | exact fun h => .inr h | exact fun h => .inl ⟨_, rfl, h⟩ | split
theorem gU32.out {K : Int → β} (h : gU32 d v K = x) : (∃ n, v = .int .u32 n ∧ K n = x) ∨ d = x := by
  revert h; unfold gU32
  repeat' first | exact fun h => .inr h | exact fun h => .inl ⟨_, rfl, h⟩ | split
theorem gU16.out {K : Int → β} (h : gU16 d v K = x) : (∃ n, v = .int .u16 n ∧ K n = x) ∨ d = x := by
  revert h; unfold gU16
  repeat' first | exact fun h => .inr h | exact fun h => .inl ⟨_, rfl, h⟩ | split
theorem gU8.out {K : Int → β} (h : gU8 d v K = x) : (∃ n, v = .int .u8 n ∧ K n = x) ∨ d = x := by
  revert h; unfold gU8
  repeat' first | exact fun h => .inr h | exact fun h => .inl ⟨_, rfl, h⟩ | split
theorem gB.out {K : Bool → β} (h : gB d v K = x) : (∃ n, v = .bool n ∧ K n = x) ∨ d = x := by
  revert h; unfold gB
  repeat' first | exact fun h => .inr h | exact fun h => .inl ⟨_, rfl, h⟩ | split
theorem gS.out {K : ByteArray → β} (h : gS d v K = x) : (∃ n, v = .string n ∧ K n = x) ∨ d = x := by
  revert h; unfold gS
  repeat' first | exact fun h => .inr h | exact fun h => .inl ⟨_, rfl, h⟩ | split
theorem gP.out {K : Option Addr → β} (h : gP d v K = x) : (∃ n, v = .pointer n ∧ K n = x) ∨ d = x := by
  revert h; unfold gP
  repeat' first | exact fun h => .inr h | exact fun h => .inl ⟨_, rfl, h⟩ | split
theorem gN.out {K : Nat → Nat → β} (h : gN d v K = x) : (∃ b o, v = .pointer (some ⟨b, o, none⟩) ∧ K b o = x) ∨ d = x := by
  revert h; unfold gN
  repeat' first | exact fun h => .inr h | exact fun h => .inl ⟨_, _, rfl, h⟩ | split
theorem gL.out {K : Option Addr → Nat → Nat → β} (h : gL d v K = x) : (∃ a l c, v = .slice a l c ∧ K a l c = x) ∨ d = x := by
  revert h; unfold gL
  repeat' first | exact fun h => .inr h | exact fun h => .inl ⟨_, _, _, rfl, h⟩ | split
theorem gR.out {K : Value → β} (h : gR d v K = x) : (∃ u, v = u ∧ K u = x) ∨ d = x := .inl ⟨v, rfl, h⟩
theorem gA.out {K : List Value → β} (h : gA d v K = x) : (∃ l : List Value, v = .agg l.toArray ∧ K l = x) ∨ d = x := by
  revert h; unfold gA
  repeat' first | exact fun h => .inr h | exact fun h => .inl ⟨_, by simp, h⟩ | split
theorem gT.out {K : List Value → β} (h : gT d v K = x) : (∃ l : List Value, v = .tuple l.toArray ∧ K l = x) ∨ d = x := by
  revert h; unfold gT
  repeat' first | exact fun h => .inr h | exact fun h => .inl ⟨_, by simp, h⟩ | split
theorem gC.out {K : Value → List Value → β} (h : gC d l K = x) : (∃ u us, l = u :: us ∧ K u us = x) ∨ d = x := by
  revert h; unfold gC
  repeat' first | exact fun h => .inr h | exact fun h => .inl ⟨_, _, rfl, h⟩ | split
theorem gE.out {K : β} (h : gE d l K = x) : (l = [] ∧ K = x) ∨ d = x := by
  revert h; unfold gE
  repeat' first | exact fun h => .inr h | exact fun h => .inl ⟨rfl, h⟩ | split
end
theorem noN {σ : Type} {p : Prop} {s : σ} (h : p ∨ none = some s) : p := h.resolve_right (by simp)

/-! the same, at False -/
section
variable {v : Value} {l : List Value}
theorem gI64.outF {K : Int → Prop} (h : gI64 False v K) : ∃ n, v = .int .i64 n ∧ K n := by
  obtain ⟨n, e, h1⟩ | h1 := gI64.out (d := False) (v := v) (K := K) rfl
  · exact ⟨n, e, h1.mpr h⟩
  · exact (h1.mpr h).elim
theorem gI32.outF {K : Int → Prop} (h : gI32 False v K) : ∃ n, v = .int .i32 n ∧ K n := by
  obtain ⟨n, e, h1⟩ | h1 := gI32.out (d := False) (v := v) (K := K) rfl
  · exact ⟨n, e, h1.mpr h⟩
  · exact (h1.mpr h).elim
theorem gU64.outF {K : Int → Prop} (h : gU64 False v K) : ∃ n, v = .int .u64 n ∧ K n := by
  obtain ⟨n, e, h1⟩ | h1 := gU64.out (d := False) (v := v) (K := K) rfl
  · exact ⟨n, e, h1.mpr h⟩
  · exact (h1.mpr h).elim
theorem gU32.outF {K : Int → Prop} (h : gU32 False v K) : ∃ n, v = .int .u32 n ∧ K n := by
  obtain ⟨n, e, h1⟩ | h1 := gU32.out (d := False) (v := v) (K := K) rfl
  · exact ⟨n, e, h1.mpr h⟩
  · exact (h1.mpr h).elim
theorem gU16.outF {K : Int → Prop} (h : gU16 False v K) : ∃ n, v = .int .u16 n ∧ K n := by
  obtain ⟨n, e, h1⟩ | h1 := gU16.out (d := False) (v := v) (K := K) rfl
  · exact ⟨n, e, h1.mpr h⟩
  · exact (h1.mpr h).elim
theorem gU8.outF {K : Int → Prop} (h : gU8 False v K) : ∃ n, v = .int .u8 n ∧ K n := by
  obtain ⟨n, e, h1⟩ | h1 := gU8.out (d := False) (v := v) (K := K) rfl
  · exact ⟨n, e, h1.mpr h⟩
  · exact (h1.mpr h).elim
theorem gB.outF {K : Bool → Prop} (h : gB False v K) : ∃ n, v = .bool n ∧ K n := by
  obtain ⟨n, e, h1⟩ | h1 := gB.out (d := False) (v := v) (K := K) rfl
  · exact ⟨n, e, h1.mpr h⟩
  · exact (h1.mpr h).elim
theorem gS.outF {K : ByteArray → Prop} (h : gS False v K) : ∃ n, v = .string n ∧ K n := by
  obtain ⟨n, e, h1⟩ | h1 := gS.out (d := False) (v := v) (K := K) rfl
  · exact ⟨n, e, h1.mpr h⟩
  · exact (h1.mpr h).elim
theorem gP.outF {K : Option Addr → Prop} (h : gP False v K) : ∃ n, v = .pointer n ∧ K n := by
  obtain ⟨n, e, h1⟩ | h1 := gP.out (d := False) (v := v) (K := K) rfl
  · exact ⟨n, e, h1.mpr h⟩
  · exact (h1.mpr h).elim
theorem gN.outF {K : Nat → Nat → Prop} (h : gN False v K) : ∃ b o, v = .pointer (some ⟨b, o, none⟩) ∧ K b o := by
  obtain ⟨b, o, e, h1⟩ | h1 := gN.out (d := False) (v := v) (K := K) rfl
  · exact ⟨b, o, e, h1.mpr h⟩
  · exact (h1.mpr h).elim
theorem gL.outF {K : Option Addr → Nat → Nat → Prop} (h : gL False v K) : ∃ a l c, v = .slice a l c ∧ K a l c := by
  obtain ⟨a, l, c, e, h1⟩ | h1 := gL.out (d := False) (v := v) (K := K) rfl
  · exact ⟨a, l, c, e, h1.mpr h⟩
  · exact (h1.mpr h).elim
theorem gR.outF {K : Value → Prop} (h : gR False v K) : ∃ u, v = u ∧ K u := ⟨v, rfl, h⟩
theorem gA.outF {K : List Value → Prop} (h : gA False v K) : ∃ l : List Value, v = .agg l.toArray ∧ K l := by
  obtain ⟨l, e, h1⟩ | h1 := gA.out (d := False) (v := v) (K := K) rfl
  · exact ⟨l, e, h1.mpr h⟩
  · exact (h1.mpr h).elim
theorem gT.outF {K : List Value → Prop} (h : gT False v K) : ∃ l : List Value, v = .tuple l.toArray ∧ K l := by
  obtain ⟨l, e, h1⟩ | h1 := gT.out (d := False) (v := v) (K := K) rfl
  · exact ⟨l, e, h1.mpr h⟩
  · exact (h1.mpr h).elim
theorem gC.outF {K : Value → List Value → Prop} (h : gC False l K) : ∃ v us, l = v :: us ∧ K v us := by
  obtain ⟨v, us, e, h1⟩ | h1 := gC.out (d := False) (l := l) (K := K) rfl
  · exact ⟨v, us, e, h1.mpr h⟩
  · exact (h1.mpr h).elim
theorem gE.outF {K : Prop} (h : gE False l K) : l = [] ∧ K := by
  obtain ⟨e, h1⟩ | h1 := gE.out (d := False) (l := l) (K := K) rfl
  · exact ⟨e, h1.mpr h⟩
  · exact (h1.mpr h).elim
end

def updL (f : Fr) : List (Nat × Value) → Fr
  | [] => f
  | (t, v) :: l => upd (updL f l) t v
theorem updL_self {f : Fr} : ∀ {l : List (Nat × Value)}, (∀ p ∈ l, f p.1 = p.2) → updL f l = f
  | [], _ => rfl
  | (t, v) :: l, h => by
    rw [updL, updL_self (l := l) fun p hp => h p (List.mem_cons_of_mem _ hp)]
    exact upd_self _ _ _ (h (t, v) List.mem_cons_self)
/-- the frame, what is known of it laid open -/
theorem at_frame {f : Fr} (l : List (Nat × Value)) (h : ∀ p ∈ l, f p.1 = p.2) {Q : Fr → Prop} (hq : Q (updL f l)) : Q f := by
  rw [updL_self h] at hq; exact hq

/-! code without cuts does not look at them -/
def noGoto : Code → Bool
  | .goto _ => false
  | .seq a b => noGoto a && noGoto b
  | .cond _ a b => noGoto a && noGoto b
  | .block _ c => noGoto c
  | .scope c => noGoto c
  | .loop c => noGoto c
  | _ => true
theorem sh_anyCut {P : Program} {cut cut' : Nat → Fr → World → Prop} : ∀ {c : Code} {fr : Fr} {w : World} {K : KX}, noGoto c = true → sh P cut c fr w K → sh P cut' c fr w K
  | .skip, _, _, _, _, h => h
  | .label _, _, _, _, _, h => h
  | .region _ _ _, _, _, _, _, h => h
  | .seq a b, fr, w, K, hn, h => by
    simp only [noGoto, Bool.and_eq_true] at hn
    exact sh_mono (c := a) (sh_anyCut (c := a) hn.1 h) (kSeq.mono (fun fr w h => sh_anyCut (c := b) hn.2 h) fun _ _ _ h => h)
  | .cond c a b, fr, w, K, hn, h => by
    simp only [noGoto, Bool.and_eq_true] at hn
    revert h; unfold sh
    split
    · exact fun h => cond_imp (fun h => sh_anyCut hn.1 h) (fun h => sh_anyCut hn.2 h) h
    · exact id
  | .block id c, fr, w, K, hn, h => sh_anyCut (c := c) hn h
  | .loop c, fr, w, K, hn, h => by
    obtain ⟨I, μ, h0, hs⟩ := h
    exact ⟨I, μ, h0, fun fr w hI => sh_anyCut (c := c) hn (hs fr w hI)⟩
  | .exit _, _, _, _, _, h => h
  | .ret, _, _, _, _, h => h
  | .goto _, _, _, _, hn, _ => by cases hn
  | .rangeFunc .., _, _, _, _, h => h
  | .scope c, fr, w, K, hn, h => sh_anyCut (c := c) hn h
  | .refuse _, _, _, _, _, h => h
/-- a table of the library's: how many bits a byte takes -/
def len8tab : ByteArray := ⟨#[0, 1, 2, 2, 3, 3, 3, 3, 4, 4, 4, 4, 4, 4, 4, 4, 5, 5, 5, 5, 5, 5, 5, 5, 5, 5, 5, 5, 5, 5, 5, 5, 6, 6, 6, 6, 6, 6, 6, 6, 6, 6, 6, 6, 6, 6, 6, 6, 6, 6, 6, 6, 6, 6, 6, 6, 6, 6, 6, 6, 6, 6, 6, 6, 7, 7, 7, 7, 7, 7, 7, 7, 7, 7, 7, 7, 7, 7, 7, 7, 7, 7, 7, 7, 7, 7, 7, 7, 7, 7, 7, 7, 7, 7, 7, 7, 7, 7, 7, 7, 7, 7, 7, 7, 7, 7, 7, 7, 7, 7, 7, 7, 7, 7, 7, 7, 7, 7, 7, 7, 7, 7, 7, 7, 7, 7, 7, 7, 8, 8, 8, 8, 8, 8, 8, 8, 8, 8, 8, 8, 8, 8, 8, 8, 8, 8, 8, 8, 8, 8, 8, 8, 8, 8, 8, 8, 8, 8, 8, 8, 8, 8, 8, 8, 8, 8, 8, 8, 8, 8, 8, 8, 8, 8, 8, 8, 8, 8, 8, 8, 8, 8, 8, 8, 8, 8, 8, 8, 8, 8, 8, 8, 8, 8, 8, 8, 8, 8, 8, 8, 8, 8, 8, 8, 8, 8, 8, 8, 8, 8, 8, 8, 8, 8, 8, 8, 8, 8, 8, 8, 8, 8, 8, 8, 8, 8, 8, 8, 8, 8, 8, 8, 8, 8, 8, 8, 8, 8, 8, 8, 8, 8, 8, 8, 8, 8, 8, 8, 8, 8, 8, 8, 8, 8, 8, 8]⟩
def bodyOf (fn : Func) : Code := fn.body.getD .skip
end Go.St

