/- Cursors, plain. -/
import Derived.Test.YtkapfochgkdhaaaGreatCtK
namespace Go.St

structure Cur where
  ver : Nat
  lo : Nat
  hi : Nat
  at' : Nat
  past : Bool
def cAhead (ks : List Nat) (c : Cur) : Cur × Option Nat :=
  if c.past then (c, none) else match nxt c.at' ks with
    | none => ({ c with past := true }, none)
    | some k => if c.hi < k then ({ c with past := true }, none) else ({ c with at' := k }, some k)
def cNext (ks : List Nat) (c : Cur) : Cur × Option Nat :=
  match cAhead ks c with
  | (c, none) => (c, none)
  | (c, some k) => if k = c.hi then ({ c with past := true }, some k) else ({ c with at' := k + 1 }, some k)
def cBack (ks : List Nat) (c : Cur) : Option Nat := if c.past then prv c.hi ks else if c.lo < c.at' then prv (c.at' - 1) ks else none
def cPrev (ks : List Nat) (c : Cur) : Cur × Option Nat :=
  match cBack ks c with
  | none => ({ c with at' := c.lo, past := false }, none)
  | some k => if k < c.lo then ({ c with at' := c.lo, past := false }, none) else ({ c with at' := k, past := false }, some k)
def cSeek (ks : List Nat) (c : Cur) (k : Nat) : Cur × Option Nat := cAhead ks { c with at' := max k c.lo, past := decide (c.hi < k) }
/-- what a move tells -/
def oE (o : Option Nat) (K : Int → Int → Prop) : Prop := match o with
  | some k => K k 0
  | none => K 0 10
structure Cur.Ok (c : Cur) : Prop where
  lo : c.lo < 18446744073709551616
  hi : c.hi < 18446744073709551616
  at' : c.at' < 18446744073709551616
end Go.St
