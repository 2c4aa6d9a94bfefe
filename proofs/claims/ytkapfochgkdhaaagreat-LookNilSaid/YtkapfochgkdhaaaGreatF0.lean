/- Printed forms of functions. -/
import Derived.Test.YtkapfochgkdhaaaGreatStQ
namespace Go.St
open Go Go.Proofs
attribute [local irreducible] sh InvV DynV AppV CpyV ClrV TasV CnvV
set_option linter.unusedVariables false
def bit_Clear.F (n1 : Int) (n2 : Int) (w : World) (K : Int → World → Prop) : Prop :=
  bit_one.C n2 w fun n3 W4 =>
  K (bAndNot .u64 n1 n3) W4
theorem bit_Clear.ok {n1 : Int} {n2 : Int} {w : World} {K : Int → World → Prop} (h : bit_Clear.F n1 n2 w K) : bit_Clear.C n1 n2 w K := by
  refine CallsV.mono (callsV_of_sh prog.mixed prog.noNum (args := [(.int .u64 n1), (.int .i64 n2)]) Tryz.func296 (c := bodyOf Tryz.f296) (by kernel_rfl) (by kernel_rfl) (by kernel_rfl) (R := S_u64.R K) ?_) fun v w1 h => S_u64.out h
  apply kc h; kernel_rfl

def bit_Count.F (n1 : Int) (w : World) (K : Int → World → Prop) : Prop :=
  math_bits_OnesCount64.C n1 w fun n2 W3 =>
  K n2 W3
theorem bit_Count.ok {n1 : Int} {w : World} {K : Int → World → Prop} (h : bit_Count.F n1 w K) : bit_Count.C n1 w K := by
  refine CallsV.mono (callsV_of_sh prog.mixed prog.noNum (args := [(.int .u64 n1)]) Tryz.func451 (c := bodyOf Tryz.f451) (by kernel_rfl) (by kernel_rfl) (by kernel_rfl) (R := S_i64.R K) ?_) fun v w1 h => S_i64.out h
  apply kc h; kernel_rfl

def bit_Get.F (n1 : Int) (n2 : Int) (w : World) (K : Bool → World → Prop) : Prop :=
  bit_one.C n2 w fun n3 W4 =>
  K ((bAnd .u64 n1 n3) != (0 : Int)) W4
theorem bit_Get.ok {n1 : Int} {n2 : Int} {w : World} {K : Bool → World → Prop} (h : bit_Get.F n1 n2 w K) : bit_Get.C n1 n2 w K := by
  refine CallsV.mono (callsV_of_sh prog.mixed prog.noNum (args := [(.int .u64 n1), (.int .i64 n2)]) Tryz.func304 (c := bodyOf Tryz.f304) (by kernel_rfl) (by kernel_rfl) (by kernel_rfl) (R := S_b.R K) ?_) fun v w1 h => S_b.out h
  apply kc h; kernel_rfl

def bit_High.F (n1 : Int) (w : World) (K : Int → World → Prop) : Prop :=
  math_bits_Len64.C n1 w fun n2 W3 =>
  K (w64 (n2 - (1 : Int))) W3
theorem bit_High.ok {n1 : Int} {w : World} {K : Int → World → Prop} (h : bit_High.F n1 w K) : bit_High.C n1 w K := by
  refine CallsV.mono (callsV_of_sh prog.mixed prog.noNum (args := [(.int .u64 n1)]) Tryz.func320 (c := bodyOf Tryz.f320) (by kernel_rfl) (by kernel_rfl) (by kernel_rfl) (R := S_i64.R K) ?_) fun v w1 h => S_i64.out h
  apply kc h; kernel_rfl

def bit_Low.F (n1 : Int) (w : World) (K : Int → World → Prop) : Prop :=
  cond (n1 == (0 : Int))
  (K (-1 : Int) w)
  (math_bits_TrailingZeros64.C n1 w fun n2 W3 =>
  K n2 W3)
theorem bit_Low.ok {n1 : Int} {w : World} {K : Int → World → Prop} (h : bit_Low.F n1 w K) : bit_Low.C n1 w K := by
  refine CallsV.mono (callsV_of_sh prog.mixed prog.noNum (args := [(.int .u64 n1)]) Tryz.func319 (c := bodyOf Tryz.f319) (by kernel_rfl) (by kernel_rfl) (by kernel_rfl) (R := S_i64.R K) ?_) fun v w1 h => S_i64.out h
  apply kc h; kernel_rfl

def bit_Make.B1 (K : Int → World → Prop) (a9 : Option Addr) (l10 : Nat) (c11 : Nat) (n12 : Int) : (Int × Int) → World → ((Int × Int) → World → Prop) → Prop := fun s0 W15 next14 => match s0 with
 | (n8, n13) =>
  cond (decide (n13 < n12))
  (nn a9 fun b16 o17 =>
  0 ≤ n13 ∧ n13 < ((l10 : Nat) : Int) ∧
  lI64 W15 b16 (o17 + Int.toNat n13 * 1) fun n18 =>
  bit_one.C n18 W15 fun n19 W20 =>
  next14 ((bOr .u64 n8 n19), (w64 (n13 + (1 : Int)))) W20)
  (K n8 W15)
def bit_Make.T1 (K : Int → World → Prop) (n8 : Int) (a9 : Option Addr) (l10 : Nat) (c11 : Nat) (n12 : Int) (n13 : Int) (w : World) : Prop := LoopT (bit_Make.B1 K a9 l10 c11 n12) (n8, n13) w
def bit_Make.F (a1 : Option Addr) (l2 : Nat) (c3 : Nat) (w : World) (K : Int → World → Prop) : Prop :=
  bit_Make.T1 K (0 : Int) a1 l2 c3 ((l2 : Nat) : Int) (0 : Int) w
def bit_Make.U0 (K : Int → World → Prop) (l : Nat) (fr : Fr) (w : World) : Prop :=
  match l with
 | 1 =>
  gU64 False (fr 3) fun n8 =>
  gL False (fr 6) fun a9 l10 c11 =>
  gI64 False (fr 7) fun n12 =>
  gI64 False (fr 8) fun n13 =>
  bit_Make.T1 K n8 a9 l10 c11 n12 n13 w
 | _ => False
def bit_Make.ext1 (fr : Fr) : Option (Int × Int) :=
  gU64 none (fr 3) fun n8 =>
  gI64 none (fr 8) fun n13 =>
  some (n8, n13)
theorem bit_Make.U0_ok1 (K : Int → World → Prop) (fr : Fr) (w : World) (h : bit_Make.U0 K 1 fr w) : sh prog (bit_Make.U0 K) (subAt [.R, .R, .L, .R, .B] (bodyOf Tryz.f309)) fr w (ctxAt prog (bit_Make.U0 K) [.R, .R, .L, .R, .B] (bodyOf Tryz.f309) (retK prog Tryz.f309.results.toList (S_u64.R K))) := by
  unfold bit_Make.U0 at h
  simp only at h
  replace h := gU64.outF h; obtain ⟨n8, e21, h⟩ := h
  replace h := gL.outF h; obtain ⟨a9, l10, c11, e22, h⟩ := h
  replace h := gI64.outF h; obtain ⟨n12, e23, h⟩ := h
  replace h := gI64.outF h; obtain ⟨n13, e24, h⟩ := h
  refine kc (A := LoopP (sh prog (bit_Make.U0 K) (loopBody (subAt [.R, .R, .L, .R, .B] (bodyOf Tryz.f309)))) fr w (ctxAt prog (bit_Make.U0 K) [.R, .R, .L, .R, .B] (bodyOf Tryz.f309) (retK prog Tryz.f309.results.toList (S_u64.R K)))) ?_ (by kernel_rfl)
  refine loop_typed (B := bit_Make.B1 K a9 l10 c11 n12) bit_Make.ext1 (s := (n8, n13)) (by unfold bit_Make.ext1; simp only [e21, e24]; rfl) h ?_
  clear h
  clear e21
  clear e24
  intro s0 fr1 w1 next14 hs hk h
  unfold bit_Make.ext1 at hs
  replace hs := noN (gU64.out (d := none) (x := _) hs); obtain ⟨n8a, e25, hs⟩ := hs
  replace hs := noN (gI64.out (d := none) (x := _) hs); obtain ⟨n13a, e26, hs⟩ := hs
  replace hs := Option.some.inj hs; subst hs
  have e27 : fr1 6 = (.slice a9 l10 c11) := (hk 6 (by kernel_rfl)).trans e22
  have e28 : fr1 7 = (.int .i64 n12) := (hk 7 (by kernel_rfl)).trans e23
  refine at_frame [(3, (.int .u64 n8a)), (8, (.int .i64 n13a)), (6, (.slice a9 l10 c11)), (7, (.int .i64 n12))] (by intro p hp; simp only [List.mem_cons, List.not_mem_nil, or_false] at hp; rcases hp with rfl | rfl | rfl | rfl <;> assumption) (Q := fun fr => sh prog (bit_Make.U0 K) (loopBody (subAt [.R, .R, .L, .R, .B] (bodyOf Tryz.f309))) fr w1 (nextK bit_Make.ext1 next14 (ctxAt prog (bit_Make.U0 K) [.R, .R, .L, .R, .B] (bodyOf Tryz.f309) (retK prog Tryz.f309.results.toList (S_u64.R K))))) ?_
  apply kc h; kernel_rfl
theorem bit_Make.ok {a1 : Option Addr} {l2 : Nat} {c3 : Nat} {w : World} {K : Int → World → Prop} (h : bit_Make.F a1 l2 c3 w K) : bit_Make.C a1 l2 c3 w K := by
  refine CallsV.mono (callsV_of_sh prog.mixed prog.noNum (args := [(.slice a1 l2 c3)]) Tryz.func309 (c := bodyOf Tryz.f309) (by kernel_rfl) (by kernel_rfl) (by kernel_rfl) (R := S_u64.R K) ?_) fun v w1 h => S_u64.out h
  refine sh_anyCut (cut := bit_Make.U0 K) (by kernel_rfl) ?_
  refine sh_cutAt (p := [.R, .R, .L, .R, .B]) (l := 1) ?_ (bit_Make.U0_ok1 K)
  apply kc h; kernel_rfl

def bit_Mask.F (n1 : Int) (n2 : Int) (w : World) (K : Int → World → Prop) : Prop :=
  bit_below.C n2 w fun n3 W4 =>
  bit_below.C n1 W4 fun n5 W6 =>
  K (bAndNot .u64 n3 n5) W6
theorem bit_Mask.ok {n1 : Int} {n2 : Int} {w : World} {K : Int → World → Prop} (h : bit_Mask.F n1 n2 w K) : bit_Mask.C n1 n2 w K := by
  refine CallsV.mono (callsV_of_sh prog.mixed prog.noNum (args := [(.int .i64 n1), (.int .i64 n2)]) Tryz.func455 (c := bodyOf Tryz.f455) (by kernel_rfl) (by kernel_rfl) (by kernel_rfl) (R := S_u64.R K) ?_) fun v w1 h => S_u64.out h
  apply kc h; kernel_rfl

def bit_Next.F (n1 : Int) (n2 : Int) (w : World) (K : Int → World → Prop) : Prop :=
  bit_below.C n2 w fun n3 W4 =>
  bit_Low.C (bAndNot .u64 n1 n3) W4 fun n5 W6 =>
  K n5 W6
theorem bit_Next.ok {n1 : Int} {n2 : Int} {w : World} {K : Int → World → Prop} (h : bit_Next.F n1 n2 w K) : bit_Next.C n1 n2 w K := by
  refine CallsV.mono (callsV_of_sh prog.mixed prog.noNum (args := [(.int .u64 n1), (.int .i64 n2)]) Tryz.func313 (c := bodyOf Tryz.f313) (by kernel_rfl) (by kernel_rfl) (by kernel_rfl) (R := S_i64.R K) ?_) fun v w1 h => S_i64.out h
  apply kc h; kernel_rfl

def bit_Prev.F (n1 : Int) (n2 : Int) (w : World) (K : Int → World → Prop) : Prop :=
  cond (decide (n2 < (0 : Int)))
  (K (-1 : Int) w)
  (bit_below.C n2 w fun n3 W4 =>
  bit_one.C n2 W4 fun n5 W6 =>
  bit_High.C (bAnd .u64 n1 (bOr .u64 n3 n5)) W6 fun n7 W8 =>
  K n7 W8)
theorem bit_Prev.ok {n1 : Int} {n2 : Int} {w : World} {K : Int → World → Prop} (h : bit_Prev.F n1 n2 w K) : bit_Prev.C n1 n2 w K := by
  refine CallsV.mono (callsV_of_sh prog.mixed prog.noNum (args := [(.int .u64 n1), (.int .i64 n2)]) Tryz.func315 (c := bodyOf Tryz.f315) (by kernel_rfl) (by kernel_rfl) (by kernel_rfl) (R := S_i64.R K) ?_) fun v w1 h => S_i64.out h
  apply kc h; kernel_rfl

def bit_Rank.F (n1 : Int) (n2 : Int) (w : World) (K : Int → World → Prop) : Prop :=
  bit_below.C n2 w fun n3 W4 =>
  bit_Count.C (bAnd .u64 n1 n3) W4 fun n5 W6 =>
  K n5 W6
theorem bit_Rank.ok {n1 : Int} {n2 : Int} {w : World} {K : Int → World → Prop} (h : bit_Rank.F n1 n2 w K) : bit_Rank.C n1 n2 w K := by
  refine CallsV.mono (callsV_of_sh prog.mixed prog.noNum (args := [(.int .u64 n1), (.int .i64 n2)]) Tryz.func433 (c := bodyOf Tryz.f433) (by kernel_rfl) (by kernel_rfl) (by kernel_rfl) (R := S_i64.R K) ?_) fun v w1 h => S_i64.out h
  apply kc h; kernel_rfl

def bit_Set.F (n1 : Int) (n2 : Int) (w : World) (K : Int → World → Prop) : Prop :=
  bit_one.C n2 w fun n3 W4 =>
  K (bOr .u64 n1 n3) W4
theorem bit_Set.ok {n1 : Int} {n2 : Int} {w : World} {K : Int → World → Prop} (h : bit_Set.F n1 n2 w K) : bit_Set.C n1 n2 w K := by
  refine CallsV.mono (callsV_of_sh prog.mixed prog.noNum (args := [(.int .u64 n1), (.int .i64 n2)]) Tryz.func310 (c := bodyOf Tryz.f310) (by kernel_rfl) (by kernel_rfl) (by kernel_rfl) (R := S_u64.R K) ?_) fun v w1 h => S_u64.out h
  apply kc h; kernel_rfl

def bit_below.F (n1 : Int) (w : World) (K : Int → World → Prop) : Prop :=
  cond (decide (n1 ≤ (0 : Int)))
  (K (0 : Int) w)
  (cond (decide (n1 ≥ (64 : Int)))
  (K (18446744073709551615 : Int) w)
  (shP n1 fun m2 =>
  K (wu64 ((shl .u64 (1 : Int) m2) - (1 : Int))) w))
theorem bit_below.ok {n1 : Int} {w : World} {K : Int → World → Prop} (h : bit_below.F n1 w K) : bit_below.C n1 w K := by
  refine CallsV.mono (callsV_of_sh prog.mixed prog.noNum (args := [(.int .i64 n1)]) Tryz.func321 (c := bodyOf Tryz.f321) (by kernel_rfl) (by kernel_rfl) (by kernel_rfl) (R := S_u64.R K) ?_) fun v w1 h => S_u64.out h
  apply kc h; kernel_rfl

def bit_one.F (n1 : Int) (w : World) (K : Int → World → Prop) : Prop :=
  bit_there.C n1 w fun q2 W3 =>
  cond (!q2)
  (K (0 : Int) W3)
  (shP n1 fun m4 =>
  K (shl .u64 (1 : Int) m4) W3)
theorem bit_one.ok {n1 : Int} {w : World} {K : Int → World → Prop} (h : bit_one.F n1 w K) : bit_one.C n1 w K := by
  refine CallsV.mono (callsV_of_sh prog.mixed prog.noNum (args := [(.int .i64 n1)]) Tryz.func317 (c := bodyOf Tryz.f317) (by kernel_rfl) (by kernel_rfl) (by kernel_rfl) (R := S_u64.R K) ?_) fun v w1 h => S_u64.out h
  apply kc h; kernel_rfl

def bit_there.F (n1 : Int) (w : World) (K : Bool → World → Prop) : Prop :=
  cond (decide (n1 ≥ (0 : Int)))
  (K (decide (n1 < (64 : Int))) w)
  (K false w)
theorem bit_there.ok {n1 : Int} {w : World} {K : Bool → World → Prop} (h : bit_there.F n1 w K) : bit_there.C n1 w K := by
  refine CallsV.mono (callsV_of_sh prog.mixed prog.noNum (args := [(.int .i64 n1)]) Tryz.func322 (c := bodyOf Tryz.f322) (by kernel_rfl) (by kernel_rfl) (by kernel_rfl) (R := S_b.R K) ?_) fun v w1 h => S_b.out h
  apply kc h; kernel_rfl

def cmp_Less_uint64.F (n1 : Int) (n2 : Int) (w : World) (K : Bool → World → Prop) : Prop :=
  cmp_isNaN_uint64.C n1 w fun q3 W4 =>
  cond q3
  (cmp_isNaN_uint64.C n2 W4 fun q5 W6 =>
  cond (!q5)
  (K true W6)
  (K (decide (n1 < n2)) W6))
  (K (decide (n1 < n2)) W4)
theorem cmp_Less_uint64.ok {n1 : Int} {n2 : Int} {w : World} {K : Bool → World → Prop} (h : cmp_Less_uint64.F n1 n2 w K) : cmp_Less_uint64.C n1 n2 w K := by
  refine CallsV.mono (callsV_of_sh prog.mixed prog.noNum (args := [(.int .u64 n1), (.int .u64 n2)]) Tryz.func231 (c := bodyOf Tryz.f231) (by kernel_rfl) (by kernel_rfl) (by kernel_rfl) (R := S_b.R K) ?_) fun v w1 h => S_b.out h
  apply kc h; kernel_rfl

def cmp_isNaN_uint64.F (n1 : Int) (w : World) (K : Bool → World → Prop) : Prop :=
  K (n1 != n1) w
theorem cmp_isNaN_uint64.ok {n1 : Int} {w : World} {K : Bool → World → Prop} (h : cmp_isNaN_uint64.F n1 w K) : cmp_isNaN_uint64.C n1 w K := by
  refine CallsV.mono (callsV_of_sh prog.mixed prog.noNum (args := [(.int .u64 n1)]) Tryz.func246 (c := bodyOf Tryz.f246) (by kernel_rfl) (by kernel_rfl) (by kernel_rfl) (R := S_b.R K) ?_) fun v w1 h => S_b.out h
  apply kc h; kernel_rfl

def count_Meter_Call.F (p1 : Option Addr) (w : World) (K : World → Prop) : Prop :=
  cond (!(Option.isNone p1))
  (nn p1 fun b2 o3 =>
  lI64 w b2 (o3 + 1) fun n4 =>
  nn p1 fun b5 o6 =>
  stP w b5 (o6 + 1) (.int .i64 (w64 (n4 + (1 : Int)))) fun W7 =>
  count_Meter_step.C p1 W7 fun W8 =>
  K W8)
  (K w)
theorem count_Meter_Call.ok {p1 : Option Addr} {w : World} {K : World → Prop} (h : count_Meter_Call.F p1 w K) : count_Meter_Call.C p1 w K := by
  refine CallsV.mono (callsV_of_sh prog.mixed prog.noNum (args := [(.pointer p1)]) Tryz.func222 (c := bodyOf Tryz.f222) (by kernel_rfl) (by kernel_rfl) (by kernel_rfl) (R := S_.R K) ?_) fun v w1 h => S_.out h
  apply kc h; kernel_rfl

def count_Meter_Read.F (p1 : Option Addr) (w : World) (K : World → Prop) : Prop :=
  cond (!(Option.isNone p1))
  (nn p1 fun b2 o3 =>
  lI64 w b2 o3 fun n4 =>
  nn p1 fun b5 o6 =>
  stP w b5 o6 (.int .i64 (w64 (n4 + (1 : Int)))) fun W7 =>
  count_Meter_step.C p1 W7 fun W8 =>
  K W8)
  (K w)
theorem count_Meter_Read.ok {p1 : Option Addr} {w : World} {K : World → Prop} (h : count_Meter_Read.F p1 w K) : count_Meter_Read.C p1 w K := by
  refine CallsV.mono (callsV_of_sh prog.mixed prog.noNum (args := [(.pointer p1)]) Tryz.func203 (c := bodyOf Tryz.f203) (by kernel_rfl) (by kernel_rfl) (by kernel_rfl) (R := S_.R K) ?_) fun v w1 h => S_.out h
  apply kc h; kernel_rfl

def count_Meter_Start.F (p1 : Option Addr) (w : World) (K : World → Prop) : Prop :=
  cond (!(Option.isNone p1))
  (nn p1 fun b2 o3 =>
  stP w b2 (o3 + 2) (.int .i64 (0 : Int)) fun W4 =>
  nn p1 fun b5 o6 =>
  lI64 W4 b5 (o6 + 4) fun n7 =>
  nn p1 fun b8 o9 =>
  stP W4 b8 (o9 + 4) (.int .i64 (w64 (n7 + (1 : Int)))) fun W10 =>
  K W10)
  (K w)
theorem count_Meter_Start.ok {p1 : Option Addr} {w : World} {K : World → Prop} (h : count_Meter_Start.F p1 w K) : count_Meter_Start.C p1 w K := by
  refine CallsV.mono (callsV_of_sh prog.mixed prog.noNum (args := [(.pointer p1)]) Tryz.func303 (c := bodyOf Tryz.f303) (by kernel_rfl) (by kernel_rfl) (by kernel_rfl) (R := S_.R K) ?_) fun v w1 h => S_.out h
  apply kc h; kernel_rfl

def count_Meter_step.F (p1 : Option Addr) (w : World) (K : World → Prop) : Prop :=
  nn p1 fun b2 o3 =>
  lI64 w b2 (o3 + 2) fun n4 =>
  nn p1 fun b5 o6 =>
  stP w b5 (o6 + 2) (.int .i64 (w64 (n4 + (1 : Int)))) fun W7 =>
  drP W7 fun W8 =>
  nn p1 fun b9 o10 =>
  lI64 W8 b9 (o10 + 3) fun n11 =>
  nn p1 fun b12 o13 =>
  lI64 W8 b12 (o13 + 2) fun n14 =>
  nn p1 fun b15 o16 =>
  stP W8 b15 (o16 + 3) (.int .i64 (mxI n11 n14)) fun W17 =>
  K W17
theorem count_Meter_step.ok {p1 : Option Addr} {w : World} {K : World → Prop} (h : count_Meter_step.F p1 w K) : count_Meter_step.C p1 w K := by
  refine CallsV.mono (callsV_of_sh prog.mixed prog.noNum (args := [(.pointer p1)]) Tryz.func223 (c := bodyOf Tryz.f223) (by kernel_rfl) (by kernel_rfl) (by kernel_rfl) (R := S_.R K) ?_) fun v w1 h => S_.out h
  apply kc h; kernel_rfl

def count_New.F (w : World) (K : Option Addr → World → Prop) : Prop :=
  alP w #[(.int .i64 (0 : Int)), (.int .i64 (0 : Int)), (.int .i64 (0 : Int)), (.int .i64 (0 : Int)), (.int .i64 (0 : Int))] 307 fun r1 W2 =>
  K (some ⟨r1, 0, none⟩) W2
theorem count_New.ok {w : World} {K : Option Addr → World → Prop} (h : count_New.F  w K) : count_New.C  w K := by
  refine CallsV.mono (callsV_of_sh prog.mixed prog.noNum (args := []) Tryz.func160 (c := bodyOf Tryz.f160) (by kernel_rfl) (by kernel_rfl) (by kernel_rfl) (R := S_p.R K) ?_) fun v w1 h => S_p.out h
  apply kc h; kernel_rfl

def face_Build.F (n1 : Int) (n2 : Int) (n3 : Int) (a4 : Option Addr) (l5 : Nat) (c6 : Nat) (w : World) (K : Value → Int → World → Prop) : Prop :=
  sift_Of.C a4 l5 c6 w fun x7 W8 =>
  face_fill.C n1 n2 n3 x7 W8 fun x9 n10 W11 =>
  K x9 n10 W11
theorem face_Build.ok {n1 : Int} {n2 : Int} {n3 : Int} {a4 : Option Addr} {l5 : Nat} {c6 : Nat} {w : World} {K : Value → Int → World → Prop} (h : face_Build.F n1 n2 n3 a4 l5 c6 w K) : face_Build.C n1 n2 n3 a4 l5 c6 w K := by
  refine CallsV.mono (callsV_of_sh prog.mixed prog.noNum (args := [(.int .i64 n1), (.int .u64 n2), (.int .i64 n3), (.slice a4 l5 c6)]) Tryz.func45 (c := bodyOf Tryz.f45) (by kernel_rfl) (by kernel_rfl) (by kernel_rfl) (R := S_r_i64.R K) ?_) fun v w1 h => S_r_i64.out h
  apply kc h; kernel_rfl

def face_New.T1 (K : Value → Int → World → Prop) (x9 : Value) (n10 : Int) (W14 : World) : Prop :=
  cond (n10 != (0 : Int))
  (K .nilIface n10 W14)
  (K x9 (0 : Int) W14)
def face_New.F (n1 : Int) (n2 : Int) (n3 : Int) (w : World) (K : Value → Int → World → Prop) : Prop :=
  cond (n1 == (1 : Int))
  (veb_New.C n2 n3 w fun p15 n16 W17 =>
  face_made_veb_VEB.C p15 n16 W17 fun x18 n19 W20 =>
  face_New.T1 K x18 n19 W20)
  (cond (n1 == (2 : Int))
  (xfast_New.C n2 n3 w fun p21 n22 W23 =>
  face_made_xfast_XFast.C p21 n22 W23 fun x24 n25 W26 =>
  face_New.T1 K x24 n25 W26)
  (cond (n1 == (3 : Int))
  (yfast_New.C n2 n3 w fun p27 n28 W29 =>
  face_made_yfast_YFast.C p27 n28 W29 fun x30 n31 W32 =>
  face_New.T1 K x30 n31 W32)
  (cond (n1 == (4 : Int))
  (trie_New.C n3 w fun p33 n34 W35 =>
  face_made_trie_Trie.C p33 n34 W35 fun x36 n37 W38 =>
  face_New.T1 K x36 n37 W38)
  (cond (n1 == (5 : Int))
  (roar_New.C n3 w fun p39 n40 W41 =>
  face_made_roar_Roar.C p39 n40 W41 fun x42 n43 W44 =>
  face_New.T1 K x42 n43 W44)
  (face_New.T1 K .nilIface (1 : Int) w)))))
def face_New.U0 (K : Value → Int → World → Prop) (l : Nat) (fr : Fr) (w : World) : Prop :=
  match l with
 | 1 =>
  gR False (fr 8) fun x9 =>
  gI64 False (fr 9) fun n10 =>
  face_New.T1 K x9 n10 w
 | _ => False
theorem face_New.U0_ok1 (K : Value → Int → World → Prop) (fr : Fr) (w : World) (h : face_New.U0 K 1 fr w) : sh prog (face_New.U0 K) (subAt [.R, .R, .R, .R] (bodyOf Tryz.f40)) fr w (ctxAt prog (face_New.U0 K) [.R, .R, .R, .R] (bodyOf Tryz.f40) (retK prog Tryz.f40.results.toList (S_r_i64.R K))) := by
  unfold face_New.U0 at h
  simp only at h
  replace h := gR.outF h; obtain ⟨x9, e45, h⟩ := h
  replace h := gI64.outF h; obtain ⟨n10, e46, h⟩ := h
  refine at_frame [(8, x9), (9, (.int .i64 n10))] (by intro p hp; simp only [List.mem_cons, List.not_mem_nil, or_false] at hp; rcases hp with rfl | rfl <;> assumption) (Q := fun fr => sh prog (face_New.U0 K) (subAt [.R, .R, .R, .R] (bodyOf Tryz.f40)) fr w (ctxAt prog (face_New.U0 K) [.R, .R, .R, .R] (bodyOf Tryz.f40) (retK prog Tryz.f40.results.toList (S_r_i64.R K)))) ?_
  apply kc h; kernel_rfl
theorem face_New.ok {n1 : Int} {n2 : Int} {n3 : Int} {w : World} {K : Value → Int → World → Prop} (h : face_New.F n1 n2 n3 w K) : face_New.C n1 n2 n3 w K := by
  refine CallsV.mono (callsV_of_sh prog.mixed prog.noNum (args := [(.int .i64 n1), (.int .u64 n2), (.int .i64 n3)]) Tryz.func40 (c := bodyOf Tryz.f40) (by kernel_rfl) (by kernel_rfl) (by kernel_rfl) (R := S_r_i64.R K) ?_) fun v w1 h => S_r_i64.out h
  refine sh_anyCut (cut := face_New.U0 K) (by kernel_rfl) ?_
  refine sh_cutAt (p := [.R, .R, .R, .R]) (l := 1) ?_ (face_New.U0_ok1 K)
  apply kc h; kernel_rfl

def face_fill.T1 (K : Value → Int → World → Prop) (b23 : Nat) (o24 : Nat) (b25 : Nat) (o26 : Nat) (b32 : Nat) (o33 : Nat) (x37 : Value) (W49 : World) : Prop :=
  rfT prog x37 W49 (σ := Int) (fun s0 => match s0 with
 | n38 => [(.int .u64 n38)]) (fun s0 W39 beg40 k41 => match s0 with
 | n38 =>
  beg40 W39 fun W42 =>
  lR W42 b32 o33 fun x43 =>
  InvV prog x43 "Insert" #[(.int .u64 n38)] W42 fun x44 W45 =>
  ∃ (n46 : Int), x44 = (.int .i64 n46) ∧
  cond (n46 == (5 : Int))
  (stP W45 b23 o24 .nilIface fun W47 =>
  stP W47 b25 o26 (.int .i64 (5 : Int)) fun W48 =>
  k41 .ret W48)
  (k41 .normal W45))
  (fun D50 W51 =>
  lR W51 b32 o33 fun x52 =>
  stOne x52 (
  stP W51 b23 o24 x52 fun W53 =>
  stP W53 b25 o26 (.int .i64 (0 : Int)) fun W54 =>
  W54.heap[D50]? = some (.deferred (some [])) ∧
  lR (W54.putObj D50 (.deferred none)) b23 o24 fun x55 =>
  lI64 (W54.putObj D50 (.deferred none)) b25 o26 fun n56 =>
  K x55 n56 (W54.putObj D50 (.deferred none))))
  (fun D57 W58 =>
  W58.heap[D57]? = some (.deferred (some [])) ∧
  lR (W58.putObj D57 (.deferred none)) b23 o24 fun x59 =>
  lI64 (W58.putObj D57 (.deferred none)) b25 o26 fun n60 =>
  K x59 n60 (W58.putObj D57 (.deferred none))) 0
  (fun _ _ => False)
def face_fill.F (n1 : Int) (n2 : Int) (n3 : Int) (x4 : Value) (w : World) (K : Value → Int → World → Prop) : Prop :=
  alP w #[.nilIface] 35 fun r5 W6 =>
  alP W6 #[(.int .i64 (0 : Int))] 26 fun r7 W8 =>
  face_New.C n1 n2 n3 W8 fun x9 n10 W11 =>
  alP W11 #[.nilIface] 35 fun r12 W13 =>
  stOne x9 (
  stP W13 r12 0 x9 fun W14 =>
  cond (n10 != (0 : Int))
  (stP W14 r5 0 .nilIface fun W15 =>
  stP W15 r7 0 (.int .i64 n10) fun W16 =>
  lR W16 r5 0 fun x17 =>
  lI64 W16 r7 0 fun n18 =>
  K x17 n18 W16)
  (face_fill.T1 K r5 0 r7 0 r12 0 x4 W14))
def face_fill.U0 (K : Value → Int → World → Prop) (l : Nat) (fr : Fr) (w : World) : Prop :=
  match l with
 | 1 =>
  gN False (fr 8) fun b23 o24 =>
  gN False (fr 9) fun b25 o26 =>
  gN False (fr 10) fun b32 o33 =>
  gR False (fr 23) fun x37 =>
  face_fill.T1 K b23 o24 b25 o26 b32 o33 x37 w
 | _ => False
theorem face_fill.U0_ok1 (K : Value → Int → World → Prop) (fr : Fr) (w : World) (h : face_fill.U0 K 1 fr w) : rfP prog (ev fr (.tmp 23)) w (rndP prog fr (rfPs (subAt [.R, .R, .R, .L, .R, .B] (bodyOf Tryz.f139))) (rfAs (subAt [.R, .R, .R, .L, .R, .B] (bodyOf Tryz.f139))) (rfBo (subAt [.R, .R, .R, .L, .R, .B] (bodyOf Tryz.f139)))) fun e D W => ctxAt prog noCut [.R, .R, .R, .L, .R, .B] (bodyOf Tryz.f139) (retM prog Tryz.f139.results.toList (S_r_i64.R K) D) e fr W := by
  unfold face_fill.U0 at h
  simp only at h
  replace h := gN.outF h; obtain ⟨b23, o24, e61, h⟩ := h
  replace h := gN.outF h; obtain ⟨b25, o26, e62, h⟩ := h
  replace h := gN.outF h; obtain ⟨b32, o33, e63, h⟩ := h
  replace h := gR.outF h; obtain ⟨x37, e64, h⟩ := h
  refine at_frame [(8, (.pointer (some ⟨b23, o24, none⟩))), (9, (.pointer (some ⟨b25, o26, none⟩))), (10, (.pointer (some ⟨b32, o33, none⟩))), (23, x37)] (by intro p hp; simp only [List.mem_cons, List.not_mem_nil, or_false] at hp; rcases hp with rfl | rfl | rfl | rfl <;> assumption) (Q := fun fr => rfP prog (ev fr (.tmp 23)) w (rndP prog fr (rfPs (subAt [.R, .R, .R, .L, .R, .B] (bodyOf Tryz.f139))) (rfAs (subAt [.R, .R, .R, .L, .R, .B] (bodyOf Tryz.f139))) (rfBo (subAt [.R, .R, .R, .L, .R, .B] (bodyOf Tryz.f139)))) fun e D W => ctxAt prog noCut [.R, .R, .R, .L, .R, .B] (bodyOf Tryz.f139) (retM prog Tryz.f139.results.toList (S_r_i64.R K) D) e fr W) ?_
  refine rf_typed (by kernel_rfl) h ?_ ?_ ?_ ?_
  · rintro n38r W beg k h
    refine ⟨rfl, ?_⟩
    apply kc h; kernel_rfl
  · intro D W h
    first
      | exact h.elim
      | (apply kc h; kernel_rfl)
  · intro D W h
    first
      | exact h.elim
      | (apply kc h; kernel_rfl)
  · intro D W h
    first
      | exact h.elim
      | (apply kc h; kernel_rfl)
theorem face_fill.ok {n1 : Int} {n2 : Int} {n3 : Int} {x4 : Value} {w : World} {K : Value → Int → World → Prop} (h : face_fill.F n1 n2 n3 x4 w K) : face_fill.C n1 n2 n3 x4 w K := by
  refine CallsV.mono (callsV_of_spine prog.mixed prog.noNum (args := [(.int .i64 n1), (.int .u64 n2), (.int .i64 n3), x4]) (l := 1) (cut := face_fill.U0 K) (p := [.R, .R, .R, .L, .R, .B]) Tryz.func139 (c := bodyOf Tryz.f139) (by kernel_rfl) (by kernel_rfl) (by kernel_rfl) (by kernel_rfl) (R := S_r_i64.R K) ?_ (face_fill.U0_ok1 K)) fun v w1 h => S_r_i64.out h
  apply kc h; kernel_rfl

def face_made_veb_VEB.F (p1 : Option Addr) (n2 : Int) (w : World) (K : Value → Int → World → Prop) : Prop :=
  K (.iface 185 (.pointer p1)) n2 w
theorem face_made_veb_VEB.ok {p1 : Option Addr} {n2 : Int} {w : World} {K : Value → Int → World → Prop} (h : face_made_veb_VEB.F p1 n2 w K) : face_made_veb_VEB.C p1 n2 w K := by
  refine CallsV.mono (callsV_of_sh prog.mixed prog.noNum (args := [(.pointer p1), (.int .i64 n2)]) Tryz.func123 (c := bodyOf Tryz.f123) (by kernel_rfl) (by kernel_rfl) (by kernel_rfl) (R := S_r_i64.R K) ?_) fun v w1 h => S_r_i64.out h
  apply kc h; kernel_rfl

def hash_New.F (p1 : Option Addr) (n2 : Int) (w : World) (K : Option Addr → World → Prop) : Prop :=
  cond (Option.isNone p1)
  (count_New.C  w fun p3 W4 =>
  (0 ≤ w64 (8 : Int) ∧ w64 (8 : Int) ≤ w64 (8 : Int) ∧ ((32 : Nat) : Int) * w64 (8 : Int) ≤ 2 ^ 48) ∧
  alP W4 (zrow #[(.int .u8 (0 : Int)), (.int .u64 (0 : Int)), (.int .u64 (0 : Int)), (.bool false)] (Int.toNat (w64 (8 : Int)) * 4)) 319 fun r5 W6 =>
  alP W6 #[(.pointer p3), (.slice (some ⟨r5, 0, none⟩) (Int.toNat (w64 (8 : Int))) (Int.toNat (w64 (8 : Int)))), (.int .u64 n2), (.int .i64 (0 : Int)), (.int .i64 (0 : Int))] 313 fun r7 W8 =>
  K (some ⟨r7, 0, none⟩) W8)
  ((0 ≤ w64 (8 : Int) ∧ w64 (8 : Int) ≤ w64 (8 : Int) ∧ ((32 : Nat) : Int) * w64 (8 : Int) ≤ 2 ^ 48) ∧
  alP w (zrow #[(.int .u8 (0 : Int)), (.int .u64 (0 : Int)), (.int .u64 (0 : Int)), (.bool false)] (Int.toNat (w64 (8 : Int)) * 4)) 319 fun r9 W10 =>
  alP W10 #[(.pointer p1), (.slice (some ⟨r9, 0, none⟩) (Int.toNat (w64 (8 : Int))) (Int.toNat (w64 (8 : Int)))), (.int .u64 n2), (.int .i64 (0 : Int)), (.int .i64 (0 : Int))] 313 fun r11 W12 =>
  K (some ⟨r11, 0, none⟩) W12)
theorem hash_New.ok {p1 : Option Addr} {n2 : Int} {w : World} {K : Option Addr → World → Prop} (h : hash_New.F p1 n2 w K) : hash_New.C p1 n2 w K := by
  refine CallsV.mono (callsV_of_sh prog.mixed prog.noNum (args := [(.pointer p1), (.int .u64 n2)]) Tryz.func162 (c := bodyOf Tryz.f162) (by kernel_rfl) (by kernel_rfl) (by kernel_rfl) (R := S_p.R K) ?_) fun v w1 h => S_p.out h
  apply kc h; kernel_rfl

def hash_Table_Clear.F (p1 : Option Addr) (w : World) (K : World → Prop) : Prop :=
  cond (!(Option.isNone p1))
  ((0 ≤ w64 (8 : Int) ∧ w64 (8 : Int) ≤ w64 (8 : Int) ∧ ((32 : Nat) : Int) * w64 (8 : Int) ≤ 2 ^ 48) ∧
  alP w (zrow #[(.int .u8 (0 : Int)), (.int .u64 (0 : Int)), (.int .u64 (0 : Int)), (.bool false)] (Int.toNat (w64 (8 : Int)) * 4)) 319 fun r2 W3 =>
  nn p1 fun b4 o5 =>
  stP W3 b4 (o5 + 1) (.slice (some ⟨r2, 0, none⟩) (Int.toNat (w64 (8 : Int))) (Int.toNat (w64 (8 : Int)))) fun W6 =>
  nn p1 fun b7 o8 =>
  stP W6 b7 (o8 + 3) (.int .i64 (0 : Int)) fun W9 =>
  nn p1 fun b10 o11 =>
  stP W9 b10 (o11 + 4) (.int .i64 (0 : Int)) fun W12 =>
  K W12)
  (K w)
theorem hash_Table_Clear.ok {p1 : Option Addr} {w : World} {K : World → Prop} (h : hash_Table_Clear.F p1 w K) : hash_Table_Clear.C p1 w K := by
  refine CallsV.mono (callsV_of_sh prog.mixed prog.noNum (args := [(.pointer p1)]) Tryz.func190 (c := bodyOf Tryz.f190) (by kernel_rfl) (by kernel_rfl) (by kernel_rfl) (R := S_.R K) ?_) fun v w1 h => S_.out h
  apply kc h; kernel_rfl

def hash_Table_Drop.T1 (K : Bool → World → Prop) (p11 : Option Addr) (n17 : Int) (W46 : World) : Prop :=
  nn p11 fun b47 o48 =>
  lL W46 b47 (o48 + 1) fun a49 l50 c51 =>
  nn a49 fun b52 o53 =>
  0 ≤ n17 ∧ n17 < ((l50 : Nat) : Int) ∧
  stCs b52 (o53 + Int.toNat n17 * 4) [(.int .u8 (0 : Int)), (.int .u64 (0 : Int)), (.int .u64 (0 : Int)), (.bool false)] W46 fun W54 =>
  nn p11 fun b55 o56 =>
  lI64 W54 b55 (o56 + 3) fun n57 =>
  nn p11 fun b58 o59 =>
  stP W54 b58 (o59 + 3) (.int .i64 (w64 (n57 - (1 : Int)))) fun W60 =>
  drP W60 fun W61 =>
  nn p11 fun b62 o63 =>
  lL W61 b62 (o63 + 1) fun a64 l65 c66 =>
  cond (decide (((l65 : Nat) : Int) > (8 : Int)))
  (nn p11 fun b67 o68 =>
  lI64 W61 b67 (o68 + 3) fun n69 =>
  nn p11 fun b70 o71 =>
  lL W61 b70 (o71 + 1) fun a72 l73 c74 =>
  cond (decide ((w64 ((8 : Int) * n69)) < ((l73 : Nat) : Int)))
  (nn p11 fun b75 o76 =>
  lL W61 b75 (o76 + 1) fun a77 l78 c79 =>
  hash_Table_rehash.C p11 (w64 (Int.tdiv ((l78 : Nat) : Int) (2 : Int))) W61 fun W80 =>
  K true W80)
  (K true W61))
  (K true W61)
def hash_Table_Drop.B2 (K : Bool → World → Prop) (p83 : Option Addr) : (Int × Int) → World → ((Int × Int) → World → Prop) → Prop := fun s0 W105 next104 => match s0 with
 | (n96, n103) =>
  nn p83 fun b106 o107 =>
  lL W105 b106 (o107 + 1) fun a108 l109 c110 =>
  nn a108 fun b111 o112 =>
  0 ≤ n103 ∧ n103 < ((l109 : Nat) : Int) ∧
  lB W105 b111 ((o112 + Int.toNat n103 * 4) + 3) fun q113 =>
  cond q113
  (nn p83 fun b114 o115 =>
  lL W105 b114 (o115 + 1) fun a116 l117 c118 =>
  nn a116 fun b119 o120 =>
  0 ≤ n103 ∧ n103 < ((l117 : Nat) : Int) ∧
  lAu8_u64 W105 b119 (o120 + Int.toNat n103 * 4) fun n121 n122 =>
  hash_Table_home.C p83 n121 n122 W105 fun n123 W124 =>
  hash_Table_far.C p83 n123 n103 W124 fun n125 W126 =>
  hash_Table_far.C p83 n96 n103 W126 fun n127 W128 =>
  cond (decide (n125 ≥ n127))
  (drP W128 fun W129 =>
  nn p83 fun b130 o131 =>
  lL W129 b130 (o131 + 1) fun a132 l133 c134 =>
  nn p83 fun b135 o136 =>
  lL W129 b135 (o136 + 1) fun a137 l138 c139 =>
  nn a137 fun b140 o141 =>
  0 ≤ n103 ∧ n103 < ((l138 : Nat) : Int) ∧
  lAu8_u64_u64_b W129 b140 (o141 + Int.toNat n103 * 4) fun n142 n143 n144 q145 =>
  nn a132 fun b146 o147 =>
  0 ≤ n96 ∧ n96 < ((l133 : Nat) : Int) ∧
  stCs b146 (o147 + Int.toNat n96 * 4) [(.int .u8 n142), (.int .u64 n143), (.int .u64 n144), (.bool q145)] W129 fun W148 =>
  hash_Table_next.C p83 n103 W148 fun n149 W150 =>
  next104 (n103, n149) W150)
  (hash_Table_next.C p83 n103 W128 fun n151 W152 =>
  next104 (n96, n151) W152))
  (hash_Table_Drop.T1 K p83 n96 W105)
def hash_Table_Drop.T2 (K : Bool → World → Prop) (p83 : Option Addr) (n96 : Int) (n103 : Int) (w : World) : Prop := LoopT (hash_Table_Drop.B2 K p83) (n96, n103) w
def hash_Table_Drop.F (p1 : Option Addr) (n2 : Int) (n3 : Int) (w : World) (K : Bool → World → Prop) : Prop :=
  alP w #[(.int .u8 n2), (.int .u64 n3)] 258 fun r4 W5 =>
  cond (Option.isNone p1)
  (K false W5)
  (lAu8_u64 W5 r4 0 fun n6 n7 =>
  hash_Table_find.C p1 n6 n7 W5 fun n8 q9 W10 =>
  cond (!q9)
  (K false W10)
  (hash_Table_next.C p1 n8 W10 fun n81 W82 =>
  hash_Table_Drop.T2 K p1 n8 n81 W82))
def hash_Table_Drop.U0 (K : Bool → World → Prop) (l : Nat) (fr : Fr) (w : World) : Prop :=
  match l with
 | 1 =>
  gP False (fr 0) fun p11 =>
  gI64 False (fr 5) fun n17 =>
  hash_Table_Drop.T1 K p11 n17 w
 | 2 =>
  gP False (fr 0) fun p83 =>
  gI64 False (fr 5) fun n96 =>
  gI64 False (fr 7) fun n103 =>
  hash_Table_Drop.T2 K p83 n96 n103 w
 | _ => False
def hash_Table_Drop.ext2 (fr : Fr) : Option (Int × Int) :=
  gI64 none (fr 5) fun n96 =>
  gI64 none (fr 7) fun n103 =>
  some (n96, n103)
theorem hash_Table_Drop.U0_ok1 (K : Bool → World → Prop) (fr : Fr) (w : World) (h : hash_Table_Drop.U0 K 1 fr w) : sh prog (hash_Table_Drop.U0 K) (subAt [.R, .R, .R, .R, .R] (bodyOf Tryz.f171)) fr w (ctxAt prog (hash_Table_Drop.U0 K) [.R, .R, .R, .R, .R] (bodyOf Tryz.f171) (retK prog Tryz.f171.results.toList (S_b.R K))) := by
  unfold hash_Table_Drop.U0 at h
  simp only at h
  replace h := gP.outF h; obtain ⟨p11, e153, h⟩ := h
  replace h := gI64.outF h; obtain ⟨n17, e154, h⟩ := h
  refine at_frame [(0, (.pointer p11)), (5, (.int .i64 n17))] (by intro p hp; simp only [List.mem_cons, List.not_mem_nil, or_false] at hp; rcases hp with rfl | rfl <;> assumption) (Q := fun fr => sh prog (hash_Table_Drop.U0 K) (subAt [.R, .R, .R, .R, .R] (bodyOf Tryz.f171)) fr w (ctxAt prog (hash_Table_Drop.U0 K) [.R, .R, .R, .R, .R] (bodyOf Tryz.f171) (retK prog Tryz.f171.results.toList (S_b.R K)))) ?_
  apply kc h; kernel_rfl
theorem hash_Table_Drop.U0_ok2 (K : Bool → World → Prop) (fr : Fr) (w : World) (h : hash_Table_Drop.U0 K 2 fr w) : sh prog (hash_Table_Drop.U0 K) (subAt [.R, .R, .R, .R, .L, .R, .B] (cutAt 1 [.R, .R, .R, .R, .R] (bodyOf Tryz.f171))) fr w (ctxAt prog (hash_Table_Drop.U0 K) [.R, .R, .R, .R, .L, .R, .B] (cutAt 1 [.R, .R, .R, .R, .R] (bodyOf Tryz.f171)) (retK prog Tryz.f171.results.toList (S_b.R K))) := by
  unfold hash_Table_Drop.U0 at h
  simp only at h
  replace h := gP.outF h; obtain ⟨p83, e155, h⟩ := h
  replace h := gI64.outF h; obtain ⟨n96, e156, h⟩ := h
  replace h := gI64.outF h; obtain ⟨n103, e157, h⟩ := h
  refine kc (A := LoopP (sh prog (hash_Table_Drop.U0 K) (loopBody (subAt [.R, .R, .R, .R, .L, .R, .B] (cutAt 1 [.R, .R, .R, .R, .R] (bodyOf Tryz.f171))))) fr w (ctxAt prog (hash_Table_Drop.U0 K) [.R, .R, .R, .R, .L, .R, .B] (cutAt 1 [.R, .R, .R, .R, .R] (bodyOf Tryz.f171)) (retK prog Tryz.f171.results.toList (S_b.R K)))) ?_ (by kernel_rfl)
  refine loop_typed (B := hash_Table_Drop.B2 K p83) hash_Table_Drop.ext2 (s := (n96, n103)) (by unfold hash_Table_Drop.ext2; simp only [e156, e157]; rfl) h ?_
  clear h
  clear e156
  clear e157
  intro s0 fr1 w1 next104 hs hk h
  unfold hash_Table_Drop.ext2 at hs
  replace hs := noN (gI64.out (d := none) (x := _) hs); obtain ⟨n96a, e158, hs⟩ := hs
  replace hs := noN (gI64.out (d := none) (x := _) hs); obtain ⟨n103a, e159, hs⟩ := hs
  replace hs := Option.some.inj hs; subst hs
  have e160 : fr1 0 = (.pointer p83) := (hk 0 (by kernel_rfl)).trans e155
  refine at_frame [(5, (.int .i64 n96a)), (7, (.int .i64 n103a)), (0, (.pointer p83))] (by intro p hp; simp only [List.mem_cons, List.not_mem_nil, or_false] at hp; rcases hp with rfl | rfl | rfl <;> assumption) (Q := fun fr => sh prog (hash_Table_Drop.U0 K) (loopBody (subAt [.R, .R, .R, .R, .L, .R, .B] (cutAt 1 [.R, .R, .R, .R, .R] (bodyOf Tryz.f171)))) fr w1 (nextK hash_Table_Drop.ext2 next104 (ctxAt prog (hash_Table_Drop.U0 K) [.R, .R, .R, .R, .L, .R, .B] (cutAt 1 [.R, .R, .R, .R, .R] (bodyOf Tryz.f171)) (retK prog Tryz.f171.results.toList (S_b.R K))))) ?_
  apply kc h; kernel_rfl
theorem hash_Table_Drop.ok {p1 : Option Addr} {n2 : Int} {n3 : Int} {w : World} {K : Bool → World → Prop} (h : hash_Table_Drop.F p1 n2 n3 w K) : hash_Table_Drop.C p1 n2 n3 w K := by
  refine CallsV.mono (callsV_of_sh prog.mixed prog.noNum (args := [(.pointer p1), (.agg #[(.int .u8 n2), (.int .u64 n3)])]) Tryz.func171 (c := bodyOf Tryz.f171) (by kernel_rfl) (by kernel_rfl) (by kernel_rfl) (R := S_b.R K) ?_) fun v w1 h => S_b.out h
  refine sh_anyCut (cut := hash_Table_Drop.U0 K) (by kernel_rfl) ?_
  refine sh_cutAt (p := [.R, .R, .R, .R, .R]) (l := 1) ?_ (hash_Table_Drop.U0_ok1 K)
  refine sh_cutAt (p := [.R, .R, .R, .R, .L, .R, .B]) (l := 2) ?_ (hash_Table_Drop.U0_ok2 K)
  apply kc h; kernel_rfl

def hash_Table_Get.F (p1 : Option Addr) (n2 : Int) (n3 : Int) (w : World) (K : Int → Bool → World → Prop) : Prop :=
  alP w #[(.int .u8 n2), (.int .u64 n3)] 258 fun r4 W5 =>
  cond (Option.isNone p1)
  (K (0 : Int) false W5)
  (nn p1 fun b6 o7 =>
  lP W5 b6 o7 fun p8 =>
  count_Meter_Call.C p8 W5 fun W9 =>
  lAu8_u64 W9 r4 0 fun n10 n11 =>
  hash_Table_find.C p1 n10 n11 W9 fun n12 q13 W14 =>
  cond (!q13)
  (K (0 : Int) false W14)
  (nn p1 fun b15 o16 =>
  lL W14 b15 (o16 + 1) fun a17 l18 c19 =>
  nn a17 fun b20 o21 =>
  0 ≤ n12 ∧ n12 < ((l18 : Nat) : Int) ∧
  lU64 W14 b20 ((o21 + Int.toNat n12 * 4) + 2) fun n22 =>
  K n22 true W14))
theorem hash_Table_Get.ok {p1 : Option Addr} {n2 : Int} {n3 : Int} {w : World} {K : Int → Bool → World → Prop} (h : hash_Table_Get.F p1 n2 n3 w K) : hash_Table_Get.C p1 n2 n3 w K := by
  refine CallsV.mono (callsV_of_sh prog.mixed prog.noNum (args := [(.pointer p1), (.agg #[(.int .u8 n2), (.int .u64 n3)])]) Tryz.func198 (c := bodyOf Tryz.f198) (by kernel_rfl) (by kernel_rfl) (by kernel_rfl) (R := S_u64_b.R K) ?_) fun v w1 h => S_u64_b.out h
  apply kc h; kernel_rfl

def hash_Table_Len.F (p1 : Option Addr) (w : World) (K : Int → World → Prop) : Prop :=
  cond (Option.isNone p1)
  (K (0 : Int) w)
  (nn p1 fun b2 o3 =>
  lI64 w b2 (o3 + 3) fun n4 =>
  K n4 w)
theorem hash_Table_Len.ok {p1 : Option Addr} {w : World} {K : Int → World → Prop} (h : hash_Table_Len.F p1 w K) : hash_Table_Len.C p1 w K := by
  refine CallsV.mono (callsV_of_sh prog.mixed prog.noNum (args := [(.pointer p1)]) Tryz.func354 (c := bodyOf Tryz.f354) (by kernel_rfl) (by kernel_rfl) (by kernel_rfl) (R := S_i64.R K) ?_) fun v w1 h => S_i64.out h
  apply kc h; kernel_rfl

def hash_Table_Put.F (p1 : Option Addr) (n2 : Int) (n3 : Int) (n4 : Int) (w : World) (K : Bool → World → Prop) : Prop :=
  alP w #[(.int .u8 n2), (.int .u64 n3)] 258 fun r5 W6 =>
  cond (Option.isNone p1)
  (K false W6)
  (lAu8_u64 W6 r5 0 fun n7 n8 =>
  hash_Table_find.C p1 n7 n8 W6 fun n9 q10 W11 =>
  cond q10
  (nn p1 fun b12 o13 =>
  lL W11 b12 (o13 + 1) fun a14 l15 c16 =>
  nn a14 fun b17 o18 =>
  0 ≤ n9 ∧ n9 < ((l15 : Nat) : Int) ∧
  stP W11 b17 ((o18 + Int.toNat n9 * 4) + 2) (.int .u64 n4) fun W19 =>
  K false W19)
  (drP W11 fun W20 =>
  nn p1 fun b21 o22 =>
  lL W20 b21 (o22 + 1) fun a23 l24 c25 =>
  lAu8_u64 W20 r5 0 fun n26 n27 =>
  nn a23 fun b28 o29 =>
  0 ≤ n9 ∧ n9 < ((l24 : Nat) : Int) ∧
  stCs b28 (o29 + Int.toNat n9 * 4) [(.int .u8 n26), (.int .u64 n27), (.int .u64 n4), (.bool true)] W20 fun W30 =>
  nn p1 fun b31 o32 =>
  lI64 W30 b31 (o32 + 3) fun n33 =>
  nn p1 fun b34 o35 =>
  stP W30 b34 (o35 + 3) (.int .i64 (w64 (n33 + (1 : Int)))) fun W36 =>
  drP W36 fun W37 =>
  nn p1 fun b38 o39 =>
  lI64 W37 b38 (o39 + 3) fun n40 =>
  nn p1 fun b41 o42 =>
  lL W37 b41 (o42 + 1) fun a43 l44 c45 =>
  cond (decide ((w64 ((2 : Int) * n40)) > ((l44 : Nat) : Int)))
  (nn p1 fun b46 o47 =>
  lL W37 b46 (o47 + 1) fun a48 l49 c50 =>
  hash_Table_rehash.C p1 (w64 ((2 : Int) * ((l49 : Nat) : Int))) W37 fun W51 =>
  K true W51)
  (K true W37)))
theorem hash_Table_Put.ok {p1 : Option Addr} {n2 : Int} {n3 : Int} {n4 : Int} {w : World} {K : Bool → World → Prop} (h : hash_Table_Put.F p1 n2 n3 n4 w K) : hash_Table_Put.C p1 n2 n3 n4 w K := by
  refine CallsV.mono (callsV_of_sh prog.mixed prog.noNum (args := [(.pointer p1), (.agg #[(.int .u8 n2), (.int .u64 n3)]), (.int .u64 n4)]) Tryz.func167 (c := bodyOf Tryz.f167) (by kernel_rfl) (by kernel_rfl) (by kernel_rfl) (R := S_b.R K) ?_) fun v w1 h => S_b.out h
  apply kc h; kernel_rfl

def hash_Table_far.F (p1 : Option Addr) (n2 : Int) (n3 : Int) (w : World) (K : Int → World → Prop) : Prop :=
  nn p1 fun b4 o5 =>
  lL w b4 (o5 + 1) fun a6 l7 c8 =>
  K (bAnd .i64 (w64 (n3 - n2)) (w64 (((l7 : Nat) : Int) - (1 : Int)))) w
theorem hash_Table_far.ok {p1 : Option Addr} {n2 : Int} {n3 : Int} {w : World} {K : Int → World → Prop} (h : hash_Table_far.F p1 n2 n3 w K) : hash_Table_far.C p1 n2 n3 w K := by
  refine CallsV.mono (callsV_of_sh prog.mixed prog.noNum (args := [(.pointer p1), (.int .i64 n2), (.int .i64 n3)]) Tryz.func205 (c := bodyOf Tryz.f205) (by kernel_rfl) (by kernel_rfl) (by kernel_rfl) (R := S_i64.R K) ?_) fun v w1 h => S_i64.out h
  apply kc h; kernel_rfl

def hash_Table_find.T1 (K : Int → Bool → World → Prop) (p13 : Option Addr) (n20 : Int) (W46 : World) : Prop :=
  drP W46 fun W47 =>
  nn p13 fun b48 o49 =>
  lL W47 b48 (o49 + 1) fun a50 l51 c52 =>
  nn a50 fun b53 o54 =>
  0 ≤ n20 ∧ n20 < ((l51 : Nat) : Int) ∧
  lB W47 b53 ((o54 + Int.toNat n20 * 4) + 3) fun q55 =>
  K n20 q55 W47
def hash_Table_find.B2 (K : Int → Bool → World → Prop) (p56 : Option Addr) (b59 : Nat) (o60 : Nat) : Int → World → ((Int) → World → Prop) → Prop := fun s0 W74 next73 => match s0 with
 | n72 =>
  drP W74 fun W75 =>
  nn p56 fun b76 o77 =>
  lL W75 b76 (o77 + 1) fun a78 l79 c80 =>
  nn a78 fun b81 o82 =>
  0 ≤ n72 ∧ n72 < ((l79 : Nat) : Int) ∧
  lB W75 b81 ((o82 + Int.toNat n72 * 4) + 3) fun q83 =>
  cond q83
  (nn p56 fun b84 o85 =>
  lL W75 b84 (o85 + 1) fun a86 l87 c88 =>
  nn a86 fun b89 o90 =>
  0 ≤ n72 ∧ n72 < ((l87 : Nat) : Int) ∧
  lAu8_u64 W75 b89 (o90 + Int.toNat n72 * 4) fun n91 n92 =>
  lAu8_u64 W75 b59 o60 fun n93 n94 =>
  cond (!((n91 == n93) && ((n92 == n94) && true)))
  (hash_Table_next.C p56 n72 W75 fun n95 W96 =>
  nn p56 fun b97 o98 =>
  lI64 W96 b97 (o98 + 4) fun n99 =>
  nn p56 fun b100 o101 =>
  stP W96 b100 (o101 + 4) (.int .i64 (w64 (n99 + (1 : Int)))) fun W102 =>
  next73 n95 W102)
  (hash_Table_find.T1 K p56 n72 W75))
  (hash_Table_find.T1 K p56 n72 W75)
def hash_Table_find.T2 (K : Int → Bool → World → Prop) (p56 : Option Addr) (b59 : Nat) (o60 : Nat) (n72 : Int) (w : World) : Prop := LoopT (hash_Table_find.B2 K p56 b59 o60) n72 w
def hash_Table_find.F (p1 : Option Addr) (n2 : Int) (n3 : Int) (w : World) (K : Int → Bool → World → Prop) : Prop :=
  alP w #[(.int .u8 n2), (.int .u64 n3)] 258 fun r4 W5 =>
  nn p1 fun b6 o7 =>
  stP W5 b6 (o7 + 4) (.int .i64 (1 : Int)) fun W8 =>
  lAu8_u64 W8 r4 0 fun n9 n10 =>
  hash_Table_home.C p1 n9 n10 W8 fun n11 W12 =>
  hash_Table_find.T2 K p1 r4 0 n11 W12
def hash_Table_find.U0 (K : Int → Bool → World → Prop) (l : Nat) (fr : Fr) (w : World) : Prop :=
  match l with
 | 1 =>
  gP False (fr 0) fun p13 =>
  gI64 False (fr 6) fun n20 =>
  hash_Table_find.T1 K p13 n20 w
 | 2 =>
  gP False (fr 0) fun p56 =>
  gN False (fr 3) fun b59 o60 =>
  gI64 False (fr 6) fun n72 =>
  hash_Table_find.T2 K p56 b59 o60 n72 w
 | _ => False
def hash_Table_find.ext2 (fr : Fr) : Option (Int) :=
  gI64 none (fr 6) fun n72 =>
  some n72
theorem hash_Table_find.U0_ok1 (K : Int → Bool → World → Prop) (fr : Fr) (w : World) (h : hash_Table_find.U0 K 1 fr w) : sh prog (hash_Table_find.U0 K) (subAt [.R, .R, .R, .R] (bodyOf Tryz.f200)) fr w (ctxAt prog (hash_Table_find.U0 K) [.R, .R, .R, .R] (bodyOf Tryz.f200) (retK prog Tryz.f200.results.toList (S_i64_b.R K))) := by
  unfold hash_Table_find.U0 at h
  simp only at h
  replace h := gP.outF h; obtain ⟨p13, e103, h⟩ := h
  replace h := gI64.outF h; obtain ⟨n20, e104, h⟩ := h
  refine at_frame [(0, (.pointer p13)), (6, (.int .i64 n20))] (by intro p hp; simp only [List.mem_cons, List.not_mem_nil, or_false] at hp; rcases hp with rfl | rfl <;> assumption) (Q := fun fr => sh prog (hash_Table_find.U0 K) (subAt [.R, .R, .R, .R] (bodyOf Tryz.f200)) fr w (ctxAt prog (hash_Table_find.U0 K) [.R, .R, .R, .R] (bodyOf Tryz.f200) (retK prog Tryz.f200.results.toList (S_i64_b.R K)))) ?_
  apply kc h; kernel_rfl
theorem hash_Table_find.U0_ok2 (K : Int → Bool → World → Prop) (fr : Fr) (w : World) (h : hash_Table_find.U0 K 2 fr w) : sh prog (hash_Table_find.U0 K) (subAt [.R, .R, .R, .L, .B] (cutAt 1 [.R, .R, .R, .R] (bodyOf Tryz.f200))) fr w (ctxAt prog (hash_Table_find.U0 K) [.R, .R, .R, .L, .B] (cutAt 1 [.R, .R, .R, .R] (bodyOf Tryz.f200)) (retK prog Tryz.f200.results.toList (S_i64_b.R K))) := by
  unfold hash_Table_find.U0 at h
  simp only at h
  replace h := gP.outF h; obtain ⟨p56, e105, h⟩ := h
  replace h := gN.outF h; obtain ⟨b59, o60, e106, h⟩ := h
  replace h := gI64.outF h; obtain ⟨n72, e107, h⟩ := h
  refine kc (A := LoopP (sh prog (hash_Table_find.U0 K) (loopBody (subAt [.R, .R, .R, .L, .B] (cutAt 1 [.R, .R, .R, .R] (bodyOf Tryz.f200))))) fr w (ctxAt prog (hash_Table_find.U0 K) [.R, .R, .R, .L, .B] (cutAt 1 [.R, .R, .R, .R] (bodyOf Tryz.f200)) (retK prog Tryz.f200.results.toList (S_i64_b.R K)))) ?_ (by kernel_rfl)
  refine loop_typed (B := hash_Table_find.B2 K p56 b59 o60) hash_Table_find.ext2 (s := n72) (by unfold hash_Table_find.ext2; simp only [e107]; rfl) h ?_
  clear h
  clear e107
  intro s0 fr1 w1 next73 hs hk h
  unfold hash_Table_find.ext2 at hs
  replace hs := noN (gI64.out (d := none) (x := _) hs); obtain ⟨n72a, e108, hs⟩ := hs
  replace hs := Option.some.inj hs; subst hs
  have e109 : fr1 0 = (.pointer p56) := (hk 0 (by kernel_rfl)).trans e105
  have e110 : fr1 3 = (.pointer (some ⟨b59, o60, none⟩)) := (hk 3 (by kernel_rfl)).trans e106
  refine at_frame [(6, (.int .i64 n72a)), (0, (.pointer p56)), (3, (.pointer (some ⟨b59, o60, none⟩)))] (by intro p hp; simp only [List.mem_cons, List.not_mem_nil, or_false] at hp; rcases hp with rfl | rfl | rfl <;> assumption) (Q := fun fr => sh prog (hash_Table_find.U0 K) (loopBody (subAt [.R, .R, .R, .L, .B] (cutAt 1 [.R, .R, .R, .R] (bodyOf Tryz.f200)))) fr w1 (nextK hash_Table_find.ext2 next73 (ctxAt prog (hash_Table_find.U0 K) [.R, .R, .R, .L, .B] (cutAt 1 [.R, .R, .R, .R] (bodyOf Tryz.f200)) (retK prog Tryz.f200.results.toList (S_i64_b.R K))))) ?_
  apply kc h; kernel_rfl
theorem hash_Table_find.ok {p1 : Option Addr} {n2 : Int} {n3 : Int} {w : World} {K : Int → Bool → World → Prop} (h : hash_Table_find.F p1 n2 n3 w K) : hash_Table_find.C p1 n2 n3 w K := by
  refine CallsV.mono (callsV_of_sh prog.mixed prog.noNum (args := [(.pointer p1), (.agg #[(.int .u8 n2), (.int .u64 n3)])]) Tryz.func200 (c := bodyOf Tryz.f200) (by kernel_rfl) (by kernel_rfl) (by kernel_rfl) (R := S_i64_b.R K) ?_) fun v w1 h => S_i64_b.out h
  refine sh_anyCut (cut := hash_Table_find.U0 K) (by kernel_rfl) ?_
  refine sh_cutAt (p := [.R, .R, .R, .R]) (l := 1) ?_ (hash_Table_find.U0_ok1 K)
  refine sh_cutAt (p := [.R, .R, .R, .L, .B]) (l := 2) ?_ (hash_Table_find.U0_ok2 K)
  apply kc h; kernel_rfl

def hash_Table_home.F (p1 : Option Addr) (n2 : Int) (n3 : Int) (w : World) (K : Int → World → Prop) : Prop :=
  alP w #[(.int .u8 n2), (.int .u64 n3)] 258 fun r4 W5 =>
  drP W5 fun W6 =>
  lU64 W6 r4 1 fun n7 =>
  lU8 W6 r4 0 fun n8 =>
  hash_Table_odd.C p1 (0 : Int) W6 fun n9 W10 =>
  cellsAre W10 r4 0 [(.int .u8 n8)] ∧
  cellsAre W10 r4 1 [(.int .u64 n7)] ∧
  hash_Table_odd.C p1 (23 : Int) W10 fun n11 W12 =>
  cellsAre W12 r4 0 [(.int .u8 n8)] ∧
  cellsAre W12 r4 1 [(.int .u64 n7)] ∧
  hash_Table_odd.C p1 (41 : Int) W12 fun n13 W14 =>
  nn p1 fun b15 o16 =>
  lL W14 b15 (o16 + 1) fun a17 l18 c19 =>
  math_bits_Len.C (wu64 (w64 (((l18 : Nat) : Int) - (1 : Int)))) W14 fun n20 W21 =>
  shP (w64 ((64 : Int) - n20)) fun m22 =>
  K (w64 (shr .u64 (wu64 ((bXor .u64 (wu64 ((wu64 (n7 * n9)) + (wu64 ((wu64 n8) * n11)))) (shr .u64 (wu64 ((wu64 (n7 * n9)) + (wu64 ((wu64 n8) * n11)))) 29)) * n13)) m22)) W21
theorem hash_Table_home.ok {p1 : Option Addr} {n2 : Int} {n3 : Int} {w : World} {K : Int → World → Prop} (h : hash_Table_home.F p1 n2 n3 w K) : hash_Table_home.C p1 n2 n3 w K := by
  refine CallsV.mono (callsV_of_sh prog.mixed prog.noNum (args := [(.pointer p1), (.agg #[(.int .u8 n2), (.int .u64 n3)])]) Tryz.func206 (c := bodyOf Tryz.f206) (by kernel_rfl) (by kernel_rfl) (by kernel_rfl) (R := S_i64.R K) ?_) fun v w1 h => S_i64.out h
  apply kc h; kernel_rfl

def hash_Table_next.F (p1 : Option Addr) (n2 : Int) (w : World) (K : Int → World → Prop) : Prop :=
  nn p1 fun b3 o4 =>
  lL w b3 (o4 + 1) fun a5 l6 c7 =>
  K (bAnd .i64 (w64 (n2 + (1 : Int))) (w64 (((l6 : Nat) : Int) - (1 : Int)))) w
theorem hash_Table_next.ok {p1 : Option Addr} {n2 : Int} {w : World} {K : Int → World → Prop} (h : hash_Table_next.F p1 n2 w K) : hash_Table_next.C p1 n2 w K := by
  refine CallsV.mono (callsV_of_sh prog.mixed prog.noNum (args := [(.pointer p1), (.int .i64 n2)]) Tryz.func204 (c := bodyOf Tryz.f204) (by kernel_rfl) (by kernel_rfl) (by kernel_rfl) (R := S_i64.R K) ?_) fun v w1 h => S_i64.out h
  apply kc h; kernel_rfl

def hash_Table_odd.F (p1 : Option Addr) (n2 : Int) (w : World) (K : Int → World → Prop) : Prop :=
  nn p1 fun b3 o4 =>
  lU64 w b3 (o4 + 2) fun n5 =>
  math_bits_RotateLeft64.C (wu64 ((wu64 (n5 * (11400714819323198485 : Int))) + (15111065706836454659 : Int))) n2 w fun n6 W7 =>
  K (bOr .u64 n6 (1 : Int)) W7
theorem hash_Table_odd.ok {p1 : Option Addr} {n2 : Int} {w : World} {K : Int → World → Prop} (h : hash_Table_odd.F p1 n2 w K) : hash_Table_odd.C p1 n2 w K := by
  refine CallsV.mono (callsV_of_sh prog.mixed prog.noNum (args := [(.pointer p1), (.int .i64 n2)]) Tryz.func224 (c := bodyOf Tryz.f224) (by kernel_rfl) (by kernel_rfl) (by kernel_rfl) (R := S_u64.R K) ?_) fun v w1 h => S_u64.out h
  apply kc h; kernel_rfl

def hash_Table_rehash.B1 (K : World → Prop) (p16 : Option Addr) (n44 : Int) (a45 : Option Addr) (l46 : Nat) (c47 : Nat) (n48 : Int) : Int → World → ((Int) → World → Prop) → Prop := fun s0 W51 next50 => match s0 with
 | n49 =>
  cond (decide (n49 < n48))
  (nn a45 fun b52 o53 =>
  0 ≤ n49 ∧ n49 < ((l46 : Nat) : Int) ∧
  lAu8_u64_u64_b W51 b52 (o53 + Int.toNat n49 * 4) fun n54 n55 n56 q57 =>
  alP W51 #[(.int .u8 (0 : Int)), (.int .u64 (0 : Int)), (.int .u64 (0 : Int)), (.bool false)] 319 fun r58 W59 =>
  stCs r58 0 [(.int .u8 n54), (.int .u64 n55), (.int .u64 n56), (.bool q57)] W59 fun W60 =>
  lB W60 r58 3 fun q61 =>
  cond q61
  (lAu8_u64 W60 r58 0 fun n62 n63 =>
  hash_Table_find.C p16 n62 n63 W60 fun n64 q65 W66 =>
  drP W66 fun W67 =>
  nn p16 fun b68 o69 =>
  lL W67 b68 (o69 + 1) fun a70 l71 c72 =>
  lAu8_u64_u64_b W67 r58 0 fun n73 n74 n75 q76 =>
  nn a70 fun b77 o78 =>
  0 ≤ n64 ∧ n64 < ((l71 : Nat) : Int) ∧
  stCs b77 (o78 + Int.toNat n64 * 4) [(.int .u8 n73), (.int .u64 n74), (.int .u64 n75), (.bool q76)] W67 fun W79 =>
  next50 (w64 (n49 + (1 : Int))) W79)
  (next50 (w64 (n49 + (1 : Int))) W60))
  (nn p16 fun b80 o81 =>
  stP W51 b80 (o81 + 4) (.int .i64 n44) fun W82 =>
  K W82)
def hash_Table_rehash.T1 (K : World → Prop) (p16 : Option Addr) (n44 : Int) (a45 : Option Addr) (l46 : Nat) (c47 : Nat) (n48 : Int) (n49 : Int) (w : World) : Prop := LoopT (hash_Table_rehash.B1 K p16 n44 a45 l46 c47 n48) n49 w
def hash_Table_rehash.F (p1 : Option Addr) (n2 : Int) (w : World) (K : World → Prop) : Prop :=
  nn p1 fun b3 o4 =>
  lL w b3 (o4 + 1) fun a5 l6 c7 =>
  (0 ≤ w64 n2 ∧ w64 n2 ≤ w64 n2 ∧ ((32 : Nat) : Int) * w64 n2 ≤ 2 ^ 48) ∧
  alP w (zrow #[(.int .u8 (0 : Int)), (.int .u64 (0 : Int)), (.int .u64 (0 : Int)), (.bool false)] (Int.toNat (w64 n2) * 4)) 319 fun r8 W9 =>
  nn p1 fun b10 o11 =>
  stP W9 b10 (o11 + 1) (.slice (some ⟨r8, 0, none⟩) (Int.toNat (w64 n2)) (Int.toNat (w64 n2))) fun W12 =>
  nn p1 fun b13 o14 =>
  lI64 W12 b13 (o14 + 4) fun n15 =>
  hash_Table_rehash.T1 K p1 n15 a5 l6 c7 ((l6 : Nat) : Int) (0 : Int) W12
def hash_Table_rehash.U0 (K : World → Prop) (l : Nat) (fr : Fr) (w : World) : Prop :=
  match l with
 | 1 =>
  gP False (fr 0) fun p16 =>
  gI64 False (fr 5) fun n44 =>
  gL False (fr 23) fun a45 l46 c47 =>
  gI64 False (fr 24) fun n48 =>
  gI64 False (fr 25) fun n49 =>
  hash_Table_rehash.T1 K p16 n44 a45 l46 c47 n48 n49 w
 | _ => False
def hash_Table_rehash.ext1 (fr : Fr) : Option (Int) :=
  gI64 none (fr 25) fun n49 =>
  some n49
theorem hash_Table_rehash.U0_ok1 (K : World → Prop) (fr : Fr) (w : World) (h : hash_Table_rehash.U0 K 1 fr w) : sh prog (hash_Table_rehash.U0 K) (subAt [.R, .R, .R, .L, .R, .B] (bodyOf Tryz.f201)) fr w (ctxAt prog (hash_Table_rehash.U0 K) [.R, .R, .R, .L, .R, .B] (bodyOf Tryz.f201) (retK prog Tryz.f201.results.toList (S_.R K))) := by
  unfold hash_Table_rehash.U0 at h
  simp only at h
  replace h := gP.outF h; obtain ⟨p16, e83, h⟩ := h
  replace h := gI64.outF h; obtain ⟨n44, e84, h⟩ := h
  replace h := gL.outF h; obtain ⟨a45, l46, c47, e85, h⟩ := h
  replace h := gI64.outF h; obtain ⟨n48, e86, h⟩ := h
  replace h := gI64.outF h; obtain ⟨n49, e87, h⟩ := h
  refine kc (A := LoopP (sh prog (hash_Table_rehash.U0 K) (loopBody (subAt [.R, .R, .R, .L, .R, .B] (bodyOf Tryz.f201)))) fr w (ctxAt prog (hash_Table_rehash.U0 K) [.R, .R, .R, .L, .R, .B] (bodyOf Tryz.f201) (retK prog Tryz.f201.results.toList (S_.R K)))) ?_ (by kernel_rfl)
  refine loop_typed (B := hash_Table_rehash.B1 K p16 n44 a45 l46 c47 n48) hash_Table_rehash.ext1 (s := n49) (by unfold hash_Table_rehash.ext1; simp only [e87]; rfl) h ?_
  clear h
  clear e87
  intro s0 fr1 w1 next50 hs hk h
  unfold hash_Table_rehash.ext1 at hs
  replace hs := noN (gI64.out (d := none) (x := _) hs); obtain ⟨n49a, e88, hs⟩ := hs
  replace hs := Option.some.inj hs; subst hs
  have e89 : fr1 0 = (.pointer p16) := (hk 0 (by kernel_rfl)).trans e83
  have e90 : fr1 5 = (.int .i64 n44) := (hk 5 (by kernel_rfl)).trans e84
  have e91 : fr1 23 = (.slice a45 l46 c47) := (hk 23 (by kernel_rfl)).trans e85
  have e92 : fr1 24 = (.int .i64 n48) := (hk 24 (by kernel_rfl)).trans e86
  refine at_frame [(25, (.int .i64 n49a)), (0, (.pointer p16)), (5, (.int .i64 n44)), (23, (.slice a45 l46 c47)), (24, (.int .i64 n48))] (by intro p hp; simp only [List.mem_cons, List.not_mem_nil, or_false] at hp; rcases hp with rfl | rfl | rfl | rfl | rfl <;> assumption) (Q := fun fr => sh prog (hash_Table_rehash.U0 K) (loopBody (subAt [.R, .R, .R, .L, .R, .B] (bodyOf Tryz.f201))) fr w1 (nextK hash_Table_rehash.ext1 next50 (ctxAt prog (hash_Table_rehash.U0 K) [.R, .R, .R, .L, .R, .B] (bodyOf Tryz.f201) (retK prog Tryz.f201.results.toList (S_.R K))))) ?_
  apply kc h; kernel_rfl
theorem hash_Table_rehash.ok {p1 : Option Addr} {n2 : Int} {w : World} {K : World → Prop} (h : hash_Table_rehash.F p1 n2 w K) : hash_Table_rehash.C p1 n2 w K := by
  refine CallsV.mono (callsV_of_sh prog.mixed prog.noNum (args := [(.pointer p1), (.int .i64 n2)]) Tryz.func201 (c := bodyOf Tryz.f201) (by kernel_rfl) (by kernel_rfl) (by kernel_rfl) (R := S_.R K) ?_) fun v w1 h => S_.out h
  refine sh_anyCut (cut := hash_Table_rehash.U0 K) (by kernel_rfl) ?_
  refine sh_cutAt (p := [.R, .R, .R, .L, .R, .B]) (l := 1) ?_ (hash_Table_rehash.U0_ok1 K)
  apply kc h; kernel_rfl

def look_Cursor_Next.F (p1 : Option Addr) (w : World) (K : Int → Int → World → Prop) : Prop :=
  look_Cursor_may.C p1 w fun n2 W3 =>
  cond (n2 != (0 : Int))
  (K (0 : Int) n2 W3)
  (look_Cursor_ahead.C p1 W3 fun n4 n5 W6 =>
  cond (n5 != (0 : Int))
  (K (0 : Int) n5 W6)
  (nn p1 fun b7 o8 =>
  lU64 W6 b7 (o8 + 3) fun n9 =>
  cond (n4 == n9)
  (nn p1 fun b10 o11 =>
  stP W6 b10 (o11 + 5) (.bool true) fun W12 =>
  K n4 (0 : Int) W12)
  (nn p1 fun b13 o14 =>
  stP W6 b13 (o14 + 4) (.int .u64 (wu64 (n4 + (1 : Int)))) fun W15 =>
  K n4 (0 : Int) W15)))
theorem look_Cursor_Next.ok {p1 : Option Addr} {w : World} {K : Int → Int → World → Prop} (h : look_Cursor_Next.F p1 w K) : look_Cursor_Next.C p1 w K := by
  refine CallsV.mono (callsV_of_sh prog.mixed prog.noNum (args := [(.pointer p1)]) Tryz.func71 (c := bodyOf Tryz.f71) (by kernel_rfl) (by kernel_rfl) (by kernel_rfl) (R := S_u64_i64.R K) ?_) fun v w1 h => S_u64_i64.out h
  apply kc h; kernel_rfl

def look_Cursor_Prev.T1 (K : Int → Int → World → Prop) (p4 : Option Addr) (n8 : Int) (q9 : Bool) (W20 : World) : Prop :=
  cond (!q9)
  (nn p4 fun b21 o22 =>
  lU64 W20 b21 (o22 + 2) fun n23 =>
  nn p4 fun b24 o25 =>
  stP W20 b24 (o25 + 4) (.int .u64 n23) fun W26 =>
  nn p4 fun b27 o28 =>
  stP W26 b27 (o28 + 5) (.bool false) fun W29 =>
  K (0 : Int) (10 : Int) W29)
  (nn p4 fun b30 o31 =>
  lU64 W20 b30 (o31 + 2) fun n32 =>
  cond (decide (n8 < n32))
  (nn p4 fun b33 o34 =>
  lU64 W20 b33 (o34 + 2) fun n35 =>
  nn p4 fun b36 o37 =>
  stP W20 b36 (o37 + 4) (.int .u64 n35) fun W38 =>
  nn p4 fun b39 o40 =>
  stP W38 b39 (o40 + 5) (.bool false) fun W41 =>
  K (0 : Int) (10 : Int) W41)
  (nn p4 fun b42 o43 =>
  stP W20 b42 (o43 + 4) (.int .u64 n8) fun W44 =>
  nn p4 fun b45 o46 =>
  stP W44 b45 (o46 + 5) (.bool false) fun W47 =>
  K n8 (0 : Int) W47))
def look_Cursor_Prev.F (p1 : Option Addr) (w : World) (K : Int → Int → World → Prop) : Prop :=
  look_Cursor_may.C p1 w fun n2 W3 =>
  cond (n2 != (0 : Int))
  (K (0 : Int) n2 W3)
  (nn p1 fun b48 o49 =>
  lB W3 b48 (o49 + 5) fun q50 =>
  cond q50
  (drP W3 fun W51 =>
  nn p1 fun b52 o53 =>
  lP W51 b52 o53 fun p54 =>
  nn p54 fun b55 o56 =>
  lR W51 b55 o56 fun x57 =>
  nn p1 fun b58 o59 =>
  lU64 W51 b58 (o59 + 3) fun n60 =>
  nnVal x57 fun x61 =>
  InvV prog x57 "Prev" #[(.int .u64 n60)] W51 fun x62 W63 =>
  ∃ (n64 : Int), ∃ (q65 : Bool), x62 = (.tuple #[(.int .u64 n64), (.bool q65)]) ∧
  cellsAre W63 b55 o56 [x57] ∧
  cellsAre W63 b52 o53 [(.pointer p54)] ∧
  look_Cursor_Prev.T1 K p1 n64 q65 W63)
  (drP W3 fun W66 =>
  nn p1 fun b67 o68 =>
  lU64 W66 b67 (o68 + 4) fun n69 =>
  nn p1 fun b70 o71 =>
  lU64 W66 b70 (o71 + 2) fun n72 =>
  cond (decide (n69 > n72))
  (drP W66 fun W73 =>
  nn p1 fun b74 o75 =>
  lP W73 b74 o75 fun p76 =>
  nn p76 fun b77 o78 =>
  lR W73 b77 o78 fun x79 =>
  nn p1 fun b80 o81 =>
  lU64 W73 b80 (o81 + 4) fun n82 =>
  nnVal x79 fun x83 =>
  InvV prog x79 "Prev" #[(.int .u64 (wu64 (n82 - (1 : Int))))] W73 fun x84 W85 =>
  ∃ (n86 : Int), ∃ (q87 : Bool), x84 = (.tuple #[(.int .u64 n86), (.bool q87)]) ∧
  cellsAre W85 b80 (o81 + 4) [(.int .u64 n82)] ∧
  cellsAre W85 b77 o78 [x79] ∧
  cellsAre W85 b74 o75 [(.pointer p76)] ∧
  look_Cursor_Prev.T1 K p1 n86 q87 W85)
  (look_Cursor_Prev.T1 K p1 (0 : Int) false W66)))
def look_Cursor_Prev.U0 (K : Int → Int → World → Prop) (l : Nat) (fr : Fr) (w : World) : Prop :=
  match l with
 | 1 =>
  gP False (fr 0) fun p4 =>
  gU64 False (fr 5) fun n8 =>
  gB False (fr 6) fun q9 =>
  look_Cursor_Prev.T1 K p4 n8 q9 w
 | _ => False
theorem look_Cursor_Prev.U0_ok1 (K : Int → Int → World → Prop) (fr : Fr) (w : World) (h : look_Cursor_Prev.U0 K 1 fr w) : sh prog (look_Cursor_Prev.U0 K) (subAt [.R, .R, .R, .R] (bodyOf Tryz.f72)) fr w (ctxAt prog (look_Cursor_Prev.U0 K) [.R, .R, .R, .R] (bodyOf Tryz.f72) (retK prog Tryz.f72.results.toList (S_u64_i64.R K))) := by
  unfold look_Cursor_Prev.U0 at h
  simp only at h
  replace h := gP.outF h; obtain ⟨p4, e88, h⟩ := h
  replace h := gU64.outF h; obtain ⟨n8, e89, h⟩ := h
  replace h := gB.outF h; obtain ⟨q9, e90, h⟩ := h
  refine at_frame [(0, (.pointer p4)), (5, (.int .u64 n8)), (6, (.bool q9))] (by intro p hp; simp only [List.mem_cons, List.not_mem_nil, or_false] at hp; rcases hp with rfl | rfl | rfl <;> assumption) (Q := fun fr => sh prog (look_Cursor_Prev.U0 K) (subAt [.R, .R, .R, .R] (bodyOf Tryz.f72)) fr w (ctxAt prog (look_Cursor_Prev.U0 K) [.R, .R, .R, .R] (bodyOf Tryz.f72) (retK prog Tryz.f72.results.toList (S_u64_i64.R K)))) ?_
  apply kc h; kernel_rfl
theorem look_Cursor_Prev.ok {p1 : Option Addr} {w : World} {K : Int → Int → World → Prop} (h : look_Cursor_Prev.F p1 w K) : look_Cursor_Prev.C p1 w K := by
  refine CallsV.mono (callsV_of_sh prog.mixed prog.noNum (args := [(.pointer p1)]) Tryz.func72 (c := bodyOf Tryz.f72) (by kernel_rfl) (by kernel_rfl) (by kernel_rfl) (R := S_u64_i64.R K) ?_) fun v w1 h => S_u64_i64.out h
  refine sh_anyCut (cut := look_Cursor_Prev.U0 K) (by kernel_rfl) ?_
  refine sh_cutAt (p := [.R, .R, .R, .R]) (l := 1) ?_ (look_Cursor_Prev.U0_ok1 K)
  apply kc h; kernel_rfl

def look_Cursor_Rest.F (p1 : Option Addr) (w : World) (K : Value → World → Prop) : Prop :=
  alP w #[(.pointer p1)] 115 fun r2 W3 =>
  K (.func (.func 187) #[] #[(.pointer (some ⟨r2, 0, none⟩))]) W3
theorem look_Cursor_Rest.ok {p1 : Option Addr} {w : World} {K : Value → World → Prop} (h : look_Cursor_Rest.F p1 w K) : look_Cursor_Rest.C p1 w K := by
  refine CallsV.mono (callsV_of_sh prog.mixed prog.noNum (args := [(.pointer p1)]) Tryz.func151 (c := bodyOf Tryz.f151) (by kernel_rfl) (by kernel_rfl) (by kernel_rfl) (R := S_r.R K) ?_) fun v w1 h => S_r.out h
  apply kc h; kernel_rfl

def look_Cursor_Rest_1.B1 (K : World → Prop) (x8 : Value) (b9 : Nat) (o10 : Nat) : (Int × Int) → World → ((Int × Int) → World → Prop) → Prop := fun s0 W17 next16 => match s0 with
 | (n14, n15) =>
  cond (n15 == (0 : Int))
  (DynV prog x8 #[(.int .u64 n14)] W17 fun x18 W19 =>
  ∃ (q20 : Bool), x18 = (.bool q20) ∧
  cond q20
  (lP W19 b9 o10 fun p21 =>
  look_Cursor_Next.C p21 W19 fun n22 n23 W24 =>
  next16 (n22, n23) W24)
  (K W19))
  (K W17)
def look_Cursor_Rest_1.T1 (K : World → Prop) (x8 : Value) (b9 : Nat) (o10 : Nat) (n14 : Int) (n15 : Int) (w : World) : Prop := LoopT (look_Cursor_Rest_1.B1 K x8 b9 o10) (n14, n15) w
def look_Cursor_Rest_1.F (x1 : Value) (b2 : Nat) (o3 : Nat) (w : World) (K : World → Prop) : Prop :=
  lP w b2 o3 fun p4 =>
  look_Cursor_Next.C p4 w fun n5 n6 W7 =>
  look_Cursor_Rest_1.T1 K x1 b2 o3 n5 n6 W7
def look_Cursor_Rest_1.U0 (K : World → Prop) (l : Nat) (fr : Fr) (w : World) : Prop :=
  match l with
 | 1 =>
  gR False (fr 0) fun x8 =>
  gN False (fr 1) fun b9 o10 =>
  gU64 False (fr 3) fun n14 =>
  gI64 False (fr 4) fun n15 =>
  look_Cursor_Rest_1.T1 K x8 b9 o10 n14 n15 w
 | _ => False
def look_Cursor_Rest_1.ext1 (fr : Fr) : Option (Int × Int) :=
  gU64 none (fr 3) fun n14 =>
  gI64 none (fr 4) fun n15 =>
  some (n14, n15)
theorem look_Cursor_Rest_1.U0_ok1 (K : World → Prop) (fr : Fr) (w : World) (h : look_Cursor_Rest_1.U0 K 1 fr w) : sh prog (look_Cursor_Rest_1.U0 K) (subAt [.R, .B] (bodyOf Tryz.f187)) fr w (ctxAt prog (look_Cursor_Rest_1.U0 K) [.R, .B] (bodyOf Tryz.f187) (retK prog Tryz.f187.results.toList (S_.R K))) := by
  unfold look_Cursor_Rest_1.U0 at h
  simp only at h
  replace h := gR.outF h; obtain ⟨x8, e25, h⟩ := h
  replace h := gN.outF h; obtain ⟨b9, o10, e26, h⟩ := h
  replace h := gU64.outF h; obtain ⟨n14, e27, h⟩ := h
  replace h := gI64.outF h; obtain ⟨n15, e28, h⟩ := h
  refine kc (A := LoopP (sh prog (look_Cursor_Rest_1.U0 K) (loopBody (subAt [.R, .B] (bodyOf Tryz.f187)))) fr w (ctxAt prog (look_Cursor_Rest_1.U0 K) [.R, .B] (bodyOf Tryz.f187) (retK prog Tryz.f187.results.toList (S_.R K)))) ?_ (by kernel_rfl)
  refine loop_typed (B := look_Cursor_Rest_1.B1 K x8 b9 o10) look_Cursor_Rest_1.ext1 (s := (n14, n15)) (by unfold look_Cursor_Rest_1.ext1; simp only [e27, e28]; rfl) h ?_
  clear h
  clear e27
  clear e28
  intro s0 fr1 w1 next16 hs hk h
  unfold look_Cursor_Rest_1.ext1 at hs
  replace hs := noN (gU64.out (d := none) (x := _) hs); obtain ⟨n14a, e29, hs⟩ := hs
  replace hs := noN (gI64.out (d := none) (x := _) hs); obtain ⟨n15a, e30, hs⟩ := hs
  replace hs := Option.some.inj hs; subst hs
  have e31 : fr1 0 = x8 := (hk 0 (by kernel_rfl)).trans e25
  have e32 : fr1 1 = (.pointer (some ⟨b9, o10, none⟩)) := (hk 1 (by kernel_rfl)).trans e26
  refine at_frame [(3, (.int .u64 n14a)), (4, (.int .i64 n15a)), (0, x8), (1, (.pointer (some ⟨b9, o10, none⟩)))] (by intro p hp; simp only [List.mem_cons, List.not_mem_nil, or_false] at hp; rcases hp with rfl | rfl | rfl | rfl <;> assumption) (Q := fun fr => sh prog (look_Cursor_Rest_1.U0 K) (loopBody (subAt [.R, .B] (bodyOf Tryz.f187))) fr w1 (nextK look_Cursor_Rest_1.ext1 next16 (ctxAt prog (look_Cursor_Rest_1.U0 K) [.R, .B] (bodyOf Tryz.f187) (retK prog Tryz.f187.results.toList (S_.R K))))) ?_
  apply kc h; kernel_rfl
theorem look_Cursor_Rest_1.ok {x1 : Value} {b2 : Nat} {o3 : Nat} {w : World} {K : World → Prop} (h : look_Cursor_Rest_1.F x1 b2 o3 w K) : look_Cursor_Rest_1.C x1 b2 o3 w K := by
  refine CallsV.mono (callsV_of_sh prog.mixed prog.noNum (args := [x1, (.pointer (some ⟨b2, o3, none⟩))]) Tryz.func187 (c := bodyOf Tryz.f187) (by kernel_rfl) (by kernel_rfl) (by kernel_rfl) (R := S_.R K) ?_) fun v w1 h => S_.out h
  refine sh_anyCut (cut := look_Cursor_Rest_1.U0 K) (by kernel_rfl) ?_
  refine sh_cutAt (p := [.R, .B]) (l := 1) ?_ (look_Cursor_Rest_1.U0_ok1 K)
  apply kc h; kernel_rfl

def look_Cursor_Seek.F (p1 : Option Addr) (n2 : Int) (w : World) (K : Int → Int → World → Prop) : Prop :=
  look_Cursor_may.C p1 w fun n3 W4 =>
  cond (n3 != (0 : Int))
  (K (0 : Int) n3 W4)
  (drP W4 fun W5 =>
  nn p1 fun b6 o7 =>
  lU64 W5 b6 (o7 + 2) fun n8 =>
  nn p1 fun b9 o10 =>
  lU64 W5 b9 (o10 + 3) fun n11 =>
  nn p1 fun b12 o13 =>
  stP W5 b12 (o13 + 4) (.int .u64 (mxI n2 n8)) fun W14 =>
  nn p1 fun b15 o16 =>
  stP W14 b15 (o16 + 5) (.bool (decide (n2 > n11))) fun W17 =>
  look_Cursor_ahead.C p1 W17 fun n18 n19 W20 =>
  K n18 n19 W20)
theorem look_Cursor_Seek.ok {p1 : Option Addr} {n2 : Int} {w : World} {K : Int → Int → World → Prop} (h : look_Cursor_Seek.F p1 n2 w K) : look_Cursor_Seek.C p1 n2 w K := by
  refine CallsV.mono (callsV_of_sh prog.mixed prog.noNum (args := [(.pointer p1), (.int .u64 n2)]) Tryz.func73 (c := bodyOf Tryz.f73) (by kernel_rfl) (by kernel_rfl) (by kernel_rfl) (R := S_u64_i64.R K) ?_) fun v w1 h => S_u64_i64.out h
  apply kc h; kernel_rfl

def look_Cursor_Stale.F (p1 : Option Addr) (w : World) (K : Bool → World → Prop) : Prop :=
  drP w fun W2 =>
  cond (Option.isNone p1)
  (K true W2)
  (nn p1 fun b3 o4 =>
  lP W2 b3 o4 fun p5 =>
  nn p5 fun b6 o7 =>
  lU64 W2 b6 (o7 + 1) fun n8 =>
  nn p1 fun b9 o10 =>
  lU64 W2 b9 (o10 + 1) fun n11 =>
  K (n8 != n11) W2)
theorem look_Cursor_Stale.ok {p1 : Option Addr} {w : World} {K : Bool → World → Prop} (h : look_Cursor_Stale.F p1 w K) : look_Cursor_Stale.C p1 w K := by
  refine CallsV.mono (callsV_of_sh prog.mixed prog.noNum (args := [(.pointer p1)]) Tryz.func66 (c := bodyOf Tryz.f66) (by kernel_rfl) (by kernel_rfl) (by kernel_rfl) (R := S_b.R K) ?_) fun v w1 h => S_b.out h
  apply kc h; kernel_rfl

def look_Cursor_ahead.F (p1 : Option Addr) (w : World) (K : Int → Int → World → Prop) : Prop :=
  nn p1 fun b2 o3 =>
  lB w b2 (o3 + 5) fun q4 =>
  cond q4
  (K (0 : Int) (10 : Int) w)
  (drP w fun W5 =>
  nn p1 fun b6 o7 =>
  lP W5 b6 o7 fun p8 =>
  nn p8 fun b9 o10 =>
  lR W5 b9 o10 fun x11 =>
  nn p1 fun b12 o13 =>
  lU64 W5 b12 (o13 + 4) fun n14 =>
  nnVal x11 fun x15 =>
  InvV prog x11 "Next" #[(.int .u64 n14)] W5 fun x16 W17 =>
  ∃ (n18 : Int), ∃ (q19 : Bool), x16 = (.tuple #[(.int .u64 n18), (.bool q19)]) ∧
  cellsAre W17 b9 o10 [x11] ∧
  cellsAre W17 b6 o7 [(.pointer p8)] ∧
  cond (!q19)
  (nn p1 fun b20 o21 =>
  stP W17 b20 (o21 + 5) (.bool true) fun W22 =>
  K (0 : Int) (10 : Int) W22)
  (nn p1 fun b23 o24 =>
  lU64 W17 b23 (o24 + 3) fun n25 =>
  cond (decide (n18 > n25))
  (nn p1 fun b26 o27 =>
  stP W17 b26 (o27 + 5) (.bool true) fun W28 =>
  K (0 : Int) (10 : Int) W28)
  (nn p1 fun b29 o30 =>
  stP W17 b29 (o30 + 4) (.int .u64 n18) fun W31 =>
  K n18 (0 : Int) W31)))
theorem look_Cursor_ahead.ok {p1 : Option Addr} {w : World} {K : Int → Int → World → Prop} (h : look_Cursor_ahead.F p1 w K) : look_Cursor_ahead.C p1 w K := by
  refine CallsV.mono (callsV_of_sh prog.mixed prog.noNum (args := [(.pointer p1)]) Tryz.func148 (c := bodyOf Tryz.f148) (by kernel_rfl) (by kernel_rfl) (by kernel_rfl) (R := S_u64_i64.R K) ?_) fun v w1 h => S_u64_i64.out h
  apply kc h; kernel_rfl

def look_Cursor_may.F (p1 : Option Addr) (w : World) (K : Int → World → Prop) : Prop :=
  cond (Option.isNone p1)
  (K (3 : Int) w)
  (look_Cursor_Stale.C p1 w fun q2 W3 =>
  cond q2
  (K (9 : Int) W3)
  (K (0 : Int) W3))
theorem look_Cursor_may.ok {p1 : Option Addr} {w : World} {K : Int → World → Prop} (h : look_Cursor_may.F p1 w K) : look_Cursor_may.C p1 w K := by
  refine CallsV.mono (callsV_of_sh prog.mixed prog.noNum (args := [(.pointer p1)]) Tryz.func147 (c := bodyOf Tryz.f147) (by kernel_rfl) (by kernel_rfl) (by kernel_rfl) (R := S_i64.R K) ?_) fun v w1 h => S_i64.out h
  apply kc h; kernel_rfl

def look_Keep.F (x1 : Value) (w : World) (K : Option Addr → World → Prop) : Prop :=
  nilIf x1 fun q2 =>
  cond q2
  (K none w)
  (stOne x1 (
  alP w #[x1, (.int .u64 (0 : Int))] 133 fun r3 W4 =>
  K (some ⟨r3, 0, none⟩) W4))
theorem look_Keep.ok {x1 : Value} {w : World} {K : Option Addr → World → Prop} (h : look_Keep.F x1 w K) : look_Keep.C x1 w K := by
  refine CallsV.mono (callsV_of_sh prog.mixed prog.noNum (args := [x1]) Tryz.func70 (c := bodyOf Tryz.f70) (by kernel_rfl) (by kernel_rfl) (by kernel_rfl) (R := S_p.R K) ?_) fun v w1 h => S_p.out h
  apply kc h; kernel_rfl

def look_Kept_Clear.F (p1 : Option Addr) (w : World) (K : World → Prop) : Prop :=
  cond (!(Option.isNone p1))
  (nn p1 fun b2 o3 =>
  lR w b2 o3 fun x4 =>
  InvV prog x4 "Len" #[] w fun x5 W6 =>
  ∃ (n7 : Int), x5 = (.int .i64 n7) ∧
  cond (decide (n7 > (0 : Int)))
  (nn p1 fun b8 o9 =>
  lR W6 b8 o9 fun x10 =>
  InvV prog x10 "Clear" #[] W6 fun x11 W12 =>
  x11 = (.tuple #[]) ∧
  nn p1 fun b13 o14 =>
  lU64 W12 b13 (o14 + 1) fun n15 =>
  nn p1 fun b16 o17 =>
  stP W12 b16 (o17 + 1) (.int .u64 (wu64 (n15 + (1 : Int)))) fun W18 =>
  K W18)
  (K W6))
  (K w)
theorem look_Kept_Clear.ok {p1 : Option Addr} {w : World} {K : World → Prop} (h : look_Kept_Clear.F p1 w K) : look_Kept_Clear.C p1 w K := by
  refine CallsV.mono (callsV_of_sh prog.mixed prog.noNum (args := [(.pointer p1)]) Tryz.func75 (c := bodyOf Tryz.f75) (by kernel_rfl) (by kernel_rfl) (by kernel_rfl) (R := S_.R K) ?_) fun v w1 h => S_.out h
  apply kc h; kernel_rfl

def look_Kept_Delete.F (p1 : Option Addr) (n2 : Int) (w : World) (K : Int → World → Prop) : Prop :=
  cond (Option.isNone p1)
  (K (3 : Int) w)
  (nn p1 fun b3 o4 =>
  lR w b3 o4 fun x5 =>
  InvV prog x5 "Delete" #[(.int .u64 n2)] w fun x6 W7 =>
  ∃ (n8 : Int), x6 = (.int .i64 n8) ∧
  look_Kept_changed.C p1 n8 W7 fun n9 W10 =>
  K n9 W10)
theorem look_Kept_Delete.ok {p1 : Option Addr} {n2 : Int} {w : World} {K : Int → World → Prop} (h : look_Kept_Delete.F p1 n2 w K) : look_Kept_Delete.C p1 n2 w K := by
  refine CallsV.mono (callsV_of_sh prog.mixed prog.noNum (args := [(.pointer p1), (.int .u64 n2)]) Tryz.func78 (c := bodyOf Tryz.f78) (by kernel_rfl) (by kernel_rfl) (by kernel_rfl) (R := S_i64.R K) ?_) fun v w1 h => S_i64.out h
  apply kc h; kernel_rfl

def look_Kept_Insert.F (p1 : Option Addr) (n2 : Int) (w : World) (K : Int → World → Prop) : Prop :=
  cond (Option.isNone p1)
  (K (3 : Int) w)
  (nn p1 fun b3 o4 =>
  lR w b3 o4 fun x5 =>
  InvV prog x5 "Insert" #[(.int .u64 n2)] w fun x6 W7 =>
  ∃ (n8 : Int), x6 = (.int .i64 n8) ∧
  look_Kept_changed.C p1 n8 W7 fun n9 W10 =>
  K n9 W10)
theorem look_Kept_Insert.ok {p1 : Option Addr} {n2 : Int} {w : World} {K : Int → World → Prop} (h : look_Kept_Insert.F p1 n2 w K) : look_Kept_Insert.C p1 n2 w K := by
  refine CallsV.mono (callsV_of_sh prog.mixed prog.noNum (args := [(.pointer p1), (.int .u64 n2)]) Tryz.func77 (c := bodyOf Tryz.f77) (by kernel_rfl) (by kernel_rfl) (by kernel_rfl) (R := S_i64.R K) ?_) fun v w1 h => S_i64.out h
  apply kc h; kernel_rfl

def look_Kept_Open.F (p1 : Option Addr) (n2 : Int) (n3 : Int) (w : World) (K : Option Addr → Int → World → Prop) : Prop :=
  cond (Option.isNone p1)
  (K none (3 : Int) w)
  (cond (decide (n2 > n3))
  (K none (8 : Int) w)
  (nn p1 fun b4 o5 =>
  lU64 w b4 (o5 + 1) fun n6 =>
  alP w #[(.pointer p1), (.int .u64 n6), (.int .u64 n2), (.int .u64 n3), (.int .u64 n2), (.bool false)] 230 fun r7 W8 =>
  K (some ⟨r7, 0, none⟩) (0 : Int) W8))
theorem look_Kept_Open.ok {p1 : Option Addr} {n2 : Int} {n3 : Int} {w : World} {K : Option Addr → Int → World → Prop} (h : look_Kept_Open.F p1 n2 n3 w K) : look_Kept_Open.C p1 n2 n3 w K := by
  refine CallsV.mono (callsV_of_sh prog.mixed prog.noNum (args := [(.pointer p1), (.int .u64 n2), (.int .u64 n3)]) Tryz.func62 (c := bodyOf Tryz.f62) (by kernel_rfl) (by kernel_rfl) (by kernel_rfl) (R := S_p_i64.R K) ?_) fun v w1 h => S_p_i64.out h
  apply kc h; kernel_rfl

def look_Kept_Swap.F (p1 : Option Addr) (x2 : Value) (w : World) (K : World → Prop) : Prop :=
  cond (Option.isNone p1)
  (K w)
  (nilIf x2 fun q3 =>
  cond q3
  (K w)
  (nn p1 fun b4 o5 =>
  lR w b4 o5 fun x6 =>
  face_Equal.C x6 x2 w fun q7 W8 =>
  cond (!q7)
  (nn p1 fun b9 o10 =>
  lU64 W8 b9 (o10 + 1) fun n11 =>
  nn p1 fun b12 o13 =>
  stP W8 b12 (o13 + 1) (.int .u64 (wu64 (n11 + (1 : Int)))) fun W14 =>
  nn p1 fun b15 o16 =>
  stOne x2 (
  stP W14 b15 o16 x2 fun W17 =>
  K W17))
  (nn p1 fun b18 o19 =>
  stOne x2 (
  stP W8 b18 o19 x2 fun W20 =>
  K W20))))
theorem look_Kept_Swap.ok {p1 : Option Addr} {x2 : Value} {w : World} {K : World → Prop} (h : look_Kept_Swap.F p1 x2 w K) : look_Kept_Swap.C p1 x2 w K := by
  refine CallsV.mono (callsV_of_sh prog.mixed prog.noNum (args := [(.pointer p1), x2]) Tryz.func76 (c := bodyOf Tryz.f76) (by kernel_rfl) (by kernel_rfl) (by kernel_rfl) (R := S_.R K) ?_) fun v w1 h => S_.out h
  apply kc h; kernel_rfl

def look_Kept_Version.F (p1 : Option Addr) (w : World) (K : Int → World → Prop) : Prop :=
  cond (Option.isNone p1)
  (K (0 : Int) w)
  (nn p1 fun b2 o3 =>
  lU64 w b2 (o3 + 1) fun n4 =>
  K n4 w)
theorem look_Kept_Version.ok {p1 : Option Addr} {w : World} {K : Int → World → Prop} (h : look_Kept_Version.F p1 w K) : look_Kept_Version.C p1 w K := by
  refine CallsV.mono (callsV_of_sh prog.mixed prog.noNum (args := [(.pointer p1)]) Tryz.func63 (c := bodyOf Tryz.f63) (by kernel_rfl) (by kernel_rfl) (by kernel_rfl) (R := S_u64.R K) ?_) fun v w1 h => S_u64.out h
  apply kc h; kernel_rfl

def look_Kept_Wipe.F (p1 : Option Addr) (n2 : Int) (n3 : Int) (w : World) (K : Int → Int → World → Prop) : Prop :=
  cond (Option.isNone p1)
  (K (0 : Int) (3 : Int) w)
  (nn p1 fun b4 o5 =>
  lR w b4 o5 fun x6 =>
  face_Wipe.C x6 n2 n3 w fun n7 n8 W9 =>
  cond (decide (n7 > (0 : Int)))
  (look_Kept_changed.C p1 n8 W9 fun n10 W11 =>
  K n7 n8 W11)
  (K n7 n8 W9))
theorem look_Kept_Wipe.ok {p1 : Option Addr} {n2 : Int} {n3 : Int} {w : World} {K : Int → Int → World → Prop} (h : look_Kept_Wipe.F p1 n2 n3 w K) : look_Kept_Wipe.C p1 n2 n3 w K := by
  refine CallsV.mono (callsV_of_sh prog.mixed prog.noNum (args := [(.pointer p1), (.int .u64 n2), (.int .u64 n3)]) Tryz.func74 (c := bodyOf Tryz.f74) (by kernel_rfl) (by kernel_rfl) (by kernel_rfl) (R := S_i64_i64.R K) ?_) fun v w1 h => S_i64_i64.out h
  apply kc h; kernel_rfl

def look_Kept_changed.F (p1 : Option Addr) (n2 : Int) (w : World) (K : Int → World → Prop) : Prop :=
  cond (n2 == (0 : Int))
  (nn p1 fun b3 o4 =>
  lU64 w b3 (o4 + 1) fun n5 =>
  nn p1 fun b6 o7 =>
  stP w b6 (o7 + 1) (.int .u64 (wu64 (n5 + (1 : Int)))) fun W8 =>
  K n2 W8)
  (K n2 w)
theorem look_Kept_changed.ok {p1 : Option Addr} {n2 : Int} {w : World} {K : Int → World → Prop} (h : look_Kept_changed.F p1 n2 w K) : look_Kept_changed.C p1 n2 w K := by
  refine CallsV.mono (callsV_of_sh prog.mixed prog.noNum (args := [(.pointer p1), (.int .i64 n2)]) Tryz.func149 (c := bodyOf Tryz.f149) (by kernel_rfl) (by kernel_rfl) (by kernel_rfl) (R := S_i64.R K) ?_) fun v w1 h => S_i64.out h
  apply kc h; kernel_rfl

def math_bits_Len.F (n1 : Int) (w : World) (K : Int → World → Prop) : Prop :=
  math_bits_Len64.C n1 w fun n2 W3 =>
  K n2 W3
theorem math_bits_Len.ok {n1 : Int} {w : World} {K : Int → World → Prop} (h : math_bits_Len.F n1 w K) : math_bits_Len.C n1 w K := by
  refine CallsV.mono (callsV_of_sh prog.mixed prog.noNum (args := [(.int .u64 n1)]) Tryz.func209 (c := bodyOf Tryz.f209) (by kernel_rfl) (by kernel_rfl) (by kernel_rfl) (R := S_i64.R K) ?_) fun v w1 h => S_i64.out h
  apply kc h; kernel_rfl

def math_bits_Len64.T2 (K : Int → World → Prop) (n7 : Int) (n8 : Int) (W13 : World) : Prop :=
  cond (decide (n7 ≥ (256 : Int)))
  (0 ≤ (wu8 (shr .u64 n7 8)) ∧ (wu8 (shr .u64 n7 8)) < ((len8tab.size : Nat) : Int) ∧
  K (w64 ((w64 (n8 + (8 : Int))) + (w64 (bt len8tab (wu8 (shr .u64 n7 8)))))) W13)
  (0 ≤ (wu8 n7) ∧ (wu8 n7) < ((len8tab.size : Nat) : Int) ∧
  K (w64 (n8 + (w64 (bt len8tab (wu8 n7))))) W13)
def math_bits_Len64.T1 (K : Int → World → Prop) (n2 : Int) (n3 : Int) (W6 : World) : Prop :=
  cond (decide (n2 ≥ (65536 : Int)))
  (math_bits_Len64.T2 K (shr .u64 n2 16) (w64 (n3 + (16 : Int))) W6)
  (math_bits_Len64.T2 K n2 n3 W6)
def math_bits_Len64.F (n1 : Int) (w : World) (K : Int → World → Prop) : Prop :=
  cond (decide (n1 ≥ (4294967296 : Int)))
  (math_bits_Len64.T1 K (shr .u64 n1 32) (32 : Int) w)
  (math_bits_Len64.T1 K n1 (0 : Int) w)
def math_bits_Len64.U0 (K : Int → World → Prop) (l : Nat) (fr : Fr) (w : World) : Prop :=
  match l with
 | 1 =>
  gU64 False (fr 0) fun n2 =>
  gI64 False (fr 2) fun n3 =>
  math_bits_Len64.T1 K n2 n3 w
 | 2 =>
  gU64 False (fr 0) fun n7 =>
  gI64 False (fr 2) fun n8 =>
  math_bits_Len64.T2 K n7 n8 w
 | _ => False
theorem math_bits_Len64.U0_ok2 (K : Int → World → Prop) (fr : Fr) (w : World) (h : math_bits_Len64.U0 K 2 fr w) : sh prog (math_bits_Len64.U0 K) (subAt [.R, .R, .R] (bodyOf Tryz.f235)) fr w (ctxAt prog (math_bits_Len64.U0 K) [.R, .R, .R] (bodyOf Tryz.f235) (retK prog Tryz.f235.results.toList (S_i64.R K))) := by
  unfold math_bits_Len64.U0 at h
  simp only at h
  replace h := gU64.outF h; obtain ⟨n7, e14, h⟩ := h
  replace h := gI64.outF h; obtain ⟨n8, e15, h⟩ := h
  refine at_frame [(0, (.int .u64 n7)), (2, (.int .i64 n8))] (by intro p hp; simp only [List.mem_cons, List.not_mem_nil, or_false] at hp; rcases hp with rfl | rfl <;> assumption) (Q := fun fr => sh prog (math_bits_Len64.U0 K) (subAt [.R, .R, .R] (bodyOf Tryz.f235)) fr w (ctxAt prog (math_bits_Len64.U0 K) [.R, .R, .R] (bodyOf Tryz.f235) (retK prog Tryz.f235.results.toList (S_i64.R K)))) ?_
  apply kc h; kernel_rfl
theorem math_bits_Len64.U0_ok1 (K : Int → World → Prop) (fr : Fr) (w : World) (h : math_bits_Len64.U0 K 1 fr w) : sh prog (math_bits_Len64.U0 K) (subAt [.R, .R] (cutAt 2 [.R, .R, .R] (bodyOf Tryz.f235))) fr w (ctxAt prog (math_bits_Len64.U0 K) [.R, .R] (cutAt 2 [.R, .R, .R] (bodyOf Tryz.f235)) (retK prog Tryz.f235.results.toList (S_i64.R K))) := by
  unfold math_bits_Len64.U0 at h
  simp only at h
  replace h := gU64.outF h; obtain ⟨n2, e16, h⟩ := h
  replace h := gI64.outF h; obtain ⟨n3, e17, h⟩ := h
  refine at_frame [(0, (.int .u64 n2)), (2, (.int .i64 n3))] (by intro p hp; simp only [List.mem_cons, List.not_mem_nil, or_false] at hp; rcases hp with rfl | rfl <;> assumption) (Q := fun fr => sh prog (math_bits_Len64.U0 K) (subAt [.R, .R] (cutAt 2 [.R, .R, .R] (bodyOf Tryz.f235))) fr w (ctxAt prog (math_bits_Len64.U0 K) [.R, .R] (cutAt 2 [.R, .R, .R] (bodyOf Tryz.f235)) (retK prog Tryz.f235.results.toList (S_i64.R K)))) ?_
  apply kc h; kernel_rfl
theorem math_bits_Len64.ok {n1 : Int} {w : World} {K : Int → World → Prop} (h : math_bits_Len64.F n1 w K) : math_bits_Len64.C n1 w K := by
  refine CallsV.mono (callsV_of_sh prog.mixed prog.noNum (args := [(.int .u64 n1)]) Tryz.func235 (c := bodyOf Tryz.f235) (by kernel_rfl) (by kernel_rfl) (by kernel_rfl) (R := S_i64.R K) ?_) fun v w1 h => S_i64.out h
  refine sh_anyCut (cut := math_bits_Len64.U0 K) (by kernel_rfl) ?_
  refine sh_cutAt (p := [.R, .R, .R]) (l := 2) ?_ (math_bits_Len64.U0_ok2 K)
  refine sh_cutAt (p := [.R, .R]) (l := 1) ?_ (math_bits_Len64.U0_ok1 K)
  apply kc h; kernel_rfl

def math_bits_OnesCount64.F (n1 : Int) (w : World) (K : Int → World → Prop) : Prop :=
  K (bAnd .i64 (w64 (wu64 ((wu64 ((wu64 ((bAnd .u64 (wu64 ((shr .u64 (wu64 ((bAnd .u64 (shr .u64 (wu64 ((bAnd .u64 (shr .u64 n1 1) (6148914691236517205 : Int)) + (bAnd .u64 n1 (6148914691236517205 : Int)))) 2) (3689348814741910323 : Int)) + (bAnd .u64 (wu64 ((bAnd .u64 (shr .u64 n1 1) (6148914691236517205 : Int)) + (bAnd .u64 n1 (6148914691236517205 : Int)))) (3689348814741910323 : Int)))) 4) + (wu64 ((bAnd .u64 (shr .u64 (wu64 ((bAnd .u64 (shr .u64 n1 1) (6148914691236517205 : Int)) + (bAnd .u64 n1 (6148914691236517205 : Int)))) 2) (3689348814741910323 : Int)) + (bAnd .u64 (wu64 ((bAnd .u64 (shr .u64 n1 1) (6148914691236517205 : Int)) + (bAnd .u64 n1 (6148914691236517205 : Int)))) (3689348814741910323 : Int)))))) (1085102592571150095 : Int)) + (shr .u64 (bAnd .u64 (wu64 ((shr .u64 (wu64 ((bAnd .u64 (shr .u64 (wu64 ((bAnd .u64 (shr .u64 n1 1) (6148914691236517205 : Int)) + (bAnd .u64 n1 (6148914691236517205 : Int)))) 2) (3689348814741910323 : Int)) + (bAnd .u64 (wu64 ((bAnd .u64 (shr .u64 n1 1) (6148914691236517205 : Int)) + (bAnd .u64 n1 (6148914691236517205 : Int)))) (3689348814741910323 : Int)))) 4) + (wu64 ((bAnd .u64 (shr .u64 (wu64 ((bAnd .u64 (shr .u64 n1 1) (6148914691236517205 : Int)) + (bAnd .u64 n1 (6148914691236517205 : Int)))) 2) (3689348814741910323 : Int)) + (bAnd .u64 (wu64 ((bAnd .u64 (shr .u64 n1 1) (6148914691236517205 : Int)) + (bAnd .u64 n1 (6148914691236517205 : Int)))) (3689348814741910323 : Int)))))) (1085102592571150095 : Int)) 8))) + (shr .u64 (wu64 ((bAnd .u64 (wu64 ((shr .u64 (wu64 ((bAnd .u64 (shr .u64 (wu64 ((bAnd .u64 (shr .u64 n1 1) (6148914691236517205 : Int)) + (bAnd .u64 n1 (6148914691236517205 : Int)))) 2) (3689348814741910323 : Int)) + (bAnd .u64 (wu64 ((bAnd .u64 (shr .u64 n1 1) (6148914691236517205 : Int)) + (bAnd .u64 n1 (6148914691236517205 : Int)))) (3689348814741910323 : Int)))) 4) + (wu64 ((bAnd .u64 (shr .u64 (wu64 ((bAnd .u64 (shr .u64 n1 1) (6148914691236517205 : Int)) + (bAnd .u64 n1 (6148914691236517205 : Int)))) 2) (3689348814741910323 : Int)) + (bAnd .u64 (wu64 ((bAnd .u64 (shr .u64 n1 1) (6148914691236517205 : Int)) + (bAnd .u64 n1 (6148914691236517205 : Int)))) (3689348814741910323 : Int)))))) (1085102592571150095 : Int)) + (shr .u64 (bAnd .u64 (wu64 ((shr .u64 (wu64 ((bAnd .u64 (shr .u64 (wu64 ((bAnd .u64 (shr .u64 n1 1) (6148914691236517205 : Int)) + (bAnd .u64 n1 (6148914691236517205 : Int)))) 2) (3689348814741910323 : Int)) + (bAnd .u64 (wu64 ((bAnd .u64 (shr .u64 n1 1) (6148914691236517205 : Int)) + (bAnd .u64 n1 (6148914691236517205 : Int)))) (3689348814741910323 : Int)))) 4) + (wu64 ((bAnd .u64 (shr .u64 (wu64 ((bAnd .u64 (shr .u64 n1 1) (6148914691236517205 : Int)) + (bAnd .u64 n1 (6148914691236517205 : Int)))) 2) (3689348814741910323 : Int)) + (bAnd .u64 (wu64 ((bAnd .u64 (shr .u64 n1 1) (6148914691236517205 : Int)) + (bAnd .u64 n1 (6148914691236517205 : Int)))) (3689348814741910323 : Int)))))) (1085102592571150095 : Int)) 8))) 16))) + (shr .u64 (wu64 ((wu64 ((bAnd .u64 (wu64 ((shr .u64 (wu64 ((bAnd .u64 (shr .u64 (wu64 ((bAnd .u64 (shr .u64 n1 1) (6148914691236517205 : Int)) + (bAnd .u64 n1 (6148914691236517205 : Int)))) 2) (3689348814741910323 : Int)) + (bAnd .u64 (wu64 ((bAnd .u64 (shr .u64 n1 1) (6148914691236517205 : Int)) + (bAnd .u64 n1 (6148914691236517205 : Int)))) (3689348814741910323 : Int)))) 4) + (wu64 ((bAnd .u64 (shr .u64 (wu64 ((bAnd .u64 (shr .u64 n1 1) (6148914691236517205 : Int)) + (bAnd .u64 n1 (6148914691236517205 : Int)))) 2) (3689348814741910323 : Int)) + (bAnd .u64 (wu64 ((bAnd .u64 (shr .u64 n1 1) (6148914691236517205 : Int)) + (bAnd .u64 n1 (6148914691236517205 : Int)))) (3689348814741910323 : Int)))))) (1085102592571150095 : Int)) + (shr .u64 (bAnd .u64 (wu64 ((shr .u64 (wu64 ((bAnd .u64 (shr .u64 (wu64 ((bAnd .u64 (shr .u64 n1 1) (6148914691236517205 : Int)) + (bAnd .u64 n1 (6148914691236517205 : Int)))) 2) (3689348814741910323 : Int)) + (bAnd .u64 (wu64 ((bAnd .u64 (shr .u64 n1 1) (6148914691236517205 : Int)) + (bAnd .u64 n1 (6148914691236517205 : Int)))) (3689348814741910323 : Int)))) 4) + (wu64 ((bAnd .u64 (shr .u64 (wu64 ((bAnd .u64 (shr .u64 n1 1) (6148914691236517205 : Int)) + (bAnd .u64 n1 (6148914691236517205 : Int)))) 2) (3689348814741910323 : Int)) + (bAnd .u64 (wu64 ((bAnd .u64 (shr .u64 n1 1) (6148914691236517205 : Int)) + (bAnd .u64 n1 (6148914691236517205 : Int)))) (3689348814741910323 : Int)))))) (1085102592571150095 : Int)) 8))) + (shr .u64 (wu64 ((bAnd .u64 (wu64 ((shr .u64 (wu64 ((bAnd .u64 (shr .u64 (wu64 ((bAnd .u64 (shr .u64 n1 1) (6148914691236517205 : Int)) + (bAnd .u64 n1 (6148914691236517205 : Int)))) 2) (3689348814741910323 : Int)) + (bAnd .u64 (wu64 ((bAnd .u64 (shr .u64 n1 1) (6148914691236517205 : Int)) + (bAnd .u64 n1 (6148914691236517205 : Int)))) (3689348814741910323 : Int)))) 4) + (wu64 ((bAnd .u64 (shr .u64 (wu64 ((bAnd .u64 (shr .u64 n1 1) (6148914691236517205 : Int)) + (bAnd .u64 n1 (6148914691236517205 : Int)))) 2) (3689348814741910323 : Int)) + (bAnd .u64 (wu64 ((bAnd .u64 (shr .u64 n1 1) (6148914691236517205 : Int)) + (bAnd .u64 n1 (6148914691236517205 : Int)))) (3689348814741910323 : Int)))))) (1085102592571150095 : Int)) + (shr .u64 (bAnd .u64 (wu64 ((shr .u64 (wu64 ((bAnd .u64 (shr .u64 (wu64 ((bAnd .u64 (shr .u64 n1 1) (6148914691236517205 : Int)) + (bAnd .u64 n1 (6148914691236517205 : Int)))) 2) (3689348814741910323 : Int)) + (bAnd .u64 (wu64 ((bAnd .u64 (shr .u64 n1 1) (6148914691236517205 : Int)) + (bAnd .u64 n1 (6148914691236517205 : Int)))) (3689348814741910323 : Int)))) 4) + (wu64 ((bAnd .u64 (shr .u64 (wu64 ((bAnd .u64 (shr .u64 n1 1) (6148914691236517205 : Int)) + (bAnd .u64 n1 (6148914691236517205 : Int)))) 2) (3689348814741910323 : Int)) + (bAnd .u64 (wu64 ((bAnd .u64 (shr .u64 n1 1) (6148914691236517205 : Int)) + (bAnd .u64 n1 (6148914691236517205 : Int)))) (3689348814741910323 : Int)))))) (1085102592571150095 : Int)) 8))) 16))) 32)))) (127 : Int)) w
theorem math_bits_OnesCount64.ok {n1 : Int} {w : World} {K : Int → World → Prop} (h : math_bits_OnesCount64.F n1 w K) : math_bits_OnesCount64.C n1 w K := by
  refine CallsV.mono (callsV_of_sh prog.mixed prog.noNum (args := [(.int .u64 n1)]) Tryz.func456 (c := bodyOf Tryz.f456) (by kernel_rfl) (by kernel_rfl) (by kernel_rfl) (R := S_i64.R K) ?_) fun v w1 h => S_i64.out h
  apply kc h; kernel_rfl

def math_bits_RotateLeft64.F (n1 : Int) (n2 : Int) (w : World) (K : Int → World → Prop) : Prop :=
  shP (bAnd .u64 (wu64 n2) (63 : Int)) fun m3 =>
  shP (wu64 ((64 : Int) - (bAnd .u64 (wu64 n2) (63 : Int)))) fun m4 =>
  K (bOr .u64 (shl .u64 n1 m3) (shr .u64 n1 m4)) w
theorem math_bits_RotateLeft64.ok {n1 : Int} {n2 : Int} {w : World} {K : Int → World → Prop} (h : math_bits_RotateLeft64.F n1 n2 w K) : math_bits_RotateLeft64.C n1 n2 w K := by
  refine CallsV.mono (callsV_of_sh prog.mixed prog.noNum (args := [(.int .u64 n1), (.int .i64 n2)]) Tryz.func240 (c := bodyOf Tryz.f240) (by kernel_rfl) (by kernel_rfl) (by kernel_rfl) (R := S_u64.R K) ?_) fun v w1 h => S_u64.out h
  apply kc h; kernel_rfl

def math_bits_TrailingZeros64.F (n1 : Int) (w : World) (K : Int → World → Prop) : Prop :=
  cond (n1 == (0 : Int))
  (K (64 : Int) w)
  (0 ≤ (shr .u64 (wu64 ((bAnd .u64 n1 (wu64 (0 - n1))) * (285870213051353865 : Int))) 58) ∧ (shr .u64 (wu64 ((bAnd .u64 n1 (wu64 (0 - n1))) * (285870213051353865 : Int))) 58) < ((64 : Nat) : Int) ∧
  lU8 w 0 (0 + Int.toNat (shr .u64 (wu64 ((bAnd .u64 n1 (wu64 (0 - n1))) * (285870213051353865 : Int))) 58) * 1) fun n2 =>
  K (w64 n2) w)
theorem math_bits_TrailingZeros64.ok {n1 : Int} {w : World} {K : Int → World → Prop} (h : math_bits_TrailingZeros64.F n1 w K) : math_bits_TrailingZeros64.C n1 w K := by
  refine CallsV.mono (callsV_of_sh prog.mixed prog.noNum (args := [(.int .u64 n1)]) Tryz.func323 (c := bodyOf Tryz.f323) (by kernel_rfl) (by kernel_rfl) (by kernel_rfl) (R := S_i64.R K) ?_) fun v w1 h => S_i64.out h
  apply kc h; kernel_rfl

def pool_New_veb_node.F (p1 : Option Addr) (n2 : Int) (w : World) (K : Option Addr → Int → World → Prop) : Prop :=
  cond (decide (n2 < (0 : Int)))
  (K none (1 : Int) w)
  (cond (decide (n2 > (1048576 : Int)))
  (K none (1 : Int) w)
  (cond (Option.isNone p1)
  (count_New.C  w fun p3 W4 =>
  alP W4 #[(.pointer p3), (.slice none 0 0), (.slice none 0 0), (.int .i64 (0 : Int)), (.int .i64 n2)] 326 fun r5 W6 =>
  K (some ⟨r5, 0, none⟩) (0 : Int) W6)
  (alP w #[(.pointer p1), (.slice none 0 0), (.slice none 0 0), (.int .i64 (0 : Int)), (.int .i64 n2)] 326 fun r7 W8 =>
  K (some ⟨r7, 0, none⟩) (0 : Int) W8)))
theorem pool_New_veb_node.ok {p1 : Option Addr} {n2 : Int} {w : World} {K : Option Addr → Int → World → Prop} (h : pool_New_veb_node.F p1 n2 w K) : pool_New_veb_node.C p1 n2 w K := by
  refine CallsV.mono (callsV_of_sh prog.mixed prog.noNum (args := [(.pointer p1), (.int .i64 n2)]) Tryz.func175 (c := bodyOf Tryz.f175) (by kernel_rfl) (by kernel_rfl) (by kernel_rfl) (R := S_p_i64.R K) ?_) fun v w1 h => S_p_i64.out h
  apply kc h; kernel_rfl

def pool_Pool_veb_node_Alloc.F (p1 : Option Addr) (n2 : Int) (n3 : Int) (n4 : Int) (n5 : Int) (w : World) (K : Int → Bool → World → Prop) : Prop :=
  alP w #[(.int .u64 n2), (.int .u64 n3), (.int .i64 n4), (.int .u64 n5)] 267 fun r6 W7 =>
  pool_Pool_veb_node_Room.C p1 (1 : Int) W7 fun q8 W9 =>
  cond (!q8)
  (K (0 : Int) false W9)
  (nn p1 fun b10 o11 =>
  lI64 W9 b10 (o11 + 3) fun n12 =>
  nn p1 fun b13 o14 =>
  stP W9 b13 (o14 + 3) (.int .i64 (w64 (n12 + (1 : Int)))) fun W15 =>
  lAu64_u64_i64_u64 W15 r6 0 fun n16 n17 n18 n19 =>
  alP W15 #[(.int .u64 (0 : Int)), (.int .u64 (0 : Int)), (.int .i64 (0 : Int)), (.int .u64 (0 : Int)), (.bool false)] 404 fun r20 W21 =>
  stCs r20 0 [(.int .u64 n16), (.int .u64 n17), (.int .i64 n18), (.int .u64 n19), (.bool true)] W21 fun W22 =>
  nn p1 fun b23 o24 =>
  lL W22 b23 (o24 + 2) fun a25 l26 c27 =>
  cond (decide (((l26 : Nat) : Int) > (0 : Int)))
  (nn p1 fun b28 o29 =>
  lL W22 b28 (o29 + 2) fun a30 l31 c32 =>
  nn a30 fun b33 o34 =>
  0 ≤ (w64 (((l26 : Nat) : Int) - (1 : Int))) ∧ (w64 (((l26 : Nat) : Int) - (1 : Int))) < ((l31 : Nat) : Int) ∧
  lI64 W22 b33 (o34 + Int.toNat (w64 (((l26 : Nat) : Int) - (1 : Int))) * 1) fun n35 =>
  nn p1 fun b36 o37 =>
  lL W22 b36 (o37 + 2) fun a38 l39 c40 =>
  0 ≤ (w64 (((l26 : Nat) : Int) - (1 : Int))) ∧ (w64 (((l26 : Nat) : Int) - (1 : Int))) ≤ ((c40 : Nat) : Int) ∧
  nn p1 fun b41 o42 =>
  stP W22 b41 (o42 + 2) (.slice (slA a38 c40 0 1) ((Int.toNat (w64 (((l26 : Nat) : Int) - (1 : Int)))) - 0) (c40 - 0)) fun W43 =>
  drP W43 fun W44 =>
  nn p1 fun b45 o46 =>
  lL W44 b45 (o46 + 1) fun a47 l48 c49 =>
  lAu64_u64_i64_u64_b W44 r20 0 fun n50 n51 n52 n53 q54 =>
  nn a47 fun b55 o56 =>
  0 ≤ n35 ∧ n35 < ((l48 : Nat) : Int) ∧
  stCs b55 (o56 + Int.toNat n35 * 5) [(.int .u64 n50), (.int .u64 n51), (.int .i64 n52), (.int .u64 n53), (.bool q54)] W44 fun W57 =>
  K n35 true W57)
  (drP W22 fun W58 =>
  nn p1 fun b59 o60 =>
  lL W58 b59 (o60 + 1) fun a61 l62 c63 =>
  lAu64_u64_i64_u64_b W58 r20 0 fun n64 n65 n66 n67 q68 =>
  alP W58 #[(.int .u64 n64), (.int .u64 n65), (.int .i64 n66), (.int .u64 n67), (.bool q68)] 404 fun r69 W70 =>
  cellsAre W70 b59 (o60 + 1) [(.slice a61 l62 c63)] ∧
  AppV prog #[324, 324] 324 (.slice a61 l62 c63) (.slice (some ⟨r69, 0, none⟩) 1 1) W70 fun x71 W72 =>
  ∃ (a73 : Option Addr), ∃ (l74 : Nat), ∃ (c75 : Nat), x71 = (.slice a73 l74 c75) ∧
  nn p1 fun b76 o77 =>
  stP W72 b76 (o77 + 1) (.slice a73 l74 c75) fun W78 =>
  nn p1 fun b79 o80 =>
  lL W78 b79 (o80 + 1) fun a81 l82 c83 =>
  K (w64 (((l82 : Nat) : Int) - (1 : Int))) true W78))
theorem pool_Pool_veb_node_Alloc.ok {p1 : Option Addr} {n2 : Int} {n3 : Int} {n4 : Int} {n5 : Int} {w : World} {K : Int → Bool → World → Prop} (h : pool_Pool_veb_node_Alloc.F p1 n2 n3 n4 n5 w K) : pool_Pool_veb_node_Alloc.C p1 n2 n3 n4 n5 w K := by
  refine CallsV.mono (callsV_of_sh prog.mixed prog.noNum (args := [(.pointer p1), (.agg #[(.int .u64 n2), (.int .u64 n3), (.int .i64 n4), (.int .u64 n5)])]) Tryz.func287 (c := bodyOf Tryz.f287) (by kernel_rfl) (by kernel_rfl) (by kernel_rfl) (R := S_i64_b.R K) ?_) fun v w1 h => S_i64_b.out h
  apply kc h; kernel_rfl

def pool_Pool_veb_node_At.F (p1 : Option Addr) (n2 : Int) (w : World) (K : Int → Int → Int → Int → Bool → World → Prop) : Prop :=
  alP w #[(.int .u64 (0 : Int)), (.int .u64 (0 : Int)), (.int .i64 (0 : Int)), (.int .u64 (0 : Int))] 267 fun r3 W4 =>
  pool_Pool_veb_node_Peek.C p1 n2 W4 fun n5 n6 n7 n8 q9 W10 =>
  alP W10 #[(.int .u64 (0 : Int)), (.int .u64 (0 : Int)), (.int .i64 (0 : Int)), (.int .u64 (0 : Int))] 267 fun r11 W12 =>
  stCs r11 0 [(.int .u64 n5), (.int .u64 n6), (.int .i64 n7), (.int .u64 n8)] W12 fun W13 =>
  cond q9
  (nn p1 fun b14 o15 =>
  lP W13 b14 o15 fun p16 =>
  count_Meter_Read.C p16 W13 fun W17 =>
  lAu64_u64_i64_u64 W17 r11 0 fun n18 n19 n20 n21 =>
  stCs r3 0 [(.int .u64 n18), (.int .u64 n19), (.int .i64 n20), (.int .u64 n21)] W17 fun W22 =>
  lAu64_u64_i64_u64 W22 r3 0 fun n23 n24 n25 n26 =>
  K n23 n24 n25 n26 q9 W22)
  (lAu64_u64_i64_u64 W13 r11 0 fun n27 n28 n29 n30 =>
  stCs r3 0 [(.int .u64 n27), (.int .u64 n28), (.int .i64 n29), (.int .u64 n30)] W13 fun W31 =>
  lAu64_u64_i64_u64 W31 r3 0 fun n32 n33 n34 n35 =>
  K n32 n33 n34 n35 q9 W31)
theorem pool_Pool_veb_node_At.ok {p1 : Option Addr} {n2 : Int} {w : World} {K : Int → Int → Int → Int → Bool → World → Prop} (h : pool_Pool_veb_node_At.F p1 n2 w K) : pool_Pool_veb_node_At.C p1 n2 w K := by
  refine CallsV.mono (callsV_of_sh prog.mixed prog.noNum (args := [(.pointer p1), (.int .i64 n2)]) Tryz.func308 (c := bodyOf Tryz.f308) (by kernel_rfl) (by kernel_rfl) (by kernel_rfl) (R := S_au64_u64_i64_u64z_b.R K) ?_) fun v w1 h => S_au64_u64_i64_u64z_b.out h
  apply kc h; kernel_rfl

def pool_Pool_veb_node_Clear.F (p1 : Option Addr) (w : World) (K : World → Prop) : Prop :=
  cond (!(Option.isNone p1))
  (nn p1 fun b2 o3 =>
  lL w b2 (o3 + 1) fun a4 l5 c6 =>
  ClrV prog #[324] 0 (.slice a4 l5 c6) w fun x7 W8 =>
  nn p1 fun b9 o10 =>
  stP W8 b9 (o10 + 1) (.slice none 0 0) fun W11 =>
  nn p1 fun b12 o13 =>
  stP W11 b12 (o13 + 2) (.slice none 0 0) fun W14 =>
  nn p1 fun b15 o16 =>
  stP W14 b15 (o16 + 3) (.int .i64 (0 : Int)) fun W17 =>
  K W17)
  (K w)
theorem pool_Pool_veb_node_Clear.ok {p1 : Option Addr} {w : World} {K : World → Prop} (h : pool_Pool_veb_node_Clear.F p1 w K) : pool_Pool_veb_node_Clear.C p1 w K := by
  refine CallsV.mono (callsV_of_sh prog.mixed prog.noNum (args := [(.pointer p1)]) Tryz.func282 (c := bodyOf Tryz.f282) (by kernel_rfl) (by kernel_rfl) (by kernel_rfl) (R := S_.R K) ?_) fun v w1 h => S_.out h
  apply kc h; kernel_rfl

def pool_Pool_veb_node_Free.F (p1 : Option Addr) (n2 : Int) (w : World) (K : Bool → World → Prop) : Prop :=
  pool_Pool_veb_node_Live.C p1 n2 w fun q3 W4 =>
  cond (!q3)
  (K false W4)
  (nn p1 fun b5 o6 =>
  lL W4 b5 (o6 + 1) fun a7 l8 c9 =>
  nn a7 fun b10 o11 =>
  0 ≤ n2 ∧ n2 < ((l8 : Nat) : Int) ∧
  stCs b10 (o11 + Int.toNat n2 * 5) [(.int .u64 (0 : Int)), (.int .u64 (0 : Int)), (.int .i64 (0 : Int)), (.int .u64 (0 : Int)), (.bool false)] W4 fun W12 =>
  nn p1 fun b13 o14 =>
  lL W12 b13 (o14 + 2) fun a15 l16 c17 =>
  alP W12 #[(.int .i64 n2)] 3 fun r18 W19 =>
  AppV prog #[179, 179] 179 (.slice a15 l16 c17) (.slice (some ⟨r18, 0, none⟩) 1 1) W19 fun x20 W21 =>
  ∃ (a22 : Option Addr), ∃ (l23 : Nat), ∃ (c24 : Nat), x20 = (.slice a22 l23 c24) ∧
  nn p1 fun b25 o26 =>
  stP W21 b25 (o26 + 2) (.slice a22 l23 c24) fun W27 =>
  nn p1 fun b28 o29 =>
  lI64 W27 b28 (o29 + 3) fun n30 =>
  nn p1 fun b31 o32 =>
  stP W27 b31 (o32 + 3) (.int .i64 (w64 (n30 - (1 : Int)))) fun W33 =>
  K true W33)
theorem pool_Pool_veb_node_Free.ok {p1 : Option Addr} {n2 : Int} {w : World} {K : Bool → World → Prop} (h : pool_Pool_veb_node_Free.F p1 n2 w K) : pool_Pool_veb_node_Free.C p1 n2 w K := by
  refine CallsV.mono (callsV_of_sh prog.mixed prog.noNum (args := [(.pointer p1), (.int .i64 n2)]) Tryz.func298 (c := bodyOf Tryz.f298) (by kernel_rfl) (by kernel_rfl) (by kernel_rfl) (R := S_b.R K) ?_) fun v w1 h => S_b.out h
  apply kc h; kernel_rfl

def pool_Pool_veb_node_Len.F (p1 : Option Addr) (w : World) (K : Int → World → Prop) : Prop :=
  cond (Option.isNone p1)
  (K (0 : Int) w)
  (nn p1 fun b2 o3 =>
  lI64 w b2 (o3 + 3) fun n4 =>
  K n4 w)
theorem pool_Pool_veb_node_Len.ok {p1 : Option Addr} {w : World} {K : Int → World → Prop} (h : pool_Pool_veb_node_Len.F p1 w K) : pool_Pool_veb_node_Len.C p1 w K := by
  refine CallsV.mono (callsV_of_sh prog.mixed prog.noNum (args := [(.pointer p1)]) Tryz.func294 (c := bodyOf Tryz.f294) (by kernel_rfl) (by kernel_rfl) (by kernel_rfl) (R := S_i64.R K) ?_) fun v w1 h => S_i64.out h
  apply kc h; kernel_rfl

def pool_Pool_veb_node_Live.F (p1 : Option Addr) (n2 : Int) (w : World) (K : Bool → World → Prop) : Prop :=
  cond (!(Option.isNone p1))
  (cond (decide (n2 ≥ (0 : Int)))
  (nn p1 fun b3 o4 =>
  lL w b3 (o4 + 1) fun a5 l6 c7 =>
  cond (decide (n2 < ((l6 : Nat) : Int)))
  (nn p1 fun b8 o9 =>
  lL w b8 (o9 + 1) fun a10 l11 c12 =>
  nn a10 fun b13 o14 =>
  0 ≤ n2 ∧ n2 < ((l11 : Nat) : Int) ∧
  lB w b13 ((o14 + Int.toNat n2 * 5) + 4) fun q15 =>
  K q15 w)
  (K false w))
  (K false w))
  (K false w)
theorem pool_Pool_veb_node_Live.ok {p1 : Option Addr} {n2 : Int} {w : World} {K : Bool → World → Prop} (h : pool_Pool_veb_node_Live.F p1 n2 w K) : pool_Pool_veb_node_Live.C p1 n2 w K := by
  refine CallsV.mono (callsV_of_sh prog.mixed prog.noNum (args := [(.pointer p1), (.int .i64 n2)]) Tryz.func318 (c := bodyOf Tryz.f318) (by kernel_rfl) (by kernel_rfl) (by kernel_rfl) (R := S_b.R K) ?_) fun v w1 h => S_b.out h
  apply kc h; kernel_rfl

def pool_Pool_veb_node_Peek.F (p1 : Option Addr) (n2 : Int) (w : World) (K : Int → Int → Int → Int → Bool → World → Prop) : Prop :=
  alP w #[(.int .u64 (0 : Int)), (.int .u64 (0 : Int)), (.int .i64 (0 : Int)), (.int .u64 (0 : Int))] 267 fun r3 W4 =>
  pool_Pool_veb_node_Live.C p1 n2 W4 fun q5 W6 =>
  cond (!q5)
  (alP W6 #[(.int .u64 (0 : Int)), (.int .u64 (0 : Int)), (.int .i64 (0 : Int)), (.int .u64 (0 : Int))] 267 fun r7 W8 =>
  lAu64_u64_i64_u64 W8 r7 0 fun n9 n10 n11 n12 =>
  stCs r3 0 [(.int .u64 n9), (.int .u64 n10), (.int .i64 n11), (.int .u64 n12)] W8 fun W13 =>
  lAu64_u64_i64_u64 W13 r3 0 fun n14 n15 n16 n17 =>
  K n14 n15 n16 n17 false W13)
  (nn p1 fun b18 o19 =>
  lL W6 b18 (o19 + 1) fun a20 l21 c22 =>
  nn a20 fun b23 o24 =>
  0 ≤ n2 ∧ n2 < ((l21 : Nat) : Int) ∧
  lAu64_u64_i64_u64 W6 b23 (o24 + Int.toNat n2 * 5) fun n25 n26 n27 n28 =>
  stCs r3 0 [(.int .u64 n25), (.int .u64 n26), (.int .i64 n27), (.int .u64 n28)] W6 fun W29 =>
  lAu64_u64_i64_u64 W29 r3 0 fun n30 n31 n32 n33 =>
  K n30 n31 n32 n33 true W29)
theorem pool_Pool_veb_node_Peek.ok {p1 : Option Addr} {n2 : Int} {w : World} {K : Int → Int → Int → Int → Bool → World → Prop} (h : pool_Pool_veb_node_Peek.F p1 n2 w K) : pool_Pool_veb_node_Peek.C p1 n2 w K := by
  refine CallsV.mono (callsV_of_sh prog.mixed prog.noNum (args := [(.pointer p1), (.int .i64 n2)]) Tryz.func316 (c := bodyOf Tryz.f316) (by kernel_rfl) (by kernel_rfl) (by kernel_rfl) (R := S_au64_u64_i64_u64z_b.R K) ?_) fun v w1 h => S_au64_u64_i64_u64z_b.out h
  apply kc h; kernel_rfl

def pool_Pool_veb_node_Put.F (p1 : Option Addr) (n2 : Int) (n3 : Int) (n4 : Int) (n5 : Int) (n6 : Int) (w : World) (K : Bool → World → Prop) : Prop :=
  alP w #[(.int .u64 n3), (.int .u64 n4), (.int .i64 n5), (.int .u64 n6)] 267 fun r7 W8 =>
  pool_Pool_veb_node_Live.C p1 n2 W8 fun q9 W10 =>
  cond (!q9)
  (K false W10)
  (drP W10 fun W11 =>
  nn p1 fun b12 o13 =>
  lL W11 b12 (o13 + 1) fun a14 l15 c16 =>
  lAu64_u64_i64_u64 W11 r7 0 fun n17 n18 n19 n20 =>
  nn a14 fun b21 o22 =>
  0 ≤ n2 ∧ n2 < ((l15 : Nat) : Int) ∧
  stCs b21 (o22 + Int.toNat n2 * 5) [(.int .u64 n17), (.int .u64 n18), (.int .i64 n19), (.int .u64 n20)] W11 fun W23 =>
  K true W23)
theorem pool_Pool_veb_node_Put.ok {p1 : Option Addr} {n2 : Int} {n3 : Int} {n4 : Int} {n5 : Int} {n6 : Int} {w : World} {K : Bool → World → Prop} (h : pool_Pool_veb_node_Put.F p1 n2 n3 n4 n5 n6 w K) : pool_Pool_veb_node_Put.C p1 n2 n3 n4 n5 n6 w K := by
  refine CallsV.mono (callsV_of_sh prog.mixed prog.noNum (args := [(.pointer p1), (.int .i64 n2), (.agg #[(.int .u64 n3), (.int .u64 n4), (.int .i64 n5), (.int .u64 n6)])]) Tryz.func297 (c := bodyOf Tryz.f297) (by kernel_rfl) (by kernel_rfl) (by kernel_rfl) (R := S_b.R K) ?_) fun v w1 h => S_b.out h
  apply kc h; kernel_rfl

def pool_Pool_veb_node_Room.F (p1 : Option Addr) (n2 : Int) (w : World) (K : Bool → World → Prop) : Prop :=
  drP w fun W3 =>
  cond (!(Option.isNone p1))
  (nn p1 fun b4 o5 =>
  lI64 W3 b4 (o5 + 4) fun n6 =>
  nn p1 fun b7 o8 =>
  lI64 W3 b7 (o8 + 3) fun n9 =>
  K (decide (n2 ≤ (w64 (n6 - n9)))) W3)
  (K false W3)
theorem pool_Pool_veb_node_Room.ok {p1 : Option Addr} {n2 : Int} {w : World} {K : Bool → World → Prop} (h : pool_Pool_veb_node_Room.F p1 n2 w K) : pool_Pool_veb_node_Room.C p1 n2 w K := by
  refine CallsV.mono (callsV_of_sh prog.mixed prog.noNum (args := [(.pointer p1), (.int .i64 n2)]) Tryz.func289 (c := bodyOf Tryz.f289) (by kernel_rfl) (by kernel_rfl) (by kernel_rfl) (R := S_b.R K) ?_) fun v w1 h => S_b.out h
  apply kc h; kernel_rfl

def sift_Of.F (a1 : Option Addr) (l2 : Nat) (c3 : Nat) (w : World) (K : Value → World → Prop) : Prop :=
  slices_Clone_uint64_uint64.C a1 l2 c3 w fun a4 l5 c6 W7 =>
  slices_Sort_uint64_uint64.C a4 l5 c6 W7 fun W8 =>
  slices_Compact_uint64_uint64.C a4 l5 c6 W8 fun a9 l10 c11 W12 =>
  slices_Values_uint64_uint64.C a9 l10 c11 W12 fun x13 W14 =>
  K x13 W14
theorem sift_Of.ok {a1 : Option Addr} {l2 : Nat} {c3 : Nat} {w : World} {K : Value → World → Prop} (h : sift_Of.F a1 l2 c3 w K) : sift_Of.C a1 l2 c3 w K := by
  refine CallsV.mono (callsV_of_sh prog.mixed prog.noNum (args := [(.slice a1 l2 c3)]) Tryz.func140 (c := bodyOf Tryz.f140) (by kernel_rfl) (by kernel_rfl) (by kernel_rfl) (R := S_r.R K) ?_) fun v w1 h => S_r.out h
  apply kc h; kernel_rfl

def slices_Clone_uint64_uint64.F (a1 : Option Addr) (l2 : Nat) (c3 : Nat) (w : World) (K : Option Addr → Nat → Nat → World → Prop) : Prop :=
  cond (Option.isNone a1)
  (K none 0 0 w)
  (alP w #[] 22 fun r4 W5 =>
  AppV prog #[23, 23] 23 (.slice (some ⟨r4, 0, none⟩) 0 0) (.slice a1 l2 c3) W5 fun x6 W7 =>
  ∃ (a8 : Option Addr), ∃ (l9 : Nat), ∃ (c10 : Nat), x6 = (.slice a8 l9 c10) ∧
  K a8 l9 c10 W7)
theorem slices_Clone_uint64_uint64.ok {a1 : Option Addr} {l2 : Nat} {c3 : Nat} {w : World} {K : Option Addr → Nat → Nat → World → Prop} (h : slices_Clone_uint64_uint64.F a1 l2 c3 w K) : slices_Clone_uint64_uint64.C a1 l2 c3 w K := by
  refine CallsV.mono (callsV_of_sh prog.mixed prog.noNum (args := [(.slice a1 l2 c3)]) Tryz.func181 (c := bodyOf Tryz.f181) (by kernel_rfl) (by kernel_rfl) (by kernel_rfl) (R := S_l.R K) ?_) fun v w1 h => S_l.out h
  apply kc h; kernel_rfl

def slices_Compact_uint64_uint64.B2 (K : Option Addr → Nat → Nat → World → Prop) (a25 : Option Addr) (l26 : Nat) (c27 : Nat) (a66 : Option Addr) (l67 : Nat) (c68 : Nat) : (Int × Int) → World → ((Int × Int) → World → Prop) → Prop := fun s0 W71 next70 => match s0 with
 | (n36, n69) =>
  cond (decide (n69 < ((l67 : Nat) : Int)))
  (drP W71 fun W72 =>
  nn a66 fun b73 o74 =>
  0 ≤ n69 ∧ n69 < ((l67 : Nat) : Int) ∧
  lU64 W72 b73 (o74 + Int.toNat n69 * 1) fun n75 =>
  nn a66 fun b76 o77 =>
  0 ≤ (w64 (n69 - (1 : Int))) ∧ (w64 (n69 - (1 : Int))) < ((l67 : Nat) : Int) ∧
  lU64 W72 b76 (o77 + Int.toNat (w64 (n69 - (1 : Int))) * 1) fun n78 =>
  cond (n75 != n78)
  (nn a66 fun b79 o80 =>
  0 ≤ n69 ∧ n69 < ((l67 : Nat) : Int) ∧
  lU64 W72 b79 (o80 + Int.toNat n69 * 1) fun n81 =>
  nn a25 fun b82 o83 =>
  0 ≤ n36 ∧ n36 < ((l26 : Nat) : Int) ∧
  stP W72 b82 (o83 + Int.toNat n36 * 1) (.int .u64 n81) fun W84 =>
  next70 ((w64 (n36 + (1 : Int))), (w64 (n69 + (1 : Int)))) W84)
  (next70 (n36, (w64 (n69 + (1 : Int)))) W72))
  (0 ≤ n36 ∧ n36 ≤ ((l26 : Nat) : Int) ∧
  ClrV prog #[23] 0 (.slice (slA a25 c27 (Int.toNat n36) 1) (l26 - (Int.toNat n36)) (c27 - (Int.toNat n36))) W71 fun x85 W86 =>
  0 ≤ n36 ∧ n36 ≤ ((c27 : Nat) : Int) ∧
  K (slA a25 c27 0 1) ((Int.toNat n36) - 0) (c27 - 0) W86)
def slices_Compact_uint64_uint64.T2 (K : Option Addr → Nat → Nat → World → Prop) (a25 : Option Addr) (l26 : Nat) (c27 : Nat) (n36 : Int) (a66 : Option Addr) (l67 : Nat) (c68 : Nat) (n69 : Int) (w : World) : Prop := LoopT (slices_Compact_uint64_uint64.B2 K a25 l26 c27 a66 l67 c68) (n36, n69) w
def slices_Compact_uint64_uint64.B1 (K : Option Addr → Nat → Nat → World → Prop) (a4 : Option Addr) (l5 : Nat) (c6 : Nat) : Int → World → ((Int) → World → Prop) → Prop := fun s0 W17 next16 => match s0 with
 | n15 =>
  cond (decide (n15 < ((l5 : Nat) : Int)))
  (drP W17 fun W18 =>
  nn a4 fun b19 o20 =>
  0 ≤ n15 ∧ n15 < ((l5 : Nat) : Int) ∧
  lU64 W18 b19 (o20 + Int.toNat n15 * 1) fun n21 =>
  nn a4 fun b22 o23 =>
  0 ≤ (w64 (n15 - (1 : Int))) ∧ (w64 (n15 - (1 : Int))) < ((l5 : Nat) : Int) ∧
  lU64 W18 b22 (o23 + Int.toNat (w64 (n15 - (1 : Int))) * 1) fun n24 =>
  cond (n21 == n24)
  (0 ≤ n15 ∧ n15 ≤ ((l5 : Nat) : Int) ∧
  slices_Compact_uint64_uint64.T2 K a4 l5 c6 n15 (slA a4 c6 (Int.toNat n15) 1) (l5 - (Int.toNat n15)) (c6 - (Int.toNat n15)) (1 : Int) W18)
  (next16 (w64 (n15 + (1 : Int))) W18))
  (K a4 l5 c6 W17)
def slices_Compact_uint64_uint64.T1 (K : Option Addr → Nat → Nat → World → Prop) (a4 : Option Addr) (l5 : Nat) (c6 : Nat) (n15 : Int) (w : World) : Prop := LoopT (slices_Compact_uint64_uint64.B1 K a4 l5 c6) n15 w
def slices_Compact_uint64_uint64.F (a1 : Option Addr) (l2 : Nat) (c3 : Nat) (w : World) (K : Option Addr → Nat → Nat → World → Prop) : Prop :=
  cond (decide (((l2 : Nat) : Int) < (2 : Int)))
  (K a1 l2 c3 w)
  (slices_Compact_uint64_uint64.T1 K a1 l2 c3 (1 : Int) w)
def slices_Compact_uint64_uint64.U0 (K : Option Addr → Nat → Nat → World → Prop) (l : Nat) (fr : Fr) (w : World) : Prop :=
  match l with
 | 1 =>
  gL False (fr 0) fun a4 l5 c6 =>
  gI64 False (fr 3) fun n15 =>
  slices_Compact_uint64_uint64.T1 K a4 l5 c6 n15 w
 | _ => False
def slices_Compact_uint64_uint64.ext1 (fr : Fr) : Option (Int) :=
  gI64 none (fr 3) fun n15 =>
  some n15
def slices_Compact_uint64_uint64.U1 (K : Option Addr → Nat → Nat → World → Prop) (next16 : Int → World → Prop) (l : Nat) (fr : Fr) (w : World) : Prop :=
  match l with
 | 2 =>
  gL False (fr 0) fun a25 l26 c27 =>
  gI64 False (fr 3) fun n36 =>
  gL False (fr 4) fun a66 l67 c68 =>
  gI64 False (fr 5) fun n69 =>
  slices_Compact_uint64_uint64.T2 K a25 l26 c27 n36 a66 l67 c68 n69 w
 | _ => False
def slices_Compact_uint64_uint64.ext2 (fr : Fr) : Option (Int × Int) :=
  gI64 none (fr 3) fun n36 =>
  gI64 none (fr 5) fun n69 =>
  some (n36, n69)
theorem slices_Compact_uint64_uint64.U1_ok2 (K : Option Addr → Nat → Nat → World → Prop) (next16 : Int → World → Prop) (fr : Fr) (w : World) (h : slices_Compact_uint64_uint64.U1 K next16 2 fr w) : sh prog (slices_Compact_uint64_uint64.U1 K next16) (subAt [.R, .L, .B, .R, .T, .R, .L, .R, .B] ((loopBody (subAt [.R, .R, .L, .R, .B] (bodyOf Tryz.f184))))) fr w (ctxAt prog (slices_Compact_uint64_uint64.U1 K next16) [.R, .L, .B, .R, .T, .R, .L, .R, .B] ((loopBody (subAt [.R, .R, .L, .R, .B] (bodyOf Tryz.f184)))) (nextK slices_Compact_uint64_uint64.ext1 next16 (ctxAt prog (slices_Compact_uint64_uint64.U0 K) [.R, .R, .L, .R, .B] (bodyOf Tryz.f184) (retK prog Tryz.f184.results.toList (S_l.R K))))) := by
  unfold slices_Compact_uint64_uint64.U1 at h
  simp only at h
  replace h := gL.outF h; obtain ⟨a25, l26, c27, e89, h⟩ := h
  replace h := gI64.outF h; obtain ⟨n36, e90, h⟩ := h
  replace h := gL.outF h; obtain ⟨a66, l67, c68, e91, h⟩ := h
  replace h := gI64.outF h; obtain ⟨n69, e92, h⟩ := h
  refine kc (A := LoopP (sh prog (slices_Compact_uint64_uint64.U1 K next16) (loopBody (subAt [.R, .L, .B, .R, .T, .R, .L, .R, .B] ((loopBody (subAt [.R, .R, .L, .R, .B] (bodyOf Tryz.f184))))))) fr w (ctxAt prog (slices_Compact_uint64_uint64.U1 K next16) [.R, .L, .B, .R, .T, .R, .L, .R, .B] ((loopBody (subAt [.R, .R, .L, .R, .B] (bodyOf Tryz.f184)))) (nextK slices_Compact_uint64_uint64.ext1 next16 (ctxAt prog (slices_Compact_uint64_uint64.U0 K) [.R, .R, .L, .R, .B] (bodyOf Tryz.f184) (retK prog Tryz.f184.results.toList (S_l.R K)))))) ?_ (by kernel_rfl)
  refine loop_typed (B := slices_Compact_uint64_uint64.B2 K a25 l26 c27 a66 l67 c68) slices_Compact_uint64_uint64.ext2 (s := (n36, n69)) (by unfold slices_Compact_uint64_uint64.ext2; simp only [e90, e92]; rfl) h ?_
  clear h
  clear e90
  clear e92
  intro s0 fr1 w1 next70 hs hk h
  unfold slices_Compact_uint64_uint64.ext2 at hs
  replace hs := noN (gI64.out (d := none) (x := _) hs); obtain ⟨n36a, e93, hs⟩ := hs
  replace hs := noN (gI64.out (d := none) (x := _) hs); obtain ⟨n69a, e94, hs⟩ := hs
  replace hs := Option.some.inj hs; subst hs
  have e95 : fr1 0 = (.slice a25 l26 c27) := (hk 0 (by kernel_rfl)).trans e89
  have e96 : fr1 4 = (.slice a66 l67 c68) := (hk 4 (by kernel_rfl)).trans e91
  refine at_frame [(3, (.int .i64 n36a)), (5, (.int .i64 n69a)), (0, (.slice a25 l26 c27)), (4, (.slice a66 l67 c68))] (by intro p hp; simp only [List.mem_cons, List.not_mem_nil, or_false] at hp; rcases hp with rfl | rfl | rfl | rfl <;> assumption) (Q := fun fr => sh prog (slices_Compact_uint64_uint64.U1 K next16) (loopBody (subAt [.R, .L, .B, .R, .T, .R, .L, .R, .B] ((loopBody (subAt [.R, .R, .L, .R, .B] (bodyOf Tryz.f184)))))) fr w1 (nextK slices_Compact_uint64_uint64.ext2 next70 (ctxAt prog (slices_Compact_uint64_uint64.U1 K next16) [.R, .L, .B, .R, .T, .R, .L, .R, .B] ((loopBody (subAt [.R, .R, .L, .R, .B] (bodyOf Tryz.f184)))) (nextK slices_Compact_uint64_uint64.ext1 next16 (ctxAt prog (slices_Compact_uint64_uint64.U0 K) [.R, .R, .L, .R, .B] (bodyOf Tryz.f184) (retK prog Tryz.f184.results.toList (S_l.R K))))))) ?_
  apply kc h; kernel_rfl
theorem slices_Compact_uint64_uint64.U0_ok1 (K : Option Addr → Nat → Nat → World → Prop) (fr : Fr) (w : World) (h : slices_Compact_uint64_uint64.U0 K 1 fr w) : sh prog (slices_Compact_uint64_uint64.U0 K) (subAt [.R, .R, .L, .R, .B] (bodyOf Tryz.f184)) fr w (ctxAt prog (slices_Compact_uint64_uint64.U0 K) [.R, .R, .L, .R, .B] (bodyOf Tryz.f184) (retK prog Tryz.f184.results.toList (S_l.R K))) := by
  unfold slices_Compact_uint64_uint64.U0 at h
  simp only at h
  replace h := gL.outF h; obtain ⟨a4, l5, c6, e87, h⟩ := h
  replace h := gI64.outF h; obtain ⟨n15, e88, h⟩ := h
  refine kc (A := LoopP (sh prog (slices_Compact_uint64_uint64.U0 K) (loopBody (subAt [.R, .R, .L, .R, .B] (bodyOf Tryz.f184)))) fr w (ctxAt prog (slices_Compact_uint64_uint64.U0 K) [.R, .R, .L, .R, .B] (bodyOf Tryz.f184) (retK prog Tryz.f184.results.toList (S_l.R K)))) ?_ (by kernel_rfl)
  refine loop_typed (B := slices_Compact_uint64_uint64.B1 K a4 l5 c6) slices_Compact_uint64_uint64.ext1 (s := n15) (by unfold slices_Compact_uint64_uint64.ext1; simp only [e88]; rfl) h ?_
  clear h
  clear e88
  intro s0 fr1 w1 next16 hs hk h
  unfold slices_Compact_uint64_uint64.ext1 at hs
  replace hs := noN (gI64.out (d := none) (x := _) hs); obtain ⟨n15a, e97, hs⟩ := hs
  replace hs := Option.some.inj hs; subst hs
  have e98 : fr1 0 = (.slice a4 l5 c6) := (hk 0 (by kernel_rfl)).trans e87
  refine at_frame [(3, (.int .i64 n15a)), (0, (.slice a4 l5 c6))] (by intro p hp; simp only [List.mem_cons, List.not_mem_nil, or_false] at hp; rcases hp with rfl | rfl <;> assumption) (Q := fun fr => sh prog (slices_Compact_uint64_uint64.U0 K) (loopBody (subAt [.R, .R, .L, .R, .B] (bodyOf Tryz.f184))) fr w1 (nextK slices_Compact_uint64_uint64.ext1 next16 (ctxAt prog (slices_Compact_uint64_uint64.U0 K) [.R, .R, .L, .R, .B] (bodyOf Tryz.f184) (retK prog Tryz.f184.results.toList (S_l.R K))))) ?_
  refine sh_anyCut (cut := slices_Compact_uint64_uint64.U1 K next16) (by kernel_rfl) ?_
  refine sh_cutAt (p := [.R, .L, .B, .R, .T, .R, .L, .R, .B]) (l := 2) ?_ (slices_Compact_uint64_uint64.U1_ok2 K next16)
  apply kc h; kernel_rfl
theorem slices_Compact_uint64_uint64.ok {a1 : Option Addr} {l2 : Nat} {c3 : Nat} {w : World} {K : Option Addr → Nat → Nat → World → Prop} (h : slices_Compact_uint64_uint64.F a1 l2 c3 w K) : slices_Compact_uint64_uint64.C a1 l2 c3 w K := by
  refine CallsV.mono (callsV_of_sh prog.mixed prog.noNum (args := [(.slice a1 l2 c3)]) Tryz.func184 (c := bodyOf Tryz.f184) (by kernel_rfl) (by kernel_rfl) (by kernel_rfl) (R := S_l.R K) ?_) fun v w1 h => S_l.out h
  refine sh_anyCut (cut := slices_Compact_uint64_uint64.U0 K) (by kernel_rfl) ?_
  refine sh_cutAt (p := [.R, .R, .L, .R, .B]) (l := 1) ?_ (slices_Compact_uint64_uint64.U0_ok1 K)
  apply kc h; kernel_rfl

def slices_Sort_uint64_uint64.F (a1 : Option Addr) (l2 : Nat) (c3 : Nat) (w : World) (K : World → Prop) : Prop :=
  math_bits_Len.C (wu64 ((l2 : Nat) : Int)) w fun n4 W5 =>
  slices_pdqsortOrdered_uint64.C a1 l2 c3 (0 : Int) ((l2 : Nat) : Int) n4 W5 fun W6 =>
  K W6
theorem slices_Sort_uint64_uint64.ok {a1 : Option Addr} {l2 : Nat} {c3 : Nat} {w : World} {K : World → Prop} (h : slices_Sort_uint64_uint64.F a1 l2 c3 w K) : slices_Sort_uint64_uint64.C a1 l2 c3 w K := by
  refine CallsV.mono (callsV_of_sh prog.mixed prog.noNum (args := [(.slice a1 l2 c3)]) Tryz.func182 (c := bodyOf Tryz.f182) (by kernel_rfl) (by kernel_rfl) (by kernel_rfl) (R := S_.R K) ?_) fun v w1 h => S_.out h
  apply kc h; kernel_rfl

def slices_Values_uint64_uint64.F (a1 : Option Addr) (l2 : Nat) (c3 : Nat) (w : World) (K : Value → World → Prop) : Prop :=
  alP w #[(.slice a1 l2 c3)] 23 fun r4 W5 =>
  K (.func (.func 210) #[] #[(.pointer (some ⟨r4, 0, none⟩))]) W5
theorem slices_Values_uint64_uint64.ok {a1 : Option Addr} {l2 : Nat} {c3 : Nat} {w : World} {K : Value → World → Prop} (h : slices_Values_uint64_uint64.F a1 l2 c3 w K) : slices_Values_uint64_uint64.C a1 l2 c3 w K := by
  refine CallsV.mono (callsV_of_sh prog.mixed prog.noNum (args := [(.slice a1 l2 c3)]) Tryz.func183 (c := bodyOf Tryz.f183) (by kernel_rfl) (by kernel_rfl) (by kernel_rfl) (R := S_r.R K) ?_) fun v w1 h => S_r.out h
  apply kc h; kernel_rfl

def slices_Values_uint64_uint64_1.B1 (K : World → Prop) (x7 : Value) (a10 : Option Addr) (l11 : Nat) (c12 : Nat) (n13 : Int) : Int → World → ((Int) → World → Prop) → Prop := fun s0 W16 next15 => match s0 with
 | n14 =>
  cond (decide (n14 < n13))
  (nn a10 fun b17 o18 =>
  0 ≤ n14 ∧ n14 < ((l11 : Nat) : Int) ∧
  lU64 W16 b17 (o18 + Int.toNat n14 * 1) fun n19 =>
  DynV prog x7 #[(.int .u64 n19)] W16 fun x20 W21 =>
  ∃ (q22 : Bool), x20 = (.bool q22) ∧
  cond (!q22)
  (K W21)
  (next15 (w64 (n14 + (1 : Int))) W21))
  (K W16)
def slices_Values_uint64_uint64_1.T1 (K : World → Prop) (x7 : Value) (a10 : Option Addr) (l11 : Nat) (c12 : Nat) (n13 : Int) (n14 : Int) (w : World) : Prop := LoopT (slices_Values_uint64_uint64_1.B1 K x7 a10 l11 c12 n13) n14 w
def slices_Values_uint64_uint64_1.F (x1 : Value) (b2 : Nat) (o3 : Nat) (w : World) (K : World → Prop) : Prop :=
  lL w b2 o3 fun a4 l5 c6 =>
  slices_Values_uint64_uint64_1.T1 K x1 a4 l5 c6 ((l5 : Nat) : Int) (0 : Int) w
def slices_Values_uint64_uint64_1.U0 (K : World → Prop) (l : Nat) (fr : Fr) (w : World) : Prop :=
  match l with
 | 1 =>
  gR False (fr 0) fun x7 =>
  gL False (fr 5) fun a10 l11 c12 =>
  gI64 False (fr 6) fun n13 =>
  gI64 False (fr 7) fun n14 =>
  slices_Values_uint64_uint64_1.T1 K x7 a10 l11 c12 n13 n14 w
 | _ => False
def slices_Values_uint64_uint64_1.ext1 (fr : Fr) : Option (Int) :=
  gI64 none (fr 7) fun n14 =>
  some n14
theorem slices_Values_uint64_uint64_1.U0_ok1 (K : World → Prop) (fr : Fr) (w : World) (h : slices_Values_uint64_uint64_1.U0 K 1 fr w) : sh prog (slices_Values_uint64_uint64_1.U0 K) (subAt [.R, .B] (bodyOf Tryz.f210)) fr w (ctxAt prog (slices_Values_uint64_uint64_1.U0 K) [.R, .B] (bodyOf Tryz.f210) (retK prog Tryz.f210.results.toList (S_.R K))) := by
  unfold slices_Values_uint64_uint64_1.U0 at h
  simp only at h
  replace h := gR.outF h; obtain ⟨x7, e23, h⟩ := h
  replace h := gL.outF h; obtain ⟨a10, l11, c12, e24, h⟩ := h
  replace h := gI64.outF h; obtain ⟨n13, e25, h⟩ := h
  replace h := gI64.outF h; obtain ⟨n14, e26, h⟩ := h
  refine kc (A := LoopP (sh prog (slices_Values_uint64_uint64_1.U0 K) (loopBody (subAt [.R, .B] (bodyOf Tryz.f210)))) fr w (ctxAt prog (slices_Values_uint64_uint64_1.U0 K) [.R, .B] (bodyOf Tryz.f210) (retK prog Tryz.f210.results.toList (S_.R K)))) ?_ (by kernel_rfl)
  refine loop_typed (B := slices_Values_uint64_uint64_1.B1 K x7 a10 l11 c12 n13) slices_Values_uint64_uint64_1.ext1 (s := n14) (by unfold slices_Values_uint64_uint64_1.ext1; simp only [e26]; rfl) h ?_
  clear h
  clear e26
  intro s0 fr1 w1 next15 hs hk h
  unfold slices_Values_uint64_uint64_1.ext1 at hs
  replace hs := noN (gI64.out (d := none) (x := _) hs); obtain ⟨n14a, e27, hs⟩ := hs
  replace hs := Option.some.inj hs; subst hs
  have e28 : fr1 0 = x7 := (hk 0 (by kernel_rfl)).trans e23
  have e29 : fr1 5 = (.slice a10 l11 c12) := (hk 5 (by kernel_rfl)).trans e24
  have e30 : fr1 6 = (.int .i64 n13) := (hk 6 (by kernel_rfl)).trans e25
  refine at_frame [(7, (.int .i64 n14a)), (0, x7), (5, (.slice a10 l11 c12)), (6, (.int .i64 n13))] (by intro p hp; simp only [List.mem_cons, List.not_mem_nil, or_false] at hp; rcases hp with rfl | rfl | rfl | rfl <;> assumption) (Q := fun fr => sh prog (slices_Values_uint64_uint64_1.U0 K) (loopBody (subAt [.R, .B] (bodyOf Tryz.f210))) fr w1 (nextK slices_Values_uint64_uint64_1.ext1 next15 (ctxAt prog (slices_Values_uint64_uint64_1.U0 K) [.R, .B] (bodyOf Tryz.f210) (retK prog Tryz.f210.results.toList (S_.R K))))) ?_
  apply kc h; kernel_rfl
theorem slices_Values_uint64_uint64_1.ok {x1 : Value} {b2 : Nat} {o3 : Nat} {w : World} {K : World → Prop} (h : slices_Values_uint64_uint64_1.F x1 b2 o3 w K) : slices_Values_uint64_uint64_1.C x1 b2 o3 w K := by
  refine CallsV.mono (callsV_of_sh prog.mixed prog.noNum (args := [x1, (.pointer (some ⟨b2, o3, none⟩))]) Tryz.func210 (c := bodyOf Tryz.f210) (by kernel_rfl) (by kernel_rfl) (by kernel_rfl) (R := S_.R K) ?_) fun v w1 h => S_.out h
  refine sh_anyCut (cut := slices_Values_uint64_uint64_1.U0 K) (by kernel_rfl) ?_
  refine sh_cutAt (p := [.R, .B]) (l := 1) ?_ (slices_Values_uint64_uint64_1.U0_ok1 K)
  apply kc h; kernel_rfl

def slices_insertionSortOrdered_uint64.B2 (next14 : Int → World → Prop) (a16 : Option Addr) (l17 : Nat) (c18 : Nat) (n19 : Int) (n23 : Int) : Int → World → ((Int) → World → Prop) → Prop := fun s0 W30 next29 => match s0 with
 | n28 =>
  drP W30 fun W31 =>
  cond (decide (n28 > n19))
  (nn a16 fun b32 o33 =>
  0 ≤ n28 ∧ n28 < ((l17 : Nat) : Int) ∧
  lU64 W31 b32 (o33 + Int.toNat n28 * 1) fun n34 =>
  nn a16 fun b35 o36 =>
  0 ≤ (w64 (n28 - (1 : Int))) ∧ (w64 (n28 - (1 : Int))) < ((l17 : Nat) : Int) ∧
  lU64 W31 b35 (o36 + Int.toNat (w64 (n28 - (1 : Int))) * 1) fun n37 =>
  cmp_Less_uint64.C n34 n37 W31 fun q38 W39 =>
  cond q38
  (drP W39 fun W40 =>
  nn a16 fun b41 o42 =>
  0 ≤ (w64 (n28 - (1 : Int))) ∧ (w64 (n28 - (1 : Int))) < ((l17 : Nat) : Int) ∧
  lU64 W40 b41 (o42 + Int.toNat (w64 (n28 - (1 : Int))) * 1) fun n43 =>
  nn a16 fun b44 o45 =>
  0 ≤ n28 ∧ n28 < ((l17 : Nat) : Int) ∧
  lU64 W40 b44 (o45 + Int.toNat n28 * 1) fun n46 =>
  nn a16 fun b47 o48 =>
  0 ≤ n28 ∧ n28 < ((l17 : Nat) : Int) ∧
  stP W40 b47 (o48 + Int.toNat n28 * 1) (.int .u64 n43) fun W49 =>
  nn a16 fun b50 o51 =>
  0 ≤ (w64 (n28 - (1 : Int))) ∧ (w64 (n28 - (1 : Int))) < ((l17 : Nat) : Int) ∧
  stP W49 b50 (o51 + Int.toNat (w64 (n28 - (1 : Int))) * 1) (.int .u64 n46) fun W52 =>
  next29 (w64 (n28 - (1 : Int))) W52)
  (next14 (w64 (n23 + (1 : Int))) W39))
  (next14 (w64 (n23 + (1 : Int))) W31)
def slices_insertionSortOrdered_uint64.T2 (next14 : Int → World → Prop) (a16 : Option Addr) (l17 : Nat) (c18 : Nat) (n19 : Int) (n23 : Int) (n28 : Int) (w : World) : Prop := LoopT (slices_insertionSortOrdered_uint64.B2 next14 a16 l17 c18 n19 n23) n28 w
def slices_insertionSortOrdered_uint64.B1 (K : World → Prop) (a6 : Option Addr) (l7 : Nat) (c8 : Nat) (n9 : Int) (n10 : Int) : Int → World → ((Int) → World → Prop) → Prop := fun s0 W15 next14 => match s0 with
 | n13 =>
  cond (decide (n13 < n10))
  (slices_insertionSortOrdered_uint64.T2 next14 a6 l7 c8 n9 n13 n13 W15)
  (K W15)
def slices_insertionSortOrdered_uint64.T1 (K : World → Prop) (a6 : Option Addr) (l7 : Nat) (c8 : Nat) (n9 : Int) (n10 : Int) (n13 : Int) (w : World) : Prop := LoopT (slices_insertionSortOrdered_uint64.B1 K a6 l7 c8 n9 n10) n13 w
def slices_insertionSortOrdered_uint64.F (a1 : Option Addr) (l2 : Nat) (c3 : Nat) (n4 : Int) (n5 : Int) (w : World) (K : World → Prop) : Prop :=
  slices_insertionSortOrdered_uint64.T1 K a1 l2 c3 n4 n5 (w64 (n4 + (1 : Int))) w
def slices_insertionSortOrdered_uint64.U0 (K : World → Prop) (l : Nat) (fr : Fr) (w : World) : Prop :=
  match l with
 | 1 =>
  gL False (fr 0) fun a6 l7 c8 =>
  gI64 False (fr 1) fun n9 =>
  gI64 False (fr 2) fun n10 =>
  gI64 False (fr 6) fun n13 =>
  slices_insertionSortOrdered_uint64.T1 K a6 l7 c8 n9 n10 n13 w
 | _ => False
def slices_insertionSortOrdered_uint64.ext1 (fr : Fr) : Option (Int) :=
  gI64 none (fr 6) fun n13 =>
  some n13
def slices_insertionSortOrdered_uint64.U1 (K : World → Prop) (next14 : Int → World → Prop) (l : Nat) (fr : Fr) (w : World) : Prop :=
  match l with
 | 2 =>
  gL False (fr 0) fun a16 l17 c18 =>
  gI64 False (fr 1) fun n19 =>
  gI64 False (fr 6) fun n23 =>
  gI64 False (fr 7) fun n28 =>
  slices_insertionSortOrdered_uint64.T2 next14 a16 l17 c18 n19 n23 n28 w
 | _ => False
def slices_insertionSortOrdered_uint64.ext2 (fr : Fr) : Option (Int) :=
  gI64 none (fr 7) fun n28 =>
  some n28
theorem slices_insertionSortOrdered_uint64.U1_ok2 (K : World → Prop) (next14 : Int → World → Prop) (fr : Fr) (w : World) (h : slices_insertionSortOrdered_uint64.U1 K next14 2 fr w) : sh prog (slices_insertionSortOrdered_uint64.U1 K next14) (subAt [.R, .L, .B, .R, .B] ((loopBody (subAt [.R, .B] (bodyOf Tryz.f225))))) fr w (ctxAt prog (slices_insertionSortOrdered_uint64.U1 K next14) [.R, .L, .B, .R, .B] ((loopBody (subAt [.R, .B] (bodyOf Tryz.f225)))) (nextK slices_insertionSortOrdered_uint64.ext1 next14 (ctxAt prog (slices_insertionSortOrdered_uint64.U0 K) [.R, .B] (bodyOf Tryz.f225) (retK prog Tryz.f225.results.toList (S_.R K))))) := by
  unfold slices_insertionSortOrdered_uint64.U1 at h
  simp only at h
  replace h := gL.outF h; obtain ⟨a16, l17, c18, e57, h⟩ := h
  replace h := gI64.outF h; obtain ⟨n19, e58, h⟩ := h
  replace h := gI64.outF h; obtain ⟨n23, e59, h⟩ := h
  replace h := gI64.outF h; obtain ⟨n28, e60, h⟩ := h
  refine kc (A := LoopP (sh prog (slices_insertionSortOrdered_uint64.U1 K next14) (loopBody (subAt [.R, .L, .B, .R, .B] ((loopBody (subAt [.R, .B] (bodyOf Tryz.f225))))))) fr w (ctxAt prog (slices_insertionSortOrdered_uint64.U1 K next14) [.R, .L, .B, .R, .B] ((loopBody (subAt [.R, .B] (bodyOf Tryz.f225)))) (nextK slices_insertionSortOrdered_uint64.ext1 next14 (ctxAt prog (slices_insertionSortOrdered_uint64.U0 K) [.R, .B] (bodyOf Tryz.f225) (retK prog Tryz.f225.results.toList (S_.R K)))))) ?_ (by kernel_rfl)
  refine loop_typed (B := slices_insertionSortOrdered_uint64.B2 next14 a16 l17 c18 n19 n23) slices_insertionSortOrdered_uint64.ext2 (s := n28) (by unfold slices_insertionSortOrdered_uint64.ext2; simp only [e60]; rfl) h ?_
  clear h
  clear e60
  intro s0 fr1 w1 next29 hs hk h
  unfold slices_insertionSortOrdered_uint64.ext2 at hs
  replace hs := noN (gI64.out (d := none) (x := _) hs); obtain ⟨n28a, e61, hs⟩ := hs
  replace hs := Option.some.inj hs; subst hs
  have e62 : fr1 0 = (.slice a16 l17 c18) := (hk 0 (by kernel_rfl)).trans e57
  have e63 : fr1 1 = (.int .i64 n19) := (hk 1 (by kernel_rfl)).trans e58
  have e64 : fr1 6 = (.int .i64 n23) := (hk 6 (by kernel_rfl)).trans e59
  refine at_frame [(7, (.int .i64 n28a)), (0, (.slice a16 l17 c18)), (1, (.int .i64 n19)), (6, (.int .i64 n23))] (by intro p hp; simp only [List.mem_cons, List.not_mem_nil, or_false] at hp; rcases hp with rfl | rfl | rfl | rfl <;> assumption) (Q := fun fr => sh prog (slices_insertionSortOrdered_uint64.U1 K next14) (loopBody (subAt [.R, .L, .B, .R, .B] ((loopBody (subAt [.R, .B] (bodyOf Tryz.f225)))))) fr w1 (nextK slices_insertionSortOrdered_uint64.ext2 next29 (ctxAt prog (slices_insertionSortOrdered_uint64.U1 K next14) [.R, .L, .B, .R, .B] ((loopBody (subAt [.R, .B] (bodyOf Tryz.f225)))) (nextK slices_insertionSortOrdered_uint64.ext1 next14 (ctxAt prog (slices_insertionSortOrdered_uint64.U0 K) [.R, .B] (bodyOf Tryz.f225) (retK prog Tryz.f225.results.toList (S_.R K))))))) ?_
  apply kc h; kernel_rfl
theorem slices_insertionSortOrdered_uint64.U0_ok1 (K : World → Prop) (fr : Fr) (w : World) (h : slices_insertionSortOrdered_uint64.U0 K 1 fr w) : sh prog (slices_insertionSortOrdered_uint64.U0 K) (subAt [.R, .B] (bodyOf Tryz.f225)) fr w (ctxAt prog (slices_insertionSortOrdered_uint64.U0 K) [.R, .B] (bodyOf Tryz.f225) (retK prog Tryz.f225.results.toList (S_.R K))) := by
  unfold slices_insertionSortOrdered_uint64.U0 at h
  simp only at h
  replace h := gL.outF h; obtain ⟨a6, l7, c8, e53, h⟩ := h
  replace h := gI64.outF h; obtain ⟨n9, e54, h⟩ := h
  replace h := gI64.outF h; obtain ⟨n10, e55, h⟩ := h
  replace h := gI64.outF h; obtain ⟨n13, e56, h⟩ := h
  refine kc (A := LoopP (sh prog (slices_insertionSortOrdered_uint64.U0 K) (loopBody (subAt [.R, .B] (bodyOf Tryz.f225)))) fr w (ctxAt prog (slices_insertionSortOrdered_uint64.U0 K) [.R, .B] (bodyOf Tryz.f225) (retK prog Tryz.f225.results.toList (S_.R K)))) ?_ (by kernel_rfl)
  refine loop_typed (B := slices_insertionSortOrdered_uint64.B1 K a6 l7 c8 n9 n10) slices_insertionSortOrdered_uint64.ext1 (s := n13) (by unfold slices_insertionSortOrdered_uint64.ext1; simp only [e56]; rfl) h ?_
  clear h
  clear e56
  intro s0 fr1 w1 next14 hs hk h
  unfold slices_insertionSortOrdered_uint64.ext1 at hs
  replace hs := noN (gI64.out (d := none) (x := _) hs); obtain ⟨n13a, e65, hs⟩ := hs
  replace hs := Option.some.inj hs; subst hs
  have e66 : fr1 0 = (.slice a6 l7 c8) := (hk 0 (by kernel_rfl)).trans e53
  have e67 : fr1 1 = (.int .i64 n9) := (hk 1 (by kernel_rfl)).trans e54
  have e68 : fr1 2 = (.int .i64 n10) := (hk 2 (by kernel_rfl)).trans e55
  refine at_frame [(6, (.int .i64 n13a)), (0, (.slice a6 l7 c8)), (1, (.int .i64 n9)), (2, (.int .i64 n10))] (by intro p hp; simp only [List.mem_cons, List.not_mem_nil, or_false] at hp; rcases hp with rfl | rfl | rfl | rfl <;> assumption) (Q := fun fr => sh prog (slices_insertionSortOrdered_uint64.U0 K) (loopBody (subAt [.R, .B] (bodyOf Tryz.f225))) fr w1 (nextK slices_insertionSortOrdered_uint64.ext1 next14 (ctxAt prog (slices_insertionSortOrdered_uint64.U0 K) [.R, .B] (bodyOf Tryz.f225) (retK prog Tryz.f225.results.toList (S_.R K))))) ?_
  refine sh_anyCut (cut := slices_insertionSortOrdered_uint64.U1 K next14) (by kernel_rfl) ?_
  refine sh_cutAt (p := [.R, .L, .B, .R, .B]) (l := 2) ?_ (slices_insertionSortOrdered_uint64.U1_ok2 K next14)
  apply kc h; kernel_rfl
theorem slices_insertionSortOrdered_uint64.ok {a1 : Option Addr} {l2 : Nat} {c3 : Nat} {n4 : Int} {n5 : Int} {w : World} {K : World → Prop} (h : slices_insertionSortOrdered_uint64.F a1 l2 c3 n4 n5 w K) : slices_insertionSortOrdered_uint64.C a1 l2 c3 n4 n5 w K := by
  refine CallsV.mono (callsV_of_sh prog.mixed prog.noNum (args := [(.slice a1 l2 c3), (.int .i64 n4), (.int .i64 n5)]) Tryz.func225 (c := bodyOf Tryz.f225) (by kernel_rfl) (by kernel_rfl) (by kernel_rfl) (R := S_.R K) ?_) fun v w1 h => S_.out h
  refine sh_anyCut (cut := slices_insertionSortOrdered_uint64.U0 K) (by kernel_rfl) ?_
  refine sh_cutAt (p := [.R, .B]) (l := 1) ?_ (slices_insertionSortOrdered_uint64.U0_ok1 K)
  apply kc h; kernel_rfl

def slices_pdqsortOrdered_uint64.T5 (next15 : (Int × Int × Int × Bool × Bool) → World → Prop) (a106 : Option Addr) (l107 : Nat) (c108 : Nat) (n109 : Int) (n110 : Int) (n111 : Int) (n114 : Int) (n115 : Int) (W144 : World) : Prop :=
  slices_partitionOrdered_uint64.C a106 l107 c108 n109 n110 n115 W144 fun n145 q146 W147 =>
  cond (decide ((w64 (n145 - n109)) < (w64 (n110 - n145))))
  (slices_pdqsortOrdered_uint64.C a106 l107 c108 n109 n145 n111 W147 fun W148 =>
  next15 ((w64 (n145 + (1 : Int))), n110, n111, (decide ((w64 (n145 - n109)) ≥ (w64 (Int.tdiv n114 (8 : Int))))), q146) W148)
  (slices_pdqsortOrdered_uint64.C a106 l107 c108 (w64 (n145 + (1 : Int))) n110 n111 W147 fun W149 =>
  next15 (n109, n145, n111, (decide ((w64 (n110 - n145)) ≥ (w64 (Int.tdiv n114 (8 : Int))))), q146) W149)
def slices_pdqsortOrdered_uint64.T4 (next15 : (Int × Int × Int × Bool × Bool) → World → Prop) (a71 : Option Addr) (l72 : Nat) (c73 : Nat) (n74 : Int) (n75 : Int) (n76 : Int) (q77 : Bool) (q78 : Bool) (n79 : Int) (n80 : Int) (W105 : World) : Prop :=
  drP W105 fun W150 =>
  cond (decide (n74 > (0 : Int)))
  (nn a71 fun b151 o152 =>
  0 ≤ (w64 (n74 - (1 : Int))) ∧ (w64 (n74 - (1 : Int))) < ((l72 : Nat) : Int) ∧
  lU64 W150 b151 (o152 + Int.toNat (w64 (n74 - (1 : Int))) * 1) fun n153 =>
  nn a71 fun b154 o155 =>
  0 ≤ n80 ∧ n80 < ((l72 : Nat) : Int) ∧
  lU64 W150 b154 (o155 + Int.toNat n80 * 1) fun n156 =>
  cmp_Less_uint64.C n153 n156 W150 fun q157 W158 =>
  cond (!q157)
  (slices_partitionEqualOrdered_uint64.C a71 l72 c73 n74 n75 n80 W158 fun n159 W160 =>
  next15 (n159, n75, n76, q77, q78) W160)
  (slices_pdqsortOrdered_uint64.T5 next15 a71 l72 c73 n74 n75 n76 n79 n80 W158))
  (slices_pdqsortOrdered_uint64.T5 next15 a71 l72 c73 n74 n75 n76 n79 n80 W150)
def slices_pdqsortOrdered_uint64.T3 (K : World → Prop) (next15 : (Int × Int × Int × Bool × Bool) → World → Prop) (a41 : Option Addr) (l42 : Nat) (c43 : Nat) (n44 : Int) (n45 : Int) (n46 : Int) (q47 : Bool) (q48 : Bool) (n49 : Int) (n50 : Int) (n51 : Int) (W70 : World) : Prop :=
  cond q47
  (cond q48
  (cond (n51 == (1 : Int))
  (slices_partialInsertionSortOrdered_uint64.C a41 l42 c43 n44 n45 W70 fun q161 W162 =>
  cond q161
  (K W162)
  (slices_pdqsortOrdered_uint64.T4 next15 a41 l42 c43 n44 n45 n46 q47 q48 n49 n50 W162))
  (slices_pdqsortOrdered_uint64.T4 next15 a41 l42 c43 n44 n45 n46 q47 q48 n49 n50 W70))
  (slices_pdqsortOrdered_uint64.T4 next15 a41 l42 c43 n44 n45 n46 q47 q48 n49 n50 W70))
  (slices_pdqsortOrdered_uint64.T4 next15 a41 l42 c43 n44 n45 n46 q47 q48 n49 n50 W70)
def slices_pdqsortOrdered_uint64.T2 (K : World → Prop) (next15 : (Int × Int × Int × Bool × Bool) → World → Prop) (a19 : Option Addr) (l20 : Nat) (c21 : Nat) (n22 : Int) (n23 : Int) (n24 : Int) (q25 : Bool) (q26 : Bool) (n27 : Int) (W37 : World) : Prop :=
  slices_choosePivotOrdered_uint64.C a19 l20 c21 n22 n23 W37 fun n38 n39 W40 =>
  cond (n39 == (2 : Int))
  (slices_reverseRangeOrdered_uint64.C a19 l20 c21 n22 n23 W40 fun W163 =>
  slices_pdqsortOrdered_uint64.T3 K next15 a19 l20 c21 n22 n23 n24 q25 q26 n27 (w64 ((w64 (n23 - (1 : Int))) - (w64 (n38 - n22)))) (1 : Int) W163)
  (slices_pdqsortOrdered_uint64.T3 K next15 a19 l20 c21 n22 n23 n24 q25 q26 n27 n38 n39 W40)
def slices_pdqsortOrdered_uint64.B1 (K : World → Prop) (a7 : Option Addr) (l8 : Nat) (c9 : Nat) : (Int × Int × Int × Bool × Bool) → World → ((Int × Int × Int × Bool × Bool) → World → Prop) → Prop := fun s0 W16 next15 => match s0 with
 | (n10, n11, n12, q13, q14) =>
  cond (decide ((w64 (n11 - n10)) ≤ (12 : Int)))
  (slices_insertionSortOrdered_uint64.C a7 l8 c9 n10 n11 W16 fun W17 =>
  K W17)
  (cond (n12 == (0 : Int))
  (slices_heapSortOrdered_uint64.C a7 l8 c9 n10 n11 W16 fun W18 =>
  K W18)
  (cond (!q13)
  (slices_breakPatternsOrdered_uint64.C a7 l8 c9 n10 n11 W16 fun W164 =>
  slices_pdqsortOrdered_uint64.T2 K next15 a7 l8 c9 n10 n11 (w64 (n12 - (1 : Int))) q13 q14 (w64 (n11 - n10)) W164)
  (slices_pdqsortOrdered_uint64.T2 K next15 a7 l8 c9 n10 n11 n12 q13 q14 (w64 (n11 - n10)) W16)))
def slices_pdqsortOrdered_uint64.T1 (K : World → Prop) (a7 : Option Addr) (l8 : Nat) (c9 : Nat) (n10 : Int) (n11 : Int) (n12 : Int) (q13 : Bool) (q14 : Bool) (w : World) : Prop := LoopT (slices_pdqsortOrdered_uint64.B1 K a7 l8 c9) (n10, n11, n12, q13, q14) w
def slices_pdqsortOrdered_uint64.F (a1 : Option Addr) (l2 : Nat) (c3 : Nat) (n4 : Int) (n5 : Int) (n6 : Int) (w : World) (K : World → Prop) : Prop :=
  slices_pdqsortOrdered_uint64.T1 K a1 l2 c3 n4 n5 n6 true true w
def slices_pdqsortOrdered_uint64.U0 (K : World → Prop) (l : Nat) (fr : Fr) (w : World) : Prop :=
  match l with
 | 1 =>
  gL False (fr 0) fun a7 l8 c9 =>
  gI64 False (fr 1) fun n10 =>
  gI64 False (fr 2) fun n11 =>
  gI64 False (fr 3) fun n12 =>
  gB False (fr 8) fun q13 =>
  gB False (fr 9) fun q14 =>
  slices_pdqsortOrdered_uint64.T1 K a7 l8 c9 n10 n11 n12 q13 q14 w
 | _ => False
def slices_pdqsortOrdered_uint64.ext1 (fr : Fr) : Option (Int × Int × Int × Bool × Bool) :=
  gI64 none (fr 1) fun n10 =>
  gI64 none (fr 2) fun n11 =>
  gI64 none (fr 3) fun n12 =>
  gB none (fr 8) fun q13 =>
  gB none (fr 9) fun q14 =>
  some (n10, n11, n12, q13, q14)
def slices_pdqsortOrdered_uint64.U1 (K : World → Prop) (next15 : (Int × Int × Int × Bool × Bool) → World → Prop) (l : Nat) (fr : Fr) (w : World) : Prop :=
  match l with
 | 2 =>
  gL False (fr 0) fun a19 l20 c21 =>
  gI64 False (fr 1) fun n22 =>
  gI64 False (fr 2) fun n23 =>
  gI64 False (fr 3) fun n24 =>
  gB False (fr 8) fun q25 =>
  gB False (fr 9) fun q26 =>
  gI64 False (fr 10) fun n27 =>
  slices_pdqsortOrdered_uint64.T2 K next15 a19 l20 c21 n22 n23 n24 q25 q26 n27 w
 | 3 =>
  gL False (fr 0) fun a41 l42 c43 =>
  gI64 False (fr 1) fun n44 =>
  gI64 False (fr 2) fun n45 =>
  gI64 False (fr 3) fun n46 =>
  gB False (fr 8) fun q47 =>
  gB False (fr 9) fun q48 =>
  gI64 False (fr 10) fun n49 =>
  gI64 False (fr 11) fun n50 =>
  gI64 False (fr 12) fun n51 =>
  slices_pdqsortOrdered_uint64.T3 K next15 a41 l42 c43 n44 n45 n46 q47 q48 n49 n50 n51 w
 | 4 =>
  gL False (fr 0) fun a71 l72 c73 =>
  gI64 False (fr 1) fun n74 =>
  gI64 False (fr 2) fun n75 =>
  gI64 False (fr 3) fun n76 =>
  gB False (fr 8) fun q77 =>
  gB False (fr 9) fun q78 =>
  gI64 False (fr 10) fun n79 =>
  gI64 False (fr 11) fun n80 =>
  slices_pdqsortOrdered_uint64.T4 next15 a71 l72 c73 n74 n75 n76 q77 q78 n79 n80 w
 | 5 =>
  gL False (fr 0) fun a106 l107 c108 =>
  gI64 False (fr 1) fun n109 =>
  gI64 False (fr 2) fun n110 =>
  gI64 False (fr 3) fun n111 =>
  gI64 False (fr 10) fun n114 =>
  gI64 False (fr 11) fun n115 =>
  slices_pdqsortOrdered_uint64.T5 next15 a106 l107 c108 n109 n110 n111 n114 n115 w
 | _ => False
theorem slices_pdqsortOrdered_uint64.U1_ok5 (K : World → Prop) (next15 : (Int × Int × Int × Bool × Bool) → World → Prop) (fr : Fr) (w : World) (h : slices_pdqsortOrdered_uint64.U1 K next15 5 fr w) : sh prog (slices_pdqsortOrdered_uint64.U1 K next15) (subAt [.B, .R, .R, .R, .R, .R, .R, .R, .R] ((loopBody (subAt [.R, .R, .B] (bodyOf Tryz.f208))))) fr w (ctxAt prog (slices_pdqsortOrdered_uint64.U1 K next15) [.B, .R, .R, .R, .R, .R, .R, .R, .R] ((loopBody (subAt [.R, .R, .B] (bodyOf Tryz.f208)))) (nextK slices_pdqsortOrdered_uint64.ext1 next15 (ctxAt prog (slices_pdqsortOrdered_uint64.U0 K) [.R, .R, .B] (bodyOf Tryz.f208) (retK prog Tryz.f208.results.toList (S_.R K))))) := by
  unfold slices_pdqsortOrdered_uint64.U1 at h
  simp only at h
  replace h := gL.outF h; obtain ⟨a106, l107, c108, e171, h⟩ := h
  replace h := gI64.outF h; obtain ⟨n109, e172, h⟩ := h
  replace h := gI64.outF h; obtain ⟨n110, e173, h⟩ := h
  replace h := gI64.outF h; obtain ⟨n111, e174, h⟩ := h
  replace h := gI64.outF h; obtain ⟨n114, e175, h⟩ := h
  replace h := gI64.outF h; obtain ⟨n115, e176, h⟩ := h
  refine at_frame [(0, (.slice a106 l107 c108)), (1, (.int .i64 n109)), (2, (.int .i64 n110)), (3, (.int .i64 n111)), (10, (.int .i64 n114)), (11, (.int .i64 n115))] (by intro p hp; simp only [List.mem_cons, List.not_mem_nil, or_false] at hp; rcases hp with rfl | rfl | rfl | rfl | rfl | rfl <;> assumption) (Q := fun fr => sh prog (slices_pdqsortOrdered_uint64.U1 K next15) (subAt [.B, .R, .R, .R, .R, .R, .R, .R, .R] ((loopBody (subAt [.R, .R, .B] (bodyOf Tryz.f208))))) fr w (ctxAt prog (slices_pdqsortOrdered_uint64.U1 K next15) [.B, .R, .R, .R, .R, .R, .R, .R, .R] ((loopBody (subAt [.R, .R, .B] (bodyOf Tryz.f208)))) (nextK slices_pdqsortOrdered_uint64.ext1 next15 (ctxAt prog (slices_pdqsortOrdered_uint64.U0 K) [.R, .R, .B] (bodyOf Tryz.f208) (retK prog Tryz.f208.results.toList (S_.R K)))))) ?_
  apply kc h; kernel_rfl
theorem slices_pdqsortOrdered_uint64.U1_ok4 (K : World → Prop) (next15 : (Int × Int × Int × Bool × Bool) → World → Prop) (fr : Fr) (w : World) (h : slices_pdqsortOrdered_uint64.U1 K next15 4 fr w) : sh prog (slices_pdqsortOrdered_uint64.U1 K next15) (subAt [.B, .R, .R, .R, .R, .R, .R, .R] (cutAt 5 [.B, .R, .R, .R, .R, .R, .R, .R, .R] ((loopBody (subAt [.R, .R, .B] (bodyOf Tryz.f208)))))) fr w (ctxAt prog (slices_pdqsortOrdered_uint64.U1 K next15) [.B, .R, .R, .R, .R, .R, .R, .R] (cutAt 5 [.B, .R, .R, .R, .R, .R, .R, .R, .R] ((loopBody (subAt [.R, .R, .B] (bodyOf Tryz.f208))))) (nextK slices_pdqsortOrdered_uint64.ext1 next15 (ctxAt prog (slices_pdqsortOrdered_uint64.U0 K) [.R, .R, .B] (bodyOf Tryz.f208) (retK prog Tryz.f208.results.toList (S_.R K))))) := by
  unfold slices_pdqsortOrdered_uint64.U1 at h
  simp only at h
  replace h := gL.outF h; obtain ⟨a71, l72, c73, e177, h⟩ := h
  replace h := gI64.outF h; obtain ⟨n74, e178, h⟩ := h
  replace h := gI64.outF h; obtain ⟨n75, e179, h⟩ := h
  replace h := gI64.outF h; obtain ⟨n76, e180, h⟩ := h
  replace h := gB.outF h; obtain ⟨q77, e181, h⟩ := h
  replace h := gB.outF h; obtain ⟨q78, e182, h⟩ := h
  replace h := gI64.outF h; obtain ⟨n79, e183, h⟩ := h
  replace h := gI64.outF h; obtain ⟨n80, e184, h⟩ := h
  refine at_frame [(0, (.slice a71 l72 c73)), (1, (.int .i64 n74)), (2, (.int .i64 n75)), (3, (.int .i64 n76)), (8, (.bool q77)), (9, (.bool q78)), (10, (.int .i64 n79)), (11, (.int .i64 n80))] (by intro p hp; simp only [List.mem_cons, List.not_mem_nil, or_false] at hp; rcases hp with rfl | rfl | rfl | rfl | rfl | rfl | rfl | rfl <;> assumption) (Q := fun fr => sh prog (slices_pdqsortOrdered_uint64.U1 K next15) (subAt [.B, .R, .R, .R, .R, .R, .R, .R] (cutAt 5 [.B, .R, .R, .R, .R, .R, .R, .R, .R] ((loopBody (subAt [.R, .R, .B] (bodyOf Tryz.f208)))))) fr w (ctxAt prog (slices_pdqsortOrdered_uint64.U1 K next15) [.B, .R, .R, .R, .R, .R, .R, .R] (cutAt 5 [.B, .R, .R, .R, .R, .R, .R, .R, .R] ((loopBody (subAt [.R, .R, .B] (bodyOf Tryz.f208))))) (nextK slices_pdqsortOrdered_uint64.ext1 next15 (ctxAt prog (slices_pdqsortOrdered_uint64.U0 K) [.R, .R, .B] (bodyOf Tryz.f208) (retK prog Tryz.f208.results.toList (S_.R K)))))) ?_
  apply kc h; kernel_rfl
theorem slices_pdqsortOrdered_uint64.U1_ok3 (K : World → Prop) (next15 : (Int × Int × Int × Bool × Bool) → World → Prop) (fr : Fr) (w : World) (h : slices_pdqsortOrdered_uint64.U1 K next15 3 fr w) : sh prog (slices_pdqsortOrdered_uint64.U1 K next15) (subAt [.B, .R, .R, .R, .R, .R, .R] (cutAt 4 [.B, .R, .R, .R, .R, .R, .R, .R] (cutAt 5 [.B, .R, .R, .R, .R, .R, .R, .R, .R] ((loopBody (subAt [.R, .R, .B] (bodyOf Tryz.f208))))))) fr w (ctxAt prog (slices_pdqsortOrdered_uint64.U1 K next15) [.B, .R, .R, .R, .R, .R, .R] (cutAt 4 [.B, .R, .R, .R, .R, .R, .R, .R] (cutAt 5 [.B, .R, .R, .R, .R, .R, .R, .R, .R] ((loopBody (subAt [.R, .R, .B] (bodyOf Tryz.f208)))))) (nextK slices_pdqsortOrdered_uint64.ext1 next15 (ctxAt prog (slices_pdqsortOrdered_uint64.U0 K) [.R, .R, .B] (bodyOf Tryz.f208) (retK prog Tryz.f208.results.toList (S_.R K))))) := by
  unfold slices_pdqsortOrdered_uint64.U1 at h
  simp only at h
  replace h := gL.outF h; obtain ⟨a41, l42, c43, e185, h⟩ := h
  replace h := gI64.outF h; obtain ⟨n44, e186, h⟩ := h
  replace h := gI64.outF h; obtain ⟨n45, e187, h⟩ := h
  replace h := gI64.outF h; obtain ⟨n46, e188, h⟩ := h
  replace h := gB.outF h; obtain ⟨q47, e189, h⟩ := h
  replace h := gB.outF h; obtain ⟨q48, e190, h⟩ := h
  replace h := gI64.outF h; obtain ⟨n49, e191, h⟩ := h
  replace h := gI64.outF h; obtain ⟨n50, e192, h⟩ := h
  replace h := gI64.outF h; obtain ⟨n51, e193, h⟩ := h
  refine at_frame [(0, (.slice a41 l42 c43)), (1, (.int .i64 n44)), (2, (.int .i64 n45)), (3, (.int .i64 n46)), (8, (.bool q47)), (9, (.bool q48)), (10, (.int .i64 n49)), (11, (.int .i64 n50)), (12, (.int .i64 n51))] (by intro p hp; simp only [List.mem_cons, List.not_mem_nil, or_false] at hp; rcases hp with rfl | rfl | rfl | rfl | rfl | rfl | rfl | rfl | rfl <;> assumption) (Q := fun fr => sh prog (slices_pdqsortOrdered_uint64.U1 K next15) (subAt [.B, .R, .R, .R, .R, .R, .R] (cutAt 4 [.B, .R, .R, .R, .R, .R, .R, .R] (cutAt 5 [.B, .R, .R, .R, .R, .R, .R, .R, .R] ((loopBody (subAt [.R, .R, .B] (bodyOf Tryz.f208))))))) fr w (ctxAt prog (slices_pdqsortOrdered_uint64.U1 K next15) [.B, .R, .R, .R, .R, .R, .R] (cutAt 4 [.B, .R, .R, .R, .R, .R, .R, .R] (cutAt 5 [.B, .R, .R, .R, .R, .R, .R, .R, .R] ((loopBody (subAt [.R, .R, .B] (bodyOf Tryz.f208)))))) (nextK slices_pdqsortOrdered_uint64.ext1 next15 (ctxAt prog (slices_pdqsortOrdered_uint64.U0 K) [.R, .R, .B] (bodyOf Tryz.f208) (retK prog Tryz.f208.results.toList (S_.R K)))))) ?_
  apply kc h; kernel_rfl
theorem slices_pdqsortOrdered_uint64.U1_ok2 (K : World → Prop) (next15 : (Int × Int × Int × Bool × Bool) → World → Prop) (fr : Fr) (w : World) (h : slices_pdqsortOrdered_uint64.U1 K next15 2 fr w) : sh prog (slices_pdqsortOrdered_uint64.U1 K next15) (subAt [.B, .R, .R, .R, .R] (cutAt 3 [.B, .R, .R, .R, .R, .R, .R] (cutAt 4 [.B, .R, .R, .R, .R, .R, .R, .R] (cutAt 5 [.B, .R, .R, .R, .R, .R, .R, .R, .R] ((loopBody (subAt [.R, .R, .B] (bodyOf Tryz.f208)))))))) fr w (ctxAt prog (slices_pdqsortOrdered_uint64.U1 K next15) [.B, .R, .R, .R, .R] (cutAt 3 [.B, .R, .R, .R, .R, .R, .R] (cutAt 4 [.B, .R, .R, .R, .R, .R, .R, .R] (cutAt 5 [.B, .R, .R, .R, .R, .R, .R, .R, .R] ((loopBody (subAt [.R, .R, .B] (bodyOf Tryz.f208))))))) (nextK slices_pdqsortOrdered_uint64.ext1 next15 (ctxAt prog (slices_pdqsortOrdered_uint64.U0 K) [.R, .R, .B] (bodyOf Tryz.f208) (retK prog Tryz.f208.results.toList (S_.R K))))) := by
  unfold slices_pdqsortOrdered_uint64.U1 at h
  simp only at h
  replace h := gL.outF h; obtain ⟨a19, l20, c21, e194, h⟩ := h
  replace h := gI64.outF h; obtain ⟨n22, e195, h⟩ := h
  replace h := gI64.outF h; obtain ⟨n23, e196, h⟩ := h
  replace h := gI64.outF h; obtain ⟨n24, e197, h⟩ := h
  replace h := gB.outF h; obtain ⟨q25, e198, h⟩ := h
  replace h := gB.outF h; obtain ⟨q26, e199, h⟩ := h
  replace h := gI64.outF h; obtain ⟨n27, e200, h⟩ := h
  refine at_frame [(0, (.slice a19 l20 c21)), (1, (.int .i64 n22)), (2, (.int .i64 n23)), (3, (.int .i64 n24)), (8, (.bool q25)), (9, (.bool q26)), (10, (.int .i64 n27))] (by intro p hp; simp only [List.mem_cons, List.not_mem_nil, or_false] at hp; rcases hp with rfl | rfl | rfl | rfl | rfl | rfl | rfl <;> assumption) (Q := fun fr => sh prog (slices_pdqsortOrdered_uint64.U1 K next15) (subAt [.B, .R, .R, .R, .R] (cutAt 3 [.B, .R, .R, .R, .R, .R, .R] (cutAt 4 [.B, .R, .R, .R, .R, .R, .R, .R] (cutAt 5 [.B, .R, .R, .R, .R, .R, .R, .R, .R] ((loopBody (subAt [.R, .R, .B] (bodyOf Tryz.f208)))))))) fr w (ctxAt prog (slices_pdqsortOrdered_uint64.U1 K next15) [.B, .R, .R, .R, .R] (cutAt 3 [.B, .R, .R, .R, .R, .R, .R] (cutAt 4 [.B, .R, .R, .R, .R, .R, .R, .R] (cutAt 5 [.B, .R, .R, .R, .R, .R, .R, .R, .R] ((loopBody (subAt [.R, .R, .B] (bodyOf Tryz.f208))))))) (nextK slices_pdqsortOrdered_uint64.ext1 next15 (ctxAt prog (slices_pdqsortOrdered_uint64.U0 K) [.R, .R, .B] (bodyOf Tryz.f208) (retK prog Tryz.f208.results.toList (S_.R K)))))) ?_
  apply kc h; kernel_rfl
theorem slices_pdqsortOrdered_uint64.U0_ok1 (K : World → Prop) (fr : Fr) (w : World) (h : slices_pdqsortOrdered_uint64.U0 K 1 fr w) : sh prog (slices_pdqsortOrdered_uint64.U0 K) (subAt [.R, .R, .B] (bodyOf Tryz.f208)) fr w (ctxAt prog (slices_pdqsortOrdered_uint64.U0 K) [.R, .R, .B] (bodyOf Tryz.f208) (retK prog Tryz.f208.results.toList (S_.R K))) := by
  unfold slices_pdqsortOrdered_uint64.U0 at h
  simp only at h
  replace h := gL.outF h; obtain ⟨a7, l8, c9, e165, h⟩ := h
  replace h := gI64.outF h; obtain ⟨n10, e166, h⟩ := h
  replace h := gI64.outF h; obtain ⟨n11, e167, h⟩ := h
  replace h := gI64.outF h; obtain ⟨n12, e168, h⟩ := h
  replace h := gB.outF h; obtain ⟨q13, e169, h⟩ := h
  replace h := gB.outF h; obtain ⟨q14, e170, h⟩ := h
  refine kc (A := LoopP (sh prog (slices_pdqsortOrdered_uint64.U0 K) (loopBody (subAt [.R, .R, .B] (bodyOf Tryz.f208)))) fr w (ctxAt prog (slices_pdqsortOrdered_uint64.U0 K) [.R, .R, .B] (bodyOf Tryz.f208) (retK prog Tryz.f208.results.toList (S_.R K)))) ?_ (by kernel_rfl)
  refine loop_typed (B := slices_pdqsortOrdered_uint64.B1 K a7 l8 c9) slices_pdqsortOrdered_uint64.ext1 (s := (n10, n11, n12, q13, q14)) (by unfold slices_pdqsortOrdered_uint64.ext1; simp only [e166, e167, e168, e169, e170]; rfl) h ?_
  clear h
  clear e166
  clear e167
  clear e168
  clear e169
  clear e170
  intro s0 fr1 w1 next15 hs hk h
  unfold slices_pdqsortOrdered_uint64.ext1 at hs
  replace hs := noN (gI64.out (d := none) (x := _) hs); obtain ⟨n10a, e201, hs⟩ := hs
  replace hs := noN (gI64.out (d := none) (x := _) hs); obtain ⟨n11a, e202, hs⟩ := hs
  replace hs := noN (gI64.out (d := none) (x := _) hs); obtain ⟨n12a, e203, hs⟩ := hs
  replace hs := noN (gB.out (d := none) (x := _) hs); obtain ⟨q13a, e204, hs⟩ := hs
  replace hs := noN (gB.out (d := none) (x := _) hs); obtain ⟨q14a, e205, hs⟩ := hs
  replace hs := Option.some.inj hs; subst hs
  have e206 : fr1 0 = (.slice a7 l8 c9) := (hk 0 (by kernel_rfl)).trans e165
  refine at_frame [(1, (.int .i64 n10a)), (2, (.int .i64 n11a)), (3, (.int .i64 n12a)), (8, (.bool q13a)), (9, (.bool q14a)), (0, (.slice a7 l8 c9))] (by intro p hp; simp only [List.mem_cons, List.not_mem_nil, or_false] at hp; rcases hp with rfl | rfl | rfl | rfl | rfl | rfl <;> assumption) (Q := fun fr => sh prog (slices_pdqsortOrdered_uint64.U0 K) (loopBody (subAt [.R, .R, .B] (bodyOf Tryz.f208))) fr w1 (nextK slices_pdqsortOrdered_uint64.ext1 next15 (ctxAt prog (slices_pdqsortOrdered_uint64.U0 K) [.R, .R, .B] (bodyOf Tryz.f208) (retK prog Tryz.f208.results.toList (S_.R K))))) ?_
  refine sh_anyCut (cut := slices_pdqsortOrdered_uint64.U1 K next15) (by kernel_rfl) ?_
  refine sh_cutAt (p := [.B, .R, .R, .R, .R, .R, .R, .R, .R]) (l := 5) ?_ (slices_pdqsortOrdered_uint64.U1_ok5 K next15)
  refine sh_cutAt (p := [.B, .R, .R, .R, .R, .R, .R, .R]) (l := 4) ?_ (slices_pdqsortOrdered_uint64.U1_ok4 K next15)
  refine sh_cutAt (p := [.B, .R, .R, .R, .R, .R, .R]) (l := 3) ?_ (slices_pdqsortOrdered_uint64.U1_ok3 K next15)
  refine sh_cutAt (p := [.B, .R, .R, .R, .R]) (l := 2) ?_ (slices_pdqsortOrdered_uint64.U1_ok2 K next15)
  apply kc h; kernel_rfl
theorem slices_pdqsortOrdered_uint64.ok {a1 : Option Addr} {l2 : Nat} {c3 : Nat} {n4 : Int} {n5 : Int} {n6 : Int} {w : World} {K : World → Prop} (h : slices_pdqsortOrdered_uint64.F a1 l2 c3 n4 n5 n6 w K) : slices_pdqsortOrdered_uint64.C a1 l2 c3 n4 n5 n6 w K := by
  refine CallsV.mono (callsV_of_sh prog.mixed prog.noNum (args := [(.slice a1 l2 c3), (.int .i64 n4), (.int .i64 n5), (.int .i64 n6)]) Tryz.func208 (c := bodyOf Tryz.f208) (by kernel_rfl) (by kernel_rfl) (by kernel_rfl) (R := S_.R K) ?_) fun v w1 h => S_.out h
  refine sh_anyCut (cut := slices_pdqsortOrdered_uint64.U0 K) (by kernel_rfl) ?_
  refine sh_cutAt (p := [.R, .R, .B]) (l := 1) ?_ (slices_pdqsortOrdered_uint64.U0_ok1 K)
  apply kc h; kernel_rfl

def stepstonelaw24_LookNil.F (n1 : Int) (n2 : Int) (w : World) (K : Bool → World → Prop) : Prop :=
  stepstonelaw24_awake.C  w fun q3 W4 =>
  cond (!q3)
  (K false W4)
  (look_Keep.C .nilIface W4 fun p5 W6 =>
  look_Kept_Open.C p5 n1 n2 W6 fun p7 n8 W9 =>
  look_Cursor_Next.C none W9 fun n10 n11 W12 =>
  look_Cursor_Prev.C none W12 fun n13 n14 W15 =>
  look_Cursor_Seek.C none n1 W15 fun n16 n17 W18 =>
  look_Kept_Wipe.C p5 n1 n2 W18 fun n19 n20 W21 =>
  look_Kept_Clear.C p5 W21 fun W22 =>
  look_Kept_Swap.C p5 .nilIface W22 fun W23 =>
  cond (Option.isNone p5)
  (cond (n8 == (3 : Int))
  (cond (n11 == (3 : Int))
  (cond (n14 == (3 : Int))
  (cond (n17 == (3 : Int))
  (cond (n20 == (3 : Int))
  (look_Kept_Insert.C p5 n1 W23 fun n24 W25 =>
  cond (n24 == (3 : Int))
  (look_Kept_Delete.C p5 n1 W25 fun n26 W27 =>
  cond (n26 == (3 : Int))
  (look_Kept_Version.C p5 W27 fun n28 W29 =>
  cond (n28 == (0 : Int))
  (look_Cursor_Stale.C none W29 fun q30 W31 =>
  cond q30
  (stepstonelaw24_restOf.C none (9 : Int) W31 fun a32 l33 c34 W35 =>
  K (((l33 : Nat) : Int) == (0 : Int)) W35)
  (K false W31))
  (K false W29))
  (K false W27))
  (K false W25))
  (K false W23))
  (K false W23))
  (K false W23))
  (K false W23))
  (K false W23))
  (K false W23))
theorem stepstonelaw24_LookNil.ok {n1 : Int} {n2 : Int} {w : World} {K : Bool → World → Prop} (h : stepstonelaw24_LookNil.F n1 n2 w K) : stepstonelaw24_LookNil.C n1 n2 w K := by
  refine CallsV.mono (callsV_of_sh prog.mixed prog.noNum (args := [(.int .u64 n1), (.int .u64 n2)]) Tryz.func11 (c := bodyOf Tryz.f11) (by kernel_rfl) (by kernel_rfl) (by kernel_rfl) (R := S_b.R K) ?_) fun v w1 h => S_b.out h
  apply kc h; kernel_rfl

def stepstonelaw24_awake.F (w : World) (K : Bool → World → Prop) : Prop :=
  alP w #[(.int .u64 (1 : Int)), (.int .u64 (5 : Int)), (.int .u64 (9 : Int))] 22 fun r1 W2 =>
  stepstonelaw24_lay.C (0 : Int) (1 : Int) (some ⟨r1, 0, none⟩) 3 3 W2 fun p3 p4 W5 =>
  cond (Option.isNone p3)
  (K false W5)
  (look_Kept_Open.C p3 (2 : Int) (9 : Int) W5 fun p6 n7 W8 =>
  look_Cursor_Next.C p6 W8 fun n9 n10 W11 =>
  look_Cursor_Next.C p6 W11 fun n12 n13 W14 =>
  look_Cursor_Next.C p6 W14 fun n15 n16 W17 =>
  look_Cursor_Prev.C p6 W17 fun n18 n19 W20 =>
  look_Kept_Insert.C p3 (7 : Int) W20 fun n21 W22 =>
  look_Cursor_Next.C p6 W22 fun n23 n24 W25 =>
  cond (n7 == (0 : Int))
  (cond (n9 == (5 : Int))
  (cond (n10 == (0 : Int))
  (cond (n12 == (9 : Int))
  (cond (n13 == (0 : Int))
  (cond (n16 == (10 : Int))
  (cond (n18 == (9 : Int))
  (cond (n19 == (0 : Int))
  (cond (n21 == (0 : Int))
  (K (n24 == (9 : Int)) W25)
  (K false W25))
  (K false W25))
  (K false W25))
  (K false W25))
  (K false W25))
  (K false W25))
  (K false W25))
  (K false W25))
  (K false W25))
theorem stepstonelaw24_awake.ok {w : World} {K : Bool → World → Prop} (h : stepstonelaw24_awake.F  w K) : stepstonelaw24_awake.C  w K := by
  refine CallsV.mono (callsV_of_sh prog.mixed prog.noNum (args := []) Tryz.func60 (c := bodyOf Tryz.f60) (by kernel_rfl) (by kernel_rfl) (by kernel_rfl) (R := S_b.R K) ?_) fun v w1 h => S_b.out h
  apply kc h; kernel_rfl

def stepstonelaw24_lay.F (n1 : Int) (n2 : Int) (a3 : Option Addr) (l4 : Nat) (c5 : Nat) (w : World) (K : Option Addr → Option Addr → World → Prop) : Prop :=
  stepstoneref01_Words.C a3 l4 c5 (50 : Int) w fun a6 l7 c8 W9 =>
  face_Build.C (w64 ((1 : Int) + (w64 (Int.tmod n1 (5 : Int))))) n2 (100000 : Int) a6 l7 c8 W9 fun x10 n11 W12 =>
  look_Keep.C x10 W12 fun p13 W14 =>
  stepstoneref11_Of.C a6 l7 c8 W14 fun a15 l16 c17 W18 =>
  alP W18 #[(.slice a15 l16 c17), (.int .u64 (0 : Int))] 120 fun r19 W20 =>
  K p13 (some ⟨r19, 0, none⟩) W20
theorem stepstonelaw24_lay.ok {n1 : Int} {n2 : Int} {a3 : Option Addr} {l4 : Nat} {c5 : Nat} {w : World} {K : Option Addr → Option Addr → World → Prop} (h : stepstonelaw24_lay.F n1 n2 a3 l4 c5 w K) : stepstonelaw24_lay.C n1 n2 a3 l4 c5 w K := by
  refine CallsV.mono (callsV_of_sh prog.mixed prog.noNum (args := [(.int .u8 n1), (.int .u64 n2), (.slice a3 l4 c5)]) Tryz.func61 (c := bodyOf Tryz.f61) (by kernel_rfl) (by kernel_rfl) (by kernel_rfl) (R := S_p_p.R K) ?_) fun v w1 h => S_p_p.out h
  apply kc h; kernel_rfl

def stepstonelaw24_restOf.T1 (K : Option Addr → Nat → Nat → World → Prop) (b11 : Nat) (o12 : Nat) (b16 : Nat) (o17 : Nat) (x19 : Value) (W40 : World) : Prop :=
  rfT prog x19 W40 (σ := Int) (fun s0 => match s0 with
 | n20 => [(.int .u64 n20)]) (fun s0 W21 beg22 k23 => match s0 with
 | n20 =>
  beg22 W21 fun W24 =>
  lL W24 b16 o17 fun a25 l26 c27 =>
  alP W24 #[(.int .u64 n20)] 22 fun r28 W29 =>
  AppV prog #[23, 23] 23 (.slice a25 l26 c27) (.slice (some ⟨r28, 0, none⟩) 1 1) W29 fun x30 W31 =>
  ∃ (a32 : Option Addr), ∃ (l33 : Nat), ∃ (c34 : Nat), x30 = (.slice a32 l33 c34) ∧
  stP W31 b16 o17 (.slice a32 l33 c34) fun W35 =>
  lL W35 b16 o17 fun a36 l37 c38 =>
  lI64 W35 b11 o12 fun n39 =>
  cond (((l37 : Nat) : Int) == n39)
  (k23 (.exit 0) W35)
  (k23 .normal W35))
  (fun D41 W42 =>
  lL W42 b16 o17 fun a43 l44 c45 =>
  W42.heap[D41]? = some (.deferred (some [])) ∧
  K a43 l44 c45 (W42.putObj D41 (.deferred none)))
  (fun _ _ => False) 0
  (fun D46 W47 =>
  lL W47 b16 o17 fun a48 l49 c50 =>
  W47.heap[D46]? = some (.deferred (some [])) ∧
  K a48 l49 c50 (W47.putObj D46 (.deferred none)))
def stepstonelaw24_restOf.F (p1 : Option Addr) (n2 : Int) (w : World) (K : Option Addr → Nat → Nat → World → Prop) : Prop :=
  alP w #[(.int .i64 n2)] 3 fun r3 W4 =>
  alP W4 #[(.slice none 0 0)] 23 fun r5 W6 =>
  look_Cursor_Rest.C p1 W6 fun x7 W8 =>
  stepstonelaw24_restOf.T1 K r3 0 r5 0 x7 W8
def stepstonelaw24_restOf.U0 (K : Option Addr → Nat → Nat → World → Prop) (l : Nat) (fr : Fr) (w : World) : Prop :=
  match l with
 | 1 =>
  gN False (fr 3) fun b11 o12 =>
  gN False (fr 5) fun b16 o17 =>
  gR False (fr 8) fun x19 =>
  stepstonelaw24_restOf.T1 K b11 o12 b16 o17 x19 w
 | _ => False
theorem stepstonelaw24_restOf.U0_ok1 (K : Option Addr → Nat → Nat → World → Prop) (fr : Fr) (w : World) (h : stepstonelaw24_restOf.U0 K 1 fr w) : rfP prog (ev fr (.tmp 8)) w (rndP prog fr (rfPs (subAt [.R, .R, .L, .R, .B] (bodyOf Tryz.f79))) (rfAs (subAt [.R, .R, .L, .R, .B] (bodyOf Tryz.f79))) (rfBo (subAt [.R, .R, .L, .R, .B] (bodyOf Tryz.f79)))) fun e D W => ctxAt prog noCut [.R, .R, .L, .R, .B] (bodyOf Tryz.f79) (retM prog Tryz.f79.results.toList (S_l.R K) D) e fr W := by
  unfold stepstonelaw24_restOf.U0 at h
  simp only at h
  replace h := gN.outF h; obtain ⟨b11, o12, e51, h⟩ := h
  replace h := gN.outF h; obtain ⟨b16, o17, e52, h⟩ := h
  replace h := gR.outF h; obtain ⟨x19, e53, h⟩ := h
  refine at_frame [(3, (.pointer (some ⟨b11, o12, none⟩))), (5, (.pointer (some ⟨b16, o17, none⟩))), (8, x19)] (by intro p hp; simp only [List.mem_cons, List.not_mem_nil, or_false] at hp; rcases hp with rfl | rfl | rfl <;> assumption) (Q := fun fr => rfP prog (ev fr (.tmp 8)) w (rndP prog fr (rfPs (subAt [.R, .R, .L, .R, .B] (bodyOf Tryz.f79))) (rfAs (subAt [.R, .R, .L, .R, .B] (bodyOf Tryz.f79))) (rfBo (subAt [.R, .R, .L, .R, .B] (bodyOf Tryz.f79)))) fun e D W => ctxAt prog noCut [.R, .R, .L, .R, .B] (bodyOf Tryz.f79) (retM prog Tryz.f79.results.toList (S_l.R K) D) e fr W) ?_
  refine rf_typed (by kernel_rfl) h ?_ ?_ ?_ ?_
  · rintro n20r W beg k h
    refine ⟨rfl, ?_⟩
    apply kc h; kernel_rfl
  · intro D W h
    first
      | exact h.elim
      | (apply kc h; kernel_rfl)
  · intro D W h
    first
      | exact h.elim
      | (apply kc h; kernel_rfl)
  · intro D W h
    first
      | exact h.elim
      | (apply kc h; kernel_rfl)
theorem stepstonelaw24_restOf.ok {p1 : Option Addr} {n2 : Int} {w : World} {K : Option Addr → Nat → Nat → World → Prop} (h : stepstonelaw24_restOf.F p1 n2 w K) : stepstonelaw24_restOf.C p1 n2 w K := by
  refine CallsV.mono (callsV_of_spine prog.mixed prog.noNum (args := [(.pointer p1), (.int .i64 n2)]) (l := 1) (cut := stepstonelaw24_restOf.U0 K) (p := [.R, .R, .L, .R, .B]) Tryz.func79 (c := bodyOf Tryz.f79) (by kernel_rfl) (by kernel_rfl) (by kernel_rfl) (by kernel_rfl) (R := S_l.R K) ?_ (stepstonelaw24_restOf.U0_ok1 K)) fun v w1 h => S_l.out h
  apply kc h; kernel_rfl

def stepstoneref01_Words.B1 (K : Option Addr → Nat → Nat → World → Prop) (n8 : Int) (a15 : Option Addr) (l16 : Nat) (c17 : Nat) (n18 : Int) : (Option Addr × Nat × Nat × Int) → World → ((Option Addr × Nat × Nat × Int) → World → Prop) → Prop := fun s0 W21 next20 => match s0 with
 | (a12, l13, c14, n19) =>
  cond (decide (n19 < n18))
  (nn a15 fun b22 o23 =>
  0 ≤ n19 ∧ n19 < ((l16 : Nat) : Int) ∧
  lU64 W21 b22 (o23 + Int.toNat n19 * 1) fun n24 =>
  cond (decide (n19 < n8))
  (alP W21 #[(.int .u64 n24)] 22 fun r25 W26 =>
  AppV prog #[23, 23] 23 (.slice a12 l13 c14) (.slice (some ⟨r25, 0, none⟩) 1 1) W26 fun x27 W28 =>
  ∃ (a29 : Option Addr), ∃ (l30 : Nat), ∃ (c31 : Nat), x27 = (.slice a29 l30 c31) ∧
  next20 (a29, l30, c31, (w64 (n19 + (1 : Int)))) W28)
  (next20 (a12, l13, c14, (w64 (n19 + (1 : Int)))) W21))
  (K a12 l13 c14 W21)
def stepstoneref01_Words.T1 (K : Option Addr → Nat → Nat → World → Prop) (n8 : Int) (a12 : Option Addr) (l13 : Nat) (c14 : Nat) (a15 : Option Addr) (l16 : Nat) (c17 : Nat) (n18 : Int) (n19 : Int) (w : World) : Prop := LoopT (stepstoneref01_Words.B1 K n8 a15 l16 c17 n18) (a12, l13, c14, n19) w
def stepstoneref01_Words.F (a1 : Option Addr) (l2 : Nat) (c3 : Nat) (n4 : Int) (w : World) (K : Option Addr → Nat → Nat → World → Prop) : Prop :=
  stepstoneref01_Words.T1 K n4 none 0 0 a1 l2 c3 ((l2 : Nat) : Int) (0 : Int) w
def stepstoneref01_Words.U0 (K : Option Addr → Nat → Nat → World → Prop) (l : Nat) (fr : Fr) (w : World) : Prop :=
  match l with
 | 1 =>
  gI64 False (fr 1) fun n8 =>
  gL False (fr 5) fun a12 l13 c14 =>
  gL False (fr 8) fun a15 l16 c17 =>
  gI64 False (fr 9) fun n18 =>
  gI64 False (fr 10) fun n19 =>
  stepstoneref01_Words.T1 K n8 a12 l13 c14 a15 l16 c17 n18 n19 w
 | _ => False
def stepstoneref01_Words.ext1 (fr : Fr) : Option (Option Addr × Nat × Nat × Int) :=
  gL none (fr 5) fun a12 l13 c14 =>
  gI64 none (fr 10) fun n19 =>
  some (a12, l13, c14, n19)
theorem stepstoneref01_Words.U0_ok1 (K : Option Addr → Nat → Nat → World → Prop) (fr : Fr) (w : World) (h : stepstoneref01_Words.U0 K 1 fr w) : sh prog (stepstoneref01_Words.U0 K) (subAt [.R, .R, .L, .R, .B] (bodyOf Tryz.f19)) fr w (ctxAt prog (stepstoneref01_Words.U0 K) [.R, .R, .L, .R, .B] (bodyOf Tryz.f19) (retK prog Tryz.f19.results.toList (S_l.R K))) := by
  unfold stepstoneref01_Words.U0 at h
  simp only at h
  replace h := gI64.outF h; obtain ⟨n8, e32, h⟩ := h
  replace h := gL.outF h; obtain ⟨a12, l13, c14, e33, h⟩ := h
  replace h := gL.outF h; obtain ⟨a15, l16, c17, e34, h⟩ := h
  replace h := gI64.outF h; obtain ⟨n18, e35, h⟩ := h
  replace h := gI64.outF h; obtain ⟨n19, e36, h⟩ := h
  refine kc (A := LoopP (sh prog (stepstoneref01_Words.U0 K) (loopBody (subAt [.R, .R, .L, .R, .B] (bodyOf Tryz.f19)))) fr w (ctxAt prog (stepstoneref01_Words.U0 K) [.R, .R, .L, .R, .B] (bodyOf Tryz.f19) (retK prog Tryz.f19.results.toList (S_l.R K)))) ?_ (by kernel_rfl)
  refine loop_typed (B := stepstoneref01_Words.B1 K n8 a15 l16 c17 n18) stepstoneref01_Words.ext1 (s := (a12, l13, c14, n19)) (by unfold stepstoneref01_Words.ext1; simp only [e33, e36]; rfl) h ?_
  clear h
  clear e33
  clear e36
  intro s0 fr1 w1 next20 hs hk h
  unfold stepstoneref01_Words.ext1 at hs
  replace hs := noN (gL.out (d := none) (x := _) hs); obtain ⟨a12a, l13a, c14a, e37, hs⟩ := hs
  replace hs := noN (gI64.out (d := none) (x := _) hs); obtain ⟨n19a, e38, hs⟩ := hs
  replace hs := Option.some.inj hs; subst hs
  have e39 : fr1 1 = (.int .i64 n8) := (hk 1 (by kernel_rfl)).trans e32
  have e40 : fr1 8 = (.slice a15 l16 c17) := (hk 8 (by kernel_rfl)).trans e34
  have e41 : fr1 9 = (.int .i64 n18) := (hk 9 (by kernel_rfl)).trans e35
  refine at_frame [(5, (.slice a12a l13a c14a)), (10, (.int .i64 n19a)), (1, (.int .i64 n8)), (8, (.slice a15 l16 c17)), (9, (.int .i64 n18))] (by intro p hp; simp only [List.mem_cons, List.not_mem_nil, or_false] at hp; rcases hp with rfl | rfl | rfl | rfl | rfl <;> assumption) (Q := fun fr => sh prog (stepstoneref01_Words.U0 K) (loopBody (subAt [.R, .R, .L, .R, .B] (bodyOf Tryz.f19))) fr w1 (nextK stepstoneref01_Words.ext1 next20 (ctxAt prog (stepstoneref01_Words.U0 K) [.R, .R, .L, .R, .B] (bodyOf Tryz.f19) (retK prog Tryz.f19.results.toList (S_l.R K))))) ?_
  apply kc h; kernel_rfl
theorem stepstoneref01_Words.ok {a1 : Option Addr} {l2 : Nat} {c3 : Nat} {n4 : Int} {w : World} {K : Option Addr → Nat → Nat → World → Prop} (h : stepstoneref01_Words.F a1 l2 c3 n4 w K) : stepstoneref01_Words.C a1 l2 c3 n4 w K := by
  refine CallsV.mono (callsV_of_sh prog.mixed prog.noNum (args := [(.slice a1 l2 c3), (.int .i64 n4)]) Tryz.func19 (c := bodyOf Tryz.f19) (by kernel_rfl) (by kernel_rfl) (by kernel_rfl) (R := S_l.R K) ?_) fun v w1 h => S_l.out h
  refine sh_anyCut (cut := stepstoneref01_Words.U0 K) (by kernel_rfl) ?_
  refine sh_cutAt (p := [.R, .R, .L, .R, .B]) (l := 1) ?_ (stepstoneref01_Words.U0_ok1 K)
  apply kc h; kernel_rfl

def stepstoneref11_Add.F (a1 : Option Addr) (l2 : Nat) (c3 : Nat) (n4 : Int) (w : World) (K : Option Addr → Nat → Nat → World → Prop) : Prop :=
  stepstoneref11_Find.C a1 l2 c3 n4 w fun n5 q6 W7 =>
  cond q6
  (K a1 l2 c3 W7)
  (alP W7 #[] 22 fun r8 W9 =>
  0 ≤ n5 ∧ n5 ≤ ((c3 : Nat) : Int) ∧
  AppV prog #[23, 23] 23 (.slice (some ⟨r8, 0, none⟩) 0 0) (.slice (slA a1 c3 0 1) ((Int.toNat n5) - 0) (c3 - 0)) W9 fun x10 W11 =>
  ∃ (a12 : Option Addr), ∃ (l13 : Nat), ∃ (c14 : Nat), x10 = (.slice a12 l13 c14) ∧
  alP W11 #[(.int .u64 n4)] 22 fun r15 W16 =>
  AppV prog #[23, 23] 23 (.slice a12 l13 c14) (.slice (some ⟨r15, 0, none⟩) 1 1) W16 fun x17 W18 =>
  ∃ (a19 : Option Addr), ∃ (l20 : Nat), ∃ (c21 : Nat), x17 = (.slice a19 l20 c21) ∧
  0 ≤ n5 ∧ n5 ≤ ((l2 : Nat) : Int) ∧
  AppV prog #[23, 23] 23 (.slice a19 l20 c21) (.slice (slA a1 c3 (Int.toNat n5) 1) (l2 - (Int.toNat n5)) (c3 - (Int.toNat n5))) W18 fun x22 W23 =>
  ∃ (a24 : Option Addr), ∃ (l25 : Nat), ∃ (c26 : Nat), x22 = (.slice a24 l25 c26) ∧
  K a24 l25 c26 W23)
theorem stepstoneref11_Add.ok {a1 : Option Addr} {l2 : Nat} {c3 : Nat} {n4 : Int} {w : World} {K : Option Addr → Nat → Nat → World → Prop} (h : stepstoneref11_Add.F a1 l2 c3 n4 w K) : stepstoneref11_Add.C a1 l2 c3 n4 w K := by
  refine CallsV.mono (callsV_of_sh prog.mixed prog.noNum (args := [(.slice a1 l2 c3), (.int .u64 n4)]) Tryz.func28 (c := bodyOf Tryz.f28) (by kernel_rfl) (by kernel_rfl) (by kernel_rfl) (R := S_l.R K) ?_) fun v w1 h => S_l.out h
  apply kc h; kernel_rfl

def stepstoneref11_Find.T1 (K : Int → Bool → World → Prop) (a5 : Option Addr) (l6 : Nat) (c7 : Nat) (n8 : Int) (n11 : Int) (W20 : World) : Prop :=
  drP W20 fun W21 =>
  cond (decide (n11 < ((l6 : Nat) : Int)))
  (nn a5 fun b22 o23 =>
  0 ≤ n11 ∧ n11 < ((l6 : Nat) : Int) ∧
  lU64 W21 b22 (o23 + Int.toNat n11 * 1) fun n24 =>
  K n11 (n24 == n8) W21)
  (K n11 false W21)
def stepstoneref11_Find.B2 (K : Int → Bool → World → Prop) (a25 : Option Addr) (l26 : Nat) (c27 : Nat) (n28 : Int) : Int → World → ((Int) → World → Prop) → Prop := fun s0 W33 next32 => match s0 with
 | n31 =>
  cond (decide (n31 < ((l26 : Nat) : Int)))
  (nn a25 fun b34 o35 =>
  0 ≤ n31 ∧ n31 < ((l26 : Nat) : Int) ∧
  lU64 W33 b34 (o35 + Int.toNat n31 * 1) fun n36 =>
  cond (decide (n36 < n28))
  (next32 (w64 (n31 + (1 : Int))) W33)
  (stepstoneref11_Find.T1 K a25 l26 c27 n28 n31 W33))
  (stepstoneref11_Find.T1 K a25 l26 c27 n28 n31 W33)
def stepstoneref11_Find.T2 (K : Int → Bool → World → Prop) (a25 : Option Addr) (l26 : Nat) (c27 : Nat) (n28 : Int) (n31 : Int) (w : World) : Prop := LoopT (stepstoneref11_Find.B2 K a25 l26 c27 n28) n31 w
def stepstoneref11_Find.F (a1 : Option Addr) (l2 : Nat) (c3 : Nat) (n4 : Int) (w : World) (K : Int → Bool → World → Prop) : Prop :=
  stepstoneref11_Find.T2 K a1 l2 c3 n4 (0 : Int) w
def stepstoneref11_Find.U0 (K : Int → Bool → World → Prop) (l : Nat) (fr : Fr) (w : World) : Prop :=
  match l with
 | 1 =>
  gL False (fr 0) fun a5 l6 c7 =>
  gU64 False (fr 1) fun n8 =>
  gI64 False (fr 6) fun n11 =>
  stepstoneref11_Find.T1 K a5 l6 c7 n8 n11 w
 | 2 =>
  gL False (fr 0) fun a25 l26 c27 =>
  gU64 False (fr 1) fun n28 =>
  gI64 False (fr 6) fun n31 =>
  stepstoneref11_Find.T2 K a25 l26 c27 n28 n31 w
 | _ => False
def stepstoneref11_Find.ext2 (fr : Fr) : Option (Int) :=
  gI64 none (fr 6) fun n31 =>
  some n31
theorem stepstoneref11_Find.U0_ok1 (K : Int → Bool → World → Prop) (fr : Fr) (w : World) (h : stepstoneref11_Find.U0 K 1 fr w) : sh prog (stepstoneref11_Find.U0 K) (subAt [.R, .R, .R] (bodyOf Tryz.f38)) fr w (ctxAt prog (stepstoneref11_Find.U0 K) [.R, .R, .R] (bodyOf Tryz.f38) (retK prog Tryz.f38.results.toList (S_i64_b.R K))) := by
  unfold stepstoneref11_Find.U0 at h
  simp only at h
  replace h := gL.outF h; obtain ⟨a5, l6, c7, e37, h⟩ := h
  replace h := gU64.outF h; obtain ⟨n8, e38, h⟩ := h
  replace h := gI64.outF h; obtain ⟨n11, e39, h⟩ := h
  refine at_frame [(0, (.slice a5 l6 c7)), (1, (.int .u64 n8)), (6, (.int .i64 n11))] (by intro p hp; simp only [List.mem_cons, List.not_mem_nil, or_false] at hp; rcases hp with rfl | rfl | rfl <;> assumption) (Q := fun fr => sh prog (stepstoneref11_Find.U0 K) (subAt [.R, .R, .R] (bodyOf Tryz.f38)) fr w (ctxAt prog (stepstoneref11_Find.U0 K) [.R, .R, .R] (bodyOf Tryz.f38) (retK prog Tryz.f38.results.toList (S_i64_b.R K)))) ?_
  apply kc h; kernel_rfl
theorem stepstoneref11_Find.U0_ok2 (K : Int → Bool → World → Prop) (fr : Fr) (w : World) (h : stepstoneref11_Find.U0 K 2 fr w) : sh prog (stepstoneref11_Find.U0 K) (subAt [.R, .R, .L, .B] (cutAt 1 [.R, .R, .R] (bodyOf Tryz.f38))) fr w (ctxAt prog (stepstoneref11_Find.U0 K) [.R, .R, .L, .B] (cutAt 1 [.R, .R, .R] (bodyOf Tryz.f38)) (retK prog Tryz.f38.results.toList (S_i64_b.R K))) := by
  unfold stepstoneref11_Find.U0 at h
  simp only at h
  replace h := gL.outF h; obtain ⟨a25, l26, c27, e40, h⟩ := h
  replace h := gU64.outF h; obtain ⟨n28, e41, h⟩ := h
  replace h := gI64.outF h; obtain ⟨n31, e42, h⟩ := h
  refine kc (A := LoopP (sh prog (stepstoneref11_Find.U0 K) (loopBody (subAt [.R, .R, .L, .B] (cutAt 1 [.R, .R, .R] (bodyOf Tryz.f38))))) fr w (ctxAt prog (stepstoneref11_Find.U0 K) [.R, .R, .L, .B] (cutAt 1 [.R, .R, .R] (bodyOf Tryz.f38)) (retK prog Tryz.f38.results.toList (S_i64_b.R K)))) ?_ (by kernel_rfl)
  refine loop_typed (B := stepstoneref11_Find.B2 K a25 l26 c27 n28) stepstoneref11_Find.ext2 (s := n31) (by unfold stepstoneref11_Find.ext2; simp only [e42]; rfl) h ?_
  clear h
  clear e42
  intro s0 fr1 w1 next32 hs hk h
  unfold stepstoneref11_Find.ext2 at hs
  replace hs := noN (gI64.out (d := none) (x := _) hs); obtain ⟨n31a, e43, hs⟩ := hs
  replace hs := Option.some.inj hs; subst hs
  have e44 : fr1 0 = (.slice a25 l26 c27) := (hk 0 (by kernel_rfl)).trans e40
  have e45 : fr1 1 = (.int .u64 n28) := (hk 1 (by kernel_rfl)).trans e41
  refine at_frame [(6, (.int .i64 n31a)), (0, (.slice a25 l26 c27)), (1, (.int .u64 n28))] (by intro p hp; simp only [List.mem_cons, List.not_mem_nil, or_false] at hp; rcases hp with rfl | rfl | rfl <;> assumption) (Q := fun fr => sh prog (stepstoneref11_Find.U0 K) (loopBody (subAt [.R, .R, .L, .B] (cutAt 1 [.R, .R, .R] (bodyOf Tryz.f38)))) fr w1 (nextK stepstoneref11_Find.ext2 next32 (ctxAt prog (stepstoneref11_Find.U0 K) [.R, .R, .L, .B] (cutAt 1 [.R, .R, .R] (bodyOf Tryz.f38)) (retK prog Tryz.f38.results.toList (S_i64_b.R K))))) ?_
  apply kc h; kernel_rfl
theorem stepstoneref11_Find.ok {a1 : Option Addr} {l2 : Nat} {c3 : Nat} {n4 : Int} {w : World} {K : Int → Bool → World → Prop} (h : stepstoneref11_Find.F a1 l2 c3 n4 w K) : stepstoneref11_Find.C a1 l2 c3 n4 w K := by
  refine CallsV.mono (callsV_of_sh prog.mixed prog.noNum (args := [(.slice a1 l2 c3), (.int .u64 n4)]) Tryz.func38 (c := bodyOf Tryz.f38) (by kernel_rfl) (by kernel_rfl) (by kernel_rfl) (R := S_i64_b.R K) ?_) fun v w1 h => S_i64_b.out h
  refine sh_anyCut (cut := stepstoneref11_Find.U0 K) (by kernel_rfl) ?_
  refine sh_cutAt (p := [.R, .R, .R]) (l := 1) ?_ (stepstoneref11_Find.U0_ok1 K)
  refine sh_cutAt (p := [.R, .R, .L, .B]) (l := 2) ?_ (stepstoneref11_Find.U0_ok2 K)
  apply kc h; kernel_rfl

def stepstoneref11_Of.B1 (K : Option Addr → Nat → Nat → World → Prop) (a13 : Option Addr) (l14 : Nat) (c15 : Nat) (n16 : Int) : (Option Addr × Nat × Nat × Int) → World → ((Option Addr × Nat × Nat × Int) → World → Prop) → Prop := fun s0 W19 next18 => match s0 with
 | (a10, l11, c12, n17) =>
  cond (decide (n17 < n16))
  (nn a13 fun b20 o21 =>
  0 ≤ n17 ∧ n17 < ((l14 : Nat) : Int) ∧
  lU64 W19 b20 (o21 + Int.toNat n17 * 1) fun n22 =>
  stepstoneref11_Add.C a10 l11 c12 n22 W19 fun a23 l24 c25 W26 =>
  next18 (a23, l24, c25, (w64 (n17 + (1 : Int)))) W26)
  (K a10 l11 c12 W19)
def stepstoneref11_Of.T1 (K : Option Addr → Nat → Nat → World → Prop) (a10 : Option Addr) (l11 : Nat) (c12 : Nat) (a13 : Option Addr) (l14 : Nat) (c15 : Nat) (n16 : Int) (n17 : Int) (w : World) : Prop := LoopT (stepstoneref11_Of.B1 K a13 l14 c15 n16) (a10, l11, c12, n17) w
def stepstoneref11_Of.F (a1 : Option Addr) (l2 : Nat) (c3 : Nat) (w : World) (K : Option Addr → Nat → Nat → World → Prop) : Prop :=
  stepstoneref11_Of.T1 K none 0 0 a1 l2 c3 ((l2 : Nat) : Int) (0 : Int) w
def stepstoneref11_Of.U0 (K : Option Addr → Nat → Nat → World → Prop) (l : Nat) (fr : Fr) (w : World) : Prop :=
  match l with
 | 1 =>
  gL False (fr 3) fun a10 l11 c12 =>
  gL False (fr 6) fun a13 l14 c15 =>
  gI64 False (fr 7) fun n16 =>
  gI64 False (fr 8) fun n17 =>
  stepstoneref11_Of.T1 K a10 l11 c12 a13 l14 c15 n16 n17 w
 | _ => False
def stepstoneref11_Of.ext1 (fr : Fr) : Option (Option Addr × Nat × Nat × Int) :=
  gL none (fr 3) fun a10 l11 c12 =>
  gI64 none (fr 8) fun n17 =>
  some (a10, l11, c12, n17)
theorem stepstoneref11_Of.U0_ok1 (K : Option Addr → Nat → Nat → World → Prop) (fr : Fr) (w : World) (h : stepstoneref11_Of.U0 K 1 fr w) : sh prog (stepstoneref11_Of.U0 K) (subAt [.R, .R, .L, .R, .B] (bodyOf Tryz.f46)) fr w (ctxAt prog (stepstoneref11_Of.U0 K) [.R, .R, .L, .R, .B] (bodyOf Tryz.f46) (retK prog Tryz.f46.results.toList (S_l.R K))) := by
  unfold stepstoneref11_Of.U0 at h
  simp only at h
  replace h := gL.outF h; obtain ⟨a10, l11, c12, e27, h⟩ := h
  replace h := gL.outF h; obtain ⟨a13, l14, c15, e28, h⟩ := h
  replace h := gI64.outF h; obtain ⟨n16, e29, h⟩ := h
  replace h := gI64.outF h; obtain ⟨n17, e30, h⟩ := h
  refine kc (A := LoopP (sh prog (stepstoneref11_Of.U0 K) (loopBody (subAt [.R, .R, .L, .R, .B] (bodyOf Tryz.f46)))) fr w (ctxAt prog (stepstoneref11_Of.U0 K) [.R, .R, .L, .R, .B] (bodyOf Tryz.f46) (retK prog Tryz.f46.results.toList (S_l.R K)))) ?_ (by kernel_rfl)
  refine loop_typed (B := stepstoneref11_Of.B1 K a13 l14 c15 n16) stepstoneref11_Of.ext1 (s := (a10, l11, c12, n17)) (by unfold stepstoneref11_Of.ext1; simp only [e27, e30]; rfl) h ?_
  clear h
  clear e27
  clear e30
  intro s0 fr1 w1 next18 hs hk h
  unfold stepstoneref11_Of.ext1 at hs
  replace hs := noN (gL.out (d := none) (x := _) hs); obtain ⟨a10a, l11a, c12a, e31, hs⟩ := hs
  replace hs := noN (gI64.out (d := none) (x := _) hs); obtain ⟨n17a, e32, hs⟩ := hs
  replace hs := Option.some.inj hs; subst hs
  have e33 : fr1 6 = (.slice a13 l14 c15) := (hk 6 (by kernel_rfl)).trans e28
  have e34 : fr1 7 = (.int .i64 n16) := (hk 7 (by kernel_rfl)).trans e29
  refine at_frame [(3, (.slice a10a l11a c12a)), (8, (.int .i64 n17a)), (6, (.slice a13 l14 c15)), (7, (.int .i64 n16))] (by intro p hp; simp only [List.mem_cons, List.not_mem_nil, or_false] at hp; rcases hp with rfl | rfl | rfl | rfl <;> assumption) (Q := fun fr => sh prog (stepstoneref11_Of.U0 K) (loopBody (subAt [.R, .R, .L, .R, .B] (bodyOf Tryz.f46))) fr w1 (nextK stepstoneref11_Of.ext1 next18 (ctxAt prog (stepstoneref11_Of.U0 K) [.R, .R, .L, .R, .B] (bodyOf Tryz.f46) (retK prog Tryz.f46.results.toList (S_l.R K))))) ?_
  apply kc h; kernel_rfl
theorem stepstoneref11_Of.ok {a1 : Option Addr} {l2 : Nat} {c3 : Nat} {w : World} {K : Option Addr → Nat → Nat → World → Prop} (h : stepstoneref11_Of.F a1 l2 c3 w K) : stepstoneref11_Of.C a1 l2 c3 w K := by
  refine CallsV.mono (callsV_of_sh prog.mixed prog.noNum (args := [(.slice a1 l2 c3)]) Tryz.func46 (c := bodyOf Tryz.f46) (by kernel_rfl) (by kernel_rfl) (by kernel_rfl) (R := S_l.R K) ?_) fun v w1 h => S_l.out h
  refine sh_anyCut (cut := stepstoneref11_Of.U0 K) (by kernel_rfl) ?_
  refine sh_cutAt (p := [.R, .R, .L, .R, .B]) (l := 1) ?_ (stepstoneref11_Of.U0_ok1 K)
  apply kc h; kernel_rfl

def veb_New.F (n1 : Int) (n2 : Int) (w : World) (K : Option Addr → Int → World → Prop) : Prop :=
  count_New.C  w fun p3 W4 =>
  pool_New_veb_node.C p3 n2 W4 fun p5 n6 W7 =>
  cond (n6 != (0 : Int))
  (K none n6 W7)
  (hash_New.C p3 n1 W7 fun p8 W9 =>
  alP W9 #[(.pointer p3), (.pointer p5), (.pointer p8), (.int .i64 (-1 : Int)), (.int .i64 (0 : Int))] 269 fun r10 W11 =>
  K (some ⟨r10, 0, none⟩) (0 : Int) W11)
theorem veb_New.ok {n1 : Int} {n2 : Int} {w : World} {K : Option Addr → Int → World → Prop} (h : veb_New.F n1 n2 w K) : veb_New.C n1 n2 w K := by
  refine CallsV.mono (callsV_of_sh prog.mixed prog.noNum (args := [(.int .u64 n1), (.int .i64 n2)]) Tryz.func124 (c := bodyOf Tryz.f124) (by kernel_rfl) (by kernel_rfl) (by kernel_rfl) (R := S_p_i64.R K) ?_) fun v w1 h => S_p_i64.out h
  apply kc h; kernel_rfl

def veb_VEB_Clear.F (p1 : Option Addr) (w : World) (K : World → Prop) : Prop :=
  cond (!(Option.isNone p1))
  (nn p1 fun b2 o3 =>
  lP w b2 (o3 + 1) fun p4 =>
  pool_Pool_veb_node_Clear.C p4 w fun W5 =>
  nn p1 fun b6 o7 =>
  lP W5 b6 (o7 + 2) fun p8 =>
  hash_Table_Clear.C p8 W5 fun W9 =>
  nn p1 fun b10 o11 =>
  stP W9 b10 (o11 + 3) (.int .i64 (-1 : Int)) fun W12 =>
  nn p1 fun b13 o14 =>
  stP W12 b13 (o14 + 4) (.int .i64 (0 : Int)) fun W15 =>
  K W15)
  (K w)
theorem veb_VEB_Clear.ok {p1 : Option Addr} {w : World} {K : World → Prop} (h : veb_VEB_Clear.F p1 w K) : veb_VEB_Clear.C p1 w K := by
  refine CallsV.mono (callsV_of_sh prog.mixed prog.noNum (args := [(.pointer p1)]) Tryz.func270 (c := bodyOf Tryz.f270) (by kernel_rfl) (by kernel_rfl) (by kernel_rfl) (R := S_.R K) ?_) fun v w1 h => S_.out h
  apply kc h; kernel_rfl

def veb_VEB_Has.F (p1 : Option Addr) (n2 : Int) (w : World) (K : Bool → World → Prop) : Prop :=
  drP w fun W3 =>
  veb_VEB_start.C p1 W3 fun q4 W5 =>
  cond q4
  (nn p1 fun b6 o7 =>
  lI64 W5 b6 (o7 + 3) fun n8 =>
  nn p1 fun b9 o10 =>
  lI64 W5 b9 (o10 + 3) fun n11 =>
  veb_VEB_read.C p1 n11 W5 fun n12 n13 n14 n15 W16 =>
  cellsAre W16 b6 (o7 + 3) [(.int .i64 n8)] ∧
  veb_VEB_has.C p1 n8 n12 n13 n14 n15 (64 : Int) n2 W16 fun q17 W18 =>
  K q17 W18)
  (K false W5)
theorem veb_VEB_Has.ok {p1 : Option Addr} {n2 : Int} {w : World} {K : Bool → World → Prop} (h : veb_VEB_Has.F p1 n2 w K) : veb_VEB_Has.C p1 n2 w K := by
  refine CallsV.mono (callsV_of_sh prog.mixed prog.noNum (args := [(.pointer p1), (.int .u64 n2)]) Tryz.func272 (c := bodyOf Tryz.f272) (by kernel_rfl) (by kernel_rfl) (by kernel_rfl) (R := S_b.R K) ?_) fun v w1 h => S_b.out h
  apply kc h; kernel_rfl

def veb_VEB_Insert.F (p1 : Option Addr) (n2 : Int) (w : World) (K : Int → World → Prop) : Prop :=
  cond (Option.isNone p1)
  (K (3 : Int) w)
  (veb_VEB_Has.C p1 n2 w fun q3 W4 =>
  cond q3
  (K (4 : Int) W4)
  (nn p1 fun b5 o6 =>
  lI64 W4 b5 (o6 + 4) fun n7 =>
  cond (n7 == (0 : Int))
  (drP W4 fun W8 =>
  nn p1 fun b9 o10 =>
  lP W8 b9 (o10 + 1) fun p11 =>
  veb_fresh.C n2 (64 : Int) W8 fun n12 n13 n14 n15 W16 =>
  cellsAre W16 b9 (o10 + 1) [(.pointer p11)] ∧
  pool_Pool_veb_node_Alloc.C p11 n12 n13 n14 n15 W16 fun n17 q18 W19 =>
  cond (!q18)
  (K (5 : Int) W19)
  (nn p1 fun b20 o21 =>
  stP W19 b20 (o21 + 3) (.int .i64 n17) fun W22 =>
  nn p1 fun b23 o24 =>
  lI64 W22 b23 (o24 + 4) fun n25 =>
  nn p1 fun b26 o27 =>
  stP W22 b26 (o27 + 4) (.int .i64 (w64 (n25 + (1 : Int)))) fun W28 =>
  K (0 : Int) W28))
  (drP W4 fun W29 =>
  nn p1 fun b30 o31 =>
  lP W29 b30 (o31 + 1) fun p32 =>
  nn p1 fun b33 o34 =>
  lI64 W29 b33 (o34 + 3) fun n35 =>
  veb_VEB_need.C p1 n35 (64 : Int) n2 W29 fun n36 W37 =>
  cellsAre W37 b30 (o31 + 1) [(.pointer p32)] ∧
  pool_Pool_veb_node_Room.C p32 n36 W37 fun q38 W39 =>
  cond (!q38)
  (K (5 : Int) W39)
  (nn p1 fun b40 o41 =>
  lI64 W39 b40 (o41 + 3) fun n42 =>
  veb_VEB_put.C p1 n42 (64 : Int) n2 W39 fun W43 =>
  nn p1 fun b44 o45 =>
  lI64 W43 b44 (o45 + 4) fun n46 =>
  nn p1 fun b47 o48 =>
  stP W43 b47 (o48 + 4) (.int .i64 (w64 (n46 + (1 : Int)))) fun W49 =>
  K (0 : Int) W49))))
theorem veb_VEB_Insert.ok {p1 : Option Addr} {n2 : Int} {w : World} {K : Int → World → Prop} (h : veb_VEB_Insert.F p1 n2 w K) : veb_VEB_Insert.C p1 n2 w K := by
  refine CallsV.mono (callsV_of_sh prog.mixed prog.noNum (args := [(.pointer p1), (.int .u64 n2)]) Tryz.func273 (c := bodyOf Tryz.f273) (by kernel_rfl) (by kernel_rfl) (by kernel_rfl) (R := S_i64.R K) ?_) fun v w1 h => S_i64.out h
  apply kc h; kernel_rfl

def veb_VEB_Len.F (p1 : Option Addr) (w : World) (K : Int → World → Prop) : Prop :=
  cond (Option.isNone p1)
  (K (0 : Int) w)
  (nn p1 fun b2 o3 =>
  lI64 w b2 (o3 + 4) fun n4 =>
  K n4 w)
theorem veb_VEB_Len.ok {p1 : Option Addr} {w : World} {K : Int → World → Prop} (h : veb_VEB_Len.F p1 w K) : veb_VEB_Len.C p1 w K := by
  refine CallsV.mono (callsV_of_sh prog.mixed prog.noNum (args := [(.pointer p1)]) Tryz.func274 (c := bodyOf Tryz.f274) (by kernel_rfl) (by kernel_rfl) (by kernel_rfl) (R := S_i64.R K) ?_) fun v w1 h => S_i64.out h
  apply kc h; kernel_rfl

def veb_VEB_Max.F (p1 : Option Addr) (w : World) (K : Int → Bool → World → Prop) : Prop :=
  veb_VEB_start.C p1 w fun q2 W3 =>
  cond (!q2)
  (K (0 : Int) false W3)
  (nn p1 fun b4 o5 =>
  lI64 W3 b4 (o5 + 3) fun n6 =>
  veb_VEB_read.C p1 n6 W3 fun n7 n8 n9 n10 W11 =>
  K n8 true W11)
theorem veb_VEB_Max.ok {p1 : Option Addr} {w : World} {K : Int → Bool → World → Prop} (h : veb_VEB_Max.F p1 w K) : veb_VEB_Max.C p1 w K := by
  refine CallsV.mono (callsV_of_sh prog.mixed prog.noNum (args := [(.pointer p1)]) Tryz.func276 (c := bodyOf Tryz.f276) (by kernel_rfl) (by kernel_rfl) (by kernel_rfl) (R := S_u64_b.R K) ?_) fun v w1 h => S_u64_b.out h
  apply kc h; kernel_rfl

def veb_VEB_Min.F (p1 : Option Addr) (w : World) (K : Int → Bool → World → Prop) : Prop :=
  veb_VEB_start.C p1 w fun q2 W3 =>
  cond (!q2)
  (K (0 : Int) false W3)
  (nn p1 fun b4 o5 =>
  lI64 W3 b4 (o5 + 3) fun n6 =>
  veb_VEB_read.C p1 n6 W3 fun n7 n8 n9 n10 W11 =>
  K n7 true W11)
theorem veb_VEB_Min.ok {p1 : Option Addr} {w : World} {K : Int → Bool → World → Prop} (h : veb_VEB_Min.F p1 w K) : veb_VEB_Min.C p1 w K := by
  refine CallsV.mono (callsV_of_sh prog.mixed prog.noNum (args := [(.pointer p1)]) Tryz.func277 (c := bodyOf Tryz.f277) (by kernel_rfl) (by kernel_rfl) (by kernel_rfl) (R := S_u64_b.R K) ?_) fun v w1 h => S_u64_b.out h
  apply kc h; kernel_rfl

def veb_VEB_Next.F (p1 : Option Addr) (n2 : Int) (w : World) (K : Int → Bool → World → Prop) : Prop :=
  veb_VEB_start.C p1 w fun q3 W4 =>
  cond (!q3)
  (K (0 : Int) false W4)
  (nn p1 fun b5 o6 =>
  lI64 W4 b5 (o6 + 3) fun n7 =>
  veb_VEB_read.C p1 n7 W4 fun n8 n9 n10 n11 W12 =>
  alP W12 #[(.int .u64 (0 : Int)), (.int .u64 (0 : Int)), (.int .i64 (0 : Int)), (.int .u64 (0 : Int))] 267 fun r13 W14 =>
  stCs r13 0 [(.int .u64 n8), (.int .u64 n9), (.int .i64 n10), (.int .u64 n11)] W14 fun W15 =>
  lU64 W15 r13 1 fun n16 =>
  cond (decide (n2 > n16))
  (K (0 : Int) false W15)
  (drP W15 fun W17 =>
  nn p1 fun b18 o19 =>
  lI64 W17 b18 (o19 + 3) fun n20 =>
  lAu64_u64_i64_u64 W17 r13 0 fun n21 n22 n23 n24 =>
  veb_VEB_next.C p1 n20 n21 n22 n23 n24 (64 : Int) n2 W17 fun n25 W26 =>
  K n25 true W26))
theorem veb_VEB_Next.ok {p1 : Option Addr} {n2 : Int} {w : World} {K : Int → Bool → World → Prop} (h : veb_VEB_Next.F p1 n2 w K) : veb_VEB_Next.C p1 n2 w K := by
  refine CallsV.mono (callsV_of_sh prog.mixed prog.noNum (args := [(.pointer p1), (.int .u64 n2)]) Tryz.func278 (c := bodyOf Tryz.f278) (by kernel_rfl) (by kernel_rfl) (by kernel_rfl) (R := S_u64_b.R K) ?_) fun v w1 h => S_u64_b.out h
  apply kc h; kernel_rfl

def veb_VEB_Prev.F (p1 : Option Addr) (n2 : Int) (w : World) (K : Int → Bool → World → Prop) : Prop :=
  veb_VEB_start.C p1 w fun q3 W4 =>
  cond (!q3)
  (K (0 : Int) false W4)
  (nn p1 fun b5 o6 =>
  lI64 W4 b5 (o6 + 3) fun n7 =>
  veb_VEB_read.C p1 n7 W4 fun n8 n9 n10 n11 W12 =>
  alP W12 #[(.int .u64 (0 : Int)), (.int .u64 (0 : Int)), (.int .i64 (0 : Int)), (.int .u64 (0 : Int))] 267 fun r13 W14 =>
  stCs r13 0 [(.int .u64 n8), (.int .u64 n9), (.int .i64 n10), (.int .u64 n11)] W14 fun W15 =>
  lU64 W15 r13 0 fun n16 =>
  cond (decide (n2 < n16))
  (K (0 : Int) false W15)
  (drP W15 fun W17 =>
  nn p1 fun b18 o19 =>
  lI64 W17 b18 (o19 + 3) fun n20 =>
  lAu64_u64_i64_u64 W17 r13 0 fun n21 n22 n23 n24 =>
  veb_VEB_prev.C p1 n20 n21 n22 n23 n24 (64 : Int) n2 W17 fun n25 W26 =>
  K n25 true W26))
theorem veb_VEB_Prev.ok {p1 : Option Addr} {n2 : Int} {w : World} {K : Int → Bool → World → Prop} (h : veb_VEB_Prev.F p1 n2 w K) : veb_VEB_Prev.C p1 n2 w K := by
  refine CallsV.mono (callsV_of_sh prog.mixed prog.noNum (args := [(.pointer p1), (.int .u64 n2)]) Tryz.func279 (c := bodyOf Tryz.f279) (by kernel_rfl) (by kernel_rfl) (by kernel_rfl) (R := S_u64_b.R K) ?_) fun v w1 h => S_u64_b.out h
  apply kc h; kernel_rfl

def veb_VEB_cluster.F (p1 : Option Addr) (n2 : Int) (n3 : Int) (n4 : Int) (w : World) (K : Int → Bool → World → Prop) : Prop :=
  drP w fun W5 =>
  nn p1 fun b6 o7 =>
  lP W5 b6 (o7 + 2) fun p8 =>
  veb_key.C n2 n3 n4 W5 fun n9 n10 W11 =>
  cellsAre W11 b6 (o7 + 2) [(.pointer p8)] ∧
  hash_Table_Get.C p8 n9 n10 W11 fun n12 q13 W14 =>
  K (w64 n12) q13 W14
theorem veb_VEB_cluster.ok {p1 : Option Addr} {n2 : Int} {n3 : Int} {n4 : Int} {w : World} {K : Int → Bool → World → Prop} (h : veb_VEB_cluster.F p1 n2 n3 n4 w K) : veb_VEB_cluster.C p1 n2 n3 n4 w K := by
  refine CallsV.mono (callsV_of_sh prog.mixed prog.noNum (args := [(.pointer p1), (.int .i64 n2), (.int .i64 n3), (.int .u64 n4)]) Tryz.func305 (c := bodyOf Tryz.f305) (by kernel_rfl) (by kernel_rfl) (by kernel_rfl) (R := S_i64_b.R K) ?_) fun v w1 h => S_i64_b.out h
  apply kc h; kernel_rfl

def veb_VEB_first.F (p1 : Option Addr) (n2 : Int) (n3 : Int) (w : World) (K : Int → World → Prop) : Prop :=
  veb_VEB_see.C p1 n2 w fun n4 n5 n6 n7 W8 =>
  veb_VEB_see.C p1 n6 W8 fun n9 n10 n11 n12 W13 =>
  veb_ends.C n9 n10 n11 n12 (w64 (Int.tdiv n3 (2 : Int))) W13 fun n14 n15 W16 =>
  veb_VEB_cluster.C p1 n2 n3 n14 W16 fun n17 q18 W19 =>
  veb_VEB_see.C p1 n17 W19 fun n20 n21 n22 n23 W24 =>
  veb_ends.C n20 n21 n22 n23 (w64 (Int.tdiv n3 (2 : Int))) W24 fun n25 n26 W27 =>
  veb_join.C n14 n25 n3 W27 fun n28 W29 =>
  K n28 W29
theorem veb_VEB_first.ok {p1 : Option Addr} {n2 : Int} {n3 : Int} {w : World} {K : Int → World → Prop} (h : veb_VEB_first.F p1 n2 n3 w K) : veb_VEB_first.C p1 n2 n3 w K := by
  refine CallsV.mono (callsV_of_sh prog.mixed prog.noNum (args := [(.pointer p1), (.int .i64 n2), (.int .i64 n3)]) Tryz.func301 (c := bodyOf Tryz.f301) (by kernel_rfl) (by kernel_rfl) (by kernel_rfl) (R := S_u64.R K) ?_) fun v w1 h => S_u64.out h
  apply kc h; kernel_rfl

def veb_VEB_has.T1 (K : Bool → World → Prop) (p14 : Option Addr) (n15 : Int) (n20 : Int) (n21 : Int) (b22 : Nat) (o23 : Nat) (q28 : Bool) (W36 : World) : Prop :=
  cond q28
  (K true W36)
  (lU64 W36 b22 o23 fun n37 =>
  cond (decide (n21 < n37))
  (K false W36)
  (lU64 W36 b22 (o23 + 1) fun n38 =>
  cond (decide (n21 > n38))
  (K false W36)
  (lI64 W36 b22 (o23 + 2) fun n39 =>
  cond (n39 == (-1 : Int))
  (K false W36)
  (veb_high.C n21 n20 W36 fun n40 W41 =>
  veb_VEB_cluster.C p14 n15 n20 n40 W41 fun n42 q43 W44 =>
  cond q43
  (veb_VEB_read.C p14 n42 W44 fun n45 n46 n47 n48 W49 =>
  veb_low.C n21 n20 W49 fun n50 W51 =>
  veb_VEB_has.C p14 n42 n45 n46 n47 n48 (w64 (Int.tdiv n20 (2 : Int))) n50 W51 fun q52 W53 =>
  K q52 W53)
  (K false W44)))))
def veb_VEB_has.F (p1 : Option Addr) (n2 : Int) (n3 : Int) (n4 : Int) (n5 : Int) (n6 : Int) (n7 : Int) (n8 : Int) (w : World) (K : Bool → World → Prop) : Prop :=
  alP w #[(.int .u64 n3), (.int .u64 n4), (.int .i64 n5), (.int .u64 n6)] 267 fun r9 W10 =>
  cond (decide (n7 ≤ (4 : Int)))
  (lU64 W10 r9 3 fun n11 =>
  bit_Get.C n11 (w64 n8) W10 fun q12 W13 =>
  K q12 W13)
  (lU64 W10 r9 0 fun n54 =>
  cond (n8 == n54)
  (veb_VEB_has.T1 K p1 n2 n7 n8 r9 0 true W10)
  (lU64 W10 r9 1 fun n55 =>
  veb_VEB_has.T1 K p1 n2 n7 n8 r9 0 (n8 == n55) W10))
def veb_VEB_has.U0 (K : Bool → World → Prop) (l : Nat) (fr : Fr) (w : World) : Prop :=
  match l with
 | 1 =>
  gP False (fr 0) fun p14 =>
  gI64 False (fr 1) fun n15 =>
  gI64 False (fr 3) fun n20 =>
  gU64 False (fr 4) fun n21 =>
  gN False (fr 7) fun b22 o23 =>
  gB False (fr 21) fun q28 =>
  veb_VEB_has.T1 K p14 n15 n20 n21 b22 o23 q28 w
 | _ => False
theorem veb_VEB_has.U0_ok1 (K : Bool → World → Prop) (fr : Fr) (w : World) (h : veb_VEB_has.U0 K 1 fr w) : sh prog (veb_VEB_has.U0 K) (subAt [.R, .L, .B, .R, .E, .R] (bodyOf Tryz.f285)) fr w (ctxAt prog (veb_VEB_has.U0 K) [.R, .L, .B, .R, .E, .R] (bodyOf Tryz.f285) (retK prog Tryz.f285.results.toList (S_b.R K))) := by
  unfold veb_VEB_has.U0 at h
  simp only at h
  replace h := gP.outF h; obtain ⟨p14, e56, h⟩ := h
  replace h := gI64.outF h; obtain ⟨n15, e57, h⟩ := h
  replace h := gI64.outF h; obtain ⟨n20, e58, h⟩ := h
  replace h := gU64.outF h; obtain ⟨n21, e59, h⟩ := h
  replace h := gN.outF h; obtain ⟨b22, o23, e60, h⟩ := h
  replace h := gB.outF h; obtain ⟨q28, e61, h⟩ := h
  refine at_frame [(0, (.pointer p14)), (1, (.int .i64 n15)), (3, (.int .i64 n20)), (4, (.int .u64 n21)), (7, (.pointer (some ⟨b22, o23, none⟩))), (21, (.bool q28))] (by intro p hp; simp only [List.mem_cons, List.not_mem_nil, or_false] at hp; rcases hp with rfl | rfl | rfl | rfl | rfl | rfl <;> assumption) (Q := fun fr => sh prog (veb_VEB_has.U0 K) (subAt [.R, .L, .B, .R, .E, .R] (bodyOf Tryz.f285)) fr w (ctxAt prog (veb_VEB_has.U0 K) [.R, .L, .B, .R, .E, .R] (bodyOf Tryz.f285) (retK prog Tryz.f285.results.toList (S_b.R K)))) ?_
  apply kc h; kernel_rfl
theorem veb_VEB_has.ok {p1 : Option Addr} {n2 : Int} {n3 : Int} {n4 : Int} {n5 : Int} {n6 : Int} {n7 : Int} {n8 : Int} {w : World} {K : Bool → World → Prop} (h : veb_VEB_has.F p1 n2 n3 n4 n5 n6 n7 n8 w K) : veb_VEB_has.C p1 n2 n3 n4 n5 n6 n7 n8 w K := by
  refine CallsV.mono (callsV_of_sh prog.mixed prog.noNum (args := [(.pointer p1), (.int .i64 n2), (.agg #[(.int .u64 n3), (.int .u64 n4), (.int .i64 n5), (.int .u64 n6)]), (.int .i64 n7), (.int .u64 n8)]) Tryz.func285 (c := bodyOf Tryz.f285) (by kernel_rfl) (by kernel_rfl) (by kernel_rfl) (R := S_b.R K) ?_) fun v w1 h => S_b.out h
  refine sh_anyCut (cut := veb_VEB_has.U0 K) (by kernel_rfl) ?_
  refine sh_cutAt (p := [.R, .L, .B, .R, .E, .R]) (l := 1) ?_ (veb_VEB_has.U0_ok1 K)
  apply kc h; kernel_rfl

def veb_VEB_last.F (p1 : Option Addr) (n2 : Int) (n3 : Int) (w : World) (K : Int → World → Prop) : Prop :=
  veb_VEB_see.C p1 n2 w fun n4 n5 n6 n7 W8 =>
  veb_VEB_see.C p1 n6 W8 fun n9 n10 n11 n12 W13 =>
  veb_ends.C n9 n10 n11 n12 (w64 (Int.tdiv n3 (2 : Int))) W13 fun n14 n15 W16 =>
  veb_VEB_cluster.C p1 n2 n3 n15 W16 fun n17 q18 W19 =>
  veb_VEB_see.C p1 n17 W19 fun n20 n21 n22 n23 W24 =>
  veb_ends.C n20 n21 n22 n23 (w64 (Int.tdiv n3 (2 : Int))) W24 fun n25 n26 W27 =>
  veb_join.C n15 n26 n3 W27 fun n28 W29 =>
  K n28 W29
theorem veb_VEB_last.ok {p1 : Option Addr} {n2 : Int} {n3 : Int} {w : World} {K : Int → World → Prop} (h : veb_VEB_last.F p1 n2 n3 w K) : veb_VEB_last.C p1 n2 n3 w K := by
  refine CallsV.mono (callsV_of_sh prog.mixed prog.noNum (args := [(.pointer p1), (.int .i64 n2), (.int .i64 n3)]) Tryz.func302 (c := bodyOf Tryz.f302) (by kernel_rfl) (by kernel_rfl) (by kernel_rfl) (R := S_u64.R K) ?_) fun v w1 h => S_u64.out h
  apply kc h; kernel_rfl

def veb_VEB_need.T1 (K : Int → World → Prop) (p13 : Option Addr) (n14 : Int) (n15 : Int) (n16 : Int) (b18 : Nat) (o19 : Nat) (W42 : World) : Prop :=
  veb_high.C n16 n15 W42 fun n43 W44 =>
  veb_VEB_cluster.C p13 n14 n15 n43 W44 fun n45 q46 W47 =>
  cond q46
  (veb_low.C n16 n15 W47 fun n48 W49 =>
  veb_VEB_need.C p13 n45 (w64 (Int.tdiv n15 (2 : Int))) n48 W49 fun n50 W51 =>
  K n50 W51)
  (lI64 W47 b18 (o19 + 2) fun n52 =>
  cond (n52 == (-1 : Int))
  (K (2 : Int) W47)
  (drP W47 fun W53 =>
  lI64 W53 b18 (o19 + 2) fun n54 =>
  veb_high.C n16 n15 W53 fun n55 W56 =>
  cellsAre W56 b18 (o19 + 2) [(.int .i64 n54)] ∧
  veb_VEB_need.C p13 n54 (w64 (Int.tdiv n15 (2 : Int))) n55 W56 fun n57 W58 =>
  K (w64 ((1 : Int) + n57)) W58))
def veb_VEB_need.F (p1 : Option Addr) (n2 : Int) (n3 : Int) (n4 : Int) (w : World) (K : Int → World → Prop) : Prop :=
  veb_VEB_see.C p1 n2 w fun n5 n6 n7 n8 W9 =>
  alP W9 #[(.int .u64 (0 : Int)), (.int .u64 (0 : Int)), (.int .i64 (0 : Int)), (.int .u64 (0 : Int))] 267 fun r10 W11 =>
  stCs r10 0 [(.int .u64 n5), (.int .u64 n6), (.int .i64 n7), (.int .u64 n8)] W11 fun W12 =>
  cond (decide (n3 ≤ (4 : Int)))
  (K (0 : Int) W12)
  (lAu64_u64_i64_u64 W12 r10 0 fun n59 n60 n61 n62 =>
  veb_node_single.C n59 n60 n61 n62 W12 fun q63 W64 =>
  cond q63
  (K (0 : Int) W64)
  (lU64 W64 r10 0 fun n65 =>
  cond (decide (n4 < n65))
  (lU64 W64 r10 0 fun n66 =>
  veb_VEB_need.T1 K p1 n2 n3 n66 r10 0 W64)
  (lU64 W64 r10 1 fun n67 =>
  cond (decide (n4 > n67))
  (lU64 W64 r10 1 fun n68 =>
  veb_VEB_need.T1 K p1 n2 n3 n68 r10 0 W64)
  (veb_VEB_need.T1 K p1 n2 n3 n4 r10 0 W64))))
def veb_VEB_need.U0 (K : Int → World → Prop) (l : Nat) (fr : Fr) (w : World) : Prop :=
  match l with
 | 1 =>
  gP False (fr 0) fun p13 =>
  gI64 False (fr 1) fun n14 =>
  gI64 False (fr 2) fun n15 =>
  gU64 False (fr 3) fun n16 =>
  gN False (fr 9) fun b18 o19 =>
  veb_VEB_need.T1 K p13 n14 n15 n16 b18 o19 w
 | _ => False
theorem veb_VEB_need.U0_ok1 (K : Int → World → Prop) (fr : Fr) (w : World) (h : veb_VEB_need.U0 K 1 fr w) : sh prog (veb_VEB_need.U0 K) (subAt [.R, .R, .R] (bodyOf Tryz.f290)) fr w (ctxAt prog (veb_VEB_need.U0 K) [.R, .R, .R] (bodyOf Tryz.f290) (retK prog Tryz.f290.results.toList (S_i64.R K))) := by
  unfold veb_VEB_need.U0 at h
  simp only at h
  replace h := gP.outF h; obtain ⟨p13, e69, h⟩ := h
  replace h := gI64.outF h; obtain ⟨n14, e70, h⟩ := h
  replace h := gI64.outF h; obtain ⟨n15, e71, h⟩ := h
  replace h := gU64.outF h; obtain ⟨n16, e72, h⟩ := h
  replace h := gN.outF h; obtain ⟨b18, o19, e73, h⟩ := h
  refine at_frame [(0, (.pointer p13)), (1, (.int .i64 n14)), (2, (.int .i64 n15)), (3, (.int .u64 n16)), (9, (.pointer (some ⟨b18, o19, none⟩)))] (by intro p hp; simp only [List.mem_cons, List.not_mem_nil, or_false] at hp; rcases hp with rfl | rfl | rfl | rfl | rfl <;> assumption) (Q := fun fr => sh prog (veb_VEB_need.U0 K) (subAt [.R, .R, .R] (bodyOf Tryz.f290)) fr w (ctxAt prog (veb_VEB_need.U0 K) [.R, .R, .R] (bodyOf Tryz.f290) (retK prog Tryz.f290.results.toList (S_i64.R K)))) ?_
  apply kc h; kernel_rfl
theorem veb_VEB_need.ok {p1 : Option Addr} {n2 : Int} {n3 : Int} {n4 : Int} {w : World} {K : Int → World → Prop} (h : veb_VEB_need.F p1 n2 n3 n4 w K) : veb_VEB_need.C p1 n2 n3 n4 w K := by
  refine CallsV.mono (callsV_of_sh prog.mixed prog.noNum (args := [(.pointer p1), (.int .i64 n2), (.int .i64 n3), (.int .u64 n4)]) Tryz.func290 (c := bodyOf Tryz.f290) (by kernel_rfl) (by kernel_rfl) (by kernel_rfl) (R := S_i64.R K) ?_) fun v w1 h => S_i64.out h
  refine sh_anyCut (cut := veb_VEB_need.U0 K) (by kernel_rfl) ?_
  refine sh_cutAt (p := [.R, .R, .R]) (l := 1) ?_ (veb_VEB_need.U0_ok1 K)
  apply kc h; kernel_rfl

def veb_VEB_next.T1 (K : Int → World → Prop) (p26 : Option Addr) (n27 : Int) (n32 : Int) (b34 : Nat) (o35 : Nat) (n38 : Int) (n39 : Int) (W75 : World) : Prop :=
  lI64 W75 b34 (o35 + 2) fun n76 =>
  veb_VEB_read.C p26 n76 W75 fun n77 n78 n79 n80 W81 =>
  alP W81 #[(.int .u64 (0 : Int)), (.int .u64 (0 : Int)), (.int .i64 (0 : Int)), (.int .u64 (0 : Int))] 267 fun r82 W83 =>
  stCs r82 0 [(.int .u64 n77), (.int .u64 n78), (.int .i64 n79), (.int .u64 n80)] W83 fun W84 =>
  lAu64_u64_i64_u64 W84 r82 0 fun n85 n86 n87 n88 =>
  veb_ends.C n85 n86 n87 n88 (w64 (Int.tdiv n32 (2 : Int))) W84 fun n89 n90 W91 =>
  cond (decide (n39 ≥ n90))
  (K n38 W91)
  (lI64 W91 b34 (o35 + 2) fun n92 =>
  lAu64_u64_i64_u64 W91 r82 0 fun n93 n94 n95 n96 =>
  veb_VEB_next.C p26 n92 n93 n94 n95 n96 (w64 (Int.tdiv n32 (2 : Int))) (wu64 (n39 + (1 : Int))) W91 fun n97 W98 =>
  veb_VEB_cluster.C p26 n27 n32 n97 W98 fun n99 q100 W101 =>
  veb_VEB_read.C p26 n99 W101 fun n102 n103 n104 n105 W106 =>
  veb_ends.C n102 n103 n104 n105 (w64 (Int.tdiv n32 (2 : Int))) W106 fun n107 n108 W109 =>
  veb_join.C n97 n107 n32 W109 fun n110 W111 =>
  K n110 W111)
def veb_VEB_next.F (p1 : Option Addr) (n2 : Int) (n3 : Int) (n4 : Int) (n5 : Int) (n6 : Int) (n7 : Int) (n8 : Int) (w : World) (K : Int → World → Prop) : Prop :=
  alP w #[(.int .u64 n3), (.int .u64 n4), (.int .i64 n5), (.int .u64 n6)] 267 fun r9 W10 =>
  lAu64_u64_i64_u64 W10 r9 0 fun n11 n12 n13 n14 =>
  veb_ends.C n11 n12 n13 n14 n7 W10 fun n15 n16 W17 =>
  cond (decide (n8 ≤ n15))
  (K n15 W17)
  (cond (decide (n7 ≤ (4 : Int)))
  (lU64 W17 r9 3 fun n18 =>
  bit_Next.C n18 (w64 n8) W17 fun n19 W20 =>
  K (wu64 n19) W20)
  (lI64 W17 r9 2 fun n21 =>
  cond (n21 == (-1 : Int))
  (K n16 W17)
  (veb_high.C n8 n7 W17 fun n22 W23 =>
  veb_low.C n8 n7 W23 fun n24 W25 =>
  veb_VEB_cluster.C p1 n2 n7 n22 W25 fun n112 q113 W114 =>
  cond q113
  (veb_VEB_read.C p1 n112 W114 fun n115 n116 n117 n118 W119 =>
  alP W119 #[(.int .u64 (0 : Int)), (.int .u64 (0 : Int)), (.int .i64 (0 : Int)), (.int .u64 (0 : Int))] 267 fun r120 W121 =>
  stCs r120 0 [(.int .u64 n115), (.int .u64 n116), (.int .i64 n117), (.int .u64 n118)] W121 fun W122 =>
  lAu64_u64_i64_u64 W122 r120 0 fun n123 n124 n125 n126 =>
  veb_ends.C n123 n124 n125 n126 (w64 (Int.tdiv n7 (2 : Int))) W122 fun n127 n128 W129 =>
  cond (decide (n24 ≤ n128))
  (lAu64_u64_i64_u64 W129 r120 0 fun n130 n131 n132 n133 =>
  veb_VEB_next.C p1 n112 n130 n131 n132 n133 (w64 (Int.tdiv n7 (2 : Int))) n24 W129 fun n134 W135 =>
  veb_join.C n22 n134 n7 W135 fun n136 W137 =>
  K n136 W137)
  (veb_VEB_next.T1 K p1 n2 n7 r9 0 n16 n22 W129))
  (veb_VEB_next.T1 K p1 n2 n7 r9 0 n16 n22 W114))))
def veb_VEB_next.U0 (K : Int → World → Prop) (l : Nat) (fr : Fr) (w : World) : Prop :=
  match l with
 | 1 =>
  gP False (fr 0) fun p26 =>
  gI64 False (fr 1) fun n27 =>
  gI64 False (fr 3) fun n32 =>
  gN False (fr 7) fun b34 o35 =>
  gU64 False (fr 12) fun n38 =>
  gU64 False (fr 13) fun n39 =>
  veb_VEB_next.T1 K p26 n27 n32 b34 o35 n38 n39 w
 | _ => False
theorem veb_VEB_next.U0_ok1 (K : Int → World → Prop) (fr : Fr) (w : World) (h : veb_VEB_next.U0 K 1 fr w) : sh prog (veb_VEB_next.U0 K) (subAt [.R, .R, .R, .R, .R] (bodyOf Tryz.f292)) fr w (ctxAt prog (veb_VEB_next.U0 K) [.R, .R, .R, .R, .R] (bodyOf Tryz.f292) (retK prog Tryz.f292.results.toList (S_u64.R K))) := by
  unfold veb_VEB_next.U0 at h
  simp only at h
  replace h := gP.outF h; obtain ⟨p26, e138, h⟩ := h
  replace h := gI64.outF h; obtain ⟨n27, e139, h⟩ := h
  replace h := gI64.outF h; obtain ⟨n32, e140, h⟩ := h
  replace h := gN.outF h; obtain ⟨b34, o35, e141, h⟩ := h
  replace h := gU64.outF h; obtain ⟨n38, e142, h⟩ := h
  replace h := gU64.outF h; obtain ⟨n39, e143, h⟩ := h
  refine at_frame [(0, (.pointer p26)), (1, (.int .i64 n27)), (3, (.int .i64 n32)), (7, (.pointer (some ⟨b34, o35, none⟩))), (12, (.int .u64 n38)), (13, (.int .u64 n39))] (by intro p hp; simp only [List.mem_cons, List.not_mem_nil, or_false] at hp; rcases hp with rfl | rfl | rfl | rfl | rfl | rfl <;> assumption) (Q := fun fr => sh prog (veb_VEB_next.U0 K) (subAt [.R, .R, .R, .R, .R] (bodyOf Tryz.f292)) fr w (ctxAt prog (veb_VEB_next.U0 K) [.R, .R, .R, .R, .R] (bodyOf Tryz.f292) (retK prog Tryz.f292.results.toList (S_u64.R K)))) ?_
  apply kc h; kernel_rfl
theorem veb_VEB_next.ok {p1 : Option Addr} {n2 : Int} {n3 : Int} {n4 : Int} {n5 : Int} {n6 : Int} {n7 : Int} {n8 : Int} {w : World} {K : Int → World → Prop} (h : veb_VEB_next.F p1 n2 n3 n4 n5 n6 n7 n8 w K) : veb_VEB_next.C p1 n2 n3 n4 n5 n6 n7 n8 w K := by
  refine CallsV.mono (callsV_of_sh prog.mixed prog.noNum (args := [(.pointer p1), (.int .i64 n2), (.agg #[(.int .u64 n3), (.int .u64 n4), (.int .i64 n5), (.int .u64 n6)]), (.int .i64 n7), (.int .u64 n8)]) Tryz.func292 (c := bodyOf Tryz.f292) (by kernel_rfl) (by kernel_rfl) (by kernel_rfl) (R := S_u64.R K) ?_) fun v w1 h => S_u64.out h
  refine sh_anyCut (cut := veb_VEB_next.U0 K) (by kernel_rfl) ?_
  refine sh_cutAt (p := [.R, .R, .R, .R, .R]) (l := 1) ?_ (veb_VEB_next.U0_ok1 K)
  apply kc h; kernel_rfl

def veb_VEB_prev.T1 (K : Int → World → Prop) (p26 : Option Addr) (n27 : Int) (n32 : Int) (b34 : Nat) (o35 : Nat) (n37 : Int) (n39 : Int) (W75 : World) : Prop :=
  lI64 W75 b34 (o35 + 2) fun n76 =>
  veb_VEB_read.C p26 n76 W75 fun n77 n78 n79 n80 W81 =>
  alP W81 #[(.int .u64 (0 : Int)), (.int .u64 (0 : Int)), (.int .i64 (0 : Int)), (.int .u64 (0 : Int))] 267 fun r82 W83 =>
  stCs r82 0 [(.int .u64 n77), (.int .u64 n78), (.int .i64 n79), (.int .u64 n80)] W83 fun W84 =>
  lAu64_u64_i64_u64 W84 r82 0 fun n85 n86 n87 n88 =>
  veb_ends.C n85 n86 n87 n88 (w64 (Int.tdiv n32 (2 : Int))) W84 fun n89 n90 W91 =>
  cond (decide (n39 ≤ n89))
  (K n37 W91)
  (lI64 W91 b34 (o35 + 2) fun n92 =>
  lAu64_u64_i64_u64 W91 r82 0 fun n93 n94 n95 n96 =>
  veb_VEB_prev.C p26 n92 n93 n94 n95 n96 (w64 (Int.tdiv n32 (2 : Int))) (wu64 (n39 - (1 : Int))) W91 fun n97 W98 =>
  veb_VEB_cluster.C p26 n27 n32 n97 W98 fun n99 q100 W101 =>
  veb_VEB_read.C p26 n99 W101 fun n102 n103 n104 n105 W106 =>
  veb_ends.C n102 n103 n104 n105 (w64 (Int.tdiv n32 (2 : Int))) W106 fun n107 n108 W109 =>
  veb_join.C n97 n108 n32 W109 fun n110 W111 =>
  K n110 W111)
def veb_VEB_prev.F (p1 : Option Addr) (n2 : Int) (n3 : Int) (n4 : Int) (n5 : Int) (n6 : Int) (n7 : Int) (n8 : Int) (w : World) (K : Int → World → Prop) : Prop :=
  alP w #[(.int .u64 n3), (.int .u64 n4), (.int .i64 n5), (.int .u64 n6)] 267 fun r9 W10 =>
  lAu64_u64_i64_u64 W10 r9 0 fun n11 n12 n13 n14 =>
  veb_ends.C n11 n12 n13 n14 n7 W10 fun n15 n16 W17 =>
  cond (decide (n8 ≥ n16))
  (K n16 W17)
  (cond (decide (n7 ≤ (4 : Int)))
  (lU64 W17 r9 3 fun n18 =>
  bit_Prev.C n18 (w64 n8) W17 fun n19 W20 =>
  K (wu64 n19) W20)
  (lI64 W17 r9 2 fun n21 =>
  cond (n21 == (-1 : Int))
  (K n15 W17)
  (veb_high.C n8 n7 W17 fun n22 W23 =>
  veb_low.C n8 n7 W23 fun n24 W25 =>
  veb_VEB_cluster.C p1 n2 n7 n22 W25 fun n112 q113 W114 =>
  cond q113
  (veb_VEB_read.C p1 n112 W114 fun n115 n116 n117 n118 W119 =>
  alP W119 #[(.int .u64 (0 : Int)), (.int .u64 (0 : Int)), (.int .i64 (0 : Int)), (.int .u64 (0 : Int))] 267 fun r120 W121 =>
  stCs r120 0 [(.int .u64 n115), (.int .u64 n116), (.int .i64 n117), (.int .u64 n118)] W121 fun W122 =>
  lAu64_u64_i64_u64 W122 r120 0 fun n123 n124 n125 n126 =>
  veb_ends.C n123 n124 n125 n126 (w64 (Int.tdiv n7 (2 : Int))) W122 fun n127 n128 W129 =>
  cond (decide (n24 ≥ n127))
  (lAu64_u64_i64_u64 W129 r120 0 fun n130 n131 n132 n133 =>
  veb_VEB_prev.C p1 n112 n130 n131 n132 n133 (w64 (Int.tdiv n7 (2 : Int))) n24 W129 fun n134 W135 =>
  veb_join.C n22 n134 n7 W135 fun n136 W137 =>
  K n136 W137)
  (veb_VEB_prev.T1 K p1 n2 n7 r9 0 n15 n22 W129))
  (veb_VEB_prev.T1 K p1 n2 n7 r9 0 n15 n22 W114))))
def veb_VEB_prev.U0 (K : Int → World → Prop) (l : Nat) (fr : Fr) (w : World) : Prop :=
  match l with
 | 1 =>
  gP False (fr 0) fun p26 =>
  gI64 False (fr 1) fun n27 =>
  gI64 False (fr 3) fun n32 =>
  gN False (fr 7) fun b34 o35 =>
  gU64 False (fr 11) fun n37 =>
  gU64 False (fr 13) fun n39 =>
  veb_VEB_prev.T1 K p26 n27 n32 b34 o35 n37 n39 w
 | _ => False
theorem veb_VEB_prev.U0_ok1 (K : Int → World → Prop) (fr : Fr) (w : World) (h : veb_VEB_prev.U0 K 1 fr w) : sh prog (veb_VEB_prev.U0 K) (subAt [.R, .R, .R, .R, .R] (bodyOf Tryz.f293)) fr w (ctxAt prog (veb_VEB_prev.U0 K) [.R, .R, .R, .R, .R] (bodyOf Tryz.f293) (retK prog Tryz.f293.results.toList (S_u64.R K))) := by
  unfold veb_VEB_prev.U0 at h
  simp only at h
  replace h := gP.outF h; obtain ⟨p26, e138, h⟩ := h
  replace h := gI64.outF h; obtain ⟨n27, e139, h⟩ := h
  replace h := gI64.outF h; obtain ⟨n32, e140, h⟩ := h
  replace h := gN.outF h; obtain ⟨b34, o35, e141, h⟩ := h
  replace h := gU64.outF h; obtain ⟨n37, e142, h⟩ := h
  replace h := gU64.outF h; obtain ⟨n39, e143, h⟩ := h
  refine at_frame [(0, (.pointer p26)), (1, (.int .i64 n27)), (3, (.int .i64 n32)), (7, (.pointer (some ⟨b34, o35, none⟩))), (11, (.int .u64 n37)), (13, (.int .u64 n39))] (by intro p hp; simp only [List.mem_cons, List.not_mem_nil, or_false] at hp; rcases hp with rfl | rfl | rfl | rfl | rfl | rfl <;> assumption) (Q := fun fr => sh prog (veb_VEB_prev.U0 K) (subAt [.R, .R, .R, .R, .R] (bodyOf Tryz.f293)) fr w (ctxAt prog (veb_VEB_prev.U0 K) [.R, .R, .R, .R, .R] (bodyOf Tryz.f293) (retK prog Tryz.f293.results.toList (S_u64.R K)))) ?_
  apply kc h; kernel_rfl
theorem veb_VEB_prev.ok {p1 : Option Addr} {n2 : Int} {n3 : Int} {n4 : Int} {n5 : Int} {n6 : Int} {n7 : Int} {n8 : Int} {w : World} {K : Int → World → Prop} (h : veb_VEB_prev.F p1 n2 n3 n4 n5 n6 n7 n8 w K) : veb_VEB_prev.C p1 n2 n3 n4 n5 n6 n7 n8 w K := by
  refine CallsV.mono (callsV_of_sh prog.mixed prog.noNum (args := [(.pointer p1), (.int .i64 n2), (.agg #[(.int .u64 n3), (.int .u64 n4), (.int .i64 n5), (.int .u64 n6)]), (.int .i64 n7), (.int .u64 n8)]) Tryz.func293 (c := bodyOf Tryz.f293) (by kernel_rfl) (by kernel_rfl) (by kernel_rfl) (R := S_u64.R K) ?_) fun v w1 h => S_u64.out h
  refine sh_anyCut (cut := veb_VEB_prev.U0 K) (by kernel_rfl) ?_
  refine sh_cutAt (p := [.R, .R, .R, .R, .R]) (l := 1) ?_ (veb_VEB_prev.U0_ok1 K)
  apply kc h; kernel_rfl

def veb_VEB_put.T1 (K : World → Prop) (p13 : Option Addr) (n14 : Int) (n15 : Int) (n16 : Int) (b17 : Nat) (o18 : Nat) (W40 : World) : Prop :=
  veb_high.C n16 n15 W40 fun n41 W42 =>
  veb_low.C n16 n15 W42 fun n43 W44 =>
  veb_VEB_cluster.C p13 n14 n15 n41 W44 fun n45 q46 W47 =>
  cond q46
  (drP W47 fun W48 =>
  nn p13 fun b49 o50 =>
  lP W48 b49 (o50 + 1) fun p51 =>
  lAu64_u64_i64_u64 W48 b17 o18 fun n52 n53 n54 n55 =>
  pool_Pool_veb_node_Put.C p51 n14 n52 n53 n54 n55 W48 fun q56 W57 =>
  veb_VEB_put.C p13 n45 (w64 (Int.tdiv n15 (2 : Int))) n43 W57 fun W58 =>
  K W58)
  (drP W47 fun W59 =>
  nn p13 fun b60 o61 =>
  lP W59 b60 (o61 + 1) fun p62 =>
  veb_fresh.C n43 (w64 (Int.tdiv n15 (2 : Int))) W59 fun n63 n64 n65 n66 W67 =>
  cellsAre W67 b60 (o61 + 1) [(.pointer p62)] ∧
  pool_Pool_veb_node_Alloc.C p62 n63 n64 n65 n66 W67 fun n68 q69 W70 =>
  drP W70 fun W71 =>
  nn p13 fun b72 o73 =>
  lP W71 b72 (o73 + 2) fun p74 =>
  veb_key.C n14 n15 n41 W71 fun n75 n76 W77 =>
  cellsAre W77 b72 (o73 + 2) [(.pointer p74)] ∧
  hash_Table_Put.C p74 n75 n76 (wu64 n68) W77 fun q78 W79 =>
  lI64 W79 b17 (o18 + 2) fun n80 =>
  cond (n80 == (-1 : Int))
  (drP W79 fun W81 =>
  nn p13 fun b82 o83 =>
  lP W81 b82 (o83 + 1) fun p84 =>
  veb_fresh.C n41 (w64 (Int.tdiv n15 (2 : Int))) W81 fun n85 n86 n87 n88 W89 =>
  cellsAre W89 b82 (o83 + 1) [(.pointer p84)] ∧
  pool_Pool_veb_node_Alloc.C p84 n85 n86 n87 n88 W89 fun n90 q91 W92 =>
  stP W92 b17 (o18 + 2) (.int .i64 n90) fun W93 =>
  drP W93 fun W94 =>
  nn p13 fun b95 o96 =>
  lP W94 b95 (o96 + 1) fun p97 =>
  lAu64_u64_i64_u64 W94 b17 o18 fun n98 n99 n100 n101 =>
  pool_Pool_veb_node_Put.C p97 n14 n98 n99 n100 n101 W94 fun q102 W103 =>
  K W103)
  (drP W79 fun W104 =>
  nn p13 fun b105 o106 =>
  lP W104 b105 (o106 + 1) fun p107 =>
  lAu64_u64_i64_u64 W104 b17 o18 fun n108 n109 n110 n111 =>
  pool_Pool_veb_node_Put.C p107 n14 n108 n109 n110 n111 W104 fun q112 W113 =>
  lI64 W113 b17 (o18 + 2) fun n114 =>
  veb_VEB_put.C p13 n114 (w64 (Int.tdiv n15 (2 : Int))) n41 W113 fun W115 =>
  K W115))
def veb_VEB_put.F (p1 : Option Addr) (n2 : Int) (n3 : Int) (n4 : Int) (w : World) (K : World → Prop) : Prop :=
  veb_VEB_see.C p1 n2 w fun n5 n6 n7 n8 W9 =>
  alP W9 #[(.int .u64 (0 : Int)), (.int .u64 (0 : Int)), (.int .i64 (0 : Int)), (.int .u64 (0 : Int))] 267 fun r10 W11 =>
  stCs r10 0 [(.int .u64 n5), (.int .u64 n6), (.int .i64 n7), (.int .u64 n8)] W11 fun W12 =>
  cond (decide (n3 ≤ (4 : Int)))
  (lU64 W12 r10 3 fun n116 =>
  bit_Set.C n116 (w64 n4) W12 fun n117 W118 =>
  stP W118 r10 3 (.int .u64 n117) fun W119 =>
  drP W119 fun W120 =>
  nn p1 fun b121 o122 =>
  lP W120 b121 (o122 + 1) fun p123 =>
  lAu64_u64_i64_u64 W120 r10 0 fun n124 n125 n126 n127 =>
  pool_Pool_veb_node_Put.C p123 n2 n124 n125 n126 n127 W120 fun q128 W129 =>
  K W129)
  (lAu64_u64_i64_u64 W12 r10 0 fun n130 n131 n132 n133 =>
  veb_node_single.C n130 n131 n132 n133 W12 fun q134 W135 =>
  cond q134
  (lU64 W135 r10 0 fun n136 =>
  lU64 W135 r10 1 fun n137 =>
  stP W135 r10 0 (.int .u64 (mnI n136 n4)) fun W138 =>
  stP W138 r10 1 (.int .u64 (mxI n137 n4)) fun W139 =>
  drP W139 fun W140 =>
  nn p1 fun b141 o142 =>
  lP W140 b141 (o142 + 1) fun p143 =>
  lAu64_u64_i64_u64 W140 r10 0 fun n144 n145 n146 n147 =>
  pool_Pool_veb_node_Put.C p143 n2 n144 n145 n146 n147 W140 fun q148 W149 =>
  K W149)
  (lU64 W135 r10 0 fun n150 =>
  cond (decide (n4 < n150))
  (lU64 W135 r10 0 fun n151 =>
  stP W135 r10 0 (.int .u64 n4) fun W152 =>
  veb_VEB_put.T1 K p1 n2 n3 n151 r10 0 W152)
  (lU64 W135 r10 1 fun n153 =>
  cond (decide (n4 > n153))
  (lU64 W135 r10 1 fun n154 =>
  stP W135 r10 1 (.int .u64 n4) fun W155 =>
  veb_VEB_put.T1 K p1 n2 n3 n154 r10 0 W155)
  (veb_VEB_put.T1 K p1 n2 n3 n4 r10 0 W135))))
def veb_VEB_put.U0 (K : World → Prop) (l : Nat) (fr : Fr) (w : World) : Prop :=
  match l with
 | 1 =>
  gP False (fr 0) fun p13 =>
  gI64 False (fr 1) fun n14 =>
  gI64 False (fr 2) fun n15 =>
  gU64 False (fr 3) fun n16 =>
  gN False (fr 8) fun b17 o18 =>
  veb_VEB_put.T1 K p13 n14 n15 n16 b17 o18 w
 | _ => False
theorem veb_VEB_put.U0_ok1 (K : World → Prop) (fr : Fr) (w : World) (h : veb_VEB_put.U0 K 1 fr w) : sh prog (veb_VEB_put.U0 K) (subAt [.R, .R] (bodyOf Tryz.f291)) fr w (ctxAt prog (veb_VEB_put.U0 K) [.R, .R] (bodyOf Tryz.f291) (retK prog Tryz.f291.results.toList (S_.R K))) := by
  unfold veb_VEB_put.U0 at h
  simp only at h
  replace h := gP.outF h; obtain ⟨p13, e156, h⟩ := h
  replace h := gI64.outF h; obtain ⟨n14, e157, h⟩ := h
  replace h := gI64.outF h; obtain ⟨n15, e158, h⟩ := h
  replace h := gU64.outF h; obtain ⟨n16, e159, h⟩ := h
  replace h := gN.outF h; obtain ⟨b17, o18, e160, h⟩ := h
  refine at_frame [(0, (.pointer p13)), (1, (.int .i64 n14)), (2, (.int .i64 n15)), (3, (.int .u64 n16)), (8, (.pointer (some ⟨b17, o18, none⟩)))] (by intro p hp; simp only [List.mem_cons, List.not_mem_nil, or_false] at hp; rcases hp with rfl | rfl | rfl | rfl | rfl <;> assumption) (Q := fun fr => sh prog (veb_VEB_put.U0 K) (subAt [.R, .R] (bodyOf Tryz.f291)) fr w (ctxAt prog (veb_VEB_put.U0 K) [.R, .R] (bodyOf Tryz.f291) (retK prog Tryz.f291.results.toList (S_.R K)))) ?_
  apply kc h; kernel_rfl
theorem veb_VEB_put.ok {p1 : Option Addr} {n2 : Int} {n3 : Int} {n4 : Int} {w : World} {K : World → Prop} (h : veb_VEB_put.F p1 n2 n3 n4 w K) : veb_VEB_put.C p1 n2 n3 n4 w K := by
  refine CallsV.mono (callsV_of_sh prog.mixed prog.noNum (args := [(.pointer p1), (.int .i64 n2), (.int .i64 n3), (.int .u64 n4)]) Tryz.func291 (c := bodyOf Tryz.f291) (by kernel_rfl) (by kernel_rfl) (by kernel_rfl) (R := S_.R K) ?_) fun v w1 h => S_.out h
  refine sh_anyCut (cut := veb_VEB_put.U0 K) (by kernel_rfl) ?_
  refine sh_cutAt (p := [.R, .R]) (l := 1) ?_ (veb_VEB_put.U0_ok1 K)
  apply kc h; kernel_rfl

def veb_VEB_read.F (p1 : Option Addr) (n2 : Int) (w : World) (K : Int → Int → Int → Int → World → Prop) : Prop :=
  alP w #[(.int .u64 (0 : Int)), (.int .u64 (0 : Int)), (.int .i64 (0 : Int)), (.int .u64 (0 : Int))] 267 fun r3 W4 =>
  nn p1 fun b5 o6 =>
  lP W4 b5 (o6 + 1) fun p7 =>
  pool_Pool_veb_node_At.C p7 n2 W4 fun n8 n9 n10 n11 q12 W13 =>
  alP W13 #[(.int .u64 (0 : Int)), (.int .u64 (0 : Int)), (.int .i64 (0 : Int)), (.int .u64 (0 : Int))] 267 fun r14 W15 =>
  stCs r14 0 [(.int .u64 n8), (.int .u64 n9), (.int .i64 n10), (.int .u64 n11)] W15 fun W16 =>
  lAu64_u64_i64_u64 W16 r14 0 fun n17 n18 n19 n20 =>
  stCs r3 0 [(.int .u64 n17), (.int .u64 n18), (.int .i64 n19), (.int .u64 n20)] W16 fun W21 =>
  lAu64_u64_i64_u64 W21 r3 0 fun n22 n23 n24 n25 =>
  K n22 n23 n24 n25 W21
theorem veb_VEB_read.ok {p1 : Option Addr} {n2 : Int} {w : World} {K : Int → Int → Int → Int → World → Prop} (h : veb_VEB_read.F p1 n2 w K) : veb_VEB_read.C p1 n2 w K := by
  refine CallsV.mono (callsV_of_sh prog.mixed prog.noNum (args := [(.pointer p1), (.int .i64 n2)]) Tryz.func286 (c := bodyOf Tryz.f286) (by kernel_rfl) (by kernel_rfl) (by kernel_rfl) (R := S_au64_u64_i64_u64z.R K) ?_) fun v w1 h => S_au64_u64_i64_u64z.out h
  apply kc h; kernel_rfl

def veb_VEB_see.F (p1 : Option Addr) (n2 : Int) (w : World) (K : Int → Int → Int → Int → World → Prop) : Prop :=
  alP w #[(.int .u64 (0 : Int)), (.int .u64 (0 : Int)), (.int .i64 (0 : Int)), (.int .u64 (0 : Int))] 267 fun r3 W4 =>
  nn p1 fun b5 o6 =>
  lP W4 b5 (o6 + 1) fun p7 =>
  pool_Pool_veb_node_Peek.C p7 n2 W4 fun n8 n9 n10 n11 q12 W13 =>
  alP W13 #[(.int .u64 (0 : Int)), (.int .u64 (0 : Int)), (.int .i64 (0 : Int)), (.int .u64 (0 : Int))] 267 fun r14 W15 =>
  stCs r14 0 [(.int .u64 n8), (.int .u64 n9), (.int .i64 n10), (.int .u64 n11)] W15 fun W16 =>
  lAu64_u64_i64_u64 W16 r14 0 fun n17 n18 n19 n20 =>
  stCs r3 0 [(.int .u64 n17), (.int .u64 n18), (.int .i64 n19), (.int .u64 n20)] W16 fun W21 =>
  lAu64_u64_i64_u64 W21 r3 0 fun n22 n23 n24 n25 =>
  K n22 n23 n24 n25 W21
theorem veb_VEB_see.ok {p1 : Option Addr} {n2 : Int} {w : World} {K : Int → Int → Int → Int → World → Prop} (h : veb_VEB_see.F p1 n2 w K) : veb_VEB_see.C p1 n2 w K := by
  refine CallsV.mono (callsV_of_sh prog.mixed prog.noNum (args := [(.pointer p1), (.int .i64 n2)]) Tryz.func295 (c := bodyOf Tryz.f295) (by kernel_rfl) (by kernel_rfl) (by kernel_rfl) (R := S_au64_u64_i64_u64z.R K) ?_) fun v w1 h => S_au64_u64_i64_u64z.out h
  apply kc h; kernel_rfl

def veb_VEB_start.F (p1 : Option Addr) (w : World) (K : Bool → World → Prop) : Prop :=
  cond (Option.isNone p1)
  (K false w)
  (nn p1 fun b2 o3 =>
  lP w b2 o3 fun p4 =>
  count_Meter_Start.C p4 w fun W5 =>
  nn p1 fun b6 o7 =>
  lI64 W5 b6 (o7 + 4) fun n8 =>
  K (decide (n8 > (0 : Int))) W5)
theorem veb_VEB_start.ok {p1 : Option Addr} {w : World} {K : Bool → World → Prop} (h : veb_VEB_start.F p1 w K) : veb_VEB_start.C p1 w K := by
  refine CallsV.mono (callsV_of_sh prog.mixed prog.noNum (args := [(.pointer p1)]) Tryz.func284 (c := bodyOf Tryz.f284) (by kernel_rfl) (by kernel_rfl) (by kernel_rfl) (R := S_b.R K) ?_) fun v w1 h => S_b.out h
  apply kc h; kernel_rfl

def veb_ends.F (n1 : Int) (n2 : Int) (n3 : Int) (n4 : Int) (n5 : Int) (w : World) (K : Int → Int → World → Prop) : Prop :=
  alP w #[(.int .u64 n1), (.int .u64 n2), (.int .i64 n3), (.int .u64 n4)] 267 fun r6 W7 =>
  cond (decide (n5 ≤ (4 : Int)))
  (drP W7 fun W8 =>
  lU64 W8 r6 3 fun n9 =>
  lU64 W8 r6 3 fun n10 =>
  bit_Low.C n9 W8 fun n11 W12 =>
  cellsAre W12 r6 3 [(.int .u64 n10)] ∧
  bit_High.C n10 W12 fun n13 W14 =>
  K (wu64 n11) (wu64 n13) W14)
  (drP W7 fun W15 =>
  lU64 W15 r6 0 fun n16 =>
  lU64 W15 r6 1 fun n17 =>
  K n16 n17 W15)
theorem veb_ends.ok {n1 : Int} {n2 : Int} {n3 : Int} {n4 : Int} {n5 : Int} {w : World} {K : Int → Int → World → Prop} (h : veb_ends.F n1 n2 n3 n4 n5 w K) : veb_ends.C n1 n2 n3 n4 n5 w K := by
  refine CallsV.mono (callsV_of_sh prog.mixed prog.noNum (args := [(.agg #[(.int .u64 n1), (.int .u64 n2), (.int .i64 n3), (.int .u64 n4)]), (.int .i64 n5)]) Tryz.func312 (c := bodyOf Tryz.f312) (by kernel_rfl) (by kernel_rfl) (by kernel_rfl) (R := S_u64_u64.R K) ?_) fun v w1 h => S_u64_u64.out h
  apply kc h; kernel_rfl

def veb_fresh.F (n1 : Int) (n2 : Int) (w : World) (K : Int → Int → Int → Int → World → Prop) : Prop :=
  alP w #[(.int .u64 (0 : Int)), (.int .u64 (0 : Int)), (.int .i64 (0 : Int)), (.int .u64 (0 : Int))] 267 fun r3 W4 =>
  cond (decide (n2 ≤ (4 : Int)))
  (alP W4 #[(.int .i64 (w64 n1))] 3 fun r5 W6 =>
  bit_Make.C (some ⟨r5, 0, none⟩) 1 1 W6 fun n7 W8 =>
  stCs r3 0 [(.int .u64 (0 : Int)), (.int .u64 (0 : Int)), (.int .i64 (-1 : Int)), (.int .u64 n7)] W8 fun W9 =>
  lAu64_u64_i64_u64 W9 r3 0 fun n10 n11 n12 n13 =>
  K n10 n11 n12 n13 W9)
  (stCs r3 0 [(.int .u64 n1), (.int .u64 n1), (.int .i64 (-1 : Int)), (.int .u64 (0 : Int))] W4 fun W14 =>
  lAu64_u64_i64_u64 W14 r3 0 fun n15 n16 n17 n18 =>
  K n15 n16 n17 n18 W14)
theorem veb_fresh.ok {n1 : Int} {n2 : Int} {w : World} {K : Int → Int → Int → Int → World → Prop} (h : veb_fresh.F n1 n2 w K) : veb_fresh.C n1 n2 w K := by
  refine CallsV.mono (callsV_of_sh prog.mixed prog.noNum (args := [(.int .u64 n1), (.int .i64 n2)]) Tryz.func288 (c := bodyOf Tryz.f288) (by kernel_rfl) (by kernel_rfl) (by kernel_rfl) (R := S_au64_u64_i64_u64z.R K) ?_) fun v w1 h => S_au64_u64_i64_u64z.out h
  apply kc h; kernel_rfl

def veb_high.F (n1 : Int) (n2 : Int) (w : World) (K : Int → World → Prop) : Prop :=
  shP (w64 (Int.tdiv n2 (2 : Int))) fun m3 =>
  K (shr .u64 n1 m3) w
theorem veb_high.ok {n1 : Int} {n2 : Int} {w : World} {K : Int → World → Prop} (h : veb_high.F n1 n2 w K) : veb_high.C n1 n2 w K := by
  refine CallsV.mono (callsV_of_sh prog.mixed prog.noNum (args := [(.int .u64 n1), (.int .i64 n2)]) Tryz.func306 (c := bodyOf Tryz.f306) (by kernel_rfl) (by kernel_rfl) (by kernel_rfl) (R := S_u64.R K) ?_) fun v w1 h => S_u64.out h
  apply kc h; kernel_rfl

def veb_join.F (n1 : Int) (n2 : Int) (n3 : Int) (w : World) (K : Int → World → Prop) : Prop :=
  shP (w64 (Int.tdiv n3 (2 : Int))) fun m4 =>
  K (bOr .u64 (shl .u64 n1 m4) n2) w
theorem veb_join.ok {n1 : Int} {n2 : Int} {n3 : Int} {w : World} {K : Int → World → Prop} (h : veb_join.F n1 n2 n3 w K) : veb_join.C n1 n2 n3 w K := by
  refine CallsV.mono (callsV_of_sh prog.mixed prog.noNum (args := [(.int .u64 n1), (.int .u64 n2), (.int .i64 n3)]) Tryz.func314 (c := bodyOf Tryz.f314) (by kernel_rfl) (by kernel_rfl) (by kernel_rfl) (R := S_u64.R K) ?_) fun v w1 h => S_u64.out h
  apply kc h; kernel_rfl

def veb_key.F (n1 : Int) (n2 : Int) (n3 : Int) (w : World) (K : Int → Int → World → Prop) : Prop :=
  alP w #[(.int .u8 (0 : Int)), (.int .u64 (0 : Int))] 258 fun r4 W5 =>
  stCs r4 0 [(.int .u8 (wu8 n2)), (.int .u64 (bOr .u64 (shl .u64 (wu64 n1) 32) n3))] W5 fun W6 =>
  lAu8_u64 W6 r4 0 fun n7 n8 =>
  K n7 n8 W6
theorem veb_key.ok {n1 : Int} {n2 : Int} {n3 : Int} {w : World} {K : Int → Int → World → Prop} (h : veb_key.F n1 n2 n3 w K) : veb_key.C n1 n2 n3 w K := by
  refine CallsV.mono (callsV_of_sh prog.mixed prog.noNum (args := [(.int .i64 n1), (.int .i64 n2), (.int .u64 n3)]) Tryz.func311 (c := bodyOf Tryz.f311) (by kernel_rfl) (by kernel_rfl) (by kernel_rfl) (R := S_au8_u64z.R K) ?_) fun v w1 h => S_au8_u64z.out h
  apply kc h; kernel_rfl

def veb_low.F (n1 : Int) (n2 : Int) (w : World) (K : Int → World → Prop) : Prop :=
  shP (w64 (Int.tdiv n2 (2 : Int))) fun m3 =>
  K (bAnd .u64 n1 (wu64 ((shl .u64 (1 : Int) m3) - (1 : Int)))) w
theorem veb_low.ok {n1 : Int} {n2 : Int} {w : World} {K : Int → World → Prop} (h : veb_low.F n1 n2 w K) : veb_low.C n1 n2 w K := by
  refine CallsV.mono (callsV_of_sh prog.mixed prog.noNum (args := [(.int .u64 n1), (.int .i64 n2)]) Tryz.func307 (c := bodyOf Tryz.f307) (by kernel_rfl) (by kernel_rfl) (by kernel_rfl) (R := S_u64.R K) ?_) fun v w1 h => S_u64.out h
  apply kc h; kernel_rfl

def veb_node_single.F (n1 : Int) (n2 : Int) (n3 : Int) (n4 : Int) (w : World) (K : Bool → World → Prop) : Prop :=
  alP w #[(.int .u64 n1), (.int .u64 n2), (.int .i64 n3), (.int .u64 n4)] 267 fun r5 W6 =>
  lU64 W6 r5 0 fun n7 =>
  lU64 W6 r5 1 fun n8 =>
  K (n7 == n8) W6
theorem veb_node_single.ok {n1 : Int} {n2 : Int} {n3 : Int} {n4 : Int} {w : World} {K : Bool → World → Prop} (h : veb_node_single.F n1 n2 n3 n4 w K) : veb_node_single.C n1 n2 n3 n4 w K := by
  refine CallsV.mono (callsV_of_sh prog.mixed prog.noNum (args := [(.agg #[(.int .u64 n1), (.int .u64 n2), (.int .i64 n3), (.int .u64 n4)])]) Tryz.func299 (c := bodyOf Tryz.f299) (by kernel_rfl) (by kernel_rfl) (by kernel_rfl) (R := S_b.R K) ?_) fun v w1 h => S_b.out h
  apply kc h; kernel_rfl


end Go.St
