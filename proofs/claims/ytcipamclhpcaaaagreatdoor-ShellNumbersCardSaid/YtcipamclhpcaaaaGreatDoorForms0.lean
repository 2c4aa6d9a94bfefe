import Derived.Test.YtcipamclhpcaaaaGreatDoorCalls
/- Printed forms of functions. -/
namespace Go.St
open Go Go.Proofs
attribute [local irreducible] sh InvV DynV AppV CpyV ClrV TasV CnvV
set_option linter.unusedVariables false
set_option linter.unusedSimpArgs false
def slots_New.F (n1 : Int) (n2 : Int) (w : World) (K : Option Addr → Int → World → Prop) : Prop :=
  count_New.C  w fun p3 W4 =>
  pool_New_uint64.C p3 n2 W4 fun p5 n6 W7 =>
  cond (n6 != (0 : Int))
  (K none n6 W7)
  (hash_New.C p3 n1 W7 fun p8 W9 =>
  alP W9 #[(.pointer p3), (.pointer p5), (.pointer p8)] 283 fun r10 W11 =>
  K (some ⟨r10, 0, none⟩) (0 : Int) W11)
theorem slots_New.ok {n1 : Int} {n2 : Int} {w : World} {K : Option Addr → Int → World → Prop} (h : slots_New.F n1 n2 w K) : slots_New.C n1 n2 w K := by
  refine CallsV.mono (callsV_of_sh prog.mixed prog.noNum (args := [(.int .u64 n1), (.int .i64 n2)]) Tryz.func174 (c := bodyOf Tryz.f174) (by kernel_rfl) (by kernel_rfl) (by kernel_rfl) (R := S_p_i64.R K) ?_) fun v w1 h => S_p_i64.out h
  apply kc h; kernel_rfl

def count_New.F (w : World) (K : Option Addr → World → Prop) : Prop :=
  alP w #[(.int .i64 (0 : Int)), (.int .i64 (0 : Int)), (.int .i64 (0 : Int)), (.int .i64 (0 : Int)), (.int .i64 (0 : Int))] 363 fun r1 W2 =>
  K (some ⟨r1, 0, none⟩) W2
theorem count_New.ok {w : World} {K : Option Addr → World → Prop} (h : count_New.F  w K) : count_New.C  w K := by
  refine CallsV.mono (callsV_of_sh prog.mixed prog.noNum (args := []) Tryz.func217 (c := bodyOf Tryz.f217) (by kernel_rfl) (by kernel_rfl) (by kernel_rfl) (R := S_p.R K) ?_) fun v w1 h => S_p.out h
  apply kc h; kernel_rfl

def pool_New_uint64.F (p1 : Option Addr) (n2 : Int) (w : World) (K : Option Addr → Int → World → Prop) : Prop :=
  cond (decide (n2 < (0 : Int)))
  (K none (1 : Int) w)
  (cond (decide (n2 > (1048576 : Int)))
  (K none (1 : Int) w)
  (cond (Option.isNone p1)
  (count_New.C  w fun p3 W4 =>
  alP W4 #[(.pointer p3), (.slice none 0 0), (.slice none 0 0), (.int .i64 (0 : Int)), (.int .i64 n2)] 346 fun r5 W6 =>
  K (some ⟨r5, 0, none⟩) (0 : Int) W6)
  (alP w #[(.pointer p1), (.slice none 0 0), (.slice none 0 0), (.int .i64 (0 : Int)), (.int .i64 n2)] 346 fun r7 W8 =>
  K (some ⟨r7, 0, none⟩) (0 : Int) W8)))
theorem pool_New_uint64.ok {p1 : Option Addr} {n2 : Int} {w : World} {K : Option Addr → Int → World → Prop} (h : pool_New_uint64.F p1 n2 w K) : pool_New_uint64.C p1 n2 w K := by
  refine CallsV.mono (callsV_of_sh prog.mixed prog.noNum (args := [(.pointer p1), (.int .i64 n2)]) Tryz.func218 (c := bodyOf Tryz.f218) (by kernel_rfl) (by kernel_rfl) (by kernel_rfl) (R := S_p_i64.R K) ?_) fun v w1 h => S_p_i64.out h
  apply kc h; kernel_rfl

def hash_New.F (p1 : Option Addr) (n2 : Int) (w : World) (K : Option Addr → World → Prop) : Prop :=
  cond (Option.isNone p1)
  (count_New.C  w fun p3 W4 =>
  (0 ≤ w64 (8 : Int) ∧ w64 (8 : Int) ≤ w64 (8 : Int) ∧ ((32 : Nat) : Int) * w64 (8 : Int) ≤ 2 ^ 48) ∧
  alP W4 (zrow #[(.int .u8 (0 : Int)), (.int .u64 (0 : Int)), (.int .u64 (0 : Int)), (.bool false)] (Int.toNat (w64 (8 : Int)) * 4)) 390 fun r5 W6 =>
  alP W6 #[(.pointer p3), (.slice (some ⟨r5, 0, none⟩) (Int.toNat (w64 (8 : Int))) (Int.toNat (w64 (8 : Int)))), (.int .u64 n2), (.int .i64 (0 : Int)), (.int .i64 (0 : Int))] 366 fun r7 W8 =>
  K (some ⟨r7, 0, none⟩) W8)
  ((0 ≤ w64 (8 : Int) ∧ w64 (8 : Int) ≤ w64 (8 : Int) ∧ ((32 : Nat) : Int) * w64 (8 : Int) ≤ 2 ^ 48) ∧
  alP w (zrow #[(.int .u8 (0 : Int)), (.int .u64 (0 : Int)), (.int .u64 (0 : Int)), (.bool false)] (Int.toNat (w64 (8 : Int)) * 4)) 390 fun r9 W10 =>
  alP W10 #[(.pointer p1), (.slice (some ⟨r9, 0, none⟩) (Int.toNat (w64 (8 : Int))) (Int.toNat (w64 (8 : Int)))), (.int .u64 n2), (.int .i64 (0 : Int)), (.int .i64 (0 : Int))] 366 fun r11 W12 =>
  K (some ⟨r11, 0, none⟩) W12)
theorem hash_New.ok {p1 : Option Addr} {n2 : Int} {w : World} {K : Option Addr → World → Prop} (h : hash_New.F p1 n2 w K) : hash_New.C p1 n2 w K := by
  refine CallsV.mono (callsV_of_sh prog.mixed prog.noNum (args := [(.pointer p1), (.int .u64 n2)]) Tryz.func219 (c := bodyOf Tryz.f219) (by kernel_rfl) (by kernel_rfl) (by kernel_rfl) (R := S_p.R K) ?_) fun v w1 h => S_p.out h
  apply kc h; kernel_rfl

def pool_New_veb_node.F (p1 : Option Addr) (n2 : Int) (w : World) (K : Option Addr → Int → World → Prop) : Prop :=
  cond (decide (n2 < (0 : Int)))
  (K none (1 : Int) w)
  (cond (decide (n2 > (1048576 : Int)))
  (K none (1 : Int) w)
  (cond (Option.isNone p1)
  (count_New.C  w fun p3 W4 =>
  alP W4 #[(.pointer p3), (.slice none 0 0), (.slice none 0 0), (.int .i64 (0 : Int)), (.int .i64 n2)] 369 fun r5 W6 =>
  K (some ⟨r5, 0, none⟩) (0 : Int) W6)
  (alP w #[(.pointer p1), (.slice none 0 0), (.slice none 0 0), (.int .i64 (0 : Int)), (.int .i64 n2)] 369 fun r7 W8 =>
  K (some ⟨r7, 0, none⟩) (0 : Int) W8)))
theorem pool_New_veb_node.ok {p1 : Option Addr} {n2 : Int} {w : World} {K : Option Addr → Int → World → Prop} (h : pool_New_veb_node.F p1 n2 w K) : pool_New_veb_node.C p1 n2 w K := by
  refine CallsV.mono (callsV_of_sh prog.mixed prog.noNum (args := [(.pointer p1), (.int .i64 n2)]) Tryz.func220 (c := bodyOf Tryz.f220) (by kernel_rfl) (by kernel_rfl) (by kernel_rfl) (R := S_p_i64.R K) ?_) fun v w1 h => S_p_i64.out h
  apply kc h; kernel_rfl

def pool_New_yfast_cell.F (p1 : Option Addr) (n2 : Int) (w : World) (K : Option Addr → Int → World → Prop) : Prop :=
  cond (decide (n2 < (0 : Int)))
  (K none (1 : Int) w)
  (cond (decide (n2 > (1048576 : Int)))
  (K none (1 : Int) w)
  (cond (Option.isNone p1)
  (count_New.C  w fun p3 W4 =>
  alP W4 #[(.pointer p3), (.slice none 0 0), (.slice none 0 0), (.int .i64 (0 : Int)), (.int .i64 n2)] 382 fun r5 W6 =>
  K (some ⟨r5, 0, none⟩) (0 : Int) W6)
  (alP w #[(.pointer p1), (.slice none 0 0), (.slice none 0 0), (.int .i64 (0 : Int)), (.int .i64 n2)] 382 fun r7 W8 =>
  K (some ⟨r7, 0, none⟩) (0 : Int) W8)))
theorem pool_New_yfast_cell.ok {p1 : Option Addr} {n2 : Int} {w : World} {K : Option Addr → Int → World → Prop} (h : pool_New_yfast_cell.F p1 n2 w K) : pool_New_yfast_cell.C p1 n2 w K := by
  refine CallsV.mono (callsV_of_sh prog.mixed prog.noNum (args := [(.pointer p1), (.int .i64 n2)]) Tryz.func222 (c := bodyOf Tryz.f222) (by kernel_rfl) (by kernel_rfl) (by kernel_rfl) (R := S_p_i64.R K) ?_) fun v w1 h => S_p_i64.out h
  apply kc h; kernel_rfl

def pool_New_trie_node.F (p1 : Option Addr) (n2 : Int) (w : World) (K : Option Addr → Int → World → Prop) : Prop :=
  cond (decide (n2 < (0 : Int)))
  (K none (1 : Int) w)
  (cond (decide (n2 > (1048576 : Int)))
  (K none (1 : Int) w)
  (cond (Option.isNone p1)
  (count_New.C  w fun p3 W4 =>
  alP W4 #[(.pointer p3), (.slice none 0 0), (.slice none 0 0), (.int .i64 (0 : Int)), (.int .i64 n2)] 385 fun r5 W6 =>
  K (some ⟨r5, 0, none⟩) (0 : Int) W6)
  (alP w #[(.pointer p1), (.slice none 0 0), (.slice none 0 0), (.int .i64 (0 : Int)), (.int .i64 n2)] 385 fun r7 W8 =>
  K (some ⟨r7, 0, none⟩) (0 : Int) W8)))
theorem pool_New_trie_node.ok {p1 : Option Addr} {n2 : Int} {w : World} {K : Option Addr → Int → World → Prop} (h : pool_New_trie_node.F p1 n2 w K) : pool_New_trie_node.C p1 n2 w K := by
  refine CallsV.mono (callsV_of_sh prog.mixed prog.noNum (args := [(.pointer p1), (.int .i64 n2)]) Tryz.func223 (c := bodyOf Tryz.f223) (by kernel_rfl) (by kernel_rfl) (by kernel_rfl) (R := S_p_i64.R K) ?_) fun v w1 h => S_p_i64.out h
  apply kc h; kernel_rfl

def count_Meter_Read.F (p1 : Option Addr) (w : World) (K : World → Prop) : Prop :=
  cond (!(Option.isNone p1))
  (nn p1 fun b2 o3 =>
  lI64 w b2 o3 fun n4 =>
  nn p1 fun b5 o6 =>
  stP w b5 o6 (.int .i64 (w64 (n4 + (1 : Int)))) fun W7 =>
  count_Meter_step.C p1 W7 fun W8 =>
  K W8)
  (K w)
theorem count_Meter_Read.ok {p1 : Option Addr} {w : World} {K : World → Prop} (h : count_Meter_Read.F p1 w K) : count_Meter_Read.C p1 w K := by
  refine CallsV.mono (callsV_of_sh prog.mixed prog.noNum (args := [(.pointer p1)]) Tryz.func239 (c := bodyOf Tryz.f239) (by kernel_rfl) (by kernel_rfl) (by kernel_rfl) (R := S_.R K) ?_) fun v w1 h => S_.out h
  apply kc h; kernel_rfl

def pool_New_chain_link.F (p1 : Option Addr) (n2 : Int) (w : World) (K : Option Addr → Int → World → Prop) : Prop :=
  cond (decide (n2 < (0 : Int)))
  (K none (1 : Int) w)
  (cond (decide (n2 > (1048576 : Int)))
  (K none (1 : Int) w)
  (cond (Option.isNone p1)
  (count_New.C  w fun p3 W4 =>
  alP W4 #[(.pointer p3), (.slice none 0 0), (.slice none 0 0), (.int .i64 (0 : Int)), (.int .i64 n2)] 377 fun r5 W6 =>
  K (some ⟨r5, 0, none⟩) (0 : Int) W6)
  (alP w #[(.pointer p1), (.slice none 0 0), (.slice none 0 0), (.int .i64 (0 : Int)), (.int .i64 n2)] 377 fun r7 W8 =>
  K (some ⟨r7, 0, none⟩) (0 : Int) W8)))
theorem pool_New_chain_link.ok {p1 : Option Addr} {n2 : Int} {w : World} {K : Option Addr → Int → World → Prop} (h : pool_New_chain_link.F p1 n2 w K) : pool_New_chain_link.C p1 n2 w K := by
  refine CallsV.mono (callsV_of_sh prog.mixed prog.noNum (args := [(.pointer p1), (.int .i64 n2)]) Tryz.func260 (c := bodyOf Tryz.f260) (by kernel_rfl) (by kernel_rfl) (by kernel_rfl) (R := S_p_i64.R K) ?_) fun v w1 h => S_p_i64.out h
  apply kc h; kernel_rfl

def count_Meter_step.F (p1 : Option Addr) (w : World) (K : World → Prop) : Prop :=
  nn p1 fun b2 o3 =>
  lI64 w b2 (o3 + 2) fun n4 =>
  nn p1 fun b5 o6 =>
  stP w b5 (o6 + 2) (.int .i64 (w64 (n4 + (1 : Int)))) fun W7 =>
  drP W7 fun W8 =>
  nn p1 fun b9 o10 =>
  lI64 W8 b9 (o10 + 3) fun n11 =>
  nn p1 fun b12 o13 =>
  lI64 W8 b12 (o13 + 2) fun n14 =>
  nn p1 fun b15 o16 =>
  stP W8 b15 (o16 + 3) (.int .i64 (mxI n11 n14)) fun W17 =>
  K W17
theorem count_Meter_step.ok {p1 : Option Addr} {w : World} {K : World → Prop} (h : count_Meter_step.F p1 w K) : count_Meter_step.C p1 w K := by
  refine CallsV.mono (callsV_of_sh prog.mixed prog.noNum (args := [(.pointer p1)]) Tryz.func267 (c := bodyOf Tryz.f267) (by kernel_rfl) (by kernel_rfl) (by kernel_rfl) (R := S_.R K) ?_) fun v w1 h => S_.out h
  apply kc h; kernel_rfl

def count_Meter_Start.F (p1 : Option Addr) (w : World) (K : World → Prop) : Prop :=
  cond (!(Option.isNone p1))
  (nn p1 fun b2 o3 =>
  stP w b2 (o3 + 2) (.int .i64 (0 : Int)) fun W4 =>
  nn p1 fun b5 o6 =>
  lI64 W4 b5 (o6 + 4) fun n7 =>
  nn p1 fun b8 o9 =>
  stP W4 b8 (o9 + 4) (.int .i64 (w64 (n7 + (1 : Int)))) fun W10 =>
  K W10)
  (K w)
theorem count_Meter_Start.ok {p1 : Option Addr} {w : World} {K : World → Prop} (h : count_Meter_Start.F p1 w K) : count_Meter_Start.C p1 w K := by
  refine CallsV.mono (callsV_of_sh prog.mixed prog.noNum (args := [(.pointer p1)]) Tryz.func357 (c := bodyOf Tryz.f357) (by kernel_rfl) (by kernel_rfl) (by kernel_rfl) (R := S_.R K) ?_) fun v w1 h => S_.out h
  apply kc h; kernel_rfl

def bit_Get.F (n1 : Int) (n2 : Int) (w : World) (K : Bool → World → Prop) : Prop :=
  bit_one.C n2 w fun n3 W4 =>
  K ((bAnd .u64 n1 n3) != (0 : Int)) W4
theorem bit_Get.ok {n1 : Int} {n2 : Int} {w : World} {K : Bool → World → Prop} (h : bit_Get.F n1 n2 w K) : bit_Get.C n1 n2 w K := by
  refine CallsV.mono (callsV_of_sh prog.mixed prog.noNum (args := [(.int .u64 n1), (.int .i64 n2)]) Tryz.func358 (c := bodyOf Tryz.f358) (by kernel_rfl) (by kernel_rfl) (by kernel_rfl) (R := S_b.R K) ?_) fun v w1 h => S_b.out h
  apply kc h; kernel_rfl

def bit_Set.F (n1 : Int) (n2 : Int) (w : World) (K : Int → World → Prop) : Prop :=
  bit_one.C n2 w fun n3 W4 =>
  K (bOr .u64 n1 n3) W4
theorem bit_Set.ok {n1 : Int} {n2 : Int} {w : World} {K : Int → World → Prop} (h : bit_Set.F n1 n2 w K) : bit_Set.C n1 n2 w K := by
  refine CallsV.mono (callsV_of_sh prog.mixed prog.noNum (args := [(.int .u64 n1), (.int .i64 n2)]) Tryz.func364 (c := bodyOf Tryz.f364) (by kernel_rfl) (by kernel_rfl) (by kernel_rfl) (R := S_u64.R K) ?_) fun v w1 h => S_u64.out h
  apply kc h; kernel_rfl

def bit_one.F (n1 : Int) (w : World) (K : Int → World → Prop) : Prop :=
  bit_there.C n1 w fun q2 W3 =>
  cond (!q2)
  (K (0 : Int) W3)
  (shP n1 fun m4 =>
  K (shl .u64 (1 : Int) m4) W3)
theorem bit_one.ok {n1 : Int} {w : World} {K : Int → World → Prop} (h : bit_one.F n1 w K) : bit_one.C n1 w K := by
  refine CallsV.mono (callsV_of_sh prog.mixed prog.noNum (args := [(.int .i64 n1)]) Tryz.func371 (c := bodyOf Tryz.f371) (by kernel_rfl) (by kernel_rfl) (by kernel_rfl) (R := S_u64.R K) ?_) fun v w1 h => S_u64.out h
  apply kc h; kernel_rfl

def bit_below.F (n1 : Int) (w : World) (K : Int → World → Prop) : Prop :=
  cond (decide (n1 ≤ (0 : Int)))
  (K (0 : Int) w)
  (cond (decide (n1 ≥ (64 : Int)))
  (K (18446744073709551615 : Int) w)
  (shP n1 fun m2 =>
  K (wu64 ((shl .u64 (1 : Int) m2) - (1 : Int))) w))
theorem bit_below.ok {n1 : Int} {w : World} {K : Int → World → Prop} (h : bit_below.F n1 w K) : bit_below.C n1 w K := by
  refine CallsV.mono (callsV_of_sh prog.mixed prog.noNum (args := [(.int .i64 n1)]) Tryz.func375 (c := bodyOf Tryz.f375) (by kernel_rfl) (by kernel_rfl) (by kernel_rfl) (R := S_u64.R K) ?_) fun v w1 h => S_u64.out h
  apply kc h; kernel_rfl

def bit_there.F (n1 : Int) (w : World) (K : Bool → World → Prop) : Prop :=
  cond (decide (n1 ≥ (0 : Int)))
  (K (decide (n1 < (64 : Int))) w)
  (K false w)
theorem bit_there.ok {n1 : Int} {w : World} {K : Bool → World → Prop} (h : bit_there.F n1 w K) : bit_there.C n1 w K := by
  refine CallsV.mono (callsV_of_sh prog.mixed prog.noNum (args := [(.int .i64 n1)]) Tryz.func376 (c := bodyOf Tryz.f376) (by kernel_rfl) (by kernel_rfl) (by kernel_rfl) (R := S_b.R K) ?_) fun v w1 h => S_b.out h
  apply kc h; kernel_rfl

def bit_Rank.F (n1 : Int) (n2 : Int) (w : World) (K : Int → World → Prop) : Prop :=
  bit_below.C n2 w fun n3 W4 =>
  bit_Count.C (bAnd .u64 n1 n3) W4 fun n5 W6 =>
  K n5 W6
theorem bit_Rank.ok {n1 : Int} {n2 : Int} {w : World} {K : Int → World → Prop} (h : bit_Rank.F n1 n2 w K) : bit_Rank.C n1 n2 w K := by
  refine CallsV.mono (callsV_of_sh prog.mixed prog.noNum (args := [(.int .u64 n1), (.int .i64 n2)]) Tryz.func485 (c := bodyOf Tryz.f485) (by kernel_rfl) (by kernel_rfl) (by kernel_rfl) (R := S_i64.R K) ?_) fun v w1 h => S_i64.out h
  apply kc h; kernel_rfl

def pool_Pool_trie_node_Room.F (p1 : Option Addr) (n2 : Int) (w : World) (K : Bool → World → Prop) : Prop :=
  drP w fun W3 =>
  cond (!(Option.isNone p1))
  (nn p1 fun b4 o5 =>
  lI64 W3 b4 (o5 + 4) fun n6 =>
  nn p1 fun b7 o8 =>
  lI64 W3 b7 (o8 + 3) fun n9 =>
  K (decide (n2 ≤ (w64 (n6 - n9)))) W3)
  (K false W3)
theorem pool_Pool_trie_node_Room.ok {p1 : Option Addr} {n2 : Int} {w : World} {K : Bool → World → Prop} (h : pool_Pool_trie_node_Room.F p1 n2 w K) : pool_Pool_trie_node_Room.C p1 n2 w K := by
  refine CallsV.mono (callsV_of_sh prog.mixed prog.noNum (args := [(.pointer p1), (.int .i64 n2)]) Tryz.func493 (c := bodyOf Tryz.f493) (by kernel_rfl) (by kernel_rfl) (by kernel_rfl) (R := S_b.R K) ?_) fun v w1 h => S_b.out h
  apply kc h; kernel_rfl

def pool_Pool_trie_node_Alloc.F (p1 : Option Addr) (n2 : Int) (a3 : Option Addr) (l4 : Nat) (c5 : Nat) (n6 : Int) (n7 : Int) (n8 : Int) (w : World) (K : Int → Bool → World → Prop) : Prop :=
  alP w #[(.int .u64 n2), (.slice a3 l4 c5), (.int .i64 n6), (.int .u64 n7), (.int .u64 n8)] 327 fun r9 W10 =>
  pool_Pool_trie_node_Room.C p1 (1 : Int) W10 fun q11 W12 =>
  cond (!q11)
  (K (0 : Int) false W12)
  (nn p1 fun b13 o14 =>
  lI64 W12 b13 (o14 + 3) fun n15 =>
  nn p1 fun b16 o17 =>
  stP W12 b16 (o17 + 3) (.int .i64 (w64 (n15 + (1 : Int)))) fun W18 =>
  lAu64_l_i64_u64_u64 W18 r9 0 fun n19 a20 l21 c22 n23 n24 n25 =>
  alP W18 #[(.int .u64 (0 : Int)), (.slice none 0 0), (.int .i64 (0 : Int)), (.int .u64 (0 : Int)), (.int .u64 (0 : Int)), (.bool false)] 509 fun r26 W27 =>
  stCs r26 0 [(.int .u64 n19), (.slice a20 l21 c22), (.int .i64 n23), (.int .u64 n24), (.int .u64 n25), (.bool true)] W27 fun W28 =>
  nn p1 fun b29 o30 =>
  lL W28 b29 (o30 + 2) fun a31 l32 c33 =>
  cond (decide (((l32 : Nat) : Int) > (0 : Int)))
  (nn p1 fun b34 o35 =>
  lL W28 b34 (o35 + 2) fun a36 l37 c38 =>
  nn a36 fun b39 o40 =>
  0 ≤ (w64 (((l32 : Nat) : Int) - (1 : Int))) ∧ (w64 (((l32 : Nat) : Int) - (1 : Int))) < ((l37 : Nat) : Int) ∧
  lI64 W28 b39 (o40 + Int.toNat (w64 (((l32 : Nat) : Int) - (1 : Int))) * 1) fun n41 =>
  nn p1 fun b42 o43 =>
  lL W28 b42 (o43 + 2) fun a44 l45 c46 =>
  0 ≤ (w64 (((l32 : Nat) : Int) - (1 : Int))) ∧ (w64 (((l32 : Nat) : Int) - (1 : Int))) ≤ ((c46 : Nat) : Int) ∧
  nn p1 fun b47 o48 =>
  stP W28 b47 (o48 + 2) (.slice (slA a44 c46 0 1) ((Int.toNat (w64 (((l32 : Nat) : Int) - (1 : Int)))) - 0) (c46 - 0)) fun W49 =>
  drP W49 fun W50 =>
  nn p1 fun b51 o52 =>
  lL W50 b51 (o52 + 1) fun a53 l54 c55 =>
  lAu64_l_i64_u64_u64_b W50 r26 0 fun n56 a57 l58 c59 n60 n61 n62 q63 =>
  nn a53 fun b64 o65 =>
  0 ≤ n41 ∧ n41 < ((l54 : Nat) : Int) ∧
  stCs b64 (o65 + Int.toNat n41 * 6) [(.int .u64 n56), (.slice a57 l58 c59), (.int .i64 n60), (.int .u64 n61), (.int .u64 n62), (.bool q63)] W50 fun W66 =>
  K n41 true W66)
  (drP W28 fun W67 =>
  nn p1 fun b68 o69 =>
  lL W67 b68 (o69 + 1) fun a70 l71 c72 =>
  lAu64_l_i64_u64_u64_b W67 r26 0 fun n73 a74 l75 c76 n77 n78 n79 q80 =>
  alP W67 #[(.int .u64 n73), (.slice a74 l75 c76), (.int .i64 n77), (.int .u64 n78), (.int .u64 n79), (.bool q80)] 509 fun r81 W82 =>
  cellsAre W82 b68 (o69 + 1) [(.slice a70 l71 c72)] ∧
  AppV prog #[383, 383] 383 (.slice a70 l71 c72) (.slice (some ⟨r81, 0, none⟩) 1 1) W82 fun x83 W84 =>
  ∃ (a85 : Option Addr), ∃ (l86 : Nat), ∃ (c87 : Nat), x83 = (.slice a85 l86 c87) ∧
  nn p1 fun b88 o89 =>
  stP W84 b88 (o89 + 1) (.slice a85 l86 c87) fun W90 =>
  nn p1 fun b91 o92 =>
  lL W90 b91 (o92 + 1) fun a93 l94 c95 =>
  K (w64 (((l94 : Nat) : Int) - (1 : Int))) true W90))
theorem pool_Pool_trie_node_Alloc.ok {p1 : Option Addr} {n2 : Int} {a3 : Option Addr} {l4 : Nat} {c5 : Nat} {n6 : Int} {n7 : Int} {n8 : Int} {w : World} {K : Int → Bool → World → Prop} (h : pool_Pool_trie_node_Alloc.F p1 n2 a3 l4 c5 n6 n7 n8 w K) : pool_Pool_trie_node_Alloc.C p1 n2 a3 l4 c5 n6 n7 n8 w K := by
  refine CallsV.mono (callsV_of_sh prog.mixed prog.noNum (args := [(.pointer p1), (.agg #[(.int .u64 n2), (.slice a3 l4 c5), (.int .i64 n6), (.int .u64 n7), (.int .u64 n8)])]) Tryz.func496 (c := bodyOf Tryz.f496) (by kernel_rfl) (by kernel_rfl) (by kernel_rfl) (R := S_i64_b.R K) ?_) fun v w1 h => S_i64_b.out h
  apply kc h; kernel_rfl

def pool_Pool_trie_node_At.F (p1 : Option Addr) (n2 : Int) (w : World) (K : Int → Option Addr → Nat → Nat → Int → Int → Int → Bool → World → Prop) : Prop :=
  alP w #[(.int .u64 (0 : Int)), (.slice none 0 0), (.int .i64 (0 : Int)), (.int .u64 (0 : Int)), (.int .u64 (0 : Int))] 327 fun r3 W4 =>
  pool_Pool_trie_node_Peek.C p1 n2 W4 fun n5 a6 l7 c8 n9 n10 n11 q12 W13 =>
  alP W13 #[(.int .u64 (0 : Int)), (.slice none 0 0), (.int .i64 (0 : Int)), (.int .u64 (0 : Int)), (.int .u64 (0 : Int))] 327 fun r14 W15 =>
  stCs r14 0 [(.int .u64 n5), (.slice a6 l7 c8), (.int .i64 n9), (.int .u64 n10), (.int .u64 n11)] W15 fun W16 =>
  cond q12
  (nn p1 fun b17 o18 =>
  lP W16 b17 o18 fun p19 =>
  count_Meter_Read.C p19 W16 fun W20 =>
  lAu64_l_i64_u64_u64 W20 r14 0 fun n21 a22 l23 c24 n25 n26 n27 =>
  stCs r3 0 [(.int .u64 n21), (.slice a22 l23 c24), (.int .i64 n25), (.int .u64 n26), (.int .u64 n27)] W20 fun W28 =>
  lAu64_l_i64_u64_u64 W28 r3 0 fun n29 a30 l31 c32 n33 n34 n35 =>
  K n29 a30 l31 c32 n33 n34 n35 q12 W28)
  (lAu64_l_i64_u64_u64 W16 r14 0 fun n36 a37 l38 c39 n40 n41 n42 =>
  stCs r3 0 [(.int .u64 n36), (.slice a37 l38 c39), (.int .i64 n40), (.int .u64 n41), (.int .u64 n42)] W16 fun W43 =>
  lAu64_l_i64_u64_u64 W43 r3 0 fun n44 a45 l46 c47 n48 n49 n50 =>
  K n44 a45 l46 c47 n48 n49 n50 q12 W43)
theorem pool_Pool_trie_node_At.ok {p1 : Option Addr} {n2 : Int} {w : World} {K : Int → Option Addr → Nat → Nat → Int → Int → Int → Bool → World → Prop} (h : pool_Pool_trie_node_At.F p1 n2 w K) : pool_Pool_trie_node_At.C p1 n2 w K := by
  refine CallsV.mono (callsV_of_sh prog.mixed prog.noNum (args := [(.pointer p1), (.int .i64 n2)]) Tryz.func498 (c := bodyOf Tryz.f498) (by kernel_rfl) (by kernel_rfl) (by kernel_rfl) (R := S_au64_l_i64_u64_u64z_b.R K) ?_) fun v w1 h => S_au64_l_i64_u64_u64z_b.out h
  apply kc h; kernel_rfl

def pool_Pool_trie_node_Peek.F (p1 : Option Addr) (n2 : Int) (w : World) (K : Int → Option Addr → Nat → Nat → Int → Int → Int → Bool → World → Prop) : Prop :=
  alP w #[(.int .u64 (0 : Int)), (.slice none 0 0), (.int .i64 (0 : Int)), (.int .u64 (0 : Int)), (.int .u64 (0 : Int))] 327 fun r3 W4 =>
  pool_Pool_trie_node_Live.C p1 n2 W4 fun q5 W6 =>
  cond (!q5)
  (alP W6 #[(.int .u64 (0 : Int)), (.slice none 0 0), (.int .i64 (0 : Int)), (.int .u64 (0 : Int)), (.int .u64 (0 : Int))] 327 fun r7 W8 =>
  lAu64_l_i64_u64_u64 W8 r7 0 fun n9 a10 l11 c12 n13 n14 n15 =>
  stCs r3 0 [(.int .u64 n9), (.slice a10 l11 c12), (.int .i64 n13), (.int .u64 n14), (.int .u64 n15)] W8 fun W16 =>
  lAu64_l_i64_u64_u64 W16 r3 0 fun n17 a18 l19 c20 n21 n22 n23 =>
  K n17 a18 l19 c20 n21 n22 n23 false W16)
  (nn p1 fun b24 o25 =>
  lL W6 b24 (o25 + 1) fun a26 l27 c28 =>
  nn a26 fun b29 o30 =>
  0 ≤ n2 ∧ n2 < ((l27 : Nat) : Int) ∧
  lAu64_l_i64_u64_u64 W6 b29 (o30 + Int.toNat n2 * 6) fun n31 a32 l33 c34 n35 n36 n37 =>
  stCs r3 0 [(.int .u64 n31), (.slice a32 l33 c34), (.int .i64 n35), (.int .u64 n36), (.int .u64 n37)] W6 fun W38 =>
  lAu64_l_i64_u64_u64 W38 r3 0 fun n39 a40 l41 c42 n43 n44 n45 =>
  K n39 a40 l41 c42 n43 n44 n45 true W38)
theorem pool_Pool_trie_node_Peek.ok {p1 : Option Addr} {n2 : Int} {w : World} {K : Int → Option Addr → Nat → Nat → Int → Int → Int → Bool → World → Prop} (h : pool_Pool_trie_node_Peek.F p1 n2 w K) : pool_Pool_trie_node_Peek.C p1 n2 w K := by
  refine CallsV.mono (callsV_of_sh prog.mixed prog.noNum (args := [(.pointer p1), (.int .i64 n2)]) Tryz.func501 (c := bodyOf Tryz.f501) (by kernel_rfl) (by kernel_rfl) (by kernel_rfl) (R := S_au64_l_i64_u64_u64z_b.R K) ?_) fun v w1 h => S_au64_l_i64_u64_u64z_b.out h
  apply kc h; kernel_rfl

def bit_Count.F (n1 : Int) (w : World) (K : Int → World → Prop) : Prop :=
  math_bits_OnesCount64.C n1 w fun n2 W3 =>
  K n2 W3
theorem bit_Count.ok {n1 : Int} {w : World} {K : Int → World → Prop} (h : bit_Count.F n1 w K) : bit_Count.C n1 w K := by
  refine CallsV.mono (callsV_of_sh prog.mixed prog.noNum (args := [(.int .u64 n1)]) Tryz.func502 (c := bodyOf Tryz.f502) (by kernel_rfl) (by kernel_rfl) (by kernel_rfl) (R := S_i64.R K) ?_) fun v w1 h => S_i64.out h
  apply kc h; kernel_rfl

def pool_Pool_trie_node_Live.F (p1 : Option Addr) (n2 : Int) (w : World) (K : Bool → World → Prop) : Prop :=
  cond (!(Option.isNone p1))
  (cond (decide (n2 ≥ (0 : Int)))
  (nn p1 fun b3 o4 =>
  lL w b3 (o4 + 1) fun a5 l6 c7 =>
  cond (decide (n2 < ((l6 : Nat) : Int)))
  (nn p1 fun b8 o9 =>
  lL w b8 (o9 + 1) fun a10 l11 c12 =>
  nn a10 fun b13 o14 =>
  0 ≤ n2 ∧ n2 < ((l11 : Nat) : Int) ∧
  lB w b13 ((o14 + Int.toNat n2 * 6) + 5) fun q15 =>
  K q15 w)
  (K false w))
  (K false w))
  (K false w)
theorem pool_Pool_trie_node_Live.ok {p1 : Option Addr} {n2 : Int} {w : World} {K : Bool → World → Prop} (h : pool_Pool_trie_node_Live.F p1 n2 w K) : pool_Pool_trie_node_Live.C p1 n2 w K := by
  refine CallsV.mono (callsV_of_sh prog.mixed prog.noNum (args := [(.pointer p1), (.int .i64 n2)]) Tryz.func503 (c := bodyOf Tryz.f503) (by kernel_rfl) (by kernel_rfl) (by kernel_rfl) (R := S_b.R K) ?_) fun v w1 h => S_b.out h
  apply kc h; kernel_rfl

def math_bits_OnesCount64.F (n1 : Int) (w : World) (K : Int → World → Prop) : Prop :=
  K (bAnd .i64 (w64 (wu64 ((wu64 ((wu64 ((bAnd .u64 (wu64 ((shr .u64 (wu64 ((bAnd .u64 (shr .u64 (wu64 ((bAnd .u64 (shr .u64 n1 1) (6148914691236517205 : Int)) + (bAnd .u64 n1 (6148914691236517205 : Int)))) 2) (3689348814741910323 : Int)) + (bAnd .u64 (wu64 ((bAnd .u64 (shr .u64 n1 1) (6148914691236517205 : Int)) + (bAnd .u64 n1 (6148914691236517205 : Int)))) (3689348814741910323 : Int)))) 4) + (wu64 ((bAnd .u64 (shr .u64 (wu64 ((bAnd .u64 (shr .u64 n1 1) (6148914691236517205 : Int)) + (bAnd .u64 n1 (6148914691236517205 : Int)))) 2) (3689348814741910323 : Int)) + (bAnd .u64 (wu64 ((bAnd .u64 (shr .u64 n1 1) (6148914691236517205 : Int)) + (bAnd .u64 n1 (6148914691236517205 : Int)))) (3689348814741910323 : Int)))))) (1085102592571150095 : Int)) + (shr .u64 (bAnd .u64 (wu64 ((shr .u64 (wu64 ((bAnd .u64 (shr .u64 (wu64 ((bAnd .u64 (shr .u64 n1 1) (6148914691236517205 : Int)) + (bAnd .u64 n1 (6148914691236517205 : Int)))) 2) (3689348814741910323 : Int)) + (bAnd .u64 (wu64 ((bAnd .u64 (shr .u64 n1 1) (6148914691236517205 : Int)) + (bAnd .u64 n1 (6148914691236517205 : Int)))) (3689348814741910323 : Int)))) 4) + (wu64 ((bAnd .u64 (shr .u64 (wu64 ((bAnd .u64 (shr .u64 n1 1) (6148914691236517205 : Int)) + (bAnd .u64 n1 (6148914691236517205 : Int)))) 2) (3689348814741910323 : Int)) + (bAnd .u64 (wu64 ((bAnd .u64 (shr .u64 n1 1) (6148914691236517205 : Int)) + (bAnd .u64 n1 (6148914691236517205 : Int)))) (3689348814741910323 : Int)))))) (1085102592571150095 : Int)) 8))) + (shr .u64 (wu64 ((bAnd .u64 (wu64 ((shr .u64 (wu64 ((bAnd .u64 (shr .u64 (wu64 ((bAnd .u64 (shr .u64 n1 1) (6148914691236517205 : Int)) + (bAnd .u64 n1 (6148914691236517205 : Int)))) 2) (3689348814741910323 : Int)) + (bAnd .u64 (wu64 ((bAnd .u64 (shr .u64 n1 1) (6148914691236517205 : Int)) + (bAnd .u64 n1 (6148914691236517205 : Int)))) (3689348814741910323 : Int)))) 4) + (wu64 ((bAnd .u64 (shr .u64 (wu64 ((bAnd .u64 (shr .u64 n1 1) (6148914691236517205 : Int)) + (bAnd .u64 n1 (6148914691236517205 : Int)))) 2) (3689348814741910323 : Int)) + (bAnd .u64 (wu64 ((bAnd .u64 (shr .u64 n1 1) (6148914691236517205 : Int)) + (bAnd .u64 n1 (6148914691236517205 : Int)))) (3689348814741910323 : Int)))))) (1085102592571150095 : Int)) + (shr .u64 (bAnd .u64 (wu64 ((shr .u64 (wu64 ((bAnd .u64 (shr .u64 (wu64 ((bAnd .u64 (shr .u64 n1 1) (6148914691236517205 : Int)) + (bAnd .u64 n1 (6148914691236517205 : Int)))) 2) (3689348814741910323 : Int)) + (bAnd .u64 (wu64 ((bAnd .u64 (shr .u64 n1 1) (6148914691236517205 : Int)) + (bAnd .u64 n1 (6148914691236517205 : Int)))) (3689348814741910323 : Int)))) 4) + (wu64 ((bAnd .u64 (shr .u64 (wu64 ((bAnd .u64 (shr .u64 n1 1) (6148914691236517205 : Int)) + (bAnd .u64 n1 (6148914691236517205 : Int)))) 2) (3689348814741910323 : Int)) + (bAnd .u64 (wu64 ((bAnd .u64 (shr .u64 n1 1) (6148914691236517205 : Int)) + (bAnd .u64 n1 (6148914691236517205 : Int)))) (3689348814741910323 : Int)))))) (1085102592571150095 : Int)) 8))) 16))) + (shr .u64 (wu64 ((wu64 ((bAnd .u64 (wu64 ((shr .u64 (wu64 ((bAnd .u64 (shr .u64 (wu64 ((bAnd .u64 (shr .u64 n1 1) (6148914691236517205 : Int)) + (bAnd .u64 n1 (6148914691236517205 : Int)))) 2) (3689348814741910323 : Int)) + (bAnd .u64 (wu64 ((bAnd .u64 (shr .u64 n1 1) (6148914691236517205 : Int)) + (bAnd .u64 n1 (6148914691236517205 : Int)))) (3689348814741910323 : Int)))) 4) + (wu64 ((bAnd .u64 (shr .u64 (wu64 ((bAnd .u64 (shr .u64 n1 1) (6148914691236517205 : Int)) + (bAnd .u64 n1 (6148914691236517205 : Int)))) 2) (3689348814741910323 : Int)) + (bAnd .u64 (wu64 ((bAnd .u64 (shr .u64 n1 1) (6148914691236517205 : Int)) + (bAnd .u64 n1 (6148914691236517205 : Int)))) (3689348814741910323 : Int)))))) (1085102592571150095 : Int)) + (shr .u64 (bAnd .u64 (wu64 ((shr .u64 (wu64 ((bAnd .u64 (shr .u64 (wu64 ((bAnd .u64 (shr .u64 n1 1) (6148914691236517205 : Int)) + (bAnd .u64 n1 (6148914691236517205 : Int)))) 2) (3689348814741910323 : Int)) + (bAnd .u64 (wu64 ((bAnd .u64 (shr .u64 n1 1) (6148914691236517205 : Int)) + (bAnd .u64 n1 (6148914691236517205 : Int)))) (3689348814741910323 : Int)))) 4) + (wu64 ((bAnd .u64 (shr .u64 (wu64 ((bAnd .u64 (shr .u64 n1 1) (6148914691236517205 : Int)) + (bAnd .u64 n1 (6148914691236517205 : Int)))) 2) (3689348814741910323 : Int)) + (bAnd .u64 (wu64 ((bAnd .u64 (shr .u64 n1 1) (6148914691236517205 : Int)) + (bAnd .u64 n1 (6148914691236517205 : Int)))) (3689348814741910323 : Int)))))) (1085102592571150095 : Int)) 8))) + (shr .u64 (wu64 ((bAnd .u64 (wu64 ((shr .u64 (wu64 ((bAnd .u64 (shr .u64 (wu64 ((bAnd .u64 (shr .u64 n1 1) (6148914691236517205 : Int)) + (bAnd .u64 n1 (6148914691236517205 : Int)))) 2) (3689348814741910323 : Int)) + (bAnd .u64 (wu64 ((bAnd .u64 (shr .u64 n1 1) (6148914691236517205 : Int)) + (bAnd .u64 n1 (6148914691236517205 : Int)))) (3689348814741910323 : Int)))) 4) + (wu64 ((bAnd .u64 (shr .u64 (wu64 ((bAnd .u64 (shr .u64 n1 1) (6148914691236517205 : Int)) + (bAnd .u64 n1 (6148914691236517205 : Int)))) 2) (3689348814741910323 : Int)) + (bAnd .u64 (wu64 ((bAnd .u64 (shr .u64 n1 1) (6148914691236517205 : Int)) + (bAnd .u64 n1 (6148914691236517205 : Int)))) (3689348814741910323 : Int)))))) (1085102592571150095 : Int)) + (shr .u64 (bAnd .u64 (wu64 ((shr .u64 (wu64 ((bAnd .u64 (shr .u64 (wu64 ((bAnd .u64 (shr .u64 n1 1) (6148914691236517205 : Int)) + (bAnd .u64 n1 (6148914691236517205 : Int)))) 2) (3689348814741910323 : Int)) + (bAnd .u64 (wu64 ((bAnd .u64 (shr .u64 n1 1) (6148914691236517205 : Int)) + (bAnd .u64 n1 (6148914691236517205 : Int)))) (3689348814741910323 : Int)))) 4) + (wu64 ((bAnd .u64 (shr .u64 (wu64 ((bAnd .u64 (shr .u64 n1 1) (6148914691236517205 : Int)) + (bAnd .u64 n1 (6148914691236517205 : Int)))) 2) (3689348814741910323 : Int)) + (bAnd .u64 (wu64 ((bAnd .u64 (shr .u64 n1 1) (6148914691236517205 : Int)) + (bAnd .u64 n1 (6148914691236517205 : Int)))) (3689348814741910323 : Int)))))) (1085102592571150095 : Int)) 8))) 16))) 32)))) (127 : Int)) w
theorem math_bits_OnesCount64.ok {n1 : Int} {w : World} {K : Int → World → Prop} (h : math_bits_OnesCount64.F n1 w K) : math_bits_OnesCount64.C n1 w K := by
  refine CallsV.mono (callsV_of_sh prog.mixed prog.noNum (args := [(.int .u64 n1)]) Tryz.func507 (c := bodyOf Tryz.f507) (by kernel_rfl) (by kernel_rfl) (by kernel_rfl) (R := S_i64.R K) ?_) fun v w1 h => S_i64.out h
  apply kc h; kernel_rfl

def slices_Clone_int_int.F (a1 : Option Addr) (l2 : Nat) (c3 : Nat) (w : World) (K : Option Addr → Nat → Nat → World → Prop) : Prop :=
  cond (Option.isNone a1)
  (K none 0 0 w)
  (alP w #[] 3 fun r4 W5 =>
  AppV prog #[22, 22] 22 (.slice (some ⟨r4, 0, none⟩) 0 0) (.slice a1 l2 c3) W5 fun x6 W7 =>
  ∃ (a8 : Option Addr), ∃ (l9 : Nat), ∃ (c10 : Nat), x6 = (.slice a8 l9 c10) ∧
  K a8 l9 c10 W7)
theorem slices_Clone_int_int.ok {a1 : Option Addr} {l2 : Nat} {c3 : Nat} {w : World} {K : Option Addr → Nat → Nat → World → Prop} (h : slices_Clone_int_int.F a1 l2 c3 w K) : slices_Clone_int_int.C a1 l2 c3 w K := by
  refine CallsV.mono (callsV_of_sh prog.mixed prog.noNum (args := [(.slice a1 l2 c3)]) Tryz.func487 (c := bodyOf Tryz.f487) (by kernel_rfl) (by kernel_rfl) (by kernel_rfl) (R := S_l.R K) ?_) fun v w1 h => S_l.out h
  apply kc h; kernel_rfl

def slices_Insert_int_int.F (a1 : Option Addr) (l2 : Nat) (c3 : Nat) (n4 : Int) (a5 : Option Addr) (l6 : Nat) (c7 : Nat) (w : World) (K : Option Addr → Nat → Nat → World → Prop) : Prop :=
  0 ≤ n4 ∧ n4 ≤ ((l2 : Nat) : Int) ∧
  cond (((l6 : Nat) : Int) == (0 : Int))
  (K a1 l2 c3 w)
  (cond (n4 == ((l2 : Nat) : Int))
  (AppV prog #[22, 22] 22 (.slice a1 l2 c3) (.slice a5 l6 c7) w fun x8 W9 =>
  ∃ (a10 : Option Addr), ∃ (l11 : Nat), ∃ (c12 : Nat), x8 = (.slice a10 l11 c12) ∧
  K a10 l11 c12 W9)
  (cond (decide ((w64 (((l2 : Nat) : Int) + ((l6 : Nat) : Int))) > ((c3 : Nat) : Int)))
  (0 ≤ n4 ∧ n4 ≤ ((c3 : Nat) : Int) ∧
  AppV prog #[22, 3] 22 (.slice (slA a1 c3 0 1) ((Int.toNat n4) - 0) (c3 - 0)) (.int .i64 (w64 ((w64 (((l2 : Nat) : Int) + ((l6 : Nat) : Int))) - n4))) w fun x13 W14 =>
  ∃ (a15 : Option Addr), ∃ (l16 : Nat), ∃ (c17 : Nat), x13 = (.slice a15 l16 c17) ∧
  0 ≤ n4 ∧ n4 ≤ ((l16 : Nat) : Int) ∧
  CpyV prog #[22, 22] 3 (.slice (slA a15 c17 (Int.toNat n4) 1) (l16 - (Int.toNat n4)) (c17 - (Int.toNat n4))) (.slice a5 l6 c7) W14 fun x18 W19 =>
  ∃ (n20 : Int), x18 = (.int .i64 n20) ∧
  drP W19 fun W21 =>
  0 ≤ (w64 (n4 + ((l6 : Nat) : Int))) ∧ (w64 (n4 + ((l6 : Nat) : Int))) ≤ ((l16 : Nat) : Int) ∧
  0 ≤ n4 ∧ n4 ≤ ((l2 : Nat) : Int) ∧
  CpyV prog #[22, 22] 3 (.slice (slA a15 c17 (Int.toNat (w64 (n4 + ((l6 : Nat) : Int)))) 1) (l16 - (Int.toNat (w64 (n4 + ((l6 : Nat) : Int))))) (c17 - (Int.toNat (w64 (n4 + ((l6 : Nat) : Int)))))) (.slice (slA a1 c3 (Int.toNat n4) 1) (l2 - (Int.toNat n4)) (c3 - (Int.toNat n4))) W21 fun x22 W23 =>
  ∃ (n24 : Int), x22 = (.int .i64 n24) ∧
  K a15 l16 c17 W23)
  (0 ≤ (w64 (((l2 : Nat) : Int) + ((l6 : Nat) : Int))) ∧ (w64 (((l2 : Nat) : Int) + ((l6 : Nat) : Int))) ≤ ((c3 : Nat) : Int) ∧
  0 ≤ (w64 (n4 + ((l6 : Nat) : Int))) ∧ (w64 (n4 + ((l6 : Nat) : Int))) ≤ ((((Int.toNat (w64 (((l2 : Nat) : Int) + ((l6 : Nat) : Int)))) - 0) : Nat) : Int) ∧
  DynV prog (.func (.func 504) #[] #[]) #[(.slice a5 l6 c7), (.slice (slA (slA a1 c3 0 1) (c3 - 0) (Int.toNat (w64 (n4 + ((l6 : Nat) : Int)))) 1) (((Int.toNat (w64 (((l2 : Nat) : Int) + ((l6 : Nat) : Int)))) - 0) - (Int.toNat (w64 (n4 + ((l6 : Nat) : Int))))) ((c3 - 0) - (Int.toNat (w64 (n4 + ((l6 : Nat) : Int))))))] w fun x25 W26 =>
  ∃ (q27 : Bool), x25 = (.bool q27) ∧
  cond (!q27)
  (drP W26 fun W28 =>
  0 ≤ (w64 (n4 + ((l6 : Nat) : Int))) ∧ (w64 (n4 + ((l6 : Nat) : Int))) ≤ ((((Int.toNat (w64 (((l2 : Nat) : Int) + ((l6 : Nat) : Int)))) - 0) : Nat) : Int) ∧
  0 ≤ n4 ∧ n4 ≤ ((((Int.toNat (w64 (((l2 : Nat) : Int) + ((l6 : Nat) : Int)))) - 0) : Nat) : Int) ∧
  CpyV prog #[22, 22] 3 (.slice (slA (slA a1 c3 0 1) (c3 - 0) (Int.toNat (w64 (n4 + ((l6 : Nat) : Int)))) 1) (((Int.toNat (w64 (((l2 : Nat) : Int) + ((l6 : Nat) : Int)))) - 0) - (Int.toNat (w64 (n4 + ((l6 : Nat) : Int))))) ((c3 - 0) - (Int.toNat (w64 (n4 + ((l6 : Nat) : Int)))))) (.slice (slA (slA a1 c3 0 1) (c3 - 0) (Int.toNat n4) 1) (((Int.toNat (w64 (((l2 : Nat) : Int) + ((l6 : Nat) : Int)))) - 0) - (Int.toNat n4)) ((c3 - 0) - (Int.toNat n4))) W28 fun x29 W30 =>
  ∃ (n31 : Int), x29 = (.int .i64 n31) ∧
  0 ≤ n4 ∧ n4 ≤ ((((Int.toNat (w64 (((l2 : Nat) : Int) + ((l6 : Nat) : Int)))) - 0) : Nat) : Int) ∧
  CpyV prog #[22, 22] 3 (.slice (slA (slA a1 c3 0 1) (c3 - 0) (Int.toNat n4) 1) (((Int.toNat (w64 (((l2 : Nat) : Int) + ((l6 : Nat) : Int)))) - 0) - (Int.toNat n4)) ((c3 - 0) - (Int.toNat n4))) (.slice a5 l6 c7) W30 fun x32 W33 =>
  ∃ (n34 : Int), x32 = (.int .i64 n34) ∧
  K (slA a1 c3 0 1) ((Int.toNat (w64 (((l2 : Nat) : Int) + ((l6 : Nat) : Int)))) - 0) (c3 - 0) W33)
  (0 ≤ ((l2 : Nat) : Int) ∧ ((l2 : Nat) : Int) ≤ ((((Int.toNat (w64 (((l2 : Nat) : Int) + ((l6 : Nat) : Int)))) - 0) : Nat) : Int) ∧
  CpyV prog #[22, 22] 3 (.slice (slA (slA a1 c3 0 1) (c3 - 0) (Int.toNat ((l2 : Nat) : Int)) 1) (((Int.toNat (w64 (((l2 : Nat) : Int) + ((l6 : Nat) : Int)))) - 0) - (Int.toNat ((l2 : Nat) : Int))) ((c3 - 0) - (Int.toNat ((l2 : Nat) : Int)))) (.slice a5 l6 c7) W26 fun x35 W36 =>
  ∃ (n37 : Int), x35 = (.int .i64 n37) ∧
  0 ≤ n4 ∧ n4 ≤ ((((Int.toNat (w64 (((l2 : Nat) : Int) + ((l6 : Nat) : Int)))) - 0) : Nat) : Int) ∧
  slices_rotateRight_int.C (slA (slA a1 c3 0 1) (c3 - 0) (Int.toNat n4) 1) (((Int.toNat (w64 (((l2 : Nat) : Int) + ((l6 : Nat) : Int)))) - 0) - (Int.toNat n4)) ((c3 - 0) - (Int.toNat n4)) ((l6 : Nat) : Int) W36 fun W38 =>
  K (slA a1 c3 0 1) ((Int.toNat (w64 (((l2 : Nat) : Int) + ((l6 : Nat) : Int)))) - 0) (c3 - 0) W38))))
theorem slices_Insert_int_int.ok {a1 : Option Addr} {l2 : Nat} {c3 : Nat} {n4 : Int} {a5 : Option Addr} {l6 : Nat} {c7 : Nat} {w : World} {K : Option Addr → Nat → Nat → World → Prop} (h : slices_Insert_int_int.F a1 l2 c3 n4 a5 l6 c7 w K) : slices_Insert_int_int.C a1 l2 c3 n4 a5 l6 c7 w K := by
  refine CallsV.mono (callsV_of_sh prog.mixed prog.noNum (args := [(.slice a1 l2 c3), (.int .i64 n4), (.slice a5 l6 c7)]) Tryz.func494 (c := bodyOf Tryz.f494) (by kernel_rfl) (by kernel_rfl) (by kernel_rfl) (R := S_l.R K) ?_) fun v w1 h => S_l.out h
  apply kc h; kernel_rfl

def cmp_Less_uint16.F (n1 : Int) (n2 : Int) (w : World) (K : Bool → World → Prop) : Prop :=
  cmp_isNaN_uint16.C n1 w fun q3 W4 =>
  cond q3
  (cmp_isNaN_uint16.C n2 W4 fun q5 W6 =>
  cond (!q5)
  (K true W6)
  (K (decide (n1 < n2)) W6))
  (K (decide (n1 < n2)) W4)
theorem cmp_Less_uint16.ok {n1 : Int} {n2 : Int} {w : World} {K : Bool → World → Prop} (h : cmp_Less_uint16.F n1 n2 w K) : cmp_Less_uint16.C n1 n2 w K := by
  refine CallsV.mono (callsV_of_sh prog.mixed prog.noNum (args := [(.int .u16 n1), (.int .u16 n2)]) Tryz.func589 (c := bodyOf Tryz.f589) (by kernel_rfl) (by kernel_rfl) (by kernel_rfl) (R := S_b.R K) ?_) fun v w1 h => S_b.out h
  apply kc h; kernel_rfl

def slices_isNaN_uint16.F (n1 : Int) (w : World) (K : Bool → World → Prop) : Prop :=
  K (n1 != n1) w
theorem slices_isNaN_uint16.ok {n1 : Int} {w : World} {K : Bool → World → Prop} (h : slices_isNaN_uint16.F n1 w K) : slices_isNaN_uint16.C n1 w K := by
  refine CallsV.mono (callsV_of_sh prog.mixed prog.noNum (args := [(.int .u16 n1)]) Tryz.func590 (c := bodyOf Tryz.f590) (by kernel_rfl) (by kernel_rfl) (by kernel_rfl) (R := S_b.R K) ?_) fun v w1 h => S_b.out h
  apply kc h; kernel_rfl

def cmp_isNaN_uint16.F (n1 : Int) (w : World) (K : Bool → World → Prop) : Prop :=
  K (n1 != n1) w
theorem cmp_isNaN_uint16.ok {n1 : Int} {w : World} {K : Bool → World → Prop} (h : cmp_isNaN_uint16.F n1 w K) : cmp_isNaN_uint16.C n1 w K := by
  refine CallsV.mono (callsV_of_sh prog.mixed prog.noNum (args := [(.int .u16 n1)]) Tryz.func602 (c := bodyOf Tryz.f602) (by kernel_rfl) (by kernel_rfl) (by kernel_rfl) (R := S_b.R K) ?_) fun v w1 h => S_b.out h
  apply kc h; kernel_rfl

def face_made_veb_VEB.F (p1 : Option Addr) (n2 : Int) (w : World) (K : Value → Int → World → Prop) : Prop :=
  K (.iface 253 (.pointer p1)) n2 w
theorem face_made_veb_VEB.ok {p1 : Option Addr} {n2 : Int} {w : World} {K : Value → Int → World → Prop} (h : face_made_veb_VEB.F p1 n2 w K) : face_made_veb_VEB.C p1 n2 w K := by
  refine CallsV.mono (callsV_of_sh prog.mixed prog.noNum (args := [(.pointer p1), (.int .i64 n2)]) Tryz.func175 (c := bodyOf Tryz.f175) (by kernel_rfl) (by kernel_rfl) (by kernel_rfl) (R := S_r_i64.R K) ?_) fun v w1 h => S_r_i64.out h
  apply kc h; kernel_rfl

def veb_New.F (n1 : Int) (n2 : Int) (w : World) (K : Option Addr → Int → World → Prop) : Prop :=
  count_New.C  w fun p3 W4 =>
  pool_New_veb_node.C p3 n2 W4 fun p5 n6 W7 =>
  cond (n6 != (0 : Int))
  (K none n6 W7)
  (hash_New.C p3 n1 W7 fun p8 W9 =>
  alP W9 #[(.pointer p3), (.pointer p5), (.pointer p8), (.int .i64 (-1 : Int)), (.int .i64 (0 : Int))] 310 fun r10 W11 =>
  K (some ⟨r10, 0, none⟩) (0 : Int) W11)
theorem veb_New.ok {n1 : Int} {n2 : Int} {w : World} {K : Option Addr → Int → World → Prop} (h : veb_New.F n1 n2 w K) : veb_New.C n1 n2 w K := by
  refine CallsV.mono (callsV_of_sh prog.mixed prog.noNum (args := [(.int .u64 n1), (.int .i64 n2)]) Tryz.func176 (c := bodyOf Tryz.f176) (by kernel_rfl) (by kernel_rfl) (by kernel_rfl) (R := S_p_i64.R K) ?_) fun v w1 h => S_p_i64.out h
  apply kc h; kernel_rfl

def face_made_xfast_XFast.F (p1 : Option Addr) (n2 : Int) (w : World) (K : Value → Int → World → Prop) : Prop :=
  K (.iface 257 (.pointer p1)) n2 w
theorem face_made_xfast_XFast.ok {p1 : Option Addr} {n2 : Int} {w : World} {K : Value → Int → World → Prop} (h : face_made_xfast_XFast.F p1 n2 w K) : face_made_xfast_XFast.C p1 n2 w K := by
  refine CallsV.mono (callsV_of_sh prog.mixed prog.noNum (args := [(.pointer p1), (.int .i64 n2)]) Tryz.func177 (c := bodyOf Tryz.f177) (by kernel_rfl) (by kernel_rfl) (by kernel_rfl) (R := S_r_i64.R K) ?_) fun v w1 h => S_r_i64.out h
  apply kc h; kernel_rfl

def xfast_New.F (n1 : Int) (n2 : Int) (w : World) (K : Option Addr → Int → World → Prop) : Prop :=
  count_New.C  w fun p3 W4 =>
  chain_New.C p3 n2 W4 fun p5 n6 W7 =>
  cond (n6 != (0 : Int))
  (K none n6 W7)
  (hash_New.C p3 n1 W7 fun p8 W9 =>
  alP W9 #[(.pointer p3), (.pointer p8), (.pointer p5), (.int .i64 n2)] 315 fun r10 W11 =>
  K (some ⟨r10, 0, none⟩) (0 : Int) W11)
theorem xfast_New.ok {n1 : Int} {n2 : Int} {w : World} {K : Option Addr → Int → World → Prop} (h : xfast_New.F n1 n2 w K) : xfast_New.C n1 n2 w K := by
  refine CallsV.mono (callsV_of_sh prog.mixed prog.noNum (args := [(.int .u64 n1), (.int .i64 n2)]) Tryz.func178 (c := bodyOf Tryz.f178) (by kernel_rfl) (by kernel_rfl) (by kernel_rfl) (R := S_p_i64.R K) ?_) fun v w1 h => S_p_i64.out h
  apply kc h; kernel_rfl

def chain_New.F (p1 : Option Addr) (n2 : Int) (w : World) (K : Option Addr → Int → World → Prop) : Prop :=
  pool_New_chain_link.C p1 n2 w fun p3 n4 W5 =>
  cond (n4 != (0 : Int))
  (K none n4 W5)
  (nn p3 fun b6 o7 =>
  lP W5 b6 o7 fun p8 =>
  alP W5 #[(.pointer p8), (.pointer p3), (.int .i64 (-1 : Int)), (.int .i64 (-1 : Int))] 379 fun r9 W10 =>
  K (some ⟨r9, 0, none⟩) (0 : Int) W10)
theorem chain_New.ok {p1 : Option Addr} {n2 : Int} {w : World} {K : Option Addr → Int → World → Prop} (h : chain_New.F p1 n2 w K) : chain_New.C p1 n2 w K := by
  refine CallsV.mono (callsV_of_sh prog.mixed prog.noNum (args := [(.pointer p1), (.int .i64 n2)]) Tryz.func221 (c := bodyOf Tryz.f221) (by kernel_rfl) (by kernel_rfl) (by kernel_rfl) (R := S_p_i64.R K) ?_) fun v w1 h => S_p_i64.out h
  apply kc h; kernel_rfl

def face_made_yfast_YFast.F (p1 : Option Addr) (n2 : Int) (w : World) (K : Value → Int → World → Prop) : Prop :=
  K (.iface 261 (.pointer p1)) n2 w
theorem face_made_yfast_YFast.ok {p1 : Option Addr} {n2 : Int} {w : World} {K : Value → Int → World → Prop} (h : face_made_yfast_YFast.F p1 n2 w K) : face_made_yfast_YFast.C p1 n2 w K := by
  refine CallsV.mono (callsV_of_sh prog.mixed prog.noNum (args := [(.pointer p1), (.int .i64 n2)]) Tryz.func179 (c := bodyOf Tryz.f179) (by kernel_rfl) (by kernel_rfl) (by kernel_rfl) (R := S_r_i64.R K) ?_) fun v w1 h => S_r_i64.out h
  apply kc h; kernel_rfl

def yfast_New.F (n1 : Int) (n2 : Int) (w : World) (K : Option Addr → Int → World → Prop) : Prop :=
  xfast_New.C n1 n2 w fun p3 n4 W5 =>
  cond (n4 != (0 : Int))
  (K none n4 W5)
  (nn p3 fun b6 o7 =>
  lP W5 b6 o7 fun p8 =>
  pool_New_yfast_cell.C p8 n2 W5 fun p9 n10 W11 =>
  cond (n10 != (0 : Int))
  (K none n10 W11)
  (drP W11 fun W12 =>
  nn p3 fun b13 o14 =>
  lP W12 b13 o14 fun p15 =>
  nn p3 fun b16 o17 =>
  lP W12 b16 o17 fun p18 =>
  hash_New.C p18 n1 W12 fun p19 W20 =>
  cellsAre W20 b13 o14 [(.pointer p15)] ∧
  alP W20 #[(.pointer p15), (.pointer p3), (.pointer p19), (.pointer p9), (.int .i64 (0 : Int)), (.int .i64 n2)] 322 fun r21 W22 =>
  cellsAre W22 b13 o14 [(.pointer p15)] ∧
  K (some ⟨r21, 0, none⟩) (0 : Int) W22))
theorem yfast_New.ok {n1 : Int} {n2 : Int} {w : World} {K : Option Addr → Int → World → Prop} (h : yfast_New.F n1 n2 w K) : yfast_New.C n1 n2 w K := by
  refine CallsV.mono (callsV_of_sh prog.mixed prog.noNum (args := [(.int .u64 n1), (.int .i64 n2)]) Tryz.func180 (c := bodyOf Tryz.f180) (by kernel_rfl) (by kernel_rfl) (by kernel_rfl) (R := S_p_i64.R K) ?_) fun v w1 h => S_p_i64.out h
  apply kc h; kernel_rfl

def face_made_trie_Trie.F (p1 : Option Addr) (n2 : Int) (w : World) (K : Value → Int → World → Prop) : Prop :=
  K (.iface 265 (.pointer p1)) n2 w
theorem face_made_trie_Trie.ok {p1 : Option Addr} {n2 : Int} {w : World} {K : Value → Int → World → Prop} (h : face_made_trie_Trie.F p1 n2 w K) : face_made_trie_Trie.C p1 n2 w K := by
  refine CallsV.mono (callsV_of_sh prog.mixed prog.noNum (args := [(.pointer p1), (.int .i64 n2)]) Tryz.func181 (c := bodyOf Tryz.f181) (by kernel_rfl) (by kernel_rfl) (by kernel_rfl) (R := S_r_i64.R K) ?_) fun v w1 h => S_r_i64.out h
  apply kc h; kernel_rfl

def trie_New.F (n1 : Int) (w : World) (K : Option Addr → Int → World → Prop) : Prop :=
  count_New.C  w fun p2 W3 =>
  pool_New_trie_node.C p2 n1 W3 fun p4 n5 W6 =>
  cond (n5 != (0 : Int))
  (K none n5 W6)
  (alP W6 #[(.pointer p2), (.pointer p4), (.int .i64 (0 : Int)), (.int .i64 (0 : Int))] 329 fun r7 W8 =>
  K (some ⟨r7, 0, none⟩) (0 : Int) W8)
theorem trie_New.ok {n1 : Int} {w : World} {K : Option Addr → Int → World → Prop} (h : trie_New.F n1 w K) : trie_New.C n1 w K := by
  refine CallsV.mono (callsV_of_sh prog.mixed prog.noNum (args := [(.int .i64 n1)]) Tryz.func182 (c := bodyOf Tryz.f182) (by kernel_rfl) (by kernel_rfl) (by kernel_rfl) (R := S_p_i64.R K) ?_) fun v w1 h => S_p_i64.out h
  apply kc h; kernel_rfl

def trie_Trie_Has.F (p1 : Option Addr) (n2 : Int) (w : World) (K : Bool → World → Prop) : Prop :=
  trie_Trie_start.C p1 w fun q3 W4 =>
  cond (!q3)
  (K false W4)
  (trie_Trie_path.C p1 n2 W4 fun a5 l6 c7 W8 =>
  cond (((l6 : Nat) : Int) == (11 : Int))
  (nn a5 fun b9 o10 =>
  0 ≤ (10 : Int) ∧ (10 : Int) < ((l6 : Nat) : Int) ∧
  lI64 W8 b9 (o10 + Int.toNat (10 : Int) * 1) fun n11 =>
  trie_Trie_last.C p1 n11 n2 W8 fun q12 W13 =>
  K q12 W13)
  (K false W8))
theorem trie_Trie_Has.ok {p1 : Option Addr} {n2 : Int} {w : World} {K : Bool → World → Prop} (h : trie_Trie_Has.F p1 n2 w K) : trie_Trie_Has.C p1 n2 w K := by
  refine CallsV.mono (callsV_of_sh prog.mixed prog.noNum (args := [(.pointer p1), (.int .u64 n2)]) Tryz.func469 (c := bodyOf Tryz.f469) (by kernel_rfl) (by kernel_rfl) (by kernel_rfl) (R := S_b.R K) ?_) fun v w1 h => S_b.out h
  apply kc h; kernel_rfl

def trie_Trie_Insert.T3 (next45 : (Int × Int) → World → Prop) (p100 : Option Addr) (n101 : Int) (a103 : Option Addr) (l104 : Nat) (c105 : Nat) (n107 : Int) (q109 : Bool) (b110 : Nat) (o111 : Nat) (W154 : World) : Prop :=
  lAu64_l_i64_u64_u64 W154 b110 o111 fun n155 a156 l157 c158 n159 n160 n161 =>
  trie_grown.C n155 a156 l157 c158 n159 n160 n161 n101 W154 fun n162 a163 l164 c165 n166 n167 n168 W169 =>
  stCs b110 o111 [(.int .u64 n162), (.slice a163 l164 c165), (.int .i64 n166), (.int .u64 n167), (.int .u64 n168)] W169 fun W170 =>
  cond q109
  (drP W170 fun W171 =>
  nn p100 fun b172 o173 =>
  lP W171 b172 (o173 + 1) fun p174 =>
  lAu64_l_i64_u64_u64 W171 b110 o111 fun n175 a176 l177 c178 n179 n180 n181 =>
  pool_Pool_trie_node_Alloc.C p174 n175 a176 l177 c178 n179 n180 n181 W171 fun n182 q183 W184 =>
  next45 (n182, (w64 (n107 - (1 : Int)))) W184)
  (nn a103 fun b185 o186 =>
  0 ≤ n107 ∧ n107 < ((l104 : Nat) : Int) ∧
  lI64 W170 b185 (o186 + Int.toNat n107 * 1) fun n187 =>
  drP W170 fun W188 =>
  nn p100 fun b189 o190 =>
  lP W188 b189 (o190 + 1) fun p191 =>
  lAu64_l_i64_u64_u64 W188 b110 o111 fun n192 a193 l194 c195 n196 n197 n198 =>
  pool_Pool_trie_node_Put.C p191 n187 n192 a193 l194 c195 n196 n197 n198 W188 fun q199 W200 =>
  next45 (n187, (w64 (n107 - (1 : Int)))) W200)
def trie_Trie_Insert.T2 (next45 : (Int × Int) → World → Prop) (p51 : Option Addr) (n52 : Int) (a54 : Option Addr) (l55 : Nat) (c56 : Nat) (n57 : Int) (n58 : Int) (n59 : Int) (q60 : Bool) (b61 : Nat) (o62 : Nat) (W99 : World) : Prop :=
  lU64 W99 b61 o62 fun n201 =>
  bit_Get.C n201 n59 W99 fun q202 W203 =>
  cond (!q202)
  (cond (decide (n58 < (10 : Int)))
  (drP W203 fun W204 =>
  lL W204 b61 (o62 + 1) fun a205 l206 c207 =>
  lU64 W204 b61 o62 fun n208 =>
  (slices_Clone_int_int.C a205 l206 c207 W204 fun a209 l210 c211 W212 =>
  cellsAre W212 b61 o62 [(.int .u64 n208)] ∧
  (bit_Rank.C n208 n59 W212 fun n213 W214 =>
  alP W214 #[(.int .i64 n57)] 3 fun r215 W216 =>
  slices_Insert_int_int.C a209 l210 c211 n213 (some ⟨r215, 0, none⟩) 1 1 W216 fun a217 l218 c219 W220 =>
  stP W220 b61 (o62 + 1) (.slice a217 l218 c219) fun W221 =>
  lU64 W221 b61 o62 fun n222 =>
  bit_Set.C n222 n59 W221 fun n223 W224 =>
  stP W224 b61 o62 (.int .u64 n223) fun W225 =>
  trie_Trie_Insert.T3 next45 p51 n52 a54 l55 c56 n58 q60 b61 o62 W225) ∧
  (alP W212 #[(.int .i64 n57)] 3 fun r226 W227 =>
  cellsAre W227 b61 o62 [(.int .u64 n208)] ∧
  bit_Rank.C n208 n59 W227 fun n228 W229 =>
  slices_Insert_int_int.C a209 l210 c211 n228 (some ⟨r226, 0, none⟩) 1 1 W229 fun a230 l231 c232 W233 =>
  stP W233 b61 (o62 + 1) (.slice a230 l231 c232) fun W234 =>
  lU64 W234 b61 o62 fun n235 =>
  bit_Set.C n235 n59 W234 fun n236 W237 =>
  stP W237 b61 o62 (.int .u64 n236) fun W238 =>
  trie_Trie_Insert.T3 next45 p51 n52 a54 l55 c56 n58 q60 b61 o62 W238)) ∧
  (alP W204 #[(.int .i64 n57)] 3 fun r239 W240 =>
  cellsAre W240 b61 o62 [(.int .u64 n208)] ∧
  cellsAre W240 b61 (o62 + 1) [(.slice a205 l206 c207)] ∧
  slices_Clone_int_int.C a205 l206 c207 W240 fun a241 l242 c243 W244 =>
  cellsAre W244 b61 o62 [(.int .u64 n208)] ∧
  bit_Rank.C n208 n59 W244 fun n245 W246 =>
  slices_Insert_int_int.C a241 l242 c243 n245 (some ⟨r239, 0, none⟩) 1 1 W246 fun a247 l248 c249 W250 =>
  stP W250 b61 (o62 + 1) (.slice a247 l248 c249) fun W251 =>
  lU64 W251 b61 o62 fun n252 =>
  bit_Set.C n252 n59 W251 fun n253 W254 =>
  stP W254 b61 o62 (.int .u64 n253) fun W255 =>
  trie_Trie_Insert.T3 next45 p51 n52 a54 l55 c56 n58 q60 b61 o62 W255))
  (lU64 W203 b61 o62 fun n256 =>
  bit_Set.C n256 n59 W203 fun n257 W258 =>
  stP W258 b61 o62 (.int .u64 n257) fun W259 =>
  trie_Trie_Insert.T3 next45 p51 n52 a54 l55 c56 n58 q60 b61 o62 W259))
  (trie_Trie_Insert.T3 next45 p51 n52 a54 l55 c56 n58 q60 b61 o62 W203)
def trie_Trie_Insert.B1 (K : Int → World → Prop) (p14 : Option Addr) (n15 : Int) (a27 : Option Addr) (l28 : Nat) (c29 : Nat) : (Int × Int) → World → ((Int × Int) → World → Prop) → Prop := fun s0 W46 next45 => match s0 with
 | (n43, n44) =>
  cond (decide (n44 ≥ (0 : Int)))
  (trie_at.C n15 n44 W46 fun n47 W48 =>
  alP W48 #[(.int .u64 (0 : Int)), (.slice none 0 0), (.int .i64 (0 : Int)), (.int .u64 (0 : Int)), (.int .u64 (0 : Int))] 327 fun r49 W50 =>
  cond (!(decide (n44 ≥ ((l28 : Nat) : Int))))
  (nn a27 fun b260 o261 =>
  0 ≤ n44 ∧ n44 < ((l28 : Nat) : Int) ∧
  lI64 W50 b260 (o261 + Int.toNat n44 * 1) fun n262 =>
  trie_Trie_see.C p14 n262 W50 fun n263 a264 l265 c266 n267 n268 n269 W270 =>
  stCs r49 0 [(.int .u64 n263), (.slice a264 l265 c266), (.int .i64 n267), (.int .u64 n268), (.int .u64 n269)] W270 fun W271 =>
  trie_Trie_Insert.T2 next45 p14 n15 a27 l28 c29 n43 n44 n47 (decide (n44 ≥ ((l28 : Nat) : Int))) r49 0 W271)
  (trie_Trie_Insert.T2 next45 p14 n15 a27 l28 c29 n43 n44 n47 (decide (n44 ≥ ((l28 : Nat) : Int))) r49 0 W50))
  (nn p14 fun b272 o273 =>
  stP W46 b272 (o273 + 2) (.int .i64 n43) fun W274 =>
  nn p14 fun b275 o276 =>
  lI64 W274 b275 (o276 + 3) fun n277 =>
  nn p14 fun b278 o279 =>
  stP W274 b278 (o279 + 3) (.int .i64 (w64 (n277 + (1 : Int)))) fun W280 =>
  K (0 : Int) W280)
def trie_Trie_Insert.T1 (K : Int → World → Prop) (p14 : Option Addr) (n15 : Int) (a27 : Option Addr) (l28 : Nat) (c29 : Nat) (n43 : Int) (n44 : Int) (w : World) : Prop := LoopT (trie_Trie_Insert.B1 K p14 n15 a27 l28 c29) (n43, n44) w
def trie_Trie_Insert.F (p1 : Option Addr) (n2 : Int) (w : World) (K : Int → World → Prop) : Prop :=
  cond (Option.isNone p1)
  (K (3 : Int) w)
  (trie_Trie_Has.C p1 n2 w fun q3 W4 =>
  cond q3
  (K (4 : Int) W4)
  (trie_Trie_path.C p1 n2 W4 fun a5 l6 c7 W8 =>
  nn p1 fun b9 o10 =>
  lP W8 b9 (o10 + 1) fun p11 =>
  pool_Pool_trie_node_Room.C p11 (w64 ((11 : Int) - ((l6 : Nat) : Int))) W8 fun q12 W13 =>
  cond (!q12)
  (K (5 : Int) W13)
  (trie_Trie_Insert.T1 K p1 n2 a5 l6 c7 (0 : Int) (10 : Int) W13)))
def trie_Trie_Insert.U0 (K : Int → World → Prop) (l : Nat) (fr : Fr) (w : World) : Prop :=
  match l with
 | 1 =>
  gP False (fr 0) fun p14 =>
  gU64 False (fr 1) fun n15 =>
  gL False (fr 5) fun a27 l28 c29 =>
  gI64 False (fr 6) fun n43 =>
  gI64 False (fr 7) fun n44 =>
  trie_Trie_Insert.T1 K p14 n15 a27 l28 c29 n43 n44 w
 | _ => False
def trie_Trie_Insert.ext1 (fr : Fr) : Option (Int × Int) :=
  gI64 none (fr 6) fun n43 =>
  gI64 none (fr 7) fun n44 =>
  some (n43, n44)
def trie_Trie_Insert.U1 (K : Int → World → Prop) (next45 : (Int × Int) → World → Prop) (l : Nat) (fr : Fr) (w : World) : Prop :=
  match l with
 | 2 =>
  gP False (fr 0) fun p51 =>
  gU64 False (fr 1) fun n52 =>
  gL False (fr 5) fun a54 l55 c56 =>
  gI64 False (fr 6) fun n57 =>
  gI64 False (fr 7) fun n58 =>
  gI64 False (fr 8) fun n59 =>
  gB False (fr 9) fun q60 =>
  gN False (fr 10) fun b61 o62 =>
  trie_Trie_Insert.T2 next45 p51 n52 a54 l55 c56 n57 n58 n59 q60 b61 o62 w
 | 3 =>
  gP False (fr 0) fun p100 =>
  gU64 False (fr 1) fun n101 =>
  gL False (fr 5) fun a103 l104 c105 =>
  gI64 False (fr 7) fun n107 =>
  gB False (fr 9) fun q109 =>
  gN False (fr 10) fun b110 o111 =>
  trie_Trie_Insert.T3 next45 p100 n101 a103 l104 c105 n107 q109 b110 o111 w
 | _ => False
theorem trie_Trie_Insert.U1_ok3 (K : Int → World → Prop) (next45 : (Int × Int) → World → Prop) (fr : Fr) (w : World) (h : trie_Trie_Insert.U1 K next45 3 fr w) : sh prog (trie_Trie_Insert.U1 K next45) (subAt [.R, .L, .B, .R, .R, .R, .R, .R] ((loopBody (subAt [.R, .R, .R, .R, .R, .R, .L, .R, .B] (bodyOf Tryz.f470))))) fr w (ctxAt prog (trie_Trie_Insert.U1 K next45) [.R, .L, .B, .R, .R, .R, .R, .R] ((loopBody (subAt [.R, .R, .R, .R, .R, .R, .L, .R, .B] (bodyOf Tryz.f470)))) (nextK trie_Trie_Insert.ext1 next45 (ctxAt prog (trie_Trie_Insert.U0 K) [.R, .R, .R, .R, .R, .R, .L, .R, .B] (bodyOf Tryz.f470) (retK prog Tryz.f470.results.toList (S_i64.R K))))) := by
  unfold trie_Trie_Insert.U1 at h
  simp only at h
  replace h := gP.outF h; obtain ⟨p100, e286, h⟩ := h
  replace h := gU64.outF h; obtain ⟨n101, e287, h⟩ := h
  replace h := gL.outF h; obtain ⟨a103, l104, c105, e288, h⟩ := h
  replace h := gI64.outF h; obtain ⟨n107, e289, h⟩ := h
  replace h := gB.outF h; obtain ⟨q109, e290, h⟩ := h
  replace h := gN.outF h; obtain ⟨b110, o111, e291, h⟩ := h
  refine at_frame [(0, (.pointer p100)), (1, (.int .u64 n101)), (5, (.slice a103 l104 c105)), (7, (.int .i64 n107)), (9, (.bool q109)), (10, (.pointer (some ⟨b110, o111, none⟩)))] (by intro p hp; simp only [List.mem_cons, List.not_mem_nil, or_false] at hp; rcases hp with rfl | rfl | rfl | rfl | rfl | rfl <;> assumption) (Q := fun fr => sh prog (trie_Trie_Insert.U1 K next45) (subAt [.R, .L, .B, .R, .R, .R, .R, .R] ((loopBody (subAt [.R, .R, .R, .R, .R, .R, .L, .R, .B] (bodyOf Tryz.f470))))) fr w (ctxAt prog (trie_Trie_Insert.U1 K next45) [.R, .L, .B, .R, .R, .R, .R, .R] ((loopBody (subAt [.R, .R, .R, .R, .R, .R, .L, .R, .B] (bodyOf Tryz.f470)))) (nextK trie_Trie_Insert.ext1 next45 (ctxAt prog (trie_Trie_Insert.U0 K) [.R, .R, .R, .R, .R, .R, .L, .R, .B] (bodyOf Tryz.f470) (retK prog Tryz.f470.results.toList (S_i64.R K)))))) ?_
  apply kc h; kernel_rfl
theorem trie_Trie_Insert.U1_ok2 (K : Int → World → Prop) (next45 : (Int × Int) → World → Prop) (fr : Fr) (w : World) (h : trie_Trie_Insert.U1 K next45 2 fr w) : sh prog (trie_Trie_Insert.U1 K next45) (subAt [.R, .L, .B, .R, .R, .R, .R] (cutAt 3 [.R, .L, .B, .R, .R, .R, .R, .R] ((loopBody (subAt [.R, .R, .R, .R, .R, .R, .L, .R, .B] (bodyOf Tryz.f470)))))) fr w (ctxAt prog (trie_Trie_Insert.U1 K next45) [.R, .L, .B, .R, .R, .R, .R] (cutAt 3 [.R, .L, .B, .R, .R, .R, .R, .R] ((loopBody (subAt [.R, .R, .R, .R, .R, .R, .L, .R, .B] (bodyOf Tryz.f470))))) (nextK trie_Trie_Insert.ext1 next45 (ctxAt prog (trie_Trie_Insert.U0 K) [.R, .R, .R, .R, .R, .R, .L, .R, .B] (bodyOf Tryz.f470) (retK prog Tryz.f470.results.toList (S_i64.R K))))) := by
  unfold trie_Trie_Insert.U1 at h
  simp only at h
  replace h := gP.outF h; obtain ⟨p51, e292, h⟩ := h
  replace h := gU64.outF h; obtain ⟨n52, e293, h⟩ := h
  replace h := gL.outF h; obtain ⟨a54, l55, c56, e294, h⟩ := h
  replace h := gI64.outF h; obtain ⟨n57, e295, h⟩ := h
  replace h := gI64.outF h; obtain ⟨n58, e296, h⟩ := h
  replace h := gI64.outF h; obtain ⟨n59, e297, h⟩ := h
  replace h := gB.outF h; obtain ⟨q60, e298, h⟩ := h
  replace h := gN.outF h; obtain ⟨b61, o62, e299, h⟩ := h
  refine at_frame [(0, (.pointer p51)), (1, (.int .u64 n52)), (5, (.slice a54 l55 c56)), (6, (.int .i64 n57)), (7, (.int .i64 n58)), (8, (.int .i64 n59)), (9, (.bool q60)), (10, (.pointer (some ⟨b61, o62, none⟩)))] (by intro p hp; simp only [List.mem_cons, List.not_mem_nil, or_false] at hp; rcases hp with rfl | rfl | rfl | rfl | rfl | rfl | rfl | rfl <;> assumption) (Q := fun fr => sh prog (trie_Trie_Insert.U1 K next45) (subAt [.R, .L, .B, .R, .R, .R, .R] (cutAt 3 [.R, .L, .B, .R, .R, .R, .R, .R] ((loopBody (subAt [.R, .R, .R, .R, .R, .R, .L, .R, .B] (bodyOf Tryz.f470)))))) fr w (ctxAt prog (trie_Trie_Insert.U1 K next45) [.R, .L, .B, .R, .R, .R, .R] (cutAt 3 [.R, .L, .B, .R, .R, .R, .R, .R] ((loopBody (subAt [.R, .R, .R, .R, .R, .R, .L, .R, .B] (bodyOf Tryz.f470))))) (nextK trie_Trie_Insert.ext1 next45 (ctxAt prog (trie_Trie_Insert.U0 K) [.R, .R, .R, .R, .R, .R, .L, .R, .B] (bodyOf Tryz.f470) (retK prog Tryz.f470.results.toList (S_i64.R K)))))) ?_
  apply kc h; kernel_rfl
theorem trie_Trie_Insert.U0_ok1 (K : Int → World → Prop) (fr : Fr) (w : World) (h : trie_Trie_Insert.U0 K 1 fr w) : sh prog (trie_Trie_Insert.U0 K) (subAt [.R, .R, .R, .R, .R, .R, .L, .R, .B] (bodyOf Tryz.f470)) fr w (ctxAt prog (trie_Trie_Insert.U0 K) [.R, .R, .R, .R, .R, .R, .L, .R, .B] (bodyOf Tryz.f470) (retK prog Tryz.f470.results.toList (S_i64.R K))) := by
  unfold trie_Trie_Insert.U0 at h
  simp only at h
  replace h := gP.outF h; obtain ⟨p14, e281, h⟩ := h
  replace h := gU64.outF h; obtain ⟨n15, e282, h⟩ := h
  replace h := gL.outF h; obtain ⟨a27, l28, c29, e283, h⟩ := h
  replace h := gI64.outF h; obtain ⟨n43, e284, h⟩ := h
  replace h := gI64.outF h; obtain ⟨n44, e285, h⟩ := h
  refine kc (A := LoopP (sh prog (trie_Trie_Insert.U0 K) (loopBody (subAt [.R, .R, .R, .R, .R, .R, .L, .R, .B] (bodyOf Tryz.f470)))) fr w (ctxAt prog (trie_Trie_Insert.U0 K) [.R, .R, .R, .R, .R, .R, .L, .R, .B] (bodyOf Tryz.f470) (retK prog Tryz.f470.results.toList (S_i64.R K)))) ?_ (by kernel_rfl)
  refine loop_typed (B := trie_Trie_Insert.B1 K p14 n15 a27 l28 c29) trie_Trie_Insert.ext1 (s := (n43, n44)) (by unfold trie_Trie_Insert.ext1; simp only [e284, e285]; rfl) h ?_
  clear h
  clear e284
  clear e285
  intro s0 fr1 w1 next45 hs hk h
  unfold trie_Trie_Insert.ext1 at hs
  replace hs := noN (gI64.out (d := none) (x := _) hs); obtain ⟨n43a, e300, hs⟩ := hs
  replace hs := noN (gI64.out (d := none) (x := _) hs); obtain ⟨n44a, e301, hs⟩ := hs
  replace hs := Option.some.inj hs; subst hs
  have e302 : fr1 0 = (.pointer p14) := (hk 0 (by kernel_rfl)).trans e281
  have e303 : fr1 1 = (.int .u64 n15) := (hk 1 (by kernel_rfl)).trans e282
  have e304 : fr1 5 = (.slice a27 l28 c29) := (hk 5 (by kernel_rfl)).trans e283
  refine at_frame [(6, (.int .i64 n43a)), (7, (.int .i64 n44a)), (0, (.pointer p14)), (1, (.int .u64 n15)), (5, (.slice a27 l28 c29))] (by intro p hp; simp only [List.mem_cons, List.not_mem_nil, or_false] at hp; rcases hp with rfl | rfl | rfl | rfl | rfl <;> assumption) (Q := fun fr => sh prog (trie_Trie_Insert.U0 K) (loopBody (subAt [.R, .R, .R, .R, .R, .R, .L, .R, .B] (bodyOf Tryz.f470))) fr w1 (nextK trie_Trie_Insert.ext1 next45 (ctxAt prog (trie_Trie_Insert.U0 K) [.R, .R, .R, .R, .R, .R, .L, .R, .B] (bodyOf Tryz.f470) (retK prog Tryz.f470.results.toList (S_i64.R K))))) ?_
  refine sh_anyCut (cut := trie_Trie_Insert.U1 K next45) (by kernel_rfl) ?_
  refine sh_cutAt (p := [.R, .L, .B, .R, .R, .R, .R, .R]) (l := 3) ?_ (trie_Trie_Insert.U1_ok3 K next45)
  refine sh_cutAt (p := [.R, .L, .B, .R, .R, .R, .R]) (l := 2) ?_ (trie_Trie_Insert.U1_ok2 K next45)
  apply kc h; kernel_rfl
theorem trie_Trie_Insert.ok {p1 : Option Addr} {n2 : Int} {w : World} {K : Int → World → Prop} (h : trie_Trie_Insert.F p1 n2 w K) : trie_Trie_Insert.C p1 n2 w K := by
  refine CallsV.mono (callsV_of_sh prog.mixed prog.noNum (args := [(.pointer p1), (.int .u64 n2)]) Tryz.func470 (c := bodyOf Tryz.f470) (by kernel_rfl) (by kernel_rfl) (by kernel_rfl) (R := S_i64.R K) ?_) fun v w1 h => S_i64.out h
  refine sh_anyCut (cut := trie_Trie_Insert.U0 K) (by kernel_rfl) ?_
  refine sh_cutAt (p := [.R, .R, .R, .R, .R, .R, .L, .R, .B]) (l := 1) ?_ (trie_Trie_Insert.U0_ok1 K)
  apply kc h; kernel_rfl

def trie_Trie_Len.F (p1 : Option Addr) (w : World) (K : Int → World → Prop) : Prop :=
  cond (Option.isNone p1)
  (K (0 : Int) w)
  (nn p1 fun b2 o3 =>
  lI64 w b2 (o3 + 3) fun n4 =>
  K n4 w)
theorem trie_Trie_Len.ok {p1 : Option Addr} {w : World} {K : Int → World → Prop} (h : trie_Trie_Len.F p1 w K) : trie_Trie_Len.C p1 w K := by
  refine CallsV.mono (callsV_of_sh prog.mixed prog.noNum (args := [(.pointer p1)]) Tryz.func471 (c := bodyOf Tryz.f471) (by kernel_rfl) (by kernel_rfl) (by kernel_rfl) (R := S_i64.R K) ?_) fun v w1 h => S_i64.out h
  apply kc h; kernel_rfl

def trie_Trie_Next.T3 (K : Int → Bool → World → Prop) (p82 : Option Addr) (b86 : Nat) (o87 : Nat) (n90 : Int) (W154 : World) : Prop :=
  drP W154 fun W155 =>
  lAu64_l_i64_u64_u64 W155 b86 o87 fun n156 a157 l158 c159 n160 n161 n162 =>
  lU64 W155 b86 o87 fun n163 =>
  (bit_Next.C n163 (w64 (n90 + (1 : Int))) W155 fun n164 W165 =>
  cellsAre W165 b86 o87 [(.int .u64 n156), (.slice a157 l158 c159), (.int .i64 n160), (.int .u64 n161), (.int .u64 n162)] ∧
  (trie_Trie_kid.C p82 n156 a157 l158 c159 n160 n161 n162 n164 W165 fun n166 n167 a168 l169 c170 n171 n172 n173 q174 W175 =>
  alP W175 #[(.int .u64 (0 : Int)), (.slice none 0 0), (.int .i64 (0 : Int)), (.int .u64 (0 : Int)), (.int .u64 (0 : Int))] 327 fun r176 W177 =>
  stCs r176 0 [(.int .u64 n167), (.slice a168 l169 c170), (.int .i64 n171), (.int .u64 n172), (.int .u64 n173)] W177 fun W178 =>
  lU64 W178 r176 3 fun n179 =>
  K n179 true W178) ∧
  (alP W165 #[(.int .u64 (0 : Int)), (.slice none 0 0), (.int .i64 (0 : Int)), (.int .u64 (0 : Int)), (.int .u64 (0 : Int))] 327 fun r180 W181 =>
  cellsAre W181 b86 o87 [(.int .u64 n156), (.slice a157 l158 c159), (.int .i64 n160), (.int .u64 n161), (.int .u64 n162)] ∧
  trie_Trie_kid.C p82 n156 a157 l158 c159 n160 n161 n162 n164 W181 fun n182 n183 a184 l185 c186 n187 n188 n189 q190 W191 =>
  stCs r180 0 [(.int .u64 n183), (.slice a184 l185 c186), (.int .i64 n187), (.int .u64 n188), (.int .u64 n189)] W191 fun W192 =>
  lU64 W192 r180 3 fun n193 =>
  K n193 true W192)) ∧
  (alP W155 #[(.int .u64 (0 : Int)), (.slice none 0 0), (.int .i64 (0 : Int)), (.int .u64 (0 : Int)), (.int .u64 (0 : Int))] 327 fun r194 W195 =>
  cellsAre W195 b86 o87 [(.int .u64 n163)] ∧
  cellsAre W195 b86 o87 [(.int .u64 n156), (.slice a157 l158 c159), (.int .i64 n160), (.int .u64 n161), (.int .u64 n162)] ∧
  bit_Next.C n163 (w64 (n90 + (1 : Int))) W195 fun n196 W197 =>
  cellsAre W197 b86 o87 [(.int .u64 n156), (.slice a157 l158 c159), (.int .i64 n160), (.int .u64 n161), (.int .u64 n162)] ∧
  trie_Trie_kid.C p82 n156 a157 l158 c159 n160 n161 n162 n196 W197 fun n198 n199 a200 l201 c202 n203 n204 n205 q206 W207 =>
  stCs r194 0 [(.int .u64 n199), (.slice a200 l201 c202), (.int .i64 n203), (.int .u64 n204), (.int .u64 n205)] W207 fun W208 =>
  lU64 W208 r194 3 fun n209 =>
  K n209 true W208)
def trie_Trie_Next.B2 (K : Int → Bool → World → Prop) (p37 : Option Addr) (n38 : Int) (b41 : Nat) (o42 : Nat) : Int → World → ((Int) → World → Prop) → Prop := fun s0 W74 next73 => match s0 with
 | n72 =>
  lU64 W74 b41 (o42 + 3) fun n75 =>
  cond (decide (n38 ≤ n75))
  (lU64 W74 b41 (o42 + 3) fun n76 =>
  K n76 true W74)
  (trie_at.C n38 n72 W74 fun n77 W78 =>
  cond (n72 == (10 : Int))
  (lU64 W78 b41 o42 fun n79 =>
  bit_Next.C n79 n77 W78 fun n80 W81 =>
  K (bOr .u64 (bAndNot .u64 n38 (63 : Int)) (wu64 n80)) true W81)
  (lAu64_l_i64_u64_u64 W78 b41 o42 fun n210 a211 l212 c213 n214 n215 n216 =>
  trie_Trie_kid.C p37 n210 a211 l212 c213 n214 n215 n216 n77 W78 fun n217 n218 a219 l220 c221 n222 n223 n224 q225 W226 =>
  alP W226 #[(.int .u64 (0 : Int)), (.slice none 0 0), (.int .i64 (0 : Int)), (.int .u64 (0 : Int)), (.int .u64 (0 : Int))] 327 fun r227 W228 =>
  stCs r227 0 [(.int .u64 n218), (.slice a219 l220 c221), (.int .i64 n222), (.int .u64 n223), (.int .u64 n224)] W228 fun W229 =>
  cond q225
  (lU64 W229 r227 4 fun n230 =>
  cond (decide (n38 ≤ n230))
  (lAu64_l_i64_u64_u64 W229 r227 0 fun n231 a232 l233 c234 n235 n236 n237 =>
  stCs b41 o42 [(.int .u64 n231), (.slice a232 l233 c234), (.int .i64 n235), (.int .u64 n236), (.int .u64 n237)] W229 fun W238 =>
  next73 (w64 (n72 + (1 : Int))) W238)
  (trie_Trie_Next.T3 K p37 b41 o42 n77 W229))
  (trie_Trie_Next.T3 K p37 b41 o42 n77 W229)))
def trie_Trie_Next.T2 (K : Int → Bool → World → Prop) (p37 : Option Addr) (n38 : Int) (b41 : Nat) (o42 : Nat) (n72 : Int) (w : World) : Prop := LoopT (trie_Trie_Next.B2 K p37 n38 b41 o42) n72 w
def trie_Trie_Next.T1 (K : Int → Bool → World → Prop) (p5 : Option Addr) (n6 : Int) (b9 : Nat) (o10 : Nat) (W35 : World) : Prop :=
  lU64 W35 b9 (o10 + 4) fun n36 =>
  cond (decide (n6 > n36))
  (K (0 : Int) false W35)
  (trie_Trie_Next.T2 K p5 n6 b9 o10 (0 : Int) W35)
def trie_Trie_Next.F (p1 : Option Addr) (n2 : Int) (w : World) (K : Int → Bool → World → Prop) : Prop :=
  trie_Trie_start.C p1 w fun q3 W4 =>
  cond (!q3)
  (K (0 : Int) false W4)
  (drP W4 fun W239 =>
  nn p1 fun b240 o241 =>
  lP W239 b240 (o241 + 1) fun p242 =>
  nn p1 fun b243 o244 =>
  lI64 W239 b243 (o244 + 2) fun n245 =>
  (pool_Pool_trie_node_At.C p242 n245 W239 fun n246 a247 l248 c249 n250 n251 n252 q253 W254 =>
  alP W254 #[(.int .u64 (0 : Int)), (.slice none 0 0), (.int .i64 (0 : Int)), (.int .u64 (0 : Int)), (.int .u64 (0 : Int))] 327 fun r255 W256 =>
  stCs r255 0 [(.int .u64 n246), (.slice a247 l248 c249), (.int .i64 n250), (.int .u64 n251), (.int .u64 n252)] W256 fun W257 =>
  trie_Trie_Next.T1 K p1 n2 r255 0 W257) ∧
  (alP W239 #[(.int .u64 (0 : Int)), (.slice none 0 0), (.int .i64 (0 : Int)), (.int .u64 (0 : Int)), (.int .u64 (0 : Int))] 327 fun r258 W259 =>
  cellsAre W259 b243 (o244 + 2) [(.int .i64 n245)] ∧
  cellsAre W259 b240 (o241 + 1) [(.pointer p242)] ∧
  pool_Pool_trie_node_At.C p242 n245 W259 fun n260 a261 l262 c263 n264 n265 n266 q267 W268 =>
  stCs r258 0 [(.int .u64 n260), (.slice a261 l262 c263), (.int .i64 n264), (.int .u64 n265), (.int .u64 n266)] W268 fun W269 =>
  trie_Trie_Next.T1 K p1 n2 r258 0 W269))
def trie_Trie_Next.U0 (K : Int → Bool → World → Prop) (l : Nat) (fr : Fr) (w : World) : Prop :=
  match l with
 | 1 =>
  gP False (fr 0) fun p5 =>
  gU64 False (fr 1) fun n6 =>
  gN False (fr 6) fun b9 o10 =>
  trie_Trie_Next.T1 K p5 n6 b9 o10 w
 | 2 =>
  gP False (fr 0) fun p37 =>
  gU64 False (fr 1) fun n38 =>
  gN False (fr 6) fun b41 o42 =>
  gI64 False (fr 8) fun n72 =>
  trie_Trie_Next.T2 K p37 n38 b41 o42 n72 w
 | _ => False
def trie_Trie_Next.ext2 (fr : Fr) : Option (Int) :=
  gI64 none (fr 8) fun n72 =>
  some n72
def trie_Trie_Next.U2 (K : Int → Bool → World → Prop) (next73 : Int → World → Prop) (l : Nat) (fr : Fr) (w : World) : Prop :=
  match l with
 | 3 =>
  gP False (fr 0) fun p82 =>
  gN False (fr 6) fun b86 o87 =>
  gI64 False (fr 9) fun n90 =>
  trie_Trie_Next.T3 K p82 b86 o87 n90 w
 | _ => False
theorem trie_Trie_Next.U2_ok3 (K : Int → Bool → World → Prop) (next73 : Int → World → Prop) (fr : Fr) (w : World) (h : trie_Trie_Next.U2 K next73 3 fr w) : sh prog (trie_Trie_Next.U2 K next73) (subAt [.L, .B, .R, .R, .R, .R] ((loopBody (subAt [.R, .R, .R, .R, .R, .B] (bodyOf Tryz.f475))))) fr w (ctxAt prog (trie_Trie_Next.U2 K next73) [.L, .B, .R, .R, .R, .R] ((loopBody (subAt [.R, .R, .R, .R, .R, .B] (bodyOf Tryz.f475)))) (nextK trie_Trie_Next.ext2 next73 (ctxAt prog (trie_Trie_Next.U0 K) [.R, .R, .R, .R, .R, .B] (bodyOf Tryz.f475) (retK prog Tryz.f475.results.toList (S_u64_b.R K))))) := by
  unfold trie_Trie_Next.U2 at h
  simp only at h
  replace h := gP.outF h; obtain ⟨p82, e274, h⟩ := h
  replace h := gN.outF h; obtain ⟨b86, o87, e275, h⟩ := h
  replace h := gI64.outF h; obtain ⟨n90, e276, h⟩ := h
  refine at_frame [(0, (.pointer p82)), (6, (.pointer (some ⟨b86, o87, none⟩))), (9, (.int .i64 n90))] (by intro p hp; simp only [List.mem_cons, List.not_mem_nil, or_false] at hp; rcases hp with rfl | rfl | rfl <;> assumption) (Q := fun fr => sh prog (trie_Trie_Next.U2 K next73) (subAt [.L, .B, .R, .R, .R, .R] ((loopBody (subAt [.R, .R, .R, .R, .R, .B] (bodyOf Tryz.f475))))) fr w (ctxAt prog (trie_Trie_Next.U2 K next73) [.L, .B, .R, .R, .R, .R] ((loopBody (subAt [.R, .R, .R, .R, .R, .B] (bodyOf Tryz.f475)))) (nextK trie_Trie_Next.ext2 next73 (ctxAt prog (trie_Trie_Next.U0 K) [.R, .R, .R, .R, .R, .B] (bodyOf Tryz.f475) (retK prog Tryz.f475.results.toList (S_u64_b.R K)))))) ?_
  apply kc h; kernel_rfl
theorem trie_Trie_Next.U0_ok2 (K : Int → Bool → World → Prop) (fr : Fr) (w : World) (h : trie_Trie_Next.U0 K 2 fr w) : sh prog (trie_Trie_Next.U0 K) (subAt [.R, .R, .R, .R, .R, .B] (bodyOf Tryz.f475)) fr w (ctxAt prog (trie_Trie_Next.U0 K) [.R, .R, .R, .R, .R, .B] (bodyOf Tryz.f475) (retK prog Tryz.f475.results.toList (S_u64_b.R K))) := by
  unfold trie_Trie_Next.U0 at h
  simp only at h
  replace h := gP.outF h; obtain ⟨p37, e270, h⟩ := h
  replace h := gU64.outF h; obtain ⟨n38, e271, h⟩ := h
  replace h := gN.outF h; obtain ⟨b41, o42, e272, h⟩ := h
  replace h := gI64.outF h; obtain ⟨n72, e273, h⟩ := h
  refine kc (A := LoopP (sh prog (trie_Trie_Next.U0 K) (loopBody (subAt [.R, .R, .R, .R, .R, .B] (bodyOf Tryz.f475)))) fr w (ctxAt prog (trie_Trie_Next.U0 K) [.R, .R, .R, .R, .R, .B] (bodyOf Tryz.f475) (retK prog Tryz.f475.results.toList (S_u64_b.R K)))) ?_ (by kernel_rfl)
  refine loop_typed (B := trie_Trie_Next.B2 K p37 n38 b41 o42) trie_Trie_Next.ext2 (s := n72) (by unfold trie_Trie_Next.ext2; simp only [e273]; rfl) h ?_
  clear h
  clear e273
  intro s0 fr1 w1 next73 hs hk h
  unfold trie_Trie_Next.ext2 at hs
  replace hs := noN (gI64.out (d := none) (x := _) hs); obtain ⟨n72a, e277, hs⟩ := hs
  replace hs := Option.some.inj hs; subst hs
  have e278 : fr1 0 = (.pointer p37) := (hk 0 (by kernel_rfl)).trans e270
  have e279 : fr1 1 = (.int .u64 n38) := (hk 1 (by kernel_rfl)).trans e271
  have e280 : fr1 6 = (.pointer (some ⟨b41, o42, none⟩)) := (hk 6 (by kernel_rfl)).trans e272
  refine at_frame [(8, (.int .i64 n72a)), (0, (.pointer p37)), (1, (.int .u64 n38)), (6, (.pointer (some ⟨b41, o42, none⟩)))] (by intro p hp; simp only [List.mem_cons, List.not_mem_nil, or_false] at hp; rcases hp with rfl | rfl | rfl | rfl <;> assumption) (Q := fun fr => sh prog (trie_Trie_Next.U0 K) (loopBody (subAt [.R, .R, .R, .R, .R, .B] (bodyOf Tryz.f475))) fr w1 (nextK trie_Trie_Next.ext2 next73 (ctxAt prog (trie_Trie_Next.U0 K) [.R, .R, .R, .R, .R, .B] (bodyOf Tryz.f475) (retK prog Tryz.f475.results.toList (S_u64_b.R K))))) ?_
  refine sh_anyCut (cut := trie_Trie_Next.U2 K next73) (by kernel_rfl) ?_
  refine sh_cutAt (p := [.L, .B, .R, .R, .R, .R]) (l := 3) ?_ (trie_Trie_Next.U2_ok3 K next73)
  apply kc h; kernel_rfl
theorem trie_Trie_Next.U0_ok1 (K : Int → Bool → World → Prop) (fr : Fr) (w : World) (h : trie_Trie_Next.U0 K 1 fr w) : sh prog (trie_Trie_Next.U0 K) (subAt [.R, .R, .R] (cutAt 2 [.R, .R, .R, .R, .R, .B] (bodyOf Tryz.f475))) fr w (ctxAt prog (trie_Trie_Next.U0 K) [.R, .R, .R] (cutAt 2 [.R, .R, .R, .R, .R, .B] (bodyOf Tryz.f475)) (retK prog Tryz.f475.results.toList (S_u64_b.R K))) := by
  unfold trie_Trie_Next.U0 at h
  simp only at h
  replace h := gP.outF h; obtain ⟨p5, e281, h⟩ := h
  replace h := gU64.outF h; obtain ⟨n6, e282, h⟩ := h
  replace h := gN.outF h; obtain ⟨b9, o10, e283, h⟩ := h
  refine at_frame [(0, (.pointer p5)), (1, (.int .u64 n6)), (6, (.pointer (some ⟨b9, o10, none⟩)))] (by intro p hp; simp only [List.mem_cons, List.not_mem_nil, or_false] at hp; rcases hp with rfl | rfl | rfl <;> assumption) (Q := fun fr => sh prog (trie_Trie_Next.U0 K) (subAt [.R, .R, .R] (cutAt 2 [.R, .R, .R, .R, .R, .B] (bodyOf Tryz.f475))) fr w (ctxAt prog (trie_Trie_Next.U0 K) [.R, .R, .R] (cutAt 2 [.R, .R, .R, .R, .R, .B] (bodyOf Tryz.f475)) (retK prog Tryz.f475.results.toList (S_u64_b.R K)))) ?_
  apply kc h; kernel_rfl
theorem trie_Trie_Next.ok {p1 : Option Addr} {n2 : Int} {w : World} {K : Int → Bool → World → Prop} (h : trie_Trie_Next.F p1 n2 w K) : trie_Trie_Next.C p1 n2 w K := by
  refine CallsV.mono (callsV_of_sh prog.mixed prog.noNum (args := [(.pointer p1), (.int .u64 n2)]) Tryz.func475 (c := bodyOf Tryz.f475) (by kernel_rfl) (by kernel_rfl) (by kernel_rfl) (R := S_u64_b.R K) ?_) fun v w1 h => S_u64_b.out h
  refine sh_anyCut (cut := trie_Trie_Next.U0 K) (by kernel_rfl) ?_
  refine sh_cutAt (p := [.R, .R, .R, .R, .R, .B]) (l := 2) ?_ (trie_Trie_Next.U0_ok2 K)
  refine sh_cutAt (p := [.R, .R, .R]) (l := 1) ?_ (trie_Trie_Next.U0_ok1 K)
  apply kc h; kernel_rfl

def trie_Trie_path.T3 (K : Option Addr → Nat → Nat → World → Prop) (next107 : (Option Addr × Nat × Nat × Int) → World → Prop) (a114 : Option Addr) (l115 : Nat) (c116 : Nat) (b117 : Nat) (o118 : Nat) (n121 : Int) (b122 : Nat) (o123 : Nat) (q124 : Bool) (n161 : Int) (W184 : World) : Prop :=
  cond (!q124)
  (K a114 l115 c116 W184)
  (drP W184 fun W185 =>
  lAu64_l_i64_u64_u64 W185 b122 o123 fun n186 a187 l188 c189 n190 n191 n192 =>
  alP W185 #[(.int .i64 n121)] 3 fun r193 W194 =>
  cellsAre W194 b122 o123 [(.int .u64 n186), (.slice a187 l188 c189), (.int .i64 n190), (.int .u64 n191), (.int .u64 n192)] ∧
  AppV prog #[22, 22] 22 (.slice a114 l115 c116) (.slice (some ⟨r193, 0, none⟩) 1 1) W194 fun x195 W196 =>
  ∃ (a197 : Option Addr), ∃ (l198 : Nat), ∃ (c199 : Nat), x195 = (.slice a197 l198 c199) ∧
  cellsAre W196 b122 o123 [(.int .u64 n186), (.slice a187 l188 c189), (.int .i64 n190), (.int .u64 n191), (.int .u64 n192)] ∧
  stCs b117 o118 [(.int .u64 n186), (.slice a187 l188 c189), (.int .i64 n190), (.int .u64 n191), (.int .u64 n192)] W196 fun W200 =>
  next107 (a197, l198, c199, (w64 (n161 + (1 : Int)))) W200)
def trie_Trie_path.B2 (K : Option Addr → Nat → Nat → World → Prop) (p59 : Option Addr) (n60 : Int) (b67 : Nat) (o68 : Nat) : (Option Addr × Nat × Nat × Int) → World → ((Option Addr × Nat × Nat × Int) → World → Prop) → Prop := fun s0 W108 next107 => match s0 with
 | (a64, l65, c66, n106) =>
  cond (decide (n106 < (10 : Int)))
  (drP W108 fun W201 =>
  lAu64_l_i64_u64_u64 W201 b67 o68 fun n202 a203 l204 c205 n206 n207 n208 =>
  (trie_at.C n60 n106 W201 fun n209 W210 =>
  cellsAre W210 b67 o68 [(.int .u64 n202), (.slice a203 l204 c205), (.int .i64 n206), (.int .u64 n207), (.int .u64 n208)] ∧
  (trie_Trie_kid.C p59 n202 a203 l204 c205 n206 n207 n208 n209 W210 fun n211 n212 a213 l214 c215 n216 n217 n218 q219 W220 =>
  alP W220 #[(.int .u64 (0 : Int)), (.slice none 0 0), (.int .i64 (0 : Int)), (.int .u64 (0 : Int)), (.int .u64 (0 : Int))] 327 fun r221 W222 =>
  stCs r221 0 [(.int .u64 n212), (.slice a213 l214 c215), (.int .i64 n216), (.int .u64 n217), (.int .u64 n218)] W222 fun W223 =>
  trie_Trie_path.T3 K next107 a64 l65 c66 b67 o68 n211 r221 0 q219 n106 W223) ∧
  (alP W210 #[(.int .u64 (0 : Int)), (.slice none 0 0), (.int .i64 (0 : Int)), (.int .u64 (0 : Int)), (.int .u64 (0 : Int))] 327 fun r224 W225 =>
  cellsAre W225 b67 o68 [(.int .u64 n202), (.slice a203 l204 c205), (.int .i64 n206), (.int .u64 n207), (.int .u64 n208)] ∧
  trie_Trie_kid.C p59 n202 a203 l204 c205 n206 n207 n208 n209 W225 fun n226 n227 a228 l229 c230 n231 n232 n233 q234 W235 =>
  stCs r224 0 [(.int .u64 n227), (.slice a228 l229 c230), (.int .i64 n231), (.int .u64 n232), (.int .u64 n233)] W235 fun W236 =>
  trie_Trie_path.T3 K next107 a64 l65 c66 b67 o68 n226 r224 0 q234 n106 W236)) ∧
  (alP W201 #[(.int .u64 (0 : Int)), (.slice none 0 0), (.int .i64 (0 : Int)), (.int .u64 (0 : Int)), (.int .u64 (0 : Int))] 327 fun r237 W238 =>
  cellsAre W238 b67 o68 [(.int .u64 n202), (.slice a203 l204 c205), (.int .i64 n206), (.int .u64 n207), (.int .u64 n208)] ∧
  trie_at.C n60 n106 W238 fun n239 W240 =>
  cellsAre W240 b67 o68 [(.int .u64 n202), (.slice a203 l204 c205), (.int .i64 n206), (.int .u64 n207), (.int .u64 n208)] ∧
  trie_Trie_kid.C p59 n202 a203 l204 c205 n206 n207 n208 n239 W240 fun n241 n242 a243 l244 c245 n246 n247 n248 q249 W250 =>
  stCs r237 0 [(.int .u64 n242), (.slice a243 l244 c245), (.int .i64 n246), (.int .u64 n247), (.int .u64 n248)] W250 fun W251 =>
  trie_Trie_path.T3 K next107 a64 l65 c66 b67 o68 n241 r237 0 q249 n106 W251))
  (K a64 l65 c66 W108)
def trie_Trie_path.T2 (K : Option Addr → Nat → Nat → World → Prop) (p59 : Option Addr) (n60 : Int) (a64 : Option Addr) (l65 : Nat) (c66 : Nat) (b67 : Nat) (o68 : Nat) (n106 : Int) (w : World) : Prop := LoopT (trie_Trie_path.B2 K p59 n60 b67 o68) (a64, l65, c66, n106) w
def trie_Trie_path.T1 (K : Option Addr → Nat → Nat → World → Prop) (p11 : Option Addr) (n12 : Int) (a16 : Option Addr) (l17 : Nat) (c18 : Nat) (b19 : Nat) (o20 : Nat) (W58 : World) : Prop :=
  trie_Trie_path.T2 K p11 n12 a16 l17 c18 b19 o20 (0 : Int) W58
def trie_Trie_path.F (p1 : Option Addr) (n2 : Int) (w : World) (K : Option Addr → Nat → Nat → World → Prop) : Prop :=
  nn p1 fun b3 o4 =>
  lI64 w b3 (o4 + 3) fun n5 =>
  cond (n5 == (0 : Int))
  (K none 0 0 w)
  (nn p1 fun b6 o7 =>
  lI64 w b6 (o7 + 2) fun n8 =>
  alP w #[(.int .i64 n8)] 3 fun r9 W10 =>
  drP W10 fun W252 =>
  nn p1 fun b253 o254 =>
  lP W252 b253 (o254 + 1) fun p255 =>
  nn p1 fun b256 o257 =>
  lI64 W252 b256 (o257 + 2) fun n258 =>
  (pool_Pool_trie_node_At.C p255 n258 W252 fun n259 a260 l261 c262 n263 n264 n265 q266 W267 =>
  alP W267 #[(.int .u64 (0 : Int)), (.slice none 0 0), (.int .i64 (0 : Int)), (.int .u64 (0 : Int)), (.int .u64 (0 : Int))] 327 fun r268 W269 =>
  stCs r268 0 [(.int .u64 n259), (.slice a260 l261 c262), (.int .i64 n263), (.int .u64 n264), (.int .u64 n265)] W269 fun W270 =>
  trie_Trie_path.T1 K p1 n2 (some ⟨r9, 0, none⟩) 1 1 r268 0 W270) ∧
  (alP W252 #[(.int .u64 (0 : Int)), (.slice none 0 0), (.int .i64 (0 : Int)), (.int .u64 (0 : Int)), (.int .u64 (0 : Int))] 327 fun r271 W272 =>
  cellsAre W272 b256 (o257 + 2) [(.int .i64 n258)] ∧
  cellsAre W272 b253 (o254 + 1) [(.pointer p255)] ∧
  pool_Pool_trie_node_At.C p255 n258 W272 fun n273 a274 l275 c276 n277 n278 n279 q280 W281 =>
  stCs r271 0 [(.int .u64 n273), (.slice a274 l275 c276), (.int .i64 n277), (.int .u64 n278), (.int .u64 n279)] W281 fun W282 =>
  trie_Trie_path.T1 K p1 n2 (some ⟨r9, 0, none⟩) 1 1 r271 0 W282))
def trie_Trie_path.U0 (K : Option Addr → Nat → Nat → World → Prop) (l : Nat) (fr : Fr) (w : World) : Prop :=
  match l with
 | 1 =>
  gP False (fr 0) fun p11 =>
  gU64 False (fr 1) fun n12 =>
  gL False (fr 5) fun a16 l17 c18 =>
  gN False (fr 6) fun b19 o20 =>
  trie_Trie_path.T1 K p11 n12 a16 l17 c18 b19 o20 w
 | 2 =>
  gP False (fr 0) fun p59 =>
  gU64 False (fr 1) fun n60 =>
  gL False (fr 5) fun a64 l65 c66 =>
  gN False (fr 6) fun b67 o68 =>
  gI64 False (fr 34) fun n106 =>
  trie_Trie_path.T2 K p59 n60 a64 l65 c66 b67 o68 n106 w
 | _ => False
def trie_Trie_path.ext2 (fr : Fr) : Option (Option Addr × Nat × Nat × Int) :=
  gL none (fr 5) fun a64 l65 c66 =>
  gI64 none (fr 34) fun n106 =>
  some (a64, l65, c66, n106)
def trie_Trie_path.U2 (K : Option Addr → Nat → Nat → World → Prop) (next107 : (Option Addr × Nat × Nat × Int) → World → Prop) (l : Nat) (fr : Fr) (w : World) : Prop :=
  match l with
 | 3 =>
  gL False (fr 5) fun a114 l115 c116 =>
  gN False (fr 6) fun b117 o118 =>
  gI64 False (fr 9) fun n121 =>
  gN False (fr 10) fun b122 o123 =>
  gB False (fr 11) fun q124 =>
  gI64 False (fr 34) fun n161 =>
  trie_Trie_path.T3 K next107 a114 l115 c116 b117 o118 n121 b122 o123 q124 n161 w
 | _ => False
theorem trie_Trie_path.U2_ok3 (K : Option Addr → Nat → Nat → World → Prop) (next107 : (Option Addr × Nat × Nat × Int) → World → Prop) (fr : Fr) (w : World) (h : trie_Trie_path.U2 K next107 3 fr w) : sh prog (trie_Trie_path.U2 K next107) (subAt [.R, .R, .L, .B, .R, .R] ((loopBody (subAt [.R, .R, .R, .R, .L, .R, .B] (bodyOf Tryz.f482))))) fr w (ctxAt prog (trie_Trie_path.U2 K next107) [.R, .R, .L, .B, .R, .R] ((loopBody (subAt [.R, .R, .R, .R, .L, .R, .B] (bodyOf Tryz.f482)))) (nextK trie_Trie_path.ext2 next107 (ctxAt prog (trie_Trie_path.U0 K) [.R, .R, .R, .R, .L, .R, .B] (bodyOf Tryz.f482) (retK prog Tryz.f482.results.toList (S_l.R K))))) := by
  unfold trie_Trie_path.U2 at h
  simp only at h
  replace h := gL.outF h; obtain ⟨a114, l115, c116, e288, h⟩ := h
  replace h := gN.outF h; obtain ⟨b117, o118, e289, h⟩ := h
  replace h := gI64.outF h; obtain ⟨n121, e290, h⟩ := h
  replace h := gN.outF h; obtain ⟨b122, o123, e291, h⟩ := h
  replace h := gB.outF h; obtain ⟨q124, e292, h⟩ := h
  replace h := gI64.outF h; obtain ⟨n161, e293, h⟩ := h
  refine at_frame [(5, (.slice a114 l115 c116)), (6, (.pointer (some ⟨b117, o118, none⟩))), (9, (.int .i64 n121)), (10, (.pointer (some ⟨b122, o123, none⟩))), (11, (.bool q124)), (34, (.int .i64 n161))] (by intro p hp; simp only [List.mem_cons, List.not_mem_nil, or_false] at hp; rcases hp with rfl | rfl | rfl | rfl | rfl | rfl <;> assumption) (Q := fun fr => sh prog (trie_Trie_path.U2 K next107) (subAt [.R, .R, .L, .B, .R, .R] ((loopBody (subAt [.R, .R, .R, .R, .L, .R, .B] (bodyOf Tryz.f482))))) fr w (ctxAt prog (trie_Trie_path.U2 K next107) [.R, .R, .L, .B, .R, .R] ((loopBody (subAt [.R, .R, .R, .R, .L, .R, .B] (bodyOf Tryz.f482)))) (nextK trie_Trie_path.ext2 next107 (ctxAt prog (trie_Trie_path.U0 K) [.R, .R, .R, .R, .L, .R, .B] (bodyOf Tryz.f482) (retK prog Tryz.f482.results.toList (S_l.R K)))))) ?_
  apply kc h; kernel_rfl
theorem trie_Trie_path.U0_ok2 (K : Option Addr → Nat → Nat → World → Prop) (fr : Fr) (w : World) (h : trie_Trie_path.U0 K 2 fr w) : sh prog (trie_Trie_path.U0 K) (subAt [.R, .R, .R, .R, .L, .R, .B] (bodyOf Tryz.f482)) fr w (ctxAt prog (trie_Trie_path.U0 K) [.R, .R, .R, .R, .L, .R, .B] (bodyOf Tryz.f482) (retK prog Tryz.f482.results.toList (S_l.R K))) := by
  unfold trie_Trie_path.U0 at h
  simp only at h
  replace h := gP.outF h; obtain ⟨p59, e283, h⟩ := h
  replace h := gU64.outF h; obtain ⟨n60, e284, h⟩ := h
  replace h := gL.outF h; obtain ⟨a64, l65, c66, e285, h⟩ := h
  replace h := gN.outF h; obtain ⟨b67, o68, e286, h⟩ := h
  replace h := gI64.outF h; obtain ⟨n106, e287, h⟩ := h
  refine kc (A := LoopP (sh prog (trie_Trie_path.U0 K) (loopBody (subAt [.R, .R, .R, .R, .L, .R, .B] (bodyOf Tryz.f482)))) fr w (ctxAt prog (trie_Trie_path.U0 K) [.R, .R, .R, .R, .L, .R, .B] (bodyOf Tryz.f482) (retK prog Tryz.f482.results.toList (S_l.R K)))) ?_ (by kernel_rfl)
  refine loop_typed (B := trie_Trie_path.B2 K p59 n60 b67 o68) trie_Trie_path.ext2 (s := (a64, l65, c66, n106)) (by unfold trie_Trie_path.ext2; simp only [e285, e287]; rfl) h ?_
  clear h
  clear e285
  clear e287
  intro s0 fr1 w1 next107 hs hk h
  unfold trie_Trie_path.ext2 at hs
  replace hs := noN (gL.out (d := none) (x := _) hs); obtain ⟨a64a, l65a, c66a, e294, hs⟩ := hs
  replace hs := noN (gI64.out (d := none) (x := _) hs); obtain ⟨n106a, e295, hs⟩ := hs
  replace hs := Option.some.inj hs; subst hs
  have e296 : fr1 0 = (.pointer p59) := (hk 0 (by kernel_rfl)).trans e283
  have e297 : fr1 1 = (.int .u64 n60) := (hk 1 (by kernel_rfl)).trans e284
  have e298 : fr1 6 = (.pointer (some ⟨b67, o68, none⟩)) := (hk 6 (by kernel_rfl)).trans e286
  refine at_frame [(5, (.slice a64a l65a c66a)), (34, (.int .i64 n106a)), (0, (.pointer p59)), (1, (.int .u64 n60)), (6, (.pointer (some ⟨b67, o68, none⟩)))] (by intro p hp; simp only [List.mem_cons, List.not_mem_nil, or_false] at hp; rcases hp with rfl | rfl | rfl | rfl | rfl <;> assumption) (Q := fun fr => sh prog (trie_Trie_path.U0 K) (loopBody (subAt [.R, .R, .R, .R, .L, .R, .B] (bodyOf Tryz.f482))) fr w1 (nextK trie_Trie_path.ext2 next107 (ctxAt prog (trie_Trie_path.U0 K) [.R, .R, .R, .R, .L, .R, .B] (bodyOf Tryz.f482) (retK prog Tryz.f482.results.toList (S_l.R K))))) ?_
  refine sh_anyCut (cut := trie_Trie_path.U2 K next107) (by kernel_rfl) ?_
  refine sh_cutAt (p := [.R, .R, .L, .B, .R, .R]) (l := 3) ?_ (trie_Trie_path.U2_ok3 K next107)
  apply kc h; kernel_rfl
theorem trie_Trie_path.U0_ok1 (K : Option Addr → Nat → Nat → World → Prop) (fr : Fr) (w : World) (h : trie_Trie_path.U0 K 1 fr w) : sh prog (trie_Trie_path.U0 K) (subAt [.R, .R, .R, .R] (cutAt 2 [.R, .R, .R, .R, .L, .R, .B] (bodyOf Tryz.f482))) fr w (ctxAt prog (trie_Trie_path.U0 K) [.R, .R, .R, .R] (cutAt 2 [.R, .R, .R, .R, .L, .R, .B] (bodyOf Tryz.f482)) (retK prog Tryz.f482.results.toList (S_l.R K))) := by
  unfold trie_Trie_path.U0 at h
  simp only at h
  replace h := gP.outF h; obtain ⟨p11, e299, h⟩ := h
  replace h := gU64.outF h; obtain ⟨n12, e300, h⟩ := h
  replace h := gL.outF h; obtain ⟨a16, l17, c18, e301, h⟩ := h
  replace h := gN.outF h; obtain ⟨b19, o20, e302, h⟩ := h
  refine at_frame [(0, (.pointer p11)), (1, (.int .u64 n12)), (5, (.slice a16 l17 c18)), (6, (.pointer (some ⟨b19, o20, none⟩)))] (by intro p hp; simp only [List.mem_cons, List.not_mem_nil, or_false] at hp; rcases hp with rfl | rfl | rfl | rfl <;> assumption) (Q := fun fr => sh prog (trie_Trie_path.U0 K) (subAt [.R, .R, .R, .R] (cutAt 2 [.R, .R, .R, .R, .L, .R, .B] (bodyOf Tryz.f482))) fr w (ctxAt prog (trie_Trie_path.U0 K) [.R, .R, .R, .R] (cutAt 2 [.R, .R, .R, .R, .L, .R, .B] (bodyOf Tryz.f482)) (retK prog Tryz.f482.results.toList (S_l.R K)))) ?_
  apply kc h; kernel_rfl
theorem trie_Trie_path.ok {p1 : Option Addr} {n2 : Int} {w : World} {K : Option Addr → Nat → Nat → World → Prop} (h : trie_Trie_path.F p1 n2 w K) : trie_Trie_path.C p1 n2 w K := by
  refine CallsV.mono (callsV_of_sh prog.mixed prog.noNum (args := [(.pointer p1), (.int .u64 n2)]) Tryz.func482 (c := bodyOf Tryz.f482) (by kernel_rfl) (by kernel_rfl) (by kernel_rfl) (R := S_l.R K) ?_) fun v w1 h => S_l.out h
  refine sh_anyCut (cut := trie_Trie_path.U0 K) (by kernel_rfl) ?_
  refine sh_cutAt (p := [.R, .R, .R, .R, .L, .R, .B]) (l := 2) ?_ (trie_Trie_path.U0_ok2 K)
  refine sh_cutAt (p := [.R, .R, .R, .R]) (l := 1) ?_ (trie_Trie_path.U0_ok1 K)
  apply kc h; kernel_rfl

def trie_at.F (n1 : Int) (n2 : Int) (w : World) (K : Int → World → Prop) : Prop :=
  shP (w64 ((60 : Int) - (w64 ((6 : Int) * n2)))) fun m3 =>
  K (w64 (bAnd .u64 (shr .u64 n1 m3) (63 : Int))) w
theorem trie_at.ok {n1 : Int} {n2 : Int} {w : World} {K : Int → World → Prop} (h : trie_at.F n1 n2 w K) : trie_at.C n1 n2 w K := by
  refine CallsV.mono (callsV_of_sh prog.mixed prog.noNum (args := [(.int .u64 n1), (.int .i64 n2)]) Tryz.func484 (c := bodyOf Tryz.f484) (by kernel_rfl) (by kernel_rfl) (by kernel_rfl) (R := S_i64.R K) ?_) fun v w1 h => S_i64.out h
  apply kc h; kernel_rfl

def trie_Trie_start.F (p1 : Option Addr) (w : World) (K : Bool → World → Prop) : Prop :=
  cond (Option.isNone p1)
  (K false w)
  (nn p1 fun b2 o3 =>
  lP w b2 o3 fun p4 =>
  count_Meter_Start.C p4 w fun W5 =>
  nn p1 fun b6 o7 =>
  lI64 W5 b6 (o7 + 3) fun n8 =>
  K (decide (n8 > (0 : Int))) W5)
theorem trie_Trie_start.ok {p1 : Option Addr} {w : World} {K : Bool → World → Prop} (h : trie_Trie_start.F p1 w K) : trie_Trie_start.C p1 w K := by
  refine CallsV.mono (callsV_of_sh prog.mixed prog.noNum (args := [(.pointer p1)]) Tryz.func491 (c := bodyOf Tryz.f491) (by kernel_rfl) (by kernel_rfl) (by kernel_rfl) (R := S_b.R K) ?_) fun v w1 h => S_b.out h
  apply kc h; kernel_rfl

def trie_grown.F (n1 : Int) (a2 : Option Addr) (l3 : Nat) (c4 : Nat) (n5 : Int) (n6 : Int) (n7 : Int) (n8 : Int) (w : World) (K : Int → Option Addr → Nat → Nat → Int → Int → Int → World → Prop) : Prop :=
  alP w #[(.int .u64 n1), (.slice a2 l3 c4), (.int .i64 n5), (.int .u64 n6), (.int .u64 n7)] 327 fun r9 W10 =>
  alP W10 #[(.int .u64 (0 : Int)), (.slice none 0 0), (.int .i64 (0 : Int)), (.int .u64 (0 : Int)), (.int .u64 (0 : Int))] 327 fun r11 W12 =>
  lI64 W12 r9 2 fun n13 =>
  cond (n13 == (0 : Int))
  (stP W12 r9 3 (.int .u64 n8) fun W14 =>
  stP W14 r9 4 (.int .u64 n8) fun W15 =>
  lI64 W15 r9 2 fun n16 =>
  stP W15 r9 2 (.int .i64 (w64 (n16 + (1 : Int)))) fun W17 =>
  lU64 W17 r9 3 fun n18 =>
  lU64 W17 r9 4 fun n19 =>
  stP W17 r9 3 (.int .u64 (mnI n18 n8)) fun W20 =>
  stP W20 r9 4 (.int .u64 (mxI n19 n8)) fun W21 =>
  lAu64_l_i64_u64_u64 W21 r9 0 fun n22 a23 l24 c25 n26 n27 n28 =>
  stCs r11 0 [(.int .u64 n22), (.slice a23 l24 c25), (.int .i64 n26), (.int .u64 n27), (.int .u64 n28)] W21 fun W29 =>
  lAu64_l_i64_u64_u64 W29 r11 0 fun n30 a31 l32 c33 n34 n35 n36 =>
  K n30 a31 l32 c33 n34 n35 n36 W29)
  (lI64 W12 r9 2 fun n37 =>
  stP W12 r9 2 (.int .i64 (w64 (n37 + (1 : Int)))) fun W38 =>
  lU64 W38 r9 3 fun n39 =>
  lU64 W38 r9 4 fun n40 =>
  stP W38 r9 3 (.int .u64 (mnI n39 n8)) fun W41 =>
  stP W41 r9 4 (.int .u64 (mxI n40 n8)) fun W42 =>
  lAu64_l_i64_u64_u64 W42 r9 0 fun n43 a44 l45 c46 n47 n48 n49 =>
  stCs r11 0 [(.int .u64 n43), (.slice a44 l45 c46), (.int .i64 n47), (.int .u64 n48), (.int .u64 n49)] W42 fun W50 =>
  lAu64_l_i64_u64_u64 W50 r11 0 fun n51 a52 l53 c54 n55 n56 n57 =>
  K n51 a52 l53 c54 n55 n56 n57 W50)
theorem trie_grown.ok {n1 : Int} {a2 : Option Addr} {l3 : Nat} {c4 : Nat} {n5 : Int} {n6 : Int} {n7 : Int} {n8 : Int} {w : World} {K : Int → Option Addr → Nat → Nat → Int → Int → Int → World → Prop} (h : trie_grown.F n1 a2 l3 c4 n5 n6 n7 n8 w K) : trie_grown.C n1 a2 l3 c4 n5 n6 n7 n8 w K := by
  refine CallsV.mono (callsV_of_sh prog.mixed prog.noNum (args := [(.agg #[(.int .u64 n1), (.slice a2 l3 c4), (.int .i64 n5), (.int .u64 n6), (.int .u64 n7)]), (.int .u64 n8)]) Tryz.func495 (c := bodyOf Tryz.f495) (by kernel_rfl) (by kernel_rfl) (by kernel_rfl) (R := S_au64_l_i64_u64_u64z.R K) ?_) fun v w1 h => S_au64_l_i64_u64_u64z.out h
  apply kc h; kernel_rfl

def box_Box_Has.F (p1 : Option Addr) (n2 : Int) (w : World) (K : Bool → World → Prop) : Prop :=
  box_Box_kept.C p1 w fun x3 W4 =>
  InvV prog x3 "stepstone/box.has" #[(.int .u16 n2)] W4 fun x5 W6 =>
  ∃ (q7 : Bool), x5 = (.bool q7) ∧
  K q7 W6
theorem box_Box_Has.ok {p1 : Option Addr} {n2 : Int} {w : World} {K : Bool → World → Prop} (h : box_Box_Has.F p1 n2 w K) : box_Box_Has.C p1 n2 w K := by
  refine CallsV.mono (callsV_of_sh prog.mixed prog.noNum (args := [(.pointer p1), (.int .u16 n2)]) Tryz.func536 (c := bodyOf Tryz.f536) (by kernel_rfl) (by kernel_rfl) (by kernel_rfl) (R := S_b.R K) ?_) fun v w1 h => S_b.out h
  apply kc h; kernel_rfl

def box_Box_Add.T1 (K : Bool → World → Prop) (p3 : Option Addr) (n4 : Int) (q6 : Bool) (W11 : World) : Prop :=
  cond q6
  (K false W11)
  (box_Box_Len.C p3 W11 fun n12 W13 =>
  cond (decide (n12 < (4096 : Int)))
  (nn p3 fun b14 o15 =>
  lR W13 b14 o15 fun x16 =>
  InvV prog x16 "stepstone/box.list" #[] W13 fun x17 W18 =>
  ∃ (a19 : Option Addr), ∃ (l20 : Nat), ∃ (c21 : Nat), x17 = (.slice a19 l20 c21) ∧
  array_Add.C a19 l20 c21 n4 W18 fun a22 l23 c24 q25 W26 =>
  nn p3 fun b27 o28 =>
  stP W26 b27 o28 (.iface 554 (.agg #[(.slice a22 l23 c24)])) fun W29 =>
  K true W29)
  (box_Box_bitmap.C p3 W13 fun p30 W31 =>
  bitmap_Bitmap_Add.C p30 n4 W31 fun q32 W33 =>
  nn p3 fun b34 o35 =>
  stP W33 b34 o35 (.iface 558 (.agg #[(.pointer p30)])) fun W36 =>
  K true W36))
def box_Box_Add.F (p1 : Option Addr) (n2 : Int) (w : World) (K : Bool → World → Prop) : Prop :=
  cond (Option.isNone p1)
  (box_Box_Add.T1 K p1 n2 true w)
  (box_Box_Has.C p1 n2 w fun q37 W38 =>
  box_Box_Add.T1 K p1 n2 q37 W38)
def box_Box_Add.U0 (K : Bool → World → Prop) (l : Nat) (fr : Fr) (w : World) : Prop :=
  match l with
 | 1 =>
  gP False (fr 0) fun p3 =>
  gU16 False (fr 1) fun n4 =>
  gB False (fr 19) fun q6 =>
  box_Box_Add.T1 K p3 n4 q6 w
 | _ => False
theorem box_Box_Add.U0_ok1 (K : Bool → World → Prop) (fr : Fr) (w : World) (h : box_Box_Add.U0 K 1 fr w) : sh prog (box_Box_Add.U0 K) (subAt [.R, .L, .B, .R] (bodyOf Tryz.f537)) fr w (ctxAt prog (box_Box_Add.U0 K) [.R, .L, .B, .R] (bodyOf Tryz.f537) (retK prog Tryz.f537.results.toList (S_b.R K))) := by
  unfold box_Box_Add.U0 at h
  simp only at h
  replace h := gP.outF h; obtain ⟨p3, e39, h⟩ := h
  replace h := gU16.outF h; obtain ⟨n4, e40, h⟩ := h
  replace h := gB.outF h; obtain ⟨q6, e41, h⟩ := h
  refine at_frame [(0, (.pointer p3)), (1, (.int .u16 n4)), (19, (.bool q6))] (by intro p hp; simp only [List.mem_cons, List.not_mem_nil, or_false] at hp; rcases hp with rfl | rfl | rfl <;> assumption) (Q := fun fr => sh prog (box_Box_Add.U0 K) (subAt [.R, .L, .B, .R] (bodyOf Tryz.f537)) fr w (ctxAt prog (box_Box_Add.U0 K) [.R, .L, .B, .R] (bodyOf Tryz.f537) (retK prog Tryz.f537.results.toList (S_b.R K)))) ?_
  apply kc h; kernel_rfl
theorem box_Box_Add.ok {p1 : Option Addr} {n2 : Int} {w : World} {K : Bool → World → Prop} (h : box_Box_Add.F p1 n2 w K) : box_Box_Add.C p1 n2 w K := by
  refine CallsV.mono (callsV_of_sh prog.mixed prog.noNum (args := [(.pointer p1), (.int .u16 n2)]) Tryz.func537 (c := bodyOf Tryz.f537) (by kernel_rfl) (by kernel_rfl) (by kernel_rfl) (R := S_b.R K) ?_) fun v w1 h => S_b.out h
  refine sh_anyCut (cut := box_Box_Add.U0 K) (by kernel_rfl) ?_
  refine sh_cutAt (p := [.R, .L, .B, .R]) (l := 1) ?_ (box_Box_Add.U0_ok1 K)
  apply kc h; kernel_rfl

def box_Box_Len.F (p1 : Option Addr) (w : World) (K : Int → World → Prop) : Prop :=
  box_Box_kept.C p1 w fun x2 W3 =>
  InvV prog x2 "stepstone/box.size" #[] W3 fun x4 W5 =>
  ∃ (n6 : Int), x4 = (.int .i64 n6) ∧
  K n6 W5
theorem box_Box_Len.ok {p1 : Option Addr} {w : World} {K : Int → World → Prop} (h : box_Box_Len.F p1 w K) : box_Box_Len.C p1 w K := by
  refine CallsV.mono (callsV_of_sh prog.mixed prog.noNum (args := [(.pointer p1)]) Tryz.func538 (c := bodyOf Tryz.f538) (by kernel_rfl) (by kernel_rfl) (by kernel_rfl) (R := S_i64.R K) ?_) fun v w1 h => S_i64.out h
  apply kc h; kernel_rfl

def box_Box_Next.F (p1 : Option Addr) (n2 : Int) (w : World) (K : Int → Bool → World → Prop) : Prop :=
  box_Box_kept.C p1 w fun x3 W4 =>
  InvV prog x3 "stepstone/box.next" #[(.int .u16 n2)] W4 fun x5 W6 =>
  ∃ (n7 : Int), ∃ (q8 : Bool), x5 = (.tuple #[(.int .u16 n7), (.bool q8)]) ∧
  K n7 q8 W6
theorem box_Box_Next.ok {p1 : Option Addr} {n2 : Int} {w : World} {K : Int → Bool → World → Prop} (h : box_Box_Next.F p1 n2 w K) : box_Box_Next.C p1 n2 w K := by
  refine CallsV.mono (callsV_of_sh prog.mixed prog.noNum (args := [(.pointer p1), (.int .u16 n2)]) Tryz.func539 (c := bodyOf Tryz.f539) (by kernel_rfl) (by kernel_rfl) (by kernel_rfl) (R := S_u16_b.R K) ?_) fun v w1 h => S_u16_b.out h
  apply kc h; kernel_rfl

def box_Box_Prev.F (p1 : Option Addr) (n2 : Int) (w : World) (K : Int → Bool → World → Prop) : Prop :=
  box_Box_kept.C p1 w fun x3 W4 =>
  InvV prog x3 "stepstone/box.prev" #[(.int .u16 n2)] W4 fun x5 W6 =>
  ∃ (n7 : Int), ∃ (q8 : Bool), x5 = (.tuple #[(.int .u16 n7), (.bool q8)]) ∧
  K n7 q8 W6
theorem box_Box_Prev.ok {p1 : Option Addr} {n2 : Int} {w : World} {K : Int → Bool → World → Prop} (h : box_Box_Prev.F p1 n2 w K) : box_Box_Prev.C p1 n2 w K := by
  refine CallsV.mono (callsV_of_sh prog.mixed prog.noNum (args := [(.pointer p1), (.int .u16 n2)]) Tryz.func541 (c := bodyOf Tryz.f541) (by kernel_rfl) (by kernel_rfl) (by kernel_rfl) (R := S_u16_b.R K) ?_) fun v w1 h => S_u16_b.out h
  apply kc h; kernel_rfl

def box_Box_kept.F (p1 : Option Addr) (w : World) (K : Value → World → Prop) : Prop :=
  cond (Option.isNone p1)
  (K (.iface 554 (.agg #[(.slice none 0 0)])) w)
  (nn p1 fun b2 o3 =>
  lR w b2 o3 fun x4 =>
  K x4 w)
theorem box_Box_kept.ok {p1 : Option Addr} {w : World} {K : Value → World → Prop} (h : box_Box_kept.F p1 w K) : box_Box_kept.C p1 w K := by
  refine CallsV.mono (callsV_of_sh prog.mixed prog.noNum (args := [(.pointer p1)]) Tryz.func551 (c := bodyOf Tryz.f551) (by kernel_rfl) (by kernel_rfl) (by kernel_rfl) (R := S_r.R K) ?_) fun v w1 h => S_r.out h
  apply kc h; kernel_rfl

def box_New.F (w : World) (K : Option Addr → World → Prop) : Prop :=
  alP w #[(.iface 554 (.agg #[(.slice none 0 0)]))] 552 fun r1 W2 =>
  K (some ⟨r1, 0, none⟩) W2
theorem box_New.ok {w : World} {K : Option Addr → World → Prop} (h : box_New.F  w K) : box_New.C  w K := by
  refine CallsV.mono (callsV_of_sh prog.mixed prog.noNum (args := []) Tryz.func552 (c := bodyOf Tryz.f552) (by kernel_rfl) (by kernel_rfl) (by kernel_rfl) (R := S_p.R K) ?_) fun v w1 h => S_p.out h
  apply kc h; kernel_rfl

def array_Add.F (a1 : Option Addr) (l2 : Nat) (c3 : Nat) (n4 : Int) (w : World) (K : Option Addr → Nat → Nat → Bool → World → Prop) : Prop :=
  slices_BinarySearch_uint16_uint16.C a1 l2 c3 n4 w fun n5 q6 W7 =>
  cond q6
  (slices_Clone_uint16_uint16.C a1 l2 c3 W7 fun a8 l9 c10 W11 =>
  K a8 l9 c10 false W11)
  (drP W7 fun W12 =>
  0 ≤ n5 ∧ n5 ≤ ((c3 : Nat) : Int) ∧
  0 ≤ n5 ∧ n5 ≤ ((l2 : Nat) : Int) ∧
  alP W12 #[(.int .u16 n4)] 518 fun r13 W14 =>
  alP W14 #[(.slice (slA a1 c3 0 1) ((Int.toNat n5) - 0) (c3 - 0)), (.slice (some ⟨r13, 0, none⟩) 1 1), (.slice (slA a1 c3 (Int.toNat n5) 1) (l2 - (Int.toNat n5)) (c3 - (Int.toNat n5)))] 516 fun r15 W16 =>
  slices_Concat_uint16_uint16.C (some ⟨r15, 0, none⟩) 3 3 W16 fun a17 l18 c19 W20 =>
  K a17 l18 c19 true W20)
theorem array_Add.ok {a1 : Option Addr} {l2 : Nat} {c3 : Nat} {n4 : Int} {w : World} {K : Option Addr → Nat → Nat → Bool → World → Prop} (h : array_Add.F a1 l2 c3 n4 w K) : array_Add.C a1 l2 c3 n4 w K := by
  refine CallsV.mono (callsV_of_sh prog.mixed prog.noNum (args := [(.slice a1 l2 c3), (.int .u16 n4)]) Tryz.func558 (c := bodyOf Tryz.f558) (by kernel_rfl) (by kernel_rfl) (by kernel_rfl) (R := S_l_b.R K) ?_) fun v w1 h => S_l_b.out h
  apply kc h; kernel_rfl

def box_Box_Cost.F (p1 : Option Addr) (w : World) (K : Int → World → Prop) : Prop :=
  box_Box_kept.C p1 w fun x2 W3 =>
  InvV prog x2 "stepstone/box.cost" #[] W3 fun x4 W5 =>
  ∃ (n6 : Int), x4 = (.int .i64 n6) ∧
  K n6 W5
theorem box_Box_Cost.ok {p1 : Option Addr} {w : World} {K : Int → World → Prop} (h : box_Box_Cost.F p1 w K) : box_Box_Cost.C p1 w K := by
  refine CallsV.mono (callsV_of_sh prog.mixed prog.noNum (args := [(.pointer p1)]) Tryz.func569 (c := bodyOf Tryz.f569) (by kernel_rfl) (by kernel_rfl) (by kernel_rfl) (R := S_i64.R K) ?_) fun v w1 h => S_i64.out h
  apply kc h; kernel_rfl

def slices_BinarySearch_uint16_uint16.T1 (K : Int → Bool → World → Prop) (a5 : Option Addr) (l6 : Nat) (c7 : Nat) (n8 : Int) (n11 : Int) (n12 : Int) (W22 : World) : Prop :=
  cond (decide (n12 < n11))
  (nn a5 fun b23 o24 =>
  0 ≤ n12 ∧ n12 < ((l6 : Nat) : Int) ∧
  lU16 W22 b23 (o24 + Int.toNat n12 * 1) fun n25 =>
  cond (n25 == n8)
  (K n12 true W22)
  (nn a5 fun b26 o27 =>
  0 ≤ n12 ∧ n12 < ((l6 : Nat) : Int) ∧
  lU16 W22 b26 (o27 + Int.toNat n12 * 1) fun n28 =>
  slices_isNaN_uint16.C n28 W22 fun q29 W30 =>
  cond q29
  (slices_isNaN_uint16.C n8 W30 fun q31 W32 =>
  K n12 q31 W32)
  (K n12 false W30)))
  (K n12 false W22)
def slices_BinarySearch_uint16_uint16.B2 (K : Int → Bool → World → Prop) (a33 : Option Addr) (l34 : Nat) (c35 : Nat) (n36 : Int) (n43 : Int) : (Int × Int) → World → ((Int × Int) → World → Prop) → Prop := fun s0 W48 next47 => match s0 with
 | (n45, n46) =>
  cond (decide (n45 < n46))
  (nn a33 fun b49 o50 =>
  0 ≤ (w64 (shr .u64 (wu64 (w64 (n45 + n46))) 1)) ∧ (w64 (shr .u64 (wu64 (w64 (n45 + n46))) 1)) < ((l34 : Nat) : Int) ∧
  lU16 W48 b49 (o50 + Int.toNat (w64 (shr .u64 (wu64 (w64 (n45 + n46))) 1)) * 1) fun n51 =>
  cmp_Less_uint16.C n51 n36 W48 fun q52 W53 =>
  cond q52
  (next47 ((w64 ((w64 (shr .u64 (wu64 (w64 (n45 + n46))) 1)) + (1 : Int))), n46) W53)
  (next47 (n45, (w64 (shr .u64 (wu64 (w64 (n45 + n46))) 1))) W53))
  (slices_BinarySearch_uint16_uint16.T1 K a33 l34 c35 n36 n43 n45 W48)
def slices_BinarySearch_uint16_uint16.T2 (K : Int → Bool → World → Prop) (a33 : Option Addr) (l34 : Nat) (c35 : Nat) (n36 : Int) (n43 : Int) (n45 : Int) (n46 : Int) (w : World) : Prop := LoopT (slices_BinarySearch_uint16_uint16.B2 K a33 l34 c35 n36 n43) (n45, n46) w
def slices_BinarySearch_uint16_uint16.F (a1 : Option Addr) (l2 : Nat) (c3 : Nat) (n4 : Int) (w : World) (K : Int → Bool → World → Prop) : Prop :=
  slices_BinarySearch_uint16_uint16.T2 K a1 l2 c3 n4 ((l2 : Nat) : Int) (0 : Int) ((l2 : Nat) : Int) w
def slices_BinarySearch_uint16_uint16.U0 (K : Int → Bool → World → Prop) (l : Nat) (fr : Fr) (w : World) : Prop :=
  match l with
 | 1 =>
  gL False (fr 0) fun a5 l6 c7 =>
  gU16 False (fr 1) fun n8 =>
  gI64 False (fr 6) fun n11 =>
  gI64 False (fr 7) fun n12 =>
  slices_BinarySearch_uint16_uint16.T1 K a5 l6 c7 n8 n11 n12 w
 | 2 =>
  gL False (fr 0) fun a33 l34 c35 =>
  gU16 False (fr 1) fun n36 =>
  gI64 False (fr 6) fun n43 =>
  gI64 False (fr 7) fun n45 =>
  gI64 False (fr 8) fun n46 =>
  slices_BinarySearch_uint16_uint16.T2 K a33 l34 c35 n36 n43 n45 n46 w
 | _ => False
def slices_BinarySearch_uint16_uint16.ext2 (fr : Fr) : Option (Int × Int) :=
  gI64 none (fr 7) fun n45 =>
  gI64 none (fr 8) fun n46 =>
  some (n45, n46)
theorem slices_BinarySearch_uint16_uint16.U0_ok1 (K : Int → Bool → World → Prop) (fr : Fr) (w : World) (h : slices_BinarySearch_uint16_uint16.U0 K 1 fr w) : sh prog (slices_BinarySearch_uint16_uint16.U0 K) (subAt [.R, .R, .R, .R] (bodyOf Tryz.f574)) fr w (ctxAt prog (slices_BinarySearch_uint16_uint16.U0 K) [.R, .R, .R, .R] (bodyOf Tryz.f574) (retK prog Tryz.f574.results.toList (S_i64_b.R K))) := by
  unfold slices_BinarySearch_uint16_uint16.U0 at h
  simp only at h
  replace h := gL.outF h; obtain ⟨a5, l6, c7, e54, h⟩ := h
  replace h := gU16.outF h; obtain ⟨n8, e55, h⟩ := h
  replace h := gI64.outF h; obtain ⟨n11, e56, h⟩ := h
  replace h := gI64.outF h; obtain ⟨n12, e57, h⟩ := h
  refine at_frame [(0, (.slice a5 l6 c7)), (1, (.int .u16 n8)), (6, (.int .i64 n11)), (7, (.int .i64 n12))] (by intro p hp; simp only [List.mem_cons, List.not_mem_nil, or_false] at hp; rcases hp with rfl | rfl | rfl | rfl <;> assumption) (Q := fun fr => sh prog (slices_BinarySearch_uint16_uint16.U0 K) (subAt [.R, .R, .R, .R] (bodyOf Tryz.f574)) fr w (ctxAt prog (slices_BinarySearch_uint16_uint16.U0 K) [.R, .R, .R, .R] (bodyOf Tryz.f574) (retK prog Tryz.f574.results.toList (S_i64_b.R K)))) ?_
  apply kc h; kernel_rfl
theorem slices_BinarySearch_uint16_uint16.U0_ok2 (K : Int → Bool → World → Prop) (fr : Fr) (w : World) (h : slices_BinarySearch_uint16_uint16.U0 K 2 fr w) : sh prog (slices_BinarySearch_uint16_uint16.U0 K) (subAt [.R, .R, .R, .L, .B] (cutAt 1 [.R, .R, .R, .R] (bodyOf Tryz.f574))) fr w (ctxAt prog (slices_BinarySearch_uint16_uint16.U0 K) [.R, .R, .R, .L, .B] (cutAt 1 [.R, .R, .R, .R] (bodyOf Tryz.f574)) (retK prog Tryz.f574.results.toList (S_i64_b.R K))) := by
  unfold slices_BinarySearch_uint16_uint16.U0 at h
  simp only at h
  replace h := gL.outF h; obtain ⟨a33, l34, c35, e58, h⟩ := h
  replace h := gU16.outF h; obtain ⟨n36, e59, h⟩ := h
  replace h := gI64.outF h; obtain ⟨n43, e60, h⟩ := h
  replace h := gI64.outF h; obtain ⟨n45, e61, h⟩ := h
  replace h := gI64.outF h; obtain ⟨n46, e62, h⟩ := h
  refine kc (A := LoopP (sh prog (slices_BinarySearch_uint16_uint16.U0 K) (loopBody (subAt [.R, .R, .R, .L, .B] (cutAt 1 [.R, .R, .R, .R] (bodyOf Tryz.f574))))) fr w (ctxAt prog (slices_BinarySearch_uint16_uint16.U0 K) [.R, .R, .R, .L, .B] (cutAt 1 [.R, .R, .R, .R] (bodyOf Tryz.f574)) (retK prog Tryz.f574.results.toList (S_i64_b.R K)))) ?_ (by kernel_rfl)
  refine loop_typed (B := slices_BinarySearch_uint16_uint16.B2 K a33 l34 c35 n36 n43) slices_BinarySearch_uint16_uint16.ext2 (s := (n45, n46)) (by unfold slices_BinarySearch_uint16_uint16.ext2; simp only [e61, e62]; rfl) h ?_
  clear h
  clear e61
  clear e62
  intro s0 fr1 w1 next47 hs hk h
  unfold slices_BinarySearch_uint16_uint16.ext2 at hs
  replace hs := noN (gI64.out (d := none) (x := _) hs); obtain ⟨n45a, e63, hs⟩ := hs
  replace hs := noN (gI64.out (d := none) (x := _) hs); obtain ⟨n46a, e64, hs⟩ := hs
  replace hs := Option.some.inj hs; subst hs
  have e65 : fr1 0 = (.slice a33 l34 c35) := (hk 0 (by kernel_rfl)).trans e58
  have e66 : fr1 1 = (.int .u16 n36) := (hk 1 (by kernel_rfl)).trans e59
  have e67 : fr1 6 = (.int .i64 n43) := (hk 6 (by kernel_rfl)).trans e60
  refine at_frame [(7, (.int .i64 n45a)), (8, (.int .i64 n46a)), (0, (.slice a33 l34 c35)), (1, (.int .u16 n36)), (6, (.int .i64 n43))] (by intro p hp; simp only [List.mem_cons, List.not_mem_nil, or_false] at hp; rcases hp with rfl | rfl | rfl | rfl | rfl <;> assumption) (Q := fun fr => sh prog (slices_BinarySearch_uint16_uint16.U0 K) (loopBody (subAt [.R, .R, .R, .L, .B] (cutAt 1 [.R, .R, .R, .R] (bodyOf Tryz.f574)))) fr w1 (nextK slices_BinarySearch_uint16_uint16.ext2 next47 (ctxAt prog (slices_BinarySearch_uint16_uint16.U0 K) [.R, .R, .R, .L, .B] (cutAt 1 [.R, .R, .R, .R] (bodyOf Tryz.f574)) (retK prog Tryz.f574.results.toList (S_i64_b.R K))))) ?_
  apply kc h; kernel_rfl
theorem slices_BinarySearch_uint16_uint16.ok {a1 : Option Addr} {l2 : Nat} {c3 : Nat} {n4 : Int} {w : World} {K : Int → Bool → World → Prop} (h : slices_BinarySearch_uint16_uint16.F a1 l2 c3 n4 w K) : slices_BinarySearch_uint16_uint16.C a1 l2 c3 n4 w K := by
  refine CallsV.mono (callsV_of_sh prog.mixed prog.noNum (args := [(.slice a1 l2 c3), (.int .u16 n4)]) Tryz.func574 (c := bodyOf Tryz.f574) (by kernel_rfl) (by kernel_rfl) (by kernel_rfl) (R := S_i64_b.R K) ?_) fun v w1 h => S_i64_b.out h
  refine sh_anyCut (cut := slices_BinarySearch_uint16_uint16.U0 K) (by kernel_rfl) ?_
  refine sh_cutAt (p := [.R, .R, .R, .R]) (l := 1) ?_ (slices_BinarySearch_uint16_uint16.U0_ok1 K)
  refine sh_cutAt (p := [.R, .R, .R, .L, .B]) (l := 2) ?_ (slices_BinarySearch_uint16_uint16.U0_ok2 K)
  apply kc h; kernel_rfl

def slices_Clone_uint16_uint16.F (a1 : Option Addr) (l2 : Nat) (c3 : Nat) (w : World) (K : Option Addr → Nat → Nat → World → Prop) : Prop :=
  cond (Option.isNone a1)
  (K none 0 0 w)
  (alP w #[] 518 fun r4 W5 =>
  AppV prog #[516, 516] 516 (.slice (some ⟨r4, 0, none⟩) 0 0) (.slice a1 l2 c3) W5 fun x6 W7 =>
  ∃ (a8 : Option Addr), ∃ (l9 : Nat), ∃ (c10 : Nat), x6 = (.slice a8 l9 c10) ∧
  K a8 l9 c10 W7)
theorem slices_Clone_uint16_uint16.ok {a1 : Option Addr} {l2 : Nat} {c3 : Nat} {w : World} {K : Option Addr → Nat → Nat → World → Prop} (h : slices_Clone_uint16_uint16.F a1 l2 c3 w K) : slices_Clone_uint16_uint16.C a1 l2 c3 w K := by
  refine CallsV.mono (callsV_of_sh prog.mixed prog.noNum (args := [(.slice a1 l2 c3)]) Tryz.func575 (c := bodyOf Tryz.f575) (by kernel_rfl) (by kernel_rfl) (by kernel_rfl) (R := S_l.R K) ?_) fun v w1 h => S_l.out h
  apply kc h; kernel_rfl

def slices_Concat_uint16_uint16.B2 (K : Option Addr → Nat → Nat → World → Prop) (a42 : Option Addr) (l43 : Nat) (c44 : Nat) (n45 : Int) : (Option Addr × Nat × Nat × Int) → World → ((Option Addr × Nat × Nat × Int) → World → Prop) → Prop := fun s0 W48 next47 => match s0 with
 | (a39, l40, c41, n46) =>
  cond (decide (n46 < n45))
  (nn a42 fun b49 o50 =>
  0 ≤ n46 ∧ n46 < ((l43 : Nat) : Int) ∧
  lL W48 b49 (o50 + Int.toNat n46 * 1) fun a51 l52 c53 =>
  AppV prog #[516, 516] 516 (.slice a39 l40 c41) (.slice a51 l52 c53) W48 fun x54 W55 =>
  ∃ (a56 : Option Addr), ∃ (l57 : Nat), ∃ (c58 : Nat), x54 = (.slice a56 l57 c58) ∧
  next47 (a56, l57, c58, (w64 (n46 + (1 : Int)))) W55)
  (K a39 l40 c41 W48)
def slices_Concat_uint16_uint16.T2 (K : Option Addr → Nat → Nat → World → Prop) (a39 : Option Addr) (l40 : Nat) (c41 : Nat) (a42 : Option Addr) (l43 : Nat) (c44 : Nat) (n45 : Int) (n46 : Int) (w : World) : Prop := LoopT (slices_Concat_uint16_uint16.B2 K a42 l43 c44 n45) (a39, l40, c41, n46) w
def slices_Concat_uint16_uint16.T1 (K : Option Addr → Nat → Nat → World → Prop) (a4 : Option Addr) (l5 : Nat) (c6 : Nat) (n10 : Int) (W17 : World) : Prop :=
  slices_Grow_uint16_uint16.C none 0 0 n10 W17 fun a18 l19 c20 W21 =>
  slices_Concat_uint16_uint16.T2 K a18 l19 c20 a4 l5 c6 ((l5 : Nat) : Int) (0 : Int) W21
def slices_Concat_uint16_uint16.B3 (K : Option Addr → Nat → Nat → World → Prop) (a59 : Option Addr) (l60 : Nat) (c61 : Nat) (a66 : Option Addr) (l67 : Nat) (c68 : Nat) (n69 : Int) : (Int × Int) → World → ((Int × Int) → World → Prop) → Prop := fun s0 W72 next71 => match s0 with
 | (n65, n70) =>
  cond (decide (n70 < n69))
  (nn a66 fun b73 o74 =>
  0 ≤ n70 ∧ n70 < ((l67 : Nat) : Int) ∧
  lL W72 b73 (o74 + Int.toNat n70 * 1) fun a75 l76 c77 =>
  cond (decide ((w64 (n65 + ((l76 : Nat) : Int))) < (0 : Int)))
  (False)
  (next71 ((w64 (n65 + ((l76 : Nat) : Int))), (w64 (n70 + (1 : Int)))) W72))
  (slices_Concat_uint16_uint16.T1 K a59 l60 c61 n65 W72)
def slices_Concat_uint16_uint16.T3 (K : Option Addr → Nat → Nat → World → Prop) (a59 : Option Addr) (l60 : Nat) (c61 : Nat) (n65 : Int) (a66 : Option Addr) (l67 : Nat) (c68 : Nat) (n69 : Int) (n70 : Int) (w : World) : Prop := LoopT (slices_Concat_uint16_uint16.B3 K a59 l60 c61 a66 l67 c68 n69) (n65, n70) w
def slices_Concat_uint16_uint16.F (a1 : Option Addr) (l2 : Nat) (c3 : Nat) (w : World) (K : Option Addr → Nat → Nat → World → Prop) : Prop :=
  slices_Concat_uint16_uint16.T3 K a1 l2 c3 (0 : Int) a1 l2 c3 ((l2 : Nat) : Int) (0 : Int) w
def slices_Concat_uint16_uint16.U0 (K : Option Addr → Nat → Nat → World → Prop) (l : Nat) (fr : Fr) (w : World) : Prop :=
  match l with
 | 1 =>
  gL False (fr 0) fun a4 l5 c6 =>
  gI64 False (fr 3) fun n10 =>
  slices_Concat_uint16_uint16.T1 K a4 l5 c6 n10 w
 | 2 =>
  gL False (fr 6) fun a39 l40 c41 =>
  gL False (fr 25) fun a42 l43 c44 =>
  gI64 False (fr 26) fun n45 =>
  gI64 False (fr 27) fun n46 =>
  slices_Concat_uint16_uint16.T2 K a39 l40 c41 a42 l43 c44 n45 n46 w
 | 3 =>
  gL False (fr 0) fun a59 l60 c61 =>
  gI64 False (fr 3) fun n65 =>
  gL False (fr 9) fun a66 l67 c68 =>
  gI64 False (fr 10) fun n69 =>
  gI64 False (fr 11) fun n70 =>
  slices_Concat_uint16_uint16.T3 K a59 l60 c61 n65 a66 l67 c68 n69 n70 w
 | _ => False
def slices_Concat_uint16_uint16.ext2 (fr : Fr) : Option (Option Addr × Nat × Nat × Int) :=
  gL none (fr 6) fun a39 l40 c41 =>
  gI64 none (fr 27) fun n46 =>
  some (a39, l40, c41, n46)
def slices_Concat_uint16_uint16.ext3 (fr : Fr) : Option (Int × Int) :=
  gI64 none (fr 3) fun n65 =>
  gI64 none (fr 11) fun n70 =>
  some (n65, n70)
theorem slices_Concat_uint16_uint16.U0_ok2 (K : Option Addr → Nat → Nat → World → Prop) (fr : Fr) (w : World) (h : slices_Concat_uint16_uint16.U0 K 2 fr w) : sh prog (slices_Concat_uint16_uint16.U0 K) (subAt [.R, .R, .R, .R, .L, .R, .B] (bodyOf Tryz.f576)) fr w (ctxAt prog (slices_Concat_uint16_uint16.U0 K) [.R, .R, .R, .R, .L, .R, .B] (bodyOf Tryz.f576) (retK prog Tryz.f576.results.toList (S_l.R K))) := by
  unfold slices_Concat_uint16_uint16.U0 at h
  simp only at h
  replace h := gL.outF h; obtain ⟨a39, l40, c41, e78, h⟩ := h
  replace h := gL.outF h; obtain ⟨a42, l43, c44, e79, h⟩ := h
  replace h := gI64.outF h; obtain ⟨n45, e80, h⟩ := h
  replace h := gI64.outF h; obtain ⟨n46, e81, h⟩ := h
  refine kc (A := LoopP (sh prog (slices_Concat_uint16_uint16.U0 K) (loopBody (subAt [.R, .R, .R, .R, .L, .R, .B] (bodyOf Tryz.f576)))) fr w (ctxAt prog (slices_Concat_uint16_uint16.U0 K) [.R, .R, .R, .R, .L, .R, .B] (bodyOf Tryz.f576) (retK prog Tryz.f576.results.toList (S_l.R K)))) ?_ (by kernel_rfl)
  refine loop_typed (B := slices_Concat_uint16_uint16.B2 K a42 l43 c44 n45) slices_Concat_uint16_uint16.ext2 (s := (a39, l40, c41, n46)) (by unfold slices_Concat_uint16_uint16.ext2; simp only [e78, e81]; rfl) h ?_
  clear h
  clear e78
  clear e81
  intro s0 fr1 w1 next47 hs hk h
  unfold slices_Concat_uint16_uint16.ext2 at hs
  replace hs := noN (gL.out (d := none) (x := _) hs); obtain ⟨a39a, l40a, c41a, e82, hs⟩ := hs
  replace hs := noN (gI64.out (d := none) (x := _) hs); obtain ⟨n46a, e83, hs⟩ := hs
  replace hs := Option.some.inj hs; subst hs
  have e84 : fr1 25 = (.slice a42 l43 c44) := (hk 25 (by kernel_rfl)).trans e79
  have e85 : fr1 26 = (.int .i64 n45) := (hk 26 (by kernel_rfl)).trans e80
  refine at_frame [(6, (.slice a39a l40a c41a)), (27, (.int .i64 n46a)), (25, (.slice a42 l43 c44)), (26, (.int .i64 n45))] (by intro p hp; simp only [List.mem_cons, List.not_mem_nil, or_false] at hp; rcases hp with rfl | rfl | rfl | rfl <;> assumption) (Q := fun fr => sh prog (slices_Concat_uint16_uint16.U0 K) (loopBody (subAt [.R, .R, .R, .R, .L, .R, .B] (bodyOf Tryz.f576))) fr w1 (nextK slices_Concat_uint16_uint16.ext2 next47 (ctxAt prog (slices_Concat_uint16_uint16.U0 K) [.R, .R, .R, .R, .L, .R, .B] (bodyOf Tryz.f576) (retK prog Tryz.f576.results.toList (S_l.R K))))) ?_
  apply kc h; kernel_rfl
theorem slices_Concat_uint16_uint16.U0_ok1 (K : Option Addr → Nat → Nat → World → Prop) (fr : Fr) (w : World) (h : slices_Concat_uint16_uint16.U0 K 1 fr w) : sh prog (slices_Concat_uint16_uint16.U0 K) (subAt [.R, .R, .R] (cutAt 2 [.R, .R, .R, .R, .L, .R, .B] (bodyOf Tryz.f576))) fr w (ctxAt prog (slices_Concat_uint16_uint16.U0 K) [.R, .R, .R] (cutAt 2 [.R, .R, .R, .R, .L, .R, .B] (bodyOf Tryz.f576)) (retK prog Tryz.f576.results.toList (S_l.R K))) := by
  unfold slices_Concat_uint16_uint16.U0 at h
  simp only at h
  replace h := gL.outF h; obtain ⟨a4, l5, c6, e86, h⟩ := h
  replace h := gI64.outF h; obtain ⟨n10, e87, h⟩ := h
  refine at_frame [(0, (.slice a4 l5 c6)), (3, (.int .i64 n10))] (by intro p hp; simp only [List.mem_cons, List.not_mem_nil, or_false] at hp; rcases hp with rfl | rfl <;> assumption) (Q := fun fr => sh prog (slices_Concat_uint16_uint16.U0 K) (subAt [.R, .R, .R] (cutAt 2 [.R, .R, .R, .R, .L, .R, .B] (bodyOf Tryz.f576))) fr w (ctxAt prog (slices_Concat_uint16_uint16.U0 K) [.R, .R, .R] (cutAt 2 [.R, .R, .R, .R, .L, .R, .B] (bodyOf Tryz.f576)) (retK prog Tryz.f576.results.toList (S_l.R K)))) ?_
  apply kc h; kernel_rfl
theorem slices_Concat_uint16_uint16.U0_ok3 (K : Option Addr → Nat → Nat → World → Prop) (fr : Fr) (w : World) (h : slices_Concat_uint16_uint16.U0 K 3 fr w) : sh prog (slices_Concat_uint16_uint16.U0 K) (subAt [.R, .R, .L, .R, .B] (cutAt 1 [.R, .R, .R] (cutAt 2 [.R, .R, .R, .R, .L, .R, .B] (bodyOf Tryz.f576)))) fr w (ctxAt prog (slices_Concat_uint16_uint16.U0 K) [.R, .R, .L, .R, .B] (cutAt 1 [.R, .R, .R] (cutAt 2 [.R, .R, .R, .R, .L, .R, .B] (bodyOf Tryz.f576))) (retK prog Tryz.f576.results.toList (S_l.R K))) := by
  unfold slices_Concat_uint16_uint16.U0 at h
  simp only at h
  replace h := gL.outF h; obtain ⟨a59, l60, c61, e88, h⟩ := h
  replace h := gI64.outF h; obtain ⟨n65, e89, h⟩ := h
  replace h := gL.outF h; obtain ⟨a66, l67, c68, e90, h⟩ := h
  replace h := gI64.outF h; obtain ⟨n69, e91, h⟩ := h
  replace h := gI64.outF h; obtain ⟨n70, e92, h⟩ := h
  refine kc (A := LoopP (sh prog (slices_Concat_uint16_uint16.U0 K) (loopBody (subAt [.R, .R, .L, .R, .B] (cutAt 1 [.R, .R, .R] (cutAt 2 [.R, .R, .R, .R, .L, .R, .B] (bodyOf Tryz.f576)))))) fr w (ctxAt prog (slices_Concat_uint16_uint16.U0 K) [.R, .R, .L, .R, .B] (cutAt 1 [.R, .R, .R] (cutAt 2 [.R, .R, .R, .R, .L, .R, .B] (bodyOf Tryz.f576))) (retK prog Tryz.f576.results.toList (S_l.R K)))) ?_ (by kernel_rfl)
  refine loop_typed (B := slices_Concat_uint16_uint16.B3 K a59 l60 c61 a66 l67 c68 n69) slices_Concat_uint16_uint16.ext3 (s := (n65, n70)) (by unfold slices_Concat_uint16_uint16.ext3; simp only [e89, e92]; rfl) h ?_
  clear h
  clear e89
  clear e92
  intro s0 fr1 w1 next71 hs hk h
  unfold slices_Concat_uint16_uint16.ext3 at hs
  replace hs := noN (gI64.out (d := none) (x := _) hs); obtain ⟨n65a, e93, hs⟩ := hs
  replace hs := noN (gI64.out (d := none) (x := _) hs); obtain ⟨n70a, e94, hs⟩ := hs
  replace hs := Option.some.inj hs; subst hs
  have e95 : fr1 0 = (.slice a59 l60 c61) := (hk 0 (by kernel_rfl)).trans e88
  have e96 : fr1 9 = (.slice a66 l67 c68) := (hk 9 (by kernel_rfl)).trans e90
  have e97 : fr1 10 = (.int .i64 n69) := (hk 10 (by kernel_rfl)).trans e91
  refine at_frame [(3, (.int .i64 n65a)), (11, (.int .i64 n70a)), (0, (.slice a59 l60 c61)), (9, (.slice a66 l67 c68)), (10, (.int .i64 n69))] (by intro p hp; simp only [List.mem_cons, List.not_mem_nil, or_false] at hp; rcases hp with rfl | rfl | rfl | rfl | rfl <;> assumption) (Q := fun fr => sh prog (slices_Concat_uint16_uint16.U0 K) (loopBody (subAt [.R, .R, .L, .R, .B] (cutAt 1 [.R, .R, .R] (cutAt 2 [.R, .R, .R, .R, .L, .R, .B] (bodyOf Tryz.f576))))) fr w1 (nextK slices_Concat_uint16_uint16.ext3 next71 (ctxAt prog (slices_Concat_uint16_uint16.U0 K) [.R, .R, .L, .R, .B] (cutAt 1 [.R, .R, .R] (cutAt 2 [.R, .R, .R, .R, .L, .R, .B] (bodyOf Tryz.f576))) (retK prog Tryz.f576.results.toList (S_l.R K))))) ?_
  apply kc h; kernel_rfl
theorem slices_Concat_uint16_uint16.ok {a1 : Option Addr} {l2 : Nat} {c3 : Nat} {w : World} {K : Option Addr → Nat → Nat → World → Prop} (h : slices_Concat_uint16_uint16.F a1 l2 c3 w K) : slices_Concat_uint16_uint16.C a1 l2 c3 w K := by
  refine CallsV.mono (callsV_of_sh prog.mixed prog.noNum (args := [(.slice a1 l2 c3)]) Tryz.func576 (c := bodyOf Tryz.f576) (by kernel_rfl) (by kernel_rfl) (by kernel_rfl) (R := S_l.R K) ?_) fun v w1 h => S_l.out h
  refine sh_anyCut (cut := slices_Concat_uint16_uint16.U0 K) (by kernel_rfl) ?_
  refine sh_cutAt (p := [.R, .R, .R, .R, .L, .R, .B]) (l := 2) ?_ (slices_Concat_uint16_uint16.U0_ok2 K)
  refine sh_cutAt (p := [.R, .R, .R]) (l := 1) ?_ (slices_Concat_uint16_uint16.U0_ok1 K)
  refine sh_cutAt (p := [.R, .R, .L, .R, .B]) (l := 3) ?_ (slices_Concat_uint16_uint16.U0_ok3 K)
  apply kc h; kernel_rfl

def slices_Grow_uint16_uint16.F (a1 : Option Addr) (l2 : Nat) (c3 : Nat) (n4 : Int) (w : World) (K : Option Addr → Nat → Nat → World → Prop) : Prop :=
  cond (decide (n4 < (0 : Int)))
  (False)
  (cond (decide ((w64 (n4 - (w64 (((c3 : Nat) : Int) - ((l2 : Nat) : Int))))) > (0 : Int)))
  (0 ≤ ((c3 : Nat) : Int) ∧ ((c3 : Nat) : Int) ≤ ((c3 : Nat) : Int) ∧
  AppV prog #[516, 3] 516 (.slice (slA a1 c3 0 1) ((Int.toNat ((c3 : Nat) : Int)) - 0) (c3 - 0)) (.int .i64 (w64 (n4 - (w64 (((c3 : Nat) : Int) - ((l2 : Nat) : Int)))))) w fun x5 W6 =>
  ∃ (a7 : Option Addr), ∃ (l8 : Nat), ∃ (c9 : Nat), x5 = (.slice a7 l8 c9) ∧
  0 ≤ ((l2 : Nat) : Int) ∧ ((l2 : Nat) : Int) ≤ ((c9 : Nat) : Int) ∧
  K (slA a7 c9 0 1) ((Int.toNat ((l2 : Nat) : Int)) - 0) (c9 - 0) W6)
  (K a1 l2 c3 w))
theorem slices_Grow_uint16_uint16.ok {a1 : Option Addr} {l2 : Nat} {c3 : Nat} {n4 : Int} {w : World} {K : Option Addr → Nat → Nat → World → Prop} (h : slices_Grow_uint16_uint16.F a1 l2 c3 n4 w K) : slices_Grow_uint16_uint16.C a1 l2 c3 n4 w K := by
  refine CallsV.mono (callsV_of_sh prog.mixed prog.noNum (args := [(.slice a1 l2 c3), (.int .i64 n4)]) Tryz.func591 (c := bodyOf Tryz.f591) (by kernel_rfl) (by kernel_rfl) (by kernel_rfl) (R := S_l.R K) ?_) fun v w1 h => S_l.out h
  apply kc h; kernel_rfl

def box_few_cost.F (a1 : Option Addr) (l2 : Nat) (c3 : Nat) (w : World) (K : Int → World → Prop) : Prop :=
  alP w #[(.slice a1 l2 c3)] 554 fun r4 W5 =>
  lL W5 r4 0 fun a6 l7 c8 =>
  K ((l7 : Nat) : Int) W5
theorem box_few_cost.ok {a1 : Option Addr} {l2 : Nat} {c3 : Nat} {w : World} {K : Int → World → Prop} (h : box_few_cost.F a1 l2 c3 w K) : box_few_cost.C a1 l2 c3 w K := by
  refine CallsV.mono (callsV_of_sh prog.mixed prog.noNum (args := [(.agg #[(.slice a1 l2 c3)])]) Tryz.func666 (c := bodyOf Tryz.f666) (by kernel_rfl) (by kernel_rfl) (by kernel_rfl) (R := S_i64.R K) ?_) fun v w1 h => S_i64.out h
  apply kc h; kernel_rfl

def box_few_has.F (a1 : Option Addr) (l2 : Nat) (c3 : Nat) (n4 : Int) (w : World) (K : Bool → World → Prop) : Prop :=
  alP w #[(.slice a1 l2 c3)] 554 fun r5 W6 =>
  lL W6 r5 0 fun a7 l8 c9 =>
  array_Has.C a7 l8 c9 n4 W6 fun q10 W11 =>
  K q10 W11
theorem box_few_has.ok {a1 : Option Addr} {l2 : Nat} {c3 : Nat} {n4 : Int} {w : World} {K : Bool → World → Prop} (h : box_few_has.F a1 l2 c3 n4 w K) : box_few_has.C a1 l2 c3 n4 w K := by
  refine CallsV.mono (callsV_of_sh prog.mixed prog.noNum (args := [(.agg #[(.slice a1 l2 c3)]), (.int .u16 n4)]) Tryz.func667 (c := bodyOf Tryz.f667) (by kernel_rfl) (by kernel_rfl) (by kernel_rfl) (R := S_b.R K) ?_) fun v w1 h => S_b.out h
  apply kc h; kernel_rfl

def box_few_list.F (a1 : Option Addr) (l2 : Nat) (c3 : Nat) (w : World) (K : Option Addr → Nat → Nat → World → Prop) : Prop :=
  alP w #[(.slice a1 l2 c3)] 554 fun r4 W5 =>
  lL W5 r4 0 fun a6 l7 c8 =>
  slices_Clone_uint16_uint16.C a6 l7 c8 W5 fun a9 l10 c11 W12 =>
  K a9 l10 c11 W12
theorem box_few_list.ok {a1 : Option Addr} {l2 : Nat} {c3 : Nat} {w : World} {K : Option Addr → Nat → Nat → World → Prop} (h : box_few_list.F a1 l2 c3 w K) : box_few_list.C a1 l2 c3 w K := by
  refine CallsV.mono (callsV_of_sh prog.mixed prog.noNum (args := [(.agg #[(.slice a1 l2 c3)])]) Tryz.func669 (c := bodyOf Tryz.f669) (by kernel_rfl) (by kernel_rfl) (by kernel_rfl) (R := S_l.R K) ?_) fun v w1 h => S_l.out h
  apply kc h; kernel_rfl

def box_few_next.F (a1 : Option Addr) (l2 : Nat) (c3 : Nat) (n4 : Int) (w : World) (K : Int → Bool → World → Prop) : Prop :=
  alP w #[(.slice a1 l2 c3)] 554 fun r5 W6 =>
  lL W6 r5 0 fun a7 l8 c9 =>
  array_Next.C a7 l8 c9 n4 W6 fun n10 q11 W12 =>
  K n10 q11 W12
theorem box_few_next.ok {a1 : Option Addr} {l2 : Nat} {c3 : Nat} {n4 : Int} {w : World} {K : Int → Bool → World → Prop} (h : box_few_next.F a1 l2 c3 n4 w K) : box_few_next.C a1 l2 c3 n4 w K := by
  refine CallsV.mono (callsV_of_sh prog.mixed prog.noNum (args := [(.agg #[(.slice a1 l2 c3)]), (.int .u16 n4)]) Tryz.func670 (c := bodyOf Tryz.f670) (by kernel_rfl) (by kernel_rfl) (by kernel_rfl) (R := S_u16_b.R K) ?_) fun v w1 h => S_u16_b.out h
  apply kc h; kernel_rfl

def box_few_prev.F (a1 : Option Addr) (l2 : Nat) (c3 : Nat) (n4 : Int) (w : World) (K : Int → Bool → World → Prop) : Prop :=
  alP w #[(.slice a1 l2 c3)] 554 fun r5 W6 =>
  lL W6 r5 0 fun a7 l8 c9 =>
  array_Prev.C a7 l8 c9 n4 W6 fun n10 q11 W12 =>
  K n10 q11 W12
theorem box_few_prev.ok {a1 : Option Addr} {l2 : Nat} {c3 : Nat} {n4 : Int} {w : World} {K : Int → Bool → World → Prop} (h : box_few_prev.F a1 l2 c3 n4 w K) : box_few_prev.C a1 l2 c3 n4 w K := by
  refine CallsV.mono (callsV_of_sh prog.mixed prog.noNum (args := [(.agg #[(.slice a1 l2 c3)]), (.int .u16 n4)]) Tryz.func671 (c := bodyOf Tryz.f671) (by kernel_rfl) (by kernel_rfl) (by kernel_rfl) (R := S_u16_b.R K) ?_) fun v w1 h => S_u16_b.out h
  apply kc h; kernel_rfl

def box_few_size.F (a1 : Option Addr) (l2 : Nat) (c3 : Nat) (w : World) (K : Int → World → Prop) : Prop :=
  alP w #[(.slice a1 l2 c3)] 554 fun r4 W5 =>
  lL W5 r4 0 fun a6 l7 c8 =>
  K ((l7 : Nat) : Int) W5
theorem box_few_size.ok {a1 : Option Addr} {l2 : Nat} {c3 : Nat} {w : World} {K : Int → World → Prop} (h : box_few_size.F a1 l2 c3 w K) : box_few_size.C a1 l2 c3 w K := by
  refine CallsV.mono (callsV_of_sh prog.mixed prog.noNum (args := [(.agg #[(.slice a1 l2 c3)])]) Tryz.func673 (c := bodyOf Tryz.f673) (by kernel_rfl) (by kernel_rfl) (by kernel_rfl) (R := S_i64.R K) ?_) fun v w1 h => S_i64.out h
  apply kc h; kernel_rfl

def array_Select.F (a1 : Option Addr) (l2 : Nat) (c3 : Nat) (n4 : Int) (w : World) (K : Int → Bool → World → Prop) : Prop :=
  cond (decide (n4 < (0 : Int)))
  (K (0 : Int) false w)
  (cond (decide (n4 ≥ ((l2 : Nat) : Int)))
  (K (0 : Int) false w)
  (nn a1 fun b5 o6 =>
  0 ≤ n4 ∧ n4 < ((l2 : Nat) : Int) ∧
  lU16 w b5 (o6 + Int.toNat n4 * 1) fun n7 =>
  K n7 true w))
theorem array_Select.ok {a1 : Option Addr} {l2 : Nat} {c3 : Nat} {n4 : Int} {w : World} {K : Int → Bool → World → Prop} (h : array_Select.F a1 l2 c3 n4 w K) : array_Select.C a1 l2 c3 n4 w K := by
  refine CallsV.mono (callsV_of_sh prog.mixed prog.noNum (args := [(.slice a1 l2 c3), (.int .i64 n4)]) Tryz.func674 (c := bodyOf Tryz.f674) (by kernel_rfl) (by kernel_rfl) (by kernel_rfl) (R := S_u16_b.R K) ?_) fun v w1 h => S_u16_b.out h
  apply kc h; kernel_rfl

def array_Has.F (a1 : Option Addr) (l2 : Nat) (c3 : Nat) (n4 : Int) (w : World) (K : Bool → World → Prop) : Prop :=
  slices_BinarySearch_uint16_uint16.C a1 l2 c3 n4 w fun n5 q6 W7 =>
  K q6 W7
theorem array_Has.ok {a1 : Option Addr} {l2 : Nat} {c3 : Nat} {n4 : Int} {w : World} {K : Bool → World → Prop} (h : array_Has.F a1 l2 c3 n4 w K) : array_Has.C a1 l2 c3 n4 w K := by
  refine CallsV.mono (callsV_of_sh prog.mixed prog.noNum (args := [(.slice a1 l2 c3), (.int .u16 n4)]) Tryz.func675 (c := bodyOf Tryz.f675) (by kernel_rfl) (by kernel_rfl) (by kernel_rfl) (R := S_b.R K) ?_) fun v w1 h => S_b.out h
  apply kc h; kernel_rfl

def array_Next.F (a1 : Option Addr) (l2 : Nat) (c3 : Nat) (n4 : Int) (w : World) (K : Int → Bool → World → Prop) : Prop :=
  slices_BinarySearch_uint16_uint16.C a1 l2 c3 n4 w fun n5 q6 W7 =>
  array_Select.C a1 l2 c3 n5 W7 fun n8 q9 W10 =>
  K n8 q9 W10
theorem array_Next.ok {a1 : Option Addr} {l2 : Nat} {c3 : Nat} {n4 : Int} {w : World} {K : Int → Bool → World → Prop} (h : array_Next.F a1 l2 c3 n4 w K) : array_Next.C a1 l2 c3 n4 w K := by
  refine CallsV.mono (callsV_of_sh prog.mixed prog.noNum (args := [(.slice a1 l2 c3), (.int .u16 n4)]) Tryz.func676 (c := bodyOf Tryz.f676) (by kernel_rfl) (by kernel_rfl) (by kernel_rfl) (R := S_u16_b.R K) ?_) fun v w1 h => S_u16_b.out h
  apply kc h; kernel_rfl

def array_Prev.F (a1 : Option Addr) (l2 : Nat) (c3 : Nat) (n4 : Int) (w : World) (K : Int → Bool → World → Prop) : Prop :=
  slices_BinarySearch_uint16_uint16.C a1 l2 c3 n4 w fun n5 q6 W7 =>
  cond q6
  (K n4 true W7)
  (array_Select.C a1 l2 c3 (w64 (n5 - (1 : Int))) W7 fun n8 q9 W10 =>
  K n8 q9 W10)
theorem array_Prev.ok {a1 : Option Addr} {l2 : Nat} {c3 : Nat} {n4 : Int} {w : World} {K : Int → Bool → World → Prop} (h : array_Prev.F a1 l2 c3 n4 w K) : array_Prev.C a1 l2 c3 n4 w K := by
  refine CallsV.mono (callsV_of_sh prog.mixed prog.noNum (args := [(.slice a1 l2 c3), (.int .u16 n4)]) Tryz.func677 (c := bodyOf Tryz.f677) (by kernel_rfl) (by kernel_rfl) (by kernel_rfl) (R := S_u16_b.R K) ?_) fun v w1 h => S_u16_b.out h
  apply kc h; kernel_rfl

def face_made_roar_Roar.F (p1 : Option Addr) (n2 : Int) (w : World) (K : Value → Int → World → Prop) : Prop :=
  K (.iface 269 (.pointer p1)) n2 w
theorem face_made_roar_Roar.ok {p1 : Option Addr} {n2 : Int} {w : World} {K : Value → Int → World → Prop} (h : face_made_roar_Roar.F p1 n2 w K) : face_made_roar_Roar.C p1 n2 w K := by
  refine CallsV.mono (callsV_of_sh prog.mixed prog.noNum (args := [(.pointer p1), (.int .i64 n2)]) Tryz.func183 (c := bodyOf Tryz.f183) (by kernel_rfl) (by kernel_rfl) (by kernel_rfl) (R := S_r_i64.R K) ?_) fun v w1 h => S_r_i64.out h
  apply kc h; kernel_rfl

def roar_New.F (n1 : Int) (w : World) (K : Option Addr → Int → World → Prop) : Prop :=
  cond (decide (n1 < (0 : Int)))
  (K none (1 : Int) w)
  (cond (decide (n1 > (1048576 : Int)))
  (K none (1 : Int) w)
  (count_New.C  w fun p2 W3 =>
  alP W3 #[(.pointer p2), (.slice none 0 0), (.int .i64 (0 : Int)), (.int .i64 n1)] 332 fun r4 W5 =>
  K (some ⟨r4, 0, none⟩) (0 : Int) W5))
theorem roar_New.ok {n1 : Int} {w : World} {K : Option Addr → Int → World → Prop} (h : roar_New.F n1 w K) : roar_New.C n1 w K := by
  refine CallsV.mono (callsV_of_sh prog.mixed prog.noNum (args := [(.int .i64 n1)]) Tryz.func184 (c := bodyOf Tryz.f184) (by kernel_rfl) (by kernel_rfl) (by kernel_rfl) (R := S_p_i64.R K) ?_) fun v w1 h => S_p_i64.out h
  apply kc h; kernel_rfl

def roar_Roar_Has.F (p1 : Option Addr) (n2 : Int) (w : World) (K : Bool → World → Prop) : Prop :=
  roar_Roar_start.C p1 w fun q3 W4 =>
  cond (!q3)
  (K false W4)
  (roar_upper.C n2 W4 fun n5 W6 =>
  roar_Roar_find.C p1 n5 W6 fun n7 q8 W9 =>
  cond (!q8)
  (K false W9)
  (roar_Roar_see.C p1 n7 W9 fun n10 p11 q12 W13 =>
  alP W13 #[(.int .u64 (0 : Int)), (.pointer none)] 515 fun r14 W15 =>
  stCs r14 0 [(.int .u64 n10), (.pointer p11)] W15 fun W16 =>
  drP W16 fun W17 =>
  lP W17 r14 1 fun p18 =>
  roar_lower.C n2 W17 fun n19 W20 =>
  cellsAre W20 r14 1 [(.pointer p18)] ∧
  box_Box_Has.C p18 n19 W20 fun q21 W22 =>
  K q21 W22))
theorem roar_Roar_Has.ok {p1 : Option Addr} {n2 : Int} {w : World} {K : Bool → World → Prop} (h : roar_Roar_Has.F p1 n2 w K) : roar_Roar_Has.C p1 n2 w K := by
  refine CallsV.mono (callsV_of_sh prog.mixed prog.noNum (args := [(.pointer p1), (.int .u64 n2)]) Tryz.func513 (c := bodyOf Tryz.f513) (by kernel_rfl) (by kernel_rfl) (by kernel_rfl) (R := S_b.R K) ?_) fun v w1 h => S_b.out h
  apply kc h; kernel_rfl

def roar_Roar_Insert.F (p1 : Option Addr) (n2 : Int) (w : World) (K : Int → World → Prop) : Prop :=
  cond (Option.isNone p1)
  (K (3 : Int) w)
  (roar_Roar_Has.C p1 n2 w fun q3 W4 =>
  cond q3
  (K (4 : Int) W4)
  (roar_Roar_box.C p1 n2 W4 fun p5 n6 q7 W8 =>
  roar_lower.C n2 W8 fun n9 W10 =>
  box_Box_Add.C p5 n9 W10 fun q11 W12 =>
  roar_upper.C n2 W12 fun n13 W14 =>
  roar_Roar_lay.C p1 n6 q7 n13 p5 W14 fun n15 W16 =>
  K n15 W16))
theorem roar_Roar_Insert.ok {p1 : Option Addr} {n2 : Int} {w : World} {K : Int → World → Prop} (h : roar_Roar_Insert.F p1 n2 w K) : roar_Roar_Insert.C p1 n2 w K := by
  refine CallsV.mono (callsV_of_sh prog.mixed prog.noNum (args := [(.pointer p1), (.int .u64 n2)]) Tryz.func514 (c := bodyOf Tryz.f514) (by kernel_rfl) (by kernel_rfl) (by kernel_rfl) (R := S_i64.R K) ?_) fun v w1 h => S_i64.out h
  apply kc h; kernel_rfl

def roar_Roar_Len.B1 (K : Int → World → Prop) (a17 : Option Addr) (l18 : Nat) (c19 : Nat) (n20 : Int) : (Int × Int) → World → ((Int × Int) → World → Prop) → Prop := fun s0 W23 next22 => match s0 with
 | (n9, n21) =>
  cond (decide (n21 < n20))
  (nn a17 fun b24 o25 =>
  0 ≤ n21 ∧ n21 < ((l18 : Nat) : Int) ∧
  lAu64_p W23 b24 (o25 + Int.toNat n21 * 2) fun n26 p27 =>
  alP W23 #[(.int .u64 (0 : Int)), (.pointer none)] 515 fun r28 W29 =>
  stCs r28 0 [(.int .u64 n26), (.pointer p27)] W29 fun W30 =>
  lP W30 r28 1 fun p31 =>
  box_Box_Len.C p31 W30 fun n32 W33 =>
  next22 ((w64 (n9 + n32)), (w64 (n21 + (1 : Int)))) W33)
  (K n9 W23)
def roar_Roar_Len.T1 (K : Int → World → Prop) (n9 : Int) (a17 : Option Addr) (l18 : Nat) (c19 : Nat) (n20 : Int) (n21 : Int) (w : World) : Prop := LoopT (roar_Roar_Len.B1 K a17 l18 c19 n20) (n9, n21) w
def roar_Roar_Len.F (p1 : Option Addr) (w : World) (K : Int → World → Prop) : Prop :=
  cond (Option.isNone p1)
  (K (0 : Int) w)
  (nn p1 fun b2 o3 =>
  lL w b2 (o3 + 1) fun a4 l5 c6 =>
  roar_Roar_Len.T1 K (0 : Int) a4 l5 c6 ((l5 : Nat) : Int) (0 : Int) w)
def roar_Roar_Len.U0 (K : Int → World → Prop) (l : Nat) (fr : Fr) (w : World) : Prop :=
  match l with
 | 1 =>
  gI64 False (fr 3) fun n9 =>
  gL False (fr 11) fun a17 l18 c19 =>
  gI64 False (fr 12) fun n20 =>
  gI64 False (fr 13) fun n21 =>
  roar_Roar_Len.T1 K n9 a17 l18 c19 n20 n21 w
 | _ => False
def roar_Roar_Len.ext1 (fr : Fr) : Option (Int × Int) :=
  gI64 none (fr 3) fun n9 =>
  gI64 none (fr 13) fun n21 =>
  some (n9, n21)
theorem roar_Roar_Len.U0_ok1 (K : Int → World → Prop) (fr : Fr) (w : World) (h : roar_Roar_Len.U0 K 1 fr w) : sh prog (roar_Roar_Len.U0 K) (subAt [.R, .R, .R, .L, .R, .B] (bodyOf Tryz.f515)) fr w (ctxAt prog (roar_Roar_Len.U0 K) [.R, .R, .R, .L, .R, .B] (bodyOf Tryz.f515) (retK prog Tryz.f515.results.toList (S_i64.R K))) := by
  unfold roar_Roar_Len.U0 at h
  simp only at h
  replace h := gI64.outF h; obtain ⟨n9, e34, h⟩ := h
  replace h := gL.outF h; obtain ⟨a17, l18, c19, e35, h⟩ := h
  replace h := gI64.outF h; obtain ⟨n20, e36, h⟩ := h
  replace h := gI64.outF h; obtain ⟨n21, e37, h⟩ := h
  refine kc (A := LoopP (sh prog (roar_Roar_Len.U0 K) (loopBody (subAt [.R, .R, .R, .L, .R, .B] (bodyOf Tryz.f515)))) fr w (ctxAt prog (roar_Roar_Len.U0 K) [.R, .R, .R, .L, .R, .B] (bodyOf Tryz.f515) (retK prog Tryz.f515.results.toList (S_i64.R K)))) ?_ (by kernel_rfl)
  refine loop_typed (B := roar_Roar_Len.B1 K a17 l18 c19 n20) roar_Roar_Len.ext1 (s := (n9, n21)) (by unfold roar_Roar_Len.ext1; simp only [e34, e37]; rfl) h ?_
  clear h
  clear e34
  clear e37
  intro s0 fr1 w1 next22 hs hk h
  unfold roar_Roar_Len.ext1 at hs
  replace hs := noN (gI64.out (d := none) (x := _) hs); obtain ⟨n9a, e38, hs⟩ := hs
  replace hs := noN (gI64.out (d := none) (x := _) hs); obtain ⟨n21a, e39, hs⟩ := hs
  replace hs := Option.some.inj hs; subst hs
  have e40 : fr1 11 = (.slice a17 l18 c19) := (hk 11 (by kernel_rfl)).trans e35
  have e41 : fr1 12 = (.int .i64 n20) := (hk 12 (by kernel_rfl)).trans e36
  refine at_frame [(3, (.int .i64 n9a)), (13, (.int .i64 n21a)), (11, (.slice a17 l18 c19)), (12, (.int .i64 n20))] (by intro p hp; simp only [List.mem_cons, List.not_mem_nil, or_false] at hp; rcases hp with rfl | rfl | rfl | rfl <;> assumption) (Q := fun fr => sh prog (roar_Roar_Len.U0 K) (loopBody (subAt [.R, .R, .R, .L, .R, .B] (bodyOf Tryz.f515))) fr w1 (nextK roar_Roar_Len.ext1 next22 (ctxAt prog (roar_Roar_Len.U0 K) [.R, .R, .R, .L, .R, .B] (bodyOf Tryz.f515) (retK prog Tryz.f515.results.toList (S_i64.R K))))) ?_
  apply kc h; kernel_rfl
theorem roar_Roar_Len.ok {p1 : Option Addr} {w : World} {K : Int → World → Prop} (h : roar_Roar_Len.F p1 w K) : roar_Roar_Len.C p1 w K := by
  refine CallsV.mono (callsV_of_sh prog.mixed prog.noNum (args := [(.pointer p1)]) Tryz.func515 (c := bodyOf Tryz.f515) (by kernel_rfl) (by kernel_rfl) (by kernel_rfl) (R := S_i64.R K) ?_) fun v w1 h => S_i64.out h
  refine sh_anyCut (cut := roar_Roar_Len.U0 K) (by kernel_rfl) ?_
  refine sh_cutAt (p := [.R, .R, .R, .L, .R, .B]) (l := 1) ?_ (roar_Roar_Len.U0_ok1 K)
  apply kc h; kernel_rfl

def roar_Roar_Next.T1 (K : Int → Bool → World → Prop) (p10 : Option Addr) (n14 : Int) (W25 : World) : Prop :=
  roar_Roar_see.C p10 n14 W25 fun n26 p27 q28 W29 =>
  alP W29 #[(.int .u64 (0 : Int)), (.pointer none)] 515 fun r30 W31 =>
  stCs r30 0 [(.int .u64 n26), (.pointer p27)] W31 fun W32 =>
  cond (!q28)
  (K (0 : Int) false W32)
  (lAu64_p W32 r30 0 fun n33 p34 =>
  roar_entry_ends.C n33 p34 W32 fun n35 n36 W37 =>
  K n35 true W37)
def roar_Roar_Next.F (p1 : Option Addr) (n2 : Int) (w : World) (K : Int → Bool → World → Prop) : Prop :=
  roar_Roar_start.C p1 w fun q3 W4 =>
  cond (!q3)
  (K (0 : Int) false W4)
  (roar_upper.C n2 W4 fun n5 W6 =>
  roar_Roar_find.C p1 n5 W6 fun n7 q8 W9 =>
  cond q8
  (roar_Roar_see.C p1 n7 W9 fun n38 p39 q40 W41 =>
  alP W41 #[(.int .u64 (0 : Int)), (.pointer none)] 515 fun r42 W43 =>
  stCs r42 0 [(.int .u64 n38), (.pointer p39)] W43 fun W44 =>
  drP W44 fun W45 =>
  lP W45 r42 1 fun p46 =>
  roar_lower.C n2 W45 fun n47 W48 =>
  cellsAre W48 r42 1 [(.pointer p46)] ∧
  box_Box_Next.C p46 n47 W48 fun n49 q50 W51 =>
  cond q50
  (lAu64_p W51 r42 0 fun n52 p53 =>
  roar_entry_join.C n52 p53 n49 W51 fun n54 W55 =>
  K n54 true W55)
  (roar_Roar_Next.T1 K p1 (w64 (n7 + (1 : Int))) W51))
  (roar_Roar_Next.T1 K p1 n7 W9))
def roar_Roar_Next.U0 (K : Int → Bool → World → Prop) (l : Nat) (fr : Fr) (w : World) : Prop :=
  match l with
 | 1 =>
  gP False (fr 0) fun p10 =>
  gI64 False (fr 6) fun n14 =>
  roar_Roar_Next.T1 K p10 n14 w
 | _ => False
theorem roar_Roar_Next.U0_ok1 (K : Int → Bool → World → Prop) (fr : Fr) (w : World) (h : roar_Roar_Next.U0 K 1 fr w) : sh prog (roar_Roar_Next.U0 K) (subAt [.R, .R, .R, .R] (bodyOf Tryz.f519)) fr w (ctxAt prog (roar_Roar_Next.U0 K) [.R, .R, .R, .R] (bodyOf Tryz.f519) (retK prog Tryz.f519.results.toList (S_u64_b.R K))) := by
  unfold roar_Roar_Next.U0 at h
  simp only at h
  replace h := gP.outF h; obtain ⟨p10, e56, h⟩ := h
  replace h := gI64.outF h; obtain ⟨n14, e57, h⟩ := h
  refine at_frame [(0, (.pointer p10)), (6, (.int .i64 n14))] (by intro p hp; simp only [List.mem_cons, List.not_mem_nil, or_false] at hp; rcases hp with rfl | rfl <;> assumption) (Q := fun fr => sh prog (roar_Roar_Next.U0 K) (subAt [.R, .R, .R, .R] (bodyOf Tryz.f519)) fr w (ctxAt prog (roar_Roar_Next.U0 K) [.R, .R, .R, .R] (bodyOf Tryz.f519) (retK prog Tryz.f519.results.toList (S_u64_b.R K)))) ?_
  apply kc h; kernel_rfl
theorem roar_Roar_Next.ok {p1 : Option Addr} {n2 : Int} {w : World} {K : Int → Bool → World → Prop} (h : roar_Roar_Next.F p1 n2 w K) : roar_Roar_Next.C p1 n2 w K := by
  refine CallsV.mono (callsV_of_sh prog.mixed prog.noNum (args := [(.pointer p1), (.int .u64 n2)]) Tryz.func519 (c := bodyOf Tryz.f519) (by kernel_rfl) (by kernel_rfl) (by kernel_rfl) (R := S_u64_b.R K) ?_) fun v w1 h => S_u64_b.out h
  refine sh_anyCut (cut := roar_Roar_Next.U0 K) (by kernel_rfl) ?_
  refine sh_cutAt (p := [.R, .R, .R, .R]) (l := 1) ?_ (roar_Roar_Next.U0_ok1 K)
  apply kc h; kernel_rfl

def roar_entry_join.F (n1 : Int) (p2 : Option Addr) (n3 : Int) (w : World) (K : Int → World → Prop) : Prop :=
  alP w #[(.int .u64 n1), (.pointer p2)] 515 fun r4 W5 =>
  lU64 W5 r4 0 fun n6 =>
  K (bOr .u64 (shl .u64 n6 16) (wu64 n3)) W5
theorem roar_entry_join.ok {n1 : Int} {p2 : Option Addr} {n3 : Int} {w : World} {K : Int → World → Prop} (h : roar_entry_join.F n1 p2 n3 w K) : roar_entry_join.C n1 p2 n3 w K := by
  refine CallsV.mono (callsV_of_sh prog.mixed prog.noNum (args := [(.agg #[(.int .u64 n1), (.pointer p2)]), (.int .u16 n3)]) Tryz.func527 (c := bodyOf Tryz.f527) (by kernel_rfl) (by kernel_rfl) (by kernel_rfl) (R := S_u64.R K) ?_) fun v w1 h => S_u64.out h
  apply kc h; kernel_rfl

def roar_Roar_box.F (p1 : Option Addr) (n2 : Int) (w : World) (K : Option Addr → Int → Bool → World → Prop) : Prop :=
  roar_upper.C n2 w fun n3 W4 =>
  roar_Roar_find.C p1 n3 W4 fun n5 q6 W7 =>
  cond (!q6)
  (box_New.C  W7 fun p8 W9 =>
  K p8 n5 false W9)
  (nn p1 fun b10 o11 =>
  lL W7 b10 (o11 + 1) fun a12 l13 c14 =>
  nn a12 fun b15 o16 =>
  0 ≤ n5 ∧ n5 < ((l13 : Nat) : Int) ∧
  lP W7 b15 ((o16 + Int.toNat n5 * 2) + 1) fun p17 =>
  box_Box_Copy.C p17 W7 fun p18 W19 =>
  K p18 n5 true W19)
theorem roar_Roar_box.ok {p1 : Option Addr} {n2 : Int} {w : World} {K : Option Addr → Int → Bool → World → Prop} (h : roar_Roar_box.F p1 n2 w K) : roar_Roar_box.C p1 n2 w K := by
  refine CallsV.mono (callsV_of_sh prog.mixed prog.noNum (args := [(.pointer p1), (.int .u64 n2)]) Tryz.func528 (c := bodyOf Tryz.f528) (by kernel_rfl) (by kernel_rfl) (by kernel_rfl) (R := S_p_i64_b.R K) ?_) fun v w1 h => S_p_i64_b.out h
  apply kc h; kernel_rfl

def roar_lower.F (n1 : Int) (w : World) (K : Int → World → Prop) : Prop :=
  K (wu16 n1) w
theorem roar_lower.ok {n1 : Int} {w : World} {K : Int → World → Prop} (h : roar_lower.F n1 w K) : roar_lower.C n1 w K := by
  refine CallsV.mono (callsV_of_sh prog.mixed prog.noNum (args := [(.int .u64 n1)]) Tryz.func530 (c := bodyOf Tryz.f530) (by kernel_rfl) (by kernel_rfl) (by kernel_rfl) (R := S_u16.R K) ?_) fun v w1 h => S_u16.out h
  apply kc h; kernel_rfl

def roar_Roar_lay.T4 (K : Int → World → Prop) (p56 : Option Addr) (n57 : Int) (n59 : Int) (p60 : Option Addr) (n62 : Int) (n63 : Int) (W87 : World) : Prop :=
  box_Box_Len.C p60 W87 fun n88 W89 =>
  cond (decide (n88 > (0 : Int)))
  (nn p56 fun b90 o91 =>
  lL W89 b90 (o91 + 1) fun a92 l93 c94 =>
  alP W89 #[(.int .u64 n59), (.pointer p60)] 515 fun r95 W96 =>
  slices_Replace_roar_entry_roar_entry.C a92 l93 c94 n57 n63 (some ⟨r95, 0, none⟩) 1 1 W96 fun a97 l98 c99 W100 =>
  nn p56 fun b101 o102 =>
  stP W100 b101 (o102 + 1) (.slice a97 l98 c99) fun W103 =>
  nn p56 fun b104 o105 =>
  lI64 W103 b104 (o105 + 2) fun n106 =>
  nn p56 fun b107 o108 =>
  stP W103 b107 (o108 + 2) (.int .i64 (w64 (n106 + n62))) fun W109 =>
  K (0 : Int) W109)
  (nn p56 fun b110 o111 =>
  lL W89 b110 (o111 + 1) fun a112 l113 c114 =>
  slices_Delete_roar_entry_roar_entry.C a112 l113 c114 n57 n63 W89 fun a115 l116 c117 W118 =>
  nn p56 fun b119 o120 =>
  stP W118 b119 (o120 + 1) (.slice a115 l116 c117) fun W121 =>
  nn p56 fun b122 o123 =>
  lI64 W121 b122 (o123 + 2) fun n124 =>
  nn p56 fun b125 o126 =>
  stP W121 b125 (o126 + 2) (.int .i64 (w64 (n124 + n62))) fun W127 =>
  K (0 : Int) W127)
def roar_Roar_lay.T3 (K : Int → World → Prop) (p27 : Option Addr) (n28 : Int) (q29 : Bool) (n30 : Int) (p31 : Option Addr) (n33 : Int) (W55 : World) : Prop :=
  cond q29
  (roar_Roar_lay.T4 K p27 n28 n30 p31 n33 (w64 (n28 + (1 : Int))) W55)
  (roar_Roar_lay.T4 K p27 n28 n30 p31 n33 n28 W55)
def roar_Roar_lay.T2 (K : Int → World → Prop) (p15 : Option Addr) (n16 : Int) (q17 : Bool) (n18 : Int) (p19 : Option Addr) (n21 : Int) (W26 : World) : Prop :=
  drP W26 fun W128 =>
  nn p15 fun b129 o130 =>
  lI64 W128 b129 (o130 + 2) fun n131 =>
  nn p15 fun b132 o133 =>
  lI64 W128 b132 (o133 + 3) fun n134 =>
  cond (decide ((w64 (n131 + n21)) > n134))
  (cond (decide (n21 > (0 : Int)))
  (K (5 : Int) W128)
  (roar_Roar_lay.T3 K p15 n16 q17 n18 p19 n21 W128))
  (roar_Roar_lay.T3 K p15 n16 q17 n18 p19 n21 W128)
def roar_Roar_lay.T1 (K : Int → World → Prop) (p6 : Option Addr) (n7 : Int) (q8 : Bool) (n9 : Int) (p10 : Option Addr) (n12 : Int) (W14 : World) : Prop :=
  box_Box_Len.C p10 W14 fun n135 W136 =>
  cond (decide (n135 > (0 : Int)))
  (roar_cost.C p10 W136 fun n137 W138 =>
  roar_Roar_lay.T2 K p6 n7 q8 n9 p10 (w64 (n12 + n137)) W138)
  (roar_Roar_lay.T2 K p6 n7 q8 n9 p10 n12 W136)
def roar_Roar_lay.F (p1 : Option Addr) (n2 : Int) (q3 : Bool) (n4 : Int) (p5 : Option Addr) (w : World) (K : Int → World → Prop) : Prop :=
  cond q3
  (nn p1 fun b139 o140 =>
  lL w b139 (o140 + 1) fun a141 l142 c143 =>
  nn a141 fun b144 o145 =>
  0 ≤ n2 ∧ n2 < ((l142 : Nat) : Int) ∧
  lP w b144 ((o145 + Int.toNat n2 * 2) + 1) fun p146 =>
  roar_cost.C p146 w fun n147 W148 =>
  roar_Roar_lay.T1 K p1 n2 q3 n4 p5 (w64 ((0 : Int) - n147)) W148)
  (roar_Roar_lay.T1 K p1 n2 q3 n4 p5 (0 : Int) w)
def roar_Roar_lay.U0 (K : Int → World → Prop) (l : Nat) (fr : Fr) (w : World) : Prop :=
  match l with
 | 1 =>
  gP False (fr 0) fun p6 =>
  gI64 False (fr 1) fun n7 =>
  gB False (fr 2) fun q8 =>
  gU64 False (fr 3) fun n9 =>
  gP False (fr 4) fun p10 =>
  gI64 False (fr 11) fun n12 =>
  roar_Roar_lay.T1 K p6 n7 q8 n9 p10 n12 w
 | 2 =>
  gP False (fr 0) fun p15 =>
  gI64 False (fr 1) fun n16 =>
  gB False (fr 2) fun q17 =>
  gU64 False (fr 3) fun n18 =>
  gP False (fr 4) fun p19 =>
  gI64 False (fr 11) fun n21 =>
  roar_Roar_lay.T2 K p15 n16 q17 n18 p19 n21 w
 | 3 =>
  gP False (fr 0) fun p27 =>
  gI64 False (fr 1) fun n28 =>
  gB False (fr 2) fun q29 =>
  gU64 False (fr 3) fun n30 =>
  gP False (fr 4) fun p31 =>
  gI64 False (fr 11) fun n33 =>
  roar_Roar_lay.T3 K p27 n28 q29 n30 p31 n33 w
 | 4 =>
  gP False (fr 0) fun p56 =>
  gI64 False (fr 1) fun n57 =>
  gU64 False (fr 3) fun n59 =>
  gP False (fr 4) fun p60 =>
  gI64 False (fr 11) fun n62 =>
  gI64 False (fr 12) fun n63 =>
  roar_Roar_lay.T4 K p56 n57 n59 p60 n62 n63 w
 | _ => False
theorem roar_Roar_lay.U0_ok4 (K : Int → World → Prop) (fr : Fr) (w : World) (h : roar_Roar_lay.U0 K 4 fr w) : sh prog (roar_Roar_lay.U0 K) (subAt [.R, .R, .R, .R, .R, .R, .R] (bodyOf Tryz.f531)) fr w (ctxAt prog (roar_Roar_lay.U0 K) [.R, .R, .R, .R, .R, .R, .R] (bodyOf Tryz.f531) (retK prog Tryz.f531.results.toList (S_i64.R K))) := by
  unfold roar_Roar_lay.U0 at h
  simp only at h
  replace h := gP.outF h; obtain ⟨p56, e149, h⟩ := h
  replace h := gI64.outF h; obtain ⟨n57, e150, h⟩ := h
  replace h := gU64.outF h; obtain ⟨n59, e151, h⟩ := h
  replace h := gP.outF h; obtain ⟨p60, e152, h⟩ := h
  replace h := gI64.outF h; obtain ⟨n62, e153, h⟩ := h
  replace h := gI64.outF h; obtain ⟨n63, e154, h⟩ := h
  refine at_frame [(0, (.pointer p56)), (1, (.int .i64 n57)), (3, (.int .u64 n59)), (4, (.pointer p60)), (11, (.int .i64 n62)), (12, (.int .i64 n63))] (by intro p hp; simp only [List.mem_cons, List.not_mem_nil, or_false] at hp; rcases hp with rfl | rfl | rfl | rfl | rfl | rfl <;> assumption) (Q := fun fr => sh prog (roar_Roar_lay.U0 K) (subAt [.R, .R, .R, .R, .R, .R, .R] (bodyOf Tryz.f531)) fr w (ctxAt prog (roar_Roar_lay.U0 K) [.R, .R, .R, .R, .R, .R, .R] (bodyOf Tryz.f531) (retK prog Tryz.f531.results.toList (S_i64.R K)))) ?_
  apply kc h; kernel_rfl
theorem roar_Roar_lay.U0_ok3 (K : Int → World → Prop) (fr : Fr) (w : World) (h : roar_Roar_lay.U0 K 3 fr w) : sh prog (roar_Roar_lay.U0 K) (subAt [.R, .R, .R, .R, .R] (cutAt 4 [.R, .R, .R, .R, .R, .R, .R] (bodyOf Tryz.f531))) fr w (ctxAt prog (roar_Roar_lay.U0 K) [.R, .R, .R, .R, .R] (cutAt 4 [.R, .R, .R, .R, .R, .R, .R] (bodyOf Tryz.f531)) (retK prog Tryz.f531.results.toList (S_i64.R K))) := by
  unfold roar_Roar_lay.U0 at h
  simp only at h
  replace h := gP.outF h; obtain ⟨p27, e155, h⟩ := h
  replace h := gI64.outF h; obtain ⟨n28, e156, h⟩ := h
  replace h := gB.outF h; obtain ⟨q29, e157, h⟩ := h
  replace h := gU64.outF h; obtain ⟨n30, e158, h⟩ := h
  replace h := gP.outF h; obtain ⟨p31, e159, h⟩ := h
  replace h := gI64.outF h; obtain ⟨n33, e160, h⟩ := h
  refine at_frame [(0, (.pointer p27)), (1, (.int .i64 n28)), (2, (.bool q29)), (3, (.int .u64 n30)), (4, (.pointer p31)), (11, (.int .i64 n33))] (by intro p hp; simp only [List.mem_cons, List.not_mem_nil, or_false] at hp; rcases hp with rfl | rfl | rfl | rfl | rfl | rfl <;> assumption) (Q := fun fr => sh prog (roar_Roar_lay.U0 K) (subAt [.R, .R, .R, .R, .R] (cutAt 4 [.R, .R, .R, .R, .R, .R, .R] (bodyOf Tryz.f531))) fr w (ctxAt prog (roar_Roar_lay.U0 K) [.R, .R, .R, .R, .R] (cutAt 4 [.R, .R, .R, .R, .R, .R, .R] (bodyOf Tryz.f531)) (retK prog Tryz.f531.results.toList (S_i64.R K)))) ?_
  apply kc h; kernel_rfl
theorem roar_Roar_lay.U0_ok2 (K : Int → World → Prop) (fr : Fr) (w : World) (h : roar_Roar_lay.U0 K 2 fr w) : sh prog (roar_Roar_lay.U0 K) (subAt [.R, .R, .R, .R] (cutAt 3 [.R, .R, .R, .R, .R] (cutAt 4 [.R, .R, .R, .R, .R, .R, .R] (bodyOf Tryz.f531)))) fr w (ctxAt prog (roar_Roar_lay.U0 K) [.R, .R, .R, .R] (cutAt 3 [.R, .R, .R, .R, .R] (cutAt 4 [.R, .R, .R, .R, .R, .R, .R] (bodyOf Tryz.f531))) (retK prog Tryz.f531.results.toList (S_i64.R K))) := by
  unfold roar_Roar_lay.U0 at h
  simp only at h
  replace h := gP.outF h; obtain ⟨p15, e161, h⟩ := h
  replace h := gI64.outF h; obtain ⟨n16, e162, h⟩ := h
  replace h := gB.outF h; obtain ⟨q17, e163, h⟩ := h
  replace h := gU64.outF h; obtain ⟨n18, e164, h⟩ := h
  replace h := gP.outF h; obtain ⟨p19, e165, h⟩ := h
  replace h := gI64.outF h; obtain ⟨n21, e166, h⟩ := h
  refine at_frame [(0, (.pointer p15)), (1, (.int .i64 n16)), (2, (.bool q17)), (3, (.int .u64 n18)), (4, (.pointer p19)), (11, (.int .i64 n21))] (by intro p hp; simp only [List.mem_cons, List.not_mem_nil, or_false] at hp; rcases hp with rfl | rfl | rfl | rfl | rfl | rfl <;> assumption) (Q := fun fr => sh prog (roar_Roar_lay.U0 K) (subAt [.R, .R, .R, .R] (cutAt 3 [.R, .R, .R, .R, .R] (cutAt 4 [.R, .R, .R, .R, .R, .R, .R] (bodyOf Tryz.f531)))) fr w (ctxAt prog (roar_Roar_lay.U0 K) [.R, .R, .R, .R] (cutAt 3 [.R, .R, .R, .R, .R] (cutAt 4 [.R, .R, .R, .R, .R, .R, .R] (bodyOf Tryz.f531))) (retK prog Tryz.f531.results.toList (S_i64.R K)))) ?_
  apply kc h; kernel_rfl
theorem roar_Roar_lay.U0_ok1 (K : Int → World → Prop) (fr : Fr) (w : World) (h : roar_Roar_lay.U0 K 1 fr w) : sh prog (roar_Roar_lay.U0 K) (subAt [.R, .R, .R] (cutAt 2 [.R, .R, .R, .R] (cutAt 3 [.R, .R, .R, .R, .R] (cutAt 4 [.R, .R, .R, .R, .R, .R, .R] (bodyOf Tryz.f531))))) fr w (ctxAt prog (roar_Roar_lay.U0 K) [.R, .R, .R] (cutAt 2 [.R, .R, .R, .R] (cutAt 3 [.R, .R, .R, .R, .R] (cutAt 4 [.R, .R, .R, .R, .R, .R, .R] (bodyOf Tryz.f531)))) (retK prog Tryz.f531.results.toList (S_i64.R K))) := by
  unfold roar_Roar_lay.U0 at h
  simp only at h
  replace h := gP.outF h; obtain ⟨p6, e167, h⟩ := h
  replace h := gI64.outF h; obtain ⟨n7, e168, h⟩ := h
  replace h := gB.outF h; obtain ⟨q8, e169, h⟩ := h
  replace h := gU64.outF h; obtain ⟨n9, e170, h⟩ := h
  replace h := gP.outF h; obtain ⟨p10, e171, h⟩ := h
  replace h := gI64.outF h; obtain ⟨n12, e172, h⟩ := h
  refine at_frame [(0, (.pointer p6)), (1, (.int .i64 n7)), (2, (.bool q8)), (3, (.int .u64 n9)), (4, (.pointer p10)), (11, (.int .i64 n12))] (by intro p hp; simp only [List.mem_cons, List.not_mem_nil, or_false] at hp; rcases hp with rfl | rfl | rfl | rfl | rfl | rfl <;> assumption) (Q := fun fr => sh prog (roar_Roar_lay.U0 K) (subAt [.R, .R, .R] (cutAt 2 [.R, .R, .R, .R] (cutAt 3 [.R, .R, .R, .R, .R] (cutAt 4 [.R, .R, .R, .R, .R, .R, .R] (bodyOf Tryz.f531))))) fr w (ctxAt prog (roar_Roar_lay.U0 K) [.R, .R, .R] (cutAt 2 [.R, .R, .R, .R] (cutAt 3 [.R, .R, .R, .R, .R] (cutAt 4 [.R, .R, .R, .R, .R, .R, .R] (bodyOf Tryz.f531)))) (retK prog Tryz.f531.results.toList (S_i64.R K)))) ?_
  apply kc h; kernel_rfl
theorem roar_Roar_lay.ok {p1 : Option Addr} {n2 : Int} {q3 : Bool} {n4 : Int} {p5 : Option Addr} {w : World} {K : Int → World → Prop} (h : roar_Roar_lay.F p1 n2 q3 n4 p5 w K) : roar_Roar_lay.C p1 n2 q3 n4 p5 w K := by
  refine CallsV.mono (callsV_of_sh prog.mixed prog.noNum (args := [(.pointer p1), (.int .i64 n2), (.bool q3), (.int .u64 n4), (.pointer p5)]) Tryz.func531 (c := bodyOf Tryz.f531) (by kernel_rfl) (by kernel_rfl) (by kernel_rfl) (R := S_i64.R K) ?_) fun v w1 h => S_i64.out h
  refine sh_anyCut (cut := roar_Roar_lay.U0 K) (by kernel_rfl) ?_
  refine sh_cutAt (p := [.R, .R, .R, .R, .R, .R, .R]) (l := 4) ?_ (roar_Roar_lay.U0_ok4 K)
  refine sh_cutAt (p := [.R, .R, .R, .R, .R]) (l := 3) ?_ (roar_Roar_lay.U0_ok3 K)
  refine sh_cutAt (p := [.R, .R, .R, .R]) (l := 2) ?_ (roar_Roar_lay.U0_ok2 K)
  refine sh_cutAt (p := [.R, .R, .R]) (l := 1) ?_ (roar_Roar_lay.U0_ok1 K)
  apply kc h; kernel_rfl

def roar_upper.F (n1 : Int) (w : World) (K : Int → World → Prop) : Prop :=
  K (shr .u64 n1 16) w
theorem roar_upper.ok {n1 : Int} {w : World} {K : Int → World → Prop} (h : roar_upper.F n1 w K) : roar_upper.C n1 w K := by
  refine CallsV.mono (callsV_of_sh prog.mixed prog.noNum (args := [(.int .u64 n1)]) Tryz.func532 (c := bodyOf Tryz.f532) (by kernel_rfl) (by kernel_rfl) (by kernel_rfl) (R := S_u64.R K) ?_) fun v w1 h => S_u64.out h
  apply kc h; kernel_rfl

def roar_Roar_start.F (p1 : Option Addr) (w : World) (K : Bool → World → Prop) : Prop :=
  cond (Option.isNone p1)
  (K false w)
  (nn p1 fun b2 o3 =>
  lP w b2 o3 fun p4 =>
  count_Meter_Start.C p4 w fun W5 =>
  nn p1 fun b6 o7 =>
  lL W5 b6 (o7 + 1) fun a8 l9 c10 =>
  K (decide (((l9 : Nat) : Int) > (0 : Int))) W5)
theorem roar_Roar_start.ok {p1 : Option Addr} {w : World} {K : Bool → World → Prop} (h : roar_Roar_start.F p1 w K) : roar_Roar_start.C p1 w K := by
  refine CallsV.mono (callsV_of_sh prog.mixed prog.noNum (args := [(.pointer p1)]) Tryz.func533 (c := bodyOf Tryz.f533) (by kernel_rfl) (by kernel_rfl) (by kernel_rfl) (R := S_b.R K) ?_) fun v w1 h => S_b.out h
  apply kc h; kernel_rfl

def roar_Roar_find.B1 (K : Int → Bool → World → Prop) (p9 : Option Addr) (n10 : Int) : (Int × Int) → World → ((Int × Int) → World → Prop) → Prop := fun s0 W25 next24 => match s0 with
 | (n22, n23) =>
  cond (decide (n22 < n23))
  (nn p9 fun b26 o27 =>
  lP W25 b26 o27 fun p28 =>
  count_Meter_Read.C p28 W25 fun W29 =>
  nn p9 fun b30 o31 =>
  lL W29 b30 (o31 + 1) fun a32 l33 c34 =>
  nn a32 fun b35 o36 =>
  0 ≤ (w64 (Int.tdiv (w64 (n22 + n23)) (2 : Int))) ∧ (w64 (Int.tdiv (w64 (n22 + n23)) (2 : Int))) < ((l33 : Nat) : Int) ∧
  lU64 W29 b35 (o36 + Int.toNat (w64 (Int.tdiv (w64 (n22 + n23)) (2 : Int))) * 2) fun n37 =>
  cond (n37 == n10)
  (K (w64 (Int.tdiv (w64 (n22 + n23)) (2 : Int))) true W29)
  (cond (decide (n37 < n10))
  (next24 ((w64 ((w64 (Int.tdiv (w64 (n22 + n23)) (2 : Int))) + (1 : Int))), n23) W29)
  (next24 (n22, (w64 (Int.tdiv (w64 (n22 + n23)) (2 : Int)))) W29)))
  (K n22 false W25)
def roar_Roar_find.T1 (K : Int → Bool → World → Prop) (p9 : Option Addr) (n10 : Int) (n22 : Int) (n23 : Int) (w : World) : Prop := LoopT (roar_Roar_find.B1 K p9 n10) (n22, n23) w
def roar_Roar_find.F (p1 : Option Addr) (n2 : Int) (w : World) (K : Int → Bool → World → Prop) : Prop :=
  drP w fun W3 =>
  nn p1 fun b4 o5 =>
  lL W3 b4 (o5 + 1) fun a6 l7 c8 =>
  roar_Roar_find.T1 K p1 n2 (0 : Int) ((l7 : Nat) : Int) W3
def roar_Roar_find.U0 (K : Int → Bool → World → Prop) (l : Nat) (fr : Fr) (w : World) : Prop :=
  match l with
 | 1 =>
  gP False (fr 0) fun p9 =>
  gU64 False (fr 1) fun n10 =>
  gI64 False (fr 6) fun n22 =>
  gI64 False (fr 7) fun n23 =>
  roar_Roar_find.T1 K p9 n10 n22 n23 w
 | _ => False
def roar_Roar_find.ext1 (fr : Fr) : Option (Int × Int) :=
  gI64 none (fr 6) fun n22 =>
  gI64 none (fr 7) fun n23 =>
  some (n22, n23)
theorem roar_Roar_find.U0_ok1 (K : Int → Bool → World → Prop) (fr : Fr) (w : World) (h : roar_Roar_find.U0 K 1 fr w) : sh prog (roar_Roar_find.U0 K) (subAt [.R, .R, .L, .B] (bodyOf Tryz.f534)) fr w (ctxAt prog (roar_Roar_find.U0 K) [.R, .R, .L, .B] (bodyOf Tryz.f534) (retK prog Tryz.f534.results.toList (S_i64_b.R K))) := by
  unfold roar_Roar_find.U0 at h
  simp only at h
  replace h := gP.outF h; obtain ⟨p9, e38, h⟩ := h
  replace h := gU64.outF h; obtain ⟨n10, e39, h⟩ := h
  replace h := gI64.outF h; obtain ⟨n22, e40, h⟩ := h
  replace h := gI64.outF h; obtain ⟨n23, e41, h⟩ := h
  refine kc (A := LoopP (sh prog (roar_Roar_find.U0 K) (loopBody (subAt [.R, .R, .L, .B] (bodyOf Tryz.f534)))) fr w (ctxAt prog (roar_Roar_find.U0 K) [.R, .R, .L, .B] (bodyOf Tryz.f534) (retK prog Tryz.f534.results.toList (S_i64_b.R K)))) ?_ (by kernel_rfl)
  refine loop_typed (B := roar_Roar_find.B1 K p9 n10) roar_Roar_find.ext1 (s := (n22, n23)) (by unfold roar_Roar_find.ext1; simp only [e40, e41]; rfl) h ?_
  clear h
  clear e40
  clear e41
  intro s0 fr1 w1 next24 hs hk h
  unfold roar_Roar_find.ext1 at hs
  replace hs := noN (gI64.out (d := none) (x := _) hs); obtain ⟨n22a, e42, hs⟩ := hs
  replace hs := noN (gI64.out (d := none) (x := _) hs); obtain ⟨n23a, e43, hs⟩ := hs
  replace hs := Option.some.inj hs; subst hs
  have e44 : fr1 0 = (.pointer p9) := (hk 0 (by kernel_rfl)).trans e38
  have e45 : fr1 1 = (.int .u64 n10) := (hk 1 (by kernel_rfl)).trans e39
  refine at_frame [(6, (.int .i64 n22a)), (7, (.int .i64 n23a)), (0, (.pointer p9)), (1, (.int .u64 n10))] (by intro p hp; simp only [List.mem_cons, List.not_mem_nil, or_false] at hp; rcases hp with rfl | rfl | rfl | rfl <;> assumption) (Q := fun fr => sh prog (roar_Roar_find.U0 K) (loopBody (subAt [.R, .R, .L, .B] (bodyOf Tryz.f534))) fr w1 (nextK roar_Roar_find.ext1 next24 (ctxAt prog (roar_Roar_find.U0 K) [.R, .R, .L, .B] (bodyOf Tryz.f534) (retK prog Tryz.f534.results.toList (S_i64_b.R K))))) ?_
  apply kc h; kernel_rfl
theorem roar_Roar_find.ok {p1 : Option Addr} {n2 : Int} {w : World} {K : Int → Bool → World → Prop} (h : roar_Roar_find.F p1 n2 w K) : roar_Roar_find.C p1 n2 w K := by
  refine CallsV.mono (callsV_of_sh prog.mixed prog.noNum (args := [(.pointer p1), (.int .u64 n2)]) Tryz.func534 (c := bodyOf Tryz.f534) (by kernel_rfl) (by kernel_rfl) (by kernel_rfl) (R := S_i64_b.R K) ?_) fun v w1 h => S_i64_b.out h
  refine sh_anyCut (cut := roar_Roar_find.U0 K) (by kernel_rfl) ?_
  refine sh_cutAt (p := [.R, .R, .L, .B]) (l := 1) ?_ (roar_Roar_find.U0_ok1 K)
  apply kc h; kernel_rfl

def roar_Roar_see.F (p1 : Option Addr) (n2 : Int) (w : World) (K : Int → Option Addr → Bool → World → Prop) : Prop :=
  alP w #[(.int .u64 (0 : Int)), (.pointer none)] 515 fun r3 W4 =>
  cond (decide (n2 < (0 : Int)))
  (stCs r3 0 [(.int .u64 (0 : Int)), (.pointer none)] W4 fun W5 =>
  lAu64_p W5 r3 0 fun n6 p7 =>
  K n6 p7 false W5)
  (nn p1 fun b8 o9 =>
  lL W4 b8 (o9 + 1) fun a10 l11 c12 =>
  cond (decide (n2 ≥ ((l11 : Nat) : Int)))
  (stCs r3 0 [(.int .u64 (0 : Int)), (.pointer none)] W4 fun W13 =>
  lAu64_p W13 r3 0 fun n14 p15 =>
  K n14 p15 false W13)
  (nn p1 fun b16 o17 =>
  lP W4 b16 o17 fun p18 =>
  count_Meter_Read.C p18 W4 fun W19 =>
  nn p1 fun b20 o21 =>
  lL W19 b20 (o21 + 1) fun a22 l23 c24 =>
  nn a22 fun b25 o26 =>
  0 ≤ n2 ∧ n2 < ((l23 : Nat) : Int) ∧
  lAu64_p W19 b25 (o26 + Int.toNat n2 * 2) fun n27 p28 =>
  stCs r3 0 [(.int .u64 n27), (.pointer p28)] W19 fun W29 =>
  lAu64_p W29 r3 0 fun n30 p31 =>
  K n30 p31 true W29))
theorem roar_Roar_see.ok {p1 : Option Addr} {n2 : Int} {w : World} {K : Int → Option Addr → Bool → World → Prop} (h : roar_Roar_see.F p1 n2 w K) : roar_Roar_see.C p1 n2 w K := by
  refine CallsV.mono (callsV_of_sh prog.mixed prog.noNum (args := [(.pointer p1), (.int .i64 n2)]) Tryz.func535 (c := bodyOf Tryz.f535) (by kernel_rfl) (by kernel_rfl) (by kernel_rfl) (R := S_au64_pz_b.R K) ?_) fun v w1 h => S_au64_pz_b.out h
  apply kc h; kernel_rfl

def roar_entry_ends.F (n1 : Int) (p2 : Option Addr) (w : World) (K : Int → Int → World → Prop) : Prop :=
  alP w #[(.int .u64 n1), (.pointer p2)] 515 fun r3 W4 =>
  lP W4 r3 1 fun p5 =>
  box_Box_Next.C p5 (0 : Int) W4 fun n6 q7 W8 =>
  lP W8 r3 1 fun p9 =>
  box_Box_Prev.C p9 (65535 : Int) W8 fun n10 q11 W12 =>
  drP W12 fun W13 =>
  lAu64_p W13 r3 0 fun n14 p15 =>
  lAu64_p W13 r3 0 fun n16 p17 =>
  roar_entry_join.C n14 p15 n6 W13 fun n18 W19 =>
  cellsAre W19 r3 0 [(.int .u64 n16), (.pointer p17)] ∧
  roar_entry_join.C n16 p17 n10 W19 fun n20 W21 =>
  K n18 n20 W21
theorem roar_entry_ends.ok {n1 : Int} {p2 : Option Addr} {w : World} {K : Int → Int → World → Prop} (h : roar_entry_ends.F n1 p2 w K) : roar_entry_ends.C n1 p2 w K := by
  refine CallsV.mono (callsV_of_sh prog.mixed prog.noNum (args := [(.agg #[(.int .u64 n1), (.pointer p2)])]) Tryz.func540 (c := bodyOf Tryz.f540) (by kernel_rfl) (by kernel_rfl) (by kernel_rfl) (R := S_u64_u64.R K) ?_) fun v w1 h => S_u64_u64.out h
  apply kc h; kernel_rfl

def roar_cost.F (p1 : Option Addr) (w : World) (K : Int → World → Prop) : Prop :=
  box_Box_Cost.C p1 w fun n2 W3 =>
  K (w64 ((1 : Int) + n2)) W3
theorem roar_cost.ok {p1 : Option Addr} {w : World} {K : Int → World → Prop} (h : roar_cost.F p1 w K) : roar_cost.C p1 w K := by
  refine CallsV.mono (callsV_of_sh prog.mixed prog.noNum (args := [(.pointer p1)]) Tryz.func555 (c := bodyOf Tryz.f555) (by kernel_rfl) (by kernel_rfl) (by kernel_rfl) (R := S_i64.R K) ?_) fun v w1 h => S_i64.out h
  apply kc h; kernel_rfl

def slices_Replace_roar_entry_roar_entry.F (a1 : Option Addr) (l2 : Nat) (c3 : Nat) (n4 : Int) (n5 : Int) (a6 : Option Addr) (l7 : Nat) (c8 : Nat) (w : World) (K : Option Addr → Nat → Nat → World → Prop) : Prop :=
  0 ≤ n5 ∧ n5 ≤ ((c3 : Nat) : Int) ∧
  0 ≤ n4 ∧ n4 ≤ (((Int.toNat n5) : Nat) : Int) ∧
  cond (n4 == n5)
  (slices_Insert_roar_entry_roar_entry.C a1 l2 c3 n4 a6 l7 c8 w fun a9 l10 c11 W12 =>
  K a9 l10 c11 W12)
  (cond (n5 == ((l2 : Nat) : Int))
  (0 ≤ n4 ∧ n4 ≤ ((c3 : Nat) : Int) ∧
  AppV prog #[330, 330] 330 (.slice (slA a1 c3 0 2) ((Int.toNat n4) - 0) (c3 - 0)) (.slice a6 l7 c8) w fun x13 W14 =>
  ∃ (a15 : Option Addr), ∃ (l16 : Nat), ∃ (c17 : Nat), x13 = (.slice a15 l16 c17) ∧
  cond (decide (((l16 : Nat) : Int) < ((l2 : Nat) : Int)))
  (0 ≤ ((l16 : Nat) : Int) ∧ ((l16 : Nat) : Int) ≤ ((l2 : Nat) : Int) ∧
  ClrV prog #[330] 0 (.slice (slA a1 c3 (Int.toNat ((l16 : Nat) : Int)) 2) (l2 - (Int.toNat ((l16 : Nat) : Int))) (c3 - (Int.toNat ((l16 : Nat) : Int)))) W14 fun x18 W19 =>
  K a15 l16 c17 W19)
  (K a15 l16 c17 W14))
  (drP w fun W20 =>
  0 ≤ n4 ∧ n4 ≤ ((c3 : Nat) : Int) ∧
  0 ≤ n5 ∧ n5 ≤ ((l2 : Nat) : Int) ∧
  cond (decide ((w64 ((w64 (((((Int.toNat n4) - 0) : Nat) : Int) + ((l7 : Nat) : Int))) + (((l2 - (Int.toNat n5)) : Nat) : Int))) > ((c3 : Nat) : Int)))
  (0 ≤ n4 ∧ n4 ≤ ((c3 : Nat) : Int) ∧
  AppV prog #[330, 3] 330 (.slice (slA a1 c3 0 2) ((Int.toNat n4) - 0) (c3 - 0)) (.int .i64 (w64 ((w64 ((w64 (((((Int.toNat n4) - 0) : Nat) : Int) + ((l7 : Nat) : Int))) + (((l2 - (Int.toNat n5)) : Nat) : Int))) - n4))) W20 fun x21 W22 =>
  ∃ (a23 : Option Addr), ∃ (l24 : Nat), ∃ (c25 : Nat), x21 = (.slice a23 l24 c25) ∧
  0 ≤ n4 ∧ n4 ≤ ((l24 : Nat) : Int) ∧
  CpyV prog #[330, 330] 3 (.slice (slA a23 c25 (Int.toNat n4) 2) (l24 - (Int.toNat n4)) (c25 - (Int.toNat n4))) (.slice a6 l7 c8) W22 fun x26 W27 =>
  ∃ (n28 : Int), x26 = (.int .i64 n28) ∧
  drP W27 fun W29 =>
  0 ≤ (w64 (n4 + ((l7 : Nat) : Int))) ∧ (w64 (n4 + ((l7 : Nat) : Int))) ≤ ((l24 : Nat) : Int) ∧
  0 ≤ n5 ∧ n5 ≤ ((l2 : Nat) : Int) ∧
  CpyV prog #[330, 330] 3 (.slice (slA a23 c25 (Int.toNat (w64 (n4 + ((l7 : Nat) : Int)))) 2) (l24 - (Int.toNat (w64 (n4 + ((l7 : Nat) : Int))))) (c25 - (Int.toNat (w64 (n4 + ((l7 : Nat) : Int)))))) (.slice (slA a1 c3 (Int.toNat n5) 2) (l2 - (Int.toNat n5)) (c3 - (Int.toNat n5))) W29 fun x30 W31 =>
  ∃ (n32 : Int), x30 = (.int .i64 n32) ∧
  K a23 l24 c25 W31)
  (0 ≤ (w64 ((w64 (((((Int.toNat n4) - 0) : Nat) : Int) + ((l7 : Nat) : Int))) + (((l2 - (Int.toNat n5)) : Nat) : Int))) ∧ (w64 ((w64 (((((Int.toNat n4) - 0) : Nat) : Int) + ((l7 : Nat) : Int))) + (((l2 - (Int.toNat n5)) : Nat) : Int))) ≤ ((c3 : Nat) : Int) ∧
  cond (decide ((w64 (n4 + ((l7 : Nat) : Int))) ≤ n5))
  (0 ≤ n4 ∧ n4 ≤ ((((Int.toNat (w64 ((w64 (((((Int.toNat n4) - 0) : Nat) : Int) + ((l7 : Nat) : Int))) + (((l2 - (Int.toNat n5)) : Nat) : Int)))) - 0) : Nat) : Int) ∧
  CpyV prog #[330, 330] 3 (.slice (slA (slA a1 c3 0 2) (c3 - 0) (Int.toNat n4) 2) (((Int.toNat (w64 ((w64 (((((Int.toNat n4) - 0) : Nat) : Int) + ((l7 : Nat) : Int))) + (((l2 - (Int.toNat n5)) : Nat) : Int)))) - 0) - (Int.toNat n4)) ((c3 - 0) - (Int.toNat n4))) (.slice a6 l7 c8) W20 fun x33 W34 =>
  ∃ (n35 : Int), x33 = (.int .i64 n35) ∧
  drP W34 fun W36 =>
  0 ≤ (w64 (n4 + ((l7 : Nat) : Int))) ∧ (w64 (n4 + ((l7 : Nat) : Int))) ≤ ((((Int.toNat (w64 ((w64 (((((Int.toNat n4) - 0) : Nat) : Int) + ((l7 : Nat) : Int))) + (((l2 - (Int.toNat n5)) : Nat) : Int)))) - 0) : Nat) : Int) ∧
  0 ≤ n5 ∧ n5 ≤ ((l2 : Nat) : Int) ∧
  CpyV prog #[330, 330] 3 (.slice (slA (slA a1 c3 0 2) (c3 - 0) (Int.toNat (w64 (n4 + ((l7 : Nat) : Int)))) 2) (((Int.toNat (w64 ((w64 (((((Int.toNat n4) - 0) : Nat) : Int) + ((l7 : Nat) : Int))) + (((l2 - (Int.toNat n5)) : Nat) : Int)))) - 0) - (Int.toNat (w64 (n4 + ((l7 : Nat) : Int))))) ((c3 - 0) - (Int.toNat (w64 (n4 + ((l7 : Nat) : Int)))))) (.slice (slA a1 c3 (Int.toNat n5) 2) (l2 - (Int.toNat n5)) (c3 - (Int.toNat n5))) W36 fun x37 W38 =>
  ∃ (n39 : Int), x37 = (.int .i64 n39) ∧
  0 ≤ (w64 ((w64 (((((Int.toNat n4) - 0) : Nat) : Int) + ((l7 : Nat) : Int))) + (((l2 - (Int.toNat n5)) : Nat) : Int))) ∧ (w64 ((w64 (((((Int.toNat n4) - 0) : Nat) : Int) + ((l7 : Nat) : Int))) + (((l2 - (Int.toNat n5)) : Nat) : Int))) ≤ ((l2 : Nat) : Int) ∧
  ClrV prog #[330] 0 (.slice (slA a1 c3 (Int.toNat (w64 ((w64 (((((Int.toNat n4) - 0) : Nat) : Int) + ((l7 : Nat) : Int))) + (((l2 - (Int.toNat n5)) : Nat) : Int)))) 2) (l2 - (Int.toNat (w64 ((w64 (((((Int.toNat n4) - 0) : Nat) : Int) + ((l7 : Nat) : Int))) + (((l2 - (Int.toNat n5)) : Nat) : Int))))) (c3 - (Int.toNat (w64 ((w64 (((((Int.toNat n4) - 0) : Nat) : Int) + ((l7 : Nat) : Int))) + (((l2 - (Int.toNat n5)) : Nat) : Int)))))) W38 fun x40 W41 =>
  K (slA a1 c3 0 2) ((Int.toNat (w64 ((w64 (((((Int.toNat n4) - 0) : Nat) : Int) + ((l7 : Nat) : Int))) + (((l2 - (Int.toNat n5)) : Nat) : Int)))) - 0) (c3 - 0) W41)
  (0 ≤ (w64 (n4 + ((l7 : Nat) : Int))) ∧ (w64 (n4 + ((l7 : Nat) : Int))) ≤ ((((Int.toNat (w64 ((w64 (((((Int.toNat n4) - 0) : Nat) : Int) + ((l7 : Nat) : Int))) + (((l2 - (Int.toNat n5)) : Nat) : Int)))) - 0) : Nat) : Int) ∧
  DynV prog (.func (.func 571) #[] #[]) #[(.slice (slA (slA a1 c3 0 2) (c3 - 0) (Int.toNat (w64 (n4 + ((l7 : Nat) : Int)))) 2) (((Int.toNat (w64 ((w64 (((((Int.toNat n4) - 0) : Nat) : Int) + ((l7 : Nat) : Int))) + (((l2 - (Int.toNat n5)) : Nat) : Int)))) - 0) - (Int.toNat (w64 (n4 + ((l7 : Nat) : Int))))) ((c3 - 0) - (Int.toNat (w64 (n4 + ((l7 : Nat) : Int)))))), (.slice a6 l7 c8)] W20 fun x42 W43 =>
  ∃ (q44 : Bool), x42 = (.bool q44) ∧
  cond (!q44)
  (drP W43 fun W45 =>
  0 ≤ (w64 (n4 + ((l7 : Nat) : Int))) ∧ (w64 (n4 + ((l7 : Nat) : Int))) ≤ ((((Int.toNat (w64 ((w64 (((((Int.toNat n4) - 0) : Nat) : Int) + ((l7 : Nat) : Int))) + (((l2 - (Int.toNat n5)) : Nat) : Int)))) - 0) : Nat) : Int) ∧
  0 ≤ n5 ∧ n5 ≤ ((l2 : Nat) : Int) ∧
  CpyV prog #[330, 330] 3 (.slice (slA (slA a1 c3 0 2) (c3 - 0) (Int.toNat (w64 (n4 + ((l7 : Nat) : Int)))) 2) (((Int.toNat (w64 ((w64 (((((Int.toNat n4) - 0) : Nat) : Int) + ((l7 : Nat) : Int))) + (((l2 - (Int.toNat n5)) : Nat) : Int)))) - 0) - (Int.toNat (w64 (n4 + ((l7 : Nat) : Int))))) ((c3 - 0) - (Int.toNat (w64 (n4 + ((l7 : Nat) : Int)))))) (.slice (slA a1 c3 (Int.toNat n5) 2) (l2 - (Int.toNat n5)) (c3 - (Int.toNat n5))) W45 fun x46 W47 =>
  ∃ (n48 : Int), x46 = (.int .i64 n48) ∧
  0 ≤ n4 ∧ n4 ≤ ((((Int.toNat (w64 ((w64 (((((Int.toNat n4) - 0) : Nat) : Int) + ((l7 : Nat) : Int))) + (((l2 - (Int.toNat n5)) : Nat) : Int)))) - 0) : Nat) : Int) ∧
  CpyV prog #[330, 330] 3 (.slice (slA (slA a1 c3 0 2) (c3 - 0) (Int.toNat n4) 2) (((Int.toNat (w64 ((w64 (((((Int.toNat n4) - 0) : Nat) : Int) + ((l7 : Nat) : Int))) + (((l2 - (Int.toNat n5)) : Nat) : Int)))) - 0) - (Int.toNat n4)) ((c3 - 0) - (Int.toNat n4))) (.slice a6 l7 c8) W47 fun x49 W50 =>
  ∃ (n51 : Int), x49 = (.int .i64 n51) ∧
  K (slA a1 c3 0 2) ((Int.toNat (w64 ((w64 (((((Int.toNat n4) - 0) : Nat) : Int) + ((l7 : Nat) : Int))) + (((l2 - (Int.toNat n5)) : Nat) : Int)))) - 0) (c3 - 0) W50)
  (0 ≤ n5 ∧ n5 ≤ (((c3 - 0) : Nat) : Int) ∧
  0 ≤ n4 ∧ n4 ≤ (((Int.toNat n5) : Nat) : Int) ∧
  DynV prog (.func (.func 571) #[] #[]) #[(.slice (slA (slA a1 c3 0 2) (c3 - 0) (Int.toNat n4) 2) ((Int.toNat n5) - (Int.toNat n4)) ((c3 - 0) - (Int.toNat n4))), (.slice a6 l7 c8)] W43 fun x52 W53 =>
  ∃ (q54 : Bool), x52 = (.bool q54) ∧
  cond (!q54)
  (drP W53 fun W55 =>
  0 ≤ n5 ∧ n5 ≤ (((c3 - 0) : Nat) : Int) ∧
  0 ≤ n4 ∧ n4 ≤ (((Int.toNat n5) : Nat) : Int) ∧
  0 ≤ (w64 (((l7 : Nat) : Int) - (w64 (n5 - n4)))) ∧ (w64 (((l7 : Nat) : Int) - (w64 (n5 - n4)))) ≤ ((l7 : Nat) : Int) ∧
  CpyV prog #[330, 330] 3 (.slice (slA (slA a1 c3 0 2) (c3 - 0) (Int.toNat n4) 2) ((Int.toNat n5) - (Int.toNat n4)) ((c3 - 0) - (Int.toNat n4))) (.slice (slA a6 c8 (Int.toNat (w64 (((l7 : Nat) : Int) - (w64 (n5 - n4))))) 2) (l7 - (Int.toNat (w64 (((l7 : Nat) : Int) - (w64 (n5 - n4)))))) (c8 - (Int.toNat (w64 (((l7 : Nat) : Int) - (w64 (n5 - n4))))))) W55 fun x56 W57 =>
  ∃ (n58 : Int), x56 = (.int .i64 n58) ∧
  drP W57 fun W59 =>
  0 ≤ ((l2 : Nat) : Int) ∧ ((l2 : Nat) : Int) ≤ ((((Int.toNat (w64 ((w64 (((((Int.toNat n4) - 0) : Nat) : Int) + ((l7 : Nat) : Int))) + (((l2 - (Int.toNat n5)) : Nat) : Int)))) - 0) : Nat) : Int) ∧
  0 ≤ (w64 (((l7 : Nat) : Int) - (w64 (n5 - n4)))) ∧ (w64 (((l7 : Nat) : Int) - (w64 (n5 - n4)))) ≤ ((c8 : Nat) : Int) ∧
  CpyV prog #[330, 330] 3 (.slice (slA (slA a1 c3 0 2) (c3 - 0) (Int.toNat ((l2 : Nat) : Int)) 2) (((Int.toNat (w64 ((w64 (((((Int.toNat n4) - 0) : Nat) : Int) + ((l7 : Nat) : Int))) + (((l2 - (Int.toNat n5)) : Nat) : Int)))) - 0) - (Int.toNat ((l2 : Nat) : Int))) ((c3 - 0) - (Int.toNat ((l2 : Nat) : Int)))) (.slice (slA a6 c8 0 2) ((Int.toNat (w64 (((l7 : Nat) : Int) - (w64 (n5 - n4))))) - 0) (c8 - 0)) W59 fun x60 W61 =>
  ∃ (n62 : Int), x60 = (.int .i64 n62) ∧
  0 ≤ n4 ∧ n4 ≤ ((((Int.toNat (w64 ((w64 (((((Int.toNat n4) - 0) : Nat) : Int) + ((l7 : Nat) : Int))) + (((l2 - (Int.toNat n5)) : Nat) : Int)))) - 0) : Nat) : Int) ∧
  slices_rotateRight_roar_entry.C (slA (slA a1 c3 0 2) (c3 - 0) (Int.toNat n4) 2) (((Int.toNat (w64 ((w64 (((((Int.toNat n4) - 0) : Nat) : Int) + ((l7 : Nat) : Int))) + (((l2 - (Int.toNat n5)) : Nat) : Int)))) - 0) - (Int.toNat n4)) ((c3 - 0) - (Int.toNat n4)) (w64 (((l7 : Nat) : Int) - (w64 (n5 - n4)))) W61 fun W63 =>
  K (slA a1 c3 0 2) ((Int.toNat (w64 ((w64 (((((Int.toNat n4) - 0) : Nat) : Int) + ((l7 : Nat) : Int))) + (((l2 - (Int.toNat n5)) : Nat) : Int)))) - 0) (c3 - 0) W63)
  (0 ≤ ((l2 : Nat) : Int) ∧ ((l2 : Nat) : Int) ≤ ((((Int.toNat (w64 ((w64 (((((Int.toNat n4) - 0) : Nat) : Int) + ((l7 : Nat) : Int))) + (((l2 - (Int.toNat n5)) : Nat) : Int)))) - 0) : Nat) : Int) ∧
  DynV prog (.func (.func 571) #[] #[]) #[(.slice (slA (slA a1 c3 0 2) (c3 - 0) (Int.toNat ((l2 : Nat) : Int)) 2) (((Int.toNat (w64 ((w64 (((((Int.toNat n4) - 0) : Nat) : Int) + ((l7 : Nat) : Int))) + (((l2 - (Int.toNat n5)) : Nat) : Int)))) - 0) - (Int.toNat ((l2 : Nat) : Int))) ((c3 - 0) - (Int.toNat ((l2 : Nat) : Int)))), (.slice a6 l7 c8)] W53 fun x64 W65 =>
  ∃ (q66 : Bool), x64 = (.bool q66) ∧
  cond (!q66)
  (drP W65 fun W67 =>
  0 ≤ ((l2 : Nat) : Int) ∧ ((l2 : Nat) : Int) ≤ ((((Int.toNat (w64 ((w64 (((((Int.toNat n4) - 0) : Nat) : Int) + ((l7 : Nat) : Int))) + (((l2 - (Int.toNat n5)) : Nat) : Int)))) - 0) : Nat) : Int) ∧
  0 ≤ (w64 (((l7 : Nat) : Int) - (w64 (n5 - n4)))) ∧ (w64 (((l7 : Nat) : Int) - (w64 (n5 - n4)))) ≤ ((c8 : Nat) : Int) ∧
  CpyV prog #[330, 330] 3 (.slice (slA (slA a1 c3 0 2) (c3 - 0) (Int.toNat ((l2 : Nat) : Int)) 2) (((Int.toNat (w64 ((w64 (((((Int.toNat n4) - 0) : Nat) : Int) + ((l7 : Nat) : Int))) + (((l2 - (Int.toNat n5)) : Nat) : Int)))) - 0) - (Int.toNat ((l2 : Nat) : Int))) ((c3 - 0) - (Int.toNat ((l2 : Nat) : Int)))) (.slice (slA a6 c8 0 2) ((Int.toNat (w64 (((l7 : Nat) : Int) - (w64 (n5 - n4))))) - 0) (c8 - 0)) W67 fun x68 W69 =>
  ∃ (n70 : Int), x68 = (.int .i64 n70) ∧
  drP W69 fun W71 =>
  0 ≤ n5 ∧ n5 ≤ (((c3 - 0) : Nat) : Int) ∧
  0 ≤ n4 ∧ n4 ≤ (((Int.toNat n5) : Nat) : Int) ∧
  0 ≤ (w64 (((l7 : Nat) : Int) - (w64 (n5 - n4)))) ∧ (w64 (((l7 : Nat) : Int) - (w64 (n5 - n4)))) ≤ ((l7 : Nat) : Int) ∧
  CpyV prog #[330, 330] 3 (.slice (slA (slA a1 c3 0 2) (c3 - 0) (Int.toNat n4) 2) ((Int.toNat n5) - (Int.toNat n4)) ((c3 - 0) - (Int.toNat n4))) (.slice (slA a6 c8 (Int.toNat (w64 (((l7 : Nat) : Int) - (w64 (n5 - n4))))) 2) (l7 - (Int.toNat (w64 (((l7 : Nat) : Int) - (w64 (n5 - n4)))))) (c8 - (Int.toNat (w64 (((l7 : Nat) : Int) - (w64 (n5 - n4))))))) W71 fun x72 W73 =>
  ∃ (n74 : Int), x72 = (.int .i64 n74) ∧
  0 ≤ n4 ∧ n4 ≤ ((((Int.toNat (w64 ((w64 (((((Int.toNat n4) - 0) : Nat) : Int) + ((l7 : Nat) : Int))) + (((l2 - (Int.toNat n5)) : Nat) : Int)))) - 0) : Nat) : Int) ∧
  slices_rotateRight_roar_entry.C (slA (slA a1 c3 0 2) (c3 - 0) (Int.toNat n4) 2) (((Int.toNat (w64 ((w64 (((((Int.toNat n4) - 0) : Nat) : Int) + ((l7 : Nat) : Int))) + (((l2 - (Int.toNat n5)) : Nat) : Int)))) - 0) - (Int.toNat n4)) ((c3 - 0) - (Int.toNat n4)) (w64 (((l7 : Nat) : Int) - (w64 (n5 - n4)))) W73 fun W75 =>
  K (slA a1 c3 0 2) ((Int.toNat (w64 ((w64 (((((Int.toNat n4) - 0) : Nat) : Int) + ((l7 : Nat) : Int))) + (((l2 - (Int.toNat n5)) : Nat) : Int)))) - 0) (c3 - 0) W75)
  (0 ≤ n5 ∧ n5 ≤ ((l2 : Nat) : Int) ∧
  slices_startIdx_roar_entry.C a6 l7 c8 (slA a1 c3 (Int.toNat n5) 2) (l2 - (Int.toNat n5)) (c3 - (Int.toNat n5)) W65 fun n76 W77 =>
  0 ≤ n4 ∧ n4 ≤ ((((Int.toNat (w64 ((w64 (((((Int.toNat n4) - 0) : Nat) : Int) + ((l7 : Nat) : Int))) + (((l2 - (Int.toNat n5)) : Nat) : Int)))) - 0) : Nat) : Int) ∧
  CpyV prog #[330, 330] 3 (.slice (slA (slA a1 c3 0 2) (c3 - 0) (Int.toNat n4) 2) (((Int.toNat (w64 ((w64 (((((Int.toNat n4) - 0) : Nat) : Int) + ((l7 : Nat) : Int))) + (((l2 - (Int.toNat n5)) : Nat) : Int)))) - 0) - (Int.toNat n4)) ((c3 - 0) - (Int.toNat n4))) (.slice a6 l7 c8) W77 fun x78 W79 =>
  ∃ (n80 : Int), x78 = (.int .i64 n80) ∧
  drP W79 fun W81 =>
  0 ≤ (w64 (n4 + ((l7 : Nat) : Int))) ∧ (w64 (n4 + ((l7 : Nat) : Int))) ≤ ((((Int.toNat (w64 ((w64 (((((Int.toNat n4) - 0) : Nat) : Int) + ((l7 : Nat) : Int))) + (((l2 - (Int.toNat n5)) : Nat) : Int)))) - 0) : Nat) : Int) ∧
  0 ≤ (w64 (n4 + n76)) ∧ (w64 (n4 + n76)) ≤ ((((Int.toNat (w64 ((w64 (((((Int.toNat n4) - 0) : Nat) : Int) + ((l7 : Nat) : Int))) + (((l2 - (Int.toNat n5)) : Nat) : Int)))) - 0) : Nat) : Int) ∧
  CpyV prog #[330, 330] 3 (.slice (slA (slA a1 c3 0 2) (c3 - 0) (Int.toNat (w64 (n4 + ((l7 : Nat) : Int)))) 2) (((Int.toNat (w64 ((w64 (((((Int.toNat n4) - 0) : Nat) : Int) + ((l7 : Nat) : Int))) + (((l2 - (Int.toNat n5)) : Nat) : Int)))) - 0) - (Int.toNat (w64 (n4 + ((l7 : Nat) : Int))))) ((c3 - 0) - (Int.toNat (w64 (n4 + ((l7 : Nat) : Int)))))) (.slice (slA (slA a1 c3 0 2) (c3 - 0) (Int.toNat (w64 (n4 + n76))) 2) (((Int.toNat (w64 ((w64 (((((Int.toNat n4) - 0) : Nat) : Int) + ((l7 : Nat) : Int))) + (((l2 - (Int.toNat n5)) : Nat) : Int)))) - 0) - (Int.toNat (w64 (n4 + n76)))) ((c3 - 0) - (Int.toNat (w64 (n4 + n76))))) W81 fun x82 W83 =>
  ∃ (n84 : Int), x82 = (.int .i64 n84) ∧
  K (slA a1 c3 0 2) ((Int.toNat (w64 ((w64 (((((Int.toNat n4) - 0) : Nat) : Int) + ((l7 : Nat) : Int))) + (((l2 - (Int.toNat n5)) : Nat) : Int)))) - 0) (c3 - 0) W83)))))))
theorem slices_Replace_roar_entry_roar_entry.ok {a1 : Option Addr} {l2 : Nat} {c3 : Nat} {n4 : Int} {n5 : Int} {a6 : Option Addr} {l7 : Nat} {c8 : Nat} {w : World} {K : Option Addr → Nat → Nat → World → Prop} (h : slices_Replace_roar_entry_roar_entry.F a1 l2 c3 n4 n5 a6 l7 c8 w K) : slices_Replace_roar_entry_roar_entry.C a1 l2 c3 n4 n5 a6 l7 c8 w K := by
  refine CallsV.mono (callsV_of_sh prog.mixed prog.noNum (args := [(.slice a1 l2 c3), (.int .i64 n4), (.int .i64 n5), (.slice a6 l7 c8)]) Tryz.func556 (c := bodyOf Tryz.f556) (by kernel_rfl) (by kernel_rfl) (by kernel_rfl) (R := S_l.R K) ?_) fun v w1 h => S_l.out h
  apply kc h; kernel_rfl

def slices_Insert_roar_entry_roar_entry.F (a1 : Option Addr) (l2 : Nat) (c3 : Nat) (n4 : Int) (a5 : Option Addr) (l6 : Nat) (c7 : Nat) (w : World) (K : Option Addr → Nat → Nat → World → Prop) : Prop :=
  0 ≤ n4 ∧ n4 ≤ ((l2 : Nat) : Int) ∧
  cond (((l6 : Nat) : Int) == (0 : Int))
  (K a1 l2 c3 w)
  (cond (n4 == ((l2 : Nat) : Int))
  (AppV prog #[330, 330] 330 (.slice a1 l2 c3) (.slice a5 l6 c7) w fun x8 W9 =>
  ∃ (a10 : Option Addr), ∃ (l11 : Nat), ∃ (c12 : Nat), x8 = (.slice a10 l11 c12) ∧
  K a10 l11 c12 W9)
  (cond (decide ((w64 (((l2 : Nat) : Int) + ((l6 : Nat) : Int))) > ((c3 : Nat) : Int)))
  (0 ≤ n4 ∧ n4 ≤ ((c3 : Nat) : Int) ∧
  AppV prog #[330, 3] 330 (.slice (slA a1 c3 0 2) ((Int.toNat n4) - 0) (c3 - 0)) (.int .i64 (w64 ((w64 (((l2 : Nat) : Int) + ((l6 : Nat) : Int))) - n4))) w fun x13 W14 =>
  ∃ (a15 : Option Addr), ∃ (l16 : Nat), ∃ (c17 : Nat), x13 = (.slice a15 l16 c17) ∧
  0 ≤ n4 ∧ n4 ≤ ((l16 : Nat) : Int) ∧
  CpyV prog #[330, 330] 3 (.slice (slA a15 c17 (Int.toNat n4) 2) (l16 - (Int.toNat n4)) (c17 - (Int.toNat n4))) (.slice a5 l6 c7) W14 fun x18 W19 =>
  ∃ (n20 : Int), x18 = (.int .i64 n20) ∧
  drP W19 fun W21 =>
  0 ≤ (w64 (n4 + ((l6 : Nat) : Int))) ∧ (w64 (n4 + ((l6 : Nat) : Int))) ≤ ((l16 : Nat) : Int) ∧
  0 ≤ n4 ∧ n4 ≤ ((l2 : Nat) : Int) ∧
  CpyV prog #[330, 330] 3 (.slice (slA a15 c17 (Int.toNat (w64 (n4 + ((l6 : Nat) : Int)))) 2) (l16 - (Int.toNat (w64 (n4 + ((l6 : Nat) : Int))))) (c17 - (Int.toNat (w64 (n4 + ((l6 : Nat) : Int)))))) (.slice (slA a1 c3 (Int.toNat n4) 2) (l2 - (Int.toNat n4)) (c3 - (Int.toNat n4))) W21 fun x22 W23 =>
  ∃ (n24 : Int), x22 = (.int .i64 n24) ∧
  K a15 l16 c17 W23)
  (0 ≤ (w64 (((l2 : Nat) : Int) + ((l6 : Nat) : Int))) ∧ (w64 (((l2 : Nat) : Int) + ((l6 : Nat) : Int))) ≤ ((c3 : Nat) : Int) ∧
  0 ≤ (w64 (n4 + ((l6 : Nat) : Int))) ∧ (w64 (n4 + ((l6 : Nat) : Int))) ≤ ((((Int.toNat (w64 (((l2 : Nat) : Int) + ((l6 : Nat) : Int)))) - 0) : Nat) : Int) ∧
  DynV prog (.func (.func 571) #[] #[]) #[(.slice a5 l6 c7), (.slice (slA (slA a1 c3 0 2) (c3 - 0) (Int.toNat (w64 (n4 + ((l6 : Nat) : Int)))) 2) (((Int.toNat (w64 (((l2 : Nat) : Int) + ((l6 : Nat) : Int)))) - 0) - (Int.toNat (w64 (n4 + ((l6 : Nat) : Int))))) ((c3 - 0) - (Int.toNat (w64 (n4 + ((l6 : Nat) : Int))))))] w fun x25 W26 =>
  ∃ (q27 : Bool), x25 = (.bool q27) ∧
  cond (!q27)
  (drP W26 fun W28 =>
  0 ≤ (w64 (n4 + ((l6 : Nat) : Int))) ∧ (w64 (n4 + ((l6 : Nat) : Int))) ≤ ((((Int.toNat (w64 (((l2 : Nat) : Int) + ((l6 : Nat) : Int)))) - 0) : Nat) : Int) ∧
  0 ≤ n4 ∧ n4 ≤ ((((Int.toNat (w64 (((l2 : Nat) : Int) + ((l6 : Nat) : Int)))) - 0) : Nat) : Int) ∧
  CpyV prog #[330, 330] 3 (.slice (slA (slA a1 c3 0 2) (c3 - 0) (Int.toNat (w64 (n4 + ((l6 : Nat) : Int)))) 2) (((Int.toNat (w64 (((l2 : Nat) : Int) + ((l6 : Nat) : Int)))) - 0) - (Int.toNat (w64 (n4 + ((l6 : Nat) : Int))))) ((c3 - 0) - (Int.toNat (w64 (n4 + ((l6 : Nat) : Int)))))) (.slice (slA (slA a1 c3 0 2) (c3 - 0) (Int.toNat n4) 2) (((Int.toNat (w64 (((l2 : Nat) : Int) + ((l6 : Nat) : Int)))) - 0) - (Int.toNat n4)) ((c3 - 0) - (Int.toNat n4))) W28 fun x29 W30 =>
  ∃ (n31 : Int), x29 = (.int .i64 n31) ∧
  0 ≤ n4 ∧ n4 ≤ ((((Int.toNat (w64 (((l2 : Nat) : Int) + ((l6 : Nat) : Int)))) - 0) : Nat) : Int) ∧
  CpyV prog #[330, 330] 3 (.slice (slA (slA a1 c3 0 2) (c3 - 0) (Int.toNat n4) 2) (((Int.toNat (w64 (((l2 : Nat) : Int) + ((l6 : Nat) : Int)))) - 0) - (Int.toNat n4)) ((c3 - 0) - (Int.toNat n4))) (.slice a5 l6 c7) W30 fun x32 W33 =>
  ∃ (n34 : Int), x32 = (.int .i64 n34) ∧
  K (slA a1 c3 0 2) ((Int.toNat (w64 (((l2 : Nat) : Int) + ((l6 : Nat) : Int)))) - 0) (c3 - 0) W33)
  (0 ≤ ((l2 : Nat) : Int) ∧ ((l2 : Nat) : Int) ≤ ((((Int.toNat (w64 (((l2 : Nat) : Int) + ((l6 : Nat) : Int)))) - 0) : Nat) : Int) ∧
  CpyV prog #[330, 330] 3 (.slice (slA (slA a1 c3 0 2) (c3 - 0) (Int.toNat ((l2 : Nat) : Int)) 2) (((Int.toNat (w64 (((l2 : Nat) : Int) + ((l6 : Nat) : Int)))) - 0) - (Int.toNat ((l2 : Nat) : Int))) ((c3 - 0) - (Int.toNat ((l2 : Nat) : Int)))) (.slice a5 l6 c7) W26 fun x35 W36 =>
  ∃ (n37 : Int), x35 = (.int .i64 n37) ∧
  0 ≤ n4 ∧ n4 ≤ ((((Int.toNat (w64 (((l2 : Nat) : Int) + ((l6 : Nat) : Int)))) - 0) : Nat) : Int) ∧
  slices_rotateRight_roar_entry.C (slA (slA a1 c3 0 2) (c3 - 0) (Int.toNat n4) 2) (((Int.toNat (w64 (((l2 : Nat) : Int) + ((l6 : Nat) : Int)))) - 0) - (Int.toNat n4)) ((c3 - 0) - (Int.toNat n4)) ((l6 : Nat) : Int) W36 fun W38 =>
  K (slA a1 c3 0 2) ((Int.toNat (w64 (((l2 : Nat) : Int) + ((l6 : Nat) : Int)))) - 0) (c3 - 0) W38))))
theorem slices_Insert_roar_entry_roar_entry.ok {a1 : Option Addr} {l2 : Nat} {c3 : Nat} {n4 : Int} {a5 : Option Addr} {l6 : Nat} {c7 : Nat} {w : World} {K : Option Addr → Nat → Nat → World → Prop} (h : slices_Insert_roar_entry_roar_entry.F a1 l2 c3 n4 a5 l6 c7 w K) : slices_Insert_roar_entry_roar_entry.C a1 l2 c3 n4 a5 l6 c7 w K := by
  refine CallsV.mono (callsV_of_sh prog.mixed prog.noNum (args := [(.slice a1 l2 c3), (.int .i64 n4), (.slice a5 l6 c7)]) Tryz.func570 (c := bodyOf Tryz.f570) (by kernel_rfl) (by kernel_rfl) (by kernel_rfl) (R := S_l.R K) ?_) fun v w1 h => S_l.out h
  apply kc h; kernel_rfl

def dict_New.F (n1 : Int) (n2 : Int) (n3 : Int) (w : World) (K : Option Addr → Int → World → Prop) : Prop :=
  face_New.C n1 n2 n3 w fun x4 n5 W6 =>
  cond (n5 != (0 : Int))
  (K none n5 W6)
  (slots_New.C n2 n3 W6 fun p7 n8 W9 =>
  cond (n8 != (0 : Int))
  (K none n8 W9)
  (stOne x4 (
  alP W9 #[x4, (.pointer p7)] 186 fun r10 W11 =>
  K (some ⟨r10, 0, none⟩) (0 : Int) W11)))
theorem dict_New.ok {n1 : Int} {n2 : Int} {n3 : Int} {w : World} {K : Option Addr → Int → World → Prop} (h : dict_New.F n1 n2 n3 w K) : dict_New.C n1 n2 n3 w K := by
  refine CallsV.mono (callsV_of_sh prog.mixed prog.noNum (args := [(.int .i64 n1), (.int .u64 n2), (.int .i64 n3)]) Tryz.func137 (c := bodyOf Tryz.f137) (by kernel_rfl) (by kernel_rfl) (by kernel_rfl) (R := S_p_i64.R K) ?_) fun v w1 h => S_p_i64.out h
  apply kc h; kernel_rfl

def face_New.T1 (K : Value → Int → World → Prop) (x9 : Value) (n10 : Int) (W14 : World) : Prop :=
  cond (n10 != (0 : Int))
  (K .nilIface n10 W14)
  (K x9 (0 : Int) W14)
def face_New.F (n1 : Int) (n2 : Int) (n3 : Int) (w : World) (K : Value → Int → World → Prop) : Prop :=
  cond (n1 == (1 : Int))
  (veb_New.C n2 n3 w fun p15 n16 W17 =>
  face_made_veb_VEB.C p15 n16 W17 fun x18 n19 W20 =>
  face_New.T1 K x18 n19 W20)
  (cond (n1 == (2 : Int))
  (xfast_New.C n2 n3 w fun p21 n22 W23 =>
  face_made_xfast_XFast.C p21 n22 W23 fun x24 n25 W26 =>
  face_New.T1 K x24 n25 W26)
  (cond (n1 == (3 : Int))
  (yfast_New.C n2 n3 w fun p27 n28 W29 =>
  face_made_yfast_YFast.C p27 n28 W29 fun x30 n31 W32 =>
  face_New.T1 K x30 n31 W32)
  (cond (n1 == (4 : Int))
  (trie_New.C n3 w fun p33 n34 W35 =>
  face_made_trie_Trie.C p33 n34 W35 fun x36 n37 W38 =>
  face_New.T1 K x36 n37 W38)
  (cond (n1 == (5 : Int))
  (roar_New.C n3 w fun p39 n40 W41 =>
  face_made_roar_Roar.C p39 n40 W41 fun x42 n43 W44 =>
  face_New.T1 K x42 n43 W44)
  (face_New.T1 K .nilIface (1 : Int) w)))))
def face_New.U0 (K : Value → Int → World → Prop) (l : Nat) (fr : Fr) (w : World) : Prop :=
  match l with
 | 1 =>
  gR False (fr 8) fun x9 =>
  gI64 False (fr 9) fun n10 =>
  face_New.T1 K x9 n10 w
 | _ => False
theorem face_New.U0_ok1 (K : Value → Int → World → Prop) (fr : Fr) (w : World) (h : face_New.U0 K 1 fr w) : sh prog (face_New.U0 K) (subAt [.R, .R, .R, .R] (bodyOf Tryz.f139)) fr w (ctxAt prog (face_New.U0 K) [.R, .R, .R, .R] (bodyOf Tryz.f139) (retK prog Tryz.f139.results.toList (S_r_i64.R K))) := by
  unfold face_New.U0 at h
  simp only at h
  replace h := gR.outF h; obtain ⟨x9, e45, h⟩ := h
  replace h := gI64.outF h; obtain ⟨n10, e46, h⟩ := h
  refine at_frame [(8, x9), (9, (.int .i64 n10))] (by intro p hp; simp only [List.mem_cons, List.not_mem_nil, or_false] at hp; rcases hp with rfl | rfl <;> assumption) (Q := fun fr => sh prog (face_New.U0 K) (subAt [.R, .R, .R, .R] (bodyOf Tryz.f139)) fr w (ctxAt prog (face_New.U0 K) [.R, .R, .R, .R] (bodyOf Tryz.f139) (retK prog Tryz.f139.results.toList (S_r_i64.R K)))) ?_
  apply kc h; kernel_rfl
theorem face_New.ok {n1 : Int} {n2 : Int} {n3 : Int} {w : World} {K : Value → Int → World → Prop} (h : face_New.F n1 n2 n3 w K) : face_New.C n1 n2 n3 w K := by
  refine CallsV.mono (callsV_of_sh prog.mixed prog.noNum (args := [(.int .i64 n1), (.int .u64 n2), (.int .i64 n3)]) Tryz.func139 (c := bodyOf Tryz.f139) (by kernel_rfl) (by kernel_rfl) (by kernel_rfl) (R := S_r_i64.R K) ?_) fun v w1 h => S_r_i64.out h
  refine sh_anyCut (cut := face_New.U0 K) (by kernel_rfl) ?_
  refine sh_cutAt (p := [.R, .R, .R, .R]) (l := 1) ?_ (face_New.U0_ok1 K)
  apply kc h; kernel_rfl

def face_Name.F (n1 : Int) (w : World) (K : ByteArray → World → Prop) : Prop :=
  cond (n1 == (1 : Int))
  (K (⟨#[118, 101, 98]⟩ : ByteArray) w)
  (cond (n1 == (2 : Int))
  (K (⟨#[120, 102, 97, 115, 116]⟩ : ByteArray) w)
  (cond (n1 == (3 : Int))
  (K (⟨#[121, 102, 97, 115, 116]⟩ : ByteArray) w)
  (cond (n1 == (4 : Int))
  (K (⟨#[116, 114, 105, 101]⟩ : ByteArray) w)
  (cond (n1 == (5 : Int))
  (K (⟨#[114, 111, 97, 114]⟩ : ByteArray) w)
  (K (⟨#[]⟩ : ByteArray) w)))))
theorem face_Name.ok {n1 : Int} {w : World} {K : ByteArray → World → Prop} (h : face_Name.F n1 w K) : face_Name.C n1 w K := by
  refine CallsV.mono (callsV_of_sh prog.mixed prog.noNum (args := [(.int .i64 n1)]) Tryz.func164 (c := bodyOf Tryz.f164) (by kernel_rfl) (by kernel_rfl) (by kernel_rfl) (R := S_s.R K) ?_) fun v w1 h => S_s.out h
  apply kc h; kernel_rfl

def play_New.F (w : World) (K : Option Addr → World → Prop) : Prop :=
  shelf_New.C  w fun p1 W2 =>
  alP W2 #[(.pointer p1), (.int .i64 (0 : Int)), (.int .i64 (0 : Int))] 56 fun r3 W4 =>
  K (some ⟨r3, 0, none⟩) W4
theorem play_New.ok {w : World} {K : Option Addr → World → Prop} (h : play_New.F  w K) : play_New.C  w K := by
  refine CallsV.mono (callsV_of_sh prog.mixed prog.noNum (args := []) Tryz.func7 (c := bodyOf Tryz.f7) (by kernel_rfl) (by kernel_rfl) (by kernel_rfl) (R := S_p.R K) ?_) fun v w1 h => S_p.out h
  apply kc h; kernel_rfl

def play_Player_Do.T2 (K : Int → Int → Int → Bool → Option Addr → Nat → Nat → World → Prop) (p129 : Option Addr) (b148 : Nat) (o149 : Nat) (b150 : Nat) (o151 : Nat) (q152 : Bool) (W195 : World) : Prop :=
  cond (!q152)
  (stCs b148 o149 [(.int .i64 (1 : Int)), (.int .u64 (0 : Int)), (.int .i64 (0 : Int)), (.bool false), (.slice none 0 0)] W195 fun W196 =>
  lAi64_u64_i64_b_l W196 b148 o149 fun n197 n198 n199 q200 a201 l202 c203 =>
  K n197 n198 n199 q200 a201 l202 c203 W196)
  (lI64 W195 b150 o151 fun n204 =>
  cond (n204 == (5 : Int))
  (nn p129 fun b205 o206 =>
  lI64 W195 b205 (o206 + 2) fun n207 =>
  nn p129 fun b208 o209 =>
  stP W195 b208 (o209 + 2) (.int .i64 (w64 (n207 + (1 : Int)))) fun W210 =>
  lAi64_u64_i64_b_l W210 b150 o151 fun n211 n212 n213 q214 a215 l216 c217 =>
  stCs b148 o149 [(.int .i64 n211), (.int .u64 n212), (.int .i64 n213), (.bool q214), (.slice a215 l216 c217)] W210 fun W218 =>
  lAi64_u64_i64_b_l W218 b148 o149 fun n219 n220 n221 q222 a223 l224 c225 =>
  K n219 n220 n221 q222 a223 l224 c225 W218)
  (lAi64_u64_i64_b_l W195 b150 o151 fun n226 n227 n228 q229 a230 l231 c232 =>
  stCs b148 o149 [(.int .i64 n226), (.int .u64 n227), (.int .i64 n228), (.bool q229), (.slice a230 l231 c232)] W195 fun W233 =>
  lAi64_u64_i64_b_l W233 b148 o149 fun n234 n235 n236 q237 a238 l239 c240 =>
  K n234 n235 n236 q237 a238 l239 c240 W233))
def play_Player_Do.T1 (K : Int → Int → Int → Bool → Option Addr → Nat → Nat → World → Prop) (p64 : Option Addr) (b81 : Nat) (o82 : Nat) (b83 : Nat) (o84 : Nat) (b85 : Nat) (o86 : Nat) (q87 : Bool) (W128 : World) : Prop :=
  cond (!q87)
  (lAu8_i64_i64_l_u64_u64_l_b_i64_u64_i64_b W128 b81 o82 fun n241 n242 n243 a244 l245 c246 n247 n248 a249 l250 c251 q252 n253 n254 n255 q256 =>
  play_Player_other.C p64 n241 n242 n243 a244 l245 c246 n247 n248 a249 l250 c251 q252 n253 n254 n255 q256 W128 fun n257 n258 n259 q260 a261 l262 c263 q264 W265 =>
  stCs b85 o86 [(.int .i64 n257), (.int .u64 n258), (.int .i64 n259), (.bool q260), (.slice a261 l262 c263)] W265 fun W266 =>
  play_Player_Do.T2 K p64 b83 o84 b85 o86 q264 W266)
  (play_Player_Do.T2 K p64 b83 o84 b85 o86 q87 W128)
def play_Player_Do.F (p1 : Option Addr) (n2 : Int) (n3 : Int) (n4 : Int) (a5 : Option Addr) (l6 : Nat) (c7 : Nat) (n8 : Int) (n9 : Int) (a10 : Option Addr) (l11 : Nat) (c12 : Nat) (q13 : Bool) (n14 : Int) (n15 : Int) (n16 : Int) (q17 : Bool) (w : World) (K : Int → Int → Int → Bool → Option Addr → Nat → Nat → World → Prop) : Prop :=
  alP w #[(.int .u8 n2), (.int .i64 n3), (.int .i64 n4), (.slice a5 l6 c7), (.int .u64 n8), (.int .u64 n9), (.slice a10 l11 c12), (.bool q13), (.int .i64 n14), (.int .u64 n15), (.int .i64 n16), (.bool q17)] 35 fun r18 W19 =>
  alP W19 #[(.int .i64 (0 : Int)), (.int .u64 (0 : Int)), (.int .i64 (0 : Int)), (.bool false), (.slice none 0 0)] 33 fun r20 W21 =>
  cond (Option.isNone p1)
  (stCs r20 0 [(.int .i64 (6 : Int)), (.int .u64 (0 : Int)), (.int .i64 (0 : Int)), (.bool false), (.slice none 0 0)] W21 fun W22 =>
  lAi64_u64_i64_b_l W22 r20 0 fun n23 n24 n25 q26 a27 l28 c29 =>
  K n23 n24 n25 q26 a27 l28 c29 W22)
  (nn p1 fun b30 o31 =>
  lI64 W21 b30 (o31 + 1) fun n32 =>
  nn p1 fun b33 o34 =>
  stP W21 b33 (o34 + 1) (.int .i64 (w64 (n32 + (1 : Int)))) fun W35 =>
  lAu8_i64_i64_l_u64_u64_l_b_i64_u64_i64_b W35 r18 0 fun n36 n37 n38 a39 l40 c41 n42 n43 a44 l45 c46 q47 n48 n49 n50 q51 =>
  play_Player_change.C p1 n36 n37 n38 a39 l40 c41 n42 n43 a44 l45 c46 q47 n48 n49 n50 q51 W35 fun n52 n53 n54 q55 a56 l57 c58 q59 W60 =>
  alP W60 #[(.int .i64 (0 : Int)), (.int .u64 (0 : Int)), (.int .i64 (0 : Int)), (.bool false), (.slice none 0 0)] 33 fun r61 W62 =>
  stCs r61 0 [(.int .i64 n52), (.int .u64 n53), (.int .i64 n54), (.bool q55), (.slice a56 l57 c58)] W62 fun W63 =>
  cond (!q59)
  (lAu8_i64_i64_l_u64_u64_l_b_i64_u64_i64_b W63 r18 0 fun n267 n268 n269 a270 l271 c272 n273 n274 a275 l276 c277 q278 n279 n280 n281 q282 =>
  play_Player_look.C p1 n267 n268 n269 a270 l271 c272 n273 n274 a275 l276 c277 q278 n279 n280 n281 q282 W63 fun n283 n284 n285 q286 a287 l288 c289 q290 W291 =>
  stCs r61 0 [(.int .i64 n283), (.int .u64 n284), (.int .i64 n285), (.bool q286), (.slice a287 l288 c289)] W291 fun W292 =>
  play_Player_Do.T1 K p1 r18 0 r20 0 r61 0 q290 W292)
  (play_Player_Do.T1 K p1 r18 0 r20 0 r61 0 q59 W63))
def play_Player_Do.U0 (K : Int → Int → Int → Bool → Option Addr → Nat → Nat → World → Prop) (l : Nat) (fr : Fr) (w : World) : Prop :=
  match l with
 | 1 =>
  gP False (fr 0) fun p64 =>
  gN False (fr 3) fun b81 o82 =>
  gN False (fr 4) fun b83 o84 =>
  gN False (fr 5) fun b85 o86 =>
  gB False (fr 6) fun q87 =>
  play_Player_Do.T1 K p64 b81 o82 b83 o84 b85 o86 q87 w
 | 2 =>
  gP False (fr 0) fun p129 =>
  gN False (fr 4) fun b148 o149 =>
  gN False (fr 5) fun b150 o151 =>
  gB False (fr 6) fun q152 =>
  play_Player_Do.T2 K p129 b148 o149 b150 o151 q152 w
 | _ => False
theorem play_Player_Do.U0_ok2 (K : Int → Int → Int → Bool → Option Addr → Nat → Nat → World → Prop) (fr : Fr) (w : World) (h : play_Player_Do.U0 K 2 fr w) : sh prog (play_Player_Do.U0 K) (subAt [.R, .R, .R, .R, .R, .R] (bodyOf Tryz.f8)) fr w (ctxAt prog (play_Player_Do.U0 K) [.R, .R, .R, .R, .R, .R] (bodyOf Tryz.f8) (retK prog Tryz.f8.results.toList (S_ai64_u64_i64_b_lz.R K))) := by
  unfold play_Player_Do.U0 at h
  simp only at h
  replace h := gP.outF h; obtain ⟨p129, e293, h⟩ := h
  replace h := gN.outF h; obtain ⟨b148, o149, e294, h⟩ := h
  replace h := gN.outF h; obtain ⟨b150, o151, e295, h⟩ := h
  replace h := gB.outF h; obtain ⟨q152, e296, h⟩ := h
  refine at_frame [(0, (.pointer p129)), (4, (.pointer (some ⟨b148, o149, none⟩))), (5, (.pointer (some ⟨b150, o151, none⟩))), (6, (.bool q152))] (by intro p hp; simp only [List.mem_cons, List.not_mem_nil, or_false] at hp; rcases hp with rfl | rfl | rfl | rfl <;> assumption) (Q := fun fr => sh prog (play_Player_Do.U0 K) (subAt [.R, .R, .R, .R, .R, .R] (bodyOf Tryz.f8)) fr w (ctxAt prog (play_Player_Do.U0 K) [.R, .R, .R, .R, .R, .R] (bodyOf Tryz.f8) (retK prog Tryz.f8.results.toList (S_ai64_u64_i64_b_lz.R K)))) ?_
  apply kc h; kernel_rfl
theorem play_Player_Do.U0_ok1 (K : Int → Int → Int → Bool → Option Addr → Nat → Nat → World → Prop) (fr : Fr) (w : World) (h : play_Player_Do.U0 K 1 fr w) : sh prog (play_Player_Do.U0 K) (subAt [.R, .R, .R, .R, .R] (cutAt 2 [.R, .R, .R, .R, .R, .R] (bodyOf Tryz.f8))) fr w (ctxAt prog (play_Player_Do.U0 K) [.R, .R, .R, .R, .R] (cutAt 2 [.R, .R, .R, .R, .R, .R] (bodyOf Tryz.f8)) (retK prog Tryz.f8.results.toList (S_ai64_u64_i64_b_lz.R K))) := by
  unfold play_Player_Do.U0 at h
  simp only at h
  replace h := gP.outF h; obtain ⟨p64, e297, h⟩ := h
  replace h := gN.outF h; obtain ⟨b81, o82, e298, h⟩ := h
  replace h := gN.outF h; obtain ⟨b83, o84, e299, h⟩ := h
  replace h := gN.outF h; obtain ⟨b85, o86, e300, h⟩ := h
  replace h := gB.outF h; obtain ⟨q87, e301, h⟩ := h
  refine at_frame [(0, (.pointer p64)), (3, (.pointer (some ⟨b81, o82, none⟩))), (4, (.pointer (some ⟨b83, o84, none⟩))), (5, (.pointer (some ⟨b85, o86, none⟩))), (6, (.bool q87))] (by intro p hp; simp only [List.mem_cons, List.not_mem_nil, or_false] at hp; rcases hp with rfl | rfl | rfl | rfl | rfl <;> assumption) (Q := fun fr => sh prog (play_Player_Do.U0 K) (subAt [.R, .R, .R, .R, .R] (cutAt 2 [.R, .R, .R, .R, .R, .R] (bodyOf Tryz.f8))) fr w (ctxAt prog (play_Player_Do.U0 K) [.R, .R, .R, .R, .R] (cutAt 2 [.R, .R, .R, .R, .R, .R] (bodyOf Tryz.f8)) (retK prog Tryz.f8.results.toList (S_ai64_u64_i64_b_lz.R K)))) ?_
  apply kc h; kernel_rfl
theorem play_Player_Do.ok {p1 : Option Addr} {n2 : Int} {n3 : Int} {n4 : Int} {a5 : Option Addr} {l6 : Nat} {c7 : Nat} {n8 : Int} {n9 : Int} {a10 : Option Addr} {l11 : Nat} {c12 : Nat} {q13 : Bool} {n14 : Int} {n15 : Int} {n16 : Int} {q17 : Bool} {w : World} {K : Int → Int → Int → Bool → Option Addr → Nat → Nat → World → Prop} (h : play_Player_Do.F p1 n2 n3 n4 a5 l6 c7 n8 n9 a10 l11 c12 q13 n14 n15 n16 q17 w K) : play_Player_Do.C p1 n2 n3 n4 a5 l6 c7 n8 n9 a10 l11 c12 q13 n14 n15 n16 q17 w K := by
  refine CallsV.mono (callsV_of_sh prog.mixed prog.noNum (args := [(.pointer p1), (.agg #[(.int .u8 n2), (.int .i64 n3), (.int .i64 n4), (.slice a5 l6 c7), (.int .u64 n8), (.int .u64 n9), (.slice a10 l11 c12), (.bool q13), (.int .i64 n14), (.int .u64 n15), (.int .i64 n16), (.bool q17)])]) Tryz.func8 (c := bodyOf Tryz.f8) (by kernel_rfl) (by kernel_rfl) (by kernel_rfl) (R := S_ai64_u64_i64_b_lz.R K) ?_) fun v w1 h => S_ai64_u64_i64_b_lz.out h
  refine sh_anyCut (cut := play_Player_Do.U0 K) (by kernel_rfl) ?_
  refine sh_cutAt (p := [.R, .R, .R, .R, .R, .R]) (l := 2) ?_ (play_Player_Do.U0_ok2 K)
  refine sh_cutAt (p := [.R, .R, .R, .R, .R]) (l := 1) ?_ (play_Player_Do.U0_ok1 K)
  apply kc h; kernel_rfl

def play_Name.F (n1 : Int) (w : World) (K : ByteArray → World → Prop) : Prop :=
  cond (decide ((w64 n1) ≥ (24 : Int)))
  (K (⟨#[]⟩ : ByteArray) w)
  (0 ≤ n1 ∧ n1 < ((24 : Nat) : Int) ∧
  lS w 0 (0 + Int.toNat n1 * 1) fun s2 =>
  K s2 w)
theorem play_Name.ok {n1 : Int} {w : World} {K : ByteArray → World → Prop} (h : play_Name.F n1 w K) : play_Name.C n1 w K := by
  refine CallsV.mono (callsV_of_sh prog.mixed prog.noNum (args := [(.int .u8 n1)]) Tryz.func10 (c := bodyOf Tryz.f10) (by kernel_rfl) (by kernel_rfl) (by kernel_rfl) (R := S_s.R K) ?_) fun v w1 h => S_s.out h
  apply kc h; kernel_rfl

def play_Player_Run.B1 (K : Option Addr → Nat → Nat → World → Prop) (p5 : Option Addr) (a17 : Option Addr) (l18 : Nat) (c19 : Nat) (n20 : Int) : (Option Addr × Nat × Nat × Int) → World → ((Option Addr × Nat × Nat × Int) → World → Prop) → Prop := fun s0 W23 next22 => match s0 with
 | (a12, l13, c14, n21) =>
  cond (decide (n21 < n20))
  (nn a17 fun b24 o25 =>
  0 ≤ n21 ∧ n21 < ((l18 : Nat) : Int) ∧
  lAu8_i64_i64_l_u64_u64_l_b_i64_u64_i64_b W23 b24 (o25 + Int.toNat n21 * 12) fun n26 n27 n28 a29 l30 c31 n32 n33 a34 l35 c36 q37 n38 n39 n40 q41 =>
  alP W23 #[(.int .u8 (0 : Int)), (.int .i64 (0 : Int)), (.int .i64 (0 : Int)), (.slice none 0 0), (.int .u64 (0 : Int)), (.int .u64 (0 : Int)), (.slice none 0 0), (.bool false), (.int .i64 (0 : Int)), (.int .u64 (0 : Int)), (.int .i64 (0 : Int)), (.bool false)] 35 fun r42 W43 =>
  stCs r42 0 [(.int .u8 n26), (.int .i64 n27), (.int .i64 n28), (.slice a29 l30 c31), (.int .u64 n32), (.int .u64 n33), (.slice a34 l35 c36), (.bool q37), (.int .i64 n38), (.int .u64 n39), (.int .i64 n40), (.bool q41)] W43 fun W44 =>
  lAu8_i64_i64_l_u64_u64_l_b_i64_u64_i64_b W44 r42 0 fun n45 n46 n47 a48 l49 c50 n51 n52 a53 l54 c55 q56 n57 n58 n59 q60 =>
  play_Player_Do.C p5 n45 n46 n47 a48 l49 c50 n51 n52 a53 l54 c55 q56 n57 n58 n59 q60 W44 fun n61 n62 n63 q64 a65 l66 c67 W68 =>
  alP W68 #[(.int .i64 n61), (.int .u64 n62), (.int .i64 n63), (.bool q64), (.slice a65 l66 c67)] 33 fun r69 W70 =>
  AppV prog #[38, 38] 38 (.slice a12 l13 c14) (.slice (some ⟨r69, 0, none⟩) 1 1) W70 fun x71 W72 =>
  ∃ (a73 : Option Addr), ∃ (l74 : Nat), ∃ (c75 : Nat), x71 = (.slice a73 l74 c75) ∧
  next22 (a73, l74, c75, (w64 (n21 + (1 : Int)))) W72)
  (K a12 l13 c14 W23)
def play_Player_Run.T1 (K : Option Addr → Nat → Nat → World → Prop) (p5 : Option Addr) (a12 : Option Addr) (l13 : Nat) (c14 : Nat) (a17 : Option Addr) (l18 : Nat) (c19 : Nat) (n20 : Int) (n21 : Int) (w : World) : Prop := LoopT (play_Player_Run.B1 K p5 a17 l18 c19 n20) (a12, l13, c14, n21) w
def play_Player_Run.F (p1 : Option Addr) (a2 : Option Addr) (l3 : Nat) (c4 : Nat) (w : World) (K : Option Addr → Nat → Nat → World → Prop) : Prop :=
  cond (Option.isNone p1)
  (K none 0 0 w)
  (play_Player_Run.T1 K p1 none 0 0 a2 l3 c4 ((l3 : Nat) : Int) (0 : Int) w)
def play_Player_Run.U0 (K : Option Addr → Nat → Nat → World → Prop) (l : Nat) (fr : Fr) (w : World) : Prop :=
  match l with
 | 1 =>
  gP False (fr 0) fun p5 =>
  gL False (fr 5) fun a12 l13 c14 =>
  gL False (fr 10) fun a17 l18 c19 =>
  gI64 False (fr 11) fun n20 =>
  gI64 False (fr 12) fun n21 =>
  play_Player_Run.T1 K p5 a12 l13 c14 a17 l18 c19 n20 n21 w
 | _ => False
def play_Player_Run.ext1 (fr : Fr) : Option (Option Addr × Nat × Nat × Int) :=
  gL none (fr 5) fun a12 l13 c14 =>
  gI64 none (fr 12) fun n21 =>
  some (a12, l13, c14, n21)
theorem play_Player_Run.U0_ok1 (K : Option Addr → Nat → Nat → World → Prop) (fr : Fr) (w : World) (h : play_Player_Run.U0 K 1 fr w) : sh prog (play_Player_Run.U0 K) (subAt [.R, .R, .R, .L, .R, .B] (bodyOf Tryz.f11)) fr w (ctxAt prog (play_Player_Run.U0 K) [.R, .R, .R, .L, .R, .B] (bodyOf Tryz.f11) (retK prog Tryz.f11.results.toList (S_l.R K))) := by
  unfold play_Player_Run.U0 at h
  simp only at h
  replace h := gP.outF h; obtain ⟨p5, e76, h⟩ := h
  replace h := gL.outF h; obtain ⟨a12, l13, c14, e77, h⟩ := h
  replace h := gL.outF h; obtain ⟨a17, l18, c19, e78, h⟩ := h
  replace h := gI64.outF h; obtain ⟨n20, e79, h⟩ := h
  replace h := gI64.outF h; obtain ⟨n21, e80, h⟩ := h
  refine kc (A := LoopP (sh prog (play_Player_Run.U0 K) (loopBody (subAt [.R, .R, .R, .L, .R, .B] (bodyOf Tryz.f11)))) fr w (ctxAt prog (play_Player_Run.U0 K) [.R, .R, .R, .L, .R, .B] (bodyOf Tryz.f11) (retK prog Tryz.f11.results.toList (S_l.R K)))) ?_ (by kernel_rfl)
  refine loop_typed (B := play_Player_Run.B1 K p5 a17 l18 c19 n20) play_Player_Run.ext1 (s := (a12, l13, c14, n21)) (by unfold play_Player_Run.ext1; simp only [e77, e80]; rfl) h ?_
  clear h
  clear e77
  clear e80
  intro s0 fr1 w1 next22 hs hk h
  unfold play_Player_Run.ext1 at hs
  replace hs := noN (gL.out (d := none) (x := _) hs); obtain ⟨a12a, l13a, c14a, e81, hs⟩ := hs
  replace hs := noN (gI64.out (d := none) (x := _) hs); obtain ⟨n21a, e82, hs⟩ := hs
  replace hs := Option.some.inj hs; subst hs
  have e83 : fr1 0 = (.pointer p5) := (hk 0 (by kernel_rfl)).trans e76
  have e84 : fr1 10 = (.slice a17 l18 c19) := (hk 10 (by kernel_rfl)).trans e78
  have e85 : fr1 11 = (.int .i64 n20) := (hk 11 (by kernel_rfl)).trans e79
  refine at_frame [(5, (.slice a12a l13a c14a)), (12, (.int .i64 n21a)), (0, (.pointer p5)), (10, (.slice a17 l18 c19)), (11, (.int .i64 n20))] (by intro p hp; simp only [List.mem_cons, List.not_mem_nil, or_false] at hp; rcases hp with rfl | rfl | rfl | rfl | rfl <;> assumption) (Q := fun fr => sh prog (play_Player_Run.U0 K) (loopBody (subAt [.R, .R, .R, .L, .R, .B] (bodyOf Tryz.f11))) fr w1 (nextK play_Player_Run.ext1 next22 (ctxAt prog (play_Player_Run.U0 K) [.R, .R, .R, .L, .R, .B] (bodyOf Tryz.f11) (retK prog Tryz.f11.results.toList (S_l.R K))))) ?_
  apply kc h; kernel_rfl
theorem play_Player_Run.ok {p1 : Option Addr} {a2 : Option Addr} {l3 : Nat} {c4 : Nat} {w : World} {K : Option Addr → Nat → Nat → World → Prop} (h : play_Player_Run.F p1 a2 l3 c4 w K) : play_Player_Run.C p1 a2 l3 c4 w K := by
  refine CallsV.mono (callsV_of_sh prog.mixed prog.noNum (args := [(.pointer p1), (.slice a2 l3 c4)]) Tryz.func11 (c := bodyOf Tryz.f11) (by kernel_rfl) (by kernel_rfl) (by kernel_rfl) (R := S_l.R K) ?_) fun v w1 h => S_l.out h
  refine sh_anyCut (cut := play_Player_Run.U0 K) (by kernel_rfl) ?_
  refine sh_cutAt (p := [.R, .R, .R, .L, .R, .B]) (l := 1) ?_ (play_Player_Run.U0_ok1 K)
  apply kc h; kernel_rfl

def play_Player_Whole.B1 (K : Option Addr → Nat → Nat → World → Prop) (p4 : Option Addr) (a13 : Option Addr) (l14 : Nat) (c15 : Nat) (n19 : Int) : Int → World → ((Int) → World → Prop) → Prop := fun s0 W22 next21 => match s0 with
 | n20 =>
  cond (decide (n20 < n19))
  (nn p4 fun b23 o24 =>
  lP W22 b23 o24 fun p25 =>
  shelf_Shelf_Encode.C p25 n20 W22 fun a26 l27 c28 n29 W30 =>
  nn a13 fun b31 o32 =>
  0 ≤ n20 ∧ n20 < ((l14 : Nat) : Int) ∧
  stP W30 b31 (o32 + Int.toNat n20 * 1) (.slice a26 l27 c28) fun W33 =>
  next21 (w64 (n20 + (1 : Int))) W33)
  (K a13 l14 c15 W22)
def play_Player_Whole.T1 (K : Option Addr → Nat → Nat → World → Prop) (p4 : Option Addr) (a13 : Option Addr) (l14 : Nat) (c15 : Nat) (n19 : Int) (n20 : Int) (w : World) : Prop := LoopT (play_Player_Whole.B1 K p4 a13 l14 c15 n19) n20 w
def play_Player_Whole.F (p1 : Option Addr) (w : World) (K : Option Addr → Nat → Nat → World → Prop) : Prop :=
  cond (Option.isNone p1)
  (K none 0 0 w)
  ((0 ≤ w64 (8 : Int) ∧ w64 (8 : Int) ≤ w64 (8 : Int) ∧ ((24 : Nat) : Int) * w64 (8 : Int) ≤ 2 ^ 48) ∧
  alP w (zrow #[(.slice none 0 0)] (Int.toNat (w64 (8 : Int)) * 1)) 24 fun r2 W3 =>
  play_Player_Whole.T1 K p1 (some ⟨r2, 0, none⟩) (Int.toNat (w64 (8 : Int))) (Int.toNat (w64 (8 : Int))) (((Int.toNat (w64 (8 : Int))) : Nat) : Int) (0 : Int) W3)
def play_Player_Whole.U0 (K : Option Addr → Nat → Nat → World → Prop) (l : Nat) (fr : Fr) (w : World) : Prop :=
  match l with
 | 1 =>
  gP False (fr 0) fun p4 =>
  gL False (fr 3) fun a13 l14 c15 =>
  gI64 False (fr 9) fun n19 =>
  gI64 False (fr 10) fun n20 =>
  play_Player_Whole.T1 K p4 a13 l14 c15 n19 n20 w
 | _ => False
def play_Player_Whole.ext1 (fr : Fr) : Option (Int) :=
  gI64 none (fr 10) fun n20 =>
  some n20
theorem play_Player_Whole.U0_ok1 (K : Option Addr → Nat → Nat → World → Prop) (fr : Fr) (w : World) (h : play_Player_Whole.U0 K 1 fr w) : sh prog (play_Player_Whole.U0 K) (subAt [.R, .R, .R, .L, .R, .B] (bodyOf Tryz.f12)) fr w (ctxAt prog (play_Player_Whole.U0 K) [.R, .R, .R, .L, .R, .B] (bodyOf Tryz.f12) (retK prog Tryz.f12.results.toList (S_l.R K))) := by
  unfold play_Player_Whole.U0 at h
  simp only at h
  replace h := gP.outF h; obtain ⟨p4, e34, h⟩ := h
  replace h := gL.outF h; obtain ⟨a13, l14, c15, e35, h⟩ := h
  replace h := gI64.outF h; obtain ⟨n19, e36, h⟩ := h
  replace h := gI64.outF h; obtain ⟨n20, e37, h⟩ := h
  refine kc (A := LoopP (sh prog (play_Player_Whole.U0 K) (loopBody (subAt [.R, .R, .R, .L, .R, .B] (bodyOf Tryz.f12)))) fr w (ctxAt prog (play_Player_Whole.U0 K) [.R, .R, .R, .L, .R, .B] (bodyOf Tryz.f12) (retK prog Tryz.f12.results.toList (S_l.R K)))) ?_ (by kernel_rfl)
  refine loop_typed (B := play_Player_Whole.B1 K p4 a13 l14 c15 n19) play_Player_Whole.ext1 (s := n20) (by unfold play_Player_Whole.ext1; simp only [e37]; rfl) h ?_
  clear h
  clear e37
  intro s0 fr1 w1 next21 hs hk h
  unfold play_Player_Whole.ext1 at hs
  replace hs := noN (gI64.out (d := none) (x := _) hs); obtain ⟨n20a, e38, hs⟩ := hs
  replace hs := Option.some.inj hs; subst hs
  have e39 : fr1 0 = (.pointer p4) := (hk 0 (by kernel_rfl)).trans e34
  have e40 : fr1 3 = (.slice a13 l14 c15) := (hk 3 (by kernel_rfl)).trans e35
  have e41 : fr1 9 = (.int .i64 n19) := (hk 9 (by kernel_rfl)).trans e36
  refine at_frame [(10, (.int .i64 n20a)), (0, (.pointer p4)), (3, (.slice a13 l14 c15)), (9, (.int .i64 n19))] (by intro p hp; simp only [List.mem_cons, List.not_mem_nil, or_false] at hp; rcases hp with rfl | rfl | rfl | rfl <;> assumption) (Q := fun fr => sh prog (play_Player_Whole.U0 K) (loopBody (subAt [.R, .R, .R, .L, .R, .B] (bodyOf Tryz.f12))) fr w1 (nextK play_Player_Whole.ext1 next21 (ctxAt prog (play_Player_Whole.U0 K) [.R, .R, .R, .L, .R, .B] (bodyOf Tryz.f12) (retK prog Tryz.f12.results.toList (S_l.R K))))) ?_
  apply kc h; kernel_rfl
theorem play_Player_Whole.ok {p1 : Option Addr} {w : World} {K : Option Addr → Nat → Nat → World → Prop} (h : play_Player_Whole.F p1 w K) : play_Player_Whole.C p1 w K := by
  refine CallsV.mono (callsV_of_sh prog.mixed prog.noNum (args := [(.pointer p1)]) Tryz.func12 (c := bodyOf Tryz.f12) (by kernel_rfl) (by kernel_rfl) (by kernel_rfl) (R := S_l.R K) ?_) fun v w1 h => S_l.out h
  refine sh_anyCut (cut := play_Player_Whole.U0 K) (by kernel_rfl) ?_
  refine sh_cutAt (p := [.R, .R, .R, .L, .R, .B]) (l := 1) ?_ (play_Player_Whole.U0_ok1 K)
  apply kc h; kernel_rfl

def play_Player_Done.F (p1 : Option Addr) (w : World) (K : Int → World → Prop) : Prop :=
  cond (Option.isNone p1)
  (K (0 : Int) w)
  (nn p1 fun b2 o3 =>
  lI64 w b2 (o3 + 1) fun n4 =>
  K n4 w)
theorem play_Player_Done.ok {p1 : Option Addr} {w : World} {K : Int → World → Prop} (h : play_Player_Done.F p1 w K) : play_Player_Done.C p1 w K := by
  refine CallsV.mono (callsV_of_sh prog.mixed prog.noNum (args := [(.pointer p1)]) Tryz.func13 (c := bodyOf Tryz.f13) (by kernel_rfl) (by kernel_rfl) (by kernel_rfl) (R := S_i64.R K) ?_) fun v w1 h => S_i64.out h
  apply kc h; kernel_rfl

def play_Player_Fulls.F (p1 : Option Addr) (w : World) (K : Int → World → Prop) : Prop :=
  cond (Option.isNone p1)
  (K (0 : Int) w)
  (nn p1 fun b2 o3 =>
  lI64 w b2 (o3 + 2) fun n4 =>
  K n4 w)
theorem play_Player_Fulls.ok {p1 : Option Addr} {w : World} {K : Int → World → Prop} (h : play_Player_Fulls.F p1 w K) : play_Player_Fulls.C p1 w K := by
  refine CallsV.mono (callsV_of_sh prog.mixed prog.noNum (args := [(.pointer p1)]) Tryz.func14 (c := bodyOf Tryz.f14) (by kernel_rfl) (by kernel_rfl) (by kernel_rfl) (R := S_i64.R K) ?_) fun v w1 h => S_i64.out h
  apply kc h; kernel_rfl

def shell_Run.T1 (K : ByteArray → Int → World → Prop) (b18 : Nat) (o19 : Nat) (b20 : Nat) (o21 : Nat) (x23 : Value) (W35 : World) : Prop :=
  rfT prog x23 W35 (σ := ByteArray) (fun s0 => match s0 with
 | s24 => [(.string s24)]) (fun s0 W25 beg26 k27 => match s0 with
 | s24 =>
  beg26 W25 fun W28 =>
  lP W28 b18 o19 fun p29 =>
  shell_line.C p29 s24 W28 fun s30 W31 =>
  (((s30.size + (⟨#[10]⟩ : ByteArray).size : Nat) : Int) ≤ IntKind.i64.max) ∧
  strings_Builder_WriteString.C (some ⟨b20, o21, none⟩) (s30 ++ (⟨#[10]⟩ : ByteArray)) W31 fun n32 x33 W34 =>
  k27 .normal W34)
  (fun D36 W37 =>
  strings_Builder_String.C (some ⟨b20, o21, none⟩) W37 fun s38 W39 =>
  W39.heap[D36]? = some (.deferred (some [])) ∧
  K s38 (0 : Int) (W39.putObj D36 (.deferred none)))
  (fun _ _ => False) 0
  (fun _ _ => False)
def shell_Run.F (s1 : ByteArray) (w : World) (K : ByteArray → Int → World → Prop) : Prop :=
  cond (decide (((s1.size : Nat) : Int) > (20000 : Int)))
  (K (⟨#[]⟩ : ByteArray) (1 : Int) w)
  (play_New.C  w fun p2 W3 =>
  alP W3 #[(.pointer none)] 29 fun r4 W5 =>
  stP W5 r4 0 (.pointer p2) fun W6 =>
  alP W6 #[(.pointer none), (.slice none 0 0)] 66 fun r7 W8 =>
  shell_lines.C s1 W8 fun x9 W10 =>
  shell_Run.T1 K r4 0 r7 0 x9 W10)
def shell_Run.U0 (K : ByteArray → Int → World → Prop) (l : Nat) (fr : Fr) (w : World) : Prop :=
  match l with
 | 1 =>
  gN False (fr 4) fun b18 o19 =>
  gN False (fr 5) fun b20 o21 =>
  gR False (fr 12) fun x23 =>
  shell_Run.T1 K b18 o19 b20 o21 x23 w
 | _ => False
theorem shell_Run.U0_ok1 (K : ByteArray → Int → World → Prop) (fr : Fr) (w : World) (h : shell_Run.U0 K 1 fr w) : rfP prog (ev fr (.tmp 12)) w (rndP prog fr (rfPs (subAt [.R, .R, .R, .R, .L, .R, .B] (bodyOf Tryz.f17))) (rfAs (subAt [.R, .R, .R, .R, .L, .R, .B] (bodyOf Tryz.f17))) (rfBo (subAt [.R, .R, .R, .R, .L, .R, .B] (bodyOf Tryz.f17)))) fun e D W => ctxAt prog noCut [.R, .R, .R, .R, .L, .R, .B] (bodyOf Tryz.f17) (retM prog Tryz.f17.results.toList (S_s_i64.R K) D) e fr W := by
  unfold shell_Run.U0 at h
  simp only at h
  replace h := gN.outF h; obtain ⟨b18, o19, e40, h⟩ := h
  replace h := gN.outF h; obtain ⟨b20, o21, e41, h⟩ := h
  replace h := gR.outF h; obtain ⟨x23, e42, h⟩ := h
  refine at_frame [(4, (.pointer (some ⟨b18, o19, none⟩))), (5, (.pointer (some ⟨b20, o21, none⟩))), (12, x23)] (by intro p hp; simp only [List.mem_cons, List.not_mem_nil, or_false] at hp; rcases hp with rfl | rfl | rfl <;> assumption) (Q := fun fr => rfP prog (ev fr (.tmp 12)) w (rndP prog fr (rfPs (subAt [.R, .R, .R, .R, .L, .R, .B] (bodyOf Tryz.f17))) (rfAs (subAt [.R, .R, .R, .R, .L, .R, .B] (bodyOf Tryz.f17))) (rfBo (subAt [.R, .R, .R, .R, .L, .R, .B] (bodyOf Tryz.f17)))) fun e D W => ctxAt prog noCut [.R, .R, .R, .R, .L, .R, .B] (bodyOf Tryz.f17) (retM prog Tryz.f17.results.toList (S_s_i64.R K) D) e fr W) ?_
  refine rf_typed (by kernel_rfl) h ?_ ?_ ?_ ?_
  · rintro s24r W beg k h
    refine ⟨rfl, ?_⟩
    apply kc h; kernel_rfl
  · intro D W h
    first
      | exact h.elim
      | (apply kc h; kernel_rfl)
  · intro D W h
    first
      | exact h.elim
      | (apply kc h; kernel_rfl)
  · intro D W h
    first
      | exact h.elim
      | (apply kc h; kernel_rfl)
theorem shell_Run.ok {s1 : ByteArray} {w : World} {K : ByteArray → Int → World → Prop} (h : shell_Run.F s1 w K) : shell_Run.C s1 w K := by
  refine CallsV.mono (callsV_of_spine prog.mixed prog.noNum (args := [(.string s1)]) (l := 1) (cut := shell_Run.U0 K) (p := [.R, .R, .R, .R, .L, .R, .B]) Tryz.func17 (c := bodyOf Tryz.f17) (by kernel_rfl) (by kernel_rfl) (by kernel_rfl) (by kernel_rfl) (R := S_s_i64.R K) ?_ (shell_Run.U0_ok1 K)) fun v w1 h => S_s_i64.out h
  apply kc h; kernel_rfl

def shell_Words.B1 (K : Option Addr → Nat → Nat → World → Prop) : (Option Addr × Nat × Nat × Int) → World → ((Option Addr × Nat × Nat × Int) → World → Prop) → Prop := fun s0 W14 next13 => match s0 with
 | (a9, l10, c11, n12) =>
  cond (decide (n12 < (24 : Int)))
  (play_Name.C (wu8 n12) W14 fun s15 W16 =>
  alP W16 #[(.string s15)] 9 fun r17 W18 =>
  AppV prog #[28, 28] 28 (.slice a9 l10 c11) (.slice (some ⟨r17, 0, none⟩) 1 1) W18 fun x19 W20 =>
  ∃ (a21 : Option Addr), ∃ (l22 : Nat), ∃ (c23 : Nat), x19 = (.slice a21 l22 c23) ∧
  next13 (a21, l22, c23, (w64 (n12 + (1 : Int)))) W20)
  (slices_Sort_string_string.C a9 l10 c11 W14 fun W24 =>
  K a9 l10 c11 W24)
def shell_Words.T1 (K : Option Addr → Nat → Nat → World → Prop) (a9 : Option Addr) (l10 : Nat) (c11 : Nat) (n12 : Int) (w : World) : Prop := LoopT (shell_Words.B1 K ) (a9, l10, c11, n12) w
def shell_Words.F (w : World) (K : Option Addr → Nat → Nat → World → Prop) : Prop :=
  alP w #[(.string (⟨#[97, 108, 108]⟩ : ByteArray))] 9 fun r1 W2 =>
  shell_Words.T1 K (some ⟨r1, 0, none⟩) 1 1 (0 : Int) W2
def shell_Words.U0 (K : Option Addr → Nat → Nat → World → Prop) (l : Nat) (fr : Fr) (w : World) : Prop :=
  match l with
 | 1 =>
  gL False (fr 1) fun a9 l10 c11 =>
  gI64 False (fr 4) fun n12 =>
  shell_Words.T1 K a9 l10 c11 n12 w
 | _ => False
def shell_Words.ext1 (fr : Fr) : Option (Option Addr × Nat × Nat × Int) :=
  gL none (fr 1) fun a9 l10 c11 =>
  gI64 none (fr 4) fun n12 =>
  some (a9, l10, c11, n12)
theorem shell_Words.U0_ok1 (K : Option Addr → Nat → Nat → World → Prop) (fr : Fr) (w : World) (h : shell_Words.U0 K 1 fr w) : sh prog (shell_Words.U0 K) (subAt [.R, .R, .L, .R, .B] (bodyOf Tryz.f22)) fr w (ctxAt prog (shell_Words.U0 K) [.R, .R, .L, .R, .B] (bodyOf Tryz.f22) (retK prog Tryz.f22.results.toList (S_l.R K))) := by
  unfold shell_Words.U0 at h
  simp only at h
  replace h := gL.outF h; obtain ⟨a9, l10, c11, e25, h⟩ := h
  replace h := gI64.outF h; obtain ⟨n12, e26, h⟩ := h
  refine kc (A := LoopP (sh prog (shell_Words.U0 K) (loopBody (subAt [.R, .R, .L, .R, .B] (bodyOf Tryz.f22)))) fr w (ctxAt prog (shell_Words.U0 K) [.R, .R, .L, .R, .B] (bodyOf Tryz.f22) (retK prog Tryz.f22.results.toList (S_l.R K)))) ?_ (by kernel_rfl)
  refine loop_typed (B := shell_Words.B1 K ) shell_Words.ext1 (s := (a9, l10, c11, n12)) (by unfold shell_Words.ext1; simp only [e25, e26]; rfl) h ?_
  clear h
  clear e25
  clear e26
  intro s0 fr1 w1 next13 hs hk h
  unfold shell_Words.ext1 at hs
  replace hs := noN (gL.out (d := none) (x := _) hs); obtain ⟨a9a, l10a, c11a, e27, hs⟩ := hs
  replace hs := noN (gI64.out (d := none) (x := _) hs); obtain ⟨n12a, e28, hs⟩ := hs
  replace hs := Option.some.inj hs; subst hs
  refine at_frame [(1, (.slice a9a l10a c11a)), (4, (.int .i64 n12a))] (by intro p hp; simp only [List.mem_cons, List.not_mem_nil, or_false] at hp; rcases hp with rfl | rfl <;> assumption) (Q := fun fr => sh prog (shell_Words.U0 K) (loopBody (subAt [.R, .R, .L, .R, .B] (bodyOf Tryz.f22))) fr w1 (nextK shell_Words.ext1 next13 (ctxAt prog (shell_Words.U0 K) [.R, .R, .L, .R, .B] (bodyOf Tryz.f22) (retK prog Tryz.f22.results.toList (S_l.R K))))) ?_
  apply kc h; kernel_rfl
theorem shell_Words.ok {w : World} {K : Option Addr → Nat → Nat → World → Prop} (h : shell_Words.F  w K) : shell_Words.C  w K := by
  refine CallsV.mono (callsV_of_sh prog.mixed prog.noNum (args := []) Tryz.func22 (c := bodyOf Tryz.f22) (by kernel_rfl) (by kernel_rfl) (by kernel_rfl) (R := S_l.R K) ?_) fun v w1 h => S_l.out h
  refine sh_anyCut (cut := shell_Words.U0 K) (by kernel_rfl) ?_
  refine sh_cutAt (p := [.R, .R, .L, .R, .B]) (l := 1) ?_ (shell_Words.U0_ok1 K)
  apply kc h; kernel_rfl

def shelf_New.F (w : World) (K : Option Addr → World → Prop) : Prop :=
  alP w #[(.pointer none), (.pointer none), (.pointer none), (.pointer none), (.pointer none), (.pointer none), (.pointer none), (.pointer none)] 82 fun r1 W2 =>
  K (some ⟨r1, 0, none⟩) W2
theorem shelf_New.ok {w : World} {K : Option Addr → World → Prop} (h : shelf_New.F  w K) : shelf_New.C  w K := by
  refine CallsV.mono (callsV_of_sh prog.mixed prog.noNum (args := []) Tryz.func23 (c := bodyOf Tryz.f23) (by kernel_rfl) (by kernel_rfl) (by kernel_rfl) (R := S_p.R K) ?_) fun v w1 h => S_p.out h
  apply kc h; kernel_rfl

def play_Player_change.F (p1 : Option Addr) (n2 : Int) (n3 : Int) (n4 : Int) (a5 : Option Addr) (l6 : Nat) (c7 : Nat) (n8 : Int) (n9 : Int) (a10 : Option Addr) (l11 : Nat) (c12 : Nat) (q13 : Bool) (n14 : Int) (n15 : Int) (n16 : Int) (q17 : Bool) (w : World) (K : Int → Int → Int → Bool → Option Addr → Nat → Nat → Bool → World → Prop) : Prop :=
  alP w #[(.int .u8 n2), (.int .i64 n3), (.int .i64 n4), (.slice a5 l6 c7), (.int .u64 n8), (.int .u64 n9), (.slice a10 l11 c12), (.bool q13), (.int .i64 n14), (.int .u64 n15), (.int .i64 n16), (.bool q17)] 35 fun r18 W19 =>
  alP W19 #[(.int .i64 (0 : Int)), (.int .u64 (0 : Int)), (.int .i64 (0 : Int)), (.bool false), (.slice none 0 0)] 33 fun r20 W21 =>
  alP W21 #[(.int .i64 (0 : Int)), (.int .u64 (0 : Int)), (.int .i64 (0 : Int)), (.bool false), (.slice none 0 0)] 33 fun r22 W23 =>
  stCs r22 0 [(.int .i64 (0 : Int)), (.int .u64 (0 : Int)), (.int .i64 (0 : Int)), (.bool false), (.slice none 0 0)] W23 fun W24 =>
  lU8 W24 r18 0 fun n25 =>
  cond (n25 == (0 : Int))
  (drP W24 fun W26 =>
  nn p1 fun b27 o28 =>
  lP W26 b27 o28 fun p29 =>
  lI64 W26 r18 1 fun n30 =>
  lB W26 r18 7 fun q31 =>
  lI64 W26 r18 8 fun n32 =>
  lU64 W26 r18 9 fun n33 =>
  lI64 W26 r18 10 fun n34 =>
  shelf_Shelf_Open.C p29 n30 q31 n32 n33 n34 W26 fun n35 W36 =>
  cellsAre W36 r18 10 [(.int .i64 n34)] ∧
  cellsAre W36 r18 9 [(.int .u64 n33)] ∧
  cellsAre W36 r18 8 [(.int .i64 n32)] ∧
  cellsAre W36 r18 7 [(.bool q31)] ∧
  stP W36 r22 0 (.int .i64 n35) fun W37 =>
  lAi64_u64_i64_b_l W37 r22 0 fun n38 n39 n40 q41 a42 l43 c44 =>
  stCs r20 0 [(.int .i64 n38), (.int .u64 n39), (.int .i64 n40), (.bool q41), (.slice a42 l43 c44)] W37 fun W45 =>
  lAi64_u64_i64_b_l W45 r20 0 fun n46 n47 n48 q49 a50 l51 c52 =>
  K n46 n47 n48 q49 a50 l51 c52 true W45)
  (cond (n25 == (1 : Int))
  (drP W24 fun W53 =>
  nn p1 fun b54 o55 =>
  lP W53 b54 o55 fun p56 =>
  lI64 W53 r18 1 fun n57 =>
  shelf_Shelf_Close.C p56 n57 W53 fun n58 W59 =>
  stP W59 r22 0 (.int .i64 n58) fun W60 =>
  lAi64_u64_i64_b_l W60 r22 0 fun n61 n62 n63 q64 a65 l66 c67 =>
  stCs r20 0 [(.int .i64 n61), (.int .u64 n62), (.int .i64 n63), (.bool q64), (.slice a65 l66 c67)] W60 fun W68 =>
  lAi64_u64_i64_b_l W68 r20 0 fun n69 n70 n71 q72 a73 l74 c75 =>
  K n69 n70 n71 q72 a73 l74 c75 true W68)
  (cond (n25 == (2 : Int))
  (drP W24 fun W76 =>
  nn p1 fun b77 o78 =>
  lP W76 b77 o78 fun p79 =>
  lI64 W76 r18 1 fun n80 =>
  lU64 W76 r18 4 fun n81 =>
  shelf_Shelf_Insert.C p79 n80 n81 W76 fun n82 W83 =>
  stP W83 r22 0 (.int .i64 n82) fun W84 =>
  lAi64_u64_i64_b_l W84 r22 0 fun n85 n86 n87 q88 a89 l90 c91 =>
  stCs r20 0 [(.int .i64 n85), (.int .u64 n86), (.int .i64 n87), (.bool q88), (.slice a89 l90 c91)] W84 fun W92 =>
  lAi64_u64_i64_b_l W92 r20 0 fun n93 n94 n95 q96 a97 l98 c99 =>
  K n93 n94 n95 q96 a97 l98 c99 true W92)
  (cond (n25 == (3 : Int))
  (drP W24 fun W100 =>
  nn p1 fun b101 o102 =>
  lP W100 b101 o102 fun p103 =>
  lI64 W100 r18 1 fun n104 =>
  lU64 W100 r18 4 fun n105 =>
  lU64 W100 r18 5 fun n106 =>
  shelf_Shelf_Put.C p103 n104 n105 n106 W100 fun n107 W108 =>
  stP W108 r22 0 (.int .i64 n107) fun W109 =>
  lAi64_u64_i64_b_l W109 r22 0 fun n110 n111 n112 q113 a114 l115 c116 =>
  stCs r20 0 [(.int .i64 n110), (.int .u64 n111), (.int .i64 n112), (.bool q113), (.slice a114 l115 c116)] W109 fun W117 =>
  lAi64_u64_i64_b_l W117 r20 0 fun n118 n119 n120 q121 a122 l123 c124 =>
  K n118 n119 n120 q121 a122 l123 c124 true W117)
  (cond (n25 == (4 : Int))
  (drP W24 fun W125 =>
  nn p1 fun b126 o127 =>
  lP W125 b126 o127 fun p128 =>
  lI64 W125 r18 1 fun n129 =>
  lU64 W125 r18 4 fun n130 =>
  shelf_Shelf_Delete.C p128 n129 n130 W125 fun n131 W132 =>
  stP W132 r22 0 (.int .i64 n131) fun W133 =>
  lAi64_u64_i64_b_l W133 r22 0 fun n134 n135 n136 q137 a138 l139 c140 =>
  stCs r20 0 [(.int .i64 n134), (.int .u64 n135), (.int .i64 n136), (.bool q137), (.slice a138 l139 c140)] W133 fun W141 =>
  lAi64_u64_i64_b_l W141 r20 0 fun n142 n143 n144 q145 a146 l147 c148 =>
  K n142 n143 n144 q145 a146 l147 c148 true W141)
  (cond (n25 == (13 : Int))
  (drP W24 fun W149 =>
  nn p1 fun b150 o151 =>
  lP W149 b150 o151 fun p152 =>
  lI64 W149 r18 1 fun n153 =>
  lU64 W149 r18 4 fun n154 =>
  lU64 W149 r18 5 fun n155 =>
  shelf_Shelf_Wipe.C p152 n153 n154 n155 W149 fun n156 n157 W158 =>
  stP W158 r22 2 (.int .i64 n156) fun W159 =>
  stP W159 r22 0 (.int .i64 n157) fun W160 =>
  lAi64_u64_i64_b_l W160 r22 0 fun n161 n162 n163 q164 a165 l166 c167 =>
  stCs r20 0 [(.int .i64 n161), (.int .u64 n162), (.int .i64 n163), (.bool q164), (.slice a165 l166 c167)] W160 fun W168 =>
  lAi64_u64_i64_b_l W168 r20 0 fun n169 n170 n171 q172 a173 l174 c175 =>
  K n169 n170 n171 q172 a173 l174 c175 true W168)
  (cond (n25 == (14 : Int))
  (drP W24 fun W176 =>
  nn p1 fun b177 o178 =>
  lP W176 b177 o178 fun p179 =>
  lI64 W176 r18 1 fun n180 =>
  shelf_Shelf_Clear.C p179 n180 W176 fun n181 W182 =>
  stP W182 r22 0 (.int .i64 n181) fun W183 =>
  lAi64_u64_i64_b_l W183 r22 0 fun n184 n185 n186 q187 a188 l189 c190 =>
  stCs r20 0 [(.int .i64 n184), (.int .u64 n185), (.int .i64 n186), (.bool q187), (.slice a188 l189 c190)] W183 fun W191 =>
  lAi64_u64_i64_b_l W191 r20 0 fun n192 n193 n194 q195 a196 l197 c198 =>
  K n192 n193 n194 q195 a196 l197 c198 true W191)
  (cond (n25 == (15 : Int))
  (drP W24 fun W199 =>
  nn p1 fun b200 o201 =>
  lP W199 b200 o201 fun p202 =>
  lI64 W199 r18 2 fun n203 =>
  lI64 W199 r18 1 fun n204 =>
  lL W199 r18 3 fun a205 l206 c207 =>
  shelf_Shelf_Join.C p202 n203 n204 a205 l206 c207 W199 fun n208 W209 =>
  stP W209 r22 0 (.int .i64 n208) fun W210 =>
  lAi64_u64_i64_b_l W210 r22 0 fun n211 n212 n213 q214 a215 l216 c217 =>
  stCs r20 0 [(.int .i64 n211), (.int .u64 n212), (.int .i64 n213), (.bool q214), (.slice a215 l216 c217)] W210 fun W218 =>
  lAi64_u64_i64_b_l W218 r20 0 fun n219 n220 n221 q222 a223 l224 c225 =>
  K n219 n220 n221 q222 a223 l224 c225 true W218)
  (cond (n25 == (19 : Int))
  (drP W24 fun W226 =>
  nn p1 fun b227 o228 =>
  lP W226 b227 o228 fun p229 =>
  lI64 W226 r18 1 fun n230 =>
  lL W226 r18 6 fun a231 l232 c233 =>
  shelf_Shelf_Decode.C p229 n230 a231 l232 c233 W226 fun n234 W235 =>
  stP W235 r22 0 (.int .i64 n234) fun W236 =>
  lAi64_u64_i64_b_l W236 r22 0 fun n237 n238 n239 q240 a241 l242 c243 =>
  stCs r20 0 [(.int .i64 n237), (.int .u64 n238), (.int .i64 n239), (.bool q240), (.slice a241 l242 c243)] W236 fun W244 =>
  lAi64_u64_i64_b_l W244 r20 0 fun n245 n246 n247 q248 a249 l250 c251 =>
  K n245 n246 n247 q248 a249 l250 c251 true W244)
  (stCs r20 0 [(.int .i64 (0 : Int)), (.int .u64 (0 : Int)), (.int .i64 (0 : Int)), (.bool false), (.slice none 0 0)] W24 fun W252 =>
  lAi64_u64_i64_b_l W252 r20 0 fun n253 n254 n255 q256 a257 l258 c259 =>
  K n253 n254 n255 q256 a257 l258 c259 false W252)))))))))
theorem play_Player_change.ok {p1 : Option Addr} {n2 : Int} {n3 : Int} {n4 : Int} {a5 : Option Addr} {l6 : Nat} {c7 : Nat} {n8 : Int} {n9 : Int} {a10 : Option Addr} {l11 : Nat} {c12 : Nat} {q13 : Bool} {n14 : Int} {n15 : Int} {n16 : Int} {q17 : Bool} {w : World} {K : Int → Int → Int → Bool → Option Addr → Nat → Nat → Bool → World → Prop} (h : play_Player_change.F p1 n2 n3 n4 a5 l6 c7 n8 n9 a10 l11 c12 q13 n14 n15 n16 q17 w K) : play_Player_change.C p1 n2 n3 n4 a5 l6 c7 n8 n9 a10 l11 c12 q13 n14 n15 n16 q17 w K := by
  refine CallsV.mono (callsV_of_sh prog.mixed prog.noNum (args := [(.pointer p1), (.agg #[(.int .u8 n2), (.int .i64 n3), (.int .i64 n4), (.slice a5 l6 c7), (.int .u64 n8), (.int .u64 n9), (.slice a10 l11 c12), (.bool q13), (.int .i64 n14), (.int .u64 n15), (.int .i64 n16), (.bool q17)])]) Tryz.func24 (c := bodyOf Tryz.f24) (by kernel_rfl) (by kernel_rfl) (by kernel_rfl) (R := S_ai64_u64_i64_b_lz_b.R K) ?_) fun v w1 h => S_ai64_u64_i64_b_lz_b.out h
  apply kc h; kernel_rfl

def play_Player_look.F (p1 : Option Addr) (n2 : Int) (n3 : Int) (n4 : Int) (a5 : Option Addr) (l6 : Nat) (c7 : Nat) (n8 : Int) (n9 : Int) (a10 : Option Addr) (l11 : Nat) (c12 : Nat) (q13 : Bool) (n14 : Int) (n15 : Int) (n16 : Int) (q17 : Bool) (w : World) (K : Int → Int → Int → Bool → Option Addr → Nat → Nat → Bool → World → Prop) : Prop :=
  alP w #[(.int .u8 n2), (.int .i64 n3), (.int .i64 n4), (.slice a5 l6 c7), (.int .u64 n8), (.int .u64 n9), (.slice a10 l11 c12), (.bool q13), (.int .i64 n14), (.int .u64 n15), (.int .i64 n16), (.bool q17)] 35 fun r18 W19 =>
  alP W19 #[(.int .i64 (0 : Int)), (.int .u64 (0 : Int)), (.int .i64 (0 : Int)), (.bool false), (.slice none 0 0)] 33 fun r20 W21 =>
  alP W21 #[(.int .i64 (0 : Int)), (.int .u64 (0 : Int)), (.int .i64 (0 : Int)), (.bool false), (.slice none 0 0)] 33 fun r22 W23 =>
  stCs r22 0 [(.int .i64 (0 : Int)), (.int .u64 (0 : Int)), (.int .i64 (0 : Int)), (.bool false), (.slice none 0 0)] W23 fun W24 =>
  lU8 W24 r18 0 fun n25 =>
  cond (n25 == (5 : Int))
  (drP W24 fun W26 =>
  nn p1 fun b27 o28 =>
  lP W26 b27 o28 fun p29 =>
  lI64 W26 r18 1 fun n30 =>
  lU64 W26 r18 4 fun n31 =>
  shelf_Shelf_Get.C p29 n30 n31 W26 fun n32 n33 W34 =>
  stP W34 r22 1 (.int .u64 n32) fun W35 =>
  stP W35 r22 0 (.int .i64 n33) fun W36 =>
  lAi64_u64_i64_b_l W36 r22 0 fun n37 n38 n39 q40 a41 l42 c43 =>
  stCs r20 0 [(.int .i64 n37), (.int .u64 n38), (.int .i64 n39), (.bool q40), (.slice a41 l42 c43)] W36 fun W44 =>
  lAi64_u64_i64_b_l W44 r20 0 fun n45 n46 n47 q48 a49 l50 c51 =>
  K n45 n46 n47 q48 a49 l50 c51 true W44)
  (cond (n25 == (6 : Int))
  (drP W24 fun W52 =>
  nn p1 fun b53 o54 =>
  lP W52 b53 o54 fun p55 =>
  lI64 W52 r18 1 fun n56 =>
  lU64 W52 r18 4 fun n57 =>
  shelf_Shelf_Has.C p55 n56 n57 W52 fun q58 n59 W60 =>
  stP W60 r22 3 (.bool q58) fun W61 =>
  stP W61 r22 0 (.int .i64 n59) fun W62 =>
  lAi64_u64_i64_b_l W62 r22 0 fun n63 n64 n65 q66 a67 l68 c69 =>
  stCs r20 0 [(.int .i64 n63), (.int .u64 n64), (.int .i64 n65), (.bool q66), (.slice a67 l68 c69)] W62 fun W70 =>
  lAi64_u64_i64_b_l W70 r20 0 fun n71 n72 n73 q74 a75 l76 c77 =>
  K n71 n72 n73 q74 a75 l76 c77 true W70)
  (cond (n25 == (7 : Int))
  (drP W24 fun W78 =>
  nn p1 fun b79 o80 =>
  lP W78 b79 o80 fun p81 =>
  lI64 W78 r18 1 fun n82 =>
  lU64 W78 r18 4 fun n83 =>
  shelf_Shelf_Next.C p81 n82 n83 W78 fun n84 n85 W86 =>
  stP W86 r22 1 (.int .u64 n84) fun W87 =>
  stP W87 r22 0 (.int .i64 n85) fun W88 =>
  lAi64_u64_i64_b_l W88 r22 0 fun n89 n90 n91 q92 a93 l94 c95 =>
  stCs r20 0 [(.int .i64 n89), (.int .u64 n90), (.int .i64 n91), (.bool q92), (.slice a93 l94 c95)] W88 fun W96 =>
  lAi64_u64_i64_b_l W96 r20 0 fun n97 n98 n99 q100 a101 l102 c103 =>
  K n97 n98 n99 q100 a101 l102 c103 true W96)
  (cond (n25 == (8 : Int))
  (drP W24 fun W104 =>
  nn p1 fun b105 o106 =>
  lP W104 b105 o106 fun p107 =>
  lI64 W104 r18 1 fun n108 =>
  lU64 W104 r18 4 fun n109 =>
  shelf_Shelf_Prev.C p107 n108 n109 W104 fun n110 n111 W112 =>
  stP W112 r22 1 (.int .u64 n110) fun W113 =>
  stP W113 r22 0 (.int .i64 n111) fun W114 =>
  lAi64_u64_i64_b_l W114 r22 0 fun n115 n116 n117 q118 a119 l120 c121 =>
  stCs r20 0 [(.int .i64 n115), (.int .u64 n116), (.int .i64 n117), (.bool q118), (.slice a119 l120 c121)] W114 fun W122 =>
  lAi64_u64_i64_b_l W122 r20 0 fun n123 n124 n125 q126 a127 l128 c129 =>
  K n123 n124 n125 q126 a127 l128 c129 true W122)
  (cond (n25 == (9 : Int))
  (drP W24 fun W130 =>
  nn p1 fun b131 o132 =>
  lP W130 b131 o132 fun p133 =>
  lI64 W130 r18 1 fun n134 =>
  shelf_Shelf_Len.C p133 n134 W130 fun n135 n136 W137 =>
  stP W137 r22 2 (.int .i64 n135) fun W138 =>
  stP W138 r22 0 (.int .i64 n136) fun W139 =>
  lAi64_u64_i64_b_l W139 r22 0 fun n140 n141 n142 q143 a144 l145 c146 =>
  stCs r20 0 [(.int .i64 n140), (.int .u64 n141), (.int .i64 n142), (.bool q143), (.slice a144 l145 c146)] W139 fun W147 =>
  lAi64_u64_i64_b_l W147 r20 0 fun n148 n149 n150 q151 a152 l153 c154 =>
  K n148 n149 n150 q151 a152 l153 c154 true W147)
  (cond (n25 == (10 : Int))
  (drP W24 fun W155 =>
  nn p1 fun b156 o157 =>
  lP W155 b156 o157 fun p158 =>
  lI64 W155 r18 1 fun n159 =>
  lU64 W155 r18 4 fun n160 =>
  shelf_Shelf_Rank.C p158 n159 n160 W155 fun n161 n162 W163 =>
  stP W163 r22 2 (.int .i64 n161) fun W164 =>
  stP W164 r22 0 (.int .i64 n162) fun W165 =>
  lAi64_u64_i64_b_l W165 r22 0 fun n166 n167 n168 q169 a170 l171 c172 =>
  stCs r20 0 [(.int .i64 n166), (.int .u64 n167), (.int .i64 n168), (.bool q169), (.slice a170 l171 c172)] W165 fun W173 =>
  lAi64_u64_i64_b_l W173 r20 0 fun n174 n175 n176 q177 a178 l179 c180 =>
  K n174 n175 n176 q177 a178 l179 c180 true W173)
  (cond (n25 == (11 : Int))
  (drP W24 fun W181 =>
  nn p1 fun b182 o183 =>
  lP W181 b182 o183 fun p184 =>
  lI64 W181 r18 1 fun n185 =>
  lI64 W181 r18 2 fun n186 =>
  shelf_Shelf_Select.C p184 n185 n186 W181 fun n187 n188 W189 =>
  stP W189 r22 1 (.int .u64 n187) fun W190 =>
  stP W190 r22 0 (.int .i64 n188) fun W191 =>
  lAi64_u64_i64_b_l W191 r22 0 fun n192 n193 n194 q195 a196 l197 c198 =>
  stCs r20 0 [(.int .i64 n192), (.int .u64 n193), (.int .i64 n194), (.bool q195), (.slice a196 l197 c198)] W191 fun W199 =>
  lAi64_u64_i64_b_l W199 r20 0 fun n200 n201 n202 q203 a204 l205 c206 =>
  K n200 n201 n202 q203 a204 l205 c206 true W199)
  (cond (n25 == (12 : Int))
  (drP W24 fun W207 =>
  nn p1 fun b208 o209 =>
  lP W207 b208 o209 fun p210 =>
  lI64 W207 r18 1 fun n211 =>
  lU64 W207 r18 4 fun n212 =>
  lU64 W207 r18 5 fun n213 =>
  shelf_Shelf_Count.C p210 n211 n212 n213 W207 fun n214 n215 W216 =>
  stP W216 r22 2 (.int .i64 n214) fun W217 =>
  stP W217 r22 0 (.int .i64 n215) fun W218 =>
  lAi64_u64_i64_b_l W218 r22 0 fun n219 n220 n221 q222 a223 l224 c225 =>
  stCs r20 0 [(.int .i64 n219), (.int .u64 n220), (.int .i64 n221), (.bool q222), (.slice a223 l224 c225)] W218 fun W226 =>
  lAi64_u64_i64_b_l W226 r20 0 fun n227 n228 n229 q230 a231 l232 c233 =>
  K n227 n228 n229 q230 a231 l232 c233 true W226)
  (stCs r20 0 [(.int .i64 (0 : Int)), (.int .u64 (0 : Int)), (.int .i64 (0 : Int)), (.bool false), (.slice none 0 0)] W24 fun W234 =>
  lAi64_u64_i64_b_l W234 r20 0 fun n235 n236 n237 q238 a239 l240 c241 =>
  K n235 n236 n237 q238 a239 l240 c241 false W234))))))))
theorem play_Player_look.ok {p1 : Option Addr} {n2 : Int} {n3 : Int} {n4 : Int} {a5 : Option Addr} {l6 : Nat} {c7 : Nat} {n8 : Int} {n9 : Int} {a10 : Option Addr} {l11 : Nat} {c12 : Nat} {q13 : Bool} {n14 : Int} {n15 : Int} {n16 : Int} {q17 : Bool} {w : World} {K : Int → Int → Int → Bool → Option Addr → Nat → Nat → Bool → World → Prop} (h : play_Player_look.F p1 n2 n3 n4 a5 l6 c7 n8 n9 a10 l11 c12 q13 n14 n15 n16 q17 w K) : play_Player_look.C p1 n2 n3 n4 a5 l6 c7 n8 n9 a10 l11 c12 q13 n14 n15 n16 q17 w K := by
  refine CallsV.mono (callsV_of_sh prog.mixed prog.noNum (args := [(.pointer p1), (.agg #[(.int .u8 n2), (.int .i64 n3), (.int .i64 n4), (.slice a5 l6 c7), (.int .u64 n8), (.int .u64 n9), (.slice a10 l11 c12), (.bool q13), (.int .i64 n14), (.int .u64 n15), (.int .i64 n16), (.bool q17)])]) Tryz.func25 (c := bodyOf Tryz.f25) (by kernel_rfl) (by kernel_rfl) (by kernel_rfl) (R := S_ai64_u64_i64_b_lz_b.R K) ?_) fun v w1 h => S_ai64_u64_i64_b_lz_b.out h
  apply kc h; kernel_rfl


end Go.St
