import Derived.Test.YtcipamclhpcaaaaGreatDoorCalls
/- Printed forms of functions. -/
namespace Go.St
open Go Go.Proofs
attribute [local irreducible] sh InvV DynV AppV CpyV ClrV TasV CnvV
set_option linter.unusedVariables false
set_option linter.unusedSimpArgs false
def play_Player_other.F (p1 : Option Addr) (n2 : Int) (n3 : Int) (n4 : Int) (a5 : Option Addr) (l6 : Nat) (c7 : Nat) (n8 : Int) (n9 : Int) (a10 : Option Addr) (l11 : Nat) (c12 : Nat) (q13 : Bool) (n14 : Int) (n15 : Int) (n16 : Int) (q17 : Bool) (w : World) (K : Int → Int → Int → Bool → Option Addr → Nat → Nat → Bool → World → Prop) : Prop :=
  alP w #[(.int .u8 n2), (.int .i64 n3), (.int .i64 n4), (.slice a5 l6 c7), (.int .u64 n8), (.int .u64 n9), (.slice a10 l11 c12), (.bool q13), (.int .i64 n14), (.int .u64 n15), (.int .i64 n16), (.bool q17)] 35 fun r18 W19 =>
  alP W19 #[(.int .i64 (0 : Int)), (.int .u64 (0 : Int)), (.int .i64 (0 : Int)), (.bool false), (.slice none 0 0)] 33 fun r20 W21 =>
  alP W21 #[(.int .i64 (0 : Int)), (.int .u64 (0 : Int)), (.int .i64 (0 : Int)), (.bool false), (.slice none 0 0)] 33 fun r22 W23 =>
  stCs r22 0 [(.int .i64 (0 : Int)), (.int .u64 (0 : Int)), (.int .i64 (0 : Int)), (.bool false), (.slice none 0 0)] W23 fun W24 =>
  lU8 W24 r18 0 fun n25 =>
  cond (n25 == (16 : Int))
  (drP W24 fun W26 =>
  nn p1 fun b27 o28 =>
  lP W26 b27 o28 fun p29 =>
  lI64 W26 r18 1 fun n30 =>
  lI64 W26 r18 2 fun n31 =>
  shelf_Shelf_Equal.C p29 n30 n31 W26 fun q32 n33 W34 =>
  stP W34 r22 3 (.bool q32) fun W35 =>
  stP W35 r22 0 (.int .i64 n33) fun W36 =>
  lAi64_u64_i64_b_l W36 r22 0 fun n37 n38 n39 q40 a41 l42 c43 =>
  stCs r20 0 [(.int .i64 n37), (.int .u64 n38), (.int .i64 n39), (.bool q40), (.slice a41 l42 c43)] W36 fun W44 =>
  lAi64_u64_i64_b_l W44 r20 0 fun n45 n46 n47 q48 a49 l50 c51 =>
  K n45 n46 n47 q48 a49 l50 c51 true W44)
  (cond (n25 == (17 : Int))
  (drP W24 fun W52 =>
  nn p1 fun b53 o54 =>
  lP W52 b53 o54 fun p55 =>
  lI64 W52 r18 1 fun n56 =>
  lI64 W52 r18 2 fun n57 =>
  shelf_Shelf_Within.C p55 n56 n57 W52 fun q58 n59 W60 =>
  stP W60 r22 3 (.bool q58) fun W61 =>
  stP W61 r22 0 (.int .i64 n59) fun W62 =>
  lAi64_u64_i64_b_l W62 r22 0 fun n63 n64 n65 q66 a67 l68 c69 =>
  stCs r20 0 [(.int .i64 n63), (.int .u64 n64), (.int .i64 n65), (.bool q66), (.slice a67 l68 c69)] W62 fun W70 =>
  lAi64_u64_i64_b_l W70 r20 0 fun n71 n72 n73 q74 a75 l76 c77 =>
  K n71 n72 n73 q74 a75 l76 c77 true W70)
  (cond (n25 == (18 : Int))
  (drP W24 fun W78 =>
  nn p1 fun b79 o80 =>
  lP W78 b79 o80 fun p81 =>
  lI64 W78 r18 1 fun n82 =>
  shelf_Shelf_Encode.C p81 n82 W78 fun a83 l84 c85 n86 W87 =>
  stP W87 r22 4 (.slice a83 l84 c85) fun W88 =>
  stP W88 r22 0 (.int .i64 n86) fun W89 =>
  lAi64_u64_i64_b_l W89 r22 0 fun n90 n91 n92 q93 a94 l95 c96 =>
  stCs r20 0 [(.int .i64 n90), (.int .u64 n91), (.int .i64 n92), (.bool q93), (.slice a94 l95 c96)] W89 fun W97 =>
  lAi64_u64_i64_b_l W97 r20 0 fun n98 n99 n100 q101 a102 l103 c104 =>
  K n98 n99 n100 q101 a102 l103 c104 true W97)
  (cond (n25 == (20 : Int))
  (drP W24 fun W105 =>
  nn p1 fun b106 o107 =>
  lP W105 b106 o107 fun p108 =>
  lI64 W105 r18 1 fun n109 =>
  lU64 W105 r18 4 fun n110 =>
  lU64 W105 r18 5 fun n111 =>
  shelf_Shelf_Cursor.C p108 n109 n110 n111 W105 fun n112 W113 =>
  stP W113 r22 0 (.int .i64 n112) fun W114 =>
  lAi64_u64_i64_b_l W114 r22 0 fun n115 n116 n117 q118 a119 l120 c121 =>
  stCs r20 0 [(.int .i64 n115), (.int .u64 n116), (.int .i64 n117), (.bool q118), (.slice a119 l120 c121)] W114 fun W122 =>
  lAi64_u64_i64_b_l W122 r20 0 fun n123 n124 n125 q126 a127 l128 c129 =>
  K n123 n124 n125 q126 a127 l128 c129 true W122)
  (cond (n25 == (21 : Int))
  (drP W24 fun W130 =>
  nn p1 fun b131 o132 =>
  lP W130 b131 o132 fun p133 =>
  lI64 W130 r18 1 fun n134 =>
  lB W130 r18 11 fun q135 =>
  shelf_Shelf_Step.C p133 n134 q135 W130 fun n136 n137 W138 =>
  stP W138 r22 1 (.int .u64 n136) fun W139 =>
  stP W139 r22 0 (.int .i64 n137) fun W140 =>
  lAi64_u64_i64_b_l W140 r22 0 fun n141 n142 n143 q144 a145 l146 c147 =>
  stCs r20 0 [(.int .i64 n141), (.int .u64 n142), (.int .i64 n143), (.bool q144), (.slice a145 l146 c147)] W140 fun W148 =>
  lAi64_u64_i64_b_l W148 r20 0 fun n149 n150 n151 q152 a153 l154 c155 =>
  K n149 n150 n151 q152 a153 l154 c155 true W148)
  (cond (n25 == (22 : Int))
  (drP W24 fun W156 =>
  nn p1 fun b157 o158 =>
  lP W156 b157 o158 fun p159 =>
  lI64 W156 r18 1 fun n160 =>
  lU64 W156 r18 4 fun n161 =>
  shelf_Shelf_Seek.C p159 n160 n161 W156 fun n162 n163 W164 =>
  stP W164 r22 1 (.int .u64 n162) fun W165 =>
  stP W165 r22 0 (.int .i64 n163) fun W166 =>
  lAi64_u64_i64_b_l W166 r22 0 fun n167 n168 n169 q170 a171 l172 c173 =>
  stCs r20 0 [(.int .i64 n167), (.int .u64 n168), (.int .i64 n169), (.bool q170), (.slice a171 l172 c173)] W166 fun W174 =>
  lAi64_u64_i64_b_l W174 r20 0 fun n175 n176 n177 q178 a179 l180 c181 =>
  K n175 n176 n177 q178 a179 l180 c181 true W174)
  (cond (n25 == (23 : Int))
  (drP W24 fun W182 =>
  nn p1 fun b183 o184 =>
  lP W182 b183 o184 fun p185 =>
  lI64 W182 r18 1 fun n186 =>
  shelf_Shelf_Version.C p185 n186 W182 fun n187 n188 W189 =>
  stP W189 r22 1 (.int .u64 n187) fun W190 =>
  stP W190 r22 0 (.int .i64 n188) fun W191 =>
  lAi64_u64_i64_b_l W191 r22 0 fun n192 n193 n194 q195 a196 l197 c198 =>
  stCs r20 0 [(.int .i64 n192), (.int .u64 n193), (.int .i64 n194), (.bool q195), (.slice a196 l197 c198)] W191 fun W199 =>
  lAi64_u64_i64_b_l W199 r20 0 fun n200 n201 n202 q203 a204 l205 c206 =>
  K n200 n201 n202 q203 a204 l205 c206 true W199)
  (stCs r20 0 [(.int .i64 (0 : Int)), (.int .u64 (0 : Int)), (.int .i64 (0 : Int)), (.bool false), (.slice none 0 0)] W24 fun W207 =>
  lAi64_u64_i64_b_l W207 r20 0 fun n208 n209 n210 q211 a212 l213 c214 =>
  K n208 n209 n210 q211 a212 l213 c214 false W207)))))))
theorem play_Player_other.ok {p1 : Option Addr} {n2 : Int} {n3 : Int} {n4 : Int} {a5 : Option Addr} {l6 : Nat} {c7 : Nat} {n8 : Int} {n9 : Int} {a10 : Option Addr} {l11 : Nat} {c12 : Nat} {q13 : Bool} {n14 : Int} {n15 : Int} {n16 : Int} {q17 : Bool} {w : World} {K : Int → Int → Int → Bool → Option Addr → Nat → Nat → Bool → World → Prop} (h : play_Player_other.F p1 n2 n3 n4 a5 l6 c7 n8 n9 a10 l11 c12 q13 n14 n15 n16 q17 w K) : play_Player_other.C p1 n2 n3 n4 a5 l6 c7 n8 n9 a10 l11 c12 q13 n14 n15 n16 q17 w K := by
  refine CallsV.mono (callsV_of_sh prog.mixed prog.noNum (args := [(.pointer p1), (.agg #[(.int .u8 n2), (.int .i64 n3), (.int .i64 n4), (.slice a5 l6 c7), (.int .u64 n8), (.int .u64 n9), (.slice a10 l11 c12), (.bool q13), (.int .i64 n14), (.int .u64 n15), (.int .i64 n16), (.bool q17)])]) Tryz.func26 (c := bodyOf Tryz.f26) (by kernel_rfl) (by kernel_rfl) (by kernel_rfl) (R := S_ai64_u64_i64_b_lz_b.R K) ?_) fun v w1 h => S_ai64_u64_i64_b_lz_b.out h
  apply kc h; kernel_rfl

def shelf_Shelf_Encode.F (p1 : Option Addr) (n2 : Int) (w : World) (K : Option Addr → Nat → Nat → Int → World → Prop) : Prop :=
  shelf_Shelf_at.C p1 n2 w fun p3 W4 =>
  cond (Option.isNone p3)
  (K none 0 0 (6 : Int) W4)
  (nn p3 fun b5 o6 =>
  lP W4 b5 (o6 + 5) fun p7 =>
  cond (!(Option.isNone p7))
  (nn p3 fun b8 o9 =>
  lP W4 b8 (o9 + 5) fun p10 =>
  dict_Map_Encode.C p10 W4 fun a11 l12 c13 n14 W15 =>
  K a11 l12 c13 n14 W15)
  (shelf_item_keys.C p3 W4 fun x16 W17 =>
  face_Encode.C x16 W17 fun a18 l19 c20 n21 W22 =>
  K a18 l19 c20 n21 W22))
theorem shelf_Shelf_Encode.ok {p1 : Option Addr} {n2 : Int} {w : World} {K : Option Addr → Nat → Nat → Int → World → Prop} (h : shelf_Shelf_Encode.F p1 n2 w K) : shelf_Shelf_Encode.C p1 n2 w K := by
  refine CallsV.mono (callsV_of_sh prog.mixed prog.noNum (args := [(.pointer p1), (.int .i64 n2)]) Tryz.func28 (c := bodyOf Tryz.f28) (by kernel_rfl) (by kernel_rfl) (by kernel_rfl) (R := S_l_i64.R K) ?_) fun v w1 h => S_l_i64.out h
  apply kc h; kernel_rfl

def shell_lines.F (s1 : ByteArray) (w : World) (K : Value → World → Prop) : Prop :=
  alP w #[(.string s1)] 9 fun r2 W3 =>
  K (.func (.func 64) #[] #[(.pointer (some ⟨r2, 0, none⟩))]) W3
theorem shell_lines.ok {s1 : ByteArray} {w : World} {K : Value → World → Prop} (h : shell_lines.F s1 w K) : shell_lines.C s1 w K := by
  refine CallsV.mono (callsV_of_sh prog.mixed prog.noNum (args := [(.string s1)]) Tryz.func29 (c := bodyOf Tryz.f29) (by kernel_rfl) (by kernel_rfl) (by kernel_rfl) (R := S_r.R K) ?_) fun v w1 h => S_r.out h
  apply kc h; kernel_rfl

def shell_line.F (p1 : Option Addr) (s2 : ByteArray) (w : World) (K : ByteArray → World → Prop) : Prop :=
  shell_read.C s2 w fun n3 n4 n5 a6 l7 c8 n9 n10 a11 l12 c13 q14 n15 n16 n17 q18 q19 W20 =>
  alP W20 #[(.int .u8 (0 : Int)), (.int .i64 (0 : Int)), (.int .i64 (0 : Int)), (.slice none 0 0), (.int .u64 (0 : Int)), (.int .u64 (0 : Int)), (.slice none 0 0), (.bool false), (.int .i64 (0 : Int)), (.int .u64 (0 : Int)), (.int .i64 (0 : Int)), (.bool false)] 35 fun r21 W22 =>
  stCs r21 0 [(.int .u8 n3), (.int .i64 n4), (.int .i64 n5), (.slice a6 l7 c8), (.int .u64 n9), (.int .u64 n10), (.slice a11 l12 c13), (.bool q14), (.int .i64 n15), (.int .u64 n16), (.int .i64 n17), (.bool q18)] W22 fun W23 =>
  cond (!q19)
  (shell_fault.C (12 : Int) W23 fun s24 W25 =>
  K s24 W25)
  (strings_Cut.C s2 (⟨#[32]⟩ : ByteArray) W23 fun s26 s27 q28 W29 =>
  lU8 W29 r21 0 fun n30 =>
  cond (n30 == (24 : Int))
  (shell_kind.C (⟨#[101, 110, 99, 111, 100, 101]⟩ : ByteArray) W29 fun n31 W32 =>
  stP W32 r21 0 (.int .u8 (wu8 n31)) fun W33 =>
  lAu8_i64_i64_l_u64_u64_l_b_i64_u64_i64_b W33 r21 0 fun n34 n35 n36 a37 l38 c39 n40 n41 a42 l43 c44 q45 n46 n47 n48 q49 =>
  play_Player_Do.C p1 n34 n35 n36 a37 l38 c39 n40 n41 a42 l43 c44 q45 n46 n47 n48 q49 W33 fun n50 n51 n52 q53 a54 l55 c56 W57 =>
  shell_listed.C n50 n51 n52 q53 a54 l55 c56 W57 fun s58 W59 =>
  K s58 W59)
  (lAu8_i64_i64_l_u64_u64_l_b_i64_u64_i64_b W29 r21 0 fun n60 n61 n62 a63 l64 c65 n66 n67 a68 l69 c70 q71 n72 n73 n74 q75 =>
  play_Player_Do.C p1 n60 n61 n62 a63 l64 c65 n66 n67 a68 l69 c70 q71 n72 n73 n74 q75 W29 fun n76 n77 n78 q79 a80 l81 c82 W83 =>
  shell_told.C s26 n76 n77 n78 q79 a80 l81 c82 W83 fun s84 W85 =>
  K s84 W85))
theorem shell_line.ok {p1 : Option Addr} {s2 : ByteArray} {w : World} {K : ByteArray → World → Prop} (h : shell_line.F p1 s2 w K) : shell_line.C p1 s2 w K := by
  refine CallsV.mono (callsV_of_sh prog.mixed prog.noNum (args := [(.pointer p1), (.string s2)]) Tryz.func31 (c := bodyOf Tryz.f31) (by kernel_rfl) (by kernel_rfl) (by kernel_rfl) (R := S_s.R K) ?_) fun v w1 h => S_s.out h
  apply kc h; kernel_rfl

def shelf_Shelf_Open.F (p1 : Option Addr) (n2 : Int) (q3 : Bool) (n4 : Int) (n5 : Int) (n6 : Int) (w : World) (K : Int → World → Prop) : Prop :=
  alP w #[(.bool q3), (.int .i64 n4), (.int .u64 n5), (.int .i64 n6)] 85 fun r7 W8 =>
  cond (Option.isNone p1)
  (K (6 : Int) W8)
  (cond (decide (n2 < (0 : Int)))
  (K (6 : Int) W8)
  (cond (decide (n2 ≥ (8 : Int)))
  (K (6 : Int) W8)
  (nn p1 fun b9 o10 =>
  0 ≤ n2 ∧ n2 < ((8 : Nat) : Int) ∧
  lP W8 b9 (o10 + Int.toNat n2 * 1) fun p11 =>
  cond (!(Option.isNone p11))
  (K (4 : Int) W8)
  (lAb_i64_u64_i64 W8 r7 0 fun q12 n13 n14 n15 =>
  shelf_made.C q12 n13 n14 n15 W8 fun p16 n17 W18 =>
  cond (n17 == (0 : Int))
  (nn p1 fun b19 o20 =>
  0 ≤ n2 ∧ n2 < ((8 : Nat) : Int) ∧
  stP W18 b19 (o20 + Int.toNat n2 * 1) (.pointer p16) fun W21 =>
  K n17 W21)
  (K n17 W18)))))
theorem shelf_Shelf_Open.ok {p1 : Option Addr} {n2 : Int} {q3 : Bool} {n4 : Int} {n5 : Int} {n6 : Int} {w : World} {K : Int → World → Prop} (h : shelf_Shelf_Open.F p1 n2 q3 n4 n5 n6 w K) : shelf_Shelf_Open.C p1 n2 q3 n4 n5 n6 w K := by
  refine CallsV.mono (callsV_of_sh prog.mixed prog.noNum (args := [(.pointer p1), (.int .i64 n2), (.agg #[(.bool q3), (.int .i64 n4), (.int .u64 n5), (.int .i64 n6)])]) Tryz.func35 (c := bodyOf Tryz.f35) (by kernel_rfl) (by kernel_rfl) (by kernel_rfl) (R := S_i64.R K) ?_) fun v w1 h => S_i64.out h
  apply kc h; kernel_rfl

def shelf_Shelf_Close.F (p1 : Option Addr) (n2 : Int) (w : World) (K : Int → World → Prop) : Prop :=
  shelf_Shelf_Taken.C p1 n2 w fun q3 W4 =>
  cond (!q3)
  (K (6 : Int) W4)
  (nn p1 fun b5 o6 =>
  0 ≤ n2 ∧ n2 < ((8 : Nat) : Int) ∧
  stP W4 b5 (o6 + Int.toNat n2 * 1) (.pointer none) fun W7 =>
  K (0 : Int) W7)
theorem shelf_Shelf_Close.ok {p1 : Option Addr} {n2 : Int} {w : World} {K : Int → World → Prop} (h : shelf_Shelf_Close.F p1 n2 w K) : shelf_Shelf_Close.C p1 n2 w K := by
  refine CallsV.mono (callsV_of_sh prog.mixed prog.noNum (args := [(.pointer p1), (.int .i64 n2)]) Tryz.func36 (c := bodyOf Tryz.f36) (by kernel_rfl) (by kernel_rfl) (by kernel_rfl) (R := S_i64.R K) ?_) fun v w1 h => S_i64.out h
  apply kc h; kernel_rfl

def shelf_Shelf_Insert.F (p1 : Option Addr) (n2 : Int) (n3 : Int) (w : World) (K : Int → World → Prop) : Prop :=
  shelf_Shelf_at.C p1 n2 w fun p4 W5 =>
  cond (!(Option.isNone p4))
  (nn p4 fun b6 o7 =>
  lP W5 b6 (o7 + 4) fun p8 =>
  look_Kept_Insert.C p8 n3 W5 fun n9 W10 =>
  K n9 W10)
  (K (6 : Int) W5)
theorem shelf_Shelf_Insert.ok {p1 : Option Addr} {n2 : Int} {n3 : Int} {w : World} {K : Int → World → Prop} (h : shelf_Shelf_Insert.F p1 n2 n3 w K) : shelf_Shelf_Insert.C p1 n2 n3 w K := by
  refine CallsV.mono (callsV_of_sh prog.mixed prog.noNum (args := [(.pointer p1), (.int .i64 n2), (.int .u64 n3)]) Tryz.func37 (c := bodyOf Tryz.f37) (by kernel_rfl) (by kernel_rfl) (by kernel_rfl) (R := S_i64.R K) ?_) fun v w1 h => S_i64.out h
  apply kc h; kernel_rfl

def shelf_Shelf_Put.F (p1 : Option Addr) (n2 : Int) (n3 : Int) (n4 : Int) (w : World) (K : Int → World → Prop) : Prop :=
  shelf_Shelf_at.C p1 n2 w fun p5 W6 =>
  cond (Option.isNone p5)
  (K (6 : Int) W6)
  (nn p5 fun b7 o8 =>
  lP W6 b7 (o8 + 5) fun p9 =>
  cond (Option.isNone p9)
  (K (11 : Int) W6)
  (shelf_item_put.C p5 n3 n4 W6 fun n10 W11 =>
  K n10 W11))
theorem shelf_Shelf_Put.ok {p1 : Option Addr} {n2 : Int} {n3 : Int} {n4 : Int} {w : World} {K : Int → World → Prop} (h : shelf_Shelf_Put.F p1 n2 n3 n4 w K) : shelf_Shelf_Put.C p1 n2 n3 n4 w K := by
  refine CallsV.mono (callsV_of_sh prog.mixed prog.noNum (args := [(.pointer p1), (.int .i64 n2), (.int .u64 n3), (.int .u64 n4)]) Tryz.func38 (c := bodyOf Tryz.f38) (by kernel_rfl) (by kernel_rfl) (by kernel_rfl) (R := S_i64.R K) ?_) fun v w1 h => S_i64.out h
  apply kc h; kernel_rfl

def shelf_Shelf_Delete.F (p1 : Option Addr) (n2 : Int) (n3 : Int) (w : World) (K : Int → World → Prop) : Prop :=
  shelf_Shelf_at.C p1 n2 w fun p4 W5 =>
  cond (!(Option.isNone p4))
  (nn p4 fun b6 o7 =>
  lP W5 b6 (o7 + 4) fun p8 =>
  look_Kept_Delete.C p8 n3 W5 fun n9 W10 =>
  K n9 W10)
  (K (6 : Int) W5)
theorem shelf_Shelf_Delete.ok {p1 : Option Addr} {n2 : Int} {n3 : Int} {w : World} {K : Int → World → Prop} (h : shelf_Shelf_Delete.F p1 n2 n3 w K) : shelf_Shelf_Delete.C p1 n2 n3 w K := by
  refine CallsV.mono (callsV_of_sh prog.mixed prog.noNum (args := [(.pointer p1), (.int .i64 n2), (.int .u64 n3)]) Tryz.func39 (c := bodyOf Tryz.f39) (by kernel_rfl) (by kernel_rfl) (by kernel_rfl) (R := S_i64.R K) ?_) fun v w1 h => S_i64.out h
  apply kc h; kernel_rfl

def shelf_Shelf_Wipe.F (p1 : Option Addr) (n2 : Int) (n3 : Int) (n4 : Int) (w : World) (K : Int → Int → World → Prop) : Prop :=
  shelf_Shelf_at.C p1 n2 w fun p5 W6 =>
  cond (Option.isNone p5)
  (K (0 : Int) (6 : Int) W6)
  (nn p5 fun b7 o8 =>
  lP W6 b7 (o8 + 5) fun p9 =>
  cond (Option.isNone p9)
  (nn p5 fun b10 o11 =>
  lP W6 b10 (o11 + 4) fun p12 =>
  look_Kept_Wipe.C p12 n3 n4 W6 fun n13 n14 W15 =>
  K n13 n14 W15)
  (shelf_item_wipe.C p5 n3 n4 W6 fun n16 n17 W18 =>
  K n16 n17 W18))
theorem shelf_Shelf_Wipe.ok {p1 : Option Addr} {n2 : Int} {n3 : Int} {n4 : Int} {w : World} {K : Int → Int → World → Prop} (h : shelf_Shelf_Wipe.F p1 n2 n3 n4 w K) : shelf_Shelf_Wipe.C p1 n2 n3 n4 w K := by
  refine CallsV.mono (callsV_of_sh prog.mixed prog.noNum (args := [(.pointer p1), (.int .i64 n2), (.int .u64 n3), (.int .u64 n4)]) Tryz.func40 (c := bodyOf Tryz.f40) (by kernel_rfl) (by kernel_rfl) (by kernel_rfl) (R := S_i64_i64.R K) ?_) fun v w1 h => S_i64_i64.out h
  apply kc h; kernel_rfl

def shelf_Shelf_Clear.F (p1 : Option Addr) (n2 : Int) (w : World) (K : Int → World → Prop) : Prop :=
  shelf_Shelf_at.C p1 n2 w fun p3 W4 =>
  cond (Option.isNone p3)
  (K (6 : Int) W4)
  (nn p3 fun b5 o6 =>
  lP W4 b5 (o6 + 4) fun p7 =>
  look_Kept_Clear.C p7 W4 fun W8 =>
  K (0 : Int) W8)
theorem shelf_Shelf_Clear.ok {p1 : Option Addr} {n2 : Int} {w : World} {K : Int → World → Prop} (h : shelf_Shelf_Clear.F p1 n2 w K) : shelf_Shelf_Clear.C p1 n2 w K := by
  refine CallsV.mono (callsV_of_sh prog.mixed prog.noNum (args := [(.pointer p1), (.int .i64 n2)]) Tryz.func41 (c := bodyOf Tryz.f41) (by kernel_rfl) (by kernel_rfl) (by kernel_rfl) (R := S_i64.R K) ?_) fun v w1 h => S_i64.out h
  apply kc h; kernel_rfl

def shelf_Shelf_Join.T1 (K : Int → World → Prop) (n15 : Int) (p21 : Option Addr) (a22 : Option Addr) (l23 : Nat) (c24 : Nat) (W51 : World) : Prop :=
  drP W51 fun W52 =>
  nn p21 fun b53 o54 =>
  lI64 W52 b53 (o54 + 1) fun n55 =>
  nn p21 fun b56 o57 =>
  lU64 W52 b56 (o57 + 2) fun n58 =>
  nn p21 fun b59 o60 =>
  lI64 W52 b59 (o60 + 3) fun n61 =>
  face_Join.C n15 n55 n58 n61 a22 l23 c24 W52 fun x62 n63 W64 =>
  cond (n63 == (0 : Int))
  (nn p21 fun b65 o66 =>
  lP W64 b65 (o66 + 4) fun p67 =>
  look_Kept_Swap.C p67 x62 W64 fun W68 =>
  K n63 W68)
  (K n63 W64)
def shelf_Shelf_Join.B2 (K : Int → World → Prop) (p69 : Option Addr) (n70 : Int) (p79 : Option Addr) (a100 : Option Addr) (l101 : Nat) (c102 : Nat) (n103 : Int) : (Option Addr × Nat × Nat × Int) → World → ((Option Addr × Nat × Nat × Int) → World → Prop) → Prop := fun s0 W106 next105 => match s0 with
 | (a97, l98, c99, n104) =>
  cond (decide (n104 < n103))
  (nn a100 fun b107 o108 =>
  0 ≤ n104 ∧ n104 < ((l101 : Nat) : Int) ∧
  lI64 W106 b107 (o108 + Int.toNat n104 * 1) fun n109 =>
  shelf_Shelf_at.C p69 n109 W106 fun p110 W111 =>
  shelf_item_keys.C p110 W111 fun x112 W113 =>
  stOne x112 (
  alP W113 #[x112] 114 fun r114 W115 =>
  AppV prog #[145, 145] 145 (.slice a97 l98 c99) (.slice (some ⟨r114, 0, none⟩) 1 1) W115 fun x116 W117 =>
  ∃ (a118 : Option Addr), ∃ (l119 : Nat), ∃ (c120 : Nat), x116 = (.slice a118 l119 c120) ∧
  next105 (a118, l119, c120, (w64 (n104 + (1 : Int)))) W117))
  (shelf_Shelf_Join.T1 K n70 p79 a97 l98 c99 W106)
def shelf_Shelf_Join.T2 (K : Int → World → Prop) (p69 : Option Addr) (n70 : Int) (p79 : Option Addr) (a97 : Option Addr) (l98 : Nat) (c99 : Nat) (a100 : Option Addr) (l101 : Nat) (c102 : Nat) (n103 : Int) (n104 : Int) (w : World) : Prop := LoopT (shelf_Shelf_Join.B2 K p69 n70 p79 a100 l101 c102 n103) (a97, l98, c99, n104) w
def shelf_Shelf_Join.F (p1 : Option Addr) (n2 : Int) (n3 : Int) (a4 : Option Addr) (l5 : Nat) (c6 : Nat) (w : World) (K : Int → World → Prop) : Prop :=
  shelf_Shelf_at.C p1 n3 w fun p7 W8 =>
  cond (Option.isNone p7)
  (K (6 : Int) W8)
  (slices_ContainsFunc_int_int.C a4 l5 c6 (.func (.func 92) #[(.pointer p1)] #[]) W8 fun q9 W10 =>
  cond q9
  (K (6 : Int) W10)
  (nn p7 fun b11 o12 =>
  lP W10 b11 (o12 + 5) fun p13 =>
  cond (!(Option.isNone p13))
  (K (11 : Int) W10)
  (shelf_Shelf_Join.T2 K p1 n2 p7 none 0 0 a4 l5 c6 ((l5 : Nat) : Int) (0 : Int) W10)))
def shelf_Shelf_Join.U0 (K : Int → World → Prop) (l : Nat) (fr : Fr) (w : World) : Prop :=
  match l with
 | 1 =>
  gI64 False (fr 1) fun n15 =>
  gP False (fr 9) fun p21 =>
  gL False (fr 10) fun a22 l23 c24 =>
  shelf_Shelf_Join.T1 K n15 p21 a22 l23 c24 w
 | 2 =>
  gP False (fr 0) fun p69 =>
  gI64 False (fr 1) fun n70 =>
  gP False (fr 9) fun p79 =>
  gL False (fr 10) fun a97 l98 c99 =>
  gL False (fr 31) fun a100 l101 c102 =>
  gI64 False (fr 32) fun n103 =>
  gI64 False (fr 33) fun n104 =>
  shelf_Shelf_Join.T2 K p69 n70 p79 a97 l98 c99 a100 l101 c102 n103 n104 w
 | _ => False
def shelf_Shelf_Join.ext2 (fr : Fr) : Option (Option Addr × Nat × Nat × Int) :=
  gL none (fr 10) fun a97 l98 c99 =>
  gI64 none (fr 33) fun n104 =>
  some (a97, l98, c99, n104)
theorem shelf_Shelf_Join.U0_ok1 (K : Int → World → Prop) (fr : Fr) (w : World) (h : shelf_Shelf_Join.U0 K 1 fr w) : sh prog (shelf_Shelf_Join.U0 K) (subAt [.R, .R, .R, .R, .R, .R] (bodyOf Tryz.f42)) fr w (ctxAt prog (shelf_Shelf_Join.U0 K) [.R, .R, .R, .R, .R, .R] (bodyOf Tryz.f42) (retK prog Tryz.f42.results.toList (S_i64.R K))) := by
  unfold shelf_Shelf_Join.U0 at h
  simp only at h
  replace h := gI64.outF h; obtain ⟨n15, e121, h⟩ := h
  replace h := gP.outF h; obtain ⟨p21, e122, h⟩ := h
  replace h := gL.outF h; obtain ⟨a22, l23, c24, e123, h⟩ := h
  refine at_frame [(1, (.int .i64 n15)), (9, (.pointer p21)), (10, (.slice a22 l23 c24))] (by intro p hp; simp only [List.mem_cons, List.not_mem_nil, or_false] at hp; rcases hp with rfl | rfl | rfl <;> assumption) (Q := fun fr => sh prog (shelf_Shelf_Join.U0 K) (subAt [.R, .R, .R, .R, .R, .R] (bodyOf Tryz.f42)) fr w (ctxAt prog (shelf_Shelf_Join.U0 K) [.R, .R, .R, .R, .R, .R] (bodyOf Tryz.f42) (retK prog Tryz.f42.results.toList (S_i64.R K)))) ?_
  apply kc h; kernel_rfl
theorem shelf_Shelf_Join.U0_ok2 (K : Int → World → Prop) (fr : Fr) (w : World) (h : shelf_Shelf_Join.U0 K 2 fr w) : sh prog (shelf_Shelf_Join.U0 K) (subAt [.R, .R, .R, .R, .R, .L, .R, .B] (cutAt 1 [.R, .R, .R, .R, .R, .R] (bodyOf Tryz.f42))) fr w (ctxAt prog (shelf_Shelf_Join.U0 K) [.R, .R, .R, .R, .R, .L, .R, .B] (cutAt 1 [.R, .R, .R, .R, .R, .R] (bodyOf Tryz.f42)) (retK prog Tryz.f42.results.toList (S_i64.R K))) := by
  unfold shelf_Shelf_Join.U0 at h
  simp only at h
  replace h := gP.outF h; obtain ⟨p69, e124, h⟩ := h
  replace h := gI64.outF h; obtain ⟨n70, e125, h⟩ := h
  replace h := gP.outF h; obtain ⟨p79, e126, h⟩ := h
  replace h := gL.outF h; obtain ⟨a97, l98, c99, e127, h⟩ := h
  replace h := gL.outF h; obtain ⟨a100, l101, c102, e128, h⟩ := h
  replace h := gI64.outF h; obtain ⟨n103, e129, h⟩ := h
  replace h := gI64.outF h; obtain ⟨n104, e130, h⟩ := h
  refine kc (A := LoopP (sh prog (shelf_Shelf_Join.U0 K) (loopBody (subAt [.R, .R, .R, .R, .R, .L, .R, .B] (cutAt 1 [.R, .R, .R, .R, .R, .R] (bodyOf Tryz.f42))))) fr w (ctxAt prog (shelf_Shelf_Join.U0 K) [.R, .R, .R, .R, .R, .L, .R, .B] (cutAt 1 [.R, .R, .R, .R, .R, .R] (bodyOf Tryz.f42)) (retK prog Tryz.f42.results.toList (S_i64.R K)))) ?_ (by kernel_rfl)
  refine loop_typed (B := shelf_Shelf_Join.B2 K p69 n70 p79 a100 l101 c102 n103) shelf_Shelf_Join.ext2 (s := (a97, l98, c99, n104)) (by unfold shelf_Shelf_Join.ext2; simp only [e127, e130]; rfl) h ?_
  clear h
  clear e127
  clear e130
  intro s0 fr1 w1 next105 hs hk h
  unfold shelf_Shelf_Join.ext2 at hs
  replace hs := noN (gL.out (d := none) (x := _) hs); obtain ⟨a97a, l98a, c99a, e131, hs⟩ := hs
  replace hs := noN (gI64.out (d := none) (x := _) hs); obtain ⟨n104a, e132, hs⟩ := hs
  replace hs := Option.some.inj hs; subst hs
  have e133 : fr1 0 = (.pointer p69) := (hk 0 (by kernel_rfl)).trans e124
  have e134 : fr1 1 = (.int .i64 n70) := (hk 1 (by kernel_rfl)).trans e125
  have e135 : fr1 9 = (.pointer p79) := (hk 9 (by kernel_rfl)).trans e126
  have e136 : fr1 31 = (.slice a100 l101 c102) := (hk 31 (by kernel_rfl)).trans e128
  have e137 : fr1 32 = (.int .i64 n103) := (hk 32 (by kernel_rfl)).trans e129
  refine at_frame [(10, (.slice a97a l98a c99a)), (33, (.int .i64 n104a)), (0, (.pointer p69)), (1, (.int .i64 n70)), (9, (.pointer p79)), (31, (.slice a100 l101 c102)), (32, (.int .i64 n103))] (by intro p hp; simp only [List.mem_cons, List.not_mem_nil, or_false] at hp; rcases hp with rfl | rfl | rfl | rfl | rfl | rfl | rfl <;> assumption) (Q := fun fr => sh prog (shelf_Shelf_Join.U0 K) (loopBody (subAt [.R, .R, .R, .R, .R, .L, .R, .B] (cutAt 1 [.R, .R, .R, .R, .R, .R] (bodyOf Tryz.f42)))) fr w1 (nextK shelf_Shelf_Join.ext2 next105 (ctxAt prog (shelf_Shelf_Join.U0 K) [.R, .R, .R, .R, .R, .L, .R, .B] (cutAt 1 [.R, .R, .R, .R, .R, .R] (bodyOf Tryz.f42)) (retK prog Tryz.f42.results.toList (S_i64.R K))))) ?_
  apply kc h; kernel_rfl
theorem shelf_Shelf_Join.ok {p1 : Option Addr} {n2 : Int} {n3 : Int} {a4 : Option Addr} {l5 : Nat} {c6 : Nat} {w : World} {K : Int → World → Prop} (h : shelf_Shelf_Join.F p1 n2 n3 a4 l5 c6 w K) : shelf_Shelf_Join.C p1 n2 n3 a4 l5 c6 w K := by
  refine CallsV.mono (callsV_of_sh prog.mixed prog.noNum (args := [(.pointer p1), (.int .i64 n2), (.int .i64 n3), (.slice a4 l5 c6)]) Tryz.func42 (c := bodyOf Tryz.f42) (by kernel_rfl) (by kernel_rfl) (by kernel_rfl) (R := S_i64.R K) ?_) fun v w1 h => S_i64.out h
  refine sh_anyCut (cut := shelf_Shelf_Join.U0 K) (by kernel_rfl) ?_
  refine sh_cutAt (p := [.R, .R, .R, .R, .R, .R]) (l := 1) ?_ (shelf_Shelf_Join.U0_ok1 K)
  refine sh_cutAt (p := [.R, .R, .R, .R, .R, .L, .R, .B]) (l := 2) ?_ (shelf_Shelf_Join.U0_ok2 K)
  apply kc h; kernel_rfl

def shelf_Shelf_Decode.F (p1 : Option Addr) (n2 : Int) (a3 : Option Addr) (l4 : Nat) (c5 : Nat) (w : World) (K : Int → World → Prop) : Prop :=
  shelf_Shelf_at.C p1 n2 w fun p6 W7 =>
  cond (Option.isNone p6)
  (K (6 : Int) W7)
  (nn p6 fun b8 o9 =>
  lP W7 b8 (o9 + 5) fun p10 =>
  cond (!(Option.isNone p10))
  (drP W7 fun W11 =>
  nn p6 fun b12 o13 =>
  lI64 W11 b12 (o13 + 1) fun n14 =>
  nn p6 fun b15 o16 =>
  lU64 W11 b15 (o16 + 2) fun n17 =>
  nn p6 fun b18 o19 =>
  lI64 W11 b18 (o19 + 3) fun n20 =>
  dict_Decode.C a3 l4 c5 n14 n17 n20 W11 fun p21 n22 W23 =>
  cond (n22 != (0 : Int))
  (K n22 W23)
  (shelf_item_swap.C p6 p21 W23 fun n24 W25 =>
  K n24 W25))
  (drP W7 fun W26 =>
  nn p6 fun b27 o28 =>
  lI64 W26 b27 (o28 + 1) fun n29 =>
  nn p6 fun b30 o31 =>
  lU64 W26 b30 (o31 + 2) fun n32 =>
  nn p6 fun b33 o34 =>
  lI64 W26 b33 (o34 + 3) fun n35 =>
  face_Decode.C a3 l4 c5 n29 n32 n35 W26 fun x36 n37 W38 =>
  cond (n37 == (0 : Int))
  (nn p6 fun b39 o40 =>
  lP W38 b39 (o40 + 4) fun p41 =>
  look_Kept_Swap.C p41 x36 W38 fun W42 =>
  K n37 W42)
  (K n37 W38)))
theorem shelf_Shelf_Decode.ok {p1 : Option Addr} {n2 : Int} {a3 : Option Addr} {l4 : Nat} {c5 : Nat} {w : World} {K : Int → World → Prop} (h : shelf_Shelf_Decode.F p1 n2 a3 l4 c5 w K) : shelf_Shelf_Decode.C p1 n2 a3 l4 c5 w K := by
  refine CallsV.mono (callsV_of_sh prog.mixed prog.noNum (args := [(.pointer p1), (.int .i64 n2), (.slice a3 l4 c5)]) Tryz.func43 (c := bodyOf Tryz.f43) (by kernel_rfl) (by kernel_rfl) (by kernel_rfl) (R := S_i64.R K) ?_) fun v w1 h => S_i64.out h
  apply kc h; kernel_rfl

def shelf_Shelf_Get.F (p1 : Option Addr) (n2 : Int) (n3 : Int) (w : World) (K : Int → Int → World → Prop) : Prop :=
  shelf_Shelf_at.C p1 n2 w fun p4 W5 =>
  cond (Option.isNone p4)
  (K (0 : Int) (6 : Int) W5)
  (nn p4 fun b6 o7 =>
  lP W5 b6 (o7 + 5) fun p8 =>
  cond (Option.isNone p8)
  (K (0 : Int) (11 : Int) W5)
  (nn p4 fun b9 o10 =>
  lP W5 b9 (o10 + 5) fun p11 =>
  dict_Map_Get.C p11 n3 W5 fun n12 q13 W14 =>
  shelf_found.C n12 q13 W14 fun n15 n16 W17 =>
  K n15 n16 W17))
theorem shelf_Shelf_Get.ok {p1 : Option Addr} {n2 : Int} {n3 : Int} {w : World} {K : Int → Int → World → Prop} (h : shelf_Shelf_Get.F p1 n2 n3 w K) : shelf_Shelf_Get.C p1 n2 n3 w K := by
  refine CallsV.mono (callsV_of_sh prog.mixed prog.noNum (args := [(.pointer p1), (.int .i64 n2), (.int .u64 n3)]) Tryz.func44 (c := bodyOf Tryz.f44) (by kernel_rfl) (by kernel_rfl) (by kernel_rfl) (R := S_u64_i64.R K) ?_) fun v w1 h => S_u64_i64.out h
  apply kc h; kernel_rfl

def shelf_Shelf_Has.F (p1 : Option Addr) (n2 : Int) (n3 : Int) (w : World) (K : Bool → Int → World → Prop) : Prop :=
  shelf_Shelf_at.C p1 n2 w fun p4 W5 =>
  cond (!(Option.isNone p4))
  (nn p4 fun b6 o7 =>
  lP W5 b6 (o7 + 4) fun p8 =>
  nn p8 fun b9 o10 =>
  lR W5 b9 o10 fun x11 =>
  InvV prog x11 "Has" #[(.int .u64 n3)] W5 fun x12 W13 =>
  ∃ (q14 : Bool), x12 = (.bool q14) ∧
  K q14 (0 : Int) W13)
  (K false (6 : Int) W5)
theorem shelf_Shelf_Has.ok {p1 : Option Addr} {n2 : Int} {n3 : Int} {w : World} {K : Bool → Int → World → Prop} (h : shelf_Shelf_Has.F p1 n2 n3 w K) : shelf_Shelf_Has.C p1 n2 n3 w K := by
  refine CallsV.mono (callsV_of_sh prog.mixed prog.noNum (args := [(.pointer p1), (.int .i64 n2), (.int .u64 n3)]) Tryz.func45 (c := bodyOf Tryz.f45) (by kernel_rfl) (by kernel_rfl) (by kernel_rfl) (R := S_b_i64.R K) ?_) fun v w1 h => S_b_i64.out h
  apply kc h; kernel_rfl

def shelf_Shelf_Next.F (p1 : Option Addr) (n2 : Int) (n3 : Int) (w : World) (K : Int → Int → World → Prop) : Prop :=
  shelf_Shelf_at.C p1 n2 w fun p4 W5 =>
  cond (!(Option.isNone p4))
  (nn p4 fun b6 o7 =>
  lP W5 b6 (o7 + 4) fun p8 =>
  nn p8 fun b9 o10 =>
  lR W5 b9 o10 fun x11 =>
  InvV prog x11 "Next" #[(.int .u64 n3)] W5 fun x12 W13 =>
  ∃ (n14 : Int), ∃ (q15 : Bool), x12 = (.tuple #[(.int .u64 n14), (.bool q15)]) ∧
  shelf_found.C n14 q15 W13 fun n16 n17 W18 =>
  K n16 n17 W18)
  (K (0 : Int) (6 : Int) W5)
theorem shelf_Shelf_Next.ok {p1 : Option Addr} {n2 : Int} {n3 : Int} {w : World} {K : Int → Int → World → Prop} (h : shelf_Shelf_Next.F p1 n2 n3 w K) : shelf_Shelf_Next.C p1 n2 n3 w K := by
  refine CallsV.mono (callsV_of_sh prog.mixed prog.noNum (args := [(.pointer p1), (.int .i64 n2), (.int .u64 n3)]) Tryz.func46 (c := bodyOf Tryz.f46) (by kernel_rfl) (by kernel_rfl) (by kernel_rfl) (R := S_u64_i64.R K) ?_) fun v w1 h => S_u64_i64.out h
  apply kc h; kernel_rfl

def shelf_Shelf_Prev.F (p1 : Option Addr) (n2 : Int) (n3 : Int) (w : World) (K : Int → Int → World → Prop) : Prop :=
  shelf_Shelf_at.C p1 n2 w fun p4 W5 =>
  cond (!(Option.isNone p4))
  (nn p4 fun b6 o7 =>
  lP W5 b6 (o7 + 4) fun p8 =>
  nn p8 fun b9 o10 =>
  lR W5 b9 o10 fun x11 =>
  InvV prog x11 "Prev" #[(.int .u64 n3)] W5 fun x12 W13 =>
  ∃ (n14 : Int), ∃ (q15 : Bool), x12 = (.tuple #[(.int .u64 n14), (.bool q15)]) ∧
  shelf_found.C n14 q15 W13 fun n16 n17 W18 =>
  K n16 n17 W18)
  (K (0 : Int) (6 : Int) W5)
theorem shelf_Shelf_Prev.ok {p1 : Option Addr} {n2 : Int} {n3 : Int} {w : World} {K : Int → Int → World → Prop} (h : shelf_Shelf_Prev.F p1 n2 n3 w K) : shelf_Shelf_Prev.C p1 n2 n3 w K := by
  refine CallsV.mono (callsV_of_sh prog.mixed prog.noNum (args := [(.pointer p1), (.int .i64 n2), (.int .u64 n3)]) Tryz.func47 (c := bodyOf Tryz.f47) (by kernel_rfl) (by kernel_rfl) (by kernel_rfl) (R := S_u64_i64.R K) ?_) fun v w1 h => S_u64_i64.out h
  apply kc h; kernel_rfl

def shelf_Shelf_Len.F (p1 : Option Addr) (n2 : Int) (w : World) (K : Int → Int → World → Prop) : Prop :=
  shelf_Shelf_at.C p1 n2 w fun p3 W4 =>
  cond (!(Option.isNone p3))
  (nn p3 fun b5 o6 =>
  lP W4 b5 (o6 + 4) fun p7 =>
  nn p7 fun b8 o9 =>
  lR W4 b8 o9 fun x10 =>
  InvV prog x10 "Len" #[] W4 fun x11 W12 =>
  ∃ (n13 : Int), x11 = (.int .i64 n13) ∧
  K n13 (0 : Int) W12)
  (K (0 : Int) (6 : Int) W4)
theorem shelf_Shelf_Len.ok {p1 : Option Addr} {n2 : Int} {w : World} {K : Int → Int → World → Prop} (h : shelf_Shelf_Len.F p1 n2 w K) : shelf_Shelf_Len.C p1 n2 w K := by
  refine CallsV.mono (callsV_of_sh prog.mixed prog.noNum (args := [(.pointer p1), (.int .i64 n2)]) Tryz.func48 (c := bodyOf Tryz.f48) (by kernel_rfl) (by kernel_rfl) (by kernel_rfl) (R := S_i64_i64.R K) ?_) fun v w1 h => S_i64_i64.out h
  apply kc h; kernel_rfl

def shelf_Shelf_Rank.F (p1 : Option Addr) (n2 : Int) (n3 : Int) (w : World) (K : Int → Int → World → Prop) : Prop :=
  shelf_Shelf_at.C p1 n2 w fun p4 W5 =>
  cond (!(Option.isNone p4))
  (shelf_item_keys.C p4 W5 fun x6 W7 =>
  face_Rank.C x6 n3 W7 fun n8 W9 =>
  K n8 (0 : Int) W9)
  (K (0 : Int) (6 : Int) W5)
theorem shelf_Shelf_Rank.ok {p1 : Option Addr} {n2 : Int} {n3 : Int} {w : World} {K : Int → Int → World → Prop} (h : shelf_Shelf_Rank.F p1 n2 n3 w K) : shelf_Shelf_Rank.C p1 n2 n3 w K := by
  refine CallsV.mono (callsV_of_sh prog.mixed prog.noNum (args := [(.pointer p1), (.int .i64 n2), (.int .u64 n3)]) Tryz.func49 (c := bodyOf Tryz.f49) (by kernel_rfl) (by kernel_rfl) (by kernel_rfl) (R := S_i64_i64.R K) ?_) fun v w1 h => S_i64_i64.out h
  apply kc h; kernel_rfl

def shelf_Shelf_Select.F (p1 : Option Addr) (n2 : Int) (n3 : Int) (w : World) (K : Int → Int → World → Prop) : Prop :=
  shelf_Shelf_at.C p1 n2 w fun p4 W5 =>
  cond (Option.isNone p4)
  (K (0 : Int) (6 : Int) W5)
  (shelf_item_keys.C p4 W5 fun x6 W7 =>
  face_Select.C x6 n3 W7 fun n8 q9 W10 =>
  cond (!q9)
  (K (0 : Int) (7 : Int) W10)
  (K n8 (0 : Int) W10))
theorem shelf_Shelf_Select.ok {p1 : Option Addr} {n2 : Int} {n3 : Int} {w : World} {K : Int → Int → World → Prop} (h : shelf_Shelf_Select.F p1 n2 n3 w K) : shelf_Shelf_Select.C p1 n2 n3 w K := by
  refine CallsV.mono (callsV_of_sh prog.mixed prog.noNum (args := [(.pointer p1), (.int .i64 n2), (.int .i64 n3)]) Tryz.func50 (c := bodyOf Tryz.f50) (by kernel_rfl) (by kernel_rfl) (by kernel_rfl) (R := S_u64_i64.R K) ?_) fun v w1 h => S_u64_i64.out h
  apply kc h; kernel_rfl

def shelf_Shelf_Count.F (p1 : Option Addr) (n2 : Int) (n3 : Int) (n4 : Int) (w : World) (K : Int → Int → World → Prop) : Prop :=
  shelf_Shelf_at.C p1 n2 w fun p5 W6 =>
  cond (!(Option.isNone p5))
  (shelf_item_keys.C p5 W6 fun x7 W8 =>
  face_Count.C x7 n3 n4 W8 fun n9 n10 W11 =>
  K n9 n10 W11)
  (K (0 : Int) (6 : Int) W6)
theorem shelf_Shelf_Count.ok {p1 : Option Addr} {n2 : Int} {n3 : Int} {n4 : Int} {w : World} {K : Int → Int → World → Prop} (h : shelf_Shelf_Count.F p1 n2 n3 n4 w K) : shelf_Shelf_Count.C p1 n2 n3 n4 w K := by
  refine CallsV.mono (callsV_of_sh prog.mixed prog.noNum (args := [(.pointer p1), (.int .i64 n2), (.int .u64 n3), (.int .u64 n4)]) Tryz.func51 (c := bodyOf Tryz.f51) (by kernel_rfl) (by kernel_rfl) (by kernel_rfl) (R := S_i64_i64.R K) ?_) fun v w1 h => S_i64_i64.out h
  apply kc h; kernel_rfl

def shelf_Shelf_Equal.F (p1 : Option Addr) (n2 : Int) (n3 : Int) (w : World) (K : Bool → Int → World → Prop) : Prop :=
  shelf_Shelf_two.C p1 n2 n3 w fun x4 x5 n6 W7 =>
  cond (n6 == (0 : Int))
  (face_Equal.C x4 x5 W7 fun q8 W9 =>
  K q8 n6 W9)
  (K false n6 W7)
theorem shelf_Shelf_Equal.ok {p1 : Option Addr} {n2 : Int} {n3 : Int} {w : World} {K : Bool → Int → World → Prop} (h : shelf_Shelf_Equal.F p1 n2 n3 w K) : shelf_Shelf_Equal.C p1 n2 n3 w K := by
  refine CallsV.mono (callsV_of_sh prog.mixed prog.noNum (args := [(.pointer p1), (.int .i64 n2), (.int .i64 n3)]) Tryz.func52 (c := bodyOf Tryz.f52) (by kernel_rfl) (by kernel_rfl) (by kernel_rfl) (R := S_b_i64.R K) ?_) fun v w1 h => S_b_i64.out h
  apply kc h; kernel_rfl

def shelf_Shelf_Within.F (p1 : Option Addr) (n2 : Int) (n3 : Int) (w : World) (K : Bool → Int → World → Prop) : Prop :=
  shelf_Shelf_two.C p1 n2 n3 w fun x4 x5 n6 W7 =>
  cond (n6 == (0 : Int))
  (face_Within.C x4 x5 W7 fun q8 W9 =>
  K q8 n6 W9)
  (K false n6 W7)
theorem shelf_Shelf_Within.ok {p1 : Option Addr} {n2 : Int} {n3 : Int} {w : World} {K : Bool → Int → World → Prop} (h : shelf_Shelf_Within.F p1 n2 n3 w K) : shelf_Shelf_Within.C p1 n2 n3 w K := by
  refine CallsV.mono (callsV_of_sh prog.mixed prog.noNum (args := [(.pointer p1), (.int .i64 n2), (.int .i64 n3)]) Tryz.func53 (c := bodyOf Tryz.f53) (by kernel_rfl) (by kernel_rfl) (by kernel_rfl) (R := S_b_i64.R K) ?_) fun v w1 h => S_b_i64.out h
  apply kc h; kernel_rfl

def shelf_Shelf_Cursor.F (p1 : Option Addr) (n2 : Int) (n3 : Int) (n4 : Int) (w : World) (K : Int → World → Prop) : Prop :=
  shelf_Shelf_at.C p1 n2 w fun p5 W6 =>
  cond (Option.isNone p5)
  (K (6 : Int) W6)
  (nn p5 fun b7 o8 =>
  lP W6 b7 (o8 + 4) fun p9 =>
  look_Kept_Open.C p9 n3 n4 W6 fun p10 n11 W12 =>
  cond (n11 == (0 : Int))
  (nn p5 fun b13 o14 =>
  stP W12 b13 (o14 + 6) (.pointer p10) fun W15 =>
  K n11 W15)
  (K n11 W12))
theorem shelf_Shelf_Cursor.ok {p1 : Option Addr} {n2 : Int} {n3 : Int} {n4 : Int} {w : World} {K : Int → World → Prop} (h : shelf_Shelf_Cursor.F p1 n2 n3 n4 w K) : shelf_Shelf_Cursor.C p1 n2 n3 n4 w K := by
  refine CallsV.mono (callsV_of_sh prog.mixed prog.noNum (args := [(.pointer p1), (.int .i64 n2), (.int .u64 n3), (.int .u64 n4)]) Tryz.func54 (c := bodyOf Tryz.f54) (by kernel_rfl) (by kernel_rfl) (by kernel_rfl) (R := S_i64.R K) ?_) fun v w1 h => S_i64.out h
  apply kc h; kernel_rfl

def shelf_Shelf_Step.F (p1 : Option Addr) (n2 : Int) (q3 : Bool) (w : World) (K : Int → Int → World → Prop) : Prop :=
  shelf_Shelf_cursor.C p1 n2 w fun p4 n5 W6 =>
  cond (n5 != (0 : Int))
  (K (0 : Int) n5 W6)
  (cond q3
  (look_Cursor_Prev.C p4 W6 fun n7 n8 W9 =>
  K n7 n8 W9)
  (look_Cursor_Next.C p4 W6 fun n10 n11 W12 =>
  K n10 n11 W12))
theorem shelf_Shelf_Step.ok {p1 : Option Addr} {n2 : Int} {q3 : Bool} {w : World} {K : Int → Int → World → Prop} (h : shelf_Shelf_Step.F p1 n2 q3 w K) : shelf_Shelf_Step.C p1 n2 q3 w K := by
  refine CallsV.mono (callsV_of_sh prog.mixed prog.noNum (args := [(.pointer p1), (.int .i64 n2), (.bool q3)]) Tryz.func55 (c := bodyOf Tryz.f55) (by kernel_rfl) (by kernel_rfl) (by kernel_rfl) (R := S_u64_i64.R K) ?_) fun v w1 h => S_u64_i64.out h
  apply kc h; kernel_rfl

def shelf_Shelf_Seek.F (p1 : Option Addr) (n2 : Int) (n3 : Int) (w : World) (K : Int → Int → World → Prop) : Prop :=
  shelf_Shelf_cursor.C p1 n2 w fun p4 n5 W6 =>
  cond (n5 != (0 : Int))
  (K (0 : Int) n5 W6)
  (look_Cursor_Seek.C p4 n3 W6 fun n7 n8 W9 =>
  K n7 n8 W9)
theorem shelf_Shelf_Seek.ok {p1 : Option Addr} {n2 : Int} {n3 : Int} {w : World} {K : Int → Int → World → Prop} (h : shelf_Shelf_Seek.F p1 n2 n3 w K) : shelf_Shelf_Seek.C p1 n2 n3 w K := by
  refine CallsV.mono (callsV_of_sh prog.mixed prog.noNum (args := [(.pointer p1), (.int .i64 n2), (.int .u64 n3)]) Tryz.func56 (c := bodyOf Tryz.f56) (by kernel_rfl) (by kernel_rfl) (by kernel_rfl) (R := S_u64_i64.R K) ?_) fun v w1 h => S_u64_i64.out h
  apply kc h; kernel_rfl

def shelf_Shelf_Version.F (p1 : Option Addr) (n2 : Int) (w : World) (K : Int → Int → World → Prop) : Prop :=
  shelf_Shelf_at.C p1 n2 w fun p3 W4 =>
  cond (!(Option.isNone p3))
  (drP W4 fun W5 =>
  nn p3 fun b6 o7 =>
  lP W5 b6 (o7 + 4) fun p8 =>
  nn p3 fun b9 o10 =>
  lU64 W5 b9 (o10 + 7) fun n11 =>
  look_Kept_Version.C p8 W5 fun n12 W13 =>
  cellsAre W13 b9 (o10 + 7) [(.int .u64 n11)] ∧
  K (wu64 (n12 + n11)) (0 : Int) W13)
  (K (0 : Int) (6 : Int) W4)
theorem shelf_Shelf_Version.ok {p1 : Option Addr} {n2 : Int} {w : World} {K : Int → Int → World → Prop} (h : shelf_Shelf_Version.F p1 n2 w K) : shelf_Shelf_Version.C p1 n2 w K := by
  refine CallsV.mono (callsV_of_sh prog.mixed prog.noNum (args := [(.pointer p1), (.int .i64 n2)]) Tryz.func57 (c := bodyOf Tryz.f57) (by kernel_rfl) (by kernel_rfl) (by kernel_rfl) (R := S_u64_i64.R K) ?_) fun v w1 h => S_u64_i64.out h
  apply kc h; kernel_rfl

def shelf_Shelf_at.F (p1 : Option Addr) (n2 : Int) (w : World) (K : Option Addr → World → Prop) : Prop :=
  cond (Option.isNone p1)
  (K none w)
  (cond (decide (n2 < (0 : Int)))
  (K none w)
  (cond (decide (n2 ≥ (8 : Int)))
  (K none w)
  (nn p1 fun b3 o4 =>
  0 ≤ n2 ∧ n2 < ((8 : Nat) : Int) ∧
  lP w b3 (o4 + Int.toNat n2 * 1) fun p5 =>
  K p5 w)))
theorem shelf_Shelf_at.ok {p1 : Option Addr} {n2 : Int} {w : World} {K : Option Addr → World → Prop} (h : shelf_Shelf_at.F p1 n2 w K) : shelf_Shelf_at.C p1 n2 w K := by
  refine CallsV.mono (callsV_of_sh prog.mixed prog.noNum (args := [(.pointer p1), (.int .i64 n2)]) Tryz.func60 (c := bodyOf Tryz.f60) (by kernel_rfl) (by kernel_rfl) (by kernel_rfl) (R := S_p.R K) ?_) fun v w1 h => S_p.out h
  apply kc h; kernel_rfl

def shell_lines_1.B1 (K : World → Prop) (x4 : Value) (b5 : Nat) (o6 : Nat) : Unit → World → ((Unit) → World → Prop) → Prop := fun s0 W8 next7 => match s0 with
 | () =>
  lS W8 b5 o6 fun s9 =>
  cond (!(s9.toList == (⟨#[]⟩ : ByteArray).toList))
  (lS W8 b5 o6 fun s10 =>
  strings_Cut.C s10 (⟨#[10]⟩ : ByteArray) W8 fun s11 s12 q13 W14 =>
  DynV prog x4 #[(.string s11)] W14 fun x15 W16 =>
  ∃ (q17 : Bool), x15 = (.bool q17) ∧
  cond (!q17)
  (K W16)
  (stP W16 b5 o6 (.string s12) fun W18 =>
  next7 () W18))
  (K W8)
def shell_lines_1.T1 (K : World → Prop) (x4 : Value) (b5 : Nat) (o6 : Nat) (w : World) : Prop := LoopT (shell_lines_1.B1 K x4 b5 o6) () w
def shell_lines_1.F (x1 : Value) (b2 : Nat) (o3 : Nat) (w : World) (K : World → Prop) : Prop :=
  shell_lines_1.T1 K x1 b2 o3 w
def shell_lines_1.U0 (K : World → Prop) (l : Nat) (fr : Fr) (w : World) : Prop :=
  match l with
 | 1 =>
  gR False (fr 0) fun x4 =>
  gN False (fr 1) fun b5 o6 =>
  shell_lines_1.T1 K x4 b5 o6 w
 | _ => False
def shell_lines_1.ext1 (fr : Fr) : Option (Unit) :=
  some ()
theorem shell_lines_1.U0_ok1 (K : World → Prop) (fr : Fr) (w : World) (h : shell_lines_1.U0 K 1 fr w) : sh prog (shell_lines_1.U0 K) (subAt [.B] (bodyOf Tryz.f64)) fr w (ctxAt prog (shell_lines_1.U0 K) [.B] (bodyOf Tryz.f64) (retK prog Tryz.f64.results.toList (S_.R K))) := by
  unfold shell_lines_1.U0 at h
  simp only at h
  replace h := gR.outF h; obtain ⟨x4, e19, h⟩ := h
  replace h := gN.outF h; obtain ⟨b5, o6, e20, h⟩ := h
  refine kc (A := LoopP (sh prog (shell_lines_1.U0 K) (loopBody (subAt [.B] (bodyOf Tryz.f64)))) fr w (ctxAt prog (shell_lines_1.U0 K) [.B] (bodyOf Tryz.f64) (retK prog Tryz.f64.results.toList (S_.R K)))) ?_ (by kernel_rfl)
  refine loop_typed (B := shell_lines_1.B1 K x4 b5 o6) shell_lines_1.ext1 (s := ()) (by unfold shell_lines_1.ext1; first | (simp only [true_and]; rfl) | simp only [true_and]) h ?_
  clear h
  intro s0 fr1 w1 next7 hs hk h
  unfold shell_lines_1.ext1 at hs
  replace hs := Option.some.inj hs; subst hs
  have e21 : fr1 0 = x4 := (hk 0 (by kernel_rfl)).trans e19
  have e22 : fr1 1 = (.pointer (some ⟨b5, o6, none⟩)) := (hk 1 (by kernel_rfl)).trans e20
  refine at_frame [(0, x4), (1, (.pointer (some ⟨b5, o6, none⟩)))] (by intro p hp; simp only [List.mem_cons, List.not_mem_nil, or_false] at hp; rcases hp with rfl | rfl <;> assumption) (Q := fun fr => sh prog (shell_lines_1.U0 K) (loopBody (subAt [.B] (bodyOf Tryz.f64))) fr w1 (nextK shell_lines_1.ext1 next7 (ctxAt prog (shell_lines_1.U0 K) [.B] (bodyOf Tryz.f64) (retK prog Tryz.f64.results.toList (S_.R K))))) ?_
  apply kc h; kernel_rfl
theorem shell_lines_1.ok {x1 : Value} {b2 : Nat} {o3 : Nat} {w : World} {K : World → Prop} (h : shell_lines_1.F x1 b2 o3 w K) : shell_lines_1.C x1 b2 o3 w K := by
  refine CallsV.mono (callsV_of_sh prog.mixed prog.noNum (args := [x1, (.pointer (some ⟨b2, o3, none⟩))]) Tryz.func64 (c := bodyOf Tryz.f64) (by kernel_rfl) (by kernel_rfl) (by kernel_rfl) (R := S_.R K) ?_) fun v w1 h => S_.out h
  refine sh_anyCut (cut := shell_lines_1.U0 K) (by kernel_rfl) ?_
  refine sh_cutAt (p := [.B]) (l := 1) ?_ (shell_lines_1.U0_ok1 K)
  apply kc h; kernel_rfl

def shell_read.T2 (K : Int → Int → Int → Option Addr → Nat → Nat → Int → Int → Option Addr → Nat → Nat → Bool → Int → Int → Int → Bool → Bool → World → Prop) (b84 : Nat) (o85 : Nat) (n90 : Int) (b91 : Nat) (o92 : Nat) (b93 : Nat) (o94 : Nat) (W157 : World) : Prop :=
  drP W157 fun W158 =>
  lAu8_i64_i64_l_u64_u64_l_b_i64_u64_i64_b W158 b93 o94 fun n159 n160 n161 a162 l163 c164 n165 n166 a167 l168 c169 q170 n171 n172 n173 q174 =>
  cond (decide (n90 ≥ (0 : Int)))
  (shell_words_end.C (some ⟨b91, o92, none⟩) W158 fun q175 W176 =>
  cellsAre W176 b93 o94 [(.int .u8 n159), (.int .i64 n160), (.int .i64 n161), (.slice a162 l163 c164), (.int .u64 n165), (.int .u64 n166), (.slice a167 l168 c169), (.bool q170), (.int .i64 n171), (.int .u64 n172), (.int .i64 n173), (.bool q174)] ∧
  stCs b84 o85 [(.int .u8 n159), (.int .i64 n160), (.int .i64 n161), (.slice a162 l163 c164), (.int .u64 n165), (.int .u64 n166), (.slice a167 l168 c169), (.bool q170), (.int .i64 n171), (.int .u64 n172), (.int .i64 n173), (.bool q174)] W176 fun W177 =>
  lAu8_i64_i64_l_u64_u64_l_b_i64_u64_i64_b W177 b84 o85 fun n178 n179 n180 a181 l182 c183 n184 n185 a186 l187 c188 q189 n190 n191 n192 q193 =>
  K n178 n179 n180 a181 l182 c183 n184 n185 a186 l187 c188 q189 n190 n191 n192 q193 q175 W177)
  (stCs b84 o85 [(.int .u8 n159), (.int .i64 n160), (.int .i64 n161), (.slice a162 l163 c164), (.int .u64 n165), (.int .u64 n166), (.slice a167 l168 c169), (.bool q170), (.int .i64 n171), (.int .u64 n172), (.int .i64 n173), (.bool q174)] W158 fun W194 =>
  lAu8_i64_i64_l_u64_u64_l_b_i64_u64_i64_b W194 b84 o85 fun n195 n196 n197 a198 l199 c200 n201 n202 a203 l204 c205 q206 n207 n208 n209 q210 =>
  K n195 n196 n197 a198 l199 c200 n201 n202 a203 l204 c205 q206 n207 n208 n209 q210 false W194)
def shell_read.B6 (K : Int → Int → Int → Option Addr → Nat → Nat → Int → Int → Option Addr → Nat → Nat → Bool → Int → Int → Int → Bool → Bool → World → Prop) (b476 : Nat) (o477 : Nat) (n482 : Int) (b483 : Nat) (o484 : Nat) (b485 : Nat) (o486 : Nat) : Unit → World → ((Unit) → World → Prop) → Prop := fun s0 W558 next557 => match s0 with
 | () =>
  lL W558 b483 o484 fun a559 l560 c561 =>
  cond (decide (((l560 : Nat) : Int) > (0 : Int)))
  (drP W558 fun W562 =>
  lL W562 b485 (o486 + 3) fun a563 l564 c565 =>
  shell_words_num.C (some ⟨b483, o484, none⟩) W562 fun n566 W567 =>
  cellsAre W567 b485 (o486 + 3) [(.slice a563 l564 c565)] ∧
  alP W567 #[(.int .i64 n566)] 3 fun r568 W569 =>
  cellsAre W569 b485 (o486 + 3) [(.slice a563 l564 c565)] ∧
  AppV prog #[22, 22] 22 (.slice a563 l564 c565) (.slice (some ⟨r568, 0, none⟩) 1 1) W569 fun x570 W571 =>
  ∃ (a572 : Option Addr), ∃ (l573 : Nat), ∃ (c574 : Nat), x570 = (.slice a572 l573 c574) ∧
  stP W571 b485 (o486 + 3) (.slice a572 l573 c574) fun W575 =>
  next557 () W575)
  (shell_read.T2 K b476 o477 n482 b483 o484 b485 o486 W558)
def shell_read.T6 (K : Int → Int → Int → Option Addr → Nat → Nat → Int → Int → Option Addr → Nat → Nat → Bool → Int → Int → Int → Bool → Bool → World → Prop) (b476 : Nat) (o477 : Nat) (n482 : Int) (b483 : Nat) (o484 : Nat) (b485 : Nat) (o486 : Nat) (w : World) : Prop := LoopT (shell_read.B6 K b476 o477 n482 b483 o484 b485 o486) () w
def shell_read.T5 (K : Int → Int → Int → Option Addr → Nat → Nat → Int → Int → Option Addr → Nat → Nat → Bool → Int → Int → Int → Bool → Bool → World → Prop) (b392 : Nat) (o393 : Nat) (n398 : Int) (b399 : Nat) (o400 : Nat) (b401 : Nat) (o402 : Nat) (s462 : ByteArray) (q469 : Bool) (W471 : World) : Prop :=
  cond q469
  (shell_words_num.C (some ⟨b399, o400, none⟩) W471 fun n472 W473 =>
  stP W473 b401 (o402 + 2) (.int .i64 n472) fun W474 =>
  shell_read.T2 K b392 o393 n398 b399 o400 b401 o402 W474)
  (cond (s462.toList == (⟨#[106, 111, 105, 110]⟩ : ByteArray).toList)
  (shell_read.T6 K b392 o393 n398 b399 o400 b401 o402 W471)
  (cond (s462.toList == (⟨#[115, 116, 101, 112]⟩ : ByteArray).toList)
  (shell_words_one.C (some ⟨b399, o400, none⟩) (⟨#[112, 114, 101, 118]⟩ : ByteArray) (⟨#[110, 101, 120, 116]⟩ : ByteArray) W471 fun q576 W577 =>
  stP W577 b401 (o402 + 11) (.bool q576) fun W578 =>
  shell_read.T2 K b392 o393 n398 b399 o400 b401 o402 W578)
  (cond (s462.toList == (⟨#[100, 101, 99, 111, 100, 101]⟩ : ByteArray).toList)
  (shell_words_hex.C (some ⟨b399, o400, none⟩) W471 fun a579 l580 c581 W582 =>
  stP W582 b401 (o402 + 6) (.slice a579 l580 c581) fun W583 =>
  shell_read.T2 K b392 o393 n398 b399 o400 b401 o402 W583)
  (shell_read.T2 K b392 o393 n398 b399 o400 b401 o402 W471))))
def shell_read.T4 (K : Int → Int → Int → Option Addr → Nat → Nat → Int → Int → Option Addr → Nat → Nat → Bool → Int → Int → Int → Bool → Bool → World → Prop) (b307 : Nat) (o308 : Nat) (n313 : Int) (b314 : Nat) (o315 : Nat) (b316 : Nat) (o317 : Nat) (s377 : ByteArray) (q382 : Bool) (W384 : World) : Prop :=
  cond q382
  (shell_words_key.C (some ⟨b314, o315, none⟩) W384 fun n385 W386 =>
  shell_words_key.C (some ⟨b314, o315, none⟩) W386 fun n387 W388 =>
  stP W388 b316 (o317 + 4) (.int .u64 n385) fun W389 =>
  stP W389 b316 (o317 + 5) (.int .u64 n387) fun W390 =>
  shell_read.T2 K b307 o308 n313 b314 o315 b316 o317 W390)
  (cond (s377.toList == (⟨#[115, 101, 108, 101, 99, 116]⟩ : ByteArray).toList)
  (shell_read.T5 K b307 o308 n313 b314 o315 b316 o317 s377 (s377.toList == (⟨#[115, 101, 108, 101, 99, 116]⟩ : ByteArray).toList) W384)
  (cond (s377.toList == (⟨#[101, 113, 117, 97, 108]⟩ : ByteArray).toList)
  (shell_read.T5 K b307 o308 n313 b314 o315 b316 o317 s377 (s377.toList == (⟨#[101, 113, 117, 97, 108]⟩ : ByteArray).toList) W384)
  (shell_read.T5 K b307 o308 n313 b314 o315 b316 o317 s377 (s377.toList == (⟨#[119, 105, 116, 104, 105, 110]⟩ : ByteArray).toList) W384)))
def shell_read.T3 (K : Int → Int → Int → Option Addr → Nat → Nat → Int → Int → Option Addr → Nat → Nat → Bool → Int → Int → Int → Bool → Bool → World → Prop) (b227 : Nat) (o228 : Nat) (n233 : Int) (b234 : Nat) (o235 : Nat) (b236 : Nat) (o237 : Nat) (s297 : ByteArray) (q300 : Bool) (W302 : World) : Prop :=
  cond q300
  (shell_words_key.C (some ⟨b234, o235, none⟩) W302 fun n303 W304 =>
  stP W304 b236 (o237 + 4) (.int .u64 n303) fun W305 =>
  shell_read.T2 K b227 o228 n233 b234 o235 b236 o237 W305)
  (cond (s297.toList == (⟨#[112, 117, 116]⟩ : ByteArray).toList)
  (shell_read.T4 K b227 o228 n233 b234 o235 b236 o237 s297 (s297.toList == (⟨#[112, 117, 116]⟩ : ByteArray).toList) W302)
  (cond (s297.toList == (⟨#[99, 117, 114, 115, 111, 114]⟩ : ByteArray).toList)
  (shell_read.T4 K b227 o228 n233 b234 o235 b236 o237 s297 (s297.toList == (⟨#[99, 117, 114, 115, 111, 114]⟩ : ByteArray).toList) W302)
  (cond (s297.toList == (⟨#[99, 111, 117, 110, 116]⟩ : ByteArray).toList)
  (shell_read.T4 K b227 o228 n233 b234 o235 b236 o237 s297 (s297.toList == (⟨#[99, 111, 117, 110, 116]⟩ : ByteArray).toList) W302)
  (shell_read.T4 K b227 o228 n233 b234 o235 b236 o237 s297 (s297.toList == (⟨#[119, 105, 112, 101]⟩ : ByteArray).toList) W302))))
def shell_read.T1 (K : Int → Int → Int → Option Addr → Nat → Nat → Int → Int → Option Addr → Nat → Nat → Bool → Int → Int → Int → Bool → Bool → World → Prop) (b19 : Nat) (o20 : Nat) (a22 : Option Addr) (l23 : Nat) (c24 : Nat) (n25 : Int) (b26 : Nat) (o27 : Nat) (b28 : Nat) (o29 : Nat) (W79 : World) : Prop :=
  shell_words_num.C (some ⟨b26, o27, none⟩) W79 fun n80 W81 =>
  stP W81 b28 (o29 + 1) (.int .i64 n80) fun W82 =>
  nn a22 fun b211 o212 =>
  0 ≤ (0 : Int) ∧ (0 : Int) < ((l23 : Nat) : Int) ∧
  lS W82 b211 (o212 + Int.toNat (0 : Int) * 1) fun s213 =>
  cond (s213.toList == (⟨#[111, 112, 101, 110]⟩ : ByteArray).toList)
  (shell_words_one.C (some ⟨b26, o27, none⟩) (⟨#[109, 97, 112]⟩ : ByteArray) (⟨#[115, 101, 116]⟩ : ByteArray) W82 fun q214 W215 =>
  stP W215 b28 (o29 + 7) (.bool q214) fun W216 =>
  shell_words_tag.C (some ⟨b26, o27, none⟩) W216 fun n217 W218 =>
  shell_words_key.C (some ⟨b26, o27, none⟩) W218 fun n219 W220 =>
  shell_words_num.C (some ⟨b26, o27, none⟩) W220 fun n221 W222 =>
  stP W222 b28 (o29 + 8) (.int .i64 n217) fun W223 =>
  stP W223 b28 (o29 + 9) (.int .u64 n219) fun W224 =>
  stP W224 b28 (o29 + 10) (.int .i64 n221) fun W225 =>
  shell_read.T2 K b19 o20 n25 b26 o27 b28 o29 W225)
  (cond (s213.toList == (⟨#[105, 110, 115, 101, 114, 116]⟩ : ByteArray).toList)
  (shell_read.T3 K b19 o20 n25 b26 o27 b28 o29 s213 (s213.toList == (⟨#[105, 110, 115, 101, 114, 116]⟩ : ByteArray).toList) W82)
  (cond (s213.toList == (⟨#[100, 101, 108, 101, 116, 101]⟩ : ByteArray).toList)
  (shell_read.T3 K b19 o20 n25 b26 o27 b28 o29 s213 (s213.toList == (⟨#[100, 101, 108, 101, 116, 101]⟩ : ByteArray).toList) W82)
  (cond (s213.toList == (⟨#[103, 101, 116]⟩ : ByteArray).toList)
  (shell_read.T3 K b19 o20 n25 b26 o27 b28 o29 s213 (s213.toList == (⟨#[103, 101, 116]⟩ : ByteArray).toList) W82)
  (cond (s213.toList == (⟨#[104, 97, 115]⟩ : ByteArray).toList)
  (shell_read.T3 K b19 o20 n25 b26 o27 b28 o29 s213 (s213.toList == (⟨#[104, 97, 115]⟩ : ByteArray).toList) W82)
  (cond (s213.toList == (⟨#[110, 101, 120, 116]⟩ : ByteArray).toList)
  (shell_read.T3 K b19 o20 n25 b26 o27 b28 o29 s213 (s213.toList == (⟨#[110, 101, 120, 116]⟩ : ByteArray).toList) W82)
  (cond (s213.toList == (⟨#[112, 114, 101, 118]⟩ : ByteArray).toList)
  (shell_read.T3 K b19 o20 n25 b26 o27 b28 o29 s213 (s213.toList == (⟨#[112, 114, 101, 118]⟩ : ByteArray).toList) W82)
  (cond (s213.toList == (⟨#[114, 97, 110, 107]⟩ : ByteArray).toList)
  (shell_read.T3 K b19 o20 n25 b26 o27 b28 o29 s213 (s213.toList == (⟨#[114, 97, 110, 107]⟩ : ByteArray).toList) W82)
  (shell_read.T3 K b19 o20 n25 b26 o27 b28 o29 s213 (s213.toList == (⟨#[115, 101, 101, 107]⟩ : ByteArray).toList) W82))))))))
def shell_read.F (s1 : ByteArray) (w : World) (K : Int → Int → Int → Option Addr → Nat → Nat → Int → Int → Option Addr → Nat → Nat → Bool → Int → Int → Int → Bool → Bool → World → Prop) : Prop :=
  alP w #[(.int .u8 (0 : Int)), (.int .i64 (0 : Int)), (.int .i64 (0 : Int)), (.slice none 0 0), (.int .u64 (0 : Int)), (.int .u64 (0 : Int)), (.slice none 0 0), (.bool false), (.int .i64 (0 : Int)), (.int .u64 (0 : Int)), (.int .i64 (0 : Int)), (.bool false)] 35 fun r2 W3 =>
  strings_Split.C s1 (⟨#[32]⟩ : ByteArray) W3 fun a4 l5 c6 W7 =>
  nn a4 fun b8 o9 =>
  0 ≤ (0 : Int) ∧ (0 : Int) < ((l5 : Nat) : Int) ∧
  lS W7 b8 (o9 + Int.toNat (0 : Int) * 1) fun s10 =>
  shell_kind.C s10 W7 fun n11 W12 =>
  0 ≤ (1 : Int) ∧ (1 : Int) ≤ ((l5 : Nat) : Int) ∧
  alP W12 #[(.slice (slA a4 c6 (Int.toNat (1 : Int)) 1) (l5 - (Int.toNat (1 : Int))) (c6 - (Int.toNat (1 : Int)))), (.bool false)] 192 fun r13 W14 =>
  alP W14 #[(.int .u8 (0 : Int)), (.int .i64 (0 : Int)), (.int .i64 (0 : Int)), (.slice none 0 0), (.int .u64 (0 : Int)), (.int .u64 (0 : Int)), (.slice none 0 0), (.bool false), (.int .i64 (0 : Int)), (.int .u64 (0 : Int)), (.int .i64 (0 : Int)), (.bool false)] 35 fun r15 W16 =>
  stCs r15 0 [(.int .u8 (wu8 (mxI n11 (0 : Int)))), (.int .i64 (0 : Int)), (.int .i64 (0 : Int)), (.slice none 0 0), (.int .u64 (0 : Int)), (.int .u64 (0 : Int)), (.slice none 0 0), (.bool false), (.int .i64 (0 : Int)), (.int .u64 (0 : Int)), (.int .i64 (0 : Int)), (.bool false)] W16 fun W17 =>
  nn a4 fun b584 o585 =>
  0 ≤ (0 : Int) ∧ (0 : Int) < ((l5 : Nat) : Int) ∧
  lS W17 b584 (o585 + Int.toNat (0 : Int) * 1) fun s586 =>
  cond (s586.toList == (⟨#[106, 111, 105, 110]⟩ : ByteArray).toList)
  (shell_words_num.C (some ⟨r13, 0, none⟩) W17 fun n587 W588 =>
  stP W588 r15 2 (.int .i64 n587) fun W589 =>
  shell_read.T1 K r2 0 a4 l5 c6 n11 r13 0 r15 0 W589)
  (shell_read.T1 K r2 0 a4 l5 c6 n11 r13 0 r15 0 W17)
def shell_read.U0 (K : Int → Int → Int → Option Addr → Nat → Nat → Int → Int → Option Addr → Nat → Nat → Bool → Int → Int → Int → Bool → Bool → World → Prop) (l : Nat) (fr : Fr) (w : World) : Prop :=
  match l with
 | 1 =>
  gN False (fr 2) fun b19 o20 =>
  gL False (fr 4) fun a22 l23 c24 =>
  gI64 False (fr 5) fun n25 =>
  gN False (fr 6) fun b26 o27 =>
  gN False (fr 7) fun b28 o29 =>
  shell_read.T1 K b19 o20 a22 l23 c24 n25 b26 o27 b28 o29 w
 | 2 =>
  gN False (fr 2) fun b84 o85 =>
  gI64 False (fr 5) fun n90 =>
  gN False (fr 6) fun b91 o92 =>
  gN False (fr 7) fun b93 o94 =>
  shell_read.T2 K b84 o85 n90 b91 o92 b93 o94 w
 | 3 =>
  gN False (fr 2) fun b227 o228 =>
  gI64 False (fr 5) fun n233 =>
  gN False (fr 6) fun b234 o235 =>
  gN False (fr 7) fun b236 o237 =>
  gS False (fr 34) fun s297 =>
  gB False (fr 49) fun q300 =>
  shell_read.T3 K b227 o228 n233 b234 o235 b236 o237 s297 q300 w
 | 4 =>
  gN False (fr 2) fun b307 o308 =>
  gI64 False (fr 5) fun n313 =>
  gN False (fr 6) fun b314 o315 =>
  gN False (fr 7) fun b316 o317 =>
  gS False (fr 34) fun s377 =>
  gB False (fr 61) fun q382 =>
  shell_read.T4 K b307 o308 n313 b314 o315 b316 o317 s377 q382 w
 | 5 =>
  gN False (fr 2) fun b392 o393 =>
  gI64 False (fr 5) fun n398 =>
  gN False (fr 6) fun b399 o400 =>
  gN False (fr 7) fun b401 o402 =>
  gS False (fr 34) fun s462 =>
  gB False (fr 72) fun q469 =>
  shell_read.T5 K b392 o393 n398 b399 o400 b401 o402 s462 q469 w
 | 6 =>
  gN False (fr 2) fun b476 o477 =>
  gI64 False (fr 5) fun n482 =>
  gN False (fr 6) fun b483 o484 =>
  gN False (fr 7) fun b485 o486 =>
  shell_read.T6 K b476 o477 n482 b483 o484 b485 o486 w
 | _ => False
def shell_read.ext6 (fr : Fr) : Option (Unit) :=
  some ()
theorem shell_read.U0_ok2 (K : Int → Int → Int → Option Addr → Nat → Nat → Int → Int → Option Addr → Nat → Nat → Bool → Int → Int → Int → Bool → Bool → World → Prop) (fr : Fr) (w : World) (h : shell_read.U0 K 2 fr w) : sh prog (shell_read.U0 K) (subAt [.R, .R, .R, .R, .R, .R, .R, .R] (bodyOf Tryz.f67)) fr w (ctxAt prog (shell_read.U0 K) [.R, .R, .R, .R, .R, .R, .R, .R] (bodyOf Tryz.f67) (retK prog Tryz.f67.results.toList (S_au8_i64_i64_l_u64_u64_l_b_i64_u64_i64_bz_b.R K))) := by
  unfold shell_read.U0 at h
  simp only at h
  replace h := gN.outF h; obtain ⟨b84, o85, e590, h⟩ := h
  replace h := gI64.outF h; obtain ⟨n90, e591, h⟩ := h
  replace h := gN.outF h; obtain ⟨b91, o92, e592, h⟩ := h
  replace h := gN.outF h; obtain ⟨b93, o94, e593, h⟩ := h
  refine at_frame [(2, (.pointer (some ⟨b84, o85, none⟩))), (5, (.int .i64 n90)), (6, (.pointer (some ⟨b91, o92, none⟩))), (7, (.pointer (some ⟨b93, o94, none⟩)))] (by intro p hp; simp only [List.mem_cons, List.not_mem_nil, or_false] at hp; rcases hp with rfl | rfl | rfl | rfl <;> assumption) (Q := fun fr => sh prog (shell_read.U0 K) (subAt [.R, .R, .R, .R, .R, .R, .R, .R] (bodyOf Tryz.f67)) fr w (ctxAt prog (shell_read.U0 K) [.R, .R, .R, .R, .R, .R, .R, .R] (bodyOf Tryz.f67) (retK prog Tryz.f67.results.toList (S_au8_i64_i64_l_u64_u64_l_b_i64_u64_i64_bz_b.R K)))) ?_
  apply kc h; kernel_rfl
theorem shell_read.U0_ok6 (K : Int → Int → Int → Option Addr → Nat → Nat → Int → Int → Option Addr → Nat → Nat → Bool → Int → Int → Int → Bool → Bool → World → Prop) (fr : Fr) (w : World) (h : shell_read.U0 K 6 fr w) : sh prog (shell_read.U0 K) (subAt [.R, .R, .R, .R, .R, .R, .R, .L, .R, .B, .R, .E, .R, .E, .R, .E, .R, .E, .R, .T, .B] (cutAt 2 [.R, .R, .R, .R, .R, .R, .R, .R] (bodyOf Tryz.f67))) fr w (ctxAt prog (shell_read.U0 K) [.R, .R, .R, .R, .R, .R, .R, .L, .R, .B, .R, .E, .R, .E, .R, .E, .R, .E, .R, .T, .B] (cutAt 2 [.R, .R, .R, .R, .R, .R, .R, .R] (bodyOf Tryz.f67)) (retK prog Tryz.f67.results.toList (S_au8_i64_i64_l_u64_u64_l_b_i64_u64_i64_bz_b.R K))) := by
  unfold shell_read.U0 at h
  simp only at h
  replace h := gN.outF h; obtain ⟨b476, o477, e594, h⟩ := h
  replace h := gI64.outF h; obtain ⟨n482, e595, h⟩ := h
  replace h := gN.outF h; obtain ⟨b483, o484, e596, h⟩ := h
  replace h := gN.outF h; obtain ⟨b485, o486, e597, h⟩ := h
  refine kc (A := LoopP (sh prog (shell_read.U0 K) (loopBody (subAt [.R, .R, .R, .R, .R, .R, .R, .L, .R, .B, .R, .E, .R, .E, .R, .E, .R, .E, .R, .T, .B] (cutAt 2 [.R, .R, .R, .R, .R, .R, .R, .R] (bodyOf Tryz.f67))))) fr w (ctxAt prog (shell_read.U0 K) [.R, .R, .R, .R, .R, .R, .R, .L, .R, .B, .R, .E, .R, .E, .R, .E, .R, .E, .R, .T, .B] (cutAt 2 [.R, .R, .R, .R, .R, .R, .R, .R] (bodyOf Tryz.f67)) (retK prog Tryz.f67.results.toList (S_au8_i64_i64_l_u64_u64_l_b_i64_u64_i64_bz_b.R K)))) ?_ (by kernel_rfl)
  refine loop_typed (B := shell_read.B6 K b476 o477 n482 b483 o484 b485 o486) shell_read.ext6 (s := ()) (by unfold shell_read.ext6; first | (simp only [true_and]; rfl) | simp only [true_and]) h ?_
  clear h
  intro s0 fr1 w1 next557 hs hk h
  unfold shell_read.ext6 at hs
  replace hs := Option.some.inj hs; subst hs
  have e598 : fr1 2 = (.pointer (some ⟨b476, o477, none⟩)) := (hk 2 (by kernel_rfl)).trans e594
  have e599 : fr1 5 = (.int .i64 n482) := (hk 5 (by kernel_rfl)).trans e595
  have e600 : fr1 6 = (.pointer (some ⟨b483, o484, none⟩)) := (hk 6 (by kernel_rfl)).trans e596
  have e601 : fr1 7 = (.pointer (some ⟨b485, o486, none⟩)) := (hk 7 (by kernel_rfl)).trans e597
  refine at_frame [(2, (.pointer (some ⟨b476, o477, none⟩))), (5, (.int .i64 n482)), (6, (.pointer (some ⟨b483, o484, none⟩))), (7, (.pointer (some ⟨b485, o486, none⟩)))] (by intro p hp; simp only [List.mem_cons, List.not_mem_nil, or_false] at hp; rcases hp with rfl | rfl | rfl | rfl <;> assumption) (Q := fun fr => sh prog (shell_read.U0 K) (loopBody (subAt [.R, .R, .R, .R, .R, .R, .R, .L, .R, .B, .R, .E, .R, .E, .R, .E, .R, .E, .R, .T, .B] (cutAt 2 [.R, .R, .R, .R, .R, .R, .R, .R] (bodyOf Tryz.f67)))) fr w1 (nextK shell_read.ext6 next557 (ctxAt prog (shell_read.U0 K) [.R, .R, .R, .R, .R, .R, .R, .L, .R, .B, .R, .E, .R, .E, .R, .E, .R, .E, .R, .T, .B] (cutAt 2 [.R, .R, .R, .R, .R, .R, .R, .R] (bodyOf Tryz.f67)) (retK prog Tryz.f67.results.toList (S_au8_i64_i64_l_u64_u64_l_b_i64_u64_i64_bz_b.R K))))) ?_
  apply kc h; kernel_rfl
theorem shell_read.U0_ok5 (K : Int → Int → Int → Option Addr → Nat → Nat → Int → Int → Option Addr → Nat → Nat → Bool → Int → Int → Int → Bool → Bool → World → Prop) (fr : Fr) (w : World) (h : shell_read.U0 K 5 fr w) : sh prog (shell_read.U0 K) (subAt [.R, .R, .R, .R, .R, .R, .R, .L, .R, .B, .R, .E, .R, .E, .R, .E, .R] (cutAt 6 [.R, .R, .R, .R, .R, .R, .R, .L, .R, .B, .R, .E, .R, .E, .R, .E, .R, .E, .R, .T, .B] (cutAt 2 [.R, .R, .R, .R, .R, .R, .R, .R] (bodyOf Tryz.f67)))) fr w (ctxAt prog (shell_read.U0 K) [.R, .R, .R, .R, .R, .R, .R, .L, .R, .B, .R, .E, .R, .E, .R, .E, .R] (cutAt 6 [.R, .R, .R, .R, .R, .R, .R, .L, .R, .B, .R, .E, .R, .E, .R, .E, .R, .E, .R, .T, .B] (cutAt 2 [.R, .R, .R, .R, .R, .R, .R, .R] (bodyOf Tryz.f67))) (retK prog Tryz.f67.results.toList (S_au8_i64_i64_l_u64_u64_l_b_i64_u64_i64_bz_b.R K))) := by
  unfold shell_read.U0 at h
  simp only at h
  replace h := gN.outF h; obtain ⟨b392, o393, e602, h⟩ := h
  replace h := gI64.outF h; obtain ⟨n398, e603, h⟩ := h
  replace h := gN.outF h; obtain ⟨b399, o400, e604, h⟩ := h
  replace h := gN.outF h; obtain ⟨b401, o402, e605, h⟩ := h
  replace h := gS.outF h; obtain ⟨s462, e606, h⟩ := h
  replace h := gB.outF h; obtain ⟨q469, e607, h⟩ := h
  refine at_frame [(2, (.pointer (some ⟨b392, o393, none⟩))), (5, (.int .i64 n398)), (6, (.pointer (some ⟨b399, o400, none⟩))), (7, (.pointer (some ⟨b401, o402, none⟩))), (34, (.string s462)), (72, (.bool q469))] (by intro p hp; simp only [List.mem_cons, List.not_mem_nil, or_false] at hp; rcases hp with rfl | rfl | rfl | rfl | rfl | rfl <;> assumption) (Q := fun fr => sh prog (shell_read.U0 K) (subAt [.R, .R, .R, .R, .R, .R, .R, .L, .R, .B, .R, .E, .R, .E, .R, .E, .R] (cutAt 6 [.R, .R, .R, .R, .R, .R, .R, .L, .R, .B, .R, .E, .R, .E, .R, .E, .R, .E, .R, .T, .B] (cutAt 2 [.R, .R, .R, .R, .R, .R, .R, .R] (bodyOf Tryz.f67)))) fr w (ctxAt prog (shell_read.U0 K) [.R, .R, .R, .R, .R, .R, .R, .L, .R, .B, .R, .E, .R, .E, .R, .E, .R] (cutAt 6 [.R, .R, .R, .R, .R, .R, .R, .L, .R, .B, .R, .E, .R, .E, .R, .E, .R, .E, .R, .T, .B] (cutAt 2 [.R, .R, .R, .R, .R, .R, .R, .R] (bodyOf Tryz.f67))) (retK prog Tryz.f67.results.toList (S_au8_i64_i64_l_u64_u64_l_b_i64_u64_i64_bz_b.R K)))) ?_
  apply kc h; kernel_rfl
theorem shell_read.U0_ok4 (K : Int → Int → Int → Option Addr → Nat → Nat → Int → Int → Option Addr → Nat → Nat → Bool → Int → Int → Int → Bool → Bool → World → Prop) (fr : Fr) (w : World) (h : shell_read.U0 K 4 fr w) : sh prog (shell_read.U0 K) (subAt [.R, .R, .R, .R, .R, .R, .R, .L, .R, .B, .R, .E, .R, .E, .R] (cutAt 5 [.R, .R, .R, .R, .R, .R, .R, .L, .R, .B, .R, .E, .R, .E, .R, .E, .R] (cutAt 6 [.R, .R, .R, .R, .R, .R, .R, .L, .R, .B, .R, .E, .R, .E, .R, .E, .R, .E, .R, .T, .B] (cutAt 2 [.R, .R, .R, .R, .R, .R, .R, .R] (bodyOf Tryz.f67))))) fr w (ctxAt prog (shell_read.U0 K) [.R, .R, .R, .R, .R, .R, .R, .L, .R, .B, .R, .E, .R, .E, .R] (cutAt 5 [.R, .R, .R, .R, .R, .R, .R, .L, .R, .B, .R, .E, .R, .E, .R, .E, .R] (cutAt 6 [.R, .R, .R, .R, .R, .R, .R, .L, .R, .B, .R, .E, .R, .E, .R, .E, .R, .E, .R, .T, .B] (cutAt 2 [.R, .R, .R, .R, .R, .R, .R, .R] (bodyOf Tryz.f67)))) (retK prog Tryz.f67.results.toList (S_au8_i64_i64_l_u64_u64_l_b_i64_u64_i64_bz_b.R K))) := by
  unfold shell_read.U0 at h
  simp only at h
  replace h := gN.outF h; obtain ⟨b307, o308, e608, h⟩ := h
  replace h := gI64.outF h; obtain ⟨n313, e609, h⟩ := h
  replace h := gN.outF h; obtain ⟨b314, o315, e610, h⟩ := h
  replace h := gN.outF h; obtain ⟨b316, o317, e611, h⟩ := h
  replace h := gS.outF h; obtain ⟨s377, e612, h⟩ := h
  replace h := gB.outF h; obtain ⟨q382, e613, h⟩ := h
  refine at_frame [(2, (.pointer (some ⟨b307, o308, none⟩))), (5, (.int .i64 n313)), (6, (.pointer (some ⟨b314, o315, none⟩))), (7, (.pointer (some ⟨b316, o317, none⟩))), (34, (.string s377)), (61, (.bool q382))] (by intro p hp; simp only [List.mem_cons, List.not_mem_nil, or_false] at hp; rcases hp with rfl | rfl | rfl | rfl | rfl | rfl <;> assumption) (Q := fun fr => sh prog (shell_read.U0 K) (subAt [.R, .R, .R, .R, .R, .R, .R, .L, .R, .B, .R, .E, .R, .E, .R] (cutAt 5 [.R, .R, .R, .R, .R, .R, .R, .L, .R, .B, .R, .E, .R, .E, .R, .E, .R] (cutAt 6 [.R, .R, .R, .R, .R, .R, .R, .L, .R, .B, .R, .E, .R, .E, .R, .E, .R, .E, .R, .T, .B] (cutAt 2 [.R, .R, .R, .R, .R, .R, .R, .R] (bodyOf Tryz.f67))))) fr w (ctxAt prog (shell_read.U0 K) [.R, .R, .R, .R, .R, .R, .R, .L, .R, .B, .R, .E, .R, .E, .R] (cutAt 5 [.R, .R, .R, .R, .R, .R, .R, .L, .R, .B, .R, .E, .R, .E, .R, .E, .R] (cutAt 6 [.R, .R, .R, .R, .R, .R, .R, .L, .R, .B, .R, .E, .R, .E, .R, .E, .R, .E, .R, .T, .B] (cutAt 2 [.R, .R, .R, .R, .R, .R, .R, .R] (bodyOf Tryz.f67)))) (retK prog Tryz.f67.results.toList (S_au8_i64_i64_l_u64_u64_l_b_i64_u64_i64_bz_b.R K)))) ?_
  apply kc h; kernel_rfl
theorem shell_read.U0_ok3 (K : Int → Int → Int → Option Addr → Nat → Nat → Int → Int → Option Addr → Nat → Nat → Bool → Int → Int → Int → Bool → Bool → World → Prop) (fr : Fr) (w : World) (h : shell_read.U0 K 3 fr w) : sh prog (shell_read.U0 K) (subAt [.R, .R, .R, .R, .R, .R, .R, .L, .R, .B, .R, .E, .R] (cutAt 4 [.R, .R, .R, .R, .R, .R, .R, .L, .R, .B, .R, .E, .R, .E, .R] (cutAt 5 [.R, .R, .R, .R, .R, .R, .R, .L, .R, .B, .R, .E, .R, .E, .R, .E, .R] (cutAt 6 [.R, .R, .R, .R, .R, .R, .R, .L, .R, .B, .R, .E, .R, .E, .R, .E, .R, .E, .R, .T, .B] (cutAt 2 [.R, .R, .R, .R, .R, .R, .R, .R] (bodyOf Tryz.f67)))))) fr w (ctxAt prog (shell_read.U0 K) [.R, .R, .R, .R, .R, .R, .R, .L, .R, .B, .R, .E, .R] (cutAt 4 [.R, .R, .R, .R, .R, .R, .R, .L, .R, .B, .R, .E, .R, .E, .R] (cutAt 5 [.R, .R, .R, .R, .R, .R, .R, .L, .R, .B, .R, .E, .R, .E, .R, .E, .R] (cutAt 6 [.R, .R, .R, .R, .R, .R, .R, .L, .R, .B, .R, .E, .R, .E, .R, .E, .R, .E, .R, .T, .B] (cutAt 2 [.R, .R, .R, .R, .R, .R, .R, .R] (bodyOf Tryz.f67))))) (retK prog Tryz.f67.results.toList (S_au8_i64_i64_l_u64_u64_l_b_i64_u64_i64_bz_b.R K))) := by
  unfold shell_read.U0 at h
  simp only at h
  replace h := gN.outF h; obtain ⟨b227, o228, e614, h⟩ := h
  replace h := gI64.outF h; obtain ⟨n233, e615, h⟩ := h
  replace h := gN.outF h; obtain ⟨b234, o235, e616, h⟩ := h
  replace h := gN.outF h; obtain ⟨b236, o237, e617, h⟩ := h
  replace h := gS.outF h; obtain ⟨s297, e618, h⟩ := h
  replace h := gB.outF h; obtain ⟨q300, e619, h⟩ := h
  refine at_frame [(2, (.pointer (some ⟨b227, o228, none⟩))), (5, (.int .i64 n233)), (6, (.pointer (some ⟨b234, o235, none⟩))), (7, (.pointer (some ⟨b236, o237, none⟩))), (34, (.string s297)), (49, (.bool q300))] (by intro p hp; simp only [List.mem_cons, List.not_mem_nil, or_false] at hp; rcases hp with rfl | rfl | rfl | rfl | rfl | rfl <;> assumption) (Q := fun fr => sh prog (shell_read.U0 K) (subAt [.R, .R, .R, .R, .R, .R, .R, .L, .R, .B, .R, .E, .R] (cutAt 4 [.R, .R, .R, .R, .R, .R, .R, .L, .R, .B, .R, .E, .R, .E, .R] (cutAt 5 [.R, .R, .R, .R, .R, .R, .R, .L, .R, .B, .R, .E, .R, .E, .R, .E, .R] (cutAt 6 [.R, .R, .R, .R, .R, .R, .R, .L, .R, .B, .R, .E, .R, .E, .R, .E, .R, .E, .R, .T, .B] (cutAt 2 [.R, .R, .R, .R, .R, .R, .R, .R] (bodyOf Tryz.f67)))))) fr w (ctxAt prog (shell_read.U0 K) [.R, .R, .R, .R, .R, .R, .R, .L, .R, .B, .R, .E, .R] (cutAt 4 [.R, .R, .R, .R, .R, .R, .R, .L, .R, .B, .R, .E, .R, .E, .R] (cutAt 5 [.R, .R, .R, .R, .R, .R, .R, .L, .R, .B, .R, .E, .R, .E, .R, .E, .R] (cutAt 6 [.R, .R, .R, .R, .R, .R, .R, .L, .R, .B, .R, .E, .R, .E, .R, .E, .R, .E, .R, .T, .B] (cutAt 2 [.R, .R, .R, .R, .R, .R, .R, .R] (bodyOf Tryz.f67))))) (retK prog Tryz.f67.results.toList (S_au8_i64_i64_l_u64_u64_l_b_i64_u64_i64_bz_b.R K)))) ?_
  apply kc h; kernel_rfl
theorem shell_read.U0_ok1 (K : Int → Int → Int → Option Addr → Nat → Nat → Int → Int → Option Addr → Nat → Nat → Bool → Int → Int → Int → Bool → Bool → World → Prop) (fr : Fr) (w : World) (h : shell_read.U0 K 1 fr w) : sh prog (shell_read.U0 K) (subAt [.R, .R, .R, .R, .R, .R] (cutAt 3 [.R, .R, .R, .R, .R, .R, .R, .L, .R, .B, .R, .E, .R] (cutAt 4 [.R, .R, .R, .R, .R, .R, .R, .L, .R, .B, .R, .E, .R, .E, .R] (cutAt 5 [.R, .R, .R, .R, .R, .R, .R, .L, .R, .B, .R, .E, .R, .E, .R, .E, .R] (cutAt 6 [.R, .R, .R, .R, .R, .R, .R, .L, .R, .B, .R, .E, .R, .E, .R, .E, .R, .E, .R, .T, .B] (cutAt 2 [.R, .R, .R, .R, .R, .R, .R, .R] (bodyOf Tryz.f67))))))) fr w (ctxAt prog (shell_read.U0 K) [.R, .R, .R, .R, .R, .R] (cutAt 3 [.R, .R, .R, .R, .R, .R, .R, .L, .R, .B, .R, .E, .R] (cutAt 4 [.R, .R, .R, .R, .R, .R, .R, .L, .R, .B, .R, .E, .R, .E, .R] (cutAt 5 [.R, .R, .R, .R, .R, .R, .R, .L, .R, .B, .R, .E, .R, .E, .R, .E, .R] (cutAt 6 [.R, .R, .R, .R, .R, .R, .R, .L, .R, .B, .R, .E, .R, .E, .R, .E, .R, .E, .R, .T, .B] (cutAt 2 [.R, .R, .R, .R, .R, .R, .R, .R] (bodyOf Tryz.f67)))))) (retK prog Tryz.f67.results.toList (S_au8_i64_i64_l_u64_u64_l_b_i64_u64_i64_bz_b.R K))) := by
  unfold shell_read.U0 at h
  simp only at h
  replace h := gN.outF h; obtain ⟨b19, o20, e620, h⟩ := h
  replace h := gL.outF h; obtain ⟨a22, l23, c24, e621, h⟩ := h
  replace h := gI64.outF h; obtain ⟨n25, e622, h⟩ := h
  replace h := gN.outF h; obtain ⟨b26, o27, e623, h⟩ := h
  replace h := gN.outF h; obtain ⟨b28, o29, e624, h⟩ := h
  refine at_frame [(2, (.pointer (some ⟨b19, o20, none⟩))), (4, (.slice a22 l23 c24)), (5, (.int .i64 n25)), (6, (.pointer (some ⟨b26, o27, none⟩))), (7, (.pointer (some ⟨b28, o29, none⟩)))] (by intro p hp; simp only [List.mem_cons, List.not_mem_nil, or_false] at hp; rcases hp with rfl | rfl | rfl | rfl | rfl <;> assumption) (Q := fun fr => sh prog (shell_read.U0 K) (subAt [.R, .R, .R, .R, .R, .R] (cutAt 3 [.R, .R, .R, .R, .R, .R, .R, .L, .R, .B, .R, .E, .R] (cutAt 4 [.R, .R, .R, .R, .R, .R, .R, .L, .R, .B, .R, .E, .R, .E, .R] (cutAt 5 [.R, .R, .R, .R, .R, .R, .R, .L, .R, .B, .R, .E, .R, .E, .R, .E, .R] (cutAt 6 [.R, .R, .R, .R, .R, .R, .R, .L, .R, .B, .R, .E, .R, .E, .R, .E, .R, .E, .R, .T, .B] (cutAt 2 [.R, .R, .R, .R, .R, .R, .R, .R] (bodyOf Tryz.f67))))))) fr w (ctxAt prog (shell_read.U0 K) [.R, .R, .R, .R, .R, .R] (cutAt 3 [.R, .R, .R, .R, .R, .R, .R, .L, .R, .B, .R, .E, .R] (cutAt 4 [.R, .R, .R, .R, .R, .R, .R, .L, .R, .B, .R, .E, .R, .E, .R] (cutAt 5 [.R, .R, .R, .R, .R, .R, .R, .L, .R, .B, .R, .E, .R, .E, .R, .E, .R] (cutAt 6 [.R, .R, .R, .R, .R, .R, .R, .L, .R, .B, .R, .E, .R, .E, .R, .E, .R, .E, .R, .T, .B] (cutAt 2 [.R, .R, .R, .R, .R, .R, .R, .R] (bodyOf Tryz.f67)))))) (retK prog Tryz.f67.results.toList (S_au8_i64_i64_l_u64_u64_l_b_i64_u64_i64_bz_b.R K)))) ?_
  apply kc h; kernel_rfl
theorem shell_read.ok {s1 : ByteArray} {w : World} {K : Int → Int → Int → Option Addr → Nat → Nat → Int → Int → Option Addr → Nat → Nat → Bool → Int → Int → Int → Bool → Bool → World → Prop} (h : shell_read.F s1 w K) : shell_read.C s1 w K := by
  refine CallsV.mono (callsV_of_sh prog.mixed prog.noNum (args := [(.string s1)]) Tryz.func67 (c := bodyOf Tryz.f67) (by kernel_rfl) (by kernel_rfl) (by kernel_rfl) (R := S_au8_i64_i64_l_u64_u64_l_b_i64_u64_i64_bz_b.R K) ?_) fun v w1 h => S_au8_i64_i64_l_u64_u64_l_b_i64_u64_i64_bz_b.out h
  refine sh_anyCut (cut := shell_read.U0 K) (by kernel_rfl) ?_
  refine sh_cutAt (p := [.R, .R, .R, .R, .R, .R, .R, .R]) (l := 2) ?_ (shell_read.U0_ok2 K)
  refine sh_cutAt (p := [.R, .R, .R, .R, .R, .R, .R, .L, .R, .B, .R, .E, .R, .E, .R, .E, .R, .E, .R, .T, .B]) (l := 6) ?_ (shell_read.U0_ok6 K)
  refine sh_cutAt (p := [.R, .R, .R, .R, .R, .R, .R, .L, .R, .B, .R, .E, .R, .E, .R, .E, .R]) (l := 5) ?_ (shell_read.U0_ok5 K)
  refine sh_cutAt (p := [.R, .R, .R, .R, .R, .R, .R, .L, .R, .B, .R, .E, .R, .E, .R]) (l := 4) ?_ (shell_read.U0_ok4 K)
  refine sh_cutAt (p := [.R, .R, .R, .R, .R, .R, .R, .L, .R, .B, .R, .E, .R]) (l := 3) ?_ (shell_read.U0_ok3 K)
  refine sh_cutAt (p := [.R, .R, .R, .R, .R, .R]) (l := 1) ?_ (shell_read.U0_ok1 K)
  apply kc h; kernel_rfl

def shell_fault.F (n1 : Int) (w : World) (K : ByteArray → World → Prop) : Prop :=
  strconv_Itoa.C n1 w fun s2 W3 =>
  ((((⟨#[101, 114, 114, 111, 114, 32]⟩ : ByteArray).size + s2.size : Nat) : Int) ≤ IntKind.i64.max) ∧
  K ((⟨#[101, 114, 114, 111, 114, 32]⟩ : ByteArray) ++ s2) W3
theorem shell_fault.ok {n1 : Int} {w : World} {K : ByteArray → World → Prop} (h : shell_fault.F n1 w K) : shell_fault.C n1 w K := by
  refine CallsV.mono (callsV_of_sh prog.mixed prog.noNum (args := [(.int .i64 n1)]) Tryz.func68 (c := bodyOf Tryz.f68) (by kernel_rfl) (by kernel_rfl) (by kernel_rfl) (R := S_s.R K) ?_) fun v w1 h => S_s.out h
  apply kc h; kernel_rfl

def shell_kind.B1 (K : Int → World → Prop) (s2 : ByteArray) : Int → World → ((Int) → World → Prop) → Prop := fun s0 W8 next7 => match s0 with
 | n6 =>
  cond (decide (n6 < (24 : Int)))
  (play_Name.C (wu8 n6) W8 fun s9 W10 =>
  cond (s9.toList == s2.toList)
  (K n6 W10)
  (next7 (w64 (n6 + (1 : Int))) W10))
  (K (-1 : Int) W8)
def shell_kind.T1 (K : Int → World → Prop) (s2 : ByteArray) (n6 : Int) (w : World) : Prop := LoopT (shell_kind.B1 K s2) n6 w
def shell_kind.F (s1 : ByteArray) (w : World) (K : Int → World → Prop) : Prop :=
  cond (s1.toList == (⟨#[97, 108, 108]⟩ : ByteArray).toList)
  (K (24 : Int) w)
  (shell_kind.T1 K s1 (0 : Int) w)
def shell_kind.U0 (K : Int → World → Prop) (l : Nat) (fr : Fr) (w : World) : Prop :=
  match l with
 | 1 =>
  gS False (fr 0) fun s2 =>
  gI64 False (fr 6) fun n6 =>
  shell_kind.T1 K s2 n6 w
 | _ => False
def shell_kind.ext1 (fr : Fr) : Option (Int) :=
  gI64 none (fr 6) fun n6 =>
  some n6
theorem shell_kind.U0_ok1 (K : Int → World → Prop) (fr : Fr) (w : World) (h : shell_kind.U0 K 1 fr w) : sh prog (shell_kind.U0 K) (subAt [.R, .R, .L, .R, .B] (bodyOf Tryz.f69)) fr w (ctxAt prog (shell_kind.U0 K) [.R, .R, .L, .R, .B] (bodyOf Tryz.f69) (retK prog Tryz.f69.results.toList (S_i64.R K))) := by
  unfold shell_kind.U0 at h
  simp only at h
  replace h := gS.outF h; obtain ⟨s2, e11, h⟩ := h
  replace h := gI64.outF h; obtain ⟨n6, e12, h⟩ := h
  refine kc (A := LoopP (sh prog (shell_kind.U0 K) (loopBody (subAt [.R, .R, .L, .R, .B] (bodyOf Tryz.f69)))) fr w (ctxAt prog (shell_kind.U0 K) [.R, .R, .L, .R, .B] (bodyOf Tryz.f69) (retK prog Tryz.f69.results.toList (S_i64.R K)))) ?_ (by kernel_rfl)
  refine loop_typed (B := shell_kind.B1 K s2) shell_kind.ext1 (s := n6) (by unfold shell_kind.ext1; simp only [e12]; rfl) h ?_
  clear h
  clear e12
  intro s0 fr1 w1 next7 hs hk h
  unfold shell_kind.ext1 at hs
  replace hs := noN (gI64.out (d := none) (x := _) hs); obtain ⟨n6a, e13, hs⟩ := hs
  replace hs := Option.some.inj hs; subst hs
  have e14 : fr1 0 = (.string s2) := (hk 0 (by kernel_rfl)).trans e11
  refine at_frame [(6, (.int .i64 n6a)), (0, (.string s2))] (by intro p hp; simp only [List.mem_cons, List.not_mem_nil, or_false] at hp; rcases hp with rfl | rfl <;> assumption) (Q := fun fr => sh prog (shell_kind.U0 K) (loopBody (subAt [.R, .R, .L, .R, .B] (bodyOf Tryz.f69))) fr w1 (nextK shell_kind.ext1 next7 (ctxAt prog (shell_kind.U0 K) [.R, .R, .L, .R, .B] (bodyOf Tryz.f69) (retK prog Tryz.f69.results.toList (S_i64.R K))))) ?_
  apply kc h; kernel_rfl
theorem shell_kind.ok {s1 : ByteArray} {w : World} {K : Int → World → Prop} (h : shell_kind.F s1 w K) : shell_kind.C s1 w K := by
  refine CallsV.mono (callsV_of_sh prog.mixed prog.noNum (args := [(.string s1)]) Tryz.func69 (c := bodyOf Tryz.f69) (by kernel_rfl) (by kernel_rfl) (by kernel_rfl) (R := S_i64.R K) ?_) fun v w1 h => S_i64.out h
  refine sh_anyCut (cut := shell_kind.U0 K) (by kernel_rfl) ?_
  refine sh_cutAt (p := [.R, .R, .L, .R, .B]) (l := 1) ?_ (shell_kind.U0_ok1 K)
  apply kc h; kernel_rfl

def shell_told.T3 (K : ByteArray → World → Prop) (b69 : Nat) (o70 : Nat) (s76 : ByteArray) (q81 : Bool) (W83 : World) : Prop :=
  cond q81
  (lB W83 b69 (o70 + 3) fun q84 =>
  cond q84
  (K (⟨#[121, 101, 115]⟩ : ByteArray) W83)
  (K (⟨#[110, 111]⟩ : ByteArray) W83))
  (cond (s76.toList == (⟨#[101, 110, 99, 111, 100, 101]⟩ : ByteArray).toList)
  (lL W83 b69 (o70 + 4) fun a85 l86 c87 =>
  shell_shown.C a85 l86 c87 W83 fun s88 W89 =>
  K s88 W89)
  (K (⟨#[111, 107]⟩ : ByteArray) W83))
def shell_told.T2 (K : ByteArray → World → Prop) (b45 : Nat) (o46 : Nat) (s52 : ByteArray) (q55 : Bool) (W57 : World) : Prop :=
  cond q55
  (lI64 W57 b45 (o46 + 2) fun n58 =>
  strconv_Itoa.C n58 W57 fun s59 W60 =>
  K s59 W60)
  (cond (s52.toList == (⟨#[104, 97, 115]⟩ : ByteArray).toList)
  (shell_told.T3 K b45 o46 s52 (s52.toList == (⟨#[104, 97, 115]⟩ : ByteArray).toList) W57)
  (cond (s52.toList == (⟨#[101, 113, 117, 97, 108]⟩ : ByteArray).toList)
  (shell_told.T3 K b45 o46 s52 (s52.toList == (⟨#[101, 113, 117, 97, 108]⟩ : ByteArray).toList) W57)
  (shell_told.T3 K b45 o46 s52 (s52.toList == (⟨#[119, 105, 116, 104, 105, 110]⟩ : ByteArray).toList) W57)))
def shell_told.T1 (K : ByteArray → World → Prop) (b23 : Nat) (o24 : Nat) (s30 : ByteArray) (q31 : Bool) (W33 : World) : Prop :=
  cond q31
  (lU64 W33 b23 (o24 + 1) fun n34 =>
  strconv_FormatUint.C n34 (10 : Int) W33 fun s35 W36 =>
  K s35 W36)
  (cond (s30.toList == (⟨#[108, 101, 110]⟩ : ByteArray).toList)
  (shell_told.T2 K b23 o24 s30 (s30.toList == (⟨#[108, 101, 110]⟩ : ByteArray).toList) W33)
  (cond (s30.toList == (⟨#[114, 97, 110, 107]⟩ : ByteArray).toList)
  (shell_told.T2 K b23 o24 s30 (s30.toList == (⟨#[114, 97, 110, 107]⟩ : ByteArray).toList) W33)
  (cond (s30.toList == (⟨#[99, 111, 117, 110, 116]⟩ : ByteArray).toList)
  (shell_told.T2 K b23 o24 s30 (s30.toList == (⟨#[99, 111, 117, 110, 116]⟩ : ByteArray).toList) W33)
  (shell_told.T2 K b23 o24 s30 (s30.toList == (⟨#[119, 105, 112, 101]⟩ : ByteArray).toList) W33))))
def shell_told.F (s1 : ByteArray) (n2 : Int) (n3 : Int) (n4 : Int) (q5 : Bool) (a6 : Option Addr) (l7 : Nat) (c8 : Nat) (w : World) (K : ByteArray → World → Prop) : Prop :=
  alP w #[(.int .i64 n2), (.int .u64 n3), (.int .i64 n4), (.bool q5), (.slice a6 l7 c8)] 33 fun r9 W10 =>
  lI64 W10 r9 0 fun n11 =>
  cond (n11 != (0 : Int))
  (lI64 W10 r9 0 fun n12 =>
  shell_fault.C n12 W10 fun s13 W14 =>
  K s13 W14)
  (cond (s1.toList == (⟨#[103, 101, 116]⟩ : ByteArray).toList)
  (shell_told.T1 K r9 0 s1 (s1.toList == (⟨#[103, 101, 116]⟩ : ByteArray).toList) W10)
  (cond (s1.toList == (⟨#[110, 101, 120, 116]⟩ : ByteArray).toList)
  (shell_told.T1 K r9 0 s1 (s1.toList == (⟨#[110, 101, 120, 116]⟩ : ByteArray).toList) W10)
  (cond (s1.toList == (⟨#[112, 114, 101, 118]⟩ : ByteArray).toList)
  (shell_told.T1 K r9 0 s1 (s1.toList == (⟨#[112, 114, 101, 118]⟩ : ByteArray).toList) W10)
  (cond (s1.toList == (⟨#[115, 101, 101, 107]⟩ : ByteArray).toList)
  (shell_told.T1 K r9 0 s1 (s1.toList == (⟨#[115, 101, 101, 107]⟩ : ByteArray).toList) W10)
  (cond (s1.toList == (⟨#[115, 101, 108, 101, 99, 116]⟩ : ByteArray).toList)
  (shell_told.T1 K r9 0 s1 (s1.toList == (⟨#[115, 101, 108, 101, 99, 116]⟩ : ByteArray).toList) W10)
  (cond (s1.toList == (⟨#[115, 116, 101, 112]⟩ : ByteArray).toList)
  (shell_told.T1 K r9 0 s1 (s1.toList == (⟨#[115, 116, 101, 112]⟩ : ByteArray).toList) W10)
  (shell_told.T1 K r9 0 s1 (s1.toList == (⟨#[118, 101, 114, 115, 105, 111, 110]⟩ : ByteArray).toList) W10)))))))
def shell_told.U0 (K : ByteArray → World → Prop) (l : Nat) (fr : Fr) (w : World) : Prop :=
  match l with
 | 1 =>
  gN False (fr 3) fun b23 o24 =>
  gS False (fr 11) fun s30 =>
  gB False (fr 12) fun q31 =>
  shell_told.T1 K b23 o24 s30 q31 w
 | 2 =>
  gN False (fr 3) fun b45 o46 =>
  gS False (fr 11) fun s52 =>
  gB False (fr 23) fun q55 =>
  shell_told.T2 K b45 o46 s52 q55 w
 | 3 =>
  gN False (fr 3) fun b69 o70 =>
  gS False (fr 11) fun s76 =>
  gB False (fr 31) fun q81 =>
  shell_told.T3 K b69 o70 s76 q81 w
 | _ => False
theorem shell_told.U0_ok3 (K : ByteArray → World → Prop) (fr : Fr) (w : World) (h : shell_told.U0 K 3 fr w) : sh prog (shell_told.U0 K) (subAt [.R, .R, .L, .R, .B, .R, .E, .R, .E, .R] (bodyOf Tryz.f71)) fr w (ctxAt prog (shell_told.U0 K) [.R, .R, .L, .R, .B, .R, .E, .R, .E, .R] (bodyOf Tryz.f71) (retK prog Tryz.f71.results.toList (S_s.R K))) := by
  unfold shell_told.U0 at h
  simp only at h
  replace h := gN.outF h; obtain ⟨b69, o70, e90, h⟩ := h
  replace h := gS.outF h; obtain ⟨s76, e91, h⟩ := h
  replace h := gB.outF h; obtain ⟨q81, e92, h⟩ := h
  refine at_frame [(3, (.pointer (some ⟨b69, o70, none⟩))), (11, (.string s76)), (31, (.bool q81))] (by intro p hp; simp only [List.mem_cons, List.not_mem_nil, or_false] at hp; rcases hp with rfl | rfl | rfl <;> assumption) (Q := fun fr => sh prog (shell_told.U0 K) (subAt [.R, .R, .L, .R, .B, .R, .E, .R, .E, .R] (bodyOf Tryz.f71)) fr w (ctxAt prog (shell_told.U0 K) [.R, .R, .L, .R, .B, .R, .E, .R, .E, .R] (bodyOf Tryz.f71) (retK prog Tryz.f71.results.toList (S_s.R K)))) ?_
  apply kc h; kernel_rfl
theorem shell_told.U0_ok2 (K : ByteArray → World → Prop) (fr : Fr) (w : World) (h : shell_told.U0 K 2 fr w) : sh prog (shell_told.U0 K) (subAt [.R, .R, .L, .R, .B, .R, .E, .R] (cutAt 3 [.R, .R, .L, .R, .B, .R, .E, .R, .E, .R] (bodyOf Tryz.f71))) fr w (ctxAt prog (shell_told.U0 K) [.R, .R, .L, .R, .B, .R, .E, .R] (cutAt 3 [.R, .R, .L, .R, .B, .R, .E, .R, .E, .R] (bodyOf Tryz.f71)) (retK prog Tryz.f71.results.toList (S_s.R K))) := by
  unfold shell_told.U0 at h
  simp only at h
  replace h := gN.outF h; obtain ⟨b45, o46, e93, h⟩ := h
  replace h := gS.outF h; obtain ⟨s52, e94, h⟩ := h
  replace h := gB.outF h; obtain ⟨q55, e95, h⟩ := h
  refine at_frame [(3, (.pointer (some ⟨b45, o46, none⟩))), (11, (.string s52)), (23, (.bool q55))] (by intro p hp; simp only [List.mem_cons, List.not_mem_nil, or_false] at hp; rcases hp with rfl | rfl | rfl <;> assumption) (Q := fun fr => sh prog (shell_told.U0 K) (subAt [.R, .R, .L, .R, .B, .R, .E, .R] (cutAt 3 [.R, .R, .L, .R, .B, .R, .E, .R, .E, .R] (bodyOf Tryz.f71))) fr w (ctxAt prog (shell_told.U0 K) [.R, .R, .L, .R, .B, .R, .E, .R] (cutAt 3 [.R, .R, .L, .R, .B, .R, .E, .R, .E, .R] (bodyOf Tryz.f71)) (retK prog Tryz.f71.results.toList (S_s.R K)))) ?_
  apply kc h; kernel_rfl
theorem shell_told.U0_ok1 (K : ByteArray → World → Prop) (fr : Fr) (w : World) (h : shell_told.U0 K 1 fr w) : sh prog (shell_told.U0 K) (subAt [.R, .R, .L, .R, .B, .R] (cutAt 2 [.R, .R, .L, .R, .B, .R, .E, .R] (cutAt 3 [.R, .R, .L, .R, .B, .R, .E, .R, .E, .R] (bodyOf Tryz.f71)))) fr w (ctxAt prog (shell_told.U0 K) [.R, .R, .L, .R, .B, .R] (cutAt 2 [.R, .R, .L, .R, .B, .R, .E, .R] (cutAt 3 [.R, .R, .L, .R, .B, .R, .E, .R, .E, .R] (bodyOf Tryz.f71))) (retK prog Tryz.f71.results.toList (S_s.R K))) := by
  unfold shell_told.U0 at h
  simp only at h
  replace h := gN.outF h; obtain ⟨b23, o24, e96, h⟩ := h
  replace h := gS.outF h; obtain ⟨s30, e97, h⟩ := h
  replace h := gB.outF h; obtain ⟨q31, e98, h⟩ := h
  refine at_frame [(3, (.pointer (some ⟨b23, o24, none⟩))), (11, (.string s30)), (12, (.bool q31))] (by intro p hp; simp only [List.mem_cons, List.not_mem_nil, or_false] at hp; rcases hp with rfl | rfl | rfl <;> assumption) (Q := fun fr => sh prog (shell_told.U0 K) (subAt [.R, .R, .L, .R, .B, .R] (cutAt 2 [.R, .R, .L, .R, .B, .R, .E, .R] (cutAt 3 [.R, .R, .L, .R, .B, .R, .E, .R, .E, .R] (bodyOf Tryz.f71)))) fr w (ctxAt prog (shell_told.U0 K) [.R, .R, .L, .R, .B, .R] (cutAt 2 [.R, .R, .L, .R, .B, .R, .E, .R] (cutAt 3 [.R, .R, .L, .R, .B, .R, .E, .R, .E, .R] (bodyOf Tryz.f71))) (retK prog Tryz.f71.results.toList (S_s.R K)))) ?_
  apply kc h; kernel_rfl
theorem shell_told.ok {s1 : ByteArray} {n2 : Int} {n3 : Int} {n4 : Int} {q5 : Bool} {a6 : Option Addr} {l7 : Nat} {c8 : Nat} {w : World} {K : ByteArray → World → Prop} (h : shell_told.F s1 n2 n3 n4 q5 a6 l7 c8 w K) : shell_told.C s1 n2 n3 n4 q5 a6 l7 c8 w K := by
  refine CallsV.mono (callsV_of_sh prog.mixed prog.noNum (args := [(.string s1), (.agg #[(.int .i64 n2), (.int .u64 n3), (.int .i64 n4), (.bool q5), (.slice a6 l7 c8)])]) Tryz.func71 (c := bodyOf Tryz.f71) (by kernel_rfl) (by kernel_rfl) (by kernel_rfl) (R := S_s.R K) ?_) fun v w1 h => S_s.out h
  refine sh_anyCut (cut := shell_told.U0 K) (by kernel_rfl) ?_
  refine sh_cutAt (p := [.R, .R, .L, .R, .B, .R, .E, .R, .E, .R]) (l := 3) ?_ (shell_told.U0_ok3 K)
  refine sh_cutAt (p := [.R, .R, .L, .R, .B, .R, .E, .R]) (l := 2) ?_ (shell_told.U0_ok2 K)
  refine sh_cutAt (p := [.R, .R, .L, .R, .B, .R]) (l := 1) ?_ (shell_told.U0_ok1 K)
  apply kc h; kernel_rfl

def shelf_made.F (q1 : Bool) (n2 : Int) (n3 : Int) (n4 : Int) (w : World) (K : Option Addr → Int → World → Prop) : Prop :=
  alP w #[(.bool q1), (.int .i64 n2), (.int .u64 n3), (.int .i64 n4)] 85 fun r5 W6 =>
  lB W6 r5 0 fun q7 =>
  cond q7
  (lI64 W6 r5 1 fun n8 =>
  lU64 W6 r5 2 fun n9 =>
  lI64 W6 r5 3 fun n10 =>
  dict_New.C n8 n9 n10 W6 fun p11 n12 W13 =>
  cond (n12 != (0 : Int))
  (K none n12 W13)
  (drP W13 fun W14 =>
  lAb_i64_u64_i64 W14 r5 0 fun q15 n16 n17 n18 =>
  look_Keep.C (.iface 107 (.pointer p11)) W14 fun p19 W20 =>
  cellsAre W20 r5 0 [(.bool q15), (.int .i64 n16), (.int .u64 n17), (.int .i64 n18)] ∧
  alP W20 #[(.bool q15), (.int .i64 n16), (.int .u64 n17), (.int .i64 n18), (.pointer p19), (.pointer p11), (.pointer none), (.int .u64 (0 : Int))] 110 fun r21 W22 =>
  cellsAre W22 r5 0 [(.bool q15), (.int .i64 n16), (.int .u64 n17), (.int .i64 n18)] ∧
  K (some ⟨r21, 0, none⟩) (0 : Int) W22))
  (lI64 W6 r5 1 fun n23 =>
  lU64 W6 r5 2 fun n24 =>
  lI64 W6 r5 3 fun n25 =>
  face_New.C n23 n24 n25 W6 fun x26 n27 W28 =>
  cond (n27 != (0 : Int))
  (K none n27 W28)
  (drP W28 fun W29 =>
  lAb_i64_u64_i64 W29 r5 0 fun q30 n31 n32 n33 =>
  look_Keep.C x26 W29 fun p34 W35 =>
  cellsAre W35 r5 0 [(.bool q30), (.int .i64 n31), (.int .u64 n32), (.int .i64 n33)] ∧
  alP W35 #[(.bool q30), (.int .i64 n31), (.int .u64 n32), (.int .i64 n33), (.pointer p34), (.pointer none), (.pointer none), (.int .u64 (0 : Int))] 110 fun r36 W37 =>
  cellsAre W37 r5 0 [(.bool q30), (.int .i64 n31), (.int .u64 n32), (.int .i64 n33)] ∧
  K (some ⟨r36, 0, none⟩) (0 : Int) W37))
theorem shelf_made.ok {q1 : Bool} {n2 : Int} {n3 : Int} {n4 : Int} {w : World} {K : Option Addr → Int → World → Prop} (h : shelf_made.F q1 n2 n3 n4 w K) : shelf_made.C q1 n2 n3 n4 w K := by
  refine CallsV.mono (callsV_of_sh prog.mixed prog.noNum (args := [(.agg #[(.bool q1), (.int .i64 n2), (.int .u64 n3), (.int .i64 n4)])]) Tryz.func83 (c := bodyOf Tryz.f83) (by kernel_rfl) (by kernel_rfl) (by kernel_rfl) (R := S_p_i64.R K) ?_) fun v w1 h => S_p_i64.out h
  apply kc h; kernel_rfl

def shelf_Shelf_Taken.F (p1 : Option Addr) (n2 : Int) (w : World) (K : Bool → World → Prop) : Prop :=
  shelf_Shelf_at.C p1 n2 w fun p3 W4 =>
  K (!(Option.isNone p3)) W4
theorem shelf_Shelf_Taken.ok {p1 : Option Addr} {n2 : Int} {w : World} {K : Bool → World → Prop} (h : shelf_Shelf_Taken.F p1 n2 w K) : shelf_Shelf_Taken.C p1 n2 w K := by
  refine CallsV.mono (callsV_of_sh prog.mixed prog.noNum (args := [(.pointer p1), (.int .i64 n2)]) Tryz.func84 (c := bodyOf Tryz.f84) (by kernel_rfl) (by kernel_rfl) (by kernel_rfl) (R := S_b.R K) ?_) fun v w1 h => S_b.out h
  apply kc h; kernel_rfl

def look_Kept_Insert.F (p1 : Option Addr) (n2 : Int) (w : World) (K : Int → World → Prop) : Prop :=
  cond (Option.isNone p1)
  (K (3 : Int) w)
  (nn p1 fun b3 o4 =>
  lR w b3 o4 fun x5 =>
  InvV prog x5 "Insert" #[(.int .u64 n2)] w fun x6 W7 =>
  ∃ (n8 : Int), x6 = (.int .i64 n8) ∧
  look_Kept_changed.C p1 n8 W7 fun n9 W10 =>
  K n9 W10)
theorem look_Kept_Insert.ok {p1 : Option Addr} {n2 : Int} {w : World} {K : Int → World → Prop} (h : look_Kept_Insert.F p1 n2 w K) : look_Kept_Insert.C p1 n2 w K := by
  refine CallsV.mono (callsV_of_sh prog.mixed prog.noNum (args := [(.pointer p1), (.int .u64 n2)]) Tryz.func85 (c := bodyOf Tryz.f85) (by kernel_rfl) (by kernel_rfl) (by kernel_rfl) (R := S_i64.R K) ?_) fun v w1 h => S_i64.out h
  apply kc h; kernel_rfl

def shelf_found.F (n1 : Int) (q2 : Bool) (w : World) (K : Int → Int → World → Prop) : Prop :=
  cond (!q2)
  (K (0 : Int) (3 : Int) w)
  (K n1 (0 : Int) w)
theorem shelf_found.ok {n1 : Int} {q2 : Bool} {w : World} {K : Int → Int → World → Prop} (h : shelf_found.F n1 q2 w K) : shelf_found.C n1 q2 w K := by
  refine CallsV.mono (callsV_of_sh prog.mixed prog.noNum (args := [(.int .u64 n1), (.bool q2)]) Tryz.func99 (c := bodyOf Tryz.f99) (by kernel_rfl) (by kernel_rfl) (by kernel_rfl) (R := S_u64_i64.R K) ?_) fun v w1 h => S_u64_i64.out h
  apply kc h; kernel_rfl

def shelf_Shelf_two.F (p1 : Option Addr) (n2 : Int) (n3 : Int) (w : World) (K : Value → Value → Int → World → Prop) : Prop :=
  shelf_Shelf_Taken.C p1 n2 w fun q4 W5 =>
  cond (!q4)
  (K .nilIface .nilIface (6 : Int) W5)
  (shelf_Shelf_Taken.C p1 n3 W5 fun q6 W7 =>
  cond (!q6)
  (K .nilIface .nilIface (6 : Int) W7)
  (shelf_Shelf_at.C p1 n2 W7 fun p8 W9 =>
  shelf_item_keys.C p8 W9 fun x10 W11 =>
  shelf_Shelf_at.C p1 n3 W11 fun p12 W13 =>
  shelf_item_keys.C p12 W13 fun x14 W15 =>
  K x10 x14 (0 : Int) W15))
theorem shelf_Shelf_two.ok {p1 : Option Addr} {n2 : Int} {n3 : Int} {w : World} {K : Value → Value → Int → World → Prop} (h : shelf_Shelf_two.F p1 n2 n3 w K) : shelf_Shelf_two.C p1 n2 n3 w K := by
  refine CallsV.mono (callsV_of_sh prog.mixed prog.noNum (args := [(.pointer p1), (.int .i64 n2), (.int .i64 n3)]) Tryz.func103 (c := bodyOf Tryz.f103) (by kernel_rfl) (by kernel_rfl) (by kernel_rfl) (R := S_r_r_i64.R K) ?_) fun v w1 h => S_r_r_i64.out h
  apply kc h; kernel_rfl

def shelf_Shelf_cursor.F (p1 : Option Addr) (n2 : Int) (w : World) (K : Option Addr → Int → World → Prop) : Prop :=
  shelf_Shelf_at.C p1 n2 w fun p3 W4 =>
  cond (Option.isNone p3)
  (K none (6 : Int) W4)
  (nn p3 fun b5 o6 =>
  lP W4 b5 (o6 + 6) fun p7 =>
  cond (Option.isNone p7)
  (K none (3 : Int) W4)
  (nn p3 fun b8 o9 =>
  lP W4 b8 (o9 + 6) fun p10 =>
  K p10 (0 : Int) W4))
theorem shelf_Shelf_cursor.ok {p1 : Option Addr} {n2 : Int} {w : World} {K : Option Addr → Int → World → Prop} (h : shelf_Shelf_cursor.F p1 n2 w K) : shelf_Shelf_cursor.C p1 n2 w K := by
  refine CallsV.mono (callsV_of_sh prog.mixed prog.noNum (args := [(.pointer p1), (.int .i64 n2)]) Tryz.func107 (c := bodyOf Tryz.f107) (by kernel_rfl) (by kernel_rfl) (by kernel_rfl) (R := S_p_i64.R K) ?_) fun v w1 h => S_p_i64.out h
  apply kc h; kernel_rfl

def shell_words_num.T1 (K : Int → World → Prop) (p2 : Option Addr) (W16 : World) : Prop :=
  shell_words_key.C p2 W16 fun n17 W18 =>
  nn p2 fun b19 o20 =>
  lB W18 b19 (o20 + 1) fun q21 =>
  cond q21
  (K (0 : Int) W18)
  (K (w64 n17) W18)
def shell_words_num.F (p1 : Option Addr) (w : World) (K : Int → World → Prop) : Prop :=
  nn p1 fun b22 o23 =>
  lL w b22 o23 fun a24 l25 c26 =>
  cond (decide (((l25 : Nat) : Int) > (0 : Int)))
  (nn p1 fun b27 o28 =>
  lL w b27 o28 fun a29 l30 c31 =>
  nn a29 fun b32 o33 =>
  0 ≤ (0 : Int) ∧ (0 : Int) < ((l30 : Nat) : Int) ∧
  lS w b32 (o33 + Int.toNat (0 : Int) * 1) fun s34 =>
  cond (decide (((s34.size : Nat) : Int) > (9 : Int)))
  (nn p1 fun b35 o36 =>
  stP w b35 (o36 + 1) (.bool true) fun W37 =>
  shell_words_num.T1 K p1 W37)
  (shell_words_num.T1 K p1 w))
  (shell_words_num.T1 K p1 w)
def shell_words_num.U0 (K : Int → World → Prop) (l : Nat) (fr : Fr) (w : World) : Prop :=
  match l with
 | 1 =>
  gP False (fr 0) fun p2 =>
  shell_words_num.T1 K p2 w
 | _ => False
theorem shell_words_num.U0_ok1 (K : Int → World → Prop) (fr : Fr) (w : World) (h : shell_words_num.U0 K 1 fr w) : sh prog (shell_words_num.U0 K) (subAt [.R, .R] (bodyOf Tryz.f120)) fr w (ctxAt prog (shell_words_num.U0 K) [.R, .R] (bodyOf Tryz.f120) (retK prog Tryz.f120.results.toList (S_i64.R K))) := by
  unfold shell_words_num.U0 at h
  simp only at h
  replace h := gP.outF h; obtain ⟨p2, e38, h⟩ := h
  refine at_frame [(0, (.pointer p2))] (by intro p hp; simp only [List.mem_cons, List.not_mem_nil, or_false] at hp; subst hp; exact e38) (Q := fun fr => sh prog (shell_words_num.U0 K) (subAt [.R, .R] (bodyOf Tryz.f120)) fr w (ctxAt prog (shell_words_num.U0 K) [.R, .R] (bodyOf Tryz.f120) (retK prog Tryz.f120.results.toList (S_i64.R K)))) ?_
  apply kc h; kernel_rfl
theorem shell_words_num.ok {p1 : Option Addr} {w : World} {K : Int → World → Prop} (h : shell_words_num.F p1 w K) : shell_words_num.C p1 w K := by
  refine CallsV.mono (callsV_of_sh prog.mixed prog.noNum (args := [(.pointer p1)]) Tryz.func120 (c := bodyOf Tryz.f120) (by kernel_rfl) (by kernel_rfl) (by kernel_rfl) (R := S_i64.R K) ?_) fun v w1 h => S_i64.out h
  refine sh_anyCut (cut := shell_words_num.U0 K) (by kernel_rfl) ?_
  refine sh_cutAt (p := [.R, .R]) (l := 1) ?_ (shell_words_num.U0_ok1 K)
  apply kc h; kernel_rfl

def shell_words_one.F (p1 : Option Addr) (s2 : ByteArray) (s3 : ByteArray) (w : World) (K : Bool → World → Prop) : Prop :=
  shell_words_next.C p1 w fun s4 W5 =>
  nn p1 fun b6 o7 =>
  lB W5 b6 (o7 + 1) fun q8 =>
  cond q8
  (nn p1 fun b9 o10 =>
  stP W5 b9 (o10 + 1) (.bool true) fun W11 =>
  K (s4.toList == s2.toList) W11)
  (cond (!(s4.toList == s2.toList))
  (nn p1 fun b12 o13 =>
  stP W5 b12 (o13 + 1) (.bool (!(s4.toList == s3.toList))) fun W14 =>
  K (s4.toList == s2.toList) W14)
  (nn p1 fun b15 o16 =>
  stP W5 b15 (o16 + 1) (.bool false) fun W17 =>
  K (s4.toList == s2.toList) W17))
theorem shell_words_one.ok {p1 : Option Addr} {s2 : ByteArray} {s3 : ByteArray} {w : World} {K : Bool → World → Prop} (h : shell_words_one.F p1 s2 s3 w K) : shell_words_one.C p1 s2 s3 w K := by
  refine CallsV.mono (callsV_of_sh prog.mixed prog.noNum (args := [(.pointer p1), (.string s2), (.string s3)]) Tryz.func121 (c := bodyOf Tryz.f121) (by kernel_rfl) (by kernel_rfl) (by kernel_rfl) (R := S_b.R K) ?_) fun v w1 h => S_b.out h
  apply kc h; kernel_rfl

def shell_words_tag.B1 (K : Int → World → Prop) (p4 : Option Addr) (s8 : ByteArray) : Int → World → ((Int) → World → Prop) → Prop := fun s0 W11 next10 => match s0 with
 | n9 =>
  cond (decide (n9 ≤ (5 : Int)))
  (face_Name.C n9 W11 fun s12 W13 =>
  cond (s12.toList == s8.toList)
  (K n9 W13)
  (next10 (w64 (n9 + (1 : Int))) W13))
  (nn p4 fun b14 o15 =>
  stP W11 b14 (o15 + 1) (.bool true) fun W16 =>
  K (0 : Int) W16)
def shell_words_tag.T1 (K : Int → World → Prop) (p4 : Option Addr) (s8 : ByteArray) (n9 : Int) (w : World) : Prop := LoopT (shell_words_tag.B1 K p4 s8) n9 w
def shell_words_tag.F (p1 : Option Addr) (w : World) (K : Int → World → Prop) : Prop :=
  shell_words_next.C p1 w fun s2 W3 =>
  shell_words_tag.T1 K p1 s2 (1 : Int) W3
def shell_words_tag.U0 (K : Int → World → Prop) (l : Nat) (fr : Fr) (w : World) : Prop :=
  match l with
 | 1 =>
  gP False (fr 0) fun p4 =>
  gS False (fr 3) fun s8 =>
  gI64 False (fr 4) fun n9 =>
  shell_words_tag.T1 K p4 s8 n9 w
 | _ => False
def shell_words_tag.ext1 (fr : Fr) : Option (Int) :=
  gI64 none (fr 4) fun n9 =>
  some n9
theorem shell_words_tag.U0_ok1 (K : Int → World → Prop) (fr : Fr) (w : World) (h : shell_words_tag.U0 K 1 fr w) : sh prog (shell_words_tag.U0 K) (subAt [.R, .R, .L, .R, .B] (bodyOf Tryz.f122)) fr w (ctxAt prog (shell_words_tag.U0 K) [.R, .R, .L, .R, .B] (bodyOf Tryz.f122) (retK prog Tryz.f122.results.toList (S_i64.R K))) := by
  unfold shell_words_tag.U0 at h
  simp only at h
  replace h := gP.outF h; obtain ⟨p4, e17, h⟩ := h
  replace h := gS.outF h; obtain ⟨s8, e18, h⟩ := h
  replace h := gI64.outF h; obtain ⟨n9, e19, h⟩ := h
  refine kc (A := LoopP (sh prog (shell_words_tag.U0 K) (loopBody (subAt [.R, .R, .L, .R, .B] (bodyOf Tryz.f122)))) fr w (ctxAt prog (shell_words_tag.U0 K) [.R, .R, .L, .R, .B] (bodyOf Tryz.f122) (retK prog Tryz.f122.results.toList (S_i64.R K)))) ?_ (by kernel_rfl)
  refine loop_typed (B := shell_words_tag.B1 K p4 s8) shell_words_tag.ext1 (s := n9) (by unfold shell_words_tag.ext1; simp only [e19]; rfl) h ?_
  clear h
  clear e19
  intro s0 fr1 w1 next10 hs hk h
  unfold shell_words_tag.ext1 at hs
  replace hs := noN (gI64.out (d := none) (x := _) hs); obtain ⟨n9a, e20, hs⟩ := hs
  replace hs := Option.some.inj hs; subst hs
  have e21 : fr1 0 = (.pointer p4) := (hk 0 (by kernel_rfl)).trans e17
  have e22 : fr1 3 = (.string s8) := (hk 3 (by kernel_rfl)).trans e18
  refine at_frame [(4, (.int .i64 n9a)), (0, (.pointer p4)), (3, (.string s8))] (by intro p hp; simp only [List.mem_cons, List.not_mem_nil, or_false] at hp; rcases hp with rfl | rfl | rfl <;> assumption) (Q := fun fr => sh prog (shell_words_tag.U0 K) (loopBody (subAt [.R, .R, .L, .R, .B] (bodyOf Tryz.f122))) fr w1 (nextK shell_words_tag.ext1 next10 (ctxAt prog (shell_words_tag.U0 K) [.R, .R, .L, .R, .B] (bodyOf Tryz.f122) (retK prog Tryz.f122.results.toList (S_i64.R K))))) ?_
  apply kc h; kernel_rfl
theorem shell_words_tag.ok {p1 : Option Addr} {w : World} {K : Int → World → Prop} (h : shell_words_tag.F p1 w K) : shell_words_tag.C p1 w K := by
  refine CallsV.mono (callsV_of_sh prog.mixed prog.noNum (args := [(.pointer p1)]) Tryz.func122 (c := bodyOf Tryz.f122) (by kernel_rfl) (by kernel_rfl) (by kernel_rfl) (R := S_i64.R K) ?_) fun v w1 h => S_i64.out h
  refine sh_anyCut (cut := shell_words_tag.U0 K) (by kernel_rfl) ?_
  refine sh_cutAt (p := [.R, .R, .L, .R, .B]) (l := 1) ?_ (shell_words_tag.U0_ok1 K)
  apply kc h; kernel_rfl

def shell_words_key.F (p1 : Option Addr) (w : World) (K : Int → World → Prop) : Prop :=
  shell_words_next.C p1 w fun s2 W3 =>
  strconv_ParseUint.C s2 (10 : Int) (64 : Int) W3 fun n4 x5 W6 =>
  nn p1 fun b7 o8 =>
  lB W6 b7 (o8 + 1) fun q9 =>
  cond q9
  (nn p1 fun b10 o11 =>
  stP W6 b10 (o11 + 1) (.bool true) fun W12 =>
  K n4 W12)
  (nilIf x5 fun q13 =>
  cond (!q13)
  (nn p1 fun b14 o15 =>
  stP W6 b14 (o15 + 1) (.bool true) fun W16 =>
  K n4 W16)
  (strconv_FormatUint.C n4 (10 : Int) W6 fun s17 W18 =>
  nn p1 fun b19 o20 =>
  stP W18 b19 (o20 + 1) (.bool (!(s17.toList == s2.toList))) fun W21 =>
  K n4 W21))
theorem shell_words_key.ok {p1 : Option Addr} {w : World} {K : Int → World → Prop} (h : shell_words_key.F p1 w K) : shell_words_key.C p1 w K := by
  refine CallsV.mono (callsV_of_sh prog.mixed prog.noNum (args := [(.pointer p1)]) Tryz.func123 (c := bodyOf Tryz.f123) (by kernel_rfl) (by kernel_rfl) (by kernel_rfl) (R := S_u64.R K) ?_) fun v w1 h => S_u64.out h
  apply kc h; kernel_rfl

-- NOT PRINTED 124 shell_words_hex: a cut needs ['k63']
def shell_words_end.F (p1 : Option Addr) (w : World) (K : Bool → World → Prop) : Prop :=
  nn p1 fun b2 o3 =>
  lB w b2 (o3 + 1) fun q4 =>
  cond (!q4)
  (nn p1 fun b5 o6 =>
  lL w b5 o6 fun a7 l8 c9 =>
  K (((l8 : Nat) : Int) == (0 : Int)) w)
  (K false w)
theorem shell_words_end.ok {p1 : Option Addr} {w : World} {K : Bool → World → Prop} (h : shell_words_end.F p1 w K) : shell_words_end.C p1 w K := by
  refine CallsV.mono (callsV_of_sh prog.mixed prog.noNum (args := [(.pointer p1)]) Tryz.func125 (c := bodyOf Tryz.f125) (by kernel_rfl) (by kernel_rfl) (by kernel_rfl) (R := S_b.R K) ?_) fun v w1 h => S_b.out h
  apply kc h; kernel_rfl

def look_Keep.F (x1 : Value) (w : World) (K : Option Addr → World → Prop) : Prop :=
  nilIf x1 fun q2 =>
  cond q2
  (K none w)
  (stOne x1 (
  alP w #[x1, (.int .u64 (0 : Int))] 158 fun r3 W4 =>
  K (some ⟨r3, 0, none⟩) W4))
theorem look_Keep.ok {x1 : Value} {w : World} {K : Option Addr → World → Prop} (h : look_Keep.F x1 w K) : look_Keep.C x1 w K := by
  refine CallsV.mono (callsV_of_sh prog.mixed prog.noNum (args := [x1]) Tryz.func138 (c := bodyOf Tryz.f138) (by kernel_rfl) (by kernel_rfl) (by kernel_rfl) (R := S_p.R K) ?_) fun v w1 h => S_p.out h
  apply kc h; kernel_rfl

def look_Kept_changed.F (p1 : Option Addr) (n2 : Int) (w : World) (K : Int → World → Prop) : Prop :=
  cond (n2 == (0 : Int))
  (nn p1 fun b3 o4 =>
  lU64 w b3 (o4 + 1) fun n5 =>
  nn p1 fun b6 o7 =>
  stP w b6 (o7 + 1) (.int .u64 (wu64 (n5 + (1 : Int)))) fun W8 =>
  K n2 W8)
  (K n2 w)
theorem look_Kept_changed.ok {p1 : Option Addr} {n2 : Int} {w : World} {K : Int → World → Prop} (h : look_Kept_changed.F p1 n2 w K) : look_Kept_changed.C p1 n2 w K := by
  refine CallsV.mono (callsV_of_sh prog.mixed prog.noNum (args := [(.pointer p1), (.int .i64 n2)]) Tryz.func140 (c := bodyOf Tryz.f140) (by kernel_rfl) (by kernel_rfl) (by kernel_rfl) (R := S_i64.R K) ?_) fun v w1 h => S_i64.out h
  apply kc h; kernel_rfl

def shell_words_next.F (p1 : Option Addr) (w : World) (K : ByteArray → World → Prop) : Prop :=
  nn p1 fun b2 o3 =>
  lL w b2 o3 fun a4 l5 c6 =>
  cond (((l5 : Nat) : Int) == (0 : Int))
  (nn p1 fun b7 o8 =>
  stP w b7 (o8 + 1) (.bool true) fun W9 =>
  K (⟨#[]⟩ : ByteArray) W9)
  (nn p1 fun b10 o11 =>
  lL w b10 o11 fun a12 l13 c14 =>
  nn a12 fun b15 o16 =>
  0 ≤ (0 : Int) ∧ (0 : Int) < ((l13 : Nat) : Int) ∧
  lS w b15 (o16 + Int.toNat (0 : Int) * 1) fun s17 =>
  nn p1 fun b18 o19 =>
  lL w b18 o19 fun a20 l21 c22 =>
  0 ≤ (1 : Int) ∧ (1 : Int) ≤ ((l21 : Nat) : Int) ∧
  nn p1 fun b23 o24 =>
  stP w b23 o24 (.slice (slA a20 c22 (Int.toNat (1 : Int)) 1) (l21 - (Int.toNat (1 : Int))) (c22 - (Int.toNat (1 : Int)))) fun W25 =>
  K s17 W25)
theorem shell_words_next.ok {p1 : Option Addr} {w : World} {K : ByteArray → World → Prop} (h : shell_words_next.F p1 w K) : shell_words_next.C p1 w K := by
  refine CallsV.mono (callsV_of_sh prog.mixed prog.noNum (args := [(.pointer p1)]) Tryz.func163 (c := bodyOf Tryz.f163) (by kernel_rfl) (by kernel_rfl) (by kernel_rfl) (R := S_s.R K) ?_) fun v w1 h => S_s.out h
  apply kc h; kernel_rfl

def stepstoneref01_Text.F (s1 : ByteArray) (n2 : Int) (w : World) (K : ByteArray → World → Prop) : Prop :=
  0 ≤ (mnI ((s1.size : Nat) : Int) n2) ∧ (mnI ((s1.size : Nat) : Int) n2) ≤ ((s1.size : Nat) : Int) ∧
  K (s1.extract 0 (Int.toNat (mnI ((s1.size : Nat) : Int) n2))) w
theorem stepstoneref01_Text.ok {s1 : ByteArray} {n2 : Int} {w : World} {K : ByteArray → World → Prop} (h : stepstoneref01_Text.F s1 n2 w K) : stepstoneref01_Text.C s1 n2 w K := by
  refine CallsV.mono (callsV_of_sh prog.mixed prog.noNum (args := [(.string s1), (.int .i64 n2)]) Tryz.func16 (c := bodyOf Tryz.f16) (by kernel_rfl) (by kernel_rfl) (by kernel_rfl) (R := S_s.R K) ?_) fun v w1 h => S_s.out h
  apply kc h; kernel_rfl

def stepstoneref01_Dec.F (n1 : Int) (w : World) (K : ByteArray → World → Prop) : Prop :=
  cond (decide (n1 < (10 : Int)))
  (0 ≤ (wu64 (n1 + (1 : Int))) ∧ (wu64 (n1 + (1 : Int))) ≤ (((⟨#[48, 49, 50, 51, 52, 53, 54, 55, 56, 57]⟩ : ByteArray).size : Nat) : Int) ∧
  0 ≤ n1 ∧ n1 ≤ (((Int.toNat (wu64 (n1 + (1 : Int)))) : Nat) : Int) ∧
  K ((⟨#[48, 49, 50, 51, 52, 53, 54, 55, 56, 57]⟩ : ByteArray).extract (Int.toNat n1) (Int.toNat (wu64 (n1 + (1 : Int))))) w)
  (stepstoneref01_Dec.C (wu64 (Int.tdiv n1 (10 : Int))) w fun s2 W3 =>
  stepstoneref01_Dec.C (Int.tmod n1 (10 : Int)) W3 fun s4 W5 =>
  (((s2.size + s4.size : Nat) : Int) ≤ IntKind.i64.max) ∧
  K (s2 ++ s4) W5)
theorem stepstoneref01_Dec.ok {n1 : Int} {w : World} {K : ByteArray → World → Prop} (h : stepstoneref01_Dec.F n1 w K) : stepstoneref01_Dec.C n1 w K := by
  refine CallsV.mono (callsV_of_sh prog.mixed prog.noNum (args := [(.int .u64 n1)]) Tryz.func18 (c := bodyOf Tryz.f18) (by kernel_rfl) (by kernel_rfl) (by kernel_rfl) (R := S_s.R K) ?_) fun v w1 h => S_s.out h
  apply kc h; kernel_rfl

def stepstoneref27_Names.F (w : World) (K : Option Addr → Nat → Nat → World → Prop) : Prop :=
  alP w #[(.string (⟨#[111, 112, 101, 110]⟩ : ByteArray)), (.string (⟨#[99, 108, 111, 115, 101]⟩ : ByteArray)), (.string (⟨#[105, 110, 115, 101, 114, 116]⟩ : ByteArray)), (.string (⟨#[112, 117, 116]⟩ : ByteArray)), (.string (⟨#[100, 101, 108, 101, 116, 101]⟩ : ByteArray)), (.string (⟨#[103, 101, 116]⟩ : ByteArray)), (.string (⟨#[104, 97, 115]⟩ : ByteArray)), (.string (⟨#[110, 101, 120, 116]⟩ : ByteArray)), (.string (⟨#[112, 114, 101, 118]⟩ : ByteArray)), (.string (⟨#[108, 101, 110]⟩ : ByteArray)), (.string (⟨#[114, 97, 110, 107]⟩ : ByteArray)), (.string (⟨#[115, 101, 108, 101, 99, 116]⟩ : ByteArray)), (.string (⟨#[99, 111, 117, 110, 116]⟩ : ByteArray)), (.string (⟨#[119, 105, 112, 101]⟩ : ByteArray)), (.string (⟨#[99, 108, 101, 97, 114]⟩ : ByteArray)), (.string (⟨#[106, 111, 105, 110]⟩ : ByteArray)), (.string (⟨#[101, 113, 117, 97, 108]⟩ : ByteArray)), (.string (⟨#[119, 105, 116, 104, 105, 110]⟩ : ByteArray)), (.string (⟨#[101, 110, 99, 111, 100, 101]⟩ : ByteArray)), (.string (⟨#[100, 101, 99, 111, 100, 101]⟩ : ByteArray)), (.string (⟨#[99, 117, 114, 115, 111, 114]⟩ : ByteArray)), (.string (⟨#[115, 116, 101, 112]⟩ : ByteArray)), (.string (⟨#[115, 101, 101, 107]⟩ : ByteArray)), (.string (⟨#[118, 101, 114, 115, 105, 111, 110]⟩ : ByteArray)), (.string (⟨#[97, 108, 108]⟩ : ByteArray))] 9 fun r1 W2 =>
  K (some ⟨r1, 0, none⟩) 25 25 W2
theorem stepstoneref27_Names.ok {w : World} {K : Option Addr → Nat → Nat → World → Prop} (h : stepstoneref27_Names.F  w K) : stepstoneref27_Names.C  w K := by
  refine CallsV.mono (callsV_of_sh prog.mixed prog.noNum (args := []) Tryz.func19 (c := bodyOf Tryz.f19) (by kernel_rfl) (by kernel_rfl) (by kernel_rfl) (R := S_l.R K) ?_) fun v w1 h => S_l.out h
  apply kc h; kernel_rfl

def stepstoneref25_Few.F (n1 : Int) (n2 : Int) (n3 : Int) (a4 : Option Addr) (l5 : Nat) (c6 : Nat) (n7 : Int) (n8 : Int) (a9 : Option Addr) (l10 : Nat) (c11 : Nat) (q12 : Bool) (n13 : Int) (n14 : Int) (n15 : Int) (q16 : Bool) (w : World) (K : Int → Int → Int → Option Addr → Nat → Nat → Int → Int → Option Addr → Nat → Nat → Bool → Int → Int → Int → Bool → World → Prop) : Prop :=
  alP w #[(.int .u8 n1), (.int .i64 n2), (.int .i64 n3), (.slice a4 l5 c6), (.int .u64 n7), (.int .u64 n8), (.slice a9 l10 c11), (.bool q12), (.int .i64 n13), (.int .u64 n14), (.int .i64 n15), (.bool q16)] 26 fun r17 W18 =>
  alP W18 #[(.int .u8 (0 : Int)), (.int .i64 (0 : Int)), (.int .i64 (0 : Int)), (.slice none 0 0), (.int .u64 (0 : Int)), (.int .u64 (0 : Int)), (.slice none 0 0), (.bool false), (.int .i64 (0 : Int)), (.int .u64 (0 : Int)), (.int .i64 (0 : Int)), (.bool false)] 26 fun r19 W20 =>
  lL W20 r17 3 fun a21 l22 c23 =>
  stepstoneref01_Ints.C a21 l22 c23 (5 : Int) W20 fun a24 l25 c26 W27 =>
  stP W27 r17 3 (.slice a24 l25 c26) fun W28 =>
  lL W28 r17 6 fun a29 l30 c31 =>
  stepstoneref01_Bytes.C a29 l30 c31 (200 : Int) W28 fun a32 l33 c34 W35 =>
  stP W35 r17 6 (.slice a32 l33 c34) fun W36 =>
  lAu8_i64_i64_l_u64_u64_l_b_i64_u64_i64_b W36 r17 0 fun n37 n38 n39 a40 l41 c42 n43 n44 a45 l46 c47 q48 n49 n50 n51 q52 =>
  stCs r19 0 [(.int .u8 n37), (.int .i64 n38), (.int .i64 n39), (.slice a40 l41 c42), (.int .u64 n43), (.int .u64 n44), (.slice a45 l46 c47), (.bool q48), (.int .i64 n49), (.int .u64 n50), (.int .i64 n51), (.bool q52)] W36 fun W53 =>
  lAu8_i64_i64_l_u64_u64_l_b_i64_u64_i64_b W53 r19 0 fun n54 n55 n56 a57 l58 c59 n60 n61 a62 l63 c64 q65 n66 n67 n68 q69 =>
  K n54 n55 n56 a57 l58 c59 n60 n61 a62 l63 c64 q65 n66 n67 n68 q69 W53
theorem stepstoneref25_Few.ok {n1 : Int} {n2 : Int} {n3 : Int} {a4 : Option Addr} {l5 : Nat} {c6 : Nat} {n7 : Int} {n8 : Int} {a9 : Option Addr} {l10 : Nat} {c11 : Nat} {q12 : Bool} {n13 : Int} {n14 : Int} {n15 : Int} {q16 : Bool} {w : World} {K : Int → Int → Int → Option Addr → Nat → Nat → Int → Int → Option Addr → Nat → Nat → Bool → Int → Int → Int → Bool → World → Prop} (h : stepstoneref25_Few.F n1 n2 n3 a4 l5 c6 n7 n8 a9 l10 c11 q12 n13 n14 n15 q16 w K) : stepstoneref25_Few.C n1 n2 n3 a4 l5 c6 n7 n8 a9 l10 c11 q12 n13 n14 n15 q16 w K := by
  refine CallsV.mono (callsV_of_sh prog.mixed prog.noNum (args := [(.agg #[(.int .u8 n1), (.int .i64 n2), (.int .i64 n3), (.slice a4 l5 c6), (.int .u64 n7), (.int .u64 n8), (.slice a9 l10 c11), (.bool q12), (.int .i64 n13), (.int .u64 n14), (.int .i64 n15), (.bool q16)])]) Tryz.func27 (c := bodyOf Tryz.f27) (by kernel_rfl) (by kernel_rfl) (by kernel_rfl) (R := S_au8_i64_i64_l_u64_u64_l_b_i64_u64_i64_bz.R K) ?_) fun v w1 h => S_au8_i64_i64_l_u64_u64_l_b_i64_u64_i64_bz.out h
  apply kc h; kernel_rfl

def stepstoneref01_Ints.B1 (K : Option Addr → Nat → Nat → World → Prop) (n8 : Int) (a15 : Option Addr) (l16 : Nat) (c17 : Nat) (n18 : Int) : (Option Addr × Nat × Nat × Int) → World → ((Option Addr × Nat × Nat × Int) → World → Prop) → Prop := fun s0 W21 next20 => match s0 with
 | (a12, l13, c14, n19) =>
  cond (decide (n19 < n18))
  (nn a15 fun b22 o23 =>
  0 ≤ n19 ∧ n19 < ((l16 : Nat) : Int) ∧
  lI64 W21 b22 (o23 + Int.toNat n19 * 1) fun n24 =>
  cond (decide (n19 < n8))
  (alP W21 #[(.int .i64 n24)] 3 fun r25 W26 =>
  AppV prog #[22, 22] 22 (.slice a12 l13 c14) (.slice (some ⟨r25, 0, none⟩) 1 1) W26 fun x27 W28 =>
  ∃ (a29 : Option Addr), ∃ (l30 : Nat), ∃ (c31 : Nat), x27 = (.slice a29 l30 c31) ∧
  next20 (a29, l30, c31, (w64 (n19 + (1 : Int)))) W28)
  (next20 (a12, l13, c14, (w64 (n19 + (1 : Int)))) W21))
  (K a12 l13 c14 W21)
def stepstoneref01_Ints.T1 (K : Option Addr → Nat → Nat → World → Prop) (n8 : Int) (a12 : Option Addr) (l13 : Nat) (c14 : Nat) (a15 : Option Addr) (l16 : Nat) (c17 : Nat) (n18 : Int) (n19 : Int) (w : World) : Prop := LoopT (stepstoneref01_Ints.B1 K n8 a15 l16 c17 n18) (a12, l13, c14, n19) w
def stepstoneref01_Ints.F (a1 : Option Addr) (l2 : Nat) (c3 : Nat) (n4 : Int) (w : World) (K : Option Addr → Nat → Nat → World → Prop) : Prop :=
  stepstoneref01_Ints.T1 K n4 none 0 0 a1 l2 c3 ((l2 : Nat) : Int) (0 : Int) w
def stepstoneref01_Ints.U0 (K : Option Addr → Nat → Nat → World → Prop) (l : Nat) (fr : Fr) (w : World) : Prop :=
  match l with
 | 1 =>
  gI64 False (fr 1) fun n8 =>
  gL False (fr 5) fun a12 l13 c14 =>
  gL False (fr 8) fun a15 l16 c17 =>
  gI64 False (fr 9) fun n18 =>
  gI64 False (fr 10) fun n19 =>
  stepstoneref01_Ints.T1 K n8 a12 l13 c14 a15 l16 c17 n18 n19 w
 | _ => False
def stepstoneref01_Ints.ext1 (fr : Fr) : Option (Option Addr × Nat × Nat × Int) :=
  gL none (fr 5) fun a12 l13 c14 =>
  gI64 none (fr 10) fun n19 =>
  some (a12, l13, c14, n19)
theorem stepstoneref01_Ints.U0_ok1 (K : Option Addr → Nat → Nat → World → Prop) (fr : Fr) (w : World) (h : stepstoneref01_Ints.U0 K 1 fr w) : sh prog (stepstoneref01_Ints.U0 K) (subAt [.R, .R, .L, .R, .B] (bodyOf Tryz.f58)) fr w (ctxAt prog (stepstoneref01_Ints.U0 K) [.R, .R, .L, .R, .B] (bodyOf Tryz.f58) (retK prog Tryz.f58.results.toList (S_l.R K))) := by
  unfold stepstoneref01_Ints.U0 at h
  simp only at h
  replace h := gI64.outF h; obtain ⟨n8, e32, h⟩ := h
  replace h := gL.outF h; obtain ⟨a12, l13, c14, e33, h⟩ := h
  replace h := gL.outF h; obtain ⟨a15, l16, c17, e34, h⟩ := h
  replace h := gI64.outF h; obtain ⟨n18, e35, h⟩ := h
  replace h := gI64.outF h; obtain ⟨n19, e36, h⟩ := h
  refine kc (A := LoopP (sh prog (stepstoneref01_Ints.U0 K) (loopBody (subAt [.R, .R, .L, .R, .B] (bodyOf Tryz.f58)))) fr w (ctxAt prog (stepstoneref01_Ints.U0 K) [.R, .R, .L, .R, .B] (bodyOf Tryz.f58) (retK prog Tryz.f58.results.toList (S_l.R K)))) ?_ (by kernel_rfl)
  refine loop_typed (B := stepstoneref01_Ints.B1 K n8 a15 l16 c17 n18) stepstoneref01_Ints.ext1 (s := (a12, l13, c14, n19)) (by unfold stepstoneref01_Ints.ext1; simp only [e33, e36]; rfl) h ?_
  clear h
  clear e33
  clear e36
  intro s0 fr1 w1 next20 hs hk h
  unfold stepstoneref01_Ints.ext1 at hs
  replace hs := noN (gL.out (d := none) (x := _) hs); obtain ⟨a12a, l13a, c14a, e37, hs⟩ := hs
  replace hs := noN (gI64.out (d := none) (x := _) hs); obtain ⟨n19a, e38, hs⟩ := hs
  replace hs := Option.some.inj hs; subst hs
  have e39 : fr1 1 = (.int .i64 n8) := (hk 1 (by kernel_rfl)).trans e32
  have e40 : fr1 8 = (.slice a15 l16 c17) := (hk 8 (by kernel_rfl)).trans e34
  have e41 : fr1 9 = (.int .i64 n18) := (hk 9 (by kernel_rfl)).trans e35
  refine at_frame [(5, (.slice a12a l13a c14a)), (10, (.int .i64 n19a)), (1, (.int .i64 n8)), (8, (.slice a15 l16 c17)), (9, (.int .i64 n18))] (by intro p hp; simp only [List.mem_cons, List.not_mem_nil, or_false] at hp; rcases hp with rfl | rfl | rfl | rfl | rfl <;> assumption) (Q := fun fr => sh prog (stepstoneref01_Ints.U0 K) (loopBody (subAt [.R, .R, .L, .R, .B] (bodyOf Tryz.f58))) fr w1 (nextK stepstoneref01_Ints.ext1 next20 (ctxAt prog (stepstoneref01_Ints.U0 K) [.R, .R, .L, .R, .B] (bodyOf Tryz.f58) (retK prog Tryz.f58.results.toList (S_l.R K))))) ?_
  apply kc h; kernel_rfl
theorem stepstoneref01_Ints.ok {a1 : Option Addr} {l2 : Nat} {c3 : Nat} {n4 : Int} {w : World} {K : Option Addr → Nat → Nat → World → Prop} (h : stepstoneref01_Ints.F a1 l2 c3 n4 w K) : stepstoneref01_Ints.C a1 l2 c3 n4 w K := by
  refine CallsV.mono (callsV_of_sh prog.mixed prog.noNum (args := [(.slice a1 l2 c3), (.int .i64 n4)]) Tryz.func58 (c := bodyOf Tryz.f58) (by kernel_rfl) (by kernel_rfl) (by kernel_rfl) (R := S_l.R K) ?_) fun v w1 h => S_l.out h
  refine sh_anyCut (cut := stepstoneref01_Ints.U0 K) (by kernel_rfl) ?_
  refine sh_cutAt (p := [.R, .R, .L, .R, .B]) (l := 1) ?_ (stepstoneref01_Ints.U0_ok1 K)
  apply kc h; kernel_rfl

def stepstoneref01_Bytes.B1 (K : Option Addr → Nat → Nat → World → Prop) (n8 : Int) (a15 : Option Addr) (l16 : Nat) (c17 : Nat) (n18 : Int) : (Option Addr × Nat × Nat × Int) → World → ((Option Addr × Nat × Nat × Int) → World → Prop) → Prop := fun s0 W21 next20 => match s0 with
 | (a12, l13, c14, n19) =>
  cond (decide (n19 < n18))
  (nn a15 fun b22 o23 =>
  0 ≤ n19 ∧ n19 < ((l16 : Nat) : Int) ∧
  lU8 W21 b22 (o23 + Int.toNat n19 * 1) fun n24 =>
  cond (decide (n19 < n8))
  (alP W21 #[(.int .u8 n24)] 5 fun r25 W26 =>
  AppV prog #[24, 24] 24 (.slice a12 l13 c14) (.slice (some ⟨r25, 0, none⟩) 1 1) W26 fun x27 W28 =>
  ∃ (a29 : Option Addr), ∃ (l30 : Nat), ∃ (c31 : Nat), x27 = (.slice a29 l30 c31) ∧
  next20 (a29, l30, c31, (w64 (n19 + (1 : Int)))) W28)
  (next20 (a12, l13, c14, (w64 (n19 + (1 : Int)))) W21))
  (K a12 l13 c14 W21)
def stepstoneref01_Bytes.T1 (K : Option Addr → Nat → Nat → World → Prop) (n8 : Int) (a12 : Option Addr) (l13 : Nat) (c14 : Nat) (a15 : Option Addr) (l16 : Nat) (c17 : Nat) (n18 : Int) (n19 : Int) (w : World) : Prop := LoopT (stepstoneref01_Bytes.B1 K n8 a15 l16 c17 n18) (a12, l13, c14, n19) w
def stepstoneref01_Bytes.F (a1 : Option Addr) (l2 : Nat) (c3 : Nat) (n4 : Int) (w : World) (K : Option Addr → Nat → Nat → World → Prop) : Prop :=
  stepstoneref01_Bytes.T1 K n4 none 0 0 a1 l2 c3 ((l2 : Nat) : Int) (0 : Int) w
def stepstoneref01_Bytes.U0 (K : Option Addr → Nat → Nat → World → Prop) (l : Nat) (fr : Fr) (w : World) : Prop :=
  match l with
 | 1 =>
  gI64 False (fr 1) fun n8 =>
  gL False (fr 5) fun a12 l13 c14 =>
  gL False (fr 8) fun a15 l16 c17 =>
  gI64 False (fr 9) fun n18 =>
  gI64 False (fr 10) fun n19 =>
  stepstoneref01_Bytes.T1 K n8 a12 l13 c14 a15 l16 c17 n18 n19 w
 | _ => False
def stepstoneref01_Bytes.ext1 (fr : Fr) : Option (Option Addr × Nat × Nat × Int) :=
  gL none (fr 5) fun a12 l13 c14 =>
  gI64 none (fr 10) fun n19 =>
  some (a12, l13, c14, n19)
theorem stepstoneref01_Bytes.U0_ok1 (K : Option Addr → Nat → Nat → World → Prop) (fr : Fr) (w : World) (h : stepstoneref01_Bytes.U0 K 1 fr w) : sh prog (stepstoneref01_Bytes.U0 K) (subAt [.R, .R, .L, .R, .B] (bodyOf Tryz.f59)) fr w (ctxAt prog (stepstoneref01_Bytes.U0 K) [.R, .R, .L, .R, .B] (bodyOf Tryz.f59) (retK prog Tryz.f59.results.toList (S_l.R K))) := by
  unfold stepstoneref01_Bytes.U0 at h
  simp only at h
  replace h := gI64.outF h; obtain ⟨n8, e32, h⟩ := h
  replace h := gL.outF h; obtain ⟨a12, l13, c14, e33, h⟩ := h
  replace h := gL.outF h; obtain ⟨a15, l16, c17, e34, h⟩ := h
  replace h := gI64.outF h; obtain ⟨n18, e35, h⟩ := h
  replace h := gI64.outF h; obtain ⟨n19, e36, h⟩ := h
  refine kc (A := LoopP (sh prog (stepstoneref01_Bytes.U0 K) (loopBody (subAt [.R, .R, .L, .R, .B] (bodyOf Tryz.f59)))) fr w (ctxAt prog (stepstoneref01_Bytes.U0 K) [.R, .R, .L, .R, .B] (bodyOf Tryz.f59) (retK prog Tryz.f59.results.toList (S_l.R K)))) ?_ (by kernel_rfl)
  refine loop_typed (B := stepstoneref01_Bytes.B1 K n8 a15 l16 c17 n18) stepstoneref01_Bytes.ext1 (s := (a12, l13, c14, n19)) (by unfold stepstoneref01_Bytes.ext1; simp only [e33, e36]; rfl) h ?_
  clear h
  clear e33
  clear e36
  intro s0 fr1 w1 next20 hs hk h
  unfold stepstoneref01_Bytes.ext1 at hs
  replace hs := noN (gL.out (d := none) (x := _) hs); obtain ⟨a12a, l13a, c14a, e37, hs⟩ := hs
  replace hs := noN (gI64.out (d := none) (x := _) hs); obtain ⟨n19a, e38, hs⟩ := hs
  replace hs := Option.some.inj hs; subst hs
  have e39 : fr1 1 = (.int .i64 n8) := (hk 1 (by kernel_rfl)).trans e32
  have e40 : fr1 8 = (.slice a15 l16 c17) := (hk 8 (by kernel_rfl)).trans e34
  have e41 : fr1 9 = (.int .i64 n18) := (hk 9 (by kernel_rfl)).trans e35
  refine at_frame [(5, (.slice a12a l13a c14a)), (10, (.int .i64 n19a)), (1, (.int .i64 n8)), (8, (.slice a15 l16 c17)), (9, (.int .i64 n18))] (by intro p hp; simp only [List.mem_cons, List.not_mem_nil, or_false] at hp; rcases hp with rfl | rfl | rfl | rfl | rfl <;> assumption) (Q := fun fr => sh prog (stepstoneref01_Bytes.U0 K) (loopBody (subAt [.R, .R, .L, .R, .B] (bodyOf Tryz.f59))) fr w1 (nextK stepstoneref01_Bytes.ext1 next20 (ctxAt prog (stepstoneref01_Bytes.U0 K) [.R, .R, .L, .R, .B] (bodyOf Tryz.f59) (retK prog Tryz.f59.results.toList (S_l.R K))))) ?_
  apply kc h; kernel_rfl
theorem stepstoneref01_Bytes.ok {a1 : Option Addr} {l2 : Nat} {c3 : Nat} {n4 : Int} {w : World} {K : Option Addr → Nat → Nat → World → Prop} (h : stepstoneref01_Bytes.F a1 l2 c3 n4 w K) : stepstoneref01_Bytes.C a1 l2 c3 n4 w K := by
  refine CallsV.mono (callsV_of_sh prog.mixed prog.noNum (args := [(.slice a1 l2 c3), (.int .i64 n4)]) Tryz.func59 (c := bodyOf Tryz.f59) (by kernel_rfl) (by kernel_rfl) (by kernel_rfl) (R := S_l.R K) ?_) fun v w1 h => S_l.out h
  refine sh_anyCut (cut := stepstoneref01_Bytes.U0 K) (by kernel_rfl) ?_
  refine sh_cutAt (p := [.R, .R, .L, .R, .B]) (l := 1) ?_ (stepstoneref01_Bytes.U0_ok1 K)
  apply kc h; kernel_rfl

def stepstonelaw26_PlayNames.T1 (K : Bool → World → Prop) (n24 : Int) (b41 : Nat) (o42 : Nat) (s47 : ByteArray) (W60 : World) : Prop :=
  stP W60 b41 o42 (.int .u8 n24) fun W61 =>
  play_New.C  W61 fun p62 W63 =>
  lAu8_i64_i64_l_u64_u64_l_b_i64_u64_i64_b W63 b41 o42 fun n64 n65 n66 a67 l68 c69 n70 n71 a72 l73 c74 q75 n76 n77 n78 q79 =>
  stepstonelaw26_own.C n64 n65 n66 a67 l68 c69 n70 n71 a72 l73 c74 q75 n76 n77 n78 q79 W63 fun n80 n81 n82 a83 l84 c85 n86 n87 a88 l89 c90 q91 n92 n93 n94 q95 W96 =>
  play_Player_Do.C p62 n80 n81 n82 a83 l84 c85 n86 n87 a88 l89 c90 q91 n92 n93 n94 q95 W96 fun n97 n98 n99 q100 a101 l102 c103 W104 =>
  alP W104 #[(.int .i64 (0 : Int)), (.int .u64 (0 : Int)), (.int .i64 (0 : Int)), (.bool false), (.slice none 0 0)] 33 fun r105 W106 =>
  stCs r105 0 [(.int .i64 n97), (.int .u64 n98), (.int .i64 n99), (.bool q100), (.slice a101 l102 c103)] W106 fun W107 =>
  play_Name.C n24 W107 fun s108 W109 =>
  cond (s108.toList == s47.toList)
  (cond (!(s47.toList == (⟨#[]⟩ : ByteArray).toList))
  (lAu8_i64_i64_l_u64_u64_l_b_i64_u64_i64_b W109 b41 o42 fun n110 n111 n112 a113 l114 c115 n116 n117 a118 l119 c120 q121 n122 n123 n124 q125 =>
  stepstonelaw26_own.C n110 n111 n112 a113 l114 c115 n116 n117 a118 l119 c120 q121 n122 n123 n124 q125 W109 fun n126 n127 n128 a129 l130 c131 n132 n133 a134 l135 c136 q137 n138 n139 n140 q141 W142 =>
  play_Player_Do.C none n126 n127 n128 a129 l130 c131 n132 n133 a134 l135 c136 q137 n138 n139 n140 q141 W142 fun n143 n144 n145 q146 a147 l148 c149 W150 =>
  cond (n143 == (6 : Int))
  (lAu8_i64_i64_l_u64_u64_l_b_i64_u64_i64_b W150 b41 o42 fun n151 n152 n153 a154 l155 c156 n157 n158 a159 l160 c161 q162 n163 n164 n165 q166 =>
  stepstonelaw26_own.C n151 n152 n153 a154 l155 c156 n157 n158 a159 l160 c161 q162 n163 n164 n165 q166 W150 fun n167 n168 n169 a170 l171 c172 n173 n174 a175 l176 c177 q178 n179 n180 n181 q182 W183 =>
  alP W183 #[(.int .u8 n167), (.int .i64 n168), (.int .i64 n169), (.slice a170 l171 c172), (.int .u64 n173), (.int .u64 n174), (.slice a175 l176 c177), (.bool q178), (.int .i64 n179), (.int .u64 n180), (.int .i64 n181), (.bool q182)] 35 fun r184 W185 =>
  play_Player_Run.C none (some ⟨r184, 0, none⟩) 1 1 W185 fun a186 l187 c188 W189 =>
  cond (((l187 : Nat) : Int) == (0 : Int))
  (play_Player_Whole.C none W189 fun a190 l191 c192 W193 =>
  cond (((l191 : Nat) : Int) == (0 : Int))
  (play_Player_Done.C none W193 fun n194 W195 =>
  play_Player_Fulls.C none W195 fun n196 W197 =>
  cond ((w64 (n194 + n196)) == (0 : Int))
  (play_Player_Done.C p62 W197 fun n198 W199 =>
  K (n198 == (1 : Int)) W199)
  (K false W197))
  (K false W193))
  (K false W189))
  (K false W150))
  (lI64 W109 r105 0 fun n200 =>
  cond (n200 == (1 : Int))
  (lAu8_i64_i64_l_u64_u64_l_b_i64_u64_i64_b W109 b41 o42 fun n201 n202 n203 a204 l205 c206 n207 n208 a209 l210 c211 q212 n213 n214 n215 q216 =>
  stepstonelaw26_own.C n201 n202 n203 a204 l205 c206 n207 n208 a209 l210 c211 q212 n213 n214 n215 q216 W109 fun n217 n218 n219 a220 l221 c222 n223 n224 a225 l226 c227 q228 n229 n230 n231 q232 W233 =>
  play_Player_Do.C none n217 n218 n219 a220 l221 c222 n223 n224 a225 l226 c227 q228 n229 n230 n231 q232 W233 fun n234 n235 n236 q237 a238 l239 c240 W241 =>
  cond (n234 == (6 : Int))
  (lAu8_i64_i64_l_u64_u64_l_b_i64_u64_i64_b W241 b41 o42 fun n242 n243 n244 a245 l246 c247 n248 n249 a250 l251 c252 q253 n254 n255 n256 q257 =>
  stepstonelaw26_own.C n242 n243 n244 a245 l246 c247 n248 n249 a250 l251 c252 q253 n254 n255 n256 q257 W241 fun n258 n259 n260 a261 l262 c263 n264 n265 a266 l267 c268 q269 n270 n271 n272 q273 W274 =>
  alP W274 #[(.int .u8 n258), (.int .i64 n259), (.int .i64 n260), (.slice a261 l262 c263), (.int .u64 n264), (.int .u64 n265), (.slice a266 l267 c268), (.bool q269), (.int .i64 n270), (.int .u64 n271), (.int .i64 n272), (.bool q273)] 35 fun r275 W276 =>
  play_Player_Run.C none (some ⟨r275, 0, none⟩) 1 1 W276 fun a277 l278 c279 W280 =>
  cond (((l278 : Nat) : Int) == (0 : Int))
  (play_Player_Whole.C none W280 fun a281 l282 c283 W284 =>
  cond (((l282 : Nat) : Int) == (0 : Int))
  (play_Player_Done.C none W284 fun n285 W286 =>
  play_Player_Fulls.C none W286 fun n287 W288 =>
  cond ((w64 (n285 + n287)) == (0 : Int))
  (play_Player_Done.C p62 W288 fun n289 W290 =>
  K (n289 == (1 : Int)) W290)
  (K false W288))
  (K false W284))
  (K false W280))
  (K false W241))
  (K false W109)))
  (K false W109)
def stepstonelaw26_PlayNames.F (n1 : Int) (n2 : Int) (n3 : Int) (n4 : Int) (a5 : Option Addr) (l6 : Nat) (c7 : Nat) (n8 : Int) (n9 : Int) (a10 : Option Addr) (l11 : Nat) (c12 : Nat) (q13 : Bool) (n14 : Int) (n15 : Int) (n16 : Int) (q17 : Bool) (w : World) (K : Bool → World → Prop) : Prop :=
  alP w #[(.int .u8 n2), (.int .i64 n3), (.int .i64 n4), (.slice a5 l6 c7), (.int .u64 n8), (.int .u64 n9), (.slice a10 l11 c12), (.bool q13), (.int .i64 n14), (.int .u64 n15), (.int .i64 n16), (.bool q17)] 26 fun r18 W19 =>
  stepstonelaw26_awake.C  W19 fun q20 W21 =>
  cond (!q20)
  (K false W21)
  (alP W21 #[(.string (⟨#[111, 112, 101, 110]⟩ : ByteArray)), (.string (⟨#[99, 108, 111, 115, 101]⟩ : ByteArray)), (.string (⟨#[105, 110, 115, 101, 114, 116]⟩ : ByteArray)), (.string (⟨#[112, 117, 116]⟩ : ByteArray)), (.string (⟨#[100, 101, 108, 101, 116, 101]⟩ : ByteArray)), (.string (⟨#[103, 101, 116]⟩ : ByteArray)), (.string (⟨#[104, 97, 115]⟩ : ByteArray)), (.string (⟨#[110, 101, 120, 116]⟩ : ByteArray)), (.string (⟨#[112, 114, 101, 118]⟩ : ByteArray)), (.string (⟨#[108, 101, 110]⟩ : ByteArray)), (.string (⟨#[114, 97, 110, 107]⟩ : ByteArray)), (.string (⟨#[115, 101, 108, 101, 99, 116]⟩ : ByteArray)), (.string (⟨#[99, 111, 117, 110, 116]⟩ : ByteArray)), (.string (⟨#[119, 105, 112, 101]⟩ : ByteArray)), (.string (⟨#[99, 108, 101, 97, 114]⟩ : ByteArray)), (.string (⟨#[106, 111, 105, 110]⟩ : ByteArray)), (.string (⟨#[101, 113, 117, 97, 108]⟩ : ByteArray)), (.string (⟨#[119, 105, 116, 104, 105, 110]⟩ : ByteArray)), (.string (⟨#[101, 110, 99, 111, 100, 101]⟩ : ByteArray)), (.string (⟨#[100, 101, 99, 111, 100, 101]⟩ : ByteArray)), (.string (⟨#[99, 117, 114, 115, 111, 114]⟩ : ByteArray)), (.string (⟨#[115, 116, 101, 112]⟩ : ByteArray)), (.string (⟨#[115, 101, 101, 107]⟩ : ByteArray)), (.string (⟨#[118, 101, 114, 115, 105, 111, 110]⟩ : ByteArray))] 9 fun r22 W23 =>
  cond (decide ((w64 n1) < ((24 : Nat) : Int)))
  (0 ≤ n1 ∧ n1 < ((24 : Nat) : Int) ∧
  lS W23 r22 (0 + Int.toNat n1 * 1) fun s291 =>
  stepstonelaw26_PlayNames.T1 K n1 r18 0 s291 W23)
  (stepstonelaw26_PlayNames.T1 K n1 r18 0 (⟨#[]⟩ : ByteArray) W23))
def stepstonelaw26_PlayNames.U0 (K : Bool → World → Prop) (l : Nat) (fr : Fr) (w : World) : Prop :=
  match l with
 | 1 =>
  gU8 False (fr 0) fun n24 =>
  gN False (fr 3) fun b41 o42 =>
  gS False (fr 6) fun s47 =>
  stepstonelaw26_PlayNames.T1 K n24 b41 o42 s47 w
 | _ => False
theorem stepstonelaw26_PlayNames.U0_ok1 (K : Bool → World → Prop) (fr : Fr) (w : World) (h : stepstonelaw26_PlayNames.U0 K 1 fr w) : sh prog (stepstonelaw26_PlayNames.U0 K) (subAt [.R, .R, .R, .R, .R] (bodyOf Tryz.f3)) fr w (ctxAt prog (stepstonelaw26_PlayNames.U0 K) [.R, .R, .R, .R, .R] (bodyOf Tryz.f3) (retK prog Tryz.f3.results.toList (S_b.R K))) := by
  unfold stepstonelaw26_PlayNames.U0 at h
  simp only at h
  replace h := gU8.outF h; obtain ⟨n24, e292, h⟩ := h
  replace h := gN.outF h; obtain ⟨b41, o42, e293, h⟩ := h
  replace h := gS.outF h; obtain ⟨s47, e294, h⟩ := h
  refine at_frame [(0, (.int .u8 n24)), (3, (.pointer (some ⟨b41, o42, none⟩))), (6, (.string s47))] (by intro p hp; simp only [List.mem_cons, List.not_mem_nil, or_false] at hp; rcases hp with rfl | rfl | rfl <;> assumption) (Q := fun fr => sh prog (stepstonelaw26_PlayNames.U0 K) (subAt [.R, .R, .R, .R, .R] (bodyOf Tryz.f3)) fr w (ctxAt prog (stepstonelaw26_PlayNames.U0 K) [.R, .R, .R, .R, .R] (bodyOf Tryz.f3) (retK prog Tryz.f3.results.toList (S_b.R K)))) ?_
  apply kc h; kernel_rfl
theorem stepstonelaw26_PlayNames.ok {n1 : Int} {n2 : Int} {n3 : Int} {n4 : Int} {a5 : Option Addr} {l6 : Nat} {c7 : Nat} {n8 : Int} {n9 : Int} {a10 : Option Addr} {l11 : Nat} {c12 : Nat} {q13 : Bool} {n14 : Int} {n15 : Int} {n16 : Int} {q17 : Bool} {w : World} {K : Bool → World → Prop} (h : stepstonelaw26_PlayNames.F n1 n2 n3 n4 a5 l6 c7 n8 n9 a10 l11 c12 q13 n14 n15 n16 q17 w K) : stepstonelaw26_PlayNames.C n1 n2 n3 n4 a5 l6 c7 n8 n9 a10 l11 c12 q13 n14 n15 n16 q17 w K := by
  refine CallsV.mono (callsV_of_sh prog.mixed prog.noNum (args := [(.int .u8 n1), (.agg #[(.int .u8 n2), (.int .i64 n3), (.int .i64 n4), (.slice a5 l6 c7), (.int .u64 n8), (.int .u64 n9), (.slice a10 l11 c12), (.bool q13), (.int .i64 n14), (.int .u64 n15), (.int .i64 n16), (.bool q17)])]) Tryz.func3 (c := bodyOf Tryz.f3) (by kernel_rfl) (by kernel_rfl) (by kernel_rfl) (R := S_b.R K) ?_) fun v w1 h => S_b.out h
  refine sh_anyCut (cut := stepstonelaw26_PlayNames.U0 K) (by kernel_rfl) ?_
  refine sh_cutAt (p := [.R, .R, .R, .R, .R]) (l := 1) ?_ (stepstonelaw26_PlayNames.U0_ok1 K)
  apply kc h; kernel_rfl

def stepstonelaw27_ShellNumbers.T1 (K : Bool → World → Prop) (s21 : ByteArray) (q26 : Bool) (W65 : World) : Prop :=
  cond q26
  (K true W65)
  (((((⟨#[111, 112, 101, 110, 32, 48, 32, 115, 101, 116, 32, 116, 114, 105, 101, 32, 48, 32, 49, 48, 48, 48, 10, 104, 97, 115, 32, 48, 32]⟩ : ByteArray).size + s21.size : Nat) : Int) ≤ IntKind.i64.max) ∧
  shell_Run.C ((⟨#[111, 112, 101, 110, 32, 48, 32, 115, 101, 116, 32, 116, 114, 105, 101, 32, 48, 32, 49, 48, 48, 48, 10, 104, 97, 115, 32, 48, 32]⟩ : ByteArray) ++ s21) W65 fun s66 n67 W68 =>
  cond (n67 == (0 : Int))
  (K (s66.toList == (⟨#[111, 107, 10, 101, 114, 114, 111, 114, 32, 49, 50, 10]⟩ : ByteArray).toList) W68)
  (K false W68))
def stepstonelaw27_ShellNumbers.B2 (K : Bool → World → Prop) (s70 : ByteArray) : (Bool × Int) → World → ((Bool × Int) → World → Prop) → Prop := fun s0 W111 next110 => match s0 with
 | (q108, n109) =>
  cond (decide (n109 < ((s70.size : Nat) : Int)))
  (0 ≤ n109 ∧ n109 < ((s70.size : Nat) : Int) ∧
  cond ((bt s70 n109) == (10 : Int))
  (K true W111)
  (0 ≤ n109 ∧ n109 < ((s70.size : Nat) : Int) ∧
  cond ((bt s70 n109) == (32 : Int))
  (K true W111)
  (cond q108
  (0 ≤ n109 ∧ n109 < ((s70.size : Nat) : Int) ∧
  cond (decide ((bt s70 n109) ≥ (48 : Int)))
  (0 ≤ n109 ∧ n109 < ((s70.size : Nat) : Int) ∧
  next110 ((decide ((bt s70 n109) ≤ (57 : Int))), (w64 (n109 + (1 : Int)))) W111)
  (next110 (false, (w64 (n109 + (1 : Int)))) W111))
  (next110 (false, (w64 (n109 + (1 : Int)))) W111))))
  (stepstonelaw27_ShellNumbers.T1 K s70 q108 W111)
def stepstonelaw27_ShellNumbers.T2 (K : Bool → World → Prop) (s70 : ByteArray) (q108 : Bool) (n109 : Int) (w : World) : Prop := LoopT (stepstonelaw27_ShellNumbers.B2 K s70) (q108, n109) w
def stepstonelaw27_ShellNumbers.F (n1 : Int) (s2 : ByteArray) (w : World) (K : Bool → World → Prop) : Prop :=
  stepstonelaw27_awake.C  w fun q3 W4 =>
  cond (!q3)
  (K false W4)
  (stepstoneref01_Text.C s2 (30 : Int) W4 fun s5 W6 =>
  stepstoneref01_Dec.C n1 W6 fun s7 W8 =>
  ((((⟨#[111, 112, 101, 110, 32, 48, 32, 115, 101, 116, 32, 114, 111, 97, 114, 32, 48, 32, 49, 48, 48, 48, 10, 105, 110, 115, 101, 114, 116, 32, 48, 32]⟩ : ByteArray).size + s7.size : Nat) : Int) ≤ IntKind.i64.max) ∧
  (((((⟨#[111, 112, 101, 110, 32, 48, 32, 115, 101, 116, 32, 114, 111, 97, 114, 32, 48, 32, 49, 48, 48, 48, 10, 105, 110, 115, 101, 114, 116, 32, 48, 32]⟩ : ByteArray) ++ s7).size + (⟨#[10, 110, 101, 120, 116, 32, 48, 32, 48, 10, 105, 110, 115, 101, 114, 116, 32, 48, 32, 48]⟩ : ByteArray).size : Nat) : Int) ≤ IntKind.i64.max) ∧
  stepstoneref01_Dec.C n1 W8 fun s9 W10 =>
  ((((((⟨#[111, 112, 101, 110, 32, 48, 32, 115, 101, 116, 32, 114, 111, 97, 114, 32, 48, 32, 49, 48, 48, 48, 10, 105, 110, 115, 101, 114, 116, 32, 48, 32]⟩ : ByteArray) ++ s7) ++ (⟨#[10, 110, 101, 120, 116, 32, 48, 32, 48, 10, 105, 110, 115, 101, 114, 116, 32, 48, 32, 48]⟩ : ByteArray)).size + s9.size : Nat) : Int) ≤ IntKind.i64.max) ∧
  (((((((⟨#[111, 112, 101, 110, 32, 48, 32, 115, 101, 116, 32, 114, 111, 97, 114, 32, 48, 32, 49, 48, 48, 48, 10, 105, 110, 115, 101, 114, 116, 32, 48, 32]⟩ : ByteArray) ++ s7) ++ (⟨#[10, 110, 101, 120, 116, 32, 48, 32, 48, 10, 105, 110, 115, 101, 114, 116, 32, 48, 32, 48]⟩ : ByteArray)) ++ s9).size + (⟨#[10, 105, 110, 115, 101, 114, 116, 32, 48, 32, 43]⟩ : ByteArray).size : Nat) : Int) ≤ IntKind.i64.max) ∧
  stepstoneref01_Dec.C n1 W10 fun s11 W12 =>
  ((((((((⟨#[111, 112, 101, 110, 32, 48, 32, 115, 101, 116, 32, 114, 111, 97, 114, 32, 48, 32, 49, 48, 48, 48, 10, 105, 110, 115, 101, 114, 116, 32, 48, 32]⟩ : ByteArray) ++ s7) ++ (⟨#[10, 110, 101, 120, 116, 32, 48, 32, 48, 10, 105, 110, 115, 101, 114, 116, 32, 48, 32, 48]⟩ : ByteArray)) ++ s9) ++ (⟨#[10, 105, 110, 115, 101, 114, 116, 32, 48, 32, 43]⟩ : ByteArray)).size + s11.size : Nat) : Int) ≤ IntKind.i64.max) ∧
  (((((((((⟨#[111, 112, 101, 110, 32, 48, 32, 115, 101, 116, 32, 114, 111, 97, 114, 32, 48, 32, 49, 48, 48, 48, 10, 105, 110, 115, 101, 114, 116, 32, 48, 32]⟩ : ByteArray) ++ s7) ++ (⟨#[10, 110, 101, 120, 116, 32, 48, 32, 48, 10, 105, 110, 115, 101, 114, 116, 32, 48, 32, 48]⟩ : ByteArray)) ++ s9) ++ (⟨#[10, 105, 110, 115, 101, 114, 116, 32, 48, 32, 43]⟩ : ByteArray)) ++ s11).size + (⟨#[10, 105, 110, 115, 101, 114, 116, 32, 48, 32]⟩ : ByteArray).size : Nat) : Int) ≤ IntKind.i64.max) ∧
  stepstoneref01_Dec.C n1 W12 fun s13 W14 =>
  ((((((((((⟨#[111, 112, 101, 110, 32, 48, 32, 115, 101, 116, 32, 114, 111, 97, 114, 32, 48, 32, 49, 48, 48, 48, 10, 105, 110, 115, 101, 114, 116, 32, 48, 32]⟩ : ByteArray) ++ s7) ++ (⟨#[10, 110, 101, 120, 116, 32, 48, 32, 48, 10, 105, 110, 115, 101, 114, 116, 32, 48, 32, 48]⟩ : ByteArray)) ++ s9) ++ (⟨#[10, 105, 110, 115, 101, 114, 116, 32, 48, 32, 43]⟩ : ByteArray)) ++ s11) ++ (⟨#[10, 105, 110, 115, 101, 114, 116, 32, 48, 32]⟩ : ByteArray)).size + s13.size : Nat) : Int) ≤ IntKind.i64.max) ∧
  (((((((((((⟨#[111, 112, 101, 110, 32, 48, 32, 115, 101, 116, 32, 114, 111, 97, 114, 32, 48, 32, 49, 48, 48, 48, 10, 105, 110, 115, 101, 114, 116, 32, 48, 32]⟩ : ByteArray) ++ s7) ++ (⟨#[10, 110, 101, 120, 116, 32, 48, 32, 48, 10, 105, 110, 115, 101, 114, 116, 32, 48, 32, 48]⟩ : ByteArray)) ++ s9) ++ (⟨#[10, 105, 110, 115, 101, 114, 116, 32, 48, 32, 43]⟩ : ByteArray)) ++ s11) ++ (⟨#[10, 105, 110, 115, 101, 114, 116, 32, 48, 32]⟩ : ByteArray)) ++ s13).size + (⟨#[48, 48, 48, 48, 48, 48, 48, 48, 48, 48, 48, 48, 48, 48, 48, 48, 48, 48, 48, 48, 10, 108, 101, 110, 32, 48]⟩ : ByteArray).size : Nat) : Int) ≤ IntKind.i64.max) ∧
  shell_Run.C (((((((((⟨#[111, 112, 101, 110, 32, 48, 32, 115, 101, 116, 32, 114, 111, 97, 114, 32, 48, 32, 49, 48, 48, 48, 10, 105, 110, 115, 101, 114, 116, 32, 48, 32]⟩ : ByteArray) ++ s7) ++ (⟨#[10, 110, 101, 120, 116, 32, 48, 32, 48, 10, 105, 110, 115, 101, 114, 116, 32, 48, 32, 48]⟩ : ByteArray)) ++ s9) ++ (⟨#[10, 105, 110, 115, 101, 114, 116, 32, 48, 32, 43]⟩ : ByteArray)) ++ s11) ++ (⟨#[10, 105, 110, 115, 101, 114, 116, 32, 48, 32]⟩ : ByteArray)) ++ s13) ++ (⟨#[48, 48, 48, 48, 48, 48, 48, 48, 48, 48, 48, 48, 48, 48, 48, 48, 48, 48, 48, 48, 10, 108, 101, 110, 32, 48]⟩ : ByteArray)) W14 fun s15 n16 W17 =>
  stepstoneref01_Dec.C n1 W17 fun s18 W19 =>
  ((((⟨#[111, 107, 10, 111, 107, 10]⟩ : ByteArray).size + s18.size : Nat) : Int) ≤ IntKind.i64.max) ∧
  (((((⟨#[111, 107, 10, 111, 107, 10]⟩ : ByteArray) ++ s18).size + (⟨#[10, 101, 114, 114, 111, 114, 32, 49, 50, 10, 101, 114, 114, 111, 114, 32, 49, 50, 10, 101, 114, 114, 111, 114, 32, 49, 50, 10, 49, 10]⟩ : ByteArray).size : Nat) : Int) ≤ IntKind.i64.max) ∧
  cond (n16 != (0 : Int))
  (K false W19)
  (cond (!(s15.toList == (((⟨#[111, 107, 10, 111, 107, 10]⟩ : ByteArray) ++ s18) ++ (⟨#[10, 101, 114, 114, 111, 114, 32, 49, 50, 10, 101, 114, 114, 111, 114, 32, 49, 50, 10, 101, 114, 114, 111, 114, 32, 49, 50, 10, 49, 10]⟩ : ByteArray)).toList))
  (K false W19)
  (stepstonelaw27_ShellNumbers.T2 K s5 true (0 : Int) W19)))
def stepstonelaw27_ShellNumbers.U0 (K : Bool → World → Prop) (l : Nat) (fr : Fr) (w : World) : Prop :=
  match l with
 | 1 =>
  gS False (fr 1) fun s21 =>
  gB False (fr 8) fun q26 =>
  stepstonelaw27_ShellNumbers.T1 K s21 q26 w
 | 2 =>
  gS False (fr 1) fun s70 =>
  gB False (fr 8) fun q108 =>
  gI64 False (fr 9) fun n109 =>
  stepstonelaw27_ShellNumbers.T2 K s70 q108 n109 w
 | _ => False
def stepstonelaw27_ShellNumbers.ext2 (fr : Fr) : Option (Bool × Int) :=
  gB none (fr 8) fun q108 =>
  gI64 none (fr 9) fun n109 =>
  some (q108, n109)
theorem stepstonelaw27_ShellNumbers.U0_ok1 (K : Bool → World → Prop) (fr : Fr) (w : World) (h : stepstonelaw27_ShellNumbers.U0 K 1 fr w) : sh prog (stepstonelaw27_ShellNumbers.U0 K) (subAt [.R, .R, .R, .R, .R, .R, .R, .R] (bodyOf Tryz.f4)) fr w (ctxAt prog (stepstonelaw27_ShellNumbers.U0 K) [.R, .R, .R, .R, .R, .R, .R, .R] (bodyOf Tryz.f4) (retK prog Tryz.f4.results.toList (S_b.R K))) := by
  unfold stepstonelaw27_ShellNumbers.U0 at h
  simp only at h
  replace h := gS.outF h; obtain ⟨s21, e112, h⟩ := h
  replace h := gB.outF h; obtain ⟨q26, e113, h⟩ := h
  refine at_frame [(1, (.string s21)), (8, (.bool q26))] (by intro p hp; simp only [List.mem_cons, List.not_mem_nil, or_false] at hp; rcases hp with rfl | rfl <;> assumption) (Q := fun fr => sh prog (stepstonelaw27_ShellNumbers.U0 K) (subAt [.R, .R, .R, .R, .R, .R, .R, .R] (bodyOf Tryz.f4)) fr w (ctxAt prog (stepstonelaw27_ShellNumbers.U0 K) [.R, .R, .R, .R, .R, .R, .R, .R] (bodyOf Tryz.f4) (retK prog Tryz.f4.results.toList (S_b.R K)))) ?_
  apply kc h; kernel_rfl
theorem stepstonelaw27_ShellNumbers.U0_ok2 (K : Bool → World → Prop) (fr : Fr) (w : World) (h : stepstonelaw27_ShellNumbers.U0 K 2 fr w) : sh prog (stepstonelaw27_ShellNumbers.U0 K) (subAt [.R, .R, .R, .R, .R, .R, .R, .L, .R, .B] (cutAt 1 [.R, .R, .R, .R, .R, .R, .R, .R] (bodyOf Tryz.f4))) fr w (ctxAt prog (stepstonelaw27_ShellNumbers.U0 K) [.R, .R, .R, .R, .R, .R, .R, .L, .R, .B] (cutAt 1 [.R, .R, .R, .R, .R, .R, .R, .R] (bodyOf Tryz.f4)) (retK prog Tryz.f4.results.toList (S_b.R K))) := by
  unfold stepstonelaw27_ShellNumbers.U0 at h
  simp only at h
  replace h := gS.outF h; obtain ⟨s70, e114, h⟩ := h
  replace h := gB.outF h; obtain ⟨q108, e115, h⟩ := h
  replace h := gI64.outF h; obtain ⟨n109, e116, h⟩ := h
  refine kc (A := LoopP (sh prog (stepstonelaw27_ShellNumbers.U0 K) (loopBody (subAt [.R, .R, .R, .R, .R, .R, .R, .L, .R, .B] (cutAt 1 [.R, .R, .R, .R, .R, .R, .R, .R] (bodyOf Tryz.f4))))) fr w (ctxAt prog (stepstonelaw27_ShellNumbers.U0 K) [.R, .R, .R, .R, .R, .R, .R, .L, .R, .B] (cutAt 1 [.R, .R, .R, .R, .R, .R, .R, .R] (bodyOf Tryz.f4)) (retK prog Tryz.f4.results.toList (S_b.R K)))) ?_ (by kernel_rfl)
  refine loop_typed (B := stepstonelaw27_ShellNumbers.B2 K s70) stepstonelaw27_ShellNumbers.ext2 (s := (q108, n109)) (by unfold stepstonelaw27_ShellNumbers.ext2; simp only [e115, e116]; rfl) h ?_
  clear h
  clear e115
  clear e116
  intro s0 fr1 w1 next110 hs hk h
  unfold stepstonelaw27_ShellNumbers.ext2 at hs
  replace hs := noN (gB.out (d := none) (x := _) hs); obtain ⟨q108a, e117, hs⟩ := hs
  replace hs := noN (gI64.out (d := none) (x := _) hs); obtain ⟨n109a, e118, hs⟩ := hs
  replace hs := Option.some.inj hs; subst hs
  have e119 : fr1 1 = (.string s70) := (hk 1 (by kernel_rfl)).trans e114
  refine at_frame [(8, (.bool q108a)), (9, (.int .i64 n109a)), (1, (.string s70))] (by intro p hp; simp only [List.mem_cons, List.not_mem_nil, or_false] at hp; rcases hp with rfl | rfl | rfl <;> assumption) (Q := fun fr => sh prog (stepstonelaw27_ShellNumbers.U0 K) (loopBody (subAt [.R, .R, .R, .R, .R, .R, .R, .L, .R, .B] (cutAt 1 [.R, .R, .R, .R, .R, .R, .R, .R] (bodyOf Tryz.f4)))) fr w1 (nextK stepstonelaw27_ShellNumbers.ext2 next110 (ctxAt prog (stepstonelaw27_ShellNumbers.U0 K) [.R, .R, .R, .R, .R, .R, .R, .L, .R, .B] (cutAt 1 [.R, .R, .R, .R, .R, .R, .R, .R] (bodyOf Tryz.f4)) (retK prog Tryz.f4.results.toList (S_b.R K))))) ?_
  apply kc h; kernel_rfl
theorem stepstonelaw27_ShellNumbers.ok {n1 : Int} {s2 : ByteArray} {w : World} {K : Bool → World → Prop} (h : stepstonelaw27_ShellNumbers.F n1 s2 w K) : stepstonelaw27_ShellNumbers.C n1 s2 w K := by
  refine CallsV.mono (callsV_of_sh prog.mixed prog.noNum (args := [(.int .u64 n1), (.string s2)]) Tryz.func4 (c := bodyOf Tryz.f4) (by kernel_rfl) (by kernel_rfl) (by kernel_rfl) (R := S_b.R K) ?_) fun v w1 h => S_b.out h
  refine sh_anyCut (cut := stepstonelaw27_ShellNumbers.U0 K) (by kernel_rfl) ?_
  refine sh_cutAt (p := [.R, .R, .R, .R, .R, .R, .R, .R]) (l := 1) ?_ (stepstonelaw27_ShellNumbers.U0_ok1 K)
  refine sh_cutAt (p := [.R, .R, .R, .R, .R, .R, .R, .L, .R, .B]) (l := 2) ?_ (stepstonelaw27_ShellNumbers.U0_ok2 K)
  apply kc h; kernel_rfl

def stepstonelaw27_ShellLong.F (n1 : Int) (w : World) (K : Bool → World → Prop) : Prop :=
  stepstonelaw27_awake.C  w fun q2 W3 =>
  cond (!q2)
  (K false W3)
  ((0 ≤ w64 (w64 ((19997 : Int) + (w64 (Int.tmod n1 (7 : Int))))) ∧ w64 (w64 ((19997 : Int) + (w64 (Int.tmod n1 (7 : Int))))) ≤ w64 (w64 ((19997 : Int) + (w64 (Int.tmod n1 (7 : Int))))) ∧ ((1 : Nat) : Int) * w64 (w64 ((19997 : Int) + (w64 (Int.tmod n1 (7 : Int))))) ≤ 2 ^ 48) ∧
  alP W3 (zrow #[(.int .u8 (0 : Int))] (Int.toNat (w64 (w64 ((19997 : Int) + (w64 (Int.tmod n1 (7 : Int)))))) * 1)) 5 fun r4 W5 =>
  CnvV prog 24 9 (.slice (some ⟨r4, 0, none⟩) (Int.toNat (w64 (w64 ((19997 : Int) + (w64 (Int.tmod n1 (7 : Int))))))) (Int.toNat (w64 (w64 ((19997 : Int) + (w64 (Int.tmod n1 (7 : Int)))))))) W5 fun x6 W7 =>
  ∃ (s8 : ByteArray), x6 = (.string s8) ∧
  shell_Run.C s8 W7 fun s9 n10 W11 =>
  stepstoneref27_Names.C  W11 fun a12 l13 c14 W15 =>
  slices_Sort_string_string.C a12 l13 c14 W15 fun W16 =>
  shell_Words.C  W16 fun a17 l18 c19 W20 =>
  slices_Equal_string_string.C a17 l18 c19 a12 l13 c14 W20 fun q21 W22 =>
  cond (!q21)
  (K false W22)
  (cond (decide ((w64 ((19997 : Int) + (w64 (Int.tmod n1 (7 : Int))))) > (20000 : Int)))
  (cond (n10 == (1 : Int))
  (K (s9.toList == (⟨#[]⟩ : ByteArray).toList) W22)
  (K false W22))
  (cond (n10 == (0 : Int))
  (K (s9.toList == (⟨#[101, 114, 114, 111, 114, 32, 49, 50, 10]⟩ : ByteArray).toList) W22)
  (K false W22))))
theorem stepstonelaw27_ShellLong.ok {n1 : Int} {w : World} {K : Bool → World → Prop} (h : stepstonelaw27_ShellLong.F n1 w K) : stepstonelaw27_ShellLong.C n1 w K := by
  refine CallsV.mono (callsV_of_sh prog.mixed prog.noNum (args := [(.int .u8 n1)]) Tryz.func5 (c := bodyOf Tryz.f5) (by kernel_rfl) (by kernel_rfl) (by kernel_rfl) (R := S_b.R K) ?_) fun v w1 h => S_b.out h
  apply kc h; kernel_rfl

def stepstonelaw26_awake.F (w : World) (K : Bool → World → Prop) : Prop :=
  play_New.C  w fun p1 W2 =>
  alP W2 #[(.int .u8 (0 : Int)), (.int .i64 (0 : Int)), (.int .i64 (0 : Int)), (.slice none 0 0), (.int .u64 (0 : Int)), (.int .u64 (0 : Int)), (.slice none 0 0), (.bool false), (.int .i64 (4 : Int)), (.int .u64 (0 : Int)), (.int .i64 (100 : Int)), (.bool false), (.int .u8 (2 : Int)), (.int .i64 (0 : Int)), (.int .i64 (0 : Int)), (.slice none 0 0), (.int .u64 (5 : Int)), (.int .u64 (0 : Int)), (.slice none 0 0), (.bool false), (.int .i64 (0 : Int)), (.int .u64 (0 : Int)), (.int .i64 (0 : Int)), (.bool false), (.int .u8 (9 : Int)), (.int .i64 (0 : Int)), (.int .i64 (0 : Int)), (.slice none 0 0), (.int .u64 (0 : Int)), (.int .u64 (0 : Int)), (.slice none 0 0), (.bool false), (.int .i64 (0 : Int)), (.int .u64 (0 : Int)), (.int .i64 (0 : Int)), (.bool false)] 35 fun r3 W4 =>
  play_Player_Run.C p1 (some ⟨r3, 0, none⟩) 3 3 W4 fun a5 l6 c7 W8 =>
  cond (((l6 : Nat) : Int) == (3 : Int))
  (nn a5 fun b9 o10 =>
  0 ≤ (0 : Int) ∧ (0 : Int) < ((l6 : Nat) : Int) ∧
  lI64 W8 b9 (o10 + Int.toNat (0 : Int) * 5) fun n11 =>
  cond (n11 == (0 : Int))
  (nn a5 fun b12 o13 =>
  0 ≤ (1 : Int) ∧ (1 : Int) < ((l6 : Nat) : Int) ∧
  lI64 W8 b12 (o13 + Int.toNat (1 : Int) * 5) fun n14 =>
  cond (n14 == (0 : Int))
  (nn a5 fun b15 o16 =>
  0 ≤ (2 : Int) ∧ (2 : Int) < ((l6 : Nat) : Int) ∧
  lI64 W8 b15 ((o16 + Int.toNat (2 : Int) * 5) + 2) fun n17 =>
  cond (n17 == (1 : Int))
  (play_Name.C (2 : Int) W8 fun s18 W19 =>
  K (s18.toList == (⟨#[105, 110, 115, 101, 114, 116]⟩ : ByteArray).toList) W19)
  (K false W8))
  (K false W8))
  (K false W8))
  (K false W8)
theorem stepstonelaw26_awake.ok {w : World} {K : Bool → World → Prop} (h : stepstonelaw26_awake.F  w K) : stepstonelaw26_awake.C  w K := by
  refine CallsV.mono (callsV_of_sh prog.mixed prog.noNum (args := []) Tryz.func6 (c := bodyOf Tryz.f6) (by kernel_rfl) (by kernel_rfl) (by kernel_rfl) (R := S_b.R K) ?_) fun v w1 h => S_b.out h
  apply kc h; kernel_rfl

def stepstonelaw26_own.F (n1 : Int) (n2 : Int) (n3 : Int) (a4 : Option Addr) (l5 : Nat) (c6 : Nat) (n7 : Int) (n8 : Int) (a9 : Option Addr) (l10 : Nat) (c11 : Nat) (q12 : Bool) (n13 : Int) (n14 : Int) (n15 : Int) (q16 : Bool) (w : World) (K : Int → Int → Int → Option Addr → Nat → Nat → Int → Int → Option Addr → Nat → Nat → Bool → Int → Int → Int → Bool → World → Prop) : Prop :=
  alP w #[(.int .u8 n1), (.int .i64 n2), (.int .i64 n3), (.slice a4 l5 c6), (.int .u64 n7), (.int .u64 n8), (.slice a9 l10 c11), (.bool q12), (.int .i64 n13), (.int .u64 n14), (.int .i64 n15), (.bool q16)] 26 fun r17 W18 =>
  alP W18 #[(.int .u8 (0 : Int)), (.int .i64 (0 : Int)), (.int .i64 (0 : Int)), (.slice none 0 0), (.int .u64 (0 : Int)), (.int .u64 (0 : Int)), (.slice none 0 0), (.bool false), (.int .i64 (0 : Int)), (.int .u64 (0 : Int)), (.int .i64 (0 : Int)), (.bool false)] 35 fun r19 W20 =>
  lAu8_i64_i64_l_u64_u64_l_b_i64_u64_i64_b W20 r17 0 fun n21 n22 n23 a24 l25 c26 n27 n28 a29 l30 c31 q32 n33 n34 n35 q36 =>
  stepstoneref25_Few.C n21 n22 n23 a24 l25 c26 n27 n28 a29 l30 c31 q32 n33 n34 n35 q36 W20 fun n37 n38 n39 a40 l41 c42 n43 n44 a45 l46 c47 q48 n49 n50 n51 q52 W53 =>
  stCs r17 0 [(.int .u8 n37), (.int .i64 n38), (.int .i64 n39), (.slice a40 l41 c42), (.int .u64 n43), (.int .u64 n44), (.slice a45 l46 c47), (.bool q48), (.int .i64 n49), (.int .u64 n50), (.int .i64 n51), (.bool q52)] W53 fun W54 =>
  lU8 W54 r17 0 fun n55 =>
  lI64 W54 r17 1 fun n56 =>
  lI64 W54 r17 2 fun n57 =>
  lL W54 r17 3 fun a58 l59 c60 =>
  lU64 W54 r17 4 fun n61 =>
  lU64 W54 r17 5 fun n62 =>
  lL W54 r17 6 fun a63 l64 c65 =>
  lB W54 r17 7 fun q66 =>
  lI64 W54 r17 8 fun n67 =>
  lU64 W54 r17 9 fun n68 =>
  lI64 W54 r17 10 fun n69 =>
  lB W54 r17 11 fun q70 =>
  stCs r19 0 [(.int .u8 n55), (.int .i64 n56), (.int .i64 n57), (.slice a58 l59 c60), (.int .u64 n61), (.int .u64 n62), (.slice a63 l64 c65), (.bool q66), (.int .i64 n67), (.int .u64 n68), (.int .i64 n69), (.bool q70)] W54 fun W71 =>
  lAu8_i64_i64_l_u64_u64_l_b_i64_u64_i64_b W71 r19 0 fun n72 n73 n74 a75 l76 c77 n78 n79 a80 l81 c82 q83 n84 n85 n86 q87 =>
  K n72 n73 n74 a75 l76 c77 n78 n79 a80 l81 c82 q83 n84 n85 n86 q87 W71
theorem stepstonelaw26_own.ok {n1 : Int} {n2 : Int} {n3 : Int} {a4 : Option Addr} {l5 : Nat} {c6 : Nat} {n7 : Int} {n8 : Int} {a9 : Option Addr} {l10 : Nat} {c11 : Nat} {q12 : Bool} {n13 : Int} {n14 : Int} {n15 : Int} {q16 : Bool} {w : World} {K : Int → Int → Int → Option Addr → Nat → Nat → Int → Int → Option Addr → Nat → Nat → Bool → Int → Int → Int → Bool → World → Prop} (h : stepstonelaw26_own.F n1 n2 n3 a4 l5 c6 n7 n8 a9 l10 c11 q12 n13 n14 n15 q16 w K) : stepstonelaw26_own.C n1 n2 n3 a4 l5 c6 n7 n8 a9 l10 c11 q12 n13 n14 n15 q16 w K := by
  refine CallsV.mono (callsV_of_sh prog.mixed prog.noNum (args := [(.agg #[(.int .u8 n1), (.int .i64 n2), (.int .i64 n3), (.slice a4 l5 c6), (.int .u64 n7), (.int .u64 n8), (.slice a9 l10 c11), (.bool q12), (.int .i64 n13), (.int .u64 n14), (.int .i64 n15), (.bool q16)])]) Tryz.func9 (c := bodyOf Tryz.f9) (by kernel_rfl) (by kernel_rfl) (by kernel_rfl) (R := S_au8_i64_i64_l_u64_u64_l_b_i64_u64_i64_bz.R K) ?_) fun v w1 h => S_au8_i64_i64_l_u64_u64_l_b_i64_u64_i64_bz.out h
  apply kc h; kernel_rfl

def stepstonelaw27_awake.F (w : World) (K : Bool → World → Prop) : Prop :=
  shell_Run.C (⟨#[111, 112, 101, 110, 32, 48, 32, 115, 101, 116, 32, 116, 114, 105, 101, 32, 49, 32, 49, 48, 48, 10, 105, 110, 115, 101, 114, 116, 32, 48, 32, 53, 10, 110, 101, 120, 116, 32, 48, 32, 51]⟩ : ByteArray) w fun s1 n2 W3 =>
  cond (n2 == (0 : Int))
  (K (s1.toList == (⟨#[111, 107, 10, 111, 107, 10, 53, 10]⟩ : ByteArray).toList) W3)
  (K false W3)
theorem stepstonelaw27_awake.ok {w : World} {K : Bool → World → Prop} (h : stepstonelaw27_awake.F  w K) : stepstonelaw27_awake.C  w K := by
  refine CallsV.mono (callsV_of_sh prog.mixed prog.noNum (args := []) Tryz.func15 (c := bodyOf Tryz.f15) (by kernel_rfl) (by kernel_rfl) (by kernel_rfl) (R := S_b.R K) ?_) fun v w1 h => S_b.out h
  apply kc h; kernel_rfl

def slices_Equal_string_string.B1 (K : Bool → World → Prop) (a7 : Option Addr) (l8 : Nat) (c9 : Nat) (a10 : Option Addr) (l11 : Nat) (c12 : Nat) (n26 : Int) : Int → World → ((Int) → World → Prop) → Prop := fun s0 W29 next28 => match s0 with
 | n27 =>
  cond (decide (n27 < n26))
  (drP W29 fun W30 =>
  nn a7 fun b31 o32 =>
  0 ≤ n27 ∧ n27 < ((l8 : Nat) : Int) ∧
  lS W30 b31 (o32 + Int.toNat n27 * 1) fun s33 =>
  nn a10 fun b34 o35 =>
  0 ≤ n27 ∧ n27 < ((l11 : Nat) : Int) ∧
  lS W30 b34 (o35 + Int.toNat n27 * 1) fun s36 =>
  cond (!(s33.toList == s36.toList))
  (K false W30)
  (next28 (w64 (n27 + (1 : Int))) W30))
  (K true W29)
def slices_Equal_string_string.T1 (K : Bool → World → Prop) (a7 : Option Addr) (l8 : Nat) (c9 : Nat) (a10 : Option Addr) (l11 : Nat) (c12 : Nat) (n26 : Int) (n27 : Int) (w : World) : Prop := LoopT (slices_Equal_string_string.B1 K a7 l8 c9 a10 l11 c12 n26) n27 w
def slices_Equal_string_string.F (a1 : Option Addr) (l2 : Nat) (c3 : Nat) (a4 : Option Addr) (l5 : Nat) (c6 : Nat) (w : World) (K : Bool → World → Prop) : Prop :=
  cond (((l2 : Nat) : Int) != ((l5 : Nat) : Int))
  (K false w)
  (slices_Equal_string_string.T1 K a1 l2 c3 a4 l5 c6 ((l2 : Nat) : Int) (0 : Int) w)
def slices_Equal_string_string.U0 (K : Bool → World → Prop) (l : Nat) (fr : Fr) (w : World) : Prop :=
  match l with
 | 1 =>
  gL False (fr 0) fun a7 l8 c9 =>
  gL False (fr 1) fun a10 l11 c12 =>
  gI64 False (fr 12) fun n26 =>
  gI64 False (fr 13) fun n27 =>
  slices_Equal_string_string.T1 K a7 l8 c9 a10 l11 c12 n26 n27 w
 | _ => False
def slices_Equal_string_string.ext1 (fr : Fr) : Option (Int) :=
  gI64 none (fr 13) fun n27 =>
  some n27
theorem slices_Equal_string_string.U0_ok1 (K : Bool → World → Prop) (fr : Fr) (w : World) (h : slices_Equal_string_string.U0 K 1 fr w) : sh prog (slices_Equal_string_string.U0 K) (subAt [.R, .R, .L, .R, .B] (bodyOf Tryz.f21)) fr w (ctxAt prog (slices_Equal_string_string.U0 K) [.R, .R, .L, .R, .B] (bodyOf Tryz.f21) (retK prog Tryz.f21.results.toList (S_b.R K))) := by
  unfold slices_Equal_string_string.U0 at h
  simp only at h
  replace h := gL.outF h; obtain ⟨a7, l8, c9, e37, h⟩ := h
  replace h := gL.outF h; obtain ⟨a10, l11, c12, e38, h⟩ := h
  replace h := gI64.outF h; obtain ⟨n26, e39, h⟩ := h
  replace h := gI64.outF h; obtain ⟨n27, e40, h⟩ := h
  refine kc (A := LoopP (sh prog (slices_Equal_string_string.U0 K) (loopBody (subAt [.R, .R, .L, .R, .B] (bodyOf Tryz.f21)))) fr w (ctxAt prog (slices_Equal_string_string.U0 K) [.R, .R, .L, .R, .B] (bodyOf Tryz.f21) (retK prog Tryz.f21.results.toList (S_b.R K)))) ?_ (by kernel_rfl)
  refine loop_typed (B := slices_Equal_string_string.B1 K a7 l8 c9 a10 l11 c12 n26) slices_Equal_string_string.ext1 (s := n27) (by unfold slices_Equal_string_string.ext1; simp only [e40]; rfl) h ?_
  clear h
  clear e40
  intro s0 fr1 w1 next28 hs hk h
  unfold slices_Equal_string_string.ext1 at hs
  replace hs := noN (gI64.out (d := none) (x := _) hs); obtain ⟨n27a, e41, hs⟩ := hs
  replace hs := Option.some.inj hs; subst hs
  have e42 : fr1 0 = (.slice a7 l8 c9) := (hk 0 (by kernel_rfl)).trans e37
  have e43 : fr1 1 = (.slice a10 l11 c12) := (hk 1 (by kernel_rfl)).trans e38
  have e44 : fr1 12 = (.int .i64 n26) := (hk 12 (by kernel_rfl)).trans e39
  refine at_frame [(13, (.int .i64 n27a)), (0, (.slice a7 l8 c9)), (1, (.slice a10 l11 c12)), (12, (.int .i64 n26))] (by intro p hp; simp only [List.mem_cons, List.not_mem_nil, or_false] at hp; rcases hp with rfl | rfl | rfl | rfl <;> assumption) (Q := fun fr => sh prog (slices_Equal_string_string.U0 K) (loopBody (subAt [.R, .R, .L, .R, .B] (bodyOf Tryz.f21))) fr w1 (nextK slices_Equal_string_string.ext1 next28 (ctxAt prog (slices_Equal_string_string.U0 K) [.R, .R, .L, .R, .B] (bodyOf Tryz.f21) (retK prog Tryz.f21.results.toList (S_b.R K))))) ?_
  apply kc h; kernel_rfl
theorem slices_Equal_string_string.ok {a1 : Option Addr} {l2 : Nat} {c3 : Nat} {a4 : Option Addr} {l5 : Nat} {c6 : Nat} {w : World} {K : Bool → World → Prop} (h : slices_Equal_string_string.F a1 l2 c3 a4 l5 c6 w K) : slices_Equal_string_string.C a1 l2 c3 a4 l5 c6 w K := by
  refine CallsV.mono (callsV_of_sh prog.mixed prog.noNum (args := [(.slice a1 l2 c3), (.slice a4 l5 c6)]) Tryz.func21 (c := bodyOf Tryz.f21) (by kernel_rfl) (by kernel_rfl) (by kernel_rfl) (R := S_b.R K) ?_) fun v w1 h => S_b.out h
  refine sh_anyCut (cut := slices_Equal_string_string.U0 K) (by kernel_rfl) ?_
  refine sh_cutAt (p := [.R, .R, .L, .R, .B]) (l := 1) ?_ (slices_Equal_string_string.U0_ok1 K)
  apply kc h; kernel_rfl

def strings_Builder_WriteString.F (p1 : Option Addr) (s2 : ByteArray) (w : World) (K : Int → Value → World → Prop) : Prop :=
  strings_Builder_copyCheck.C p1 w fun W3 =>
  nn p1 fun b4 o5 =>
  lL W3 b4 (o5 + 1) fun a6 l7 c8 =>
  AppV prog #[24, 9] 24 (.slice a6 l7 c8) (.string s2) W3 fun x9 W10 =>
  ∃ (a11 : Option Addr), ∃ (l12 : Nat), ∃ (c13 : Nat), x9 = (.slice a11 l12 c13) ∧
  nn p1 fun b14 o15 =>
  stP W10 b14 (o15 + 1) (.slice a11 l12 c13) fun W16 =>
  K ((s2.size : Nat) : Int) .nilIface W16
theorem strings_Builder_WriteString.ok {p1 : Option Addr} {s2 : ByteArray} {w : World} {K : Int → Value → World → Prop} (h : strings_Builder_WriteString.F p1 s2 w K) : strings_Builder_WriteString.C p1 s2 w K := by
  refine CallsV.mono (callsV_of_sh prog.mixed prog.noNum (args := [(.pointer p1), (.string s2)]) Tryz.func30 (c := bodyOf Tryz.f30) (by kernel_rfl) (by kernel_rfl) (by kernel_rfl) (R := S_i64_r.R K) ?_) fun v w1 h => S_i64_r.out h
  apply kc h; kernel_rfl

-- NOT PRINTED 32 strings_Builder_String: builtin unsafeSliceData
def strconv_FormatUint.F (n1 : Int) (n2 : Int) (w : World) (K : ByteArray → World → Prop) : Prop :=
  internal_strconv_FormatUint.C n1 n2 w fun s3 W4 =>
  K s3 W4
theorem strconv_FormatUint.ok {n1 : Int} {n2 : Int} {w : World} {K : ByteArray → World → Prop} (h : strconv_FormatUint.F n1 n2 w K) : strconv_FormatUint.C n1 n2 w K := by
  refine CallsV.mono (callsV_of_sh prog.mixed prog.noNum (args := [(.int .u64 n1), (.int .i64 n2)]) Tryz.func128 (c := bodyOf Tryz.f128) (by kernel_rfl) (by kernel_rfl) (by kernel_rfl) (R := S_s.R K) ?_) fun v w1 h => S_s.out h
  apply kc h; kernel_rfl


end Go.St
