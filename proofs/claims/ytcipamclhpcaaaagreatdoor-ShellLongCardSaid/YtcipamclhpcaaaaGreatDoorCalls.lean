import Derived.Test.YtcipamclhpcaaaaGreatDoorSeat
namespace Go.St
open Go Go.Proofs
def lAb_i64_u64_i64 (w : World) (b o : Nat) (K : Bool → Int → Int → Int → Prop) : Prop := ∃ (q1 : Bool), ∃ (n2 : Int), ∃ (n3 : Int), ∃ (n4 : Int), cellsAre w b o [(.bool q1), (.int .i64 n2), (.int .u64 n3), (.int .i64 n4)] ∧ K q1 n2 n3 n4
theorem lAb_i64_u64_i64.mk {w : World} {b o : Nat} {K : Bool → Int → Int → Int → Prop} {q1 : Bool} {n2 : Int} {n3 : Int} {n4 : Int} (e : cellsAre w b o [(.bool q1), (.int .i64 n2), (.int .u64 n3), (.int .i64 n4)]) (k : K q1 n2 n3 n4) : lAb_i64_u64_i64 w b o K := ⟨q1, n2, n3, n4, e, k⟩
theorem lAb_i64_u64_i64.of {w : World} {b o : Nat} {K : Bool → Int → Int → Int → Prop} {L : List HP} {cs : List Value} {F : HP → List HP} [i : Foc blk b cs L F] (h : Sat w L) {q1 : Bool} {n2 : Int} {n3 : Int} {n4 : Int} (e : (cs.drop o).take 4 = [(.bool q1), (.int .i64 n2), (.int .u64 n3), (.int .i64 n4)]) (k : K q1 n2 n3 n4) : lAb_i64_u64_i64 w b o K := ⟨q1, n2, n3, n4, i.cells h e, k⟩
def lAi64_u64_i64_b_l (w : World) (b o : Nat) (K : Int → Int → Int → Bool → Option Addr → Nat → Nat → Prop) : Prop := ∃ (n1 : Int), ∃ (n2 : Int), ∃ (n3 : Int), ∃ (q4 : Bool), ∃ (a5 : Option Addr), ∃ (l6 : Nat), ∃ (c7 : Nat), cellsAre w b o [(.int .i64 n1), (.int .u64 n2), (.int .i64 n3), (.bool q4), (.slice a5 l6 c7)] ∧ K n1 n2 n3 q4 a5 l6 c7
theorem lAi64_u64_i64_b_l.mk {w : World} {b o : Nat} {K : Int → Int → Int → Bool → Option Addr → Nat → Nat → Prop} {n1 : Int} {n2 : Int} {n3 : Int} {q4 : Bool} {a5 : Option Addr} {l6 : Nat} {c7 : Nat} (e : cellsAre w b o [(.int .i64 n1), (.int .u64 n2), (.int .i64 n3), (.bool q4), (.slice a5 l6 c7)]) (k : K n1 n2 n3 q4 a5 l6 c7) : lAi64_u64_i64_b_l w b o K := ⟨n1, n2, n3, q4, a5, l6, c7, e, k⟩
theorem lAi64_u64_i64_b_l.of {w : World} {b o : Nat} {K : Int → Int → Int → Bool → Option Addr → Nat → Nat → Prop} {L : List HP} {cs : List Value} {F : HP → List HP} [i : Foc blk b cs L F] (h : Sat w L) {n1 : Int} {n2 : Int} {n3 : Int} {q4 : Bool} {a5 : Option Addr} {l6 : Nat} {c7 : Nat} (e : (cs.drop o).take 5 = [(.int .i64 n1), (.int .u64 n2), (.int .i64 n3), (.bool q4), (.slice a5 l6 c7)]) (k : K n1 n2 n3 q4 a5 l6 c7) : lAi64_u64_i64_b_l w b o K := ⟨n1, n2, n3, q4, a5, l6, c7, i.cells h e, k⟩
def lAu64_l_i64_u64_u64 (w : World) (b o : Nat) (K : Int → Option Addr → Nat → Nat → Int → Int → Int → Prop) : Prop := ∃ (n1 : Int), ∃ (a2 : Option Addr), ∃ (l3 : Nat), ∃ (c4 : Nat), ∃ (n5 : Int), ∃ (n6 : Int), ∃ (n7 : Int), cellsAre w b o [(.int .u64 n1), (.slice a2 l3 c4), (.int .i64 n5), (.int .u64 n6), (.int .u64 n7)] ∧ K n1 a2 l3 c4 n5 n6 n7
theorem lAu64_l_i64_u64_u64.mk {w : World} {b o : Nat} {K : Int → Option Addr → Nat → Nat → Int → Int → Int → Prop} {n1 : Int} {a2 : Option Addr} {l3 : Nat} {c4 : Nat} {n5 : Int} {n6 : Int} {n7 : Int} (e : cellsAre w b o [(.int .u64 n1), (.slice a2 l3 c4), (.int .i64 n5), (.int .u64 n6), (.int .u64 n7)]) (k : K n1 a2 l3 c4 n5 n6 n7) : lAu64_l_i64_u64_u64 w b o K := ⟨n1, a2, l3, c4, n5, n6, n7, e, k⟩
theorem lAu64_l_i64_u64_u64.of {w : World} {b o : Nat} {K : Int → Option Addr → Nat → Nat → Int → Int → Int → Prop} {L : List HP} {cs : List Value} {F : HP → List HP} [i : Foc blk b cs L F] (h : Sat w L) {n1 : Int} {a2 : Option Addr} {l3 : Nat} {c4 : Nat} {n5 : Int} {n6 : Int} {n7 : Int} (e : (cs.drop o).take 5 = [(.int .u64 n1), (.slice a2 l3 c4), (.int .i64 n5), (.int .u64 n6), (.int .u64 n7)]) (k : K n1 a2 l3 c4 n5 n6 n7) : lAu64_l_i64_u64_u64 w b o K := ⟨n1, a2, l3, c4, n5, n6, n7, i.cells h e, k⟩
def lAu64_l_i64_u64_u64_b (w : World) (b o : Nat) (K : Int → Option Addr → Nat → Nat → Int → Int → Int → Bool → Prop) : Prop := ∃ (n1 : Int), ∃ (a2 : Option Addr), ∃ (l3 : Nat), ∃ (c4 : Nat), ∃ (n5 : Int), ∃ (n6 : Int), ∃ (n7 : Int), ∃ (q8 : Bool), cellsAre w b o [(.int .u64 n1), (.slice a2 l3 c4), (.int .i64 n5), (.int .u64 n6), (.int .u64 n7), (.bool q8)] ∧ K n1 a2 l3 c4 n5 n6 n7 q8
theorem lAu64_l_i64_u64_u64_b.mk {w : World} {b o : Nat} {K : Int → Option Addr → Nat → Nat → Int → Int → Int → Bool → Prop} {n1 : Int} {a2 : Option Addr} {l3 : Nat} {c4 : Nat} {n5 : Int} {n6 : Int} {n7 : Int} {q8 : Bool} (e : cellsAre w b o [(.int .u64 n1), (.slice a2 l3 c4), (.int .i64 n5), (.int .u64 n6), (.int .u64 n7), (.bool q8)]) (k : K n1 a2 l3 c4 n5 n6 n7 q8) : lAu64_l_i64_u64_u64_b w b o K := ⟨n1, a2, l3, c4, n5, n6, n7, q8, e, k⟩
theorem lAu64_l_i64_u64_u64_b.of {w : World} {b o : Nat} {K : Int → Option Addr → Nat → Nat → Int → Int → Int → Bool → Prop} {L : List HP} {cs : List Value} {F : HP → List HP} [i : Foc blk b cs L F] (h : Sat w L) {n1 : Int} {a2 : Option Addr} {l3 : Nat} {c4 : Nat} {n5 : Int} {n6 : Int} {n7 : Int} {q8 : Bool} (e : (cs.drop o).take 6 = [(.int .u64 n1), (.slice a2 l3 c4), (.int .i64 n5), (.int .u64 n6), (.int .u64 n7), (.bool q8)]) (k : K n1 a2 l3 c4 n5 n6 n7 q8) : lAu64_l_i64_u64_u64_b w b o K := ⟨n1, a2, l3, c4, n5, n6, n7, q8, i.cells h e, k⟩
def lAu64_p (w : World) (b o : Nat) (K : Int → Option Addr → Prop) : Prop := ∃ (n1 : Int), ∃ (p2 : Option Addr), cellsAre w b o [(.int .u64 n1), (.pointer p2)] ∧ K n1 p2
theorem lAu64_p.mk {w : World} {b o : Nat} {K : Int → Option Addr → Prop} {n1 : Int} {p2 : Option Addr} (e : cellsAre w b o [(.int .u64 n1), (.pointer p2)]) (k : K n1 p2) : lAu64_p w b o K := ⟨n1, p2, e, k⟩
theorem lAu64_p.of {w : World} {b o : Nat} {K : Int → Option Addr → Prop} {L : List HP} {cs : List Value} {F : HP → List HP} [i : Foc blk b cs L F] (h : Sat w L) {n1 : Int} {p2 : Option Addr} (e : (cs.drop o).take 2 = [(.int .u64 n1), (.pointer p2)]) (k : K n1 p2) : lAu64_p w b o K := ⟨n1, p2, i.cells h e, k⟩
def lAu8_i64_i64_l_u64_u64_l_b_i64_u64_i64_b (w : World) (b o : Nat) (K : Int → Int → Int → Option Addr → Nat → Nat → Int → Int → Option Addr → Nat → Nat → Bool → Int → Int → Int → Bool → Prop) : Prop := ∃ (n1 : Int), ∃ (n2 : Int), ∃ (n3 : Int), ∃ (a4 : Option Addr), ∃ (l5 : Nat), ∃ (c6 : Nat), ∃ (n7 : Int), ∃ (n8 : Int), ∃ (a9 : Option Addr), ∃ (l10 : Nat), ∃ (c11 : Nat), ∃ (q12 : Bool), ∃ (n13 : Int), ∃ (n14 : Int), ∃ (n15 : Int), ∃ (q16 : Bool), cellsAre w b o [(.int .u8 n1), (.int .i64 n2), (.int .i64 n3), (.slice a4 l5 c6), (.int .u64 n7), (.int .u64 n8), (.slice a9 l10 c11), (.bool q12), (.int .i64 n13), (.int .u64 n14), (.int .i64 n15), (.bool q16)] ∧ K n1 n2 n3 a4 l5 c6 n7 n8 a9 l10 c11 q12 n13 n14 n15 q16
theorem lAu8_i64_i64_l_u64_u64_l_b_i64_u64_i64_b.mk {w : World} {b o : Nat} {K : Int → Int → Int → Option Addr → Nat → Nat → Int → Int → Option Addr → Nat → Nat → Bool → Int → Int → Int → Bool → Prop} {n1 : Int} {n2 : Int} {n3 : Int} {a4 : Option Addr} {l5 : Nat} {c6 : Nat} {n7 : Int} {n8 : Int} {a9 : Option Addr} {l10 : Nat} {c11 : Nat} {q12 : Bool} {n13 : Int} {n14 : Int} {n15 : Int} {q16 : Bool} (e : cellsAre w b o [(.int .u8 n1), (.int .i64 n2), (.int .i64 n3), (.slice a4 l5 c6), (.int .u64 n7), (.int .u64 n8), (.slice a9 l10 c11), (.bool q12), (.int .i64 n13), (.int .u64 n14), (.int .i64 n15), (.bool q16)]) (k : K n1 n2 n3 a4 l5 c6 n7 n8 a9 l10 c11 q12 n13 n14 n15 q16) : lAu8_i64_i64_l_u64_u64_l_b_i64_u64_i64_b w b o K := ⟨n1, n2, n3, a4, l5, c6, n7, n8, a9, l10, c11, q12, n13, n14, n15, q16, e, k⟩
theorem lAu8_i64_i64_l_u64_u64_l_b_i64_u64_i64_b.of {w : World} {b o : Nat} {K : Int → Int → Int → Option Addr → Nat → Nat → Int → Int → Option Addr → Nat → Nat → Bool → Int → Int → Int → Bool → Prop} {L : List HP} {cs : List Value} {F : HP → List HP} [i : Foc blk b cs L F] (h : Sat w L) {n1 : Int} {n2 : Int} {n3 : Int} {a4 : Option Addr} {l5 : Nat} {c6 : Nat} {n7 : Int} {n8 : Int} {a9 : Option Addr} {l10 : Nat} {c11 : Nat} {q12 : Bool} {n13 : Int} {n14 : Int} {n15 : Int} {q16 : Bool} (e : (cs.drop o).take 12 = [(.int .u8 n1), (.int .i64 n2), (.int .i64 n3), (.slice a4 l5 c6), (.int .u64 n7), (.int .u64 n8), (.slice a9 l10 c11), (.bool q12), (.int .i64 n13), (.int .u64 n14), (.int .i64 n15), (.bool q16)]) (k : K n1 n2 n3 a4 l5 c6 n7 n8 a9 l10 c11 q12 n13 n14 n15 q16) : lAu8_i64_i64_l_u64_u64_l_b_i64_u64_i64_b w b o K := ⟨n1, n2, n3, a4, l5, c6, n7, n8, a9, l10, c11, q12, n13, n14, n15, q16, i.cells h e, k⟩
def S_.V (K : World → Prop) (v : Value) (w : World) : Prop := v = (.tuple #[]) ∧ K  w
theorem S_.mono {K K' : World → Prop} (hk : ∀  w, K  w → K'  w) {v : Value} {w : World} (h : S_.V K v w) : S_.V K' v w := by
  obtain ⟨e, h⟩ := h
  exact ⟨e, hk  _ h⟩
def S_.R (K : World → Prop) (v : Value) (w : World) : Prop :=
  gT False v fun g1 =>
  gE False g1 (
  K  w)
theorem S_.out {K : World → Prop} {v : Value} {w : World} (h : S_.R K v w) : S_.V K v w := by
  unfold S_.R at h
  replace h := gT.outF h; obtain ⟨l2, e2, h⟩ := h
  subst e2
  replace h := gE.outF h; obtain ⟨el3, h⟩ := h
  subst el3
  exact ⟨rfl, h⟩
def S_ai64_u64_i64_b_lz.V (K : Int → Int → Int → Bool → Option Addr → Nat → Nat → World → Prop) (v : Value) (w : World) : Prop := ∃ (n1 : Int), ∃ (n2 : Int), ∃ (n3 : Int), ∃ (q4 : Bool), ∃ (a5 : Option Addr), ∃ (l6 : Nat), ∃ (c7 : Nat), v = (.agg #[(.int .i64 n1), (.int .u64 n2), (.int .i64 n3), (.bool q4), (.slice a5 l6 c7)]) ∧ K n1 n2 n3 q4 a5 l6 c7 w
theorem S_ai64_u64_i64_b_lz.mono {K K' : Int → Int → Int → Bool → Option Addr → Nat → Nat → World → Prop} (hk : ∀ n1 n2 n3 q4 a5 l6 c7 w, K n1 n2 n3 q4 a5 l6 c7 w → K' n1 n2 n3 q4 a5 l6 c7 w) {v : Value} {w : World} (h : S_ai64_u64_i64_b_lz.V K v w) : S_ai64_u64_i64_b_lz.V K' v w := by
  obtain ⟨n1, n2, n3, q4, a5, l6, c7, e, h⟩ := h
  exact ⟨n1, n2, n3, q4, a5, l6, c7, e, hk n1 n2 n3 q4 a5 l6 c7 _ h⟩
def S_ai64_u64_i64_b_lz.R (K : Int → Int → Int → Bool → Option Addr → Nat → Nat → World → Prop) (v : Value) (w : World) : Prop :=
  gA False v fun g8 =>
  gC False g8 fun g9 g10 =>
  gI64 False g9 fun n1 =>
  gC False g10 fun g11 g12 =>
  gU64 False g11 fun n2 =>
  gC False g12 fun g13 g14 =>
  gI64 False g13 fun n3 =>
  gC False g14 fun g15 g16 =>
  gB False g15 fun q4 =>
  gC False g16 fun g17 g18 =>
  gL False g17 fun a5 l6 c7 =>
  gE False g18 (
  K n1 n2 n3 q4 a5 l6 c7 w)
theorem S_ai64_u64_i64_b_lz.out {K : Int → Int → Int → Bool → Option Addr → Nat → Nat → World → Prop} {v : Value} {w : World} (h : S_ai64_u64_i64_b_lz.R K v w) : S_ai64_u64_i64_b_lz.V K v w := by
  unfold S_ai64_u64_i64_b_lz.R at h
  replace h := gA.outF h; obtain ⟨l19, e19, h⟩ := h
  replace h := gC.outF h; obtain ⟨v20, us20, el20, h⟩ := h
  subst el20
  replace h := gI64.outF h; obtain ⟨n1, e21, h⟩ := h
  subst e21
  replace h := gC.outF h; obtain ⟨v22, us22, el22, h⟩ := h
  subst el22
  replace h := gU64.outF h; obtain ⟨n2, e23, h⟩ := h
  subst e23
  replace h := gC.outF h; obtain ⟨v24, us24, el24, h⟩ := h
  subst el24
  replace h := gI64.outF h; obtain ⟨n3, e25, h⟩ := h
  subst e25
  replace h := gC.outF h; obtain ⟨v26, us26, el26, h⟩ := h
  subst el26
  replace h := gB.outF h; obtain ⟨q4, e27, h⟩ := h
  subst e27
  replace h := gC.outF h; obtain ⟨v28, us28, el28, h⟩ := h
  subst el28
  replace h := gL.outF h; obtain ⟨a5, l6, c7, e29, h⟩ := h
  subst e29
  replace h := gE.outF h; obtain ⟨el30, h⟩ := h
  subst el30
  exact ⟨n1, n2, n3, q4, a5, l6, c7, e19, h⟩
def S_ai64_u64_i64_b_lz_b.V (K : Int → Int → Int → Bool → Option Addr → Nat → Nat → Bool → World → Prop) (v : Value) (w : World) : Prop := ∃ (n1 : Int), ∃ (n2 : Int), ∃ (n3 : Int), ∃ (q4 : Bool), ∃ (a5 : Option Addr), ∃ (l6 : Nat), ∃ (c7 : Nat), ∃ (q8 : Bool), v = (.tuple #[(.agg #[(.int .i64 n1), (.int .u64 n2), (.int .i64 n3), (.bool q4), (.slice a5 l6 c7)]), (.bool q8)]) ∧ K n1 n2 n3 q4 a5 l6 c7 q8 w
theorem S_ai64_u64_i64_b_lz_b.mono {K K' : Int → Int → Int → Bool → Option Addr → Nat → Nat → Bool → World → Prop} (hk : ∀ n1 n2 n3 q4 a5 l6 c7 q8 w, K n1 n2 n3 q4 a5 l6 c7 q8 w → K' n1 n2 n3 q4 a5 l6 c7 q8 w) {v : Value} {w : World} (h : S_ai64_u64_i64_b_lz_b.V K v w) : S_ai64_u64_i64_b_lz_b.V K' v w := by
  obtain ⟨n1, n2, n3, q4, a5, l6, c7, q8, e, h⟩ := h
  exact ⟨n1, n2, n3, q4, a5, l6, c7, q8, e, hk n1 n2 n3 q4 a5 l6 c7 q8 _ h⟩
def S_ai64_u64_i64_b_lz_b.R (K : Int → Int → Int → Bool → Option Addr → Nat → Nat → Bool → World → Prop) (v : Value) (w : World) : Prop :=
  gT False v fun g9 =>
  gC False g9 fun g10 g11 =>
  gA False g10 fun g12 =>
  gC False g12 fun g13 g14 =>
  gI64 False g13 fun n1 =>
  gC False g14 fun g15 g16 =>
  gU64 False g15 fun n2 =>
  gC False g16 fun g17 g18 =>
  gI64 False g17 fun n3 =>
  gC False g18 fun g19 g20 =>
  gB False g19 fun q4 =>
  gC False g20 fun g21 g22 =>
  gL False g21 fun a5 l6 c7 =>
  gE False g22 (
  gC False g11 fun g23 g24 =>
  gB False g23 fun q8 =>
  gE False g24 (
  K n1 n2 n3 q4 a5 l6 c7 q8 w))
theorem S_ai64_u64_i64_b_lz_b.out {K : Int → Int → Int → Bool → Option Addr → Nat → Nat → Bool → World → Prop} {v : Value} {w : World} (h : S_ai64_u64_i64_b_lz_b.R K v w) : S_ai64_u64_i64_b_lz_b.V K v w := by
  unfold S_ai64_u64_i64_b_lz_b.R at h
  replace h := gT.outF h; obtain ⟨l25, e25, h⟩ := h
  subst e25
  replace h := gC.outF h; obtain ⟨v26, us26, el26, h⟩ := h
  subst el26
  replace h := gA.outF h; obtain ⟨l27, e27, h⟩ := h
  replace h := gC.outF h; obtain ⟨v28, us28, el28, h⟩ := h
  subst el28
  replace h := gI64.outF h; obtain ⟨n1, e29, h⟩ := h
  subst e29
  replace h := gC.outF h; obtain ⟨v30, us30, el30, h⟩ := h
  subst el30
  replace h := gU64.outF h; obtain ⟨n2, e31, h⟩ := h
  subst e31
  replace h := gC.outF h; obtain ⟨v32, us32, el32, h⟩ := h
  subst el32
  replace h := gI64.outF h; obtain ⟨n3, e33, h⟩ := h
  subst e33
  replace h := gC.outF h; obtain ⟨v34, us34, el34, h⟩ := h
  subst el34
  replace h := gB.outF h; obtain ⟨q4, e35, h⟩ := h
  subst e35
  replace h := gC.outF h; obtain ⟨v36, us36, el36, h⟩ := h
  subst el36
  replace h := gL.outF h; obtain ⟨a5, l6, c7, e37, h⟩ := h
  subst e37
  replace h := gE.outF h; obtain ⟨el38, h⟩ := h
  subst el38
  subst e27
  replace h := gC.outF h; obtain ⟨v39, us39, el39, h⟩ := h
  subst el39
  replace h := gB.outF h; obtain ⟨q8, e40, h⟩ := h
  subst e40
  replace h := gE.outF h; obtain ⟨el41, h⟩ := h
  subst el41
  exact ⟨n1, n2, n3, q4, a5, l6, c7, q8, rfl, h⟩
def S_au64_l_i64_u64_u64z.V (K : Int → Option Addr → Nat → Nat → Int → Int → Int → World → Prop) (v : Value) (w : World) : Prop := ∃ (n1 : Int), ∃ (a2 : Option Addr), ∃ (l3 : Nat), ∃ (c4 : Nat), ∃ (n5 : Int), ∃ (n6 : Int), ∃ (n7 : Int), v = (.agg #[(.int .u64 n1), (.slice a2 l3 c4), (.int .i64 n5), (.int .u64 n6), (.int .u64 n7)]) ∧ K n1 a2 l3 c4 n5 n6 n7 w
theorem S_au64_l_i64_u64_u64z.mono {K K' : Int → Option Addr → Nat → Nat → Int → Int → Int → World → Prop} (hk : ∀ n1 a2 l3 c4 n5 n6 n7 w, K n1 a2 l3 c4 n5 n6 n7 w → K' n1 a2 l3 c4 n5 n6 n7 w) {v : Value} {w : World} (h : S_au64_l_i64_u64_u64z.V K v w) : S_au64_l_i64_u64_u64z.V K' v w := by
  obtain ⟨n1, a2, l3, c4, n5, n6, n7, e, h⟩ := h
  exact ⟨n1, a2, l3, c4, n5, n6, n7, e, hk n1 a2 l3 c4 n5 n6 n7 _ h⟩
def S_au64_l_i64_u64_u64z.R (K : Int → Option Addr → Nat → Nat → Int → Int → Int → World → Prop) (v : Value) (w : World) : Prop :=
  gA False v fun g8 =>
  gC False g8 fun g9 g10 =>
  gU64 False g9 fun n1 =>
  gC False g10 fun g11 g12 =>
  gL False g11 fun a2 l3 c4 =>
  gC False g12 fun g13 g14 =>
  gI64 False g13 fun n5 =>
  gC False g14 fun g15 g16 =>
  gU64 False g15 fun n6 =>
  gC False g16 fun g17 g18 =>
  gU64 False g17 fun n7 =>
  gE False g18 (
  K n1 a2 l3 c4 n5 n6 n7 w)
theorem S_au64_l_i64_u64_u64z.out {K : Int → Option Addr → Nat → Nat → Int → Int → Int → World → Prop} {v : Value} {w : World} (h : S_au64_l_i64_u64_u64z.R K v w) : S_au64_l_i64_u64_u64z.V K v w := by
  unfold S_au64_l_i64_u64_u64z.R at h
  replace h := gA.outF h; obtain ⟨l19, e19, h⟩ := h
  replace h := gC.outF h; obtain ⟨v20, us20, el20, h⟩ := h
  subst el20
  replace h := gU64.outF h; obtain ⟨n1, e21, h⟩ := h
  subst e21
  replace h := gC.outF h; obtain ⟨v22, us22, el22, h⟩ := h
  subst el22
  replace h := gL.outF h; obtain ⟨a2, l3, c4, e23, h⟩ := h
  subst e23
  replace h := gC.outF h; obtain ⟨v24, us24, el24, h⟩ := h
  subst el24
  replace h := gI64.outF h; obtain ⟨n5, e25, h⟩ := h
  subst e25
  replace h := gC.outF h; obtain ⟨v26, us26, el26, h⟩ := h
  subst el26
  replace h := gU64.outF h; obtain ⟨n6, e27, h⟩ := h
  subst e27
  replace h := gC.outF h; obtain ⟨v28, us28, el28, h⟩ := h
  subst el28
  replace h := gU64.outF h; obtain ⟨n7, e29, h⟩ := h
  subst e29
  replace h := gE.outF h; obtain ⟨el30, h⟩ := h
  subst el30
  exact ⟨n1, a2, l3, c4, n5, n6, n7, e19, h⟩
def S_au64_l_i64_u64_u64z_b.V (K : Int → Option Addr → Nat → Nat → Int → Int → Int → Bool → World → Prop) (v : Value) (w : World) : Prop := ∃ (n1 : Int), ∃ (a2 : Option Addr), ∃ (l3 : Nat), ∃ (c4 : Nat), ∃ (n5 : Int), ∃ (n6 : Int), ∃ (n7 : Int), ∃ (q8 : Bool), v = (.tuple #[(.agg #[(.int .u64 n1), (.slice a2 l3 c4), (.int .i64 n5), (.int .u64 n6), (.int .u64 n7)]), (.bool q8)]) ∧ K n1 a2 l3 c4 n5 n6 n7 q8 w
theorem S_au64_l_i64_u64_u64z_b.mono {K K' : Int → Option Addr → Nat → Nat → Int → Int → Int → Bool → World → Prop} (hk : ∀ n1 a2 l3 c4 n5 n6 n7 q8 w, K n1 a2 l3 c4 n5 n6 n7 q8 w → K' n1 a2 l3 c4 n5 n6 n7 q8 w) {v : Value} {w : World} (h : S_au64_l_i64_u64_u64z_b.V K v w) : S_au64_l_i64_u64_u64z_b.V K' v w := by
  obtain ⟨n1, a2, l3, c4, n5, n6, n7, q8, e, h⟩ := h
  exact ⟨n1, a2, l3, c4, n5, n6, n7, q8, e, hk n1 a2 l3 c4 n5 n6 n7 q8 _ h⟩
def S_au64_l_i64_u64_u64z_b.R (K : Int → Option Addr → Nat → Nat → Int → Int → Int → Bool → World → Prop) (v : Value) (w : World) : Prop :=
  gT False v fun g9 =>
  gC False g9 fun g10 g11 =>
  gA False g10 fun g12 =>
  gC False g12 fun g13 g14 =>
  gU64 False g13 fun n1 =>
  gC False g14 fun g15 g16 =>
  gL False g15 fun a2 l3 c4 =>
  gC False g16 fun g17 g18 =>
  gI64 False g17 fun n5 =>
  gC False g18 fun g19 g20 =>
  gU64 False g19 fun n6 =>
  gC False g20 fun g21 g22 =>
  gU64 False g21 fun n7 =>
  gE False g22 (
  gC False g11 fun g23 g24 =>
  gB False g23 fun q8 =>
  gE False g24 (
  K n1 a2 l3 c4 n5 n6 n7 q8 w))
theorem S_au64_l_i64_u64_u64z_b.out {K : Int → Option Addr → Nat → Nat → Int → Int → Int → Bool → World → Prop} {v : Value} {w : World} (h : S_au64_l_i64_u64_u64z_b.R K v w) : S_au64_l_i64_u64_u64z_b.V K v w := by
  unfold S_au64_l_i64_u64_u64z_b.R at h
  replace h := gT.outF h; obtain ⟨l25, e25, h⟩ := h
  subst e25
  replace h := gC.outF h; obtain ⟨v26, us26, el26, h⟩ := h
  subst el26
  replace h := gA.outF h; obtain ⟨l27, e27, h⟩ := h
  replace h := gC.outF h; obtain ⟨v28, us28, el28, h⟩ := h
  subst el28
  replace h := gU64.outF h; obtain ⟨n1, e29, h⟩ := h
  subst e29
  replace h := gC.outF h; obtain ⟨v30, us30, el30, h⟩ := h
  subst el30
  replace h := gL.outF h; obtain ⟨a2, l3, c4, e31, h⟩ := h
  subst e31
  replace h := gC.outF h; obtain ⟨v32, us32, el32, h⟩ := h
  subst el32
  replace h := gI64.outF h; obtain ⟨n5, e33, h⟩ := h
  subst e33
  replace h := gC.outF h; obtain ⟨v34, us34, el34, h⟩ := h
  subst el34
  replace h := gU64.outF h; obtain ⟨n6, e35, h⟩ := h
  subst e35
  replace h := gC.outF h; obtain ⟨v36, us36, el36, h⟩ := h
  subst el36
  replace h := gU64.outF h; obtain ⟨n7, e37, h⟩ := h
  subst e37
  replace h := gE.outF h; obtain ⟨el38, h⟩ := h
  subst el38
  subst e27
  replace h := gC.outF h; obtain ⟨v39, us39, el39, h⟩ := h
  subst el39
  replace h := gB.outF h; obtain ⟨q8, e40, h⟩ := h
  subst e40
  replace h := gE.outF h; obtain ⟨el41, h⟩ := h
  subst el41
  exact ⟨n1, a2, l3, c4, n5, n6, n7, q8, rfl, h⟩
def S_au64_pz_b.V (K : Int → Option Addr → Bool → World → Prop) (v : Value) (w : World) : Prop := ∃ (n1 : Int), ∃ (p2 : Option Addr), ∃ (q3 : Bool), v = (.tuple #[(.agg #[(.int .u64 n1), (.pointer p2)]), (.bool q3)]) ∧ K n1 p2 q3 w
theorem S_au64_pz_b.mono {K K' : Int → Option Addr → Bool → World → Prop} (hk : ∀ n1 p2 q3 w, K n1 p2 q3 w → K' n1 p2 q3 w) {v : Value} {w : World} (h : S_au64_pz_b.V K v w) : S_au64_pz_b.V K' v w := by
  obtain ⟨n1, p2, q3, e, h⟩ := h
  exact ⟨n1, p2, q3, e, hk n1 p2 q3 _ h⟩
def S_au64_pz_b.R (K : Int → Option Addr → Bool → World → Prop) (v : Value) (w : World) : Prop :=
  gT False v fun g4 =>
  gC False g4 fun g5 g6 =>
  gA False g5 fun g7 =>
  gC False g7 fun g8 g9 =>
  gU64 False g8 fun n1 =>
  gC False g9 fun g10 g11 =>
  gP False g10 fun p2 =>
  gE False g11 (
  gC False g6 fun g12 g13 =>
  gB False g12 fun q3 =>
  gE False g13 (
  K n1 p2 q3 w))
theorem S_au64_pz_b.out {K : Int → Option Addr → Bool → World → Prop} {v : Value} {w : World} (h : S_au64_pz_b.R K v w) : S_au64_pz_b.V K v w := by
  unfold S_au64_pz_b.R at h
  replace h := gT.outF h; obtain ⟨l14, e14, h⟩ := h
  subst e14
  replace h := gC.outF h; obtain ⟨v15, us15, el15, h⟩ := h
  subst el15
  replace h := gA.outF h; obtain ⟨l16, e16, h⟩ := h
  replace h := gC.outF h; obtain ⟨v17, us17, el17, h⟩ := h
  subst el17
  replace h := gU64.outF h; obtain ⟨n1, e18, h⟩ := h
  subst e18
  replace h := gC.outF h; obtain ⟨v19, us19, el19, h⟩ := h
  subst el19
  replace h := gP.outF h; obtain ⟨p2, e20, h⟩ := h
  subst e20
  replace h := gE.outF h; obtain ⟨el21, h⟩ := h
  subst el21
  subst e16
  replace h := gC.outF h; obtain ⟨v22, us22, el22, h⟩ := h
  subst el22
  replace h := gB.outF h; obtain ⟨q3, e23, h⟩ := h
  subst e23
  replace h := gE.outF h; obtain ⟨el24, h⟩ := h
  subst el24
  exact ⟨n1, p2, q3, rfl, h⟩
def S_au8_i64_i64_l_u64_u64_l_b_i64_u64_i64_bz.V (K : Int → Int → Int → Option Addr → Nat → Nat → Int → Int → Option Addr → Nat → Nat → Bool → Int → Int → Int → Bool → World → Prop) (v : Value) (w : World) : Prop := ∃ (n1 : Int), ∃ (n2 : Int), ∃ (n3 : Int), ∃ (a4 : Option Addr), ∃ (l5 : Nat), ∃ (c6 : Nat), ∃ (n7 : Int), ∃ (n8 : Int), ∃ (a9 : Option Addr), ∃ (l10 : Nat), ∃ (c11 : Nat), ∃ (q12 : Bool), ∃ (n13 : Int), ∃ (n14 : Int), ∃ (n15 : Int), ∃ (q16 : Bool), v = (.agg #[(.int .u8 n1), (.int .i64 n2), (.int .i64 n3), (.slice a4 l5 c6), (.int .u64 n7), (.int .u64 n8), (.slice a9 l10 c11), (.bool q12), (.int .i64 n13), (.int .u64 n14), (.int .i64 n15), (.bool q16)]) ∧ K n1 n2 n3 a4 l5 c6 n7 n8 a9 l10 c11 q12 n13 n14 n15 q16 w
theorem S_au8_i64_i64_l_u64_u64_l_b_i64_u64_i64_bz.mono {K K' : Int → Int → Int → Option Addr → Nat → Nat → Int → Int → Option Addr → Nat → Nat → Bool → Int → Int → Int → Bool → World → Prop} (hk : ∀ n1 n2 n3 a4 l5 c6 n7 n8 a9 l10 c11 q12 n13 n14 n15 q16 w, K n1 n2 n3 a4 l5 c6 n7 n8 a9 l10 c11 q12 n13 n14 n15 q16 w → K' n1 n2 n3 a4 l5 c6 n7 n8 a9 l10 c11 q12 n13 n14 n15 q16 w) {v : Value} {w : World} (h : S_au8_i64_i64_l_u64_u64_l_b_i64_u64_i64_bz.V K v w) : S_au8_i64_i64_l_u64_u64_l_b_i64_u64_i64_bz.V K' v w := by
  obtain ⟨n1, n2, n3, a4, l5, c6, n7, n8, a9, l10, c11, q12, n13, n14, n15, q16, e, h⟩ := h
  exact ⟨n1, n2, n3, a4, l5, c6, n7, n8, a9, l10, c11, q12, n13, n14, n15, q16, e, hk n1 n2 n3 a4 l5 c6 n7 n8 a9 l10 c11 q12 n13 n14 n15 q16 _ h⟩
def S_au8_i64_i64_l_u64_u64_l_b_i64_u64_i64_bz.R (K : Int → Int → Int → Option Addr → Nat → Nat → Int → Int → Option Addr → Nat → Nat → Bool → Int → Int → Int → Bool → World → Prop) (v : Value) (w : World) : Prop :=
  gA False v fun g17 =>
  gC False g17 fun g18 g19 =>
  gU8 False g18 fun n1 =>
  gC False g19 fun g20 g21 =>
  gI64 False g20 fun n2 =>
  gC False g21 fun g22 g23 =>
  gI64 False g22 fun n3 =>
  gC False g23 fun g24 g25 =>
  gL False g24 fun a4 l5 c6 =>
  gC False g25 fun g26 g27 =>
  gU64 False g26 fun n7 =>
  gC False g27 fun g28 g29 =>
  gU64 False g28 fun n8 =>
  gC False g29 fun g30 g31 =>
  gL False g30 fun a9 l10 c11 =>
  gC False g31 fun g32 g33 =>
  gB False g32 fun q12 =>
  gC False g33 fun g34 g35 =>
  gI64 False g34 fun n13 =>
  gC False g35 fun g36 g37 =>
  gU64 False g36 fun n14 =>
  gC False g37 fun g38 g39 =>
  gI64 False g38 fun n15 =>
  gC False g39 fun g40 g41 =>
  gB False g40 fun q16 =>
  gE False g41 (
  K n1 n2 n3 a4 l5 c6 n7 n8 a9 l10 c11 q12 n13 n14 n15 q16 w)
theorem S_au8_i64_i64_l_u64_u64_l_b_i64_u64_i64_bz.out {K : Int → Int → Int → Option Addr → Nat → Nat → Int → Int → Option Addr → Nat → Nat → Bool → Int → Int → Int → Bool → World → Prop} {v : Value} {w : World} (h : S_au8_i64_i64_l_u64_u64_l_b_i64_u64_i64_bz.R K v w) : S_au8_i64_i64_l_u64_u64_l_b_i64_u64_i64_bz.V K v w := by
  unfold S_au8_i64_i64_l_u64_u64_l_b_i64_u64_i64_bz.R at h
  replace h := gA.outF h; obtain ⟨l42, e42, h⟩ := h
  replace h := gC.outF h; obtain ⟨v43, us43, el43, h⟩ := h
  subst el43
  replace h := gU8.outF h; obtain ⟨n1, e44, h⟩ := h
  subst e44
  replace h := gC.outF h; obtain ⟨v45, us45, el45, h⟩ := h
  subst el45
  replace h := gI64.outF h; obtain ⟨n2, e46, h⟩ := h
  subst e46
  replace h := gC.outF h; obtain ⟨v47, us47, el47, h⟩ := h
  subst el47
  replace h := gI64.outF h; obtain ⟨n3, e48, h⟩ := h
  subst e48
  replace h := gC.outF h; obtain ⟨v49, us49, el49, h⟩ := h
  subst el49
  replace h := gL.outF h; obtain ⟨a4, l5, c6, e50, h⟩ := h
  subst e50
  replace h := gC.outF h; obtain ⟨v51, us51, el51, h⟩ := h
  subst el51
  replace h := gU64.outF h; obtain ⟨n7, e52, h⟩ := h
  subst e52
  replace h := gC.outF h; obtain ⟨v53, us53, el53, h⟩ := h
  subst el53
  replace h := gU64.outF h; obtain ⟨n8, e54, h⟩ := h
  subst e54
  replace h := gC.outF h; obtain ⟨v55, us55, el55, h⟩ := h
  subst el55
  replace h := gL.outF h; obtain ⟨a9, l10, c11, e56, h⟩ := h
  subst e56
  replace h := gC.outF h; obtain ⟨v57, us57, el57, h⟩ := h
  subst el57
  replace h := gB.outF h; obtain ⟨q12, e58, h⟩ := h
  subst e58
  replace h := gC.outF h; obtain ⟨v59, us59, el59, h⟩ := h
  subst el59
  replace h := gI64.outF h; obtain ⟨n13, e60, h⟩ := h
  subst e60
  replace h := gC.outF h; obtain ⟨v61, us61, el61, h⟩ := h
  subst el61
  replace h := gU64.outF h; obtain ⟨n14, e62, h⟩ := h
  subst e62
  replace h := gC.outF h; obtain ⟨v63, us63, el63, h⟩ := h
  subst el63
  replace h := gI64.outF h; obtain ⟨n15, e64, h⟩ := h
  subst e64
  replace h := gC.outF h; obtain ⟨v65, us65, el65, h⟩ := h
  subst el65
  replace h := gB.outF h; obtain ⟨q16, e66, h⟩ := h
  subst e66
  replace h := gE.outF h; obtain ⟨el67, h⟩ := h
  subst el67
  exact ⟨n1, n2, n3, a4, l5, c6, n7, n8, a9, l10, c11, q12, n13, n14, n15, q16, e42, h⟩
def S_au8_i64_i64_l_u64_u64_l_b_i64_u64_i64_bz_b.V (K : Int → Int → Int → Option Addr → Nat → Nat → Int → Int → Option Addr → Nat → Nat → Bool → Int → Int → Int → Bool → Bool → World → Prop) (v : Value) (w : World) : Prop := ∃ (n1 : Int), ∃ (n2 : Int), ∃ (n3 : Int), ∃ (a4 : Option Addr), ∃ (l5 : Nat), ∃ (c6 : Nat), ∃ (n7 : Int), ∃ (n8 : Int), ∃ (a9 : Option Addr), ∃ (l10 : Nat), ∃ (c11 : Nat), ∃ (q12 : Bool), ∃ (n13 : Int), ∃ (n14 : Int), ∃ (n15 : Int), ∃ (q16 : Bool), ∃ (q17 : Bool), v = (.tuple #[(.agg #[(.int .u8 n1), (.int .i64 n2), (.int .i64 n3), (.slice a4 l5 c6), (.int .u64 n7), (.int .u64 n8), (.slice a9 l10 c11), (.bool q12), (.int .i64 n13), (.int .u64 n14), (.int .i64 n15), (.bool q16)]), (.bool q17)]) ∧ K n1 n2 n3 a4 l5 c6 n7 n8 a9 l10 c11 q12 n13 n14 n15 q16 q17 w
theorem S_au8_i64_i64_l_u64_u64_l_b_i64_u64_i64_bz_b.mono {K K' : Int → Int → Int → Option Addr → Nat → Nat → Int → Int → Option Addr → Nat → Nat → Bool → Int → Int → Int → Bool → Bool → World → Prop} (hk : ∀ n1 n2 n3 a4 l5 c6 n7 n8 a9 l10 c11 q12 n13 n14 n15 q16 q17 w, K n1 n2 n3 a4 l5 c6 n7 n8 a9 l10 c11 q12 n13 n14 n15 q16 q17 w → K' n1 n2 n3 a4 l5 c6 n7 n8 a9 l10 c11 q12 n13 n14 n15 q16 q17 w) {v : Value} {w : World} (h : S_au8_i64_i64_l_u64_u64_l_b_i64_u64_i64_bz_b.V K v w) : S_au8_i64_i64_l_u64_u64_l_b_i64_u64_i64_bz_b.V K' v w := by
  obtain ⟨n1, n2, n3, a4, l5, c6, n7, n8, a9, l10, c11, q12, n13, n14, n15, q16, q17, e, h⟩ := h
  exact ⟨n1, n2, n3, a4, l5, c6, n7, n8, a9, l10, c11, q12, n13, n14, n15, q16, q17, e, hk n1 n2 n3 a4 l5 c6 n7 n8 a9 l10 c11 q12 n13 n14 n15 q16 q17 _ h⟩
def S_au8_i64_i64_l_u64_u64_l_b_i64_u64_i64_bz_b.R (K : Int → Int → Int → Option Addr → Nat → Nat → Int → Int → Option Addr → Nat → Nat → Bool → Int → Int → Int → Bool → Bool → World → Prop) (v : Value) (w : World) : Prop :=
  gT False v fun g18 =>
  gC False g18 fun g19 g20 =>
  gA False g19 fun g21 =>
  gC False g21 fun g22 g23 =>
  gU8 False g22 fun n1 =>
  gC False g23 fun g24 g25 =>
  gI64 False g24 fun n2 =>
  gC False g25 fun g26 g27 =>
  gI64 False g26 fun n3 =>
  gC False g27 fun g28 g29 =>
  gL False g28 fun a4 l5 c6 =>
  gC False g29 fun g30 g31 =>
  gU64 False g30 fun n7 =>
  gC False g31 fun g32 g33 =>
  gU64 False g32 fun n8 =>
  gC False g33 fun g34 g35 =>
  gL False g34 fun a9 l10 c11 =>
  gC False g35 fun g36 g37 =>
  gB False g36 fun q12 =>
  gC False g37 fun g38 g39 =>
  gI64 False g38 fun n13 =>
  gC False g39 fun g40 g41 =>
  gU64 False g40 fun n14 =>
  gC False g41 fun g42 g43 =>
  gI64 False g42 fun n15 =>
  gC False g43 fun g44 g45 =>
  gB False g44 fun q16 =>
  gE False g45 (
  gC False g20 fun g46 g47 =>
  gB False g46 fun q17 =>
  gE False g47 (
  K n1 n2 n3 a4 l5 c6 n7 n8 a9 l10 c11 q12 n13 n14 n15 q16 q17 w))
theorem S_au8_i64_i64_l_u64_u64_l_b_i64_u64_i64_bz_b.out {K : Int → Int → Int → Option Addr → Nat → Nat → Int → Int → Option Addr → Nat → Nat → Bool → Int → Int → Int → Bool → Bool → World → Prop} {v : Value} {w : World} (h : S_au8_i64_i64_l_u64_u64_l_b_i64_u64_i64_bz_b.R K v w) : S_au8_i64_i64_l_u64_u64_l_b_i64_u64_i64_bz_b.V K v w := by
  unfold S_au8_i64_i64_l_u64_u64_l_b_i64_u64_i64_bz_b.R at h
  replace h := gT.outF h; obtain ⟨l48, e48, h⟩ := h
  subst e48
  replace h := gC.outF h; obtain ⟨v49, us49, el49, h⟩ := h
  subst el49
  replace h := gA.outF h; obtain ⟨l50, e50, h⟩ := h
  replace h := gC.outF h; obtain ⟨v51, us51, el51, h⟩ := h
  subst el51
  replace h := gU8.outF h; obtain ⟨n1, e52, h⟩ := h
  subst e52
  replace h := gC.outF h; obtain ⟨v53, us53, el53, h⟩ := h
  subst el53
  replace h := gI64.outF h; obtain ⟨n2, e54, h⟩ := h
  subst e54
  replace h := gC.outF h; obtain ⟨v55, us55, el55, h⟩ := h
  subst el55
  replace h := gI64.outF h; obtain ⟨n3, e56, h⟩ := h
  subst e56
  replace h := gC.outF h; obtain ⟨v57, us57, el57, h⟩ := h
  subst el57
  replace h := gL.outF h; obtain ⟨a4, l5, c6, e58, h⟩ := h
  subst e58
  replace h := gC.outF h; obtain ⟨v59, us59, el59, h⟩ := h
  subst el59
  replace h := gU64.outF h; obtain ⟨n7, e60, h⟩ := h
  subst e60
  replace h := gC.outF h; obtain ⟨v61, us61, el61, h⟩ := h
  subst el61
  replace h := gU64.outF h; obtain ⟨n8, e62, h⟩ := h
  subst e62
  replace h := gC.outF h; obtain ⟨v63, us63, el63, h⟩ := h
  subst el63
  replace h := gL.outF h; obtain ⟨a9, l10, c11, e64, h⟩ := h
  subst e64
  replace h := gC.outF h; obtain ⟨v65, us65, el65, h⟩ := h
  subst el65
  replace h := gB.outF h; obtain ⟨q12, e66, h⟩ := h
  subst e66
  replace h := gC.outF h; obtain ⟨v67, us67, el67, h⟩ := h
  subst el67
  replace h := gI64.outF h; obtain ⟨n13, e68, h⟩ := h
  subst e68
  replace h := gC.outF h; obtain ⟨v69, us69, el69, h⟩ := h
  subst el69
  replace h := gU64.outF h; obtain ⟨n14, e70, h⟩ := h
  subst e70
  replace h := gC.outF h; obtain ⟨v71, us71, el71, h⟩ := h
  subst el71
  replace h := gI64.outF h; obtain ⟨n15, e72, h⟩ := h
  subst e72
  replace h := gC.outF h; obtain ⟨v73, us73, el73, h⟩ := h
  subst el73
  replace h := gB.outF h; obtain ⟨q16, e74, h⟩ := h
  subst e74
  replace h := gE.outF h; obtain ⟨el75, h⟩ := h
  subst el75
  subst e50
  replace h := gC.outF h; obtain ⟨v76, us76, el76, h⟩ := h
  subst el76
  replace h := gB.outF h; obtain ⟨q17, e77, h⟩ := h
  subst e77
  replace h := gE.outF h; obtain ⟨el78, h⟩ := h
  subst el78
  exact ⟨n1, n2, n3, a4, l5, c6, n7, n8, a9, l10, c11, q12, n13, n14, n15, q16, q17, rfl, h⟩
def S_b.V (K : Bool → World → Prop) (v : Value) (w : World) : Prop := ∃ (q1 : Bool), v = (.bool q1) ∧ K q1 w
theorem S_b.mono {K K' : Bool → World → Prop} (hk : ∀ q1 w, K q1 w → K' q1 w) {v : Value} {w : World} (h : S_b.V K v w) : S_b.V K' v w := by
  obtain ⟨q1, e, h⟩ := h
  exact ⟨q1, e, hk q1 _ h⟩
def S_b.R (K : Bool → World → Prop) (v : Value) (w : World) : Prop :=
  gB False v fun q1 =>
  K q1 w
theorem S_b.out {K : Bool → World → Prop} {v : Value} {w : World} (h : S_b.R K v w) : S_b.V K v w := by
  unfold S_b.R at h
  replace h := gB.outF h; obtain ⟨q1, e2, h⟩ := h
  exact ⟨q1, e2, h⟩
def S_b_i64.V (K : Bool → Int → World → Prop) (v : Value) (w : World) : Prop := ∃ (q1 : Bool), ∃ (n2 : Int), v = (.tuple #[(.bool q1), (.int .i64 n2)]) ∧ K q1 n2 w
theorem S_b_i64.mono {K K' : Bool → Int → World → Prop} (hk : ∀ q1 n2 w, K q1 n2 w → K' q1 n2 w) {v : Value} {w : World} (h : S_b_i64.V K v w) : S_b_i64.V K' v w := by
  obtain ⟨q1, n2, e, h⟩ := h
  exact ⟨q1, n2, e, hk q1 n2 _ h⟩
def S_b_i64.R (K : Bool → Int → World → Prop) (v : Value) (w : World) : Prop :=
  gT False v fun g3 =>
  gC False g3 fun g4 g5 =>
  gB False g4 fun q1 =>
  gC False g5 fun g6 g7 =>
  gI64 False g6 fun n2 =>
  gE False g7 (
  K q1 n2 w)
theorem S_b_i64.out {K : Bool → Int → World → Prop} {v : Value} {w : World} (h : S_b_i64.R K v w) : S_b_i64.V K v w := by
  unfold S_b_i64.R at h
  replace h := gT.outF h; obtain ⟨l8, e8, h⟩ := h
  subst e8
  replace h := gC.outF h; obtain ⟨v9, us9, el9, h⟩ := h
  subst el9
  replace h := gB.outF h; obtain ⟨q1, e10, h⟩ := h
  subst e10
  replace h := gC.outF h; obtain ⟨v11, us11, el11, h⟩ := h
  subst el11
  replace h := gI64.outF h; obtain ⟨n2, e12, h⟩ := h
  subst e12
  replace h := gE.outF h; obtain ⟨el13, h⟩ := h
  subst el13
  exact ⟨q1, n2, rfl, h⟩
def S_i64.V (K : Int → World → Prop) (v : Value) (w : World) : Prop := ∃ (n1 : Int), v = (.int .i64 n1) ∧ K n1 w
theorem S_i64.mono {K K' : Int → World → Prop} (hk : ∀ n1 w, K n1 w → K' n1 w) {v : Value} {w : World} (h : S_i64.V K v w) : S_i64.V K' v w := by
  obtain ⟨n1, e, h⟩ := h
  exact ⟨n1, e, hk n1 _ h⟩
def S_i64.R (K : Int → World → Prop) (v : Value) (w : World) : Prop :=
  gI64 False v fun n1 =>
  K n1 w
theorem S_i64.out {K : Int → World → Prop} {v : Value} {w : World} (h : S_i64.R K v w) : S_i64.V K v w := by
  unfold S_i64.R at h
  replace h := gI64.outF h; obtain ⟨n1, e2, h⟩ := h
  exact ⟨n1, e2, h⟩
def S_i64_au64_l_i64_u64_u64z_b.V (K : Int → Int → Option Addr → Nat → Nat → Int → Int → Int → Bool → World → Prop) (v : Value) (w : World) : Prop := ∃ (n1 : Int), ∃ (n2 : Int), ∃ (a3 : Option Addr), ∃ (l4 : Nat), ∃ (c5 : Nat), ∃ (n6 : Int), ∃ (n7 : Int), ∃ (n8 : Int), ∃ (q9 : Bool), v = (.tuple #[(.int .i64 n1), (.agg #[(.int .u64 n2), (.slice a3 l4 c5), (.int .i64 n6), (.int .u64 n7), (.int .u64 n8)]), (.bool q9)]) ∧ K n1 n2 a3 l4 c5 n6 n7 n8 q9 w
theorem S_i64_au64_l_i64_u64_u64z_b.mono {K K' : Int → Int → Option Addr → Nat → Nat → Int → Int → Int → Bool → World → Prop} (hk : ∀ n1 n2 a3 l4 c5 n6 n7 n8 q9 w, K n1 n2 a3 l4 c5 n6 n7 n8 q9 w → K' n1 n2 a3 l4 c5 n6 n7 n8 q9 w) {v : Value} {w : World} (h : S_i64_au64_l_i64_u64_u64z_b.V K v w) : S_i64_au64_l_i64_u64_u64z_b.V K' v w := by
  obtain ⟨n1, n2, a3, l4, c5, n6, n7, n8, q9, e, h⟩ := h
  exact ⟨n1, n2, a3, l4, c5, n6, n7, n8, q9, e, hk n1 n2 a3 l4 c5 n6 n7 n8 q9 _ h⟩
def S_i64_au64_l_i64_u64_u64z_b.R (K : Int → Int → Option Addr → Nat → Nat → Int → Int → Int → Bool → World → Prop) (v : Value) (w : World) : Prop :=
  gT False v fun g10 =>
  gC False g10 fun g11 g12 =>
  gI64 False g11 fun n1 =>
  gC False g12 fun g13 g14 =>
  gA False g13 fun g15 =>
  gC False g15 fun g16 g17 =>
  gU64 False g16 fun n2 =>
  gC False g17 fun g18 g19 =>
  gL False g18 fun a3 l4 c5 =>
  gC False g19 fun g20 g21 =>
  gI64 False g20 fun n6 =>
  gC False g21 fun g22 g23 =>
  gU64 False g22 fun n7 =>
  gC False g23 fun g24 g25 =>
  gU64 False g24 fun n8 =>
  gE False g25 (
  gC False g14 fun g26 g27 =>
  gB False g26 fun q9 =>
  gE False g27 (
  K n1 n2 a3 l4 c5 n6 n7 n8 q9 w))
theorem S_i64_au64_l_i64_u64_u64z_b.out {K : Int → Int → Option Addr → Nat → Nat → Int → Int → Int → Bool → World → Prop} {v : Value} {w : World} (h : S_i64_au64_l_i64_u64_u64z_b.R K v w) : S_i64_au64_l_i64_u64_u64z_b.V K v w := by
  unfold S_i64_au64_l_i64_u64_u64z_b.R at h
  replace h := gT.outF h; obtain ⟨l28, e28, h⟩ := h
  subst e28
  replace h := gC.outF h; obtain ⟨v29, us29, el29, h⟩ := h
  subst el29
  replace h := gI64.outF h; obtain ⟨n1, e30, h⟩ := h
  subst e30
  replace h := gC.outF h; obtain ⟨v31, us31, el31, h⟩ := h
  subst el31
  replace h := gA.outF h; obtain ⟨l32, e32, h⟩ := h
  replace h := gC.outF h; obtain ⟨v33, us33, el33, h⟩ := h
  subst el33
  replace h := gU64.outF h; obtain ⟨n2, e34, h⟩ := h
  subst e34
  replace h := gC.outF h; obtain ⟨v35, us35, el35, h⟩ := h
  subst el35
  replace h := gL.outF h; obtain ⟨a3, l4, c5, e36, h⟩ := h
  subst e36
  replace h := gC.outF h; obtain ⟨v37, us37, el37, h⟩ := h
  subst el37
  replace h := gI64.outF h; obtain ⟨n6, e38, h⟩ := h
  subst e38
  replace h := gC.outF h; obtain ⟨v39, us39, el39, h⟩ := h
  subst el39
  replace h := gU64.outF h; obtain ⟨n7, e40, h⟩ := h
  subst e40
  replace h := gC.outF h; obtain ⟨v41, us41, el41, h⟩ := h
  subst el41
  replace h := gU64.outF h; obtain ⟨n8, e42, h⟩ := h
  subst e42
  replace h := gE.outF h; obtain ⟨el43, h⟩ := h
  subst el43
  subst e32
  replace h := gC.outF h; obtain ⟨v44, us44, el44, h⟩ := h
  subst el44
  replace h := gB.outF h; obtain ⟨q9, e45, h⟩ := h
  subst e45
  replace h := gE.outF h; obtain ⟨el46, h⟩ := h
  subst el46
  exact ⟨n1, n2, a3, l4, c5, n6, n7, n8, q9, rfl, h⟩
def S_i64_b.V (K : Int → Bool → World → Prop) (v : Value) (w : World) : Prop := ∃ (n1 : Int), ∃ (q2 : Bool), v = (.tuple #[(.int .i64 n1), (.bool q2)]) ∧ K n1 q2 w
theorem S_i64_b.mono {K K' : Int → Bool → World → Prop} (hk : ∀ n1 q2 w, K n1 q2 w → K' n1 q2 w) {v : Value} {w : World} (h : S_i64_b.V K v w) : S_i64_b.V K' v w := by
  obtain ⟨n1, q2, e, h⟩ := h
  exact ⟨n1, q2, e, hk n1 q2 _ h⟩
def S_i64_b.R (K : Int → Bool → World → Prop) (v : Value) (w : World) : Prop :=
  gT False v fun g3 =>
  gC False g3 fun g4 g5 =>
  gI64 False g4 fun n1 =>
  gC False g5 fun g6 g7 =>
  gB False g6 fun q2 =>
  gE False g7 (
  K n1 q2 w)
theorem S_i64_b.out {K : Int → Bool → World → Prop} {v : Value} {w : World} (h : S_i64_b.R K v w) : S_i64_b.V K v w := by
  unfold S_i64_b.R at h
  replace h := gT.outF h; obtain ⟨l8, e8, h⟩ := h
  subst e8
  replace h := gC.outF h; obtain ⟨v9, us9, el9, h⟩ := h
  subst el9
  replace h := gI64.outF h; obtain ⟨n1, e10, h⟩ := h
  subst e10
  replace h := gC.outF h; obtain ⟨v11, us11, el11, h⟩ := h
  subst el11
  replace h := gB.outF h; obtain ⟨q2, e12, h⟩ := h
  subst e12
  replace h := gE.outF h; obtain ⟨el13, h⟩ := h
  subst el13
  exact ⟨n1, q2, rfl, h⟩
def S_i64_i64.V (K : Int → Int → World → Prop) (v : Value) (w : World) : Prop := ∃ (n1 : Int), ∃ (n2 : Int), v = (.tuple #[(.int .i64 n1), (.int .i64 n2)]) ∧ K n1 n2 w
theorem S_i64_i64.mono {K K' : Int → Int → World → Prop} (hk : ∀ n1 n2 w, K n1 n2 w → K' n1 n2 w) {v : Value} {w : World} (h : S_i64_i64.V K v w) : S_i64_i64.V K' v w := by
  obtain ⟨n1, n2, e, h⟩ := h
  exact ⟨n1, n2, e, hk n1 n2 _ h⟩
def S_i64_i64.R (K : Int → Int → World → Prop) (v : Value) (w : World) : Prop :=
  gT False v fun g3 =>
  gC False g3 fun g4 g5 =>
  gI64 False g4 fun n1 =>
  gC False g5 fun g6 g7 =>
  gI64 False g6 fun n2 =>
  gE False g7 (
  K n1 n2 w)
theorem S_i64_i64.out {K : Int → Int → World → Prop} {v : Value} {w : World} (h : S_i64_i64.R K v w) : S_i64_i64.V K v w := by
  unfold S_i64_i64.R at h
  replace h := gT.outF h; obtain ⟨l8, e8, h⟩ := h
  subst e8
  replace h := gC.outF h; obtain ⟨v9, us9, el9, h⟩ := h
  subst el9
  replace h := gI64.outF h; obtain ⟨n1, e10, h⟩ := h
  subst e10
  replace h := gC.outF h; obtain ⟨v11, us11, el11, h⟩ := h
  subst el11
  replace h := gI64.outF h; obtain ⟨n2, e12, h⟩ := h
  subst e12
  replace h := gE.outF h; obtain ⟨el13, h⟩ := h
  subst el13
  exact ⟨n1, n2, rfl, h⟩
def S_i64_r.V (K : Int → Value → World → Prop) (v : Value) (w : World) : Prop := ∃ (n1 : Int), ∃ (x2 : Value), v = (.tuple #[(.int .i64 n1), x2]) ∧ K n1 x2 w
theorem S_i64_r.mono {K K' : Int → Value → World → Prop} (hk : ∀ n1 x2 w, K n1 x2 w → K' n1 x2 w) {v : Value} {w : World} (h : S_i64_r.V K v w) : S_i64_r.V K' v w := by
  obtain ⟨n1, x2, e, h⟩ := h
  exact ⟨n1, x2, e, hk n1 x2 _ h⟩
def S_i64_r.R (K : Int → Value → World → Prop) (v : Value) (w : World) : Prop :=
  gT False v fun g3 =>
  gC False g3 fun g4 g5 =>
  gI64 False g4 fun n1 =>
  gC False g5 fun g6 g7 =>
  gR False g6 fun x2 =>
  gE False g7 (
  K n1 x2 w)
theorem S_i64_r.out {K : Int → Value → World → Prop} {v : Value} {w : World} (h : S_i64_r.R K v w) : S_i64_r.V K v w := by
  unfold S_i64_r.R at h
  replace h := gT.outF h; obtain ⟨l8, e8, h⟩ := h
  subst e8
  replace h := gC.outF h; obtain ⟨v9, us9, el9, h⟩ := h
  subst el9
  replace h := gI64.outF h; obtain ⟨n1, e10, h⟩ := h
  subst e10
  replace h := gC.outF h; obtain ⟨v11, us11, el11, h⟩ := h
  subst el11
  replace h := gR.outF h; obtain ⟨x2, e12, h⟩ := h
  replace e12 := e12.symm; subst e12
  replace h := gE.outF h; obtain ⟨el13, h⟩ := h
  subst el13
  exact ⟨n1, x2, rfl, h⟩
def S_l.V (K : Option Addr → Nat → Nat → World → Prop) (v : Value) (w : World) : Prop := ∃ (a1 : Option Addr), ∃ (l2 : Nat), ∃ (c3 : Nat), v = (.slice a1 l2 c3) ∧ K a1 l2 c3 w
theorem S_l.mono {K K' : Option Addr → Nat → Nat → World → Prop} (hk : ∀ a1 l2 c3 w, K a1 l2 c3 w → K' a1 l2 c3 w) {v : Value} {w : World} (h : S_l.V K v w) : S_l.V K' v w := by
  obtain ⟨a1, l2, c3, e, h⟩ := h
  exact ⟨a1, l2, c3, e, hk a1 l2 c3 _ h⟩
def S_l.R (K : Option Addr → Nat → Nat → World → Prop) (v : Value) (w : World) : Prop :=
  gL False v fun a1 l2 c3 =>
  K a1 l2 c3 w
theorem S_l.out {K : Option Addr → Nat → Nat → World → Prop} {v : Value} {w : World} (h : S_l.R K v w) : S_l.V K v w := by
  unfold S_l.R at h
  replace h := gL.outF h; obtain ⟨a1, l2, c3, e4, h⟩ := h
  exact ⟨a1, l2, c3, e4, h⟩
def S_l_b.V (K : Option Addr → Nat → Nat → Bool → World → Prop) (v : Value) (w : World) : Prop := ∃ (a1 : Option Addr), ∃ (l2 : Nat), ∃ (c3 : Nat), ∃ (q4 : Bool), v = (.tuple #[(.slice a1 l2 c3), (.bool q4)]) ∧ K a1 l2 c3 q4 w
theorem S_l_b.mono {K K' : Option Addr → Nat → Nat → Bool → World → Prop} (hk : ∀ a1 l2 c3 q4 w, K a1 l2 c3 q4 w → K' a1 l2 c3 q4 w) {v : Value} {w : World} (h : S_l_b.V K v w) : S_l_b.V K' v w := by
  obtain ⟨a1, l2, c3, q4, e, h⟩ := h
  exact ⟨a1, l2, c3, q4, e, hk a1 l2 c3 q4 _ h⟩
def S_l_b.R (K : Option Addr → Nat → Nat → Bool → World → Prop) (v : Value) (w : World) : Prop :=
  gT False v fun g5 =>
  gC False g5 fun g6 g7 =>
  gL False g6 fun a1 l2 c3 =>
  gC False g7 fun g8 g9 =>
  gB False g8 fun q4 =>
  gE False g9 (
  K a1 l2 c3 q4 w)
theorem S_l_b.out {K : Option Addr → Nat → Nat → Bool → World → Prop} {v : Value} {w : World} (h : S_l_b.R K v w) : S_l_b.V K v w := by
  unfold S_l_b.R at h
  replace h := gT.outF h; obtain ⟨l10, e10, h⟩ := h
  subst e10
  replace h := gC.outF h; obtain ⟨v11, us11, el11, h⟩ := h
  subst el11
  replace h := gL.outF h; obtain ⟨a1, l2, c3, e12, h⟩ := h
  subst e12
  replace h := gC.outF h; obtain ⟨v13, us13, el13, h⟩ := h
  subst el13
  replace h := gB.outF h; obtain ⟨q4, e14, h⟩ := h
  subst e14
  replace h := gE.outF h; obtain ⟨el15, h⟩ := h
  subst el15
  exact ⟨a1, l2, c3, q4, rfl, h⟩
def S_l_i64.V (K : Option Addr → Nat → Nat → Int → World → Prop) (v : Value) (w : World) : Prop := ∃ (a1 : Option Addr), ∃ (l2 : Nat), ∃ (c3 : Nat), ∃ (n4 : Int), v = (.tuple #[(.slice a1 l2 c3), (.int .i64 n4)]) ∧ K a1 l2 c3 n4 w
theorem S_l_i64.mono {K K' : Option Addr → Nat → Nat → Int → World → Prop} (hk : ∀ a1 l2 c3 n4 w, K a1 l2 c3 n4 w → K' a1 l2 c3 n4 w) {v : Value} {w : World} (h : S_l_i64.V K v w) : S_l_i64.V K' v w := by
  obtain ⟨a1, l2, c3, n4, e, h⟩ := h
  exact ⟨a1, l2, c3, n4, e, hk a1 l2 c3 n4 _ h⟩
def S_l_i64.R (K : Option Addr → Nat → Nat → Int → World → Prop) (v : Value) (w : World) : Prop :=
  gT False v fun g5 =>
  gC False g5 fun g6 g7 =>
  gL False g6 fun a1 l2 c3 =>
  gC False g7 fun g8 g9 =>
  gI64 False g8 fun n4 =>
  gE False g9 (
  K a1 l2 c3 n4 w)
theorem S_l_i64.out {K : Option Addr → Nat → Nat → Int → World → Prop} {v : Value} {w : World} (h : S_l_i64.R K v w) : S_l_i64.V K v w := by
  unfold S_l_i64.R at h
  replace h := gT.outF h; obtain ⟨l10, e10, h⟩ := h
  subst e10
  replace h := gC.outF h; obtain ⟨v11, us11, el11, h⟩ := h
  subst el11
  replace h := gL.outF h; obtain ⟨a1, l2, c3, e12, h⟩ := h
  subst e12
  replace h := gC.outF h; obtain ⟨v13, us13, el13, h⟩ := h
  subst el13
  replace h := gI64.outF h; obtain ⟨n4, e14, h⟩ := h
  subst e14
  replace h := gE.outF h; obtain ⟨el15, h⟩ := h
  subst el15
  exact ⟨a1, l2, c3, n4, rfl, h⟩
def S_p.V (K : Option Addr → World → Prop) (v : Value) (w : World) : Prop := ∃ (p1 : Option Addr), v = (.pointer p1) ∧ K p1 w
theorem S_p.mono {K K' : Option Addr → World → Prop} (hk : ∀ p1 w, K p1 w → K' p1 w) {v : Value} {w : World} (h : S_p.V K v w) : S_p.V K' v w := by
  obtain ⟨p1, e, h⟩ := h
  exact ⟨p1, e, hk p1 _ h⟩
def S_p.R (K : Option Addr → World → Prop) (v : Value) (w : World) : Prop :=
  gP False v fun p1 =>
  K p1 w
theorem S_p.out {K : Option Addr → World → Prop} {v : Value} {w : World} (h : S_p.R K v w) : S_p.V K v w := by
  unfold S_p.R at h
  replace h := gP.outF h; obtain ⟨p1, e2, h⟩ := h
  exact ⟨p1, e2, h⟩
def S_p_i64.V (K : Option Addr → Int → World → Prop) (v : Value) (w : World) : Prop := ∃ (p1 : Option Addr), ∃ (n2 : Int), v = (.tuple #[(.pointer p1), (.int .i64 n2)]) ∧ K p1 n2 w
theorem S_p_i64.mono {K K' : Option Addr → Int → World → Prop} (hk : ∀ p1 n2 w, K p1 n2 w → K' p1 n2 w) {v : Value} {w : World} (h : S_p_i64.V K v w) : S_p_i64.V K' v w := by
  obtain ⟨p1, n2, e, h⟩ := h
  exact ⟨p1, n2, e, hk p1 n2 _ h⟩
def S_p_i64.R (K : Option Addr → Int → World → Prop) (v : Value) (w : World) : Prop :=
  gT False v fun g3 =>
  gC False g3 fun g4 g5 =>
  gP False g4 fun p1 =>
  gC False g5 fun g6 g7 =>
  gI64 False g6 fun n2 =>
  gE False g7 (
  K p1 n2 w)
theorem S_p_i64.out {K : Option Addr → Int → World → Prop} {v : Value} {w : World} (h : S_p_i64.R K v w) : S_p_i64.V K v w := by
  unfold S_p_i64.R at h
  replace h := gT.outF h; obtain ⟨l8, e8, h⟩ := h
  subst e8
  replace h := gC.outF h; obtain ⟨v9, us9, el9, h⟩ := h
  subst el9
  replace h := gP.outF h; obtain ⟨p1, e10, h⟩ := h
  subst e10
  replace h := gC.outF h; obtain ⟨v11, us11, el11, h⟩ := h
  subst el11
  replace h := gI64.outF h; obtain ⟨n2, e12, h⟩ := h
  subst e12
  replace h := gE.outF h; obtain ⟨el13, h⟩ := h
  subst el13
  exact ⟨p1, n2, rfl, h⟩
def S_p_i64_b.V (K : Option Addr → Int → Bool → World → Prop) (v : Value) (w : World) : Prop := ∃ (p1 : Option Addr), ∃ (n2 : Int), ∃ (q3 : Bool), v = (.tuple #[(.pointer p1), (.int .i64 n2), (.bool q3)]) ∧ K p1 n2 q3 w
theorem S_p_i64_b.mono {K K' : Option Addr → Int → Bool → World → Prop} (hk : ∀ p1 n2 q3 w, K p1 n2 q3 w → K' p1 n2 q3 w) {v : Value} {w : World} (h : S_p_i64_b.V K v w) : S_p_i64_b.V K' v w := by
  obtain ⟨p1, n2, q3, e, h⟩ := h
  exact ⟨p1, n2, q3, e, hk p1 n2 q3 _ h⟩
def S_p_i64_b.R (K : Option Addr → Int → Bool → World → Prop) (v : Value) (w : World) : Prop :=
  gT False v fun g4 =>
  gC False g4 fun g5 g6 =>
  gP False g5 fun p1 =>
  gC False g6 fun g7 g8 =>
  gI64 False g7 fun n2 =>
  gC False g8 fun g9 g10 =>
  gB False g9 fun q3 =>
  gE False g10 (
  K p1 n2 q3 w)
theorem S_p_i64_b.out {K : Option Addr → Int → Bool → World → Prop} {v : Value} {w : World} (h : S_p_i64_b.R K v w) : S_p_i64_b.V K v w := by
  unfold S_p_i64_b.R at h
  replace h := gT.outF h; obtain ⟨l11, e11, h⟩ := h
  subst e11
  replace h := gC.outF h; obtain ⟨v12, us12, el12, h⟩ := h
  subst el12
  replace h := gP.outF h; obtain ⟨p1, e13, h⟩ := h
  subst e13
  replace h := gC.outF h; obtain ⟨v14, us14, el14, h⟩ := h
  subst el14
  replace h := gI64.outF h; obtain ⟨n2, e15, h⟩ := h
  subst e15
  replace h := gC.outF h; obtain ⟨v16, us16, el16, h⟩ := h
  subst el16
  replace h := gB.outF h; obtain ⟨q3, e17, h⟩ := h
  subst e17
  replace h := gE.outF h; obtain ⟨el18, h⟩ := h
  subst el18
  exact ⟨p1, n2, q3, rfl, h⟩
def S_r.V (K : Value → World → Prop) (v : Value) (w : World) : Prop := ∃ (x1 : Value), v = x1 ∧ K x1 w
theorem S_r.mono {K K' : Value → World → Prop} (hk : ∀ x1 w, K x1 w → K' x1 w) {v : Value} {w : World} (h : S_r.V K v w) : S_r.V K' v w := by
  obtain ⟨x1, e, h⟩ := h
  exact ⟨x1, e, hk x1 _ h⟩
def S_r.R (K : Value → World → Prop) (v : Value) (w : World) : Prop :=
  gR False v fun x1 =>
  K x1 w
theorem S_r.out {K : Value → World → Prop} {v : Value} {w : World} (h : S_r.R K v w) : S_r.V K v w := by
  unfold S_r.R at h
  replace h := gR.outF h; obtain ⟨x1, e2, h⟩ := h
  exact ⟨x1, e2, h⟩
def S_r_i64.V (K : Value → Int → World → Prop) (v : Value) (w : World) : Prop := ∃ (x1 : Value), ∃ (n2 : Int), v = (.tuple #[x1, (.int .i64 n2)]) ∧ K x1 n2 w
theorem S_r_i64.mono {K K' : Value → Int → World → Prop} (hk : ∀ x1 n2 w, K x1 n2 w → K' x1 n2 w) {v : Value} {w : World} (h : S_r_i64.V K v w) : S_r_i64.V K' v w := by
  obtain ⟨x1, n2, e, h⟩ := h
  exact ⟨x1, n2, e, hk x1 n2 _ h⟩
def S_r_i64.R (K : Value → Int → World → Prop) (v : Value) (w : World) : Prop :=
  gT False v fun g3 =>
  gC False g3 fun g4 g5 =>
  gR False g4 fun x1 =>
  gC False g5 fun g6 g7 =>
  gI64 False g6 fun n2 =>
  gE False g7 (
  K x1 n2 w)
theorem S_r_i64.out {K : Value → Int → World → Prop} {v : Value} {w : World} (h : S_r_i64.R K v w) : S_r_i64.V K v w := by
  unfold S_r_i64.R at h
  replace h := gT.outF h; obtain ⟨l8, e8, h⟩ := h
  subst e8
  replace h := gC.outF h; obtain ⟨v9, us9, el9, h⟩ := h
  subst el9
  replace h := gR.outF h; obtain ⟨x1, e10, h⟩ := h
  replace e10 := e10.symm; subst e10
  replace h := gC.outF h; obtain ⟨v11, us11, el11, h⟩ := h
  subst el11
  replace h := gI64.outF h; obtain ⟨n2, e12, h⟩ := h
  subst e12
  replace h := gE.outF h; obtain ⟨el13, h⟩ := h
  subst el13
  exact ⟨x1, n2, rfl, h⟩
def S_r_r_i64.V (K : Value → Value → Int → World → Prop) (v : Value) (w : World) : Prop := ∃ (x1 : Value), ∃ (x2 : Value), ∃ (n3 : Int), v = (.tuple #[x1, x2, (.int .i64 n3)]) ∧ K x1 x2 n3 w
theorem S_r_r_i64.mono {K K' : Value → Value → Int → World → Prop} (hk : ∀ x1 x2 n3 w, K x1 x2 n3 w → K' x1 x2 n3 w) {v : Value} {w : World} (h : S_r_r_i64.V K v w) : S_r_r_i64.V K' v w := by
  obtain ⟨x1, x2, n3, e, h⟩ := h
  exact ⟨x1, x2, n3, e, hk x1 x2 n3 _ h⟩
def S_r_r_i64.R (K : Value → Value → Int → World → Prop) (v : Value) (w : World) : Prop :=
  gT False v fun g4 =>
  gC False g4 fun g5 g6 =>
  gR False g5 fun x1 =>
  gC False g6 fun g7 g8 =>
  gR False g7 fun x2 =>
  gC False g8 fun g9 g10 =>
  gI64 False g9 fun n3 =>
  gE False g10 (
  K x1 x2 n3 w)
theorem S_r_r_i64.out {K : Value → Value → Int → World → Prop} {v : Value} {w : World} (h : S_r_r_i64.R K v w) : S_r_r_i64.V K v w := by
  unfold S_r_r_i64.R at h
  replace h := gT.outF h; obtain ⟨l11, e11, h⟩ := h
  subst e11
  replace h := gC.outF h; obtain ⟨v12, us12, el12, h⟩ := h
  subst el12
  replace h := gR.outF h; obtain ⟨x1, e13, h⟩ := h
  replace e13 := e13.symm; subst e13
  replace h := gC.outF h; obtain ⟨v14, us14, el14, h⟩ := h
  subst el14
  replace h := gR.outF h; obtain ⟨x2, e15, h⟩ := h
  replace e15 := e15.symm; subst e15
  replace h := gC.outF h; obtain ⟨v16, us16, el16, h⟩ := h
  subst el16
  replace h := gI64.outF h; obtain ⟨n3, e17, h⟩ := h
  subst e17
  replace h := gE.outF h; obtain ⟨el18, h⟩ := h
  subst el18
  exact ⟨x1, x2, n3, rfl, h⟩
def S_s.V (K : ByteArray → World → Prop) (v : Value) (w : World) : Prop := ∃ (s1 : ByteArray), v = (.string s1) ∧ K s1 w
theorem S_s.mono {K K' : ByteArray → World → Prop} (hk : ∀ s1 w, K s1 w → K' s1 w) {v : Value} {w : World} (h : S_s.V K v w) : S_s.V K' v w := by
  obtain ⟨s1, e, h⟩ := h
  exact ⟨s1, e, hk s1 _ h⟩
def S_s.R (K : ByteArray → World → Prop) (v : Value) (w : World) : Prop :=
  gS False v fun s1 =>
  K s1 w
theorem S_s.out {K : ByteArray → World → Prop} {v : Value} {w : World} (h : S_s.R K v w) : S_s.V K v w := by
  unfold S_s.R at h
  replace h := gS.outF h; obtain ⟨s1, e2, h⟩ := h
  exact ⟨s1, e2, h⟩
def S_s_i64.V (K : ByteArray → Int → World → Prop) (v : Value) (w : World) : Prop := ∃ (s1 : ByteArray), ∃ (n2 : Int), v = (.tuple #[(.string s1), (.int .i64 n2)]) ∧ K s1 n2 w
theorem S_s_i64.mono {K K' : ByteArray → Int → World → Prop} (hk : ∀ s1 n2 w, K s1 n2 w → K' s1 n2 w) {v : Value} {w : World} (h : S_s_i64.V K v w) : S_s_i64.V K' v w := by
  obtain ⟨s1, n2, e, h⟩ := h
  exact ⟨s1, n2, e, hk s1 n2 _ h⟩
def S_s_i64.R (K : ByteArray → Int → World → Prop) (v : Value) (w : World) : Prop :=
  gT False v fun g3 =>
  gC False g3 fun g4 g5 =>
  gS False g4 fun s1 =>
  gC False g5 fun g6 g7 =>
  gI64 False g6 fun n2 =>
  gE False g7 (
  K s1 n2 w)
theorem S_s_i64.out {K : ByteArray → Int → World → Prop} {v : Value} {w : World} (h : S_s_i64.R K v w) : S_s_i64.V K v w := by
  unfold S_s_i64.R at h
  replace h := gT.outF h; obtain ⟨l8, e8, h⟩ := h
  subst e8
  replace h := gC.outF h; obtain ⟨v9, us9, el9, h⟩ := h
  subst el9
  replace h := gS.outF h; obtain ⟨s1, e10, h⟩ := h
  subst e10
  replace h := gC.outF h; obtain ⟨v11, us11, el11, h⟩ := h
  subst el11
  replace h := gI64.outF h; obtain ⟨n2, e12, h⟩ := h
  subst e12
  replace h := gE.outF h; obtain ⟨el13, h⟩ := h
  subst el13
  exact ⟨s1, n2, rfl, h⟩
def S_s_s_b.V (K : ByteArray → ByteArray → Bool → World → Prop) (v : Value) (w : World) : Prop := ∃ (s1 : ByteArray), ∃ (s2 : ByteArray), ∃ (q3 : Bool), v = (.tuple #[(.string s1), (.string s2), (.bool q3)]) ∧ K s1 s2 q3 w
theorem S_s_s_b.mono {K K' : ByteArray → ByteArray → Bool → World → Prop} (hk : ∀ s1 s2 q3 w, K s1 s2 q3 w → K' s1 s2 q3 w) {v : Value} {w : World} (h : S_s_s_b.V K v w) : S_s_s_b.V K' v w := by
  obtain ⟨s1, s2, q3, e, h⟩ := h
  exact ⟨s1, s2, q3, e, hk s1 s2 q3 _ h⟩
def S_s_s_b.R (K : ByteArray → ByteArray → Bool → World → Prop) (v : Value) (w : World) : Prop :=
  gT False v fun g4 =>
  gC False g4 fun g5 g6 =>
  gS False g5 fun s1 =>
  gC False g6 fun g7 g8 =>
  gS False g7 fun s2 =>
  gC False g8 fun g9 g10 =>
  gB False g9 fun q3 =>
  gE False g10 (
  K s1 s2 q3 w)
theorem S_s_s_b.out {K : ByteArray → ByteArray → Bool → World → Prop} {v : Value} {w : World} (h : S_s_s_b.R K v w) : S_s_s_b.V K v w := by
  unfold S_s_s_b.R at h
  replace h := gT.outF h; obtain ⟨l11, e11, h⟩ := h
  subst e11
  replace h := gC.outF h; obtain ⟨v12, us12, el12, h⟩ := h
  subst el12
  replace h := gS.outF h; obtain ⟨s1, e13, h⟩ := h
  subst e13
  replace h := gC.outF h; obtain ⟨v14, us14, el14, h⟩ := h
  subst el14
  replace h := gS.outF h; obtain ⟨s2, e15, h⟩ := h
  subst e15
  replace h := gC.outF h; obtain ⟨v16, us16, el16, h⟩ := h
  subst el16
  replace h := gB.outF h; obtain ⟨q3, e17, h⟩ := h
  subst e17
  replace h := gE.outF h; obtain ⟨el18, h⟩ := h
  subst el18
  exact ⟨s1, s2, q3, rfl, h⟩
def S_u16.V (K : Int → World → Prop) (v : Value) (w : World) : Prop := ∃ (n1 : Int), v = (.int .u16 n1) ∧ K n1 w
theorem S_u16.mono {K K' : Int → World → Prop} (hk : ∀ n1 w, K n1 w → K' n1 w) {v : Value} {w : World} (h : S_u16.V K v w) : S_u16.V K' v w := by
  obtain ⟨n1, e, h⟩ := h
  exact ⟨n1, e, hk n1 _ h⟩
def S_u16.R (K : Int → World → Prop) (v : Value) (w : World) : Prop :=
  gU16 False v fun n1 =>
  K n1 w
theorem S_u16.out {K : Int → World → Prop} {v : Value} {w : World} (h : S_u16.R K v w) : S_u16.V K v w := by
  unfold S_u16.R at h
  replace h := gU16.outF h; obtain ⟨n1, e2, h⟩ := h
  exact ⟨n1, e2, h⟩
def S_u16_b.V (K : Int → Bool → World → Prop) (v : Value) (w : World) : Prop := ∃ (n1 : Int), ∃ (q2 : Bool), v = (.tuple #[(.int .u16 n1), (.bool q2)]) ∧ K n1 q2 w
theorem S_u16_b.mono {K K' : Int → Bool → World → Prop} (hk : ∀ n1 q2 w, K n1 q2 w → K' n1 q2 w) {v : Value} {w : World} (h : S_u16_b.V K v w) : S_u16_b.V K' v w := by
  obtain ⟨n1, q2, e, h⟩ := h
  exact ⟨n1, q2, e, hk n1 q2 _ h⟩
def S_u16_b.R (K : Int → Bool → World → Prop) (v : Value) (w : World) : Prop :=
  gT False v fun g3 =>
  gC False g3 fun g4 g5 =>
  gU16 False g4 fun n1 =>
  gC False g5 fun g6 g7 =>
  gB False g6 fun q2 =>
  gE False g7 (
  K n1 q2 w)
theorem S_u16_b.out {K : Int → Bool → World → Prop} {v : Value} {w : World} (h : S_u16_b.R K v w) : S_u16_b.V K v w := by
  unfold S_u16_b.R at h
  replace h := gT.outF h; obtain ⟨l8, e8, h⟩ := h
  subst e8
  replace h := gC.outF h; obtain ⟨v9, us9, el9, h⟩ := h
  subst el9
  replace h := gU16.outF h; obtain ⟨n1, e10, h⟩ := h
  subst e10
  replace h := gC.outF h; obtain ⟨v11, us11, el11, h⟩ := h
  subst el11
  replace h := gB.outF h; obtain ⟨q2, e12, h⟩ := h
  subst e12
  replace h := gE.outF h; obtain ⟨el13, h⟩ := h
  subst el13
  exact ⟨n1, q2, rfl, h⟩
def S_u64.V (K : Int → World → Prop) (v : Value) (w : World) : Prop := ∃ (n1 : Int), v = (.int .u64 n1) ∧ K n1 w
theorem S_u64.mono {K K' : Int → World → Prop} (hk : ∀ n1 w, K n1 w → K' n1 w) {v : Value} {w : World} (h : S_u64.V K v w) : S_u64.V K' v w := by
  obtain ⟨n1, e, h⟩ := h
  exact ⟨n1, e, hk n1 _ h⟩
def S_u64.R (K : Int → World → Prop) (v : Value) (w : World) : Prop :=
  gU64 False v fun n1 =>
  K n1 w
theorem S_u64.out {K : Int → World → Prop} {v : Value} {w : World} (h : S_u64.R K v w) : S_u64.V K v w := by
  unfold S_u64.R at h
  replace h := gU64.outF h; obtain ⟨n1, e2, h⟩ := h
  exact ⟨n1, e2, h⟩
def S_u64_b.V (K : Int → Bool → World → Prop) (v : Value) (w : World) : Prop := ∃ (n1 : Int), ∃ (q2 : Bool), v = (.tuple #[(.int .u64 n1), (.bool q2)]) ∧ K n1 q2 w
theorem S_u64_b.mono {K K' : Int → Bool → World → Prop} (hk : ∀ n1 q2 w, K n1 q2 w → K' n1 q2 w) {v : Value} {w : World} (h : S_u64_b.V K v w) : S_u64_b.V K' v w := by
  obtain ⟨n1, q2, e, h⟩ := h
  exact ⟨n1, q2, e, hk n1 q2 _ h⟩
def S_u64_b.R (K : Int → Bool → World → Prop) (v : Value) (w : World) : Prop :=
  gT False v fun g3 =>
  gC False g3 fun g4 g5 =>
  gU64 False g4 fun n1 =>
  gC False g5 fun g6 g7 =>
  gB False g6 fun q2 =>
  gE False g7 (
  K n1 q2 w)
theorem S_u64_b.out {K : Int → Bool → World → Prop} {v : Value} {w : World} (h : S_u64_b.R K v w) : S_u64_b.V K v w := by
  unfold S_u64_b.R at h
  replace h := gT.outF h; obtain ⟨l8, e8, h⟩ := h
  subst e8
  replace h := gC.outF h; obtain ⟨v9, us9, el9, h⟩ := h
  subst el9
  replace h := gU64.outF h; obtain ⟨n1, e10, h⟩ := h
  subst e10
  replace h := gC.outF h; obtain ⟨v11, us11, el11, h⟩ := h
  subst el11
  replace h := gB.outF h; obtain ⟨q2, e12, h⟩ := h
  subst e12
  replace h := gE.outF h; obtain ⟨el13, h⟩ := h
  subst el13
  exact ⟨n1, q2, rfl, h⟩
def S_u64_i64.V (K : Int → Int → World → Prop) (v : Value) (w : World) : Prop := ∃ (n1 : Int), ∃ (n2 : Int), v = (.tuple #[(.int .u64 n1), (.int .i64 n2)]) ∧ K n1 n2 w
theorem S_u64_i64.mono {K K' : Int → Int → World → Prop} (hk : ∀ n1 n2 w, K n1 n2 w → K' n1 n2 w) {v : Value} {w : World} (h : S_u64_i64.V K v w) : S_u64_i64.V K' v w := by
  obtain ⟨n1, n2, e, h⟩ := h
  exact ⟨n1, n2, e, hk n1 n2 _ h⟩
def S_u64_i64.R (K : Int → Int → World → Prop) (v : Value) (w : World) : Prop :=
  gT False v fun g3 =>
  gC False g3 fun g4 g5 =>
  gU64 False g4 fun n1 =>
  gC False g5 fun g6 g7 =>
  gI64 False g6 fun n2 =>
  gE False g7 (
  K n1 n2 w)
theorem S_u64_i64.out {K : Int → Int → World → Prop} {v : Value} {w : World} (h : S_u64_i64.R K v w) : S_u64_i64.V K v w := by
  unfold S_u64_i64.R at h
  replace h := gT.outF h; obtain ⟨l8, e8, h⟩ := h
  subst e8
  replace h := gC.outF h; obtain ⟨v9, us9, el9, h⟩ := h
  subst el9
  replace h := gU64.outF h; obtain ⟨n1, e10, h⟩ := h
  subst e10
  replace h := gC.outF h; obtain ⟨v11, us11, el11, h⟩ := h
  subst el11
  replace h := gI64.outF h; obtain ⟨n2, e12, h⟩ := h
  subst e12
  replace h := gE.outF h; obtain ⟨el13, h⟩ := h
  subst el13
  exact ⟨n1, n2, rfl, h⟩
def S_u64_r.V (K : Int → Value → World → Prop) (v : Value) (w : World) : Prop := ∃ (n1 : Int), ∃ (x2 : Value), v = (.tuple #[(.int .u64 n1), x2]) ∧ K n1 x2 w
theorem S_u64_r.mono {K K' : Int → Value → World → Prop} (hk : ∀ n1 x2 w, K n1 x2 w → K' n1 x2 w) {v : Value} {w : World} (h : S_u64_r.V K v w) : S_u64_r.V K' v w := by
  obtain ⟨n1, x2, e, h⟩ := h
  exact ⟨n1, x2, e, hk n1 x2 _ h⟩
def S_u64_r.R (K : Int → Value → World → Prop) (v : Value) (w : World) : Prop :=
  gT False v fun g3 =>
  gC False g3 fun g4 g5 =>
  gU64 False g4 fun n1 =>
  gC False g5 fun g6 g7 =>
  gR False g6 fun x2 =>
  gE False g7 (
  K n1 x2 w)
theorem S_u64_r.out {K : Int → Value → World → Prop} {v : Value} {w : World} (h : S_u64_r.R K v w) : S_u64_r.V K v w := by
  unfold S_u64_r.R at h
  replace h := gT.outF h; obtain ⟨l8, e8, h⟩ := h
  subst e8
  replace h := gC.outF h; obtain ⟨v9, us9, el9, h⟩ := h
  subst el9
  replace h := gU64.outF h; obtain ⟨n1, e10, h⟩ := h
  subst e10
  replace h := gC.outF h; obtain ⟨v11, us11, el11, h⟩ := h
  subst el11
  replace h := gR.outF h; obtain ⟨x2, e12, h⟩ := h
  replace e12 := e12.symm; subst e12
  replace h := gE.outF h; obtain ⟨el13, h⟩ := h
  subst el13
  exact ⟨n1, x2, rfl, h⟩
def S_u64_u64.V (K : Int → Int → World → Prop) (v : Value) (w : World) : Prop := ∃ (n1 : Int), ∃ (n2 : Int), v = (.tuple #[(.int .u64 n1), (.int .u64 n2)]) ∧ K n1 n2 w
theorem S_u64_u64.mono {K K' : Int → Int → World → Prop} (hk : ∀ n1 n2 w, K n1 n2 w → K' n1 n2 w) {v : Value} {w : World} (h : S_u64_u64.V K v w) : S_u64_u64.V K' v w := by
  obtain ⟨n1, n2, e, h⟩ := h
  exact ⟨n1, n2, e, hk n1 n2 _ h⟩
def S_u64_u64.R (K : Int → Int → World → Prop) (v : Value) (w : World) : Prop :=
  gT False v fun g3 =>
  gC False g3 fun g4 g5 =>
  gU64 False g4 fun n1 =>
  gC False g5 fun g6 g7 =>
  gU64 False g6 fun n2 =>
  gE False g7 (
  K n1 n2 w)
theorem S_u64_u64.out {K : Int → Int → World → Prop} {v : Value} {w : World} (h : S_u64_u64.R K v w) : S_u64_u64.V K v w := by
  unfold S_u64_u64.R at h
  replace h := gT.outF h; obtain ⟨l8, e8, h⟩ := h
  subst e8
  replace h := gC.outF h; obtain ⟨v9, us9, el9, h⟩ := h
  subst el9
  replace h := gU64.outF h; obtain ⟨n1, e10, h⟩ := h
  subst e10
  replace h := gC.outF h; obtain ⟨v11, us11, el11, h⟩ := h
  subst el11
  replace h := gU64.outF h; obtain ⟨n2, e12, h⟩ := h
  subst e12
  replace h := gE.outF h; obtain ⟨el13, h⟩ := h
  subst el13
  exact ⟨n1, n2, rfl, h⟩
def stepstonelaw26_PlayNames.C (n1 : Int) (n2 : Int) (n3 : Int) (n4 : Int) (a5 : Option Addr) (l6 : Nat) (c7 : Nat) (n8 : Int) (n9 : Int) (a10 : Option Addr) (l11 : Nat) (c12 : Nat) (q13 : Bool) (n14 : Int) (n15 : Int) (n16 : Int) (q17 : Bool) (w : World) (K : Bool → World → Prop) : Prop := CallsV prog 3 #[(.int .u8 n1), (.agg #[(.int .u8 n2), (.int .i64 n3), (.int .i64 n4), (.slice a5 l6 c7), (.int .u64 n8), (.int .u64 n9), (.slice a10 l11 c12), (.bool q13), (.int .i64 n14), (.int .u64 n15), (.int .i64 n16), (.bool q17)])] w (S_b.V K)
def stepstonelaw27_ShellNumbers.C (n1 : Int) (s2 : ByteArray) (w : World) (K : Bool → World → Prop) : Prop := CallsV prog 4 #[(.int .u64 n1), (.string s2)] w (S_b.V K)
def stepstonelaw27_ShellLong.C (n1 : Int) (w : World) (K : Bool → World → Prop) : Prop := CallsV prog 5 #[(.int .u8 n1)] w (S_b.V K)
def stepstonelaw26_awake.C (w : World) (K : Bool → World → Prop) : Prop := CallsV prog 6 #[] w (S_b.V K)
def play_New.C (w : World) (K : Option Addr → World → Prop) : Prop := CallsV prog 7 #[] w (S_p.V K)
def play_Player_Do.C (p1 : Option Addr) (n2 : Int) (n3 : Int) (n4 : Int) (a5 : Option Addr) (l6 : Nat) (c7 : Nat) (n8 : Int) (n9 : Int) (a10 : Option Addr) (l11 : Nat) (c12 : Nat) (q13 : Bool) (n14 : Int) (n15 : Int) (n16 : Int) (q17 : Bool) (w : World) (K : Int → Int → Int → Bool → Option Addr → Nat → Nat → World → Prop) : Prop := CallsV prog 8 #[(.pointer p1), (.agg #[(.int .u8 n2), (.int .i64 n3), (.int .i64 n4), (.slice a5 l6 c7), (.int .u64 n8), (.int .u64 n9), (.slice a10 l11 c12), (.bool q13), (.int .i64 n14), (.int .u64 n15), (.int .i64 n16), (.bool q17)])] w (S_ai64_u64_i64_b_lz.V K)
def stepstonelaw26_own.C (n1 : Int) (n2 : Int) (n3 : Int) (a4 : Option Addr) (l5 : Nat) (c6 : Nat) (n7 : Int) (n8 : Int) (a9 : Option Addr) (l10 : Nat) (c11 : Nat) (q12 : Bool) (n13 : Int) (n14 : Int) (n15 : Int) (q16 : Bool) (w : World) (K : Int → Int → Int → Option Addr → Nat → Nat → Int → Int → Option Addr → Nat → Nat → Bool → Int → Int → Int → Bool → World → Prop) : Prop := CallsV prog 9 #[(.agg #[(.int .u8 n1), (.int .i64 n2), (.int .i64 n3), (.slice a4 l5 c6), (.int .u64 n7), (.int .u64 n8), (.slice a9 l10 c11), (.bool q12), (.int .i64 n13), (.int .u64 n14), (.int .i64 n15), (.bool q16)])] w (S_au8_i64_i64_l_u64_u64_l_b_i64_u64_i64_bz.V K)
def play_Name.C (n1 : Int) (w : World) (K : ByteArray → World → Prop) : Prop := CallsV prog 10 #[(.int .u8 n1)] w (S_s.V K)
def play_Player_Run.C (p1 : Option Addr) (a2 : Option Addr) (l3 : Nat) (c4 : Nat) (w : World) (K : Option Addr → Nat → Nat → World → Prop) : Prop := CallsV prog 11 #[(.pointer p1), (.slice a2 l3 c4)] w (S_l.V K)
def play_Player_Whole.C (p1 : Option Addr) (w : World) (K : Option Addr → Nat → Nat → World → Prop) : Prop := CallsV prog 12 #[(.pointer p1)] w (S_l.V K)
def play_Player_Done.C (p1 : Option Addr) (w : World) (K : Int → World → Prop) : Prop := CallsV prog 13 #[(.pointer p1)] w (S_i64.V K)
def play_Player_Fulls.C (p1 : Option Addr) (w : World) (K : Int → World → Prop) : Prop := CallsV prog 14 #[(.pointer p1)] w (S_i64.V K)
def stepstonelaw27_awake.C (w : World) (K : Bool → World → Prop) : Prop := CallsV prog 15 #[] w (S_b.V K)
def stepstoneref01_Text.C (s1 : ByteArray) (n2 : Int) (w : World) (K : ByteArray → World → Prop) : Prop := CallsV prog 16 #[(.string s1), (.int .i64 n2)] w (S_s.V K)
def shell_Run.C (s1 : ByteArray) (w : World) (K : ByteArray → Int → World → Prop) : Prop := CallsV prog 17 #[(.string s1)] w (S_s_i64.V K)
def stepstoneref01_Dec.C (n1 : Int) (w : World) (K : ByteArray → World → Prop) : Prop := CallsV prog 18 #[(.int .u64 n1)] w (S_s.V K)
def stepstoneref27_Names.C (w : World) (K : Option Addr → Nat → Nat → World → Prop) : Prop := CallsV prog 19 #[] w (S_l.V K)
def slices_Sort_string_string.C (a1 : Option Addr) (l2 : Nat) (c3 : Nat) (w : World) (K : World → Prop) : Prop := CallsV prog 20 #[(.slice a1 l2 c3)] w (S_.V K)
def slices_Equal_string_string.C (a1 : Option Addr) (l2 : Nat) (c3 : Nat) (a4 : Option Addr) (l5 : Nat) (c6 : Nat) (w : World) (K : Bool → World → Prop) : Prop := CallsV prog 21 #[(.slice a1 l2 c3), (.slice a4 l5 c6)] w (S_b.V K)
def shell_Words.C (w : World) (K : Option Addr → Nat → Nat → World → Prop) : Prop := CallsV prog 22 #[] w (S_l.V K)
def shelf_New.C (w : World) (K : Option Addr → World → Prop) : Prop := CallsV prog 23 #[] w (S_p.V K)
def play_Player_change.C (p1 : Option Addr) (n2 : Int) (n3 : Int) (n4 : Int) (a5 : Option Addr) (l6 : Nat) (c7 : Nat) (n8 : Int) (n9 : Int) (a10 : Option Addr) (l11 : Nat) (c12 : Nat) (q13 : Bool) (n14 : Int) (n15 : Int) (n16 : Int) (q17 : Bool) (w : World) (K : Int → Int → Int → Bool → Option Addr → Nat → Nat → Bool → World → Prop) : Prop := CallsV prog 24 #[(.pointer p1), (.agg #[(.int .u8 n2), (.int .i64 n3), (.int .i64 n4), (.slice a5 l6 c7), (.int .u64 n8), (.int .u64 n9), (.slice a10 l11 c12), (.bool q13), (.int .i64 n14), (.int .u64 n15), (.int .i64 n16), (.bool q17)])] w (S_ai64_u64_i64_b_lz_b.V K)
def play_Player_look.C (p1 : Option Addr) (n2 : Int) (n3 : Int) (n4 : Int) (a5 : Option Addr) (l6 : Nat) (c7 : Nat) (n8 : Int) (n9 : Int) (a10 : Option Addr) (l11 : Nat) (c12 : Nat) (q13 : Bool) (n14 : Int) (n15 : Int) (n16 : Int) (q17 : Bool) (w : World) (K : Int → Int → Int → Bool → Option Addr → Nat → Nat → Bool → World → Prop) : Prop := CallsV prog 25 #[(.pointer p1), (.agg #[(.int .u8 n2), (.int .i64 n3), (.int .i64 n4), (.slice a5 l6 c7), (.int .u64 n8), (.int .u64 n9), (.slice a10 l11 c12), (.bool q13), (.int .i64 n14), (.int .u64 n15), (.int .i64 n16), (.bool q17)])] w (S_ai64_u64_i64_b_lz_b.V K)
def play_Player_other.C (p1 : Option Addr) (n2 : Int) (n3 : Int) (n4 : Int) (a5 : Option Addr) (l6 : Nat) (c7 : Nat) (n8 : Int) (n9 : Int) (a10 : Option Addr) (l11 : Nat) (c12 : Nat) (q13 : Bool) (n14 : Int) (n15 : Int) (n16 : Int) (q17 : Bool) (w : World) (K : Int → Int → Int → Bool → Option Addr → Nat → Nat → Bool → World → Prop) : Prop := CallsV prog 26 #[(.pointer p1), (.agg #[(.int .u8 n2), (.int .i64 n3), (.int .i64 n4), (.slice a5 l6 c7), (.int .u64 n8), (.int .u64 n9), (.slice a10 l11 c12), (.bool q13), (.int .i64 n14), (.int .u64 n15), (.int .i64 n16), (.bool q17)])] w (S_ai64_u64_i64_b_lz_b.V K)
def stepstoneref25_Few.C (n1 : Int) (n2 : Int) (n3 : Int) (a4 : Option Addr) (l5 : Nat) (c6 : Nat) (n7 : Int) (n8 : Int) (a9 : Option Addr) (l10 : Nat) (c11 : Nat) (q12 : Bool) (n13 : Int) (n14 : Int) (n15 : Int) (q16 : Bool) (w : World) (K : Int → Int → Int → Option Addr → Nat → Nat → Int → Int → Option Addr → Nat → Nat → Bool → Int → Int → Int → Bool → World → Prop) : Prop := CallsV prog 27 #[(.agg #[(.int .u8 n1), (.int .i64 n2), (.int .i64 n3), (.slice a4 l5 c6), (.int .u64 n7), (.int .u64 n8), (.slice a9 l10 c11), (.bool q12), (.int .i64 n13), (.int .u64 n14), (.int .i64 n15), (.bool q16)])] w (S_au8_i64_i64_l_u64_u64_l_b_i64_u64_i64_bz.V K)
def shelf_Shelf_Encode.C (p1 : Option Addr) (n2 : Int) (w : World) (K : Option Addr → Nat → Nat → Int → World → Prop) : Prop := CallsV prog 28 #[(.pointer p1), (.int .i64 n2)] w (S_l_i64.V K)
def shell_lines.C (s1 : ByteArray) (w : World) (K : Value → World → Prop) : Prop := CallsV prog 29 #[(.string s1)] w (S_r.V K)
def strings_Builder_WriteString.C (p1 : Option Addr) (s2 : ByteArray) (w : World) (K : Int → Value → World → Prop) : Prop := CallsV prog 30 #[(.pointer p1), (.string s2)] w (S_i64_r.V K)
def shell_line.C (p1 : Option Addr) (s2 : ByteArray) (w : World) (K : ByteArray → World → Prop) : Prop := CallsV prog 31 #[(.pointer p1), (.string s2)] w (S_s.V K)
def strings_Builder_String.C (p1 : Option Addr) (w : World) (K : ByteArray → World → Prop) : Prop := CallsV prog 32 #[(.pointer p1)] w (S_s.V K)
def shelf_Shelf_Open.C (p1 : Option Addr) (n2 : Int) (q3 : Bool) (n4 : Int) (n5 : Int) (n6 : Int) (w : World) (K : Int → World → Prop) : Prop := CallsV prog 35 #[(.pointer p1), (.int .i64 n2), (.agg #[(.bool q3), (.int .i64 n4), (.int .u64 n5), (.int .i64 n6)])] w (S_i64.V K)
def shelf_Shelf_Close.C (p1 : Option Addr) (n2 : Int) (w : World) (K : Int → World → Prop) : Prop := CallsV prog 36 #[(.pointer p1), (.int .i64 n2)] w (S_i64.V K)
def shelf_Shelf_Insert.C (p1 : Option Addr) (n2 : Int) (n3 : Int) (w : World) (K : Int → World → Prop) : Prop := CallsV prog 37 #[(.pointer p1), (.int .i64 n2), (.int .u64 n3)] w (S_i64.V K)
def shelf_Shelf_Put.C (p1 : Option Addr) (n2 : Int) (n3 : Int) (n4 : Int) (w : World) (K : Int → World → Prop) : Prop := CallsV prog 38 #[(.pointer p1), (.int .i64 n2), (.int .u64 n3), (.int .u64 n4)] w (S_i64.V K)
def shelf_Shelf_Delete.C (p1 : Option Addr) (n2 : Int) (n3 : Int) (w : World) (K : Int → World → Prop) : Prop := CallsV prog 39 #[(.pointer p1), (.int .i64 n2), (.int .u64 n3)] w (S_i64.V K)
def shelf_Shelf_Wipe.C (p1 : Option Addr) (n2 : Int) (n3 : Int) (n4 : Int) (w : World) (K : Int → Int → World → Prop) : Prop := CallsV prog 40 #[(.pointer p1), (.int .i64 n2), (.int .u64 n3), (.int .u64 n4)] w (S_i64_i64.V K)
def shelf_Shelf_Clear.C (p1 : Option Addr) (n2 : Int) (w : World) (K : Int → World → Prop) : Prop := CallsV prog 41 #[(.pointer p1), (.int .i64 n2)] w (S_i64.V K)
def shelf_Shelf_Join.C (p1 : Option Addr) (n2 : Int) (n3 : Int) (a4 : Option Addr) (l5 : Nat) (c6 : Nat) (w : World) (K : Int → World → Prop) : Prop := CallsV prog 42 #[(.pointer p1), (.int .i64 n2), (.int .i64 n3), (.slice a4 l5 c6)] w (S_i64.V K)
def shelf_Shelf_Decode.C (p1 : Option Addr) (n2 : Int) (a3 : Option Addr) (l4 : Nat) (c5 : Nat) (w : World) (K : Int → World → Prop) : Prop := CallsV prog 43 #[(.pointer p1), (.int .i64 n2), (.slice a3 l4 c5)] w (S_i64.V K)
def shelf_Shelf_Get.C (p1 : Option Addr) (n2 : Int) (n3 : Int) (w : World) (K : Int → Int → World → Prop) : Prop := CallsV prog 44 #[(.pointer p1), (.int .i64 n2), (.int .u64 n3)] w (S_u64_i64.V K)
def shelf_Shelf_Has.C (p1 : Option Addr) (n2 : Int) (n3 : Int) (w : World) (K : Bool → Int → World → Prop) : Prop := CallsV prog 45 #[(.pointer p1), (.int .i64 n2), (.int .u64 n3)] w (S_b_i64.V K)
def shelf_Shelf_Next.C (p1 : Option Addr) (n2 : Int) (n3 : Int) (w : World) (K : Int → Int → World → Prop) : Prop := CallsV prog 46 #[(.pointer p1), (.int .i64 n2), (.int .u64 n3)] w (S_u64_i64.V K)
def shelf_Shelf_Prev.C (p1 : Option Addr) (n2 : Int) (n3 : Int) (w : World) (K : Int → Int → World → Prop) : Prop := CallsV prog 47 #[(.pointer p1), (.int .i64 n2), (.int .u64 n3)] w (S_u64_i64.V K)
def shelf_Shelf_Len.C (p1 : Option Addr) (n2 : Int) (w : World) (K : Int → Int → World → Prop) : Prop := CallsV prog 48 #[(.pointer p1), (.int .i64 n2)] w (S_i64_i64.V K)
def shelf_Shelf_Rank.C (p1 : Option Addr) (n2 : Int) (n3 : Int) (w : World) (K : Int → Int → World → Prop) : Prop := CallsV prog 49 #[(.pointer p1), (.int .i64 n2), (.int .u64 n3)] w (S_i64_i64.V K)
def shelf_Shelf_Select.C (p1 : Option Addr) (n2 : Int) (n3 : Int) (w : World) (K : Int → Int → World → Prop) : Prop := CallsV prog 50 #[(.pointer p1), (.int .i64 n2), (.int .i64 n3)] w (S_u64_i64.V K)
def shelf_Shelf_Count.C (p1 : Option Addr) (n2 : Int) (n3 : Int) (n4 : Int) (w : World) (K : Int → Int → World → Prop) : Prop := CallsV prog 51 #[(.pointer p1), (.int .i64 n2), (.int .u64 n3), (.int .u64 n4)] w (S_i64_i64.V K)
def shelf_Shelf_Equal.C (p1 : Option Addr) (n2 : Int) (n3 : Int) (w : World) (K : Bool → Int → World → Prop) : Prop := CallsV prog 52 #[(.pointer p1), (.int .i64 n2), (.int .i64 n3)] w (S_b_i64.V K)
def shelf_Shelf_Within.C (p1 : Option Addr) (n2 : Int) (n3 : Int) (w : World) (K : Bool → Int → World → Prop) : Prop := CallsV prog 53 #[(.pointer p1), (.int .i64 n2), (.int .i64 n3)] w (S_b_i64.V K)
def shelf_Shelf_Cursor.C (p1 : Option Addr) (n2 : Int) (n3 : Int) (n4 : Int) (w : World) (K : Int → World → Prop) : Prop := CallsV prog 54 #[(.pointer p1), (.int .i64 n2), (.int .u64 n3), (.int .u64 n4)] w (S_i64.V K)
def shelf_Shelf_Step.C (p1 : Option Addr) (n2 : Int) (q3 : Bool) (w : World) (K : Int → Int → World → Prop) : Prop := CallsV prog 55 #[(.pointer p1), (.int .i64 n2), (.bool q3)] w (S_u64_i64.V K)
def shelf_Shelf_Seek.C (p1 : Option Addr) (n2 : Int) (n3 : Int) (w : World) (K : Int → Int → World → Prop) : Prop := CallsV prog 56 #[(.pointer p1), (.int .i64 n2), (.int .u64 n3)] w (S_u64_i64.V K)
def shelf_Shelf_Version.C (p1 : Option Addr) (n2 : Int) (w : World) (K : Int → Int → World → Prop) : Prop := CallsV prog 57 #[(.pointer p1), (.int .i64 n2)] w (S_u64_i64.V K)
def stepstoneref01_Ints.C (a1 : Option Addr) (l2 : Nat) (c3 : Nat) (n4 : Int) (w : World) (K : Option Addr → Nat → Nat → World → Prop) : Prop := CallsV prog 58 #[(.slice a1 l2 c3), (.int .i64 n4)] w (S_l.V K)
def stepstoneref01_Bytes.C (a1 : Option Addr) (l2 : Nat) (c3 : Nat) (n4 : Int) (w : World) (K : Option Addr → Nat → Nat → World → Prop) : Prop := CallsV prog 59 #[(.slice a1 l2 c3), (.int .i64 n4)] w (S_l.V K)
def shelf_Shelf_at.C (p1 : Option Addr) (n2 : Int) (w : World) (K : Option Addr → World → Prop) : Prop := CallsV prog 60 #[(.pointer p1), (.int .i64 n2)] w (S_p.V K)
def dict_Map_Encode.C (p1 : Option Addr) (w : World) (K : Option Addr → Nat → Nat → Int → World → Prop) : Prop := CallsV prog 61 #[(.pointer p1)] w (S_l_i64.V K)
def face_Encode.C (x1 : Value) (w : World) (K : Option Addr → Nat → Nat → Int → World → Prop) : Prop := CallsV prog 62 #[x1] w (S_l_i64.V K)
def shelf_item_keys.C (p1 : Option Addr) (w : World) (K : Value → World → Prop) : Prop := CallsV prog 63 #[(.pointer p1)] w (S_r.V K)
def shell_lines_1.C (x1 : Value) (b2 : Nat) (o3 : Nat) (w : World) (K : World → Prop) : Prop := CallsV prog 64 #[x1, (.pointer (some ⟨b2, o3, none⟩))] w (S_.V K)
def strings_Cut.C (s1 : ByteArray) (s2 : ByteArray) (w : World) (K : ByteArray → ByteArray → Bool → World → Prop) : Prop := CallsV prog 65 #[(.string s1), (.string s2)] w (S_s_s_b.V K)
def strings_Builder_copyCheck.C (p1 : Option Addr) (w : World) (K : World → Prop) : Prop := CallsV prog 66 #[(.pointer p1)] w (S_.V K)
def shell_read.C (s1 : ByteArray) (w : World) (K : Int → Int → Int → Option Addr → Nat → Nat → Int → Int → Option Addr → Nat → Nat → Bool → Int → Int → Int → Bool → Bool → World → Prop) : Prop := CallsV prog 67 #[(.string s1)] w (S_au8_i64_i64_l_u64_u64_l_b_i64_u64_i64_bz_b.V K)
def shell_fault.C (n1 : Int) (w : World) (K : ByteArray → World → Prop) : Prop := CallsV prog 68 #[(.int .i64 n1)] w (S_s.V K)
def shell_kind.C (s1 : ByteArray) (w : World) (K : Int → World → Prop) : Prop := CallsV prog 69 #[(.string s1)] w (S_i64.V K)
def shell_listed.C (n1 : Int) (n2 : Int) (n3 : Int) (q4 : Bool) (a5 : Option Addr) (l6 : Nat) (c7 : Nat) (w : World) (K : ByteArray → World → Prop) : Prop := CallsV prog 70 #[(.agg #[(.int .i64 n1), (.int .u64 n2), (.int .i64 n3), (.bool q4), (.slice a5 l6 c7)])] w (S_s.V K)
def shell_told.C (s1 : ByteArray) (n2 : Int) (n3 : Int) (n4 : Int) (q5 : Bool) (a6 : Option Addr) (l7 : Nat) (c8 : Nat) (w : World) (K : ByteArray → World → Prop) : Prop := CallsV prog 71 #[(.string s1), (.agg #[(.int .i64 n2), (.int .u64 n3), (.int .i64 n4), (.bool q5), (.slice a6 l7 c8)])] w (S_s.V K)
def shelf_made.C (q1 : Bool) (n2 : Int) (n3 : Int) (n4 : Int) (w : World) (K : Option Addr → Int → World → Prop) : Prop := CallsV prog 83 #[(.agg #[(.bool q1), (.int .i64 n2), (.int .u64 n3), (.int .i64 n4)])] w (S_p_i64.V K)
def shelf_Shelf_Taken.C (p1 : Option Addr) (n2 : Int) (w : World) (K : Bool → World → Prop) : Prop := CallsV prog 84 #[(.pointer p1), (.int .i64 n2)] w (S_b.V K)
def look_Kept_Insert.C (p1 : Option Addr) (n2 : Int) (w : World) (K : Int → World → Prop) : Prop := CallsV prog 85 #[(.pointer p1), (.int .u64 n2)] w (S_i64.V K)
def shelf_item_put.C (p1 : Option Addr) (n2 : Int) (n3 : Int) (w : World) (K : Int → World → Prop) : Prop := CallsV prog 86 #[(.pointer p1), (.int .u64 n2), (.int .u64 n3)] w (S_i64.V K)
def look_Kept_Delete.C (p1 : Option Addr) (n2 : Int) (w : World) (K : Int → World → Prop) : Prop := CallsV prog 87 #[(.pointer p1), (.int .u64 n2)] w (S_i64.V K)
def look_Kept_Wipe.C (p1 : Option Addr) (n2 : Int) (n3 : Int) (w : World) (K : Int → Int → World → Prop) : Prop := CallsV prog 88 #[(.pointer p1), (.int .u64 n2), (.int .u64 n3)] w (S_i64_i64.V K)
def shelf_item_wipe.C (p1 : Option Addr) (n2 : Int) (n3 : Int) (w : World) (K : Int → Int → World → Prop) : Prop := CallsV prog 89 #[(.pointer p1), (.int .u64 n2), (.int .u64 n3)] w (S_i64_i64.V K)
def look_Kept_Clear.C (p1 : Option Addr) (w : World) (K : World → Prop) : Prop := CallsV prog 90 #[(.pointer p1)] w (S_.V K)
def slices_ContainsFunc_int_int.C (a1 : Option Addr) (l2 : Nat) (c3 : Nat) (x4 : Value) (w : World) (K : Bool → World → Prop) : Prop := CallsV prog 91 #[(.slice a1 l2 c3), x4] w (S_b.V K)
def face_Join.C (n1 : Int) (n2 : Int) (n3 : Int) (n4 : Int) (a5 : Option Addr) (l6 : Nat) (c7 : Nat) (w : World) (K : Value → Int → World → Prop) : Prop := CallsV prog 93 #[(.int .i64 n1), (.int .i64 n2), (.int .u64 n3), (.int .i64 n4), (.slice a5 l6 c7)] w (S_r_i64.V K)
def look_Kept_Swap.C (p1 : Option Addr) (x2 : Value) (w : World) (K : World → Prop) : Prop := CallsV prog 94 #[(.pointer p1), x2] w (S_.V K)
def dict_Decode.C (a1 : Option Addr) (l2 : Nat) (c3 : Nat) (n4 : Int) (n5 : Int) (n6 : Int) (w : World) (K : Option Addr → Int → World → Prop) : Prop := CallsV prog 95 #[(.slice a1 l2 c3), (.int .i64 n4), (.int .u64 n5), (.int .i64 n6)] w (S_p_i64.V K)
def shelf_item_swap.C (p1 : Option Addr) (p2 : Option Addr) (w : World) (K : Int → World → Prop) : Prop := CallsV prog 96 #[(.pointer p1), (.pointer p2)] w (S_i64.V K)
def face_Decode.C (a1 : Option Addr) (l2 : Nat) (c3 : Nat) (n4 : Int) (n5 : Int) (n6 : Int) (w : World) (K : Value → Int → World → Prop) : Prop := CallsV prog 97 #[(.slice a1 l2 c3), (.int .i64 n4), (.int .u64 n5), (.int .i64 n6)] w (S_r_i64.V K)
def dict_Map_Get.C (p1 : Option Addr) (n2 : Int) (w : World) (K : Int → Bool → World → Prop) : Prop := CallsV prog 98 #[(.pointer p1), (.int .u64 n2)] w (S_u64_b.V K)
def shelf_found.C (n1 : Int) (q2 : Bool) (w : World) (K : Int → Int → World → Prop) : Prop := CallsV prog 99 #[(.int .u64 n1), (.bool q2)] w (S_u64_i64.V K)
def face_Rank.C (x1 : Value) (n2 : Int) (w : World) (K : Int → World → Prop) : Prop := CallsV prog 100 #[x1, (.int .u64 n2)] w (S_i64.V K)
def face_Select.C (x1 : Value) (n2 : Int) (w : World) (K : Int → Bool → World → Prop) : Prop := CallsV prog 101 #[x1, (.int .i64 n2)] w (S_u64_b.V K)
def face_Count.C (x1 : Value) (n2 : Int) (n3 : Int) (w : World) (K : Int → Int → World → Prop) : Prop := CallsV prog 102 #[x1, (.int .u64 n2), (.int .u64 n3)] w (S_i64_i64.V K)
def shelf_Shelf_two.C (p1 : Option Addr) (n2 : Int) (n3 : Int) (w : World) (K : Value → Value → Int → World → Prop) : Prop := CallsV prog 103 #[(.pointer p1), (.int .i64 n2), (.int .i64 n3)] w (S_r_r_i64.V K)
def face_Equal.C (x1 : Value) (x2 : Value) (w : World) (K : Bool → World → Prop) : Prop := CallsV prog 104 #[x1, x2] w (S_b.V K)
def face_Within.C (x1 : Value) (x2 : Value) (w : World) (K : Bool → World → Prop) : Prop := CallsV prog 105 #[x1, x2] w (S_b.V K)
def look_Kept_Open.C (p1 : Option Addr) (n2 : Int) (n3 : Int) (w : World) (K : Option Addr → Int → World → Prop) : Prop := CallsV prog 106 #[(.pointer p1), (.int .u64 n2), (.int .u64 n3)] w (S_p_i64.V K)
def shelf_Shelf_cursor.C (p1 : Option Addr) (n2 : Int) (w : World) (K : Option Addr → Int → World → Prop) : Prop := CallsV prog 107 #[(.pointer p1), (.int .i64 n2)] w (S_p_i64.V K)
def look_Cursor_Prev.C (p1 : Option Addr) (w : World) (K : Int → Int → World → Prop) : Prop := CallsV prog 108 #[(.pointer p1)] w (S_u64_i64.V K)
def look_Cursor_Next.C (p1 : Option Addr) (w : World) (K : Int → Int → World → Prop) : Prop := CallsV prog 109 #[(.pointer p1)] w (S_u64_i64.V K)
def look_Cursor_Seek.C (p1 : Option Addr) (n2 : Int) (w : World) (K : Int → Int → World → Prop) : Prop := CallsV prog 110 #[(.pointer p1), (.int .u64 n2)] w (S_u64_i64.V K)
def look_Kept_Version.C (p1 : Option Addr) (w : World) (K : Int → World → Prop) : Prop := CallsV prog 111 #[(.pointer p1)] w (S_u64.V K)
def strings_Split.C (s1 : ByteArray) (s2 : ByteArray) (w : World) (K : Option Addr → Nat → Nat → World → Prop) : Prop := CallsV prog 119 #[(.string s1), (.string s2)] w (S_l.V K)
def shell_words_num.C (p1 : Option Addr) (w : World) (K : Int → World → Prop) : Prop := CallsV prog 120 #[(.pointer p1)] w (S_i64.V K)
def shell_words_one.C (p1 : Option Addr) (s2 : ByteArray) (s3 : ByteArray) (w : World) (K : Bool → World → Prop) : Prop := CallsV prog 121 #[(.pointer p1), (.string s2), (.string s3)] w (S_b.V K)
def shell_words_tag.C (p1 : Option Addr) (w : World) (K : Int → World → Prop) : Prop := CallsV prog 122 #[(.pointer p1)] w (S_i64.V K)
def shell_words_key.C (p1 : Option Addr) (w : World) (K : Int → World → Prop) : Prop := CallsV prog 123 #[(.pointer p1)] w (S_u64.V K)
def shell_words_hex.C (p1 : Option Addr) (w : World) (K : Option Addr → Nat → Nat → World → Prop) : Prop := CallsV prog 124 #[(.pointer p1)] w (S_l.V K)
def shell_words_end.C (p1 : Option Addr) (w : World) (K : Bool → World → Prop) : Prop := CallsV prog 125 #[(.pointer p1)] w (S_b.V K)
def strconv_Itoa.C (n1 : Int) (w : World) (K : ByteArray → World → Prop) : Prop := CallsV prog 126 #[(.int .i64 n1)] w (S_s.V K)
def strconv_FormatUint.C (n1 : Int) (n2 : Int) (w : World) (K : ByteArray → World → Prop) : Prop := CallsV prog 128 #[(.int .u64 n1), (.int .i64 n2)] w (S_s.V K)
def shell_shown.C (a1 : Option Addr) (l2 : Nat) (c3 : Nat) (w : World) (K : ByteArray → World → Prop) : Prop := CallsV prog 130 #[(.slice a1 l2 c3)] w (S_s.V K)
def dict_New.C (n1 : Int) (n2 : Int) (n3 : Int) (w : World) (K : Option Addr → Int → World → Prop) : Prop := CallsV prog 137 #[(.int .i64 n1), (.int .u64 n2), (.int .i64 n3)] w (S_p_i64.V K)
def look_Keep.C (x1 : Value) (w : World) (K : Option Addr → World → Prop) : Prop := CallsV prog 138 #[x1] w (S_p.V K)
def face_New.C (n1 : Int) (n2 : Int) (n3 : Int) (w : World) (K : Value → Int → World → Prop) : Prop := CallsV prog 139 #[(.int .i64 n1), (.int .u64 n2), (.int .i64 n3)] w (S_r_i64.V K)
def look_Kept_changed.C (p1 : Option Addr) (n2 : Int) (w : World) (K : Int → World → Prop) : Prop := CallsV prog 140 #[(.pointer p1), (.int .i64 n2)] w (S_i64.V K)
def shell_words_next.C (p1 : Option Addr) (w : World) (K : ByteArray → World → Prop) : Prop := CallsV prog 163 #[(.pointer p1)] w (S_s.V K)
def face_Name.C (n1 : Int) (w : World) (K : ByteArray → World → Prop) : Prop := CallsV prog 164 #[(.int .i64 n1)] w (S_s.V K)
def strconv_ParseUint.C (s1 : ByteArray) (n2 : Int) (n3 : Int) (w : World) (K : Int → Value → World → Prop) : Prop := CallsV prog 165 #[(.string s1), (.int .i64 n2), (.int .i64 n3)] w (S_u64_r.V K)
def internal_strconv_FormatUint.C (n1 : Int) (n2 : Int) (w : World) (K : ByteArray → World → Prop) : Prop := CallsV prog 170 #[(.int .u64 n1), (.int .i64 n2)] w (S_s.V K)
def slots_New.C (n1 : Int) (n2 : Int) (w : World) (K : Option Addr → Int → World → Prop) : Prop := CallsV prog 174 #[(.int .u64 n1), (.int .i64 n2)] w (S_p_i64.V K)
def face_made_veb_VEB.C (p1 : Option Addr) (n2 : Int) (w : World) (K : Value → Int → World → Prop) : Prop := CallsV prog 175 #[(.pointer p1), (.int .i64 n2)] w (S_r_i64.V K)
def veb_New.C (n1 : Int) (n2 : Int) (w : World) (K : Option Addr → Int → World → Prop) : Prop := CallsV prog 176 #[(.int .u64 n1), (.int .i64 n2)] w (S_p_i64.V K)
def face_made_xfast_XFast.C (p1 : Option Addr) (n2 : Int) (w : World) (K : Value → Int → World → Prop) : Prop := CallsV prog 177 #[(.pointer p1), (.int .i64 n2)] w (S_r_i64.V K)
def xfast_New.C (n1 : Int) (n2 : Int) (w : World) (K : Option Addr → Int → World → Prop) : Prop := CallsV prog 178 #[(.int .u64 n1), (.int .i64 n2)] w (S_p_i64.V K)
def face_made_yfast_YFast.C (p1 : Option Addr) (n2 : Int) (w : World) (K : Value → Int → World → Prop) : Prop := CallsV prog 179 #[(.pointer p1), (.int .i64 n2)] w (S_r_i64.V K)
def yfast_New.C (n1 : Int) (n2 : Int) (w : World) (K : Option Addr → Int → World → Prop) : Prop := CallsV prog 180 #[(.int .u64 n1), (.int .i64 n2)] w (S_p_i64.V K)
def face_made_trie_Trie.C (p1 : Option Addr) (n2 : Int) (w : World) (K : Value → Int → World → Prop) : Prop := CallsV prog 181 #[(.pointer p1), (.int .i64 n2)] w (S_r_i64.V K)
def trie_New.C (n1 : Int) (w : World) (K : Option Addr → Int → World → Prop) : Prop := CallsV prog 182 #[(.int .i64 n1)] w (S_p_i64.V K)
def face_made_roar_Roar.C (p1 : Option Addr) (n2 : Int) (w : World) (K : Value → Int → World → Prop) : Prop := CallsV prog 183 #[(.pointer p1), (.int .i64 n2)] w (S_r_i64.V K)
def roar_New.C (n1 : Int) (w : World) (K : Option Addr → Int → World → Prop) : Prop := CallsV prog 184 #[(.int .i64 n1)] w (S_p_i64.V K)
def count_New.C (w : World) (K : Option Addr → World → Prop) : Prop := CallsV prog 217 #[] w (S_p.V K)
def pool_New_uint64.C (p1 : Option Addr) (n2 : Int) (w : World) (K : Option Addr → Int → World → Prop) : Prop := CallsV prog 218 #[(.pointer p1), (.int .i64 n2)] w (S_p_i64.V K)
def hash_New.C (p1 : Option Addr) (n2 : Int) (w : World) (K : Option Addr → World → Prop) : Prop := CallsV prog 219 #[(.pointer p1), (.int .u64 n2)] w (S_p.V K)
def pool_New_veb_node.C (p1 : Option Addr) (n2 : Int) (w : World) (K : Option Addr → Int → World → Prop) : Prop := CallsV prog 220 #[(.pointer p1), (.int .i64 n2)] w (S_p_i64.V K)
def chain_New.C (p1 : Option Addr) (n2 : Int) (w : World) (K : Option Addr → Int → World → Prop) : Prop := CallsV prog 221 #[(.pointer p1), (.int .i64 n2)] w (S_p_i64.V K)
def pool_New_yfast_cell.C (p1 : Option Addr) (n2 : Int) (w : World) (K : Option Addr → Int → World → Prop) : Prop := CallsV prog 222 #[(.pointer p1), (.int .i64 n2)] w (S_p_i64.V K)
def pool_New_trie_node.C (p1 : Option Addr) (n2 : Int) (w : World) (K : Option Addr → Int → World → Prop) : Prop := CallsV prog 223 #[(.pointer p1), (.int .i64 n2)] w (S_p_i64.V K)
def count_Meter_Read.C (p1 : Option Addr) (w : World) (K : World → Prop) : Prop := CallsV prog 239 #[(.pointer p1)] w (S_.V K)
def pool_New_chain_link.C (p1 : Option Addr) (n2 : Int) (w : World) (K : Option Addr → Int → World → Prop) : Prop := CallsV prog 260 #[(.pointer p1), (.int .i64 n2)] w (S_p_i64.V K)
def count_Meter_step.C (p1 : Option Addr) (w : World) (K : World → Prop) : Prop := CallsV prog 267 #[(.pointer p1)] w (S_.V K)
def count_Meter_Start.C (p1 : Option Addr) (w : World) (K : World → Prop) : Prop := CallsV prog 357 #[(.pointer p1)] w (S_.V K)
def bit_Get.C (n1 : Int) (n2 : Int) (w : World) (K : Bool → World → Prop) : Prop := CallsV prog 358 #[(.int .u64 n1), (.int .i64 n2)] w (S_b.V K)
def bit_Set.C (n1 : Int) (n2 : Int) (w : World) (K : Int → World → Prop) : Prop := CallsV prog 364 #[(.int .u64 n1), (.int .i64 n2)] w (S_u64.V K)
def bit_Next.C (n1 : Int) (n2 : Int) (w : World) (K : Int → World → Prop) : Prop := CallsV prog 367 #[(.int .u64 n1), (.int .i64 n2)] w (S_i64.V K)
def bit_one.C (n1 : Int) (w : World) (K : Int → World → Prop) : Prop := CallsV prog 371 #[(.int .i64 n1)] w (S_u64.V K)
def bit_below.C (n1 : Int) (w : World) (K : Int → World → Prop) : Prop := CallsV prog 375 #[(.int .i64 n1)] w (S_u64.V K)
def bit_there.C (n1 : Int) (w : World) (K : Bool → World → Prop) : Prop := CallsV prog 376 #[(.int .i64 n1)] w (S_b.V K)
def trie_Trie_Has.C (p1 : Option Addr) (n2 : Int) (w : World) (K : Bool → World → Prop) : Prop := CallsV prog 469 #[(.pointer p1), (.int .u64 n2)] w (S_b.V K)
def trie_Trie_Insert.C (p1 : Option Addr) (n2 : Int) (w : World) (K : Int → World → Prop) : Prop := CallsV prog 470 #[(.pointer p1), (.int .u64 n2)] w (S_i64.V K)
def trie_Trie_Len.C (p1 : Option Addr) (w : World) (K : Int → World → Prop) : Prop := CallsV prog 471 #[(.pointer p1)] w (S_i64.V K)
def trie_Trie_Next.C (p1 : Option Addr) (n2 : Int) (w : World) (K : Int → Bool → World → Prop) : Prop := CallsV prog 475 #[(.pointer p1), (.int .u64 n2)] w (S_u64_b.V K)
def trie_Trie_path.C (p1 : Option Addr) (n2 : Int) (w : World) (K : Option Addr → Nat → Nat → World → Prop) : Prop := CallsV prog 482 #[(.pointer p1), (.int .u64 n2)] w (S_l.V K)
def trie_Trie_see.C (p1 : Option Addr) (n2 : Int) (w : World) (K : Int → Option Addr → Nat → Nat → Int → Int → Int → World → Prop) : Prop := CallsV prog 483 #[(.pointer p1), (.int .i64 n2)] w (S_au64_l_i64_u64_u64z.V K)
def trie_at.C (n1 : Int) (n2 : Int) (w : World) (K : Int → World → Prop) : Prop := CallsV prog 484 #[(.int .u64 n1), (.int .i64 n2)] w (S_i64.V K)
def bit_Rank.C (n1 : Int) (n2 : Int) (w : World) (K : Int → World → Prop) : Prop := CallsV prog 485 #[(.int .u64 n1), (.int .i64 n2)] w (S_i64.V K)
def slices_Clone_int_int.C (a1 : Option Addr) (l2 : Nat) (c3 : Nat) (w : World) (K : Option Addr → Nat → Nat → World → Prop) : Prop := CallsV prog 487 #[(.slice a1 l2 c3)] w (S_l.V K)
def pool_Pool_trie_node_Put.C (p1 : Option Addr) (n2 : Int) (n3 : Int) (a4 : Option Addr) (l5 : Nat) (c6 : Nat) (n7 : Int) (n8 : Int) (n9 : Int) (w : World) (K : Bool → World → Prop) : Prop := CallsV prog 489 #[(.pointer p1), (.int .i64 n2), (.agg #[(.int .u64 n3), (.slice a4 l5 c6), (.int .i64 n7), (.int .u64 n8), (.int .u64 n9)])] w (S_b.V K)
def trie_Trie_start.C (p1 : Option Addr) (w : World) (K : Bool → World → Prop) : Prop := CallsV prog 491 #[(.pointer p1)] w (S_b.V K)
def trie_Trie_last.C (p1 : Option Addr) (n2 : Int) (n3 : Int) (w : World) (K : Bool → World → Prop) : Prop := CallsV prog 492 #[(.pointer p1), (.int .i64 n2), (.int .u64 n3)] w (S_b.V K)
def pool_Pool_trie_node_Room.C (p1 : Option Addr) (n2 : Int) (w : World) (K : Bool → World → Prop) : Prop := CallsV prog 493 #[(.pointer p1), (.int .i64 n2)] w (S_b.V K)
def slices_Insert_int_int.C (a1 : Option Addr) (l2 : Nat) (c3 : Nat) (n4 : Int) (a5 : Option Addr) (l6 : Nat) (c7 : Nat) (w : World) (K : Option Addr → Nat → Nat → World → Prop) : Prop := CallsV prog 494 #[(.slice a1 l2 c3), (.int .i64 n4), (.slice a5 l6 c7)] w (S_l.V K)
def trie_grown.C (n1 : Int) (a2 : Option Addr) (l3 : Nat) (c4 : Nat) (n5 : Int) (n6 : Int) (n7 : Int) (n8 : Int) (w : World) (K : Int → Option Addr → Nat → Nat → Int → Int → Int → World → Prop) : Prop := CallsV prog 495 #[(.agg #[(.int .u64 n1), (.slice a2 l3 c4), (.int .i64 n5), (.int .u64 n6), (.int .u64 n7)]), (.int .u64 n8)] w (S_au64_l_i64_u64_u64z.V K)
def pool_Pool_trie_node_Alloc.C (p1 : Option Addr) (n2 : Int) (a3 : Option Addr) (l4 : Nat) (c5 : Nat) (n6 : Int) (n7 : Int) (n8 : Int) (w : World) (K : Int → Bool → World → Prop) : Prop := CallsV prog 496 #[(.pointer p1), (.agg #[(.int .u64 n2), (.slice a3 l4 c5), (.int .i64 n6), (.int .u64 n7), (.int .u64 n8)])] w (S_i64_b.V K)
def pool_Pool_trie_node_At.C (p1 : Option Addr) (n2 : Int) (w : World) (K : Int → Option Addr → Nat → Nat → Int → Int → Int → Bool → World → Prop) : Prop := CallsV prog 498 #[(.pointer p1), (.int .i64 n2)] w (S_au64_l_i64_u64_u64z_b.V K)
def trie_Trie_kid.C (p1 : Option Addr) (n2 : Int) (a3 : Option Addr) (l4 : Nat) (c5 : Nat) (n6 : Int) (n7 : Int) (n8 : Int) (n9 : Int) (w : World) (K : Int → Int → Option Addr → Nat → Nat → Int → Int → Int → Bool → World → Prop) : Prop := CallsV prog 499 #[(.pointer p1), (.agg #[(.int .u64 n2), (.slice a3 l4 c5), (.int .i64 n6), (.int .u64 n7), (.int .u64 n8)]), (.int .i64 n9)] w (S_i64_au64_l_i64_u64_u64z_b.V K)
def pool_Pool_trie_node_Peek.C (p1 : Option Addr) (n2 : Int) (w : World) (K : Int → Option Addr → Nat → Nat → Int → Int → Int → Bool → World → Prop) : Prop := CallsV prog 501 #[(.pointer p1), (.int .i64 n2)] w (S_au64_l_i64_u64_u64z_b.V K)
def bit_Count.C (n1 : Int) (w : World) (K : Int → World → Prop) : Prop := CallsV prog 502 #[(.int .u64 n1)] w (S_i64.V K)
def pool_Pool_trie_node_Live.C (p1 : Option Addr) (n2 : Int) (w : World) (K : Bool → World → Prop) : Prop := CallsV prog 503 #[(.pointer p1), (.int .i64 n2)] w (S_b.V K)
def slices_rotateRight_int.C (a1 : Option Addr) (l2 : Nat) (c3 : Nat) (n4 : Int) (w : World) (K : World → Prop) : Prop := CallsV prog 505 #[(.slice a1 l2 c3), (.int .i64 n4)] w (S_.V K)
def math_bits_OnesCount64.C (n1 : Int) (w : World) (K : Int → World → Prop) : Prop := CallsV prog 507 #[(.int .u64 n1)] w (S_i64.V K)
def roar_Roar_Has.C (p1 : Option Addr) (n2 : Int) (w : World) (K : Bool → World → Prop) : Prop := CallsV prog 513 #[(.pointer p1), (.int .u64 n2)] w (S_b.V K)
def roar_Roar_Insert.C (p1 : Option Addr) (n2 : Int) (w : World) (K : Int → World → Prop) : Prop := CallsV prog 514 #[(.pointer p1), (.int .u64 n2)] w (S_i64.V K)
def roar_Roar_Len.C (p1 : Option Addr) (w : World) (K : Int → World → Prop) : Prop := CallsV prog 515 #[(.pointer p1)] w (S_i64.V K)
def roar_Roar_Next.C (p1 : Option Addr) (n2 : Int) (w : World) (K : Int → Bool → World → Prop) : Prop := CallsV prog 519 #[(.pointer p1), (.int .u64 n2)] w (S_u64_b.V K)
def roar_entry_join.C (n1 : Int) (p2 : Option Addr) (n3 : Int) (w : World) (K : Int → World → Prop) : Prop := CallsV prog 527 #[(.agg #[(.int .u64 n1), (.pointer p2)]), (.int .u16 n3)] w (S_u64.V K)
def roar_Roar_box.C (p1 : Option Addr) (n2 : Int) (w : World) (K : Option Addr → Int → Bool → World → Prop) : Prop := CallsV prog 528 #[(.pointer p1), (.int .u64 n2)] w (S_p_i64_b.V K)
def roar_lower.C (n1 : Int) (w : World) (K : Int → World → Prop) : Prop := CallsV prog 530 #[(.int .u64 n1)] w (S_u16.V K)
def roar_Roar_lay.C (p1 : Option Addr) (n2 : Int) (q3 : Bool) (n4 : Int) (p5 : Option Addr) (w : World) (K : Int → World → Prop) : Prop := CallsV prog 531 #[(.pointer p1), (.int .i64 n2), (.bool q3), (.int .u64 n4), (.pointer p5)] w (S_i64.V K)
def roar_upper.C (n1 : Int) (w : World) (K : Int → World → Prop) : Prop := CallsV prog 532 #[(.int .u64 n1)] w (S_u64.V K)
def roar_Roar_start.C (p1 : Option Addr) (w : World) (K : Bool → World → Prop) : Prop := CallsV prog 533 #[(.pointer p1)] w (S_b.V K)
def roar_Roar_find.C (p1 : Option Addr) (n2 : Int) (w : World) (K : Int → Bool → World → Prop) : Prop := CallsV prog 534 #[(.pointer p1), (.int .u64 n2)] w (S_i64_b.V K)
def roar_Roar_see.C (p1 : Option Addr) (n2 : Int) (w : World) (K : Int → Option Addr → Bool → World → Prop) : Prop := CallsV prog 535 #[(.pointer p1), (.int .i64 n2)] w (S_au64_pz_b.V K)
def box_Box_Has.C (p1 : Option Addr) (n2 : Int) (w : World) (K : Bool → World → Prop) : Prop := CallsV prog 536 #[(.pointer p1), (.int .u16 n2)] w (S_b.V K)
def box_Box_Add.C (p1 : Option Addr) (n2 : Int) (w : World) (K : Bool → World → Prop) : Prop := CallsV prog 537 #[(.pointer p1), (.int .u16 n2)] w (S_b.V K)
def box_Box_Len.C (p1 : Option Addr) (w : World) (K : Int → World → Prop) : Prop := CallsV prog 538 #[(.pointer p1)] w (S_i64.V K)
def box_Box_Next.C (p1 : Option Addr) (n2 : Int) (w : World) (K : Int → Bool → World → Prop) : Prop := CallsV prog 539 #[(.pointer p1), (.int .u16 n2)] w (S_u16_b.V K)
def roar_entry_ends.C (n1 : Int) (p2 : Option Addr) (w : World) (K : Int → Int → World → Prop) : Prop := CallsV prog 540 #[(.agg #[(.int .u64 n1), (.pointer p2)])] w (S_u64_u64.V K)
def box_Box_Prev.C (p1 : Option Addr) (n2 : Int) (w : World) (K : Int → Bool → World → Prop) : Prop := CallsV prog 541 #[(.pointer p1), (.int .u16 n2)] w (S_u16_b.V K)
def box_Box_kept.C (p1 : Option Addr) (w : World) (K : Value → World → Prop) : Prop := CallsV prog 551 #[(.pointer p1)] w (S_r.V K)
def box_New.C (w : World) (K : Option Addr → World → Prop) : Prop := CallsV prog 552 #[] w (S_p.V K)
def box_Box_Copy.C (p1 : Option Addr) (w : World) (K : Option Addr → World → Prop) : Prop := CallsV prog 553 #[(.pointer p1)] w (S_p.V K)
def roar_cost.C (p1 : Option Addr) (w : World) (K : Int → World → Prop) : Prop := CallsV prog 555 #[(.pointer p1)] w (S_i64.V K)
def slices_Replace_roar_entry_roar_entry.C (a1 : Option Addr) (l2 : Nat) (c3 : Nat) (n4 : Int) (n5 : Int) (a6 : Option Addr) (l7 : Nat) (c8 : Nat) (w : World) (K : Option Addr → Nat → Nat → World → Prop) : Prop := CallsV prog 556 #[(.slice a1 l2 c3), (.int .i64 n4), (.int .i64 n5), (.slice a6 l7 c8)] w (S_l.V K)
def slices_Delete_roar_entry_roar_entry.C (a1 : Option Addr) (l2 : Nat) (c3 : Nat) (n4 : Int) (n5 : Int) (w : World) (K : Option Addr → Nat → Nat → World → Prop) : Prop := CallsV prog 557 #[(.slice a1 l2 c3), (.int .i64 n4), (.int .i64 n5)] w (S_l.V K)
def array_Add.C (a1 : Option Addr) (l2 : Nat) (c3 : Nat) (n4 : Int) (w : World) (K : Option Addr → Nat → Nat → Bool → World → Prop) : Prop := CallsV prog 558 #[(.slice a1 l2 c3), (.int .u16 n4)] w (S_l_b.V K)
def box_Box_bitmap.C (p1 : Option Addr) (w : World) (K : Option Addr → World → Prop) : Prop := CallsV prog 559 #[(.pointer p1)] w (S_p.V K)
def bitmap_Bitmap_Add.C (p1 : Option Addr) (n2 : Int) (w : World) (K : Bool → World → Prop) : Prop := CallsV prog 560 #[(.pointer p1), (.int .u16 n2)] w (S_b.V K)
def box_Box_Cost.C (p1 : Option Addr) (w : World) (K : Int → World → Prop) : Prop := CallsV prog 569 #[(.pointer p1)] w (S_i64.V K)
def slices_Insert_roar_entry_roar_entry.C (a1 : Option Addr) (l2 : Nat) (c3 : Nat) (n4 : Int) (a5 : Option Addr) (l6 : Nat) (c7 : Nat) (w : World) (K : Option Addr → Nat → Nat → World → Prop) : Prop := CallsV prog 570 #[(.slice a1 l2 c3), (.int .i64 n4), (.slice a5 l6 c7)] w (S_l.V K)
def slices_rotateRight_roar_entry.C (a1 : Option Addr) (l2 : Nat) (c3 : Nat) (n4 : Int) (w : World) (K : World → Prop) : Prop := CallsV prog 572 #[(.slice a1 l2 c3), (.int .i64 n4)] w (S_.V K)
def slices_startIdx_roar_entry.C (a1 : Option Addr) (l2 : Nat) (c3 : Nat) (a4 : Option Addr) (l5 : Nat) (c6 : Nat) (w : World) (K : Int → World → Prop) : Prop := CallsV prog 573 #[(.slice a1 l2 c3), (.slice a4 l5 c6)] w (S_i64.V K)
def slices_BinarySearch_uint16_uint16.C (a1 : Option Addr) (l2 : Nat) (c3 : Nat) (n4 : Int) (w : World) (K : Int → Bool → World → Prop) : Prop := CallsV prog 574 #[(.slice a1 l2 c3), (.int .u16 n4)] w (S_i64_b.V K)
def slices_Clone_uint16_uint16.C (a1 : Option Addr) (l2 : Nat) (c3 : Nat) (w : World) (K : Option Addr → Nat → Nat → World → Prop) : Prop := CallsV prog 575 #[(.slice a1 l2 c3)] w (S_l.V K)
def slices_Concat_uint16_uint16.C (a1 : Option Addr) (l2 : Nat) (c3 : Nat) (w : World) (K : Option Addr → Nat → Nat → World → Prop) : Prop := CallsV prog 576 #[(.slice a1 l2 c3)] w (S_l.V K)
def cmp_Less_uint16.C (n1 : Int) (n2 : Int) (w : World) (K : Bool → World → Prop) : Prop := CallsV prog 589 #[(.int .u16 n1), (.int .u16 n2)] w (S_b.V K)
def slices_isNaN_uint16.C (n1 : Int) (w : World) (K : Bool → World → Prop) : Prop := CallsV prog 590 #[(.int .u16 n1)] w (S_b.V K)
def slices_Grow_uint16_uint16.C (a1 : Option Addr) (l2 : Nat) (c3 : Nat) (n4 : Int) (w : World) (K : Option Addr → Nat → Nat → World → Prop) : Prop := CallsV prog 591 #[(.slice a1 l2 c3), (.int .i64 n4)] w (S_l.V K)
def cmp_isNaN_uint16.C (n1 : Int) (w : World) (K : Bool → World → Prop) : Prop := CallsV prog 602 #[(.int .u16 n1)] w (S_b.V K)
def box_few_cost.C (a1 : Option Addr) (l2 : Nat) (c3 : Nat) (w : World) (K : Int → World → Prop) : Prop := CallsV prog 666 #[(.agg #[(.slice a1 l2 c3)])] w (S_i64.V K)
def box_few_has.C (a1 : Option Addr) (l2 : Nat) (c3 : Nat) (n4 : Int) (w : World) (K : Bool → World → Prop) : Prop := CallsV prog 667 #[(.agg #[(.slice a1 l2 c3)]), (.int .u16 n4)] w (S_b.V K)
def box_few_list.C (a1 : Option Addr) (l2 : Nat) (c3 : Nat) (w : World) (K : Option Addr → Nat → Nat → World → Prop) : Prop := CallsV prog 669 #[(.agg #[(.slice a1 l2 c3)])] w (S_l.V K)
def box_few_next.C (a1 : Option Addr) (l2 : Nat) (c3 : Nat) (n4 : Int) (w : World) (K : Int → Bool → World → Prop) : Prop := CallsV prog 670 #[(.agg #[(.slice a1 l2 c3)]), (.int .u16 n4)] w (S_u16_b.V K)
def box_few_prev.C (a1 : Option Addr) (l2 : Nat) (c3 : Nat) (n4 : Int) (w : World) (K : Int → Bool → World → Prop) : Prop := CallsV prog 671 #[(.agg #[(.slice a1 l2 c3)]), (.int .u16 n4)] w (S_u16_b.V K)
def box_few_size.C (a1 : Option Addr) (l2 : Nat) (c3 : Nat) (w : World) (K : Int → World → Prop) : Prop := CallsV prog 673 #[(.agg #[(.slice a1 l2 c3)])] w (S_i64.V K)
def array_Select.C (a1 : Option Addr) (l2 : Nat) (c3 : Nat) (n4 : Int) (w : World) (K : Int → Bool → World → Prop) : Prop := CallsV prog 674 #[(.slice a1 l2 c3), (.int .i64 n4)] w (S_u16_b.V K)
def array_Has.C (a1 : Option Addr) (l2 : Nat) (c3 : Nat) (n4 : Int) (w : World) (K : Bool → World → Prop) : Prop := CallsV prog 675 #[(.slice a1 l2 c3), (.int .u16 n4)] w (S_b.V K)
def array_Next.C (a1 : Option Addr) (l2 : Nat) (c3 : Nat) (n4 : Int) (w : World) (K : Int → Bool → World → Prop) : Prop := CallsV prog 676 #[(.slice a1 l2 c3), (.int .u16 n4)] w (S_u16_b.V K)
def array_Prev.C (a1 : Option Addr) (l2 : Nat) (c3 : Nat) (n4 : Int) (w : World) (K : Int → Bool → World → Prop) : Prop := CallsV prog 677 #[(.slice a1 l2 c3), (.int .u16 n4)] w (S_u16_b.V K)
end Go.St
