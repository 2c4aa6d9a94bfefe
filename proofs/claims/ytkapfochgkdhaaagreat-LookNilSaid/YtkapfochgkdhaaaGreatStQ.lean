import Derived.Test.YtkapfochgkdhaaaGreatStP
namespace Go.St
open Go Go.Proofs
def lAu64_u64_i64_u64 (w : World) (b o : Nat) (K : Int → Int → Int → Int → Prop) : Prop := ∃ (n1 : Int), ∃ (n2 : Int), ∃ (n3 : Int), ∃ (n4 : Int), cellsAre w b o [(.int .u64 n1), (.int .u64 n2), (.int .i64 n3), (.int .u64 n4)] ∧ K n1 n2 n3 n4
theorem lAu64_u64_i64_u64.mk {w : World} {b o : Nat} {K : Int → Int → Int → Int → Prop} {n1 : Int} {n2 : Int} {n3 : Int} {n4 : Int} (e : cellsAre w b o [(.int .u64 n1), (.int .u64 n2), (.int .i64 n3), (.int .u64 n4)]) (k : K n1 n2 n3 n4) : lAu64_u64_i64_u64 w b o K := ⟨n1, n2, n3, n4, e, k⟩
theorem lAu64_u64_i64_u64.of {w : World} {b o : Nat} {K : Int → Int → Int → Int → Prop} {L : List HP} {cs : List Value} {F : HP → List HP} [i : Foc blk b cs L F] (h : Sat w L) {n1 : Int} {n2 : Int} {n3 : Int} {n4 : Int} (e : (cs.drop o).take 4 = [(.int .u64 n1), (.int .u64 n2), (.int .i64 n3), (.int .u64 n4)]) (k : K n1 n2 n3 n4) : lAu64_u64_i64_u64 w b o K := ⟨n1, n2, n3, n4, i.cells h e, k⟩
def lAu64_u64_i64_u64_b (w : World) (b o : Nat) (K : Int → Int → Int → Int → Bool → Prop) : Prop := ∃ (n1 : Int), ∃ (n2 : Int), ∃ (n3 : Int), ∃ (n4 : Int), ∃ (q5 : Bool), cellsAre w b o [(.int .u64 n1), (.int .u64 n2), (.int .i64 n3), (.int .u64 n4), (.bool q5)] ∧ K n1 n2 n3 n4 q5
theorem lAu64_u64_i64_u64_b.mk {w : World} {b o : Nat} {K : Int → Int → Int → Int → Bool → Prop} {n1 : Int} {n2 : Int} {n3 : Int} {n4 : Int} {q5 : Bool} (e : cellsAre w b o [(.int .u64 n1), (.int .u64 n2), (.int .i64 n3), (.int .u64 n4), (.bool q5)]) (k : K n1 n2 n3 n4 q5) : lAu64_u64_i64_u64_b w b o K := ⟨n1, n2, n3, n4, q5, e, k⟩
theorem lAu64_u64_i64_u64_b.of {w : World} {b o : Nat} {K : Int → Int → Int → Int → Bool → Prop} {L : List HP} {cs : List Value} {F : HP → List HP} [i : Foc blk b cs L F] (h : Sat w L) {n1 : Int} {n2 : Int} {n3 : Int} {n4 : Int} {q5 : Bool} (e : (cs.drop o).take 5 = [(.int .u64 n1), (.int .u64 n2), (.int .i64 n3), (.int .u64 n4), (.bool q5)]) (k : K n1 n2 n3 n4 q5) : lAu64_u64_i64_u64_b w b o K := ⟨n1, n2, n3, n4, q5, i.cells h e, k⟩
def lAu8_u64 (w : World) (b o : Nat) (K : Int → Int → Prop) : Prop := ∃ (n1 : Int), ∃ (n2 : Int), cellsAre w b o [(.int .u8 n1), (.int .u64 n2)] ∧ K n1 n2
theorem lAu8_u64.mk {w : World} {b o : Nat} {K : Int → Int → Prop} {n1 : Int} {n2 : Int} (e : cellsAre w b o [(.int .u8 n1), (.int .u64 n2)]) (k : K n1 n2) : lAu8_u64 w b o K := ⟨n1, n2, e, k⟩
theorem lAu8_u64.of {w : World} {b o : Nat} {K : Int → Int → Prop} {L : List HP} {cs : List Value} {F : HP → List HP} [i : Foc blk b cs L F] (h : Sat w L) {n1 : Int} {n2 : Int} (e : (cs.drop o).take 2 = [(.int .u8 n1), (.int .u64 n2)]) (k : K n1 n2) : lAu8_u64 w b o K := ⟨n1, n2, i.cells h e, k⟩
def lAu8_u64_u64_b (w : World) (b o : Nat) (K : Int → Int → Int → Bool → Prop) : Prop := ∃ (n1 : Int), ∃ (n2 : Int), ∃ (n3 : Int), ∃ (q4 : Bool), cellsAre w b o [(.int .u8 n1), (.int .u64 n2), (.int .u64 n3), (.bool q4)] ∧ K n1 n2 n3 q4
theorem lAu8_u64_u64_b.mk {w : World} {b o : Nat} {K : Int → Int → Int → Bool → Prop} {n1 : Int} {n2 : Int} {n3 : Int} {q4 : Bool} (e : cellsAre w b o [(.int .u8 n1), (.int .u64 n2), (.int .u64 n3), (.bool q4)]) (k : K n1 n2 n3 q4) : lAu8_u64_u64_b w b o K := ⟨n1, n2, n3, q4, e, k⟩
theorem lAu8_u64_u64_b.of {w : World} {b o : Nat} {K : Int → Int → Int → Bool → Prop} {L : List HP} {cs : List Value} {F : HP → List HP} [i : Foc blk b cs L F] (h : Sat w L) {n1 : Int} {n2 : Int} {n3 : Int} {q4 : Bool} (e : (cs.drop o).take 4 = [(.int .u8 n1), (.int .u64 n2), (.int .u64 n3), (.bool q4)]) (k : K n1 n2 n3 q4) : lAu8_u64_u64_b w b o K := ⟨n1, n2, n3, q4, i.cells h e, k⟩
def S_.V (K : World → Prop) (v : Value) (w : World) : Prop := v = (.tuple #[]) ∧ K  w
theorem S_.mono {K K' : World → Prop} (hk : ∀  w, K  w → K'  w) {v : Value} {w : World} (h : S_.V K v w) : S_.V K' v w := by
  obtain ⟨e, h⟩ := h
  exact ⟨e, hk  _ h⟩
def S_.R (K : World → Prop) (v : Value) (w : World) : Prop :=
gT False v fun g1 =>
gE False g1 (
K  w)
theorem S_.out {K : World → Prop} {v : Value} {w : World} (h : S_.R K v w) : S_.V K v w := by
  unfold S_.R at h
  replace h := gT.outF h; obtain ⟨l2, e2, h⟩ := h
  subst e2
  replace h := gE.outF h; obtain ⟨el3, h⟩ := h
  subst el3
  exact ⟨rfl, h⟩
def S_au64_u64_i64_u64z.V (K : Int → Int → Int → Int → World → Prop) (v : Value) (w : World) : Prop := ∃ (n1 : Int), ∃ (n2 : Int), ∃ (n3 : Int), ∃ (n4 : Int), v = (.agg #[(.int .u64 n1), (.int .u64 n2), (.int .i64 n3), (.int .u64 n4)]) ∧ K n1 n2 n3 n4 w
theorem S_au64_u64_i64_u64z.mono {K K' : Int → Int → Int → Int → World → Prop} (hk : ∀ n1 n2 n3 n4 w, K n1 n2 n3 n4 w → K' n1 n2 n3 n4 w) {v : Value} {w : World} (h : S_au64_u64_i64_u64z.V K v w) : S_au64_u64_i64_u64z.V K' v w := by
  obtain ⟨n1, n2, n3, n4, e, h⟩ := h
  exact ⟨n1, n2, n3, n4, e, hk n1 n2 n3 n4 _ h⟩
def S_au64_u64_i64_u64z.R (K : Int → Int → Int → Int → World → Prop) (v : Value) (w : World) : Prop :=
gA False v fun g5 =>
gC False g5 fun g6 g7 =>
gU64 False g6 fun n1 =>
gC False g7 fun g8 g9 =>
gU64 False g8 fun n2 =>
gC False g9 fun g10 g11 =>
gI64 False g10 fun n3 =>
gC False g11 fun g12 g13 =>
gU64 False g12 fun n4 =>
gE False g13 (
K n1 n2 n3 n4 w)
theorem S_au64_u64_i64_u64z.out {K : Int → Int → Int → Int → World → Prop} {v : Value} {w : World} (h : S_au64_u64_i64_u64z.R K v w) : S_au64_u64_i64_u64z.V K v w := by
  unfold S_au64_u64_i64_u64z.R at h
  replace h := gA.outF h; obtain ⟨l14, e14, h⟩ := h
  replace h := gC.outF h; obtain ⟨v15, us15, el15, h⟩ := h
  subst el15
  replace h := gU64.outF h; obtain ⟨n1, e16, h⟩ := h
  subst e16
  replace h := gC.outF h; obtain ⟨v17, us17, el17, h⟩ := h
  subst el17
  replace h := gU64.outF h; obtain ⟨n2, e18, h⟩ := h
  subst e18
  replace h := gC.outF h; obtain ⟨v19, us19, el19, h⟩ := h
  subst el19
  replace h := gI64.outF h; obtain ⟨n3, e20, h⟩ := h
  subst e20
  replace h := gC.outF h; obtain ⟨v21, us21, el21, h⟩ := h
  subst el21
  replace h := gU64.outF h; obtain ⟨n4, e22, h⟩ := h
  subst e22
  replace h := gE.outF h; obtain ⟨el23, h⟩ := h
  subst el23
  exact ⟨n1, n2, n3, n4, e14, h⟩
def S_au64_u64_i64_u64z_b.V (K : Int → Int → Int → Int → Bool → World → Prop) (v : Value) (w : World) : Prop := ∃ (n1 : Int), ∃ (n2 : Int), ∃ (n3 : Int), ∃ (n4 : Int), ∃ (q5 : Bool), v = (.tuple #[(.agg #[(.int .u64 n1), (.int .u64 n2), (.int .i64 n3), (.int .u64 n4)]), (.bool q5)]) ∧ K n1 n2 n3 n4 q5 w
theorem S_au64_u64_i64_u64z_b.mono {K K' : Int → Int → Int → Int → Bool → World → Prop} (hk : ∀ n1 n2 n3 n4 q5 w, K n1 n2 n3 n4 q5 w → K' n1 n2 n3 n4 q5 w) {v : Value} {w : World} (h : S_au64_u64_i64_u64z_b.V K v w) : S_au64_u64_i64_u64z_b.V K' v w := by
  obtain ⟨n1, n2, n3, n4, q5, e, h⟩ := h
  exact ⟨n1, n2, n3, n4, q5, e, hk n1 n2 n3 n4 q5 _ h⟩
def S_au64_u64_i64_u64z_b.R (K : Int → Int → Int → Int → Bool → World → Prop) (v : Value) (w : World) : Prop :=
gT False v fun g6 =>
gC False g6 fun g7 g8 =>
gA False g7 fun g9 =>
gC False g9 fun g10 g11 =>
gU64 False g10 fun n1 =>
gC False g11 fun g12 g13 =>
gU64 False g12 fun n2 =>
gC False g13 fun g14 g15 =>
gI64 False g14 fun n3 =>
gC False g15 fun g16 g17 =>
gU64 False g16 fun n4 =>
gE False g17 (
gC False g8 fun g18 g19 =>
gB False g18 fun q5 =>
gE False g19 (
K n1 n2 n3 n4 q5 w))
theorem S_au64_u64_i64_u64z_b.out {K : Int → Int → Int → Int → Bool → World → Prop} {v : Value} {w : World} (h : S_au64_u64_i64_u64z_b.R K v w) : S_au64_u64_i64_u64z_b.V K v w := by
  unfold S_au64_u64_i64_u64z_b.R at h
  replace h := gT.outF h; obtain ⟨l20, e20, h⟩ := h
  subst e20
  replace h := gC.outF h; obtain ⟨v21, us21, el21, h⟩ := h
  subst el21
  replace h := gA.outF h; obtain ⟨l22, e22, h⟩ := h
  replace h := gC.outF h; obtain ⟨v23, us23, el23, h⟩ := h
  subst el23
  replace h := gU64.outF h; obtain ⟨n1, e24, h⟩ := h
  subst e24
  replace h := gC.outF h; obtain ⟨v25, us25, el25, h⟩ := h
  subst el25
  replace h := gU64.outF h; obtain ⟨n2, e26, h⟩ := h
  subst e26
  replace h := gC.outF h; obtain ⟨v27, us27, el27, h⟩ := h
  subst el27
  replace h := gI64.outF h; obtain ⟨n3, e28, h⟩ := h
  subst e28
  replace h := gC.outF h; obtain ⟨v29, us29, el29, h⟩ := h
  subst el29
  replace h := gU64.outF h; obtain ⟨n4, e30, h⟩ := h
  subst e30
  replace h := gE.outF h; obtain ⟨el31, h⟩ := h
  subst el31
  subst e22
  replace h := gC.outF h; obtain ⟨v32, us32, el32, h⟩ := h
  subst el32
  replace h := gB.outF h; obtain ⟨q5, e33, h⟩ := h
  subst e33
  replace h := gE.outF h; obtain ⟨el34, h⟩ := h
  subst el34
  exact ⟨n1, n2, n3, n4, q5, rfl, h⟩
def S_au8_u64z.V (K : Int → Int → World → Prop) (v : Value) (w : World) : Prop := ∃ (n1 : Int), ∃ (n2 : Int), v = (.agg #[(.int .u8 n1), (.int .u64 n2)]) ∧ K n1 n2 w
theorem S_au8_u64z.mono {K K' : Int → Int → World → Prop} (hk : ∀ n1 n2 w, K n1 n2 w → K' n1 n2 w) {v : Value} {w : World} (h : S_au8_u64z.V K v w) : S_au8_u64z.V K' v w := by
  obtain ⟨n1, n2, e, h⟩ := h
  exact ⟨n1, n2, e, hk n1 n2 _ h⟩
def S_au8_u64z.R (K : Int → Int → World → Prop) (v : Value) (w : World) : Prop :=
gA False v fun g3 =>
gC False g3 fun g4 g5 =>
gU8 False g4 fun n1 =>
gC False g5 fun g6 g7 =>
gU64 False g6 fun n2 =>
gE False g7 (
K n1 n2 w)
theorem S_au8_u64z.out {K : Int → Int → World → Prop} {v : Value} {w : World} (h : S_au8_u64z.R K v w) : S_au8_u64z.V K v w := by
  unfold S_au8_u64z.R at h
  replace h := gA.outF h; obtain ⟨l8, e8, h⟩ := h
  replace h := gC.outF h; obtain ⟨v9, us9, el9, h⟩ := h
  subst el9
  replace h := gU8.outF h; obtain ⟨n1, e10, h⟩ := h
  subst e10
  replace h := gC.outF h; obtain ⟨v11, us11, el11, h⟩ := h
  subst el11
  replace h := gU64.outF h; obtain ⟨n2, e12, h⟩ := h
  subst e12
  replace h := gE.outF h; obtain ⟨el13, h⟩ := h
  subst el13
  exact ⟨n1, n2, e8, h⟩
def S_b.V (K : Bool → World → Prop) (v : Value) (w : World) : Prop := ∃ (q1 : Bool), v = (.bool q1) ∧ K q1 w
theorem S_b.mono {K K' : Bool → World → Prop} (hk : ∀ q1 w, K q1 w → K' q1 w) {v : Value} {w : World} (h : S_b.V K v w) : S_b.V K' v w := by
  obtain ⟨q1, e, h⟩ := h
  exact ⟨q1, e, hk q1 _ h⟩
def S_b.R (K : Bool → World → Prop) (v : Value) (w : World) : Prop :=
gB False v fun q1 =>
K q1 w
theorem S_b.out {K : Bool → World → Prop} {v : Value} {w : World} (h : S_b.R K v w) : S_b.V K v w := by
  unfold S_b.R at h
  replace h := gB.outF h; obtain ⟨q1, e2, h⟩ := h
  exact ⟨q1, e2, h⟩
def S_i64.V (K : Int → World → Prop) (v : Value) (w : World) : Prop := ∃ (n1 : Int), v = (.int .i64 n1) ∧ K n1 w
theorem S_i64.mono {K K' : Int → World → Prop} (hk : ∀ n1 w, K n1 w → K' n1 w) {v : Value} {w : World} (h : S_i64.V K v w) : S_i64.V K' v w := by
  obtain ⟨n1, e, h⟩ := h
  exact ⟨n1, e, hk n1 _ h⟩
def S_i64.R (K : Int → World → Prop) (v : Value) (w : World) : Prop :=
gI64 False v fun n1 =>
K n1 w
theorem S_i64.out {K : Int → World → Prop} {v : Value} {w : World} (h : S_i64.R K v w) : S_i64.V K v w := by
  unfold S_i64.R at h
  replace h := gI64.outF h; obtain ⟨n1, e2, h⟩ := h
  exact ⟨n1, e2, h⟩
def S_i64_b.V (K : Int → Bool → World → Prop) (v : Value) (w : World) : Prop := ∃ (n1 : Int), ∃ (q2 : Bool), v = (.tuple #[(.int .i64 n1), (.bool q2)]) ∧ K n1 q2 w
theorem S_i64_b.mono {K K' : Int → Bool → World → Prop} (hk : ∀ n1 q2 w, K n1 q2 w → K' n1 q2 w) {v : Value} {w : World} (h : S_i64_b.V K v w) : S_i64_b.V K' v w := by
  obtain ⟨n1, q2, e, h⟩ := h
  exact ⟨n1, q2, e, hk n1 q2 _ h⟩
def S_i64_b.R (K : Int → Bool → World → Prop) (v : Value) (w : World) : Prop :=
gT False v fun g3 =>
gC False g3 fun g4 g5 =>
gI64 False g4 fun n1 =>
gC False g5 fun g6 g7 =>
gB False g6 fun q2 =>
gE False g7 (
K n1 q2 w)
theorem S_i64_b.out {K : Int → Bool → World → Prop} {v : Value} {w : World} (h : S_i64_b.R K v w) : S_i64_b.V K v w := by
  unfold S_i64_b.R at h
  replace h := gT.outF h; obtain ⟨l8, e8, h⟩ := h
  subst e8
  replace h := gC.outF h; obtain ⟨v9, us9, el9, h⟩ := h
  subst el9
  replace h := gI64.outF h; obtain ⟨n1, e10, h⟩ := h
  subst e10
  replace h := gC.outF h; obtain ⟨v11, us11, el11, h⟩ := h
  subst el11
  replace h := gB.outF h; obtain ⟨q2, e12, h⟩ := h
  subst e12
  replace h := gE.outF h; obtain ⟨el13, h⟩ := h
  subst el13
  exact ⟨n1, q2, rfl, h⟩
def S_i64_i64.V (K : Int → Int → World → Prop) (v : Value) (w : World) : Prop := ∃ (n1 : Int), ∃ (n2 : Int), v = (.tuple #[(.int .i64 n1), (.int .i64 n2)]) ∧ K n1 n2 w
theorem S_i64_i64.mono {K K' : Int → Int → World → Prop} (hk : ∀ n1 n2 w, K n1 n2 w → K' n1 n2 w) {v : Value} {w : World} (h : S_i64_i64.V K v w) : S_i64_i64.V K' v w := by
  obtain ⟨n1, n2, e, h⟩ := h
  exact ⟨n1, n2, e, hk n1 n2 _ h⟩
def S_i64_i64.R (K : Int → Int → World → Prop) (v : Value) (w : World) : Prop :=
gT False v fun g3 =>
gC False g3 fun g4 g5 =>
gI64 False g4 fun n1 =>
gC False g5 fun g6 g7 =>
gI64 False g6 fun n2 =>
gE False g7 (
K n1 n2 w)
theorem S_i64_i64.out {K : Int → Int → World → Prop} {v : Value} {w : World} (h : S_i64_i64.R K v w) : S_i64_i64.V K v w := by
  unfold S_i64_i64.R at h
  replace h := gT.outF h; obtain ⟨l8, e8, h⟩ := h
  subst e8
  replace h := gC.outF h; obtain ⟨v9, us9, el9, h⟩ := h
  subst el9
  replace h := gI64.outF h; obtain ⟨n1, e10, h⟩ := h
  subst e10
  replace h := gC.outF h; obtain ⟨v11, us11, el11, h⟩ := h
  subst el11
  replace h := gI64.outF h; obtain ⟨n2, e12, h⟩ := h
  subst e12
  replace h := gE.outF h; obtain ⟨el13, h⟩ := h
  subst el13
  exact ⟨n1, n2, rfl, h⟩
def S_l.V (K : Option Addr → Nat → Nat → World → Prop) (v : Value) (w : World) : Prop := ∃ (a1 : Option Addr), ∃ (l2 : Nat), ∃ (c3 : Nat), v = (.slice a1 l2 c3) ∧ K a1 l2 c3 w
theorem S_l.mono {K K' : Option Addr → Nat → Nat → World → Prop} (hk : ∀ a1 l2 c3 w, K a1 l2 c3 w → K' a1 l2 c3 w) {v : Value} {w : World} (h : S_l.V K v w) : S_l.V K' v w := by
  obtain ⟨a1, l2, c3, e, h⟩ := h
  exact ⟨a1, l2, c3, e, hk a1 l2 c3 _ h⟩
def S_l.R (K : Option Addr → Nat → Nat → World → Prop) (v : Value) (w : World) : Prop :=
gL False v fun a1 l2 c3 =>
K a1 l2 c3 w
theorem S_l.out {K : Option Addr → Nat → Nat → World → Prop} {v : Value} {w : World} (h : S_l.R K v w) : S_l.V K v w := by
  unfold S_l.R at h
  replace h := gL.outF h; obtain ⟨a1, l2, c3, e4, h⟩ := h
  exact ⟨a1, l2, c3, e4, h⟩
def S_p.V (K : Option Addr → World → Prop) (v : Value) (w : World) : Prop := ∃ (p1 : Option Addr), v = (.pointer p1) ∧ K p1 w
theorem S_p.mono {K K' : Option Addr → World → Prop} (hk : ∀ p1 w, K p1 w → K' p1 w) {v : Value} {w : World} (h : S_p.V K v w) : S_p.V K' v w := by
  obtain ⟨p1, e, h⟩ := h
  exact ⟨p1, e, hk p1 _ h⟩
def S_p.R (K : Option Addr → World → Prop) (v : Value) (w : World) : Prop :=
gP False v fun p1 =>
K p1 w
theorem S_p.out {K : Option Addr → World → Prop} {v : Value} {w : World} (h : S_p.R K v w) : S_p.V K v w := by
  unfold S_p.R at h
  replace h := gP.outF h; obtain ⟨p1, e2, h⟩ := h
  exact ⟨p1, e2, h⟩
def S_p_i64.V (K : Option Addr → Int → World → Prop) (v : Value) (w : World) : Prop := ∃ (p1 : Option Addr), ∃ (n2 : Int), v = (.tuple #[(.pointer p1), (.int .i64 n2)]) ∧ K p1 n2 w
theorem S_p_i64.mono {K K' : Option Addr → Int → World → Prop} (hk : ∀ p1 n2 w, K p1 n2 w → K' p1 n2 w) {v : Value} {w : World} (h : S_p_i64.V K v w) : S_p_i64.V K' v w := by
  obtain ⟨p1, n2, e, h⟩ := h
  exact ⟨p1, n2, e, hk p1 n2 _ h⟩
def S_p_i64.R (K : Option Addr → Int → World → Prop) (v : Value) (w : World) : Prop :=
gT False v fun g3 =>
gC False g3 fun g4 g5 =>
gP False g4 fun p1 =>
gC False g5 fun g6 g7 =>
gI64 False g6 fun n2 =>
gE False g7 (
K p1 n2 w)
theorem S_p_i64.out {K : Option Addr → Int → World → Prop} {v : Value} {w : World} (h : S_p_i64.R K v w) : S_p_i64.V K v w := by
  unfold S_p_i64.R at h
  replace h := gT.outF h; obtain ⟨l8, e8, h⟩ := h
  subst e8
  replace h := gC.outF h; obtain ⟨v9, us9, el9, h⟩ := h
  subst el9
  replace h := gP.outF h; obtain ⟨p1, e10, h⟩ := h
  subst e10
  replace h := gC.outF h; obtain ⟨v11, us11, el11, h⟩ := h
  subst el11
  replace h := gI64.outF h; obtain ⟨n2, e12, h⟩ := h
  subst e12
  replace h := gE.outF h; obtain ⟨el13, h⟩ := h
  subst el13
  exact ⟨p1, n2, rfl, h⟩
def S_p_p.V (K : Option Addr → Option Addr → World → Prop) (v : Value) (w : World) : Prop := ∃ (p1 : Option Addr), ∃ (p2 : Option Addr), v = (.tuple #[(.pointer p1), (.pointer p2)]) ∧ K p1 p2 w
theorem S_p_p.mono {K K' : Option Addr → Option Addr → World → Prop} (hk : ∀ p1 p2 w, K p1 p2 w → K' p1 p2 w) {v : Value} {w : World} (h : S_p_p.V K v w) : S_p_p.V K' v w := by
  obtain ⟨p1, p2, e, h⟩ := h
  exact ⟨p1, p2, e, hk p1 p2 _ h⟩
def S_p_p.R (K : Option Addr → Option Addr → World → Prop) (v : Value) (w : World) : Prop :=
gT False v fun g3 =>
gC False g3 fun g4 g5 =>
gP False g4 fun p1 =>
gC False g5 fun g6 g7 =>
gP False g6 fun p2 =>
gE False g7 (
K p1 p2 w)
theorem S_p_p.out {K : Option Addr → Option Addr → World → Prop} {v : Value} {w : World} (h : S_p_p.R K v w) : S_p_p.V K v w := by
  unfold S_p_p.R at h
  replace h := gT.outF h; obtain ⟨l8, e8, h⟩ := h
  subst e8
  replace h := gC.outF h; obtain ⟨v9, us9, el9, h⟩ := h
  subst el9
  replace h := gP.outF h; obtain ⟨p1, e10, h⟩ := h
  subst e10
  replace h := gC.outF h; obtain ⟨v11, us11, el11, h⟩ := h
  subst el11
  replace h := gP.outF h; obtain ⟨p2, e12, h⟩ := h
  subst e12
  replace h := gE.outF h; obtain ⟨el13, h⟩ := h
  subst el13
  exact ⟨p1, p2, rfl, h⟩
def S_r.V (K : Value → World → Prop) (v : Value) (w : World) : Prop := ∃ (x1 : Value), v = x1 ∧ K x1 w
theorem S_r.mono {K K' : Value → World → Prop} (hk : ∀ x1 w, K x1 w → K' x1 w) {v : Value} {w : World} (h : S_r.V K v w) : S_r.V K' v w := by
  obtain ⟨x1, e, h⟩ := h
  exact ⟨x1, e, hk x1 _ h⟩
def S_r.R (K : Value → World → Prop) (v : Value) (w : World) : Prop :=
gR False v fun x1 =>
K x1 w
theorem S_r.out {K : Value → World → Prop} {v : Value} {w : World} (h : S_r.R K v w) : S_r.V K v w := by
  unfold S_r.R at h
  replace h := gR.outF h; obtain ⟨x1, e2, h⟩ := h
  exact ⟨x1, e2, h⟩
def S_r_i64.V (K : Value → Int → World → Prop) (v : Value) (w : World) : Prop := ∃ (x1 : Value), ∃ (n2 : Int), v = (.tuple #[x1, (.int .i64 n2)]) ∧ K x1 n2 w
theorem S_r_i64.mono {K K' : Value → Int → World → Prop} (hk : ∀ x1 n2 w, K x1 n2 w → K' x1 n2 w) {v : Value} {w : World} (h : S_r_i64.V K v w) : S_r_i64.V K' v w := by
  obtain ⟨x1, n2, e, h⟩ := h
  exact ⟨x1, n2, e, hk x1 n2 _ h⟩
def S_r_i64.R (K : Value → Int → World → Prop) (v : Value) (w : World) : Prop :=
gT False v fun g3 =>
gC False g3 fun g4 g5 =>
gR False g4 fun x1 =>
gC False g5 fun g6 g7 =>
gI64 False g6 fun n2 =>
gE False g7 (
K x1 n2 w)
theorem S_r_i64.out {K : Value → Int → World → Prop} {v : Value} {w : World} (h : S_r_i64.R K v w) : S_r_i64.V K v w := by
  unfold S_r_i64.R at h
  replace h := gT.outF h; obtain ⟨l8, e8, h⟩ := h
  subst e8
  replace h := gC.outF h; obtain ⟨v9, us9, el9, h⟩ := h
  subst el9
  replace h := gR.outF h; obtain ⟨x1, e10, h⟩ := h
  replace e10 := e10.symm; subst e10
  replace h := gC.outF h; obtain ⟨v11, us11, el11, h⟩ := h
  subst el11
  replace h := gI64.outF h; obtain ⟨n2, e12, h⟩ := h
  subst e12
  replace h := gE.outF h; obtain ⟨el13, h⟩ := h
  subst el13
  exact ⟨x1, n2, rfl, h⟩
def S_u64.V (K : Int → World → Prop) (v : Value) (w : World) : Prop := ∃ (n1 : Int), v = (.int .u64 n1) ∧ K n1 w
theorem S_u64.mono {K K' : Int → World → Prop} (hk : ∀ n1 w, K n1 w → K' n1 w) {v : Value} {w : World} (h : S_u64.V K v w) : S_u64.V K' v w := by
  obtain ⟨n1, e, h⟩ := h
  exact ⟨n1, e, hk n1 _ h⟩
def S_u64.R (K : Int → World → Prop) (v : Value) (w : World) : Prop :=
gU64 False v fun n1 =>
K n1 w
theorem S_u64.out {K : Int → World → Prop} {v : Value} {w : World} (h : S_u64.R K v w) : S_u64.V K v w := by
  unfold S_u64.R at h
  replace h := gU64.outF h; obtain ⟨n1, e2, h⟩ := h
  exact ⟨n1, e2, h⟩
def S_u64_b.V (K : Int → Bool → World → Prop) (v : Value) (w : World) : Prop := ∃ (n1 : Int), ∃ (q2 : Bool), v = (.tuple #[(.int .u64 n1), (.bool q2)]) ∧ K n1 q2 w
theorem S_u64_b.mono {K K' : Int → Bool → World → Prop} (hk : ∀ n1 q2 w, K n1 q2 w → K' n1 q2 w) {v : Value} {w : World} (h : S_u64_b.V K v w) : S_u64_b.V K' v w := by
  obtain ⟨n1, q2, e, h⟩ := h
  exact ⟨n1, q2, e, hk n1 q2 _ h⟩
def S_u64_b.R (K : Int → Bool → World → Prop) (v : Value) (w : World) : Prop :=
gT False v fun g3 =>
gC False g3 fun g4 g5 =>
gU64 False g4 fun n1 =>
gC False g5 fun g6 g7 =>
gB False g6 fun q2 =>
gE False g7 (
K n1 q2 w)
theorem S_u64_b.out {K : Int → Bool → World → Prop} {v : Value} {w : World} (h : S_u64_b.R K v w) : S_u64_b.V K v w := by
  unfold S_u64_b.R at h
  replace h := gT.outF h; obtain ⟨l8, e8, h⟩ := h
  subst e8
  replace h := gC.outF h; obtain ⟨v9, us9, el9, h⟩ := h
  subst el9
  replace h := gU64.outF h; obtain ⟨n1, e10, h⟩ := h
  subst e10
  replace h := gC.outF h; obtain ⟨v11, us11, el11, h⟩ := h
  subst el11
  replace h := gB.outF h; obtain ⟨q2, e12, h⟩ := h
  subst e12
  replace h := gE.outF h; obtain ⟨el13, h⟩ := h
  subst el13
  exact ⟨n1, q2, rfl, h⟩
def S_u64_i64.V (K : Int → Int → World → Prop) (v : Value) (w : World) : Prop := ∃ (n1 : Int), ∃ (n2 : Int), v = (.tuple #[(.int .u64 n1), (.int .i64 n2)]) ∧ K n1 n2 w
theorem S_u64_i64.mono {K K' : Int → Int → World → Prop} (hk : ∀ n1 n2 w, K n1 n2 w → K' n1 n2 w) {v : Value} {w : World} (h : S_u64_i64.V K v w) : S_u64_i64.V K' v w := by
  obtain ⟨n1, n2, e, h⟩ := h
  exact ⟨n1, n2, e, hk n1 n2 _ h⟩
def S_u64_i64.R (K : Int → Int → World → Prop) (v : Value) (w : World) : Prop :=
gT False v fun g3 =>
gC False g3 fun g4 g5 =>
gU64 False g4 fun n1 =>
gC False g5 fun g6 g7 =>
gI64 False g6 fun n2 =>
gE False g7 (
K n1 n2 w)
theorem S_u64_i64.out {K : Int → Int → World → Prop} {v : Value} {w : World} (h : S_u64_i64.R K v w) : S_u64_i64.V K v w := by
  unfold S_u64_i64.R at h
  replace h := gT.outF h; obtain ⟨l8, e8, h⟩ := h
  subst e8
  replace h := gC.outF h; obtain ⟨v9, us9, el9, h⟩ := h
  subst el9
  replace h := gU64.outF h; obtain ⟨n1, e10, h⟩ := h
  subst e10
  replace h := gC.outF h; obtain ⟨v11, us11, el11, h⟩ := h
  subst el11
  replace h := gI64.outF h; obtain ⟨n2, e12, h⟩ := h
  subst e12
  replace h := gE.outF h; obtain ⟨el13, h⟩ := h
  subst el13
  exact ⟨n1, n2, rfl, h⟩
def S_u64_u64.V (K : Int → Int → World → Prop) (v : Value) (w : World) : Prop := ∃ (n1 : Int), ∃ (n2 : Int), v = (.tuple #[(.int .u64 n1), (.int .u64 n2)]) ∧ K n1 n2 w
theorem S_u64_u64.mono {K K' : Int → Int → World → Prop} (hk : ∀ n1 n2 w, K n1 n2 w → K' n1 n2 w) {v : Value} {w : World} (h : S_u64_u64.V K v w) : S_u64_u64.V K' v w := by
  obtain ⟨n1, n2, e, h⟩ := h
  exact ⟨n1, n2, e, hk n1 n2 _ h⟩
def S_u64_u64.R (K : Int → Int → World → Prop) (v : Value) (w : World) : Prop :=
gT False v fun g3 =>
gC False g3 fun g4 g5 =>
gU64 False g4 fun n1 =>
gC False g5 fun g6 g7 =>
gU64 False g6 fun n2 =>
gE False g7 (
K n1 n2 w)
theorem S_u64_u64.out {K : Int → Int → World → Prop} {v : Value} {w : World} (h : S_u64_u64.R K v w) : S_u64_u64.V K v w := by
  unfold S_u64_u64.R at h
  replace h := gT.outF h; obtain ⟨l8, e8, h⟩ := h
  subst e8
  replace h := gC.outF h; obtain ⟨v9, us9, el9, h⟩ := h
  subst el9
  replace h := gU64.outF h; obtain ⟨n1, e10, h⟩ := h
  subst e10
  replace h := gC.outF h; obtain ⟨v11, us11, el11, h⟩ := h
  subst el11
  replace h := gU64.outF h; obtain ⟨n2, e12, h⟩ := h
  subst e12
  replace h := gE.outF h; obtain ⟨el13, h⟩ := h
  subst el13
  exact ⟨n1, n2, rfl, h⟩
def stepstonelaw24_LookNil.C (n1 : Int) (n2 : Int) (w : World) (K : Bool → World → Prop) : Prop := CallsV prog 11 #[(.int .u64 n1), (.int .u64 n2)] w (S_b.V K)
def stepstoneref01_Words.C (a1 : Option Addr) (l2 : Nat) (c3 : Nat) (n4 : Int) (w : World) (K : Option Addr → Nat → Nat → World → Prop) : Prop := CallsV prog 19 #[(.slice a1 l2 c3), (.int .i64 n4)] w (S_l.V K)
def stepstoneref11_Add.C (a1 : Option Addr) (l2 : Nat) (c3 : Nat) (n4 : Int) (w : World) (K : Option Addr → Nat → Nat → World → Prop) : Prop := CallsV prog 28 #[(.slice a1 l2 c3), (.int .u64 n4)] w (S_l.V K)
def stepstoneref11_Find.C (a1 : Option Addr) (l2 : Nat) (c3 : Nat) (n4 : Int) (w : World) (K : Int → Bool → World → Prop) : Prop := CallsV prog 38 #[(.slice a1 l2 c3), (.int .u64 n4)] w (S_i64_b.V K)
def face_New.C (n1 : Int) (n2 : Int) (n3 : Int) (w : World) (K : Value → Int → World → Prop) : Prop := CallsV prog 40 #[(.int .i64 n1), (.int .u64 n2), (.int .i64 n3)] w (S_r_i64.V K)
def face_Build.C (n1 : Int) (n2 : Int) (n3 : Int) (a4 : Option Addr) (l5 : Nat) (c6 : Nat) (w : World) (K : Value → Int → World → Prop) : Prop := CallsV prog 45 #[(.int .i64 n1), (.int .u64 n2), (.int .i64 n3), (.slice a4 l5 c6)] w (S_r_i64.V K)
def stepstoneref11_Of.C (a1 : Option Addr) (l2 : Nat) (c3 : Nat) (w : World) (K : Option Addr → Nat → Nat → World → Prop) : Prop := CallsV prog 46 #[(.slice a1 l2 c3)] w (S_l.V K)
def face_Wipe.C (x1 : Value) (n2 : Int) (n3 : Int) (w : World) (K : Int → Int → World → Prop) : Prop := CallsV prog 50 #[x1, (.int .u64 n2), (.int .u64 n3)] w (S_i64_i64.V K)
def stepstonelaw24_awake.C (w : World) (K : Bool → World → Prop) : Prop := CallsV prog 60 #[] w (S_b.V K)
def stepstonelaw24_lay.C (n1 : Int) (n2 : Int) (a3 : Option Addr) (l4 : Nat) (c5 : Nat) (w : World) (K : Option Addr → Option Addr → World → Prop) : Prop := CallsV prog 61 #[(.int .u8 n1), (.int .u64 n2), (.slice a3 l4 c5)] w (S_p_p.V K)
def look_Kept_Open.C (p1 : Option Addr) (n2 : Int) (n3 : Int) (w : World) (K : Option Addr → Int → World → Prop) : Prop := CallsV prog 62 #[(.pointer p1), (.int .u64 n2), (.int .u64 n3)] w (S_p_i64.V K)
def look_Kept_Version.C (p1 : Option Addr) (w : World) (K : Int → World → Prop) : Prop := CallsV prog 63 #[(.pointer p1)] w (S_u64.V K)
def look_Cursor_Stale.C (p1 : Option Addr) (w : World) (K : Bool → World → Prop) : Prop := CallsV prog 66 #[(.pointer p1)] w (S_b.V K)
def look_Keep.C (x1 : Value) (w : World) (K : Option Addr → World → Prop) : Prop := CallsV prog 70 #[x1] w (S_p.V K)
def look_Cursor_Next.C (p1 : Option Addr) (w : World) (K : Int → Int → World → Prop) : Prop := CallsV prog 71 #[(.pointer p1)] w (S_u64_i64.V K)
def look_Cursor_Prev.C (p1 : Option Addr) (w : World) (K : Int → Int → World → Prop) : Prop := CallsV prog 72 #[(.pointer p1)] w (S_u64_i64.V K)
def look_Cursor_Seek.C (p1 : Option Addr) (n2 : Int) (w : World) (K : Int → Int → World → Prop) : Prop := CallsV prog 73 #[(.pointer p1), (.int .u64 n2)] w (S_u64_i64.V K)
def look_Kept_Wipe.C (p1 : Option Addr) (n2 : Int) (n3 : Int) (w : World) (K : Int → Int → World → Prop) : Prop := CallsV prog 74 #[(.pointer p1), (.int .u64 n2), (.int .u64 n3)] w (S_i64_i64.V K)
def look_Kept_Clear.C (p1 : Option Addr) (w : World) (K : World → Prop) : Prop := CallsV prog 75 #[(.pointer p1)] w (S_.V K)
def look_Kept_Swap.C (p1 : Option Addr) (x2 : Value) (w : World) (K : World → Prop) : Prop := CallsV prog 76 #[(.pointer p1), x2] w (S_.V K)
def look_Kept_Insert.C (p1 : Option Addr) (n2 : Int) (w : World) (K : Int → World → Prop) : Prop := CallsV prog 77 #[(.pointer p1), (.int .u64 n2)] w (S_i64.V K)
def look_Kept_Delete.C (p1 : Option Addr) (n2 : Int) (w : World) (K : Int → World → Prop) : Prop := CallsV prog 78 #[(.pointer p1), (.int .u64 n2)] w (S_i64.V K)
def stepstonelaw24_restOf.C (p1 : Option Addr) (n2 : Int) (w : World) (K : Option Addr → Nat → Nat → World → Prop) : Prop := CallsV prog 79 #[(.pointer p1), (.int .i64 n2)] w (S_l.V K)
def face_made_veb_VEB.C (p1 : Option Addr) (n2 : Int) (w : World) (K : Value → Int → World → Prop) : Prop := CallsV prog 123 #[(.pointer p1), (.int .i64 n2)] w (S_r_i64.V K)
def veb_New.C (n1 : Int) (n2 : Int) (w : World) (K : Option Addr → Int → World → Prop) : Prop := CallsV prog 124 #[(.int .u64 n1), (.int .i64 n2)] w (S_p_i64.V K)
def face_made_xfast_XFast.C (p1 : Option Addr) (n2 : Int) (w : World) (K : Value → Int → World → Prop) : Prop := CallsV prog 125 #[(.pointer p1), (.int .i64 n2)] w (S_r_i64.V K)
def xfast_New.C (n1 : Int) (n2 : Int) (w : World) (K : Option Addr → Int → World → Prop) : Prop := CallsV prog 126 #[(.int .u64 n1), (.int .i64 n2)] w (S_p_i64.V K)
def face_made_yfast_YFast.C (p1 : Option Addr) (n2 : Int) (w : World) (K : Value → Int → World → Prop) : Prop := CallsV prog 127 #[(.pointer p1), (.int .i64 n2)] w (S_r_i64.V K)
def yfast_New.C (n1 : Int) (n2 : Int) (w : World) (K : Option Addr → Int → World → Prop) : Prop := CallsV prog 128 #[(.int .u64 n1), (.int .i64 n2)] w (S_p_i64.V K)
def face_made_trie_Trie.C (p1 : Option Addr) (n2 : Int) (w : World) (K : Value → Int → World → Prop) : Prop := CallsV prog 129 #[(.pointer p1), (.int .i64 n2)] w (S_r_i64.V K)
def trie_New.C (n1 : Int) (w : World) (K : Option Addr → Int → World → Prop) : Prop := CallsV prog 130 #[(.int .i64 n1)] w (S_p_i64.V K)
def face_made_roar_Roar.C (p1 : Option Addr) (n2 : Int) (w : World) (K : Value → Int → World → Prop) : Prop := CallsV prog 131 #[(.pointer p1), (.int .i64 n2)] w (S_r_i64.V K)
def roar_New.C (n1 : Int) (w : World) (K : Option Addr → Int → World → Prop) : Prop := CallsV prog 132 #[(.int .i64 n1)] w (S_p_i64.V K)
def face_fill.C (n1 : Int) (n2 : Int) (n3 : Int) (x4 : Value) (w : World) (K : Value → Int → World → Prop) : Prop := CallsV prog 139 #[(.int .i64 n1), (.int .u64 n2), (.int .i64 n3), x4] w (S_r_i64.V K)
def sift_Of.C (a1 : Option Addr) (l2 : Nat) (c3 : Nat) (w : World) (K : Value → World → Prop) : Prop := CallsV prog 140 #[(.slice a1 l2 c3)] w (S_r.V K)
def look_Cursor_may.C (p1 : Option Addr) (w : World) (K : Int → World → Prop) : Prop := CallsV prog 147 #[(.pointer p1)] w (S_i64.V K)
def look_Cursor_ahead.C (p1 : Option Addr) (w : World) (K : Int → Int → World → Prop) : Prop := CallsV prog 148 #[(.pointer p1)] w (S_u64_i64.V K)
def look_Kept_changed.C (p1 : Option Addr) (n2 : Int) (w : World) (K : Int → World → Prop) : Prop := CallsV prog 149 #[(.pointer p1), (.int .i64 n2)] w (S_i64.V K)
def face_Equal.C (x1 : Value) (x2 : Value) (w : World) (K : Bool → World → Prop) : Prop := CallsV prog 150 #[x1, x2] w (S_b.V K)
def look_Cursor_Rest.C (p1 : Option Addr) (w : World) (K : Value → World → Prop) : Prop := CallsV prog 151 #[(.pointer p1)] w (S_r.V K)
def count_New.C (w : World) (K : Option Addr → World → Prop) : Prop := CallsV prog 160 #[] w (S_p.V K)
def hash_New.C (p1 : Option Addr) (n2 : Int) (w : World) (K : Option Addr → World → Prop) : Prop := CallsV prog 162 #[(.pointer p1), (.int .u64 n2)] w (S_p.V K)
def hash_Table_Put.C (p1 : Option Addr) (n2 : Int) (n3 : Int) (n4 : Int) (w : World) (K : Bool → World → Prop) : Prop := CallsV prog 167 #[(.pointer p1), (.agg #[(.int .u8 n2), (.int .u64 n3)]), (.int .u64 n4)] w (S_b.V K)
def hash_Table_Drop.C (p1 : Option Addr) (n2 : Int) (n3 : Int) (w : World) (K : Bool → World → Prop) : Prop := CallsV prog 171 #[(.pointer p1), (.agg #[(.int .u8 n2), (.int .u64 n3)])] w (S_b.V K)
def pool_New_veb_node.C (p1 : Option Addr) (n2 : Int) (w : World) (K : Option Addr → Int → World → Prop) : Prop := CallsV prog 175 #[(.pointer p1), (.int .i64 n2)] w (S_p_i64.V K)
def slices_Clone_uint64_uint64.C (a1 : Option Addr) (l2 : Nat) (c3 : Nat) (w : World) (K : Option Addr → Nat → Nat → World → Prop) : Prop := CallsV prog 181 #[(.slice a1 l2 c3)] w (S_l.V K)
def slices_Sort_uint64_uint64.C (a1 : Option Addr) (l2 : Nat) (c3 : Nat) (w : World) (K : World → Prop) : Prop := CallsV prog 182 #[(.slice a1 l2 c3)] w (S_.V K)
def slices_Values_uint64_uint64.C (a1 : Option Addr) (l2 : Nat) (c3 : Nat) (w : World) (K : Value → World → Prop) : Prop := CallsV prog 183 #[(.slice a1 l2 c3)] w (S_r.V K)
def slices_Compact_uint64_uint64.C (a1 : Option Addr) (l2 : Nat) (c3 : Nat) (w : World) (K : Option Addr → Nat → Nat → World → Prop) : Prop := CallsV prog 184 #[(.slice a1 l2 c3)] w (S_l.V K)
def look_Cursor_Rest_1.C (x1 : Value) (b2 : Nat) (o3 : Nat) (w : World) (K : World → Prop) : Prop := CallsV prog 187 #[x1, (.pointer (some ⟨b2, o3, none⟩))] w (S_.V K)
def hash_Table_Clear.C (p1 : Option Addr) (w : World) (K : World → Prop) : Prop := CallsV prog 190 #[(.pointer p1)] w (S_.V K)
def hash_Table_Get.C (p1 : Option Addr) (n2 : Int) (n3 : Int) (w : World) (K : Int → Bool → World → Prop) : Prop := CallsV prog 198 #[(.pointer p1), (.agg #[(.int .u8 n2), (.int .u64 n3)])] w (S_u64_b.V K)
def hash_Table_find.C (p1 : Option Addr) (n2 : Int) (n3 : Int) (w : World) (K : Int → Bool → World → Prop) : Prop := CallsV prog 200 #[(.pointer p1), (.agg #[(.int .u8 n2), (.int .u64 n3)])] w (S_i64_b.V K)
def hash_Table_rehash.C (p1 : Option Addr) (n2 : Int) (w : World) (K : World → Prop) : Prop := CallsV prog 201 #[(.pointer p1), (.int .i64 n2)] w (S_.V K)
def count_Meter_Read.C (p1 : Option Addr) (w : World) (K : World → Prop) : Prop := CallsV prog 203 #[(.pointer p1)] w (S_.V K)
def hash_Table_next.C (p1 : Option Addr) (n2 : Int) (w : World) (K : Int → World → Prop) : Prop := CallsV prog 204 #[(.pointer p1), (.int .i64 n2)] w (S_i64.V K)
def hash_Table_far.C (p1 : Option Addr) (n2 : Int) (n3 : Int) (w : World) (K : Int → World → Prop) : Prop := CallsV prog 205 #[(.pointer p1), (.int .i64 n2), (.int .i64 n3)] w (S_i64.V K)
def hash_Table_home.C (p1 : Option Addr) (n2 : Int) (n3 : Int) (w : World) (K : Int → World → Prop) : Prop := CallsV prog 206 #[(.pointer p1), (.agg #[(.int .u8 n2), (.int .u64 n3)])] w (S_i64.V K)
def slices_pdqsortOrdered_uint64.C (a1 : Option Addr) (l2 : Nat) (c3 : Nat) (n4 : Int) (n5 : Int) (n6 : Int) (w : World) (K : World → Prop) : Prop := CallsV prog 208 #[(.slice a1 l2 c3), (.int .i64 n4), (.int .i64 n5), (.int .i64 n6)] w (S_.V K)
def math_bits_Len.C (n1 : Int) (w : World) (K : Int → World → Prop) : Prop := CallsV prog 209 #[(.int .u64 n1)] w (S_i64.V K)
def slices_Values_uint64_uint64_1.C (x1 : Value) (b2 : Nat) (o3 : Nat) (w : World) (K : World → Prop) : Prop := CallsV prog 210 #[x1, (.pointer (some ⟨b2, o3, none⟩))] w (S_.V K)
def count_Meter_Call.C (p1 : Option Addr) (w : World) (K : World → Prop) : Prop := CallsV prog 222 #[(.pointer p1)] w (S_.V K)
def count_Meter_step.C (p1 : Option Addr) (w : World) (K : World → Prop) : Prop := CallsV prog 223 #[(.pointer p1)] w (S_.V K)
def hash_Table_odd.C (p1 : Option Addr) (n2 : Int) (w : World) (K : Int → World → Prop) : Prop := CallsV prog 224 #[(.pointer p1), (.int .i64 n2)] w (S_u64.V K)
def slices_insertionSortOrdered_uint64.C (a1 : Option Addr) (l2 : Nat) (c3 : Nat) (n4 : Int) (n5 : Int) (w : World) (K : World → Prop) : Prop := CallsV prog 225 #[(.slice a1 l2 c3), (.int .i64 n4), (.int .i64 n5)] w (S_.V K)
def slices_heapSortOrdered_uint64.C (a1 : Option Addr) (l2 : Nat) (c3 : Nat) (n4 : Int) (n5 : Int) (w : World) (K : World → Prop) : Prop := CallsV prog 226 #[(.slice a1 l2 c3), (.int .i64 n4), (.int .i64 n5)] w (S_.V K)
def slices_breakPatternsOrdered_uint64.C (a1 : Option Addr) (l2 : Nat) (c3 : Nat) (n4 : Int) (n5 : Int) (w : World) (K : World → Prop) : Prop := CallsV prog 227 #[(.slice a1 l2 c3), (.int .i64 n4), (.int .i64 n5)] w (S_.V K)
def slices_choosePivotOrdered_uint64.C (a1 : Option Addr) (l2 : Nat) (c3 : Nat) (n4 : Int) (n5 : Int) (w : World) (K : Int → Int → World → Prop) : Prop := CallsV prog 228 #[(.slice a1 l2 c3), (.int .i64 n4), (.int .i64 n5)] w (S_i64_i64.V K)
def slices_reverseRangeOrdered_uint64.C (a1 : Option Addr) (l2 : Nat) (c3 : Nat) (n4 : Int) (n5 : Int) (w : World) (K : World → Prop) : Prop := CallsV prog 229 #[(.slice a1 l2 c3), (.int .i64 n4), (.int .i64 n5)] w (S_.V K)
def slices_partialInsertionSortOrdered_uint64.C (a1 : Option Addr) (l2 : Nat) (c3 : Nat) (n4 : Int) (n5 : Int) (w : World) (K : Bool → World → Prop) : Prop := CallsV prog 230 #[(.slice a1 l2 c3), (.int .i64 n4), (.int .i64 n5)] w (S_b.V K)
def cmp_Less_uint64.C (n1 : Int) (n2 : Int) (w : World) (K : Bool → World → Prop) : Prop := CallsV prog 231 #[(.int .u64 n1), (.int .u64 n2)] w (S_b.V K)
def slices_partitionEqualOrdered_uint64.C (a1 : Option Addr) (l2 : Nat) (c3 : Nat) (n4 : Int) (n5 : Int) (n6 : Int) (w : World) (K : Int → World → Prop) : Prop := CallsV prog 232 #[(.slice a1 l2 c3), (.int .i64 n4), (.int .i64 n5), (.int .i64 n6)] w (S_i64.V K)
def slices_partitionOrdered_uint64.C (a1 : Option Addr) (l2 : Nat) (c3 : Nat) (n4 : Int) (n5 : Int) (n6 : Int) (w : World) (K : Int → Bool → World → Prop) : Prop := CallsV prog 233 #[(.slice a1 l2 c3), (.int .i64 n4), (.int .i64 n5), (.int .i64 n6)] w (S_i64_b.V K)
def math_bits_Len64.C (n1 : Int) (w : World) (K : Int → World → Prop) : Prop := CallsV prog 235 #[(.int .u64 n1)] w (S_i64.V K)
def math_bits_RotateLeft64.C (n1 : Int) (n2 : Int) (w : World) (K : Int → World → Prop) : Prop := CallsV prog 240 #[(.int .u64 n1), (.int .i64 n2)] w (S_u64.V K)
def cmp_isNaN_uint64.C (n1 : Int) (w : World) (K : Bool → World → Prop) : Prop := CallsV prog 246 #[(.int .u64 n1)] w (S_b.V K)
def veb_VEB_Clear.C (p1 : Option Addr) (w : World) (K : World → Prop) : Prop := CallsV prog 270 #[(.pointer p1)] w (S_.V K)
def veb_VEB_Has.C (p1 : Option Addr) (n2 : Int) (w : World) (K : Bool → World → Prop) : Prop := CallsV prog 272 #[(.pointer p1), (.int .u64 n2)] w (S_b.V K)
def veb_VEB_Insert.C (p1 : Option Addr) (n2 : Int) (w : World) (K : Int → World → Prop) : Prop := CallsV prog 273 #[(.pointer p1), (.int .u64 n2)] w (S_i64.V K)
def veb_VEB_Len.C (p1 : Option Addr) (w : World) (K : Int → World → Prop) : Prop := CallsV prog 274 #[(.pointer p1)] w (S_i64.V K)
def veb_VEB_Max.C (p1 : Option Addr) (w : World) (K : Int → Bool → World → Prop) : Prop := CallsV prog 276 #[(.pointer p1)] w (S_u64_b.V K)
def veb_VEB_Min.C (p1 : Option Addr) (w : World) (K : Int → Bool → World → Prop) : Prop := CallsV prog 277 #[(.pointer p1)] w (S_u64_b.V K)
def veb_VEB_Next.C (p1 : Option Addr) (n2 : Int) (w : World) (K : Int → Bool → World → Prop) : Prop := CallsV prog 278 #[(.pointer p1), (.int .u64 n2)] w (S_u64_b.V K)
def veb_VEB_Prev.C (p1 : Option Addr) (n2 : Int) (w : World) (K : Int → Bool → World → Prop) : Prop := CallsV prog 279 #[(.pointer p1), (.int .u64 n2)] w (S_u64_b.V K)
def pool_Pool_veb_node_Clear.C (p1 : Option Addr) (w : World) (K : World → Prop) : Prop := CallsV prog 282 #[(.pointer p1)] w (S_.V K)
def veb_VEB_start.C (p1 : Option Addr) (w : World) (K : Bool → World → Prop) : Prop := CallsV prog 284 #[(.pointer p1)] w (S_b.V K)
def veb_VEB_has.C (p1 : Option Addr) (n2 : Int) (n3 : Int) (n4 : Int) (n5 : Int) (n6 : Int) (n7 : Int) (n8 : Int) (w : World) (K : Bool → World → Prop) : Prop := CallsV prog 285 #[(.pointer p1), (.int .i64 n2), (.agg #[(.int .u64 n3), (.int .u64 n4), (.int .i64 n5), (.int .u64 n6)]), (.int .i64 n7), (.int .u64 n8)] w (S_b.V K)
def veb_VEB_read.C (p1 : Option Addr) (n2 : Int) (w : World) (K : Int → Int → Int → Int → World → Prop) : Prop := CallsV prog 286 #[(.pointer p1), (.int .i64 n2)] w (S_au64_u64_i64_u64z.V K)
def pool_Pool_veb_node_Alloc.C (p1 : Option Addr) (n2 : Int) (n3 : Int) (n4 : Int) (n5 : Int) (w : World) (K : Int → Bool → World → Prop) : Prop := CallsV prog 287 #[(.pointer p1), (.agg #[(.int .u64 n2), (.int .u64 n3), (.int .i64 n4), (.int .u64 n5)])] w (S_i64_b.V K)
def veb_fresh.C (n1 : Int) (n2 : Int) (w : World) (K : Int → Int → Int → Int → World → Prop) : Prop := CallsV prog 288 #[(.int .u64 n1), (.int .i64 n2)] w (S_au64_u64_i64_u64z.V K)
def pool_Pool_veb_node_Room.C (p1 : Option Addr) (n2 : Int) (w : World) (K : Bool → World → Prop) : Prop := CallsV prog 289 #[(.pointer p1), (.int .i64 n2)] w (S_b.V K)
def veb_VEB_need.C (p1 : Option Addr) (n2 : Int) (n3 : Int) (n4 : Int) (w : World) (K : Int → World → Prop) : Prop := CallsV prog 290 #[(.pointer p1), (.int .i64 n2), (.int .i64 n3), (.int .u64 n4)] w (S_i64.V K)
def veb_VEB_put.C (p1 : Option Addr) (n2 : Int) (n3 : Int) (n4 : Int) (w : World) (K : World → Prop) : Prop := CallsV prog 291 #[(.pointer p1), (.int .i64 n2), (.int .i64 n3), (.int .u64 n4)] w (S_.V K)
def veb_VEB_next.C (p1 : Option Addr) (n2 : Int) (n3 : Int) (n4 : Int) (n5 : Int) (n6 : Int) (n7 : Int) (n8 : Int) (w : World) (K : Int → World → Prop) : Prop := CallsV prog 292 #[(.pointer p1), (.int .i64 n2), (.agg #[(.int .u64 n3), (.int .u64 n4), (.int .i64 n5), (.int .u64 n6)]), (.int .i64 n7), (.int .u64 n8)] w (S_u64.V K)
def veb_VEB_prev.C (p1 : Option Addr) (n2 : Int) (n3 : Int) (n4 : Int) (n5 : Int) (n6 : Int) (n7 : Int) (n8 : Int) (w : World) (K : Int → World → Prop) : Prop := CallsV prog 293 #[(.pointer p1), (.int .i64 n2), (.agg #[(.int .u64 n3), (.int .u64 n4), (.int .i64 n5), (.int .u64 n6)]), (.int .i64 n7), (.int .u64 n8)] w (S_u64.V K)
def pool_Pool_veb_node_Len.C (p1 : Option Addr) (w : World) (K : Int → World → Prop) : Prop := CallsV prog 294 #[(.pointer p1)] w (S_i64.V K)
def veb_VEB_see.C (p1 : Option Addr) (n2 : Int) (w : World) (K : Int → Int → Int → Int → World → Prop) : Prop := CallsV prog 295 #[(.pointer p1), (.int .i64 n2)] w (S_au64_u64_i64_u64z.V K)
def bit_Clear.C (n1 : Int) (n2 : Int) (w : World) (K : Int → World → Prop) : Prop := CallsV prog 296 #[(.int .u64 n1), (.int .i64 n2)] w (S_u64.V K)
def pool_Pool_veb_node_Put.C (p1 : Option Addr) (n2 : Int) (n3 : Int) (n4 : Int) (n5 : Int) (n6 : Int) (w : World) (K : Bool → World → Prop) : Prop := CallsV prog 297 #[(.pointer p1), (.int .i64 n2), (.agg #[(.int .u64 n3), (.int .u64 n4), (.int .i64 n5), (.int .u64 n6)])] w (S_b.V K)
def pool_Pool_veb_node_Free.C (p1 : Option Addr) (n2 : Int) (w : World) (K : Bool → World → Prop) : Prop := CallsV prog 298 #[(.pointer p1), (.int .i64 n2)] w (S_b.V K)
def veb_node_single.C (n1 : Int) (n2 : Int) (n3 : Int) (n4 : Int) (w : World) (K : Bool → World → Prop) : Prop := CallsV prog 299 #[(.agg #[(.int .u64 n1), (.int .u64 n2), (.int .i64 n3), (.int .u64 n4)])] w (S_b.V K)
def veb_VEB_first.C (p1 : Option Addr) (n2 : Int) (n3 : Int) (w : World) (K : Int → World → Prop) : Prop := CallsV prog 301 #[(.pointer p1), (.int .i64 n2), (.int .i64 n3)] w (S_u64.V K)
def veb_VEB_last.C (p1 : Option Addr) (n2 : Int) (n3 : Int) (w : World) (K : Int → World → Prop) : Prop := CallsV prog 302 #[(.pointer p1), (.int .i64 n2), (.int .i64 n3)] w (S_u64.V K)
def count_Meter_Start.C (p1 : Option Addr) (w : World) (K : World → Prop) : Prop := CallsV prog 303 #[(.pointer p1)] w (S_.V K)
def bit_Get.C (n1 : Int) (n2 : Int) (w : World) (K : Bool → World → Prop) : Prop := CallsV prog 304 #[(.int .u64 n1), (.int .i64 n2)] w (S_b.V K)
def veb_VEB_cluster.C (p1 : Option Addr) (n2 : Int) (n3 : Int) (n4 : Int) (w : World) (K : Int → Bool → World → Prop) : Prop := CallsV prog 305 #[(.pointer p1), (.int .i64 n2), (.int .i64 n3), (.int .u64 n4)] w (S_i64_b.V K)
def veb_high.C (n1 : Int) (n2 : Int) (w : World) (K : Int → World → Prop) : Prop := CallsV prog 306 #[(.int .u64 n1), (.int .i64 n2)] w (S_u64.V K)
def veb_low.C (n1 : Int) (n2 : Int) (w : World) (K : Int → World → Prop) : Prop := CallsV prog 307 #[(.int .u64 n1), (.int .i64 n2)] w (S_u64.V K)
def pool_Pool_veb_node_At.C (p1 : Option Addr) (n2 : Int) (w : World) (K : Int → Int → Int → Int → Bool → World → Prop) : Prop := CallsV prog 308 #[(.pointer p1), (.int .i64 n2)] w (S_au64_u64_i64_u64z_b.V K)
def bit_Make.C (a1 : Option Addr) (l2 : Nat) (c3 : Nat) (w : World) (K : Int → World → Prop) : Prop := CallsV prog 309 #[(.slice a1 l2 c3)] w (S_u64.V K)
def bit_Set.C (n1 : Int) (n2 : Int) (w : World) (K : Int → World → Prop) : Prop := CallsV prog 310 #[(.int .u64 n1), (.int .i64 n2)] w (S_u64.V K)
def veb_key.C (n1 : Int) (n2 : Int) (n3 : Int) (w : World) (K : Int → Int → World → Prop) : Prop := CallsV prog 311 #[(.int .i64 n1), (.int .i64 n2), (.int .u64 n3)] w (S_au8_u64z.V K)
def veb_ends.C (n1 : Int) (n2 : Int) (n3 : Int) (n4 : Int) (n5 : Int) (w : World) (K : Int → Int → World → Prop) : Prop := CallsV prog 312 #[(.agg #[(.int .u64 n1), (.int .u64 n2), (.int .i64 n3), (.int .u64 n4)]), (.int .i64 n5)] w (S_u64_u64.V K)
def bit_Next.C (n1 : Int) (n2 : Int) (w : World) (K : Int → World → Prop) : Prop := CallsV prog 313 #[(.int .u64 n1), (.int .i64 n2)] w (S_i64.V K)
def veb_join.C (n1 : Int) (n2 : Int) (n3 : Int) (w : World) (K : Int → World → Prop) : Prop := CallsV prog 314 #[(.int .u64 n1), (.int .u64 n2), (.int .i64 n3)] w (S_u64.V K)
def bit_Prev.C (n1 : Int) (n2 : Int) (w : World) (K : Int → World → Prop) : Prop := CallsV prog 315 #[(.int .u64 n1), (.int .i64 n2)] w (S_i64.V K)
def pool_Pool_veb_node_Peek.C (p1 : Option Addr) (n2 : Int) (w : World) (K : Int → Int → Int → Int → Bool → World → Prop) : Prop := CallsV prog 316 #[(.pointer p1), (.int .i64 n2)] w (S_au64_u64_i64_u64z_b.V K)
def bit_one.C (n1 : Int) (w : World) (K : Int → World → Prop) : Prop := CallsV prog 317 #[(.int .i64 n1)] w (S_u64.V K)
def pool_Pool_veb_node_Live.C (p1 : Option Addr) (n2 : Int) (w : World) (K : Bool → World → Prop) : Prop := CallsV prog 318 #[(.pointer p1), (.int .i64 n2)] w (S_b.V K)
def bit_Low.C (n1 : Int) (w : World) (K : Int → World → Prop) : Prop := CallsV prog 319 #[(.int .u64 n1)] w (S_i64.V K)
def bit_High.C (n1 : Int) (w : World) (K : Int → World → Prop) : Prop := CallsV prog 320 #[(.int .u64 n1)] w (S_i64.V K)
def bit_below.C (n1 : Int) (w : World) (K : Int → World → Prop) : Prop := CallsV prog 321 #[(.int .i64 n1)] w (S_u64.V K)
def bit_there.C (n1 : Int) (w : World) (K : Bool → World → Prop) : Prop := CallsV prog 322 #[(.int .i64 n1)] w (S_b.V K)
def math_bits_TrailingZeros64.C (n1 : Int) (w : World) (K : Int → World → Prop) : Prop := CallsV prog 323 #[(.int .u64 n1)] w (S_i64.V K)
def hash_Table_Len.C (p1 : Option Addr) (w : World) (K : Int → World → Prop) : Prop := CallsV prog 354 #[(.pointer p1)] w (S_i64.V K)
def bit_Rank.C (n1 : Int) (n2 : Int) (w : World) (K : Int → World → Prop) : Prop := CallsV prog 433 #[(.int .u64 n1), (.int .i64 n2)] w (S_i64.V K)
def bit_Count.C (n1 : Int) (w : World) (K : Int → World → Prop) : Prop := CallsV prog 451 #[(.int .u64 n1)] w (S_i64.V K)
def bit_Mask.C (n1 : Int) (n2 : Int) (w : World) (K : Int → World → Prop) : Prop := CallsV prog 455 #[(.int .i64 n1), (.int .i64 n2)] w (S_u64.V K)
def math_bits_OnesCount64.C (n1 : Int) (w : World) (K : Int → World → Prop) : Prop := CallsV prog 456 #[(.int .u64 n1)] w (S_i64.V K)
end Go.St
