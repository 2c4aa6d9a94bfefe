/- Contracts: words as lists of their set bits; how many there are. -/
import Derived.Test.YtkapfochgkdhaaaGreatCtB0
import Derived.KernelRfl
namespace Go.St
open Go

/-- the set bits, rising -/
def bl (W : Nat) : List Nat := (List.range 64).filter fun i => W.testBit i
theorem mem_bl {W i : Nat} : i ∈ bl W ↔ i < 64 ∧ W.testBit i = true := by simp [bl]
theorem bl_sorted (W : Nat) : (bl W).Pairwise (· < ·) := List.pairwise_lt_range.filter _
/-! ### the number of set bits -/
def vl (b : Nat) : List Nat → Nat
  | [] => 0
  | d :: ds => d + 2 ^ b * vl b ds
def fold2 : List Nat → List Nat
  | a :: b :: l => (a + b) :: fold2 l
  | l => l
theorem and_split (n a b c d : Nat) (ha : a < 2 ^ n) (hc : c < 2 ^ n) : (a + 2 ^ n * b) &&& (c + 2 ^ n * d) = (a &&& c) + 2 ^ n * (b &&& d) := by
  apply Nat.eq_of_testBit_eq
  intro j
  have hac : a &&& c < 2 ^ n := Nat.lt_of_le_of_lt Nat.and_le_left ha
  rw [Nat.testBit_and, Nat.add_comm a, Nat.add_comm c, Nat.add_comm (a &&& c), Nat.testBit_two_pow_mul_add _ ha, Nat.testBit_two_pow_mul_add _ hc, Nat.testBit_two_pow_mul_add _ hac]
  split <;> simp
theorem vl_bits : ∀ (n W : Nat), vl 1 ((List.range n).map fun i => (W.testBit i).toNat) = W % 2 ^ n
  | 0, W => by simp [vl, Nat.mod_one]
  | n + 1, W => by
    rw [List.range_succ_eq_map]
    simp only [List.map_cons, List.map_map, vl]
    have : (List.range n).map ((fun i => (W.testBit i).toNat) ∘ Nat.succ) = (List.range n).map fun i => ((W / 2).testBit i).toNat := by
      apply List.map_congr_left
      intro i _
      simp [Nat.testBit_succ]
    rw [this, vl_bits n (W / 2), Nat.pow_succ (n := 2) (m := n)]
    have h0 : (W.testBit 0).toNat = W % 2 := by
      rw [Nat.testBit_zero]
      rcases Nat.mod_two_eq_zero_or_one W with h | h <;> simp [h]
    rw [h0, Nat.mul_comm (2 ^ n) 2, Nat.mod_mul]
theorem vl_mask (b : Nat) : ∀ (n : Nat) {ds : List Nat}, ds.length = 2 * n → (∀ d ∈ ds, d < 2 ^ b) →
    (vl b ds / 2 ^ b &&& vl (2 * b) (List.replicate n (2 ^ b - 1))) + (vl b ds &&& vl (2 * b) (List.replicate n (2 ^ b - 1))) = vl (2 * b) (fold2 ds)
  | 0, [], _, _ => by simp [vl, fold2]
  | n + 1, [], h, _ => by simp at h
  | n + 1, [_], h, _ => by simp at h; omega
  | n + 1, a :: c :: l, h, hd => by
    have ih := vl_mask b n (ds := l) (by simp at h; omega) (fun d hm => hd d (by simp [hm]))
    have ha := hd a (by simp)
    have hc := hd c (by simp)
    have hp := Nat.two_pow_pos b
    have h2 : 2 ^ (2 * b) = 2 ^ b * 2 ^ b := by rw [Nat.two_mul, Nat.pow_add]
    simp only [vl, fold2, List.replicate_succ]
    generalize hv : vl b l = v at *
    generalize hm : vl (2 * b) (List.replicate n (2 ^ b - 1)) = m at *
    generalize hB : 2 ^ b = B at *
    have hB2 : B - 1 < 2 ^ (2 * b) := by
      rw [h2]; have : B * 1 ≤ B * B := Nat.mul_le_mul_left _ hp
      omega
    have hlow : ∀ x, x < B → ∀ y, (x + B * y) &&& (B - 1) = x := fun x hx y => by
      rw [← hB, Nat.and_two_pow_sub_one_eq_mod, hB, Nat.add_mul_mod_self_left, Nat.mod_eq_of_lt hx]
    have e1 : a + B * (c + B * v) = (a + B * c) + 2 ^ (2 * b) * v := by rw [h2, Nat.mul_add, Nat.add_assoc, Nat.mul_assoc]
    have l1 : a + B * c < 2 ^ (2 * b) := by
      rw [h2]
      have : B * c + B ≤ B * B := by rw [← Nat.mul_succ]; exact Nat.mul_le_mul_left _ hc
      omega
    have e2 : (a + B * (c + B * v)) / B = (c + B * (v % B)) + 2 ^ (2 * b) * (v / B) := by
      rw [Nat.add_mul_div_left _ _ hp, Nat.div_eq_of_lt ha, Nat.zero_add, h2, Nat.mul_assoc, Nat.add_assoc, ← Nat.mul_add]
      congr 2
      exact (Nat.mod_add_div v B).symm
    have l2 : c + B * (v % B) < 2 ^ (2 * b) := by
      rw [h2]
      have hvm := Nat.mod_lt v hp
      have : B * (v % B) + B ≤ B * B := by rw [← Nat.mul_succ]; exact Nat.mul_le_mul_left _ hvm
      omega
    rw [e2, e1, and_split _ _ _ _ _ l2 hB2, and_split _ _ _ _ _ l1 hB2, hlow c hc, hlow a ha, ← ih, Nat.mul_add]
    omega
theorem vl_last : ∀ (n : Nat) {ds : List Nat}, ds.length = 2 * n → (∀ d ∈ ds, d ≤ 4) →
    (vl 4 ds / 16 + vl 4 ds) &&& vl 8 (List.replicate n 15) = vl 8 (fold2 ds)
  | 0, [], _, _ => by simp [vl, fold2]
  | n + 1, [], h, _ => by simp at h
  | n + 1, [_], h, _ => by simp at h; omega
  | n + 1, a :: c :: l, h, hd => by
    have ih := vl_last n (ds := l) (by simp at h; omega) (fun d hm => hd d (by simp [hm]))
    have ha := hd a (by simp)
    have hc := hd c (by simp)
    simp only [vl, fold2, List.replicate_succ]
    have hv16 : vl 4 l % 16 ≤ 4 := by
      cases l with
      | nil => simp [vl]
      | cons x l => have := hd x (by simp); simp only [vl]; omega
    generalize hv : vl 4 l = v at *
    generalize hm : vl 8 (List.replicate n 15) = m at *
    have e : (a + 2 ^ 4 * (c + 2 ^ 4 * v)) / 16 + (a + 2 ^ 4 * (c + 2 ^ 4 * v)) = (a + c + 16 * (c + v % 16)) + 2 ^ 8 * (v / 16 + v) := by omega
    rw [e, and_split 8 _ _ 15 m (by omega) (by omega), ih]
    congr 1
    have := Nat.and_two_pow_sub_one_eq_mod (a + c + 16 * (c + v % 16)) 4
    rw [show 2 ^ 4 - 1 = 15 from rfl] at this
    rw [this]; omega
theorem fold2_sum : ∀ (ds : List Nat), (fold2 ds).sum = ds.sum
  | [] => rfl
  | [_] => rfl
  | a :: b :: l => by simp [fold2, fold2_sum l, Nat.add_assoc]
theorem fold2_le {k : Nat} : ∀ {ds : List Nat}, (∀ d ∈ ds, d ≤ k) → ∀ d ∈ fold2 ds, d ≤ 2 * k
  | [], _, d, h => by simp [fold2] at h
  | [a], hk, d, h => by simp [fold2] at h; subst h; have := hk d (by simp); omega
  | a :: b :: l, hk, d, h => by
    simp only [fold2, List.mem_cons] at h
    rcases h with rfl | h
    · have := hk a (by simp); have := hk b (by simp); omega
    · exact fold2_le (fun d hd => hk d (by simp [hd])) d h
theorem fold2_len : ∀ (n : Nat) {ds : List Nat}, ds.length = 2 * n → (fold2 ds).length = n
  | 0, [], _ => rfl
  | n + 1, [], h => by simp at h
  | n + 1, [_], h => by simp at h; omega
  | n + 1, a :: b :: l, h => by simp only [fold2, List.length_cons]; rw [fold2_len n (by simp at h; omega)]
def pc (W : Nat) : Nat := (bl W).length
theorem pc_sum (W : Nat) : ((List.range 64).map fun i => (W.testBit i).toNat).sum = pc W := by
  unfold pc bl
  generalize List.range 64 = l
  induction l with
  | nil => rfl
  | cons x l ih => simp only [List.map_cons, List.sum_cons, ih, List.filter_cons]; cases W.testBit x <;> simp; omega
theorem pc_le (W : Nat) : pc W ≤ 64 := by
  unfold pc bl; exact Nat.le_trans (List.length_filter_le _ _) (by simp)
/-- the library's way to count -/
theorem swar (W : Nat) (hW : W < 2 ^ 64) :
    let x1 := (W / 2 &&& 6148914691236517205) + (W &&& 6148914691236517205)
    let x2 := (x1 / 4 &&& 3689348814741910323) + (x1 &&& 3689348814741910323)
    let x3 := (x2 / 16 + x2) &&& 1085102592571150095
    ∃ e0 e1 e2 e3 e4 e5 e6 e7 : Nat, x1 ≤ 12297829382473034410 ∧ x2 ≤ 4919131752989213764 ∧ (e0 ≤ 8 ∧ e1 ≤ 8 ∧ e2 ≤ 8 ∧ e3 ≤ 8 ∧ e4 ≤ 8 ∧ e5 ≤ 8 ∧ e6 ≤ 8 ∧ e7 ≤ 8) ∧ e0 + e1 + e2 + e3 + e4 + e5 + e6 + e7 = pc W ∧
      x3 = e0 + 256 * (e1 + 256 * (e2 + 256 * (e3 + 256 * (e4 + 256 * (e5 + 256 * (e6 + 256 * e7)))))) := by
  intro x1 x2 x3
  let ds := (List.range 64).map fun i => (W.testBit i).toNat
  have h0 : vl 1 ds = W := by rw [vl_bits, Nat.mod_eq_of_lt hW]
  have l0 : ds.length = 2 * 32 := by simp [ds]
  have b0 : ∀ d ∈ ds, d ≤ 1 := fun d hd => by
    obtain ⟨i, _, rfl⟩ := List.mem_map.1 hd
    cases W.testBit i <;> simp
  have h1 := vl_mask 1 32 l0 (fun d hd => by have := b0 d hd; omega)
  rw [h0] at h1
  have m1 : vl (2 * 1) (List.replicate 32 (2 ^ 1 - 1)) = 6148914691236517205 := by kernel_rfl
  rw [m1] at h1
  have hx1 : x1 = vl 2 (fold2 ds) := h1
  have l1 := fold2_len 32 l0
  have b1 := fold2_le b0
  have h2 := vl_mask 2 16 (ds := fold2 ds) l1 (fun d hd => by have := b1 d hd; omega)
  have m2 : vl (2 * 2) (List.replicate 16 (2 ^ 2 - 1)) = 3689348814741910323 := by kernel_rfl
  rw [m2, ← hx1] at h2
  have hx2 : x2 = vl 4 (fold2 (fold2 ds)) := h2
  have l2 := fold2_len 16 (ds := fold2 ds) l1
  have b2 := fold2_le b1
  have h3 := vl_last 8 (ds := fold2 (fold2 ds)) l2 (fun d hd => b2 d hd)
  have m3 : vl 8 (List.replicate 8 15) = 1085102592571150095 := by kernel_rfl
  rw [m3, ← hx2] at h3
  have hx3 : x3 = vl 8 (fold2 (fold2 (fold2 ds))) := h3
  have l3 := fold2_len 8 (ds := fold2 (fold2 ds)) l2
  have b3 := fold2_le b2
  have hs : (fold2 (fold2 (fold2 ds))).sum = pc W := by rw [fold2_sum, fold2_sum, fold2_sum]; exact pc_sum W
  have bound : ∀ (b k : Nat) (l : List Nat), (∀ d ∈ l, d ≤ k) → vl b l ≤ vl b (List.replicate l.length k) := by
    intro b k l
    induction l with
    | nil => intro _; simp [vl]
    | cons x l ih =>
      intro hk
      simp only [List.length_cons, List.replicate_succ, vl]
      exact Nat.add_le_add (hk x (by simp)) (Nat.mul_le_mul_left _ (ih fun d hd => hk d (by simp [hd])))
  have q1 := bound 2 2 _ b1
  have q2 := bound 4 4 _ b2
  rw [l1, ← hx1] at q1
  rw [l2, ← hx2] at q2
  generalize fold2 (fold2 (fold2 ds)) = es at hx3 l3 b3 hs
  match es, l3 with
  | [e0, e1, e2, e3, e4, e5, e6, e7], _ =>
    refine ⟨e0, e1, e2, e3, e4, e5, e6, e7, ?_, ?_, ⟨b3 e0 (by simp), b3 e1 (by simp), b3 e2 (by simp), b3 e3 (by simp), b3 e4 (by simp), b3 e5 (by simp), b3 e6 (by simp), b3 e7 (by simp)⟩, ?_, ?_⟩
    · exact Nat.le_trans q1 (Nat.le_of_eq (by kernel_rfl))
    · exact Nat.le_trans q2 (Nat.le_of_eq (by kernel_rfl))
    · rw [← hs]; simp; omega
    · rw [hx3]; simp [vl]
theorem sw1 {x e y : Nat} (h : x = e + 256 * y) (he : e ≤ 8) : x / 256 = y := by omega
theorem sw2 {x x1 x2 x3 a b c : Nat} (h : x = a + 256 * x1) (h1 : x1 = b + 256 * x2) (h2 : x2 = c + 256 * x3) (ha : a ≤ 8) (hb : b ≤ 8) (hc : c ≤ 8) : (x + x1) / 65536 = x2 + x3 := by
  have : x + x1 = (a + b + 256 * (b + c)) + 65536 * (x2 + x3) := by subst h h1 h2; omega
  rw [this]; omega
theorem sw3 {x x1 x2 x3 x4 a b c d : Nat} (h : x = a + 256 * x1) (h1 : x1 = b + 256 * x2) (h2 : x2 = c + 256 * x3) (h3 : x3 = d + 256 * x4) (ha : a ≤ 8) (hb : b ≤ 8) (hc : c ≤ 8) (hd : d ≤ 8) : ∃ r, x = r + 4294967296 * x4 ∧ r ≤ 134744072 :=
  ⟨a + 256 * b + 65536 * c + 16777216 * d, by subst h h1 h2 h3; omega, by omega⟩
theorem sw4 {x0 x1 x2 x3 y0 y1 y2 y3 : Nat} (h0 : ∃ r, x0 = r + 4294967296 * y0 ∧ r ≤ 134744072) (h1 : ∃ r, x1 = r + 4294967296 * y1 ∧ r ≤ 134744072) (h2 : ∃ r, x2 = r + 4294967296 * y2 ∧ r ≤ 134744072) (h3 : ∃ r, x3 = r + 4294967296 * y3 ∧ r ≤ 134744072) :
    (x0 + x1 + (x2 + x3)) / 4294967296 = y0 + y1 + y2 + y3 := by
  obtain ⟨r0, rfl, p0⟩ := h0; obtain ⟨r1, rfl, p1⟩ := h1; obtain ⟨r2, rfl, p2⟩ := h2; obtain ⟨r3, rfl, p3⟩ := h3
  have : r0 + 4294967296 * y0 + (r1 + 4294967296 * y1) + (r2 + 4294967296 * y2 + (r3 + 4294967296 * y3)) = (r0 + r1 + r2 + r3) + 4294967296 * (y0 + y1 + y2 + y3) := by omega
  rw [this]
  have hr : r0 + r1 + r2 + r3 < 4294967296 := by omega
  generalize r0 + r1 + r2 + r3 = r at hr
  generalize y0 + y1 + y2 + y3 = y
  omega
theorem sw5 {x e y k : Nat} (h : x = e + 256 * y) (he : e ≤ 8) (hk : y ≤ k) : x ≤ 8 + 256 * k := by omega
theorem swar_end {e0 e1 e2 e3 e4 e5 e6 e7 : Nat} (h : e0 ≤ 8 ∧ e1 ≤ 8 ∧ e2 ≤ 8 ∧ e3 ≤ 8 ∧ e4 ≤ 8 ∧ e5 ≤ 8 ∧ e6 ≤ 8 ∧ e7 ≤ 8) {x : Nat} (hx : x = e0 + 256 * (e1 + 256 * (e2 + 256 * (e3 + 256 * (e4 + 256 * (e5 + 256 * (e6 + 256 * e7))))))) :
    x ≤ 723401728380766730 ∧ ∃ y z u : Nat, y = x + x / 2 ^ 8 ∧ y < 2 ^ 62 ∧ z = y + y / 2 ^ 16 ∧ z < 2 ^ 62 ∧ u = z + z / 2 ^ 32 ∧ u < 2 ^ 63 ∧ u % 128 = e0 + e1 + e2 + e3 + e4 + e5 + e6 + e7 := by
  obtain ⟨h0, h1, h2, h3, h4, h5, h6, h7⟩ := h
  obtain ⟨x6, g6⟩ : ∃ y, y = e6 + 256 * e7 := ⟨_, rfl⟩
  rw [← g6] at hx
  obtain ⟨x5, g5⟩ : ∃ y, y = e5 + 256 * x6 := ⟨_, rfl⟩
  rw [← g5] at hx
  obtain ⟨x4, g4⟩ : ∃ y, y = e4 + 256 * x5 := ⟨_, rfl⟩
  rw [← g4] at hx
  obtain ⟨x3, g3⟩ : ∃ y, y = e3 + 256 * x4 := ⟨_, rfl⟩
  rw [← g3] at hx
  obtain ⟨x2, g2⟩ : ∃ y, y = e2 + 256 * x3 := ⟨_, rfl⟩
  rw [← g2] at hx
  obtain ⟨x1, g1⟩ : ∃ y, y = e1 + 256 * x2 := ⟨_, rfl⟩
  rw [← g1] at hx
  have b6 := sw5 g6 h6 h7
  have b5 := sw5 g5 h5 b6
  have b4 := sw5 g4 h4 b5
  have b3 := sw5 g3 h3 b4
  have b2 := sw5 g2 h2 b3
  have b1 := sw5 g1 h1 b2
  have b0 := sw5 hx h0 b1
  have hy := sw1 hx h0
  have hy2 := sw2 hx g1 g2 h0 h1 h2
  have hz := sw4 (sw3 hx g1 g2 g3 h0 h1 h2 h3) (sw3 g1 g2 g3 g4 h1 h2 h3 h4) (sw3 g2 g3 g4 g5 h2 h3 h4 h5) (sw3 g3 g4 g5 g6 h3 h4 h5 h6)
  have t : x + x1 + (x2 + x3) + (x4 + x5 + x6 + e7) = (e0 + e1 + e2 + e3 + e4 + e5 + e6 + e7) + 256 * (x1 + x2 + x3 + x4 + x5 + x6 + e7) := by
    clear h0 h1 h2 h3 h4 h5 h6 h7 b0 b1 b2 b3 b4 b5 b6 hy hy2 hz
    omega
  have hs : e0 + e1 + e2 + e3 + e4 + e5 + e6 + e7 ≤ 64 := by
    clear hx g1 g2 g3 g4 g5 g6 b0 b1 b2 b3 b4 b5 b6 hy hy2 hz t
    omega
  refine ⟨by clear hx g1 g2 g3 g4 g5 g6 hy hy2 hz t; omega, x + x1, x + x1 + (x2 + x3), x + x1 + (x2 + x3) + (x4 + x5 + x6 + e7), by rw [show (2 : Nat) ^ 8 = 256 from rfl, hy], ?_, by rw [show (2 : Nat) ^ 16 = 65536 from rfl, hy2], ?_, by rw [show (2 : Nat) ^ 32 = 4294967296 from rfl, hz], ?_, ?_⟩
  · clear hx g1 g2 g3 g4 g5 g6 hy hy2 hz t; omega
  · clear hx g1 g2 g3 g4 g5 g6 hy hy2 hz t; omega
  · clear hx g1 g2 g3 g4 g5 g6 hy hy2 hz t; omega
  · rw [t]
    generalize e0 + e1 + e2 + e3 + e4 + e5 + e6 + e7 = s at hs
    generalize x1 + x2 + x3 + x4 + x5 + x6 + e7 = v
    clear hx g1 g2 g3 g4 g5 g6 b0 b1 b2 b3 b4 b5 b6 hy hy2 hz t h0 h1 h2 h3 h4 h5 h6 h7
    omega
theorem swar_all (W : Nat) (hW : W < 2 ^ 64) :
    let x1 := (W / 2 &&& 6148914691236517205) + (W &&& 6148914691236517205)
    let x2 := (x1 / 4 &&& 3689348814741910323) + (x1 &&& 3689348814741910323)
    let x3 := (x2 / 16 + x2) &&& 1085102592571150095
    ∃ y z u : Nat, x1 ≤ 12297829382473034410 ∧ x2 ≤ 4919131752989213764 ∧ x3 ≤ 723401728380766730 ∧ y = x3 + x3 / 2 ^ 8 ∧ y < 2 ^ 62 ∧ z = y + y / 2 ^ 16 ∧ z < 2 ^ 62 ∧ u = z + z / 2 ^ 32 ∧ u < 2 ^ 63 ∧ u % 128 = pc W := by
  obtain ⟨e0, e1, e2, e3, e4, e5, e6, e7, hx1, hx2, hb, hs, hx3⟩ := swar W hW
  obtain ⟨hb3, y, z, u, hy, hyb, hz, hzb, hu, hub, hmod⟩ := swar_end hb hx3
  exact ⟨y, z, u, hx1, hx2, hb3, hy, hyb, hz, hzb, hu, hub, hmod.trans hs⟩
end Go.St
