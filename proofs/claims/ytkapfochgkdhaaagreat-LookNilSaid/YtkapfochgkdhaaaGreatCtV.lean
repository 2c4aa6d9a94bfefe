/- Contracts: trees that halve their bits. -/
import Derived.Test.YtkapfochgkdhaaaGreatCtB
import Derived.Test.YtkapfochgkdhaaaGreatCtPv
import Derived.Test.YtkapfochgkdhaaaGreatCtV1
import Derived.Test.YtkapfochgkdhaaaGreatF0
namespace Go.St
open Go Go.Proofs
attribute [local irreducible] stP alP drP stCs lI64 lU64 lU8 lB lP lL lR AppV ClrV

structure VSt where
  M : Nat → Option VM
  n : Nat
  lim : Nat
  nt : Nat
  root : Int
  cnt : Int
  p : Nat
def VM.nd (x : VM) : VNd := ⟨x.mn, x.mx, x.sum, x.bits⟩
/-- pool and table hold what the model says -/
structure VRel (f : Nat → Option VNd) (g : Int → Int → Option Int) (M : Nat → Option VM) : Prop where
  f : ∀ i, f i = (M i).map VM.nd
  lt : ∀ i x, M i = some x → i < 1048576
  g : ∀ L i h : Nat, i < 1048576 → h < 4294967296 → g (wdt L : Nat) ((i * 4294967296 + h : Nat) : Int) = match M i with
    | some x => if x.lev = L then (x.cl h).map (fun c : Nat => (c : Int)) else none
    | none => none
def VebR (v : Nat) (x : VSt) : HP := ex fun (m : Nat) => ex fun (t : Nat) => ex fun (f : Nat → Option VNd) => ex fun (g : Int → Int → Option Int) =>
  sp (pur (VRel f g x.M)) (seps [blk v [.pointer (some ⟨m, 0, none⟩), .pointer (some ⟨x.p, 0, none⟩), .pointer (some ⟨t, 0, none⟩), .int .i64 x.root, .int .i64 x.cnt], Mtr m (), PoolR eVNd x.p ⟨m, f, x.n, x.lim⟩, TabR t ⟨m, g, x.nt⟩])
section
variable {w : World} {v : Nat} {x : VSt} {M : List HP}
theorem VebR.un (h : Sat w (VebR v x :: M)) : ∃ m t f g, VRel f g x.M ∧
    Sat w (blk v [.pointer (some ⟨m, 0, none⟩), .pointer (some ⟨x.p, 0, none⟩), .pointer (some ⟨t, 0, none⟩), .int .i64 x.root, .int .i64 x.cnt] :: Mtr m () :: PoolR eVNd x.p ⟨m, f, x.n, x.lim⟩ :: TabR t ⟨m, g, x.nt⟩ :: M) := by
  obtain ⟨m, h⟩ := Sat.ex.1 h; obtain ⟨t, h⟩ := Sat.ex.1 h; obtain ⟨f, h⟩ := Sat.ex.1 h; obtain ⟨g, h⟩ := Sat.ex.1 h
  obtain ⟨hR, h⟩ := Sat.pur.1 (Sat.sep.1 h)
  exact ⟨m, t, f, g, hR, Sat.seps.1 h⟩
theorem VebR.mk {m t : Nat} {f : Nat → Option VNd} {g : Int → Int → Option Int} (hR : VRel f g x.M)
    (h : Sat w (blk v [.pointer (some ⟨m, 0, none⟩), .pointer (some ⟨x.p, 0, none⟩), .pointer (some ⟨t, 0, none⟩), .int .i64 x.root, .int .i64 x.cnt] :: Mtr m () :: PoolR eVNd x.p ⟨m, f, x.n, x.lim⟩ :: TabR t ⟨m, g, x.nt⟩ :: M)) : Sat w (VebR v x :: M) :=
  Sat.ex.2 ⟨m, Sat.ex.2 ⟨t, Sat.ex.2 ⟨f, Sat.ex.2 ⟨g, Sat.sep.2 (Sat.pur.2 ⟨hR, Sat.seps.2 h⟩)⟩⟩⟩⟩
end
/-! ### halves of keys -/
theorem wdt_half (L : Nat) : w64 (Int.tdiv ((wdt (L + 1) : Nat) : Int) 2) = ((wdt L : Nat) : Int) ∨ 4 < L := by
  rcases Nat.lt_or_ge 4 L with h | h
  · exact .inr h
  · left
    have : L = 0 ∨ L = 1 ∨ L = 2 ∨ L = 3 ∨ L = 4 := by omega
    rcases this with rfl | rfl | rfl | rfl | rfl <;> decide
theorem wdt_le {L : Nat} (h : L ≤ 4) : wdt L ≤ 64 := by
  have : L = 0 ∨ L = 1 ∨ L = 2 ∨ L = 3 ∨ L = 4 := by omega
  rcases this with rfl | rfl | rfl | rfl | rfl <;> decide
section
variable {w : World} {L k : Nat} {K : Int → World → Prop}
theorem veb_high_spec (hL : L ≤ 3) (q : K ((k / UL L : Nat)) w) : veb_high.C (k : Int) (wdt (L + 1) : Nat) w K := by
  apply veb_high.ok
  rcases wdt_half L with h | h
  · have hle := wdt_le (show L ≤ 4 by omega)
    unfold veb_high.F
    rw [h]
    refine shP_of (by omega) ?_
    rw [Int.toNat_natCast, shr_u64 hle]; exact q
  · omega
theorem veb_low_spec (hL : L ≤ 3) (hk : k < 18446744073709551616) (q : K ((k % UL L : Nat)) w) : veb_low.C (k : Int) (wdt (L + 1) : Nat) w K := by
  apply veb_low.ok
  rcases wdt_half L with h | h
  · have hle : wdt L ≤ 32 := by
      have : L = 0 ∨ L = 1 ∨ L = 2 ∨ L = 3 := by omega
      rcases this with rfl | rfl | rfl | rfl <;> decide
    unfold veb_low.F
    rw [h]
    refine shP_of (by omega) ?_
    have hp : UL L ≤ 4294967296 := UL_le hL
    have hp0 := UL_pos L
    have e : wu64 (shl .u64 (1 : Int) ((wdt L : Nat) : Int).toNat - 1) = ((UL L - 1 : Nat) : Int) := by
      rw [Int.toNat_natCast, shl_one (by omega)]
      show wu64 (((UL L : Nat) : Int) - 1) = _
      rw [wu64_id (by omega) (by omega)]; omega
    rw [e, bAnd_u64 hk (by omega)]
    rw [show UL L - 1 = 2 ^ wdt L - 1 from rfl, Nat.and_two_pow_sub_one_eq_mod]
    exact q
  · omega
theorem veb_join_spec {h l : Nat} (hL : L ≤ 3) (hh : h < UL L) (hl : l < UL L) (q : K ((h * UL L + l : Nat)) w) : veb_join.C (h : Int) (l : Int) (wdt (L + 1) : Nat) w K := by
  apply veb_join.ok
  rcases wdt_half L with he | he
  · have hle := wdt_le (show L ≤ 4 by omega)
    unfold veb_join.F
    rw [he]
    refine shP_of (by omega) ?_
    rw [Int.toNat_natCast, shl_u64 hle]
    have h1 : h * UL L + l < UL (L + 1) := by
      rw [UL_succ]
      have : (h + 1) * UL L ≤ UL L * UL L := Nat.mul_le_mul_right _ hh
      rw [Nat.add_mul] at this; omega
    have h2 := UL_le4 (show L + 1 ≤ 4 by omega)
    have h3 := UL_le hL
    have e1 : h * 2 ^ wdt L % 18446744073709551616 = h * UL L := by
      show h * UL L % _ = _
      exact Nat.mod_eq_of_lt (by omega)
    rw [e1, bOr_u64 (by omega) (by omega)]
    have e2 : h * UL L ||| l = h * UL L + l := by
      have := Nat.two_pow_add_eq_or_of_lt (i := wdt L) (b := l) hl h
      rw [Nat.mul_comm] at this
      exact this.symm
    rw [e2]; exact q
  · omega
end
theorem veb_key_spec {w : World} {R : List HP} {L i h : Nat} {K : Int → Int → World → Prop} (hs : Sat w R) (hL : L ≤ 4) (hi : i < 1048576) (hh : h < 4294967296)
    (q : ∀ w', Sat w' R → K (wdt L : Nat) ((i * 4294967296 + h : Nat)) w') : veb_key.C (i : Int) (wdt L : Nat) (h : Int) w K := by
  apply veb_key.ok
  refine alP.of hs fun r w hs => ?_
  refine stCs.of hs (Nat.le_of_ble_eq_true rfl) (by simp [Value.oneCell']) fun w hs => ?_
  have hle := wdt_le hL
  refine lAu8_u64.of hs (by rfl) ?_
  have e1 : wu8 ((wdt L : Nat) : Int) = ((wdt L : Nat) : Int) := by rw [wu8_eq]; omega
  have e2 : bOr .u64 (shl .u64 (wu64 (i : Int)) 32) (h : Int) = ((i * 4294967296 + h : Nat) : Int) := by
    rw [wu64_id (by omega) (by omega), shl_u64 (by decide), Nat.mod_eq_of_lt (by omega), bOr_u64 (by omega) (by omega)]
    have := Nat.two_pow_add_eq_or_of_lt (i := 32) (b := h) hh i
    rw [Nat.mul_comm] at this
    rw [← this]
  rw [e1, e2]
  exact q _ hs.drop
theorem veb_single_spec {w : World} {R : List HP} {x : VNd} {K : Bool → World → Prop} (hs : Sat w R) (q : ∀ w', Sat w' R → K (x.mn == x.mx) w') : veb_node_single.C x.mn x.mx x.sum x.bits w K := by
  apply veb_node_single.ok
  refine alP.of hs fun r w hs => ?_
  refine lU64.of hs (by rfl) ?_
  refine lU64.of hs (by rfl) ?_
  exact q _ hs.drop
def freshM (L k : Nat) : VM := if L = 0 then ⟨0, 0, 0, -1, 2 ^ k, fun _ => none⟩ else ⟨L, k, k, -1, 0, fun _ => none⟩
theorem veb_fresh_spec {w : World} {R : List HP} {L k : Nat} {K : Int → Int → Int → Int → World → Prop} (hs : Sat w R) (hL : L ≤ 4) (hk : k < UL L)
    (q : ∀ w', Sat w' R → K (freshM L k).mn (freshM L k).mx (freshM L k).sum (freshM L k).bits w') : veb_fresh.C (k : Int) (wdt L : Nat) w K := by
  apply veb_fresh.ok
  refine alP.of hs fun r w hs => ?_
  cases L with
  | zero =>
    rw [UL_zero] at hk
    refine cond_t (by decide) ?_
    refine alP.of hs fun r2 w hs => ?_
    rw [w64_id (by omega) (by omega)] at hs
    refine bit_Make_spec (i := (k : Int)) hs ?_
    refine stCs.of hs (Nat.le_of_ble_eq_true rfl) (by simp [Value.oneCell']) fun w hs => ?_
    refine lAu64_u64_i64_u64.of hs (by rfl) ?_
    have e : oneN (k : Int) = 2 ^ k := by unfold oneN; rw [if_pos (by omega)]; simp
    rw [e]
    exact q _ hs.drop.drop
  | succ L =>
    have : ¬ ((wdt (L + 1) : Nat) : Int) ≤ 4 := by
      have : wdt 1 ≤ wdt (L + 1) := Nat.pow_le_pow_right (by decide) (by omega)
      rw [show wdt 1 = 8 from rfl] at this
      omega
    refine cond_f (by simpa using this) ?_
    refine stCs.of hs (Nat.le_of_ble_eq_true rfl) (by simp [Value.oneCell']) fun w hs => ?_
    refine lAu64_u64_i64_u64.of hs (by rfl) ?_
    have := q _ hs.drop
    simpa [freshM] using this
section
variable {w : World} {v : Nat} {x : VSt} {L : List HP} {F : HP → List HP} [i : Foc VebR v x L F]
include i
theorem veb_see_spec {n : Nat} {y : VM} {K : Int → Int → Int → Int → World → Prop} (h : Sat w L) (hy : x.M n = some y) (k : ∀ w', Sat w' L → K y.mn y.mx y.sum y.bits w') : veb_VEB_see.C (some ⟨v, 0, none⟩) (n : Int) w K := by
  apply veb_VEB_see.ok
  obtain ⟨M, h, hb, _⟩ := i.back h
  obtain ⟨m, t, f, g, hR, h⟩ := VebR.un h
  refine alP.of h fun r w h => ?_
  refine lP.of h (by rfl) ?_
  refine pool_Pool_veb_node_Peek_spec h fun w h => ?_
  have hf : (Pl.mk (T := VNd) m f x.n x.lim).at (n : Int) = some y.nd := by simp [Pl.at, hR.f, hy]
  rw [hf]
  refine alP.of h fun r2 w h => ?_
  refine stCs.of h (Nat.le_of_ble_eq_true rfl) (by simp [Value.oneCell']) fun w h => ?_
  refine lAu64_u64_i64_u64.of h (by rfl) ?_
  refine stCs.of h (Nat.le_of_ble_eq_true rfl) (by simp [Value.oneCell']) fun w h => ?_
  refine lAu64_u64_i64_u64.of h (by rfl) ?_
  exact k _ (hb (VebR.mk hR h.drop.drop))
theorem veb_read_spec {n : Nat} {y : VM} {K : Int → Int → Int → Int → World → Prop} (h : Sat w L) (hy : x.M n = some y) (k : ∀ w', Sat w' L → K y.mn y.mx y.sum y.bits w') : veb_VEB_read.C (some ⟨v, 0, none⟩) (n : Int) w K := by
  apply veb_VEB_read.ok
  obtain ⟨M, h, hb, _⟩ := i.back h
  obtain ⟨m, t, f, g, hR, h⟩ := VebR.un h
  refine alP.of h fun r w h => ?_
  refine lP.of h (by rfl) ?_
  refine pool_Pool_veb_node_At_spec (m := m) rfl h fun w h => ?_
  have hf : (Pl.mk (T := VNd) m f x.n x.lim).at (n : Int) = some y.nd := by simp [Pl.at, hR.f, hy]
  rw [hf]
  refine alP.of h fun r2 w h => ?_
  refine stCs.of h (Nat.le_of_ble_eq_true rfl) (by simp [Value.oneCell']) fun w h => ?_
  refine lAu64_u64_i64_u64.of h (by rfl) ?_
  refine stCs.of h (Nat.le_of_ble_eq_true rfl) (by simp [Value.oneCell']) fun w h => ?_
  refine lAu64_u64_i64_u64.of h (by rfl) ?_
  exact k _ (hb (VebR.mk hR h.drop.drop))
theorem veb_cluster_spec {n q l : Nat} {y : VM} {K : Int → Bool → World → Prop} (h : Sat w L) (hy : x.M n = some y) (hl : l ≤ 4) (hlev : y.lev = l) (hq : q < 4294967296) (hc : ∀ c, y.cl q = some c → c < 1048576)
    (k : ∀ w', Sat w' L → K (((y.cl q).getD 0 : Nat)) (y.cl q).isSome w') : veb_VEB_cluster.C (some ⟨v, 0, none⟩) (n : Int) (wdt l : Nat) (q : Int) w K := by
  apply veb_VEB_cluster.ok
  obtain ⟨M, h, hb, _⟩ := i.back h
  obtain ⟨m, t, f, g, hR, h⟩ := VebR.un h
  refine drP.of h fun w h => ?_
  refine lP.of h (by rfl) ?_
  have hn := hR.lt n y hy
  refine veb_key_spec h hl hn hq fun w h => ?_
  refine ⟨Foc.cells inferInstance h (by rfl), ?_⟩
  refine hash_Get_spec (m := m) rfl h fun w h => ?_
  have hg := hR.g l n q hn hq
  rw [hy] at hg
  simp only [hlev, if_true] at hg
  show K (w64 ((g (wdt l : Nat) ((n * 4294967296 + q : Nat))).getD 0)) (g (wdt l : Nat) ((n * 4294967296 + q : Nat))).isSome w
  rw [hg]
  have hback := hb (VebR.mk hR h)
  cases hcq : y.cl q with
  | none =>
    rw [hcq] at k
    show K (w64 0) false w
    rw [show w64 0 = 0 by decide]; simpa using k _ hback
  | some c =>
    have hlt := hc c hcq
    rw [hcq] at k
    have := k _ hback
    simp only [Option.map_some, Option.getD_some, Option.isSome_some] at this ⊢
    rw [w64_id (by omega) (by omega)]; exact this
end

theorem wdt_inj {a b : Nat} (h : ((wdt a : Nat) : Int) = ((wdt b : Nat) : Int)) : a = b := by
  have : wdt a = wdt b := by omega
  unfold wdt at this
  have := (Nat.pow_right_inj (by decide)).1 this
  omega
def VM.setCl (y : VM) (q : Nat) (o : Option Nat) : VM := { y with cl := fun h => if h = q then o else y.cl h }
section
variable {f : Nat → Option VNd} {g : Int → Int → Option Int} {M : Nat → Option VM} {n : Nat} {y : VM}
theorem VRel.upd (hR : VRel f g M) {o : Option VM} (hn : n < 1048576)
    (hg : ∀ L h : Nat, h < 4294967296 → (match M n with
      | some x => if x.lev = L then (x.cl h).map (fun c : Nat => (c : Int)) else none
      | none => none) = match o with
      | some x => if x.lev = L then (x.cl h).map (fun c : Nat => (c : Int)) else none
      | none => none) : VRel (Pl.up f n (o.map VM.nd)) g (Pl.up M n o) := by
  refine ⟨fun i => ?_, fun i x hx => ?_, fun L i h hi hh => ?_⟩
  · unfold Pl.up; split
    · rfl
    · exact hR.f i
  · unfold Pl.up at hx; split at hx
    · rename_i e; rw [e]; exact hn
    · exact hR.lt i x hx
  · rw [hR.g L i h hi hh]
    unfold Pl.up
    by_cases e : i = n
    · subst e; rw [if_pos rfl]; exact hg L h hh
    · rw [if_neg e]
theorem VRel.put (hR : VRel f g M) (hy : M n = some y) {y' : VM} (h1 : y'.lev = y.lev) (h2 : y'.cl = y.cl) : VRel (Pl.up f n (some y'.nd)) g (Pl.up M n (some y')) :=
  hR.upd (o := some y') (hR.lt n y hy) fun L h _ => by rw [hy]; simp only [h1, h2]
theorem VRel.alloc (hR : VRel f g M) (hn : n < 1048576) (hf : f n = none) {y' : VM} (h2 : ∀ h, y'.cl h = none) : M n = none ∧ VRel (Pl.up f n (some y'.nd)) g (Pl.up M n (some y')) := by
  have hM : M n = none := by
    have := hR.f n; rw [hf] at this
    cases e : M n with
    | none => rfl
    | some z => rw [e] at this; cases this
  exact ⟨hM, hR.upd (o := some y') hn fun L h _ => by rw [hM]; simp [h2]⟩
theorem VRel.free (hR : VRel f g M) (hy : M n = some y) (h2 : ∀ h, y.cl h = none) : VRel (Pl.up f n none) g (Pl.up M n none) :=
  hR.upd (o := none) (hR.lt n y hy) fun L h _ => by rw [hy]; simp [h2]
theorem VRel.tab (hR : VRel f g M) (hy : M n = some y) {q : Nat} (hq : q < 4294967296) (o : Option Nat) :
    VRel f (Tb.up g (wdt y.lev : Nat) ((n * 4294967296 + q : Nat)) (o.map fun c : Nat => (c : Int))) (Pl.up M n (some (y.setCl q o))) := by
  have hn := hR.lt n y hy
  refine ⟨fun i => ?_, fun i x hx => ?_, fun L i h hi hh => ?_⟩
  · unfold Pl.up; split
    · rename_i e; subst e; rw [hR.f, hy]; rfl
    · exact hR.f i
  · unfold Pl.up at hx; split at hx
    · rename_i e; rw [e]; exact hn
    · exact hR.lt i x hx
  · unfold Tb.up
    split
    · rename_i e
      obtain ⟨e1, e2⟩ := e
      have hL := wdt_inj e1
      have hin : i = n ∧ h = q := by omega
      obtain ⟨rfl, rfl⟩ := hin
      simp [Pl.up, VM.setCl, hL]
    · rename_i e
      rw [hR.g L i h hi hh]
      unfold Pl.up
      by_cases e1 : i = n
      · subst e1
        rw [hy, if_pos rfl]
        simp only [VM.setCl]
        by_cases hl : y.lev = L
        · subst hl
          have : h ≠ q := fun e2 => e ⟨rfl, by rw [e2]⟩
          simp [this]
        · simp [hl]
      · rw [if_neg e1]
end
end Go.St
