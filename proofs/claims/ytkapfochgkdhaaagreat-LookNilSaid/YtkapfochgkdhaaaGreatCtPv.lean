/- Contracts: pools. (printed by pool.py) -/
import Derived.Test.YtkapfochgkdhaaaGreatCtA
namespace Go.St
open Go Go.Proofs
attribute [local irreducible] stP alP drP stCs lI64 lU64 lB lP lL lR AppV ClrV
/-! pools of VNd -/
structure VNd where
  mn : Int
  mx : Int
  sum : Int
  bits : Int
def eVNd : Enc VNd := ⟨fun x => [.int .u64 x.mn, .int .u64 x.mx, .int .i64 x.sum, .int .u64 x.bits], 4, by decide, fun _ => rfl, fun x v h => by
  simp only [List.mem_cons, List.not_mem_nil, or_false] at h
  rcases h with rfl | rfl | rfl | rfl <;> rfl⟩
def VNd.zero : VNd := ⟨0, 0, 0, 0⟩
section
variable {w : World} {L : List HP} {p : Nat} {s : Pl VNd} {F : HP → List HP} [i : Foc (PoolR eVNd) p s L F]
include i
theorem pool_Pool_veb_node_Live_spec {n : Int} {K : Bool → World → Prop} (h : Sat w L) (k : K (s.at n).isSome w) : pool_Pool_veb_node_Live.C (some ⟨p, 0, none⟩) n w K := by
  apply pool_Pool_veb_node_Live.ok
  obtain ⟨M, h, hb, _⟩ := i.back h
  obtain ⟨cs, fr, ca, cl, cc, fa, fl, fc, hp, h⟩ := PoolR.un h
  have hlen := (Own.len (h.pull 1)).1
  refine cond_t rfl ?_
  refine cond_c (fun h0 => ?_) fun h0 => ?_
  · refine lL.of h (by rfl) ?_
    refine cond_c (fun h1 => ?_) fun h1 => ?_
    · simp only [decide_eq_true_eq, ge_iff_le] at h0 h1
      refine lL.of h (by rfl) ?_
      have hlt : n.toNat < cs.length := by omega
      obtain ⟨b, rfl, _, hj⟩ := Own.get (E := eVNd.flag) (a := ca) (l := cl) (c := cc) h (List.getElem?_eq_getElem hlt)
      refine ⟨h0, by omega, ?_⟩
      have hs : s.at n = s.f n.toNat := by simp [Pl.at, h0]
      rw [hs, hp.f, List.getElem?_eq_getElem hlt] at k
      have hj := hj 4 (by decide)
      generalize cs[n.toNat] = c at k hj
      obtain ⟨v, b⟩ := c
      refine lB.mk (n := b) (by rw [show 0 + n.toNat * 5 + 4 = n.toNat * eVNd.flag.sz + 4 by simp [Enc.flag, eVNd], hj]; rfl) ?_
      cases b <;> exact k
    · simp only [decide_eq_false_iff_not] at h1
      have h0' : 0 ≤ n := by simpa using h0
      have hs : s.at n = none := by
        simp only [Pl.at, h0', if_true]; rw [hp.f, List.getElem?_eq_none (by omega)]
      rw [hs] at k; exact k
  · have hs : s.at n = none := by unfold Pl.at; rw [if_neg (by simpa using h0)]
    rw [hs] at k; exact k
theorem pool_Pool_veb_node_Room_spec {n : Int} {K : Bool → World → Prop} (h : Sat w L) (k : ∀ w', Sat w' L → K (decide (n ≤ ((s.lim : Int) - (s.n : Int)))) w') : pool_Pool_veb_node_Room.C (some ⟨p, 0, none⟩) n w K := by
  apply pool_Pool_veb_node_Room.ok
  refine drP.of h fun w h => ?_
  obtain ⟨M, h, hb, _⟩ := i.back h
  obtain ⟨cs, fr, ca, cl, cc, fa, fl, fc, hp, h⟩ := PoolR.un h
  refine lI64.of h (by rfl) ?_
  refine lI64.of h (by rfl) ?_
  have := hp.le; have := hp.cap
  rw [w64_id (by omega) (by omega)]
  exact k _ (hb (PoolR.mk hp h))
theorem pool_Pool_veb_node_Len_spec {K : Int → World → Prop} (h : Sat w L) (k : K (s.n : Int) w) : pool_Pool_veb_node_Len.C (some ⟨p, 0, none⟩) w K := by
  apply pool_Pool_veb_node_Len.ok
  obtain ⟨M, h, hb, _⟩ := i.back h
  obtain ⟨cs, fr, ca, cl, cc, fa, fl, fc, hp, h⟩ := PoolR.un h
  exact lI64.of h (by rfl) k
theorem pool_Pool_veb_node_Peek_spec {n : Int} {K : Int → Int → Int → Int → Bool → World → Prop} (h : Sat w L) (k : ∀ w', Sat w' L → (fun x : VNd => K x.mn x.mx x.sum x.bits (s.at n).isSome w') ((s.at n).getD VNd.zero)) : pool_Pool_veb_node_Peek.C (some ⟨p, 0, none⟩) n w K := by
  apply pool_Pool_veb_node_Peek.ok
  obtain ⟨M, h, hb, _⟩ := i.back h
  refine alP.of h fun r w h => ?_
  refine pool_Pool_veb_node_Live_spec h ?_
  refine cond_c (fun h0 => ?_) fun h0 => ?_
  · have hs : s.at n = none := by simpa using h0
    rw [hs] at k
    refine alP.of h fun r2 w h => ?_
    refine lAu64_u64_i64_u64.of h (by rfl) ?_
    refine stCs.of h (Nat.le_of_ble_eq_true rfl) (by simp [Value.oneCell']) fun w h => ?_
    refine lAu64_u64_i64_u64.of h (by rfl) ?_
    exact k _ (hb (h.drop.drop))
  · obtain ⟨x, hx⟩ : ∃ x, s.at n = some x := by
      cases e : s.at n with
      | none => rw [e] at h0; simp at h0
      | some x => exact ⟨x, rfl⟩
    rw [hx] at k
    have h00 : 0 ≤ n := by
      unfold Pl.at at hx; split at hx
      · assumption
      · cases hx
    have hf : s.f n.toNat = some x := by simpa [Pl.at, h00] using hx
    obtain ⟨cs, fr, ca, cl, cc, fa, fl, fc, hp, h⟩ := PoolR.un (h.pull 1)
    refine lL.of h (by rfl) ?_
    have hg := hp.get hf
    have hlen := (Own.len (h.pull 1)).1
    have hlt := hp.lt hf
    obtain ⟨b, rfl, _, hj⟩ := Own.cells (E := eVNd.flag) (a := ca) (l := cl) (c := cc) h hg
    refine ⟨h00, by omega, ?_⟩
    refine lAu64_u64_i64_u64.mk (by rw [show 0 + n.toNat * 5 = n.toNat * eVNd.flag.sz + 0 by simp [Enc.flag, eVNd]]; exact hj 0 _ rfl) ?_
    refine stCs.of h (Nat.le_of_ble_eq_true rfl) (by simp [Value.oneCell']) fun w h => ?_
    refine lAu64_u64_i64_u64.of h (by rfl) ?_
    exact k _ (hb ((PoolR.mk hp h).pull 1).drop)
theorem pool_Pool_veb_node_At_spec {m : Nat} (hm : s.m = m) {G : HP → List HP} [j : Foc Mtr m () (F emp) G] {n : Int} {K : Int → Int → Int → Int → Bool → World → Prop} (h : Sat w L) (k : ∀ w', Sat w' L → (fun x : VNd => K x.mn x.mx x.sum x.bits (s.at n).isSome w') ((s.at n).getD VNd.zero)) : pool_Pool_veb_node_At.C (some ⟨p, 0, none⟩) n w K := by
  apply pool_Pool_veb_node_At.ok
  obtain ⟨M, h, hb, _⟩ := Foc.op2 (i := i) (j := j) h
  refine alP.of h fun r w h => ?_
  refine pool_Pool_veb_node_Peek_spec h fun w h => ?_
  refine alP.of h fun r2 w h => ?_
  refine stCs.of h (Nat.le_of_ble_eq_true rfl) (by simp [Value.oneCell']) fun w h => ?_
  refine cond_c (fun h0 => ?_) fun h0 => ?_
  · have hmp : ∃ cs : List Value, cs[0]? = some (.pointer (some ⟨m, 0, none⟩)) ∧ w.cell? ⟨p, 0, none⟩ = cs[0]? := by
      obtain ⟨cs, fr, ca, cl, cc, fa, fl, fc, hp, h⟩ := PoolR.un (h.pull 2)
      exact ⟨_, by rw [← hm]; rfl, h.ld 0⟩
    obtain ⟨_, e1, e2⟩ := hmp
    refine lP.mk (e2.trans e1) ?_
    refine count_Read_spec h fun w h => ?_
    refine lAu64_u64_i64_u64.of h (by rfl) ?_
    refine stCs.of h (Nat.le_of_ble_eq_true rfl) (by simp [Value.oneCell']) fun w h => ?_
    refine lAu64_u64_i64_u64.of h (by rfl) ?_
    exact k _ (hb h.drop.drop)
  · refine lAu64_u64_i64_u64.of h (by rfl) ?_
    refine stCs.of h (Nat.le_of_ble_eq_true rfl) (by simp [Value.oneCell']) fun w h => ?_
    refine lAu64_u64_i64_u64.of h (by rfl) ?_
    exact k _ (hb h.drop.drop)
theorem pool_Pool_veb_node_Put_spec {n : Int} {x : VNd} {K : Bool → World → Prop} (h : Sat w L) (k0 : s.at n = none → ∀ w', Sat w' L → K false w')
    (k1 : ∀ u, s.at n = some u → ∀ w', Sat w' (F (PoolR eVNd p ⟨s.m, Pl.up s.f n.toNat (some x), s.n, s.lim⟩)) → K true w') : pool_Pool_veb_node_Put.C (some ⟨p, 0, none⟩) n x.mn x.mx x.sum x.bits w K := by
  apply pool_Pool_veb_node_Put.ok
  obtain ⟨M, h, hb, hc⟩ := i.back h
  refine alP.of h fun r w h => ?_
  refine pool_Pool_veb_node_Live_spec h ?_
  refine cond_c (fun h0 => ?_) fun h0 => ?_
  · have hs : s.at n = none := by simpa using h0
    exact k0 hs _ (hb h.drop)
  · obtain ⟨u, hx⟩ : ∃ x, s.at n = some x := by
      cases e : s.at n with
      | none => rw [e] at h0; simp at h0
      | some x => exact ⟨x, rfl⟩
    have h00 : 0 ≤ n := by
      unfold Pl.at at hx; split at hx
      · assumption
      · cases hx
    have hf : s.f n.toNat = some u := by simpa [Pl.at, h00] using hx
    refine drP.of h fun w h => ?_
    obtain ⟨cs, fr, ca, cl, cc, fa, fl, fc, hp, h⟩ := PoolR.un (h.pull 1)
    refine lL.of h (by rfl) ?_
    have hg := hp.get hf
    have hlen := (Own.len (h.pull 1)).1
    have hlt := hp.lt hf
    obtain ⟨b, rfl, _, _⟩ := Own.cells (E := eVNd.flag) (a := ca) (l := cl) (c := cc) h hg
    refine lAu64_u64_i64_u64.of h (by rfl) ?_
    refine ⟨h00, by omega, ?_⟩
    have he : 0 + n.toNat * 5 = n.toNat * eVNd.flag.sz + 0 := by simp [Enc.flag, eVNd]
    rw [he]
    refine Own.stCs (E := eVNd.flag) (y := (x, true)) h hg (Nat.le_of_ble_eq_true rfl) (by simp [Value.oneCell']) rfl fun w h => ?_
    exact k1 u hx _ (hc ((PoolR.mk (s := ⟨s.m, Pl.up s.f n.toNat (some x), s.n, s.lim⟩) (hp.put hf) h).pull 1).drop)
theorem pool_Pool_veb_node_Free_spec {n : Int} {K : Bool → World → Prop} (h : Sat w L) (k0 : s.at n = none → ∀ w', Sat w' L → K false w')
    (k1 : ∀ u, s.at n = some u → 0 < s.n → ∀ w', Sat w' (F (PoolR eVNd p ⟨s.m, Pl.up s.f n.toNat none, s.n - 1, s.lim⟩)) → K true w') : pool_Pool_veb_node_Free.C (some ⟨p, 0, none⟩) n w K := by
  apply pool_Pool_veb_node_Free.ok
  obtain ⟨M, h, hb, hc⟩ := i.back h
  refine pool_Pool_veb_node_Live_spec h ?_
  refine cond_c (fun h0 => ?_) fun h0 => ?_
  · have hs : s.at n = none := by simpa using h0
    exact k0 hs _ (hb h)
  · obtain ⟨u, hx⟩ : ∃ x, s.at n = some x := by
      cases e : s.at n with
      | none => rw [e] at h0; simp at h0
      | some x => exact ⟨x, rfl⟩
    have h00 : 0 ≤ n := by
      unfold Pl.at at hx; split at hx
      · assumption
      · cases hx
    have hf : s.f n.toNat = some u := by simpa [Pl.at, h00] using hx
    obtain ⟨cs, fr, ca, cl, cc, fa, fl, fc, hp, h⟩ := PoolR.un h
    refine lL.of h (by rfl) ?_
    have hg := hp.get hf
    have hlen := (Own.len (h.pull 1)).1
    have hfl := (Own.len (h.pull 2)).1
    have hlt := hp.lt hf
    have hlim := hp.lim; have hcap := hp.cap; have hpl := hp.len
    obtain ⟨b, rfl, _, _⟩ := Own.cells (E := eVNd.flag) (a := ca) (l := cl) (c := cc) h hg
    refine ⟨h00, by omega, ?_⟩
    have he : 0 + n.toNat * 5 = n.toNat * eVNd.flag.sz + 0 := by simp [Enc.flag, eVNd]
    rw [he]
    refine Own.stCs (E := eVNd.flag) (y := (VNd.zero, false)) h hg (Nat.le_of_ble_eq_true rfl) (by simp [Value.oneCell']) rfl fun w h => ?_
    refine lL.of h (by rfl) ?_
    refine alP.of h fun r w h => ?_
    have hok : appOk prog #[179, 179] eNat.sz 8 = true := by kernel_rfl
    have hsrc : Reads eNat w (some ⟨r, 0, none⟩) [n.toNat] := Reads.own h (by
      show [Value.int .i64 (n.toNat : Int)] <+: [Value.int .i64 n]
      rw [show ((n.toNat : Nat) : Int) = n by omega]; exact List.prefix_refl _)
    refine AppV.own (E := eNat) h hok hsrc rfl (by omega) (by decide) fun fa' fc' w h => ?_
    refine ⟨_, _, _, rfl, ?_⟩
    refine stP.of h (by simp) fun w h => ?_
    refine lI64.of h (by rfl) ?_
    refine stP.of h (by simp) fun w h => ?_
    have hfree := hp.free (v := VNd.zero) hf
    have hn1 : 1 ≤ s.n := by
      have := hfree.len; simp at this; omega
    have h := (PoolR.mk (s := ⟨s.m, Pl.up s.f n.toNat none, s.n - 1, s.lim⟩) (p := p) hfree (by
      rw [w64_id (by omega) (by omega), show (s.n : Int) - 1 = ((s.n - 1 : Nat) : Int) by omega] at h
      exact h.drop))
    exact k1 u hx hn1 _ (hc h)
theorem pool_Pool_veb_node_Alloc_spec {x : VNd} {K : Int → Bool → World → Prop} (h : Sat w L) (k0 : s.lim ≤ s.n → ∀ w', Sat w' L → K 0 false w')
    (k1 : s.n < s.lim → ∀ (n : Nat) w', s.f n = none → n < 1048576 → Sat w' (F (PoolR eVNd p ⟨s.m, Pl.up s.f n (some x), s.n + 1, s.lim⟩)) → K n true w') : pool_Pool_veb_node_Alloc.C (some ⟨p, 0, none⟩) x.mn x.mx x.sum x.bits w K := by
  apply pool_Pool_veb_node_Alloc.ok
  obtain ⟨M, h, hb, hc⟩ := i.back h
  refine alP.of h fun r w h => ?_
  refine pool_Pool_veb_node_Room_spec h fun w h => ?_
  refine cond_c (fun h0 => ?_) fun h0 => ?_
  · simp at h0
    exact k0 (by omega) _ (hb h.drop)
  · simp at h0
    have hn : s.n < s.lim := by omega
    obtain ⟨cs, fr, ca, cl, cc, fa, fl, fc, hp, h⟩ := PoolR.un (h.pull 1)
    have hlim := hp.lim; have hcap := hp.cap; have hpl := hp.len
    have hlen := (Own.len (h.pull 1)).1
    have hfl := (Own.len (h.pull 2)).1
    refine lI64.of h (by rfl) ?_
    refine stP.of h (by simp) fun w h => ?_
    refine lAu64_u64_i64_u64.of h (by rfl) ?_
    refine alP.of h fun r2 w h => ?_
    refine stCs.of h (Nat.le_of_ble_eq_true rfl) (by simp [Value.oneCell']) fun w h => ?_
    refine lL.of h (by rfl) ?_
    refine cond_c (fun h1 => ?_) fun h1 => ?_
    · simp only [gt_iff_lt, decide_eq_true_eq] at h1
      have hw : w64 ((fl : Int) - 1) = ((fl - 1 : Nat) : Int) := by rw [w64_id (by omega) (by omega)]; omega
      rw [hw]
      obtain ⟨fs, n, rfl⟩ : ∃ fs n, fr = fs ++ [n] := by
        rcases List.eq_nil_or_concat fr with rfl | ⟨a, b, e⟩
        · simp at hfl; omega
        · exact ⟨a, b, by simpa using e⟩
      have hfl' : fs.length = fl - 1 := by simp at hfl; omega
      refine lL.of h (by rfl) ?_
      obtain ⟨b, rfl, _, hj⟩ := Own.get (E := eNat) (a := fa) (l := fl) (c := fc) (n := fl - 1) (x := n) h (by rw [← hfl']; simp)
      refine ⟨by omega, by omega, ?_⟩
      have hj := hj 0 (by decide)
      refine lI64.mk (n := (n : Int)) (by rw [show 0 + ((fl - 1 : Nat) : Int).toNat * 1 = (fl - 1) * eNat.sz + 0 by simp [eNat], hj]; rfl) ?_
      refine lL.of h (by rfl) ?_
      have hfc := (Own.len (h.pull 3)).2
      refine ⟨by omega, by omega, ?_⟩
      obtain ⟨hnone, hni, hpop⟩ := hp.pop x
      refine stP.of h (by simp) fun w h => ?_
      refine drP.of h fun w h => ?_
      refine lL.of h (by rfl) ?_
      refine lAu64_u64_i64_u64_b.of h (by rfl) ?_
      obtain ⟨b2, rfl, _, _⟩ := Own.get (E := eVNd.flag) (a := ca) (l := cl) (c := cc) h (List.getElem?_eq_getElem hni)
      refine ⟨by omega, by omega, ?_⟩
      have he : 0 + ((n : Nat) : Int).toNat * 5 = n * eVNd.flag.sz + 0 := by simp [Enc.flag, eVNd]
      rw [he]
      refine Own.stCs (E := eVNd.flag) (y := (x, true)) h (List.getElem?_eq_getElem hni) (Nat.le_of_ble_eq_true rfl) (by simp [Value.oneCell']) rfl fun w h => ?_
      have h := h.drop
      have h := Sat.perm h (.refl _)
      refine k1 hn n _ hnone (by omega) (hc ?_)
      rw [w64_id (by omega) (by omega)] at h
      have h2 := h.pull 2
      simp only [pullL] at h2
      obtain ⟨b3, rest, e3, hq, h2⟩ := Own.toBlk h2 (by omega)
      cases e3
      have h2 := Own.ofBlk (E := eNat) (b := b) (xs := fs) (l := fl - 1) (c := fc) (rest := eNat.e n ++ rest) (by
        refine ⟨hfl', by omega, ?_⟩
        rw [List.length_append, hq.2.2, eNat.len]
        simp only [eNat]; omega) (by rw [Enc.rows_app] at h2; simpa [Enc.rows] using h2)
      have h3 := h2.pull 2
      have h3 := (h3.pull 2)
      simp only [pullL] at h3
      have h4 := PoolR.mk (s := ⟨s.m, Pl.up s.f n (some x), s.n + 1, s.lim⟩) (p := p) hpop (by
        simpa [slA_zero, slA_some] using h3)
      exact (h4.pull 1).drop
    · simp only [gt_iff_lt, decide_eq_false_iff_not] at h1
      have hf0 : fl = 0 := by omega
      have hfr : fr = [] := List.eq_nil_of_length_eq_zero (by omega)
      subst hfr
      refine drP.of h fun w h => ?_
      refine lL.of h (by rfl) ?_
      refine lAu64_u64_i64_u64_b.of h (by rfl) ?_
      refine alP.of h fun r3 w h => ?_
      refine ⟨Foc.cells inferInstance h (by rfl), ?_⟩
      obtain ⟨hnone, hpush⟩ := hp.push hn x
      have hok : appOk prog #[324, 324] eVNd.flag.sz 40 = true := by kernel_rfl
      have hsrc : Reads eVNd.flag w (some ⟨r3, 0, none⟩) [(x, true)] := Reads.own h (List.prefix_refl _)
      refine AppV.own (E := eVNd.flag) h hok hsrc rfl (by omega) (by decide) fun ca' cc' w h => ?_
      refine ⟨_, _, _, rfl, ?_⟩
      refine stP.of h (by simp) fun w h => ?_
      refine lL.of h (by rfl) ?_
      rw [w64_id (by omega) (by omega), show ((cl + 1 : Nat) : Int) - 1 = ((cs.length : Nat) : Int) by omega]
      refine k1 hn _ _ hnone (by omega) (hc ?_)
      rw [w64_id (by omega) (by omega)] at h
      have h4 := PoolR.mk (s := ⟨s.m, Pl.up s.f cs.length (some x), s.n + 1, s.lim⟩) (p := p) hpush h.drop.drop
      exact (h4.pull 1).drop
theorem pool_Pool_veb_node_Clear_spec {K : World → Prop} (h : Sat w L) (k : ∀ w', Sat w' (F (PoolR eVNd p ⟨s.m, fun _ => none, 0, s.lim⟩)) → K w') : pool_Pool_veb_node_Clear.C (some ⟨p, 0, none⟩) w K := by
  apply pool_Pool_veb_node_Clear.ok
  obtain ⟨M, h, hb, hc⟩ := i.back h
  obtain ⟨cs, fr, ca, cl, cc, fa, fl, fc, hp, h⟩ := PoolR.un h
  refine lL.of h (by rfl) ?_
  have hl := Own.len (h.pull 1)
  have hr : cl = 0 ∨ ∃ b, ca = some ⟨b, 0, none⟩ ∧ ca = some ⟨b, 0 * eVNd.flag.sz, none⟩ := by
    by_cases h0 : cl = 0
    · exact .inl h0
    · obtain ⟨b, _, e, _⟩ := Own.toBlk (h.pull 1) (by omega)
      exact .inr ⟨b, e, by rw [e]; simp⟩
  refine ClrV.own (E := eVNd.flag) (z := (VNd.zero, false)) (o := 0) (a := ca) h (by kernel_rfl) hr (by omega) fun x w h => ?_
  refine stP.of h (by simp) fun w h => ?_
  refine stP.of h (by simp) fun w h => ?_
  refine stP.of h (by simp) fun w h => ?_
  refine k _ (hc ?_)
  have h := Own.nil (E := eVNd.flag) (Own.nil (E := eNat) ((h.pull 2).drop.pull 1).drop)
  have h := (h.pull 2)
  exact PoolR.mk (s := ⟨s.m, fun _ => none, 0, s.lim⟩) (PlOk.new s.m s.lim hp.cap) h
end
theorem pool_New_veb_node_spec {w : World} {L : List HP} {m : Nat} {n : Int} {K : Option Addr → Int → World → Prop} (h : Sat w L) (k0 : ¬ (0 ≤ n ∧ n ≤ 1048576) → K none 1 w)
    (k1 : 0 ≤ n → n ≤ 1048576 → ∀ p w', Sat w' (PoolR eVNd p ⟨m, fun _ => none, 0, n.toNat⟩ :: L) → K (some ⟨p, 0, none⟩) 0 w') : pool_New_veb_node.C (some ⟨m, 0, none⟩) n w K := by
  apply pool_New_veb_node.ok
  refine cond_c (fun h0 => ?_) fun h0 => ?_
  · simp at h0; exact k0 (by omega)
  refine cond_c (fun h1 => ?_) fun h1 => ?_
  · simp at h1; exact k0 (by omega)
  simp at h0 h1
  refine cond_f rfl ?_
  refine alP.of h fun r w h => ?_
  refine k1 h0 h1 r _ ?_
  refine PoolR.mk (s := ⟨m, fun _ => none, 0, n.toNat⟩) (PlOk.new m n.toNat (by omega)) (ca := none) (cl := 0) (cc := 0) (fa := none) (fl := 0) (fc := 0) ?_
  have h := Own.nil (E := eVNd.flag) (Own.nil (E := eNat) h)
  have h := (h.pull 2)
  simpa [pullL, show ((n.toNat : Nat) : Int) = n by omega] using h

end Go.St
