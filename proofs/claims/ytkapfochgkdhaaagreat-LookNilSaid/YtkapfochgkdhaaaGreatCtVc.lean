/- Contracts: trees that halve their bits: looking. -/
import Derived.Test.YtkapfochgkdhaaaGreatCtVb
namespace Go.St
open Go Go.Proofs
attribute [local irreducible] stP alP drP stCs lI64 lU64 lU8 lB lP lL lR AppV ClrV

structure Ends (S : Nat → Prop) (lo hi : Nat) : Prop where
  ml : S lo
  mh : S hi
  all : ∀ z, S z → lo ≤ z ∧ z ≤ hi
theorem IsLow.nat {W : Nat} {r : Int} (h : IsLow W r) (h0 : W ≠ 0) : ∃ i : Nat, r = i ∧ i < 64 ∧ W.testBit i = true ∧ ∀ j, j < i → W.testBit j = false := by
  cases h with
  | none h => exact absurd h h0
  | some i h1 h2 h3 => exact ⟨i, rfl, h1, h2, h3⟩
theorem IsHigh.nat {W : Nat} {r : Int} (h : IsHigh W r) (h0 : W ≠ 0) : ∃ i : Nat, r = i ∧ i < 64 ∧ W.testBit i = true ∧ ∀ j, i < j → W.testBit j = false := by
  cases h with
  | none h => exact absurd h h0
  | some i h1 h2 h3 => exact ⟨i, rfl, h1, h2, h3⟩
/-- the table of the least bits lies there -/
def TbIn (R : List HP) : Prop := ∃ G, Foc Dbr () () R G
theorem TbIn.c {A : HP} {R : List HP} (h : TbIn R) : TbIn (A :: R) := by
  obtain ⟨G, h⟩ := h
  exact ⟨_, Foc.there (i := h)⟩
/-- words are not reached -/
def ShT (M : Nat → Option VM) : Nat → Nat → Prop
  | 0, _ => False
  | L + 1, i => ∀ x, M i = some x → x.sum = -1 ∨ ((∀ s : Nat, x.sum = s → ShT M L s) ∧ ∀ h c, x.cl h = some c → ShT M L c)
theorem tb_nz {R : List HP} {M : Nat → Option VM} {L i : Nat} (h : TbIn R ∨ ShT M L i) : TbIn R ∨ L ≠ 0 := by
  rcases h with h | h
  · exact .inl h
  · right; rintro rfl; exact h
theorem tb_sum {R : List HP} {M : Nat → Option VM} {L i s : Nat} {y : VM} (h : TbIn R ∨ ShT M (L + 1) i) (hy : M i = some y) (hs : y.sum = (s : Int)) : TbIn R ∨ ShT M L s :=
  h.imp_right fun h => ((h y hy).resolve_left (by rw [hs]; omega)).1 s hs
theorem tb_cl {R : List HP} {M : Nat → Option VM} {L i s q c : Nat} {y : VM} (h : TbIn R ∨ ShT M (L + 1) i) (hy : M i = some y) (hs : y.sum = (s : Int)) (hc : y.cl q = some c) : TbIn R ∨ ShT M L c :=
  h.imp_right fun h => ((h y hy).resolve_left (by rw [hs]; omega)).2 q c hc
section
variable {v : Nat}
theorem veb_ends_spec {L i e : Nat} {S : Nat → Prop} {own : List Nat} {M : Nat → Option VM} {y : VM} {w : World} {R : List HP} {K : Int → Int → World → Prop} (h : Sat w R) (hd : TbIn R ∨ L ≠ 0) (hL : L ≤ 4) (hV : VR M L i S own e) (hy : M i = some y)
    (q : ∀ (lo hi : Nat) w', Ends S lo hi → lo < UL L → hi < UL L → Sat w' R → K lo hi w') : veb_ends.C y.mn y.mx y.sum y.bits (wdt L : Nat) w K := by
  apply veb_ends.ok
  refine alP.of h fun r w h => ?_
  cases L with
  | zero =>
    obtain ⟨h1, h2, h3, h4, h5, h6, h7, h8, _, _⟩ := VR.word hV hy
    refine cond_t wdt_zero ?_
    refine drP.of h fun w h => ?_
    refine lU64.of h (by rfl) ?_
    refine lU64.of h (by rfl) ?_
    obtain ⟨G, d⟩ := hd.resolve_right (fun h => h rfl)
    refine bit_Low_spec h (by omega) fun a ha => ?_
    refine ⟨Foc.cells inferInstance h (by rfl), ?_⟩
    refine bit_High_spec (by omega) fun b hb => ?_
    obtain ⟨lo, rfl, hl1, hl2, hl3⟩ := ha.nat h6
    obtain ⟨hi, rfl, hh1, hh2, hh3⟩ := hb.nat h6
    rw [wu64_id (by omega) (by omega), wu64_id (by omega) (by omega)]
    have hS1 := (h8 lo).2 hl2
    have hS2 := (h8 hi).2 hh2
    refine q lo hi _ ⟨hS1, hS2, fun z hz => ?_⟩ ((VR.live hV).2.2.2 _ hS1) ((VR.live hV).2.2.2 _ hS2) h.drop
    have hz := (h8 z).1 hz
    constructor
    · rcases Nat.lt_or_ge z lo with hlt | hge
      · rw [hl3 z hlt] at hz; cases hz
      · exact hge
    · rcases Nat.lt_or_ge hi z with hlt | hge
      · rw [hh3 z hlt] at hz; cases hz
      · exact hge
  | succ L =>
    obtain ⟨Q, ow, hlev, hbits, hle, hmx, hin, hQ, hSS, _, _⟩ := VR.node hV hy
    refine cond_f wdt_gt ?_
    refine drP.of h fun w h => ?_
    refine lU64.of h (by rfl) ?_
    refine lU64.of h (by rfl) ?_
    refine q y.mn y.mx _ ⟨(hSS _).2 (.inl rfl), (hSS _).2 (.inr (.inl rfl)), fun z hz => ?_⟩ (by omega) hmx h.drop
    rcases (hSS z).1 hz with rfl | rfl | hz
    · omega
    · omega
    · have := hQ z hz; omega
theorem veb_has_spec : ∀ (L : Nat), L ≤ 4 → ∀ {i k e : Nat} {S : Nat → Prop} {own : List Nat} {x : VSt} {y : VM} {w : World} {R : List HP} {K : Bool → World → Prop}, Sat w (VebR v x :: R) → VR x.M L i S own e → x.M i = some y → k < UL L →
    (∀ b w', (b = true ↔ S k) → Sat w' (VebR v x :: R) → K b w') → veb_VEB_has.C (some ⟨v, 0, none⟩) (i : Int) y.mn y.mx y.sum y.bits (wdt L : Nat) (k : Int) w K := by
  intro L
  induction L with
  | zero =>
    intro hL i k e S own x y w R K h hV hy hk q
    obtain ⟨h1, h2, h3, h4, h5, h6, h7, h8, rfl, rfl⟩ := VR.word hV hy
    rw [UL_zero] at hk
    apply veb_VEB_has.ok
    refine alP.of h fun r w h => ?_
    refine cond_t wdt_zero ?_
    refine lU64.of h (by rfl) ?_
    rw [w64_id (by omega) (by omega)]
    refine bit_Get_spec (by omega) ?_
    refine q _ _ ?_ h.drop
    have : decide (0 ≤ (k : Int) ∧ (k : Int) < 64) = true := by simp; omega
    rw [this, h8]; simp
  | succ L ih =>
    intro hL i k e S own x y w R K h hV hy hk q
    obtain ⟨Q, ow, hlev, hbits, hle, hmx, hin, hQ, hSS, rfl, hni⟩ := VR.node hV hy
    obtain ⟨f, g, hR⟩ := VebR.rel h
    have hcl := hin.cl_lt hR
    have hU4 := UL_le4 (show L + 1 ≤ 4 from hL)
    apply veb_VEB_has.ok
    refine alP.of h fun r w h => ?_
    refine cond_f wdt_gt ?_
    refine lU64.of h (by rfl) ?_
    have go : ∀ (b : Bool), (b = true ↔ k = y.mn ∨ k = y.mx) → veb_VEB_has.T1 K (some ⟨v, 0, none⟩) (i : Int) (wdt (L + 1) : Nat) (k : Int) r 0 b w := by
      intro b hb
      unfold veb_VEB_has.T1
      refine cond_c (fun h1 => ?_) fun h1 => ?_
      · refine q true _ (iff_of_true rfl ((hSS k).2 ?_)) h.drop
        rcases hb.1 h1 with h2 | h2
        · exact .inl h2
        · exact .inr (.inl h2)
      · have hb' : ¬ (k = y.mn ∨ k = y.mx) := fun h2 => by rw [hb.2 h2] at h1; cases h1
        have hSQ : S k ↔ Q k := by
          rw [hSS]; constructor
          · rintro (h2 | h2 | h2)
            · exact absurd (.inl h2) hb'
            · exact absurd (.inr h2) hb'
            · exact h2
          · exact fun h2 => .inr (.inr h2)
        have no : ¬ Q k → ∀ w', Sat w' (VebR v x :: R) → K false w' := fun hn w' h' => q false w' (by rw [hSQ]; simp [hn]) h'
        refine lU64.of h (by rfl) ?_
        refine cond_c (fun h2 => ?_) fun h2 => ?_
        · have h2 : k < y.mn := by simpa using h2
          exact no (fun hq => by have := hQ k hq; omega) _ h.drop
        · refine lU64.of h (by rfl) ?_
          refine cond_c (fun h3 => ?_) fun h3 => ?_
          · have h3 : y.mx < k := by simpa using h3
            exact no (fun hq => by have := hQ k hq; omega) _ h.drop
          · refine lI64.of h (by rfl) ?_
            refine cond_c (fun hm => ?_) fun hm => ?_
            · have hm : y.sum = -1 := by simpa using hm
              refine no (fun hq => ?_) _ h.drop
              cases hin with
              | none _ _ h3 _ _ => exact h3 k hq
              | some s _ _ _ _ g1 => omega
            · have hm : y.sum ≠ -1 := by simpa using hm
              refine veb_high_spec (by omega) ?_
              refine veb_cluster_spec h hy (by omega) hlev (half_lt (by omega) hk) (fun c hc => hcl _ c hc) fun w h => ?_
              cases hin with
              | none h1 _ _ _ _ => exact absurd h1 hm
              | some s Ss os es cs g1 g2 g3 g4 g5 g6 g7 g8 g9 g10 =>
                cases hc : y.cl (k / UL L) with
                | none =>
                  refine cond_f rfl ?_
                  refine no (fun hq => ?_) _ h.drop
                  obtain ⟨d, hd, h1, _⟩ := (g7 k).1 hq
                  have := (g6 (k / UL L) d.c).2 ⟨d, hd, h1, rfl⟩
                  rw [hc] at this; cases this
                | some c =>
                  refine cond_t rfl ?_
                  obtain ⟨d, hd, hdh, rfl⟩ := (g6 _ _).1 hc
                  obtain ⟨_, z, hz, _⟩ := VR.self (g3 d hd).1
                  refine veb_read_spec h hz fun w h => ?_
                  refine veb_low_spec (by omega) (by omega) ?_
                  rcases wdt_half L with hw | hw
                  · rw [hw]
                    refine ih (by omega) (h.pull 1) (g3 d hd).1 hz (UL_mod _ _) fun b w hb h => ?_
                    refine q b _ ?_ (h.pull 1).drop
                    rw [hb, hSQ, g7]
                    constructor
                    · exact fun h1 => ⟨d, hd, hdh, h1⟩
                    · rintro ⟨d', hd', h1, h2⟩
                      rw [map_inj g4 hd' hd (by rw [h1, hdh])] at h2; exact h2
                  · omega
    refine cond_c (fun h1 => ?_) fun h1 => ?_
    · exact go true (iff_of_true rfl (.inl (by simp at h1; omega)))
    · refine lU64.of h (by rfl) ?_
      refine go _ ?_
      have h1 : k ≠ y.mn := by simp at h1; omega
      simp only [beq_iff_eq]
      constructor
      · intro h2; exact .inr (by omega)
      · rintro (h2 | h2)
        · exact absurd h2 h1
        · omega
/-- keys of a cluster -/
theorem key_split {U h l : Nat} (hl : l < U) : (h * U + l) / U = h ∧ (h * U + l) % U = l := by
  have hU : 0 < U := by omega
  constructor
  · rw [Nat.mul_comm, Nat.mul_add_div hU, Nat.div_eq_of_lt hl, Nat.add_zero]
  · rw [Nat.mul_comm, Nat.mul_add_mod, Nat.mod_eq_of_lt hl]
theorem key_lt {U a b : Nat} (h : a / U < b / U) : a < b := by
  rcases Nat.lt_or_ge a b with h1 | h1
  · exact h1
  · have := Nat.div_le_div_right (c := U) h1; omega
theorem key_le {U a b : Nat} (h : a / U = b / U) (hm : a % U ≤ b % U) : a ≤ b := by
  have h1 := Nat.div_add_mod a U
  have h2 := Nat.div_add_mod b U
  rw [h] at h1; omega
theorem key_lt' {U a b : Nat} (h : a / U = b / U) (hm : a % U < b % U) : a < b := by
  have h1 := Nat.div_add_mod a U
  have h2 := Nat.div_add_mod b U
  rw [h] at h1; omega
structure IsNext (S : Nat → Prop) (k r : Nat) : Prop where
  mem : S r
  ge : k ≤ r
  least : ∀ z, S z → k ≤ z → r ≤ z
structure IsPrev (S : Nat → Prop) (k r : Nat) : Prop where
  mem : S r
  le : r ≤ k
  most : ∀ z, S z → z ≤ k → z ≤ r
theorem veb_next_spec : ∀ (L : Nat), L ≤ 4 → ∀ {i k e : Nat} {S : Nat → Prop} {own : List Nat} {x : VSt} {y : VM} {w : World} {R : List HP} {K : Int → World → Prop}, Sat w (VebR v x :: R) → (TbIn R ∨ ShT x.M L i) → VR x.M L i S own e → x.M i = some y → k < UL L → (∃ z, S z ∧ k ≤ z) →
    (∀ (r : Nat) w', IsNext S k r → Sat w' (VebR v x :: R) → K r w') → veb_VEB_next.C (some ⟨v, 0, none⟩) (i : Int) y.mn y.mx y.sum y.bits (wdt L : Nat) (k : Int) w K := by
  intro L
  induction L with
  | zero =>
    intro hL i k e S own x y w R K h hd hV hy hk hex q
    obtain ⟨h1, h2, h3, h4, h5, h6, h7, h8, rfl, rfl⟩ := VR.word hV hy
    have hd0 : TbIn R := hd.resolve_right (fun h => h)
    obtain ⟨G, d⟩ := hd0
    have hd0 : TbIn R := ⟨G, d⟩
    apply veb_VEB_next.ok
    refine alP.of h fun r w h => ?_
    refine lAu64_u64_i64_u64.of h (by rfl) ?_
    refine veb_ends_spec h (.inl hd0.c.c) (by omega) hV hy fun lo hi w he hlo hhi h => ?_
    refine cond_c (fun hc => ?_) fun hc => ?_
    · have hc : k ≤ lo := by simpa using hc
      exact q lo _ ⟨he.ml, hc, fun z hz _ => (he.all z hz).1⟩ h.drop
    · refine cond_t wdt_zero ?_
      refine lU64.of h (by rfl) ?_
      rw [UL_zero] at hk
      rw [w64_id (by omega) (by omega)]
      refine bit_Next_spec h (by omega) fun a ha => ?_
      obtain ⟨z, hz, hkz⟩ := hex
      have tb : ∀ j, (y.bits &&& (18446744073709551615 - belowN (k : Int))).testBit j = (y.bits.testBit j && decide (j < 64 ∧ k ≤ j)) := fun j => by
        rw [Nat.testBit_and, tb_not (belowN_lt _), tb_belowN]
        congr 1
        by_cases h1 : j < 64 <;> by_cases h2 : k ≤ j <;> simp [h1, h2] <;> omega
      have hz16 := (VR.live hV).2.2.2 z hz
      rw [UL_zero] at hz16
      have hne : y.bits &&& (18446744073709551615 - belowN (k : Int)) ≠ 0 := by
        intro e0
        have := tb z
        rw [e0, Nat.zero_testBit, (h8 z).1 hz] at this
        simp at this; omega
      obtain ⟨r', rfl, hr1, hr2, hr3⟩ := ha.nat hne
      rw [tb] at hr2
      simp only [Bool.and_eq_true, decide_eq_true_eq] at hr2
      rw [wu64_id (by omega) (by omega)]
      refine q r' _ ⟨(h8 _).2 hr2.1, hr2.2.2, fun u hu hku => ?_⟩ h.drop
      rcases Nat.lt_or_ge u r' with hlt | hge
      · have := hr3 u hlt
        rw [tb, (h8 u).1 hu] at this
        simp at this; omega
      · exact hge
  | succ L ih =>
    intro hL i k e S own x y w R K h hd hV hy hk hex q
    obtain ⟨Q, ow, hlev, hbits, hle, hmx, hin, hQ, hSS, rfl, hni⟩ := VR.node hV hy
    obtain ⟨f, g, hR⟩ := VebR.rel h
    have hcl := hin.cl_lt hR
    have hU4 := UL_le4 (show L + 1 ≤ 4 from hL)
    have hU3 := UL_le (show L ≤ 3 by omega)
    have hUp := UL_pos L
    apply veb_VEB_next.ok
    refine alP.of h fun r w h => ?_
    refine lAu64_u64_i64_u64.of h (by rfl) ?_
    refine veb_ends_spec h (.inr (by omega)) (by omega) hV hy fun lo hi w he hlo hhi h => ?_
    have hhimx : hi = y.mx := by
      have h1 := (he.all _ ((hSS _).2 (.inr (.inl rfl)))).2
      rcases (hSS hi).1 he.mh with h2 | h2 | h2
      · omega
      · exact h2
      · have := hQ _ h2; omega
    have hlomn : lo = y.mn := by
      have h1 := (he.all _ ((hSS _).2 (.inl rfl))).1
      rcases (hSS lo).1 he.ml with h2 | h2 | h2
      · exact h2
      · omega
      · have := hQ _ h2; omega
    refine cond_c (fun hc => ?_) fun hc => ?_
    · have hc : k ≤ lo := by simpa using hc
      exact q lo _ ⟨he.ml, hc, fun z hz _ => (he.all z hz).1⟩ h.drop
    · have hc : ¬ k ≤ lo := by simpa using hc
      have hkhi : k ≤ hi := by obtain ⟨z, hz, hkz⟩ := hex; have := (he.all z hz).2; omega
      -- the greatest is the answer if no inner key is behind
      have top : (∀ z, Q z → z < k) → ∀ w', Sat w' (VebR v x :: R) → K (hi : Int) w' := fun hno w' h' => by
        refine q hi w' ⟨he.mh, hkhi, fun z hz hkz => ?_⟩ h'
        rcases (hSS z).1 hz with h2 | h2 | h2
        · omega
        · omega
        · have := hno z h2; omega
      -- an inner key is the answer if it is the least one behind
      have inner : ∀ r', Q r' → k ≤ r' → (∀ z, Q z → k ≤ z → r' ≤ z) → ∀ w', Sat w' (VebR v x :: R) → K (r' : Int) w' := fun r' h1 h2 h3 w' h' => by
        refine q r' w' ⟨(hSS _).2 (.inr (.inr h1)), h2, fun z hz hkz => ?_⟩ h'
        rcases (hSS z).1 hz with h4 | h4 | h4
        · omega
        · have := hQ r' h1; omega
        · exact h3 z h4 hkz
      refine cond_f wdt_gt ?_
      refine lI64.of h (by rfl) ?_
      cases hin with
      | none h1 h2 h3 _ _ =>
        rw [h1]
        refine cond_t (by decide) ?_
        exact top (fun z hz => absurd hz (h3 z)) _ h.drop
      | some s Ss os es cs g1 g2 g3 g4 g5 g6 g7 g8 g9 g10 =>
        refine cond_f (by rw [g1]; simp) ?_
        have hdiv := UL_div hk
        refine veb_high_spec (by omega) ?_
        refine veb_low_spec (by omega) (by omega) ?_
        refine veb_cluster_spec h hy (by omega) hlev (half_lt (by omega) hk) (fun c hc => hcl _ c hc) fun w h => ?_
        have go : (∀ z, Q z → z / UL L = k / UL L → z < k) → ∀ (N : List HP) (_ : TbIn N ∨ ShT x.M (L + 1) i) w, Sat w (blk r [.int .u64 y.mn, .int .u64 y.mx, .int .i64 y.sum, .int .u64 y.bits] :: VebR v x :: N) → (∀ w', Sat w' (VebR v x :: N) → Sat w' (VebR v x :: R)) →
            veb_VEB_next.T1 K (some ⟨v, 0, none⟩) (i : Int) (wdt (L + 1) : Nat) r 0 (hi : Int) ((k / UL L : Nat) : Int) w := by
          intro hno N hd' w h hback
          unfold veb_VEB_next.T1
          refine lI64.of h (by rfl) ?_
          rw [g1] at h ⊢
          obtain ⟨_, ys, hys, _⟩ := VR.self g2
          refine veb_read_spec h hys fun w h => ?_
          refine alP.of h fun r2 w h => ?_
          refine stCs.of h (Nat.le_of_ble_eq_true rfl) (by simp [Value.oneCell']) fun w h => ?_
          refine lAu64_u64_i64_u64.of h (by rfl) ?_
          rcases wdt_half L with hw | hw
          · rw [hw]
            refine veb_ends_spec h ((tb_nz (tb_sum hd' hy g1)).imp_left fun h => h.c.c.c) (by omega) g2 hys fun slo shi w hse hslo hshi h => ?_
            refine cond_c (fun hc2 => ?_) fun hc2 => ?_
            · have hc2 : shi ≤ k / UL L := by simp only [ge_iff_le, decide_eq_true_eq] at hc2; omega
              refine top (fun z hz => ?_) _ (hback _ h.drop.drop)
              obtain ⟨c, hcm, h1, h2⟩ := (g7 z).1 hz
              have := (hse.all c.h ((g5 _).2 ⟨c, hcm, rfl⟩)).2
              rcases Nat.lt_or_ge (z / UL L) (k / UL L) with hlt | hge
              · exact key_lt hlt
              · exact hno z hz (by omega)
            · have hc2 : k / UL L < shi := by simp only [ge_iff_le, decide_eq_false_iff_not] at hc2; omega
              refine lI64.of h (by rfl) ?_
              refine lAu64_u64_i64_u64.of h (by rfl) ?_
              generalize hkq : k / UL L = kq at hdiv hc2 hno ⊢
              rw [wu64_id (x := (kq : Int) + 1) (by omega) (by omega), show (kq : Int) + 1 = ((kq + 1 : Nat) : Int) by omega]
              subst hkq
              refine ih (by omega) ((h.pull 2)) ((tb_sum hd' hy g1).imp_left fun h => h.c.c) g2 hys (by omega) ⟨shi, hse.mh, hc2⟩ fun h2 w hn h => ?_
              obtain ⟨c, hcm, hch⟩ := (g5 _).1 hn.mem
              have hcc := (g6 h2 c.c).2 ⟨c, hcm, hch, rfl⟩
              have hh2 : h2 < UL L := by rw [← hch]; exact (g3 c hcm).2
              refine veb_cluster_spec (q := h2) h hy (by omega) hlev (by omega) (fun c hc => hcl _ c hc) fun w h => ?_
              rw [hcc]
              obtain ⟨_, yc, hyc, _⟩ := VR.self (g3 c hcm).1
              refine veb_read_spec h hyc fun w h => ?_
              refine veb_ends_spec h ((tb_nz (tb_cl hd' hy g1 hcc)).imp_left fun h => h.c.c.c) (by omega) (g3 c hcm).1 hyc fun clo chi w hce hclo hchi h => ?_
              refine veb_join_spec (by omega) hh2 hclo ?_
              obtain ⟨k1, k2⟩ := key_split (h := h2) hclo
              have hQr : Q (h2 * UL L + clo) := (g7 _).2 ⟨c, hcm, by rw [k1, hch], by rw [k2]; exact hce.ml⟩
              have hge := hn.ge
              refine inner _ hQr (Nat.le_of_lt (key_lt (U := UL L) (by rw [k1]; omega))) (fun z hz hkz => ?_) _ (hback _ ((h.pull 1).drop.pull 1).drop)
              obtain ⟨c', hcm', h1, h3⟩ := (g7 z).1 hz
              have hzh : k / UL L + 1 ≤ z / UL L := by
                have h4 := Nat.div_le_div_right (c := UL L) hkz
                rcases Nat.lt_or_ge (k / UL L) (z / UL L) with h5 | h5
                · exact h5
                · have := hno z hz (by omega); omega
              have hl := hn.least (z / UL L) (by rw [← h1]; exact (g5 _).2 ⟨c', hcm', rfl⟩) hzh
              rcases Nat.lt_or_ge h2 (z / UL L) with h5 | h5
              · exact Nat.le_of_lt (key_lt (U := UL L) (by rw [k1]; exact h5))
              · have hce' : c' = c := map_inj g4 hcm' hcm (by rw [h1, hch]; omega)
                rw [hce'] at h3
                exact key_le (U := UL L) (by rw [k1]; omega) (by rw [k2]; exact (hce.all _ h3).1)
          · omega
        cases hcq : y.cl (k / UL L) with
        | none =>
          refine cond_f rfl ?_
          refine go (fun z hz hzk => ?_) R hd w h (fun _ h => h)
          obtain ⟨c, hcm, h1, _⟩ := (g7 z).1 hz
          have := (g6 (k / UL L) c.c).2 ⟨c, hcm, by rw [h1, hzk], rfl⟩
          rw [hcq] at this; cases this
        | some c =>
          refine cond_t rfl ?_
          obtain ⟨c, hcm, hch, rfl⟩ := (g6 _ _).1 hcq
          obtain ⟨_, yc, hyc, _⟩ := VR.self (g3 c hcm).1
          refine veb_read_spec h hyc fun w h => ?_
          refine alP.of h fun r2 w h => ?_
          refine stCs.of h (Nat.le_of_ble_eq_true rfl) (by simp [Value.oneCell']) fun w h => ?_
          refine lAu64_u64_i64_u64.of h (by rfl) ?_
          rcases wdt_half L with hw | hw
          · rw [hw]
            refine veb_ends_spec h ((tb_nz (tb_cl hd hy g1 hcq)).imp_left fun h => h.c.c.c) (by omega) (g3 c hcm).1 hyc fun clo chi w hce hclo hchi h => ?_
            refine cond_c (fun hc2 => ?_) fun hc2 => ?_
            · have hc2 : k % UL L ≤ chi := by simp only [decide_eq_true_eq] at hc2; omega
              refine lAu64_u64_i64_u64.of h (by rfl) ?_
              refine ih (by omega) (h.pull 2) ((tb_cl hd hy g1 hcq).imp_left fun h => h.c.c) (g3 c hcm).1 hyc (UL_mod _ _) ⟨chi, hce.mh, hc2⟩ fun r' w hn h => ?_
              have hr' := (VR.live (g3 c hcm).1).2.2.2 _ hn.mem
              refine veb_join_spec (by omega) hdiv hr' ?_
              obtain ⟨k1, k2⟩ := key_split (h := k / UL L) hr'
              have hge := hn.ge
              refine inner _ ((g7 _).2 ⟨c, hcm, by rw [k1, hch], by rw [k2]; exact hn.mem⟩) (key_le (U := UL L) k1.symm (by rw [k2]; exact hge)) (fun z hz hkz => ?_) _ ((h.pull 1).drop.pull 1).drop
              obtain ⟨c', hcm', h1, h3⟩ := (g7 z).1 hz
              have h4 := Nat.div_le_div_right (c := UL L) hkz
              rcases Nat.lt_or_ge (k / UL L) (z / UL L) with h5 | h5
              · exact Nat.le_of_lt (key_lt (U := UL L) (by rw [k1]; exact h5))
              · have hzk : z / UL L = k / UL L := by omega
                have hce' : c' = c := map_inj g4 hcm' hcm (by rw [h1, hch, hzk])
                rw [hce'] at h3
                have hmz : k % UL L ≤ z % UL L := by
                  have q1 := Nat.div_add_mod k (UL L)
                  have q2 := Nat.div_add_mod z (UL L)
                  rw [hzk] at q2; omega
                exact key_le (U := UL L) (by rw [k1, hzk]) (by rw [k2]; exact hn.least _ h3 hmz)
            · have hc2 : chi < k % UL L := by simp only [decide_eq_false_iff_not] at hc2; omega
              have h := h.pull 2
              simp only [pullL] at h
              refine go (fun z hz hzk => ?_) (_ :: R) (hd.imp_left fun h => h.c) w ((h.pull 2)) (fun w' h' => (h'.pull 1).drop)
              obtain ⟨c', hcm', h1, h3⟩ := (g7 z).1 hz
              have hce' : c' = c := map_inj g4 hcm' hcm (by rw [h1, hch, hzk])
              rw [hce'] at h3
              exact key_lt' (U := UL L) hzk (by have := (hce.all _ h3).2; omega)
          · omega

theorem veb_prev_spec : ∀ (L : Nat), L ≤ 4 → ∀ {i k e : Nat} {S : Nat → Prop} {own : List Nat} {x : VSt} {y : VM} {w : World} {R : List HP} {K : Int → World → Prop}, Sat w (VebR v x :: R) → (TbIn R ∨ ShT x.M L i) → VR x.M L i S own e → x.M i = some y → k < UL L → (∃ z, S z ∧ z ≤ k) →
    (∀ (r : Nat) w', IsPrev S k r → Sat w' (VebR v x :: R) → K r w') → veb_VEB_prev.C (some ⟨v, 0, none⟩) (i : Int) y.mn y.mx y.sum y.bits (wdt L : Nat) (k : Int) w K := by
  intro L
  induction L with
  | zero =>
    intro hL i k e S own x y w R K h hd hV hy hk hex q
    obtain ⟨h1, h2, h3, h4, h5, h6, h7, h8, rfl, rfl⟩ := VR.word hV hy
    have hd0 : TbIn R := hd.resolve_right (fun h => h)
    obtain ⟨G, d⟩ := hd0
    have hd0 : TbIn R := ⟨G, d⟩
    apply veb_VEB_prev.ok
    refine alP.of h fun r w h => ?_
    refine lAu64_u64_i64_u64.of h (by rfl) ?_
    refine veb_ends_spec h (.inl hd0.c.c) (by omega) hV hy fun lo hi w he hlo hhi h => ?_
    refine cond_c (fun hc => ?_) fun hc => ?_
    · have hc : hi ≤ k := by simpa using hc
      exact q hi _ ⟨he.mh, hc, fun z hz _ => (he.all z hz).2⟩ h.drop
    · refine cond_t wdt_zero ?_
      refine lU64.of h (by rfl) ?_
      rw [UL_zero] at hk
      rw [w64_id (by omega) (by omega)]
      refine bit_Prev_spec (by omega) fun a _ ha => ?_
      have ha := ha (by omega)
      obtain ⟨z, hz, hkz⟩ := hex
      have tb : ∀ j, (y.bits &&& (belowN (k : Int) ||| oneN (k : Int))).testBit j = (y.bits.testBit j && decide (j ≤ k)) := fun j => by
        rw [Nat.testBit_and, Nat.testBit_or, tb_belowN, tb_oneN]
        congr 1
        rw [Bool.eq_iff_iff]
        simp only [Bool.or_eq_true, decide_eq_true_eq]
        omega
      have hne : y.bits &&& (belowN (k : Int) ||| oneN (k : Int)) ≠ 0 := by
        intro e0
        have := tb z
        rw [e0, Nat.zero_testBit, (h8 z).1 hz] at this
        simp at this; omega
      obtain ⟨r', rfl, hr1, hr2, hr3⟩ := ha.nat hne
      rw [tb] at hr2
      simp only [Bool.and_eq_true, decide_eq_true_eq] at hr2
      rw [wu64_id (by omega) (by omega)]
      refine q r' _ ⟨(h8 _).2 hr2.1, hr2.2, fun u hu hku => ?_⟩ h.drop
      rcases Nat.lt_or_ge r' u with hlt | hge
      · have := hr3 u hlt
        rw [tb, (h8 u).1 hu] at this
        simp at this; omega
      · exact hge
  | succ L ih =>
    intro hL i k e S own x y w R K h hd hV hy hk hex q
    obtain ⟨Q, ow, hlev, hbits, hle, hmx, hin, hQ, hSS, rfl, hni⟩ := VR.node hV hy
    obtain ⟨f, g, hR⟩ := VebR.rel h
    have hcl := hin.cl_lt hR
    have hU4 := UL_le4 (show L + 1 ≤ 4 from hL)
    have hU3 := UL_le (show L ≤ 3 by omega)
    have hUp := UL_pos L
    apply veb_VEB_prev.ok
    refine alP.of h fun r w h => ?_
    refine lAu64_u64_i64_u64.of h (by rfl) ?_
    refine veb_ends_spec h (.inr (by omega)) (by omega) hV hy fun lo hi w he hlo hhi h => ?_
    have hhimx : hi = y.mx := by
      have h1 := (he.all _ ((hSS _).2 (.inr (.inl rfl)))).2
      rcases (hSS hi).1 he.mh with h2 | h2 | h2
      · omega
      · exact h2
      · have := hQ _ h2; omega
    have hlomn : lo = y.mn := by
      have h1 := (he.all _ ((hSS _).2 (.inl rfl))).1
      rcases (hSS lo).1 he.ml with h2 | h2 | h2
      · exact h2
      · omega
      · have := hQ _ h2; omega
    refine cond_c (fun hc => ?_) fun hc => ?_
    · have hc : hi ≤ k := by simpa using hc
      exact q hi _ ⟨he.mh, hc, fun z hz _ => (he.all z hz).2⟩ h.drop
    · have hc : ¬ hi ≤ k := by simpa using hc
      have hkhi : lo ≤ k := by obtain ⟨z, hz, hkz⟩ := hex; have := (he.all z hz).1; omega
      -- the least is the answer if no inner key is ahead
      have top : (∀ z, Q z → k < z) → ∀ w', Sat w' (VebR v x :: R) → K (lo : Int) w' := fun hno w' h' => by
        refine q lo w' ⟨he.ml, hkhi, fun z hz hkz => ?_⟩ h'
        rcases (hSS z).1 hz with h2 | h2 | h2
        · omega
        · omega
        · have := hno z h2; omega
      have inner : ∀ r', Q r' → r' ≤ k → (∀ z, Q z → z ≤ k → z ≤ r') → ∀ w', Sat w' (VebR v x :: R) → K (r' : Int) w' := fun r' h1 h2 h3 w' h' => by
        refine q r' w' ⟨(hSS _).2 (.inr (.inr h1)), h2, fun z hz hkz => ?_⟩ h'
        rcases (hSS z).1 hz with h4 | h4 | h4
        · have := hQ r' h1; omega
        · omega
        · exact h3 z h4 hkz
      refine cond_f wdt_gt ?_
      refine lI64.of h (by rfl) ?_
      cases hin with
      | none h1 h2 h3 _ _ =>
        rw [h1]
        refine cond_t (by decide) ?_
        exact top (fun z hz => absurd hz (h3 z)) _ h.drop
      | some s Ss os es cs g1 g2 g3 g4 g5 g6 g7 g8 g9 g10 =>
        refine cond_f (by rw [g1]; simp) ?_
        have hdiv := UL_div hk
        refine veb_high_spec (by omega) ?_
        refine veb_low_spec (by omega) (by omega) ?_
        refine veb_cluster_spec h hy (by omega) hlev (half_lt (by omega) hk) (fun c hc => hcl _ c hc) fun w h => ?_
        have go : (∀ z, Q z → z / UL L = k / UL L → k < z) → ∀ (N : List HP) (_ : TbIn N ∨ ShT x.M (L + 1) i) w, Sat w (blk r [.int .u64 y.mn, .int .u64 y.mx, .int .i64 y.sum, .int .u64 y.bits] :: VebR v x :: N) → (∀ w', Sat w' (VebR v x :: N) → Sat w' (VebR v x :: R)) →
            veb_VEB_prev.T1 K (some ⟨v, 0, none⟩) (i : Int) (wdt (L + 1) : Nat) r 0 (lo : Int) ((k / UL L : Nat) : Int) w := by
          intro hno N hd' w h hback
          unfold veb_VEB_prev.T1
          refine lI64.of h (by rfl) ?_
          rw [g1] at h ⊢
          obtain ⟨_, ys, hys, _⟩ := VR.self g2
          refine veb_read_spec h hys fun w h => ?_
          refine alP.of h fun r2 w h => ?_
          refine stCs.of h (Nat.le_of_ble_eq_true rfl) (by simp [Value.oneCell']) fun w h => ?_
          refine lAu64_u64_i64_u64.of h (by rfl) ?_
          rcases wdt_half L with hw | hw
          · rw [hw]
            refine veb_ends_spec h ((tb_nz (tb_sum hd' hy g1)).imp_left fun h => h.c.c.c) (by omega) g2 hys fun slo shi w hse hslo hshi h => ?_
            refine cond_c (fun hc2 => ?_) fun hc2 => ?_
            · have hc2 : k / UL L ≤ slo := by simp only [decide_eq_true_eq] at hc2; omega
              refine top (fun z hz => ?_) _ (hback _ h.drop.drop)
              obtain ⟨c, hcm, h1, h2⟩ := (g7 z).1 hz
              have := (hse.all c.h ((g5 _).2 ⟨c, hcm, rfl⟩)).1
              rcases Nat.lt_or_ge (k / UL L) (z / UL L) with hlt | hge
              · exact key_lt hlt
              · exact hno z hz (by omega)
            · have hc2 : slo < k / UL L := by simp only [decide_eq_false_iff_not] at hc2; omega
              refine lI64.of h (by rfl) ?_
              refine lAu64_u64_i64_u64.of h (by rfl) ?_
              generalize hkq : k / UL L = kq at hdiv hc2 hno ⊢
              rw [wu64_id (x := (kq : Int) - 1) (by omega) (by omega), show (kq : Int) - 1 = ((kq - 1 : Nat) : Int) by omega]
              subst hkq
              refine ih (by omega) ((h.pull 2)) ((tb_sum hd' hy g1).imp_left fun h => h.c.c) g2 hys (by omega) ⟨slo, hse.ml, by omega⟩ fun h2 w hn h => ?_
              obtain ⟨c, hcm, hch⟩ := (g5 _).1 hn.mem
              have hcc := (g6 h2 c.c).2 ⟨c, hcm, hch, rfl⟩
              have hh2 : h2 < UL L := by rw [← hch]; exact (g3 c hcm).2
              refine veb_cluster_spec (q := h2) h hy (by omega) hlev (by omega) (fun c hc => hcl _ c hc) fun w h => ?_
              rw [hcc]
              obtain ⟨_, yc, hyc, _⟩ := VR.self (g3 c hcm).1
              refine veb_read_spec h hyc fun w h => ?_
              refine veb_ends_spec h ((tb_nz (tb_cl hd' hy g1 hcc)).imp_left fun h => h.c.c.c) (by omega) (g3 c hcm).1 hyc fun clo chi w hce hclo hchi h => ?_
              refine veb_join_spec (by omega) hh2 hchi ?_
              obtain ⟨k1, k2⟩ := key_split (h := h2) hchi
              have hQr : Q (h2 * UL L + chi) := (g7 _).2 ⟨c, hcm, by rw [k1, hch], by rw [k2]; exact hce.mh⟩
              have hge := hn.le
              refine inner _ hQr (Nat.le_of_lt (key_lt (U := UL L) (by rw [k1]; omega))) (fun z hz hkz => ?_) _ (hback _ ((h.pull 1).drop.pull 1).drop)
              obtain ⟨c', hcm', h1, h3⟩ := (g7 z).1 hz
              have hzh : z / UL L ≤ k / UL L - 1 := by
                have h4 := Nat.div_le_div_right (c := UL L) hkz
                rcases Nat.lt_or_ge (z / UL L) (k / UL L) with h5 | h5
                · omega
                · have := hno z hz (by omega); omega
              have hl := hn.most (z / UL L) (by rw [← h1]; exact (g5 _).2 ⟨c', hcm', rfl⟩) hzh
              rcases Nat.lt_or_ge (z / UL L) h2 with h5 | h5
              · exact Nat.le_of_lt (key_lt (U := UL L) (by rw [k1]; exact h5))
              · have hce' : c' = c := map_inj g4 hcm' hcm (by rw [h1, hch]; omega)
                rw [hce'] at h3
                exact key_le (U := UL L) (by rw [k1]; omega) (by rw [k2]; exact (hce.all _ h3).2)
          · omega
        cases hcq : y.cl (k / UL L) with
        | none =>
          refine cond_f rfl ?_
          refine go (fun z hz hzk => ?_) R hd w h (fun _ h => h)
          obtain ⟨c, hcm, h1, _⟩ := (g7 z).1 hz
          have := (g6 (k / UL L) c.c).2 ⟨c, hcm, by rw [h1, hzk], rfl⟩
          rw [hcq] at this; cases this
        | some c =>
          refine cond_t rfl ?_
          obtain ⟨c, hcm, hch, rfl⟩ := (g6 _ _).1 hcq
          obtain ⟨_, yc, hyc, _⟩ := VR.self (g3 c hcm).1
          refine veb_read_spec h hyc fun w h => ?_
          refine alP.of h fun r2 w h => ?_
          refine stCs.of h (Nat.le_of_ble_eq_true rfl) (by simp [Value.oneCell']) fun w h => ?_
          refine lAu64_u64_i64_u64.of h (by rfl) ?_
          rcases wdt_half L with hw | hw
          · rw [hw]
            refine veb_ends_spec h ((tb_nz (tb_cl hd hy g1 hcq)).imp_left fun h => h.c.c.c) (by omega) (g3 c hcm).1 hyc fun clo chi w hce hclo hchi h => ?_
            refine cond_c (fun hc2 => ?_) fun hc2 => ?_
            · have hc2 : clo ≤ k % UL L := by simp only [ge_iff_le, decide_eq_true_eq] at hc2; omega
              refine lAu64_u64_i64_u64.of h (by rfl) ?_
              refine ih (by omega) (h.pull 2) ((tb_cl hd hy g1 hcq).imp_left fun h => h.c.c) (g3 c hcm).1 hyc (UL_mod _ _) ⟨clo, hce.ml, hc2⟩ fun r' w hn h => ?_
              have hr' := (VR.live (g3 c hcm).1).2.2.2 _ hn.mem
              refine veb_join_spec (by omega) hdiv hr' ?_
              obtain ⟨k1, k2⟩ := key_split (h := k / UL L) hr'
              have hge := hn.le
              refine inner _ ((g7 _).2 ⟨c, hcm, by rw [k1, hch], by rw [k2]; exact hn.mem⟩) (key_le (U := UL L) k1 (by rw [k2]; exact hge)) (fun z hz hkz => ?_) _ ((h.pull 1).drop.pull 1).drop
              obtain ⟨c', hcm', h1, h3⟩ := (g7 z).1 hz
              have h4 := Nat.div_le_div_right (c := UL L) hkz
              rcases Nat.lt_or_ge (z / UL L) (k / UL L) with h5 | h5
              · exact Nat.le_of_lt (key_lt (U := UL L) (by rw [k1]; exact h5))
              · have hzk : z / UL L = k / UL L := by omega
                have hce' : c' = c := map_inj g4 hcm' hcm (by rw [h1, hch, hzk])
                rw [hce'] at h3
                have hmz : z % UL L ≤ k % UL L := by
                  have q1 := Nat.div_add_mod k (UL L)
                  have q2 := Nat.div_add_mod z (UL L)
                  rw [hzk] at q2; omega
                exact key_le (U := UL L) (by rw [k1, hzk]) (by rw [k2]; exact hn.most _ h3 hmz)
            · have hc2 : k % UL L < clo := by simp only [ge_iff_le, decide_eq_false_iff_not] at hc2; omega
              have h := h.pull 2
              simp only [pullL] at h
              refine go (fun z hz hzk => ?_) (_ :: R) (hd.imp_left fun h => h.c) w ((h.pull 2)) (fun w' h' => (h'.pull 1).drop)
              obtain ⟨c', hcm', h1, h3⟩ := (g7 z).1 hz
              have hce' : c' = c := map_inj g4 hcm' hcm (by rw [h1, hch, hzk])
              rw [hce'] at h3
              exact key_lt' (U := UL L) hzk.symm (by have := (hce.all _ h3).1; omega)
          · omega
/-- the least inner key; the greatest one -/
theorem veb_first_spec {L : Nat} (hL : L ≤ 3) {i e : Nat} {Q : Nat → Prop} {ow : List Nat} {x : VSt} {y : VM} {w : World} {R : List HP} {K : Int → World → Prop} (h : Sat w (VebR v x :: R)) (hd : TbIn R) (hy : x.M i = some y)
    (hlev : y.lev = L + 1) (hin : IN (VR x.M L) L y.sum y.cl Q ow e) (hm : y.sum ≠ -1) (q : ∀ (r : Nat) w', Q r → (∀ z, Q z → r ≤ z) → Sat w' (VebR v x :: R) → K r w') : veb_VEB_first.C (some ⟨v, 0, none⟩) (i : Int) (wdt (L + 1) : Nat) w K := by
  obtain ⟨f, g, hR⟩ := VebR.rel h
  have hcl := hin.cl_lt hR
  have hU3 := UL_le hL
  apply veb_VEB_first.ok
  refine veb_see_spec h hy fun w h => ?_
  cases hin with
  | none h1 _ _ _ _ => exact absurd h1 hm
  | some s Ss os es cs g1 g2 g3 g4 g5 g6 g7 g8 g9 g10 =>
    rw [g1]
    obtain ⟨_, ys, hys, _⟩ := VR.self g2
    refine veb_see_spec h hys fun w h => ?_
    rcases wdt_half L with hw | hw
    · rw [hw]
      refine veb_ends_spec h (.inl hd.c) (by omega) g2 hys fun slo shi w hse hslo hshi h => ?_
      obtain ⟨c, hcm, hch⟩ := (g5 _).1 hse.ml
      have hcc := (g6 slo c.c).2 ⟨c, hcm, hch, rfl⟩
      refine veb_cluster_spec (q := slo) h hy (by omega) hlev (by omega) (fun c hc => hcl _ c hc) fun w h => ?_
      rw [hcc]
      obtain ⟨_, yc, hyc, _⟩ := VR.self (g3 c hcm).1
      refine veb_see_spec h hyc fun w h => ?_
      refine veb_ends_spec h (.inl hd.c) (by omega) (g3 c hcm).1 hyc fun clo chi w hce hclo hchi h => ?_
      refine veb_join_spec hL hslo hclo ?_
      obtain ⟨k1, k2⟩ := key_split (h := slo) hclo
      refine q _ _ ((g7 _).2 ⟨c, hcm, by rw [k1, hch], by rw [k2]; exact hce.ml⟩) (fun z hz => ?_) h
      obtain ⟨c', hcm', h1, h3⟩ := (g7 z).1 hz
      have hl := (hse.all (z / UL L) (by rw [← h1]; exact (g5 _).2 ⟨c', hcm', rfl⟩)).1
      rcases Nat.lt_or_ge slo (z / UL L) with h5 | h5
      · exact Nat.le_of_lt (key_lt (U := UL L) (by rw [k1]; exact h5))
      · have hce' : c' = c := map_inj g4 hcm' hcm (by rw [h1, hch]; omega)
        rw [hce'] at h3
        exact key_le (U := UL L) (by rw [k1]; omega) (by rw [k2]; exact (hce.all _ h3).1)
    · omega
theorem veb_last_spec {L : Nat} (hL : L ≤ 3) {i e : Nat} {Q : Nat → Prop} {ow : List Nat} {x : VSt} {y : VM} {w : World} {R : List HP} {K : Int → World → Prop} (h : Sat w (VebR v x :: R)) (hd : TbIn R) (hy : x.M i = some y)
    (hlev : y.lev = L + 1) (hin : IN (VR x.M L) L y.sum y.cl Q ow e) (hm : y.sum ≠ -1) (q : ∀ (r : Nat) w', Q r → (∀ z, Q z → z ≤ r) → Sat w' (VebR v x :: R) → K r w') : veb_VEB_last.C (some ⟨v, 0, none⟩) (i : Int) (wdt (L + 1) : Nat) w K := by
  obtain ⟨f, g, hR⟩ := VebR.rel h
  have hcl := hin.cl_lt hR
  have hU3 := UL_le hL
  apply veb_VEB_last.ok
  refine veb_see_spec h hy fun w h => ?_
  cases hin with
  | none h1 _ _ _ _ => exact absurd h1 hm
  | some s Ss os es cs g1 g2 g3 g4 g5 g6 g7 g8 g9 g10 =>
    rw [g1]
    obtain ⟨_, ys, hys, _⟩ := VR.self g2
    refine veb_see_spec h hys fun w h => ?_
    rcases wdt_half L with hw | hw
    · rw [hw]
      refine veb_ends_spec h (.inl hd.c) (by omega) g2 hys fun slo shi w hse hslo hshi h => ?_
      obtain ⟨c, hcm, hch⟩ := (g5 _).1 hse.mh
      have hcc := (g6 shi c.c).2 ⟨c, hcm, hch, rfl⟩
      refine veb_cluster_spec (q := shi) h hy (by omega) hlev (by omega) (fun c hc => hcl _ c hc) fun w h => ?_
      rw [hcc]
      obtain ⟨_, yc, hyc, _⟩ := VR.self (g3 c hcm).1
      refine veb_see_spec h hyc fun w h => ?_
      refine veb_ends_spec h (.inl hd.c) (by omega) (g3 c hcm).1 hyc fun clo chi w hce hclo hchi h => ?_
      refine veb_join_spec hL hshi hchi ?_
      obtain ⟨k1, k2⟩ := key_split (h := shi) hchi
      refine q _ _ ((g7 _).2 ⟨c, hcm, by rw [k1, hch], by rw [k2]; exact hce.mh⟩) (fun z hz => ?_) h
      obtain ⟨c', hcm', h1, h3⟩ := (g7 z).1 hz
      have hl := (hse.all (z / UL L) (by rw [← h1]; exact (g5 _).2 ⟨c', hcm', rfl⟩)).2
      rcases Nat.lt_or_ge (z / UL L) shi with h5 | h5
      · exact Nat.le_of_lt (key_lt (U := UL L) (by rw [k1]; exact h5))
      · have hce' : c' = c := map_inj g4 hcm' hcm (by rw [h1, hch]; omega)
        rw [hce'] at h3
        exact key_le (U := UL L) (by rw [k1]; omega) (by rw [k2]; exact (hce.all _ h3).2)
    · omega
end
end Go.St
