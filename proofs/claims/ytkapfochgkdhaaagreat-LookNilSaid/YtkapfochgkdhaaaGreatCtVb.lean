/- Contracts: trees that halve their bits: need, put. -/
import Derived.Test.YtkapfochgkdhaaaGreatCtV
namespace Go.St
open Go Go.Proofs
attribute [local irreducible] stP alP drP stCs lI64 lU64 lU8 lB lP lL lR AppV ClrV

theorem wdt_gt {L : Nat} : (decide (((wdt (L + 1) : Nat) : Int) ≤ 4)) = false := by
  have : wdt 1 ≤ wdt (L + 1) := Nat.pow_le_pow_right (by decide) (by omega)
  rw [show wdt 1 = 8 from rfl] at this
  simp; omega
theorem wdt_zero : (decide (((wdt 0 : Nat) : Int) ≤ 4)) = true := by decide
/-- facts of what lies inside a node -/
theorem IN.cl_lt {M : Nat → Option VM} {f : Nat → Option VNd} {g : Int → Int → Option Int} (hR : VRel f g M) {L : Nat} {sum : Int} {cl : Nat → Option Nat} {Q : Nat → Prop} {ow : List Nat} {e : Nat} (h : IN (VR M L) L sum cl Q ow e) :
    ∀ q c, cl q = Option.some c → c < 1048576 := by
  intro q c hc
  cases h with
  | none _ h2 _ _ _ => rw [h2] at hc; cases hc
  | some s Ss os es cs g1 g2 g3 g4 g5 g6 g7 g8 g9 g10 =>
    obtain ⟨d, hd, _, rfl⟩ := (g6 _ _).1 hc
    obtain ⟨_, y, hy, _⟩ := VR.self (g3 d hd).1
    exact hR.lt _ y hy
theorem IN.sum_lt {M : Nat → Option VM} {f : Nat → Option VNd} {g : Int → Int → Option Int} (hR : VRel f g M) {L : Nat} {sum : Int} {cl : Nat → Option Nat} {Q : Nat → Prop} {ow : List Nat} {e : Nat} (h : IN (VR M L) L sum cl Q ow e) :
    sum < 1048576 := by
  cases h with
  | none h1 _ _ _ _ => omega
  | some s Ss os es cs g1 g2 g3 g4 g5 g6 g7 g8 g9 g10 =>
    obtain ⟨_, y, hy, _⟩ := VR.self g2
    have := hR.lt _ y hy
    omega
theorem half_lt {L : Nat} (hL : L ≤ 3) {k : Nat} (hk : k < UL (L + 1)) : k / UL L < 4294967296 := Nat.lt_of_lt_of_le (UL_div hk) (UL_le hL)
theorem VebR.rel {w : World} {v : Nat} {x : VSt} {M : List HP} (h : Sat w (VebR v x :: M)) : ∃ f g, VRel f g x.M := by
  obtain ⟨m, t, f, g, hR, _⟩ := VebR.un h
  exact ⟨f, g, hR⟩
section
variable {v : Nat}
theorem veb_need_spec : ∀ (L : Nat), L ≤ 4 → ∀ {i k e : Nat} {S : Nat → Prop} {own : List Nat} {x : VSt} {w : World} {R : List HP} {K : Int → World → Prop}, Sat w (VebR v x :: R) → VR x.M L i S own e → k < UL L → ¬ S k →
    (∀ w', Sat w' (VebR v x :: R) → K (nd x.M L i k : Nat) w') → veb_VEB_need.C (some ⟨v, 0, none⟩) (i : Int) (wdt L : Nat) (k : Int) w K := by
  intro L
  induction L with
  | zero =>
    intro hL i k e S own x w R K h hV hk hS q
    obtain ⟨_, y, hy, _⟩ := VR.self hV
    apply veb_VEB_need.ok
    refine veb_see_spec h hy fun w h => ?_
    refine alP.of h fun r w h => ?_
    refine stCs.of h (Nat.le_of_ble_eq_true rfl) (by simp [Value.oneCell']) fun w h => ?_
    refine cond_t wdt_zero ?_
    exact q _ h.drop
  | succ L ih =>
    intro hL i k e S own x w R K h hV hk hS q
    obtain ⟨_, y, hy, _⟩ := VR.self hV
    obtain ⟨Q, ow, hlev, hbits, hle, hmx, hin, hQ, hSS, rfl, hni⟩ := VR.node hV hy
    obtain ⟨f, g, hR⟩ := VebR.rel h
    have hcl := hin.cl_lt hR
    have hsl := hin.sum_lt hR
    have hU4 := UL_le4 (show L + 1 ≤ 4 from hL)
    apply veb_VEB_need.ok
    refine veb_see_spec h hy fun w h => ?_
    refine alP.of h fun r w h => ?_
    refine stCs.of h (Nat.le_of_ble_eq_true rfl) (by simp [Value.oneCell']) fun w h => ?_
    refine cond_f wdt_gt ?_
    refine lAu64_u64_i64_u64.of h (by rfl) ?_
    refine veb_single_spec (x := y.nd) h fun w h => ?_
    have hnd : nd x.M (L + 1) i k = if y.mn = y.mx then 0 else
      match y.cl ((if k < y.mn then y.mn else if y.mx < k then y.mx else k) / UL L) with
      | some c => nd x.M L c ((if k < y.mn then y.mn else if y.mx < k then y.mx else k) % UL L)
      | none => if y.sum = -1 then 2 else 1 + nd x.M L y.sum.toNat ((if k < y.mn then y.mn else if y.mx < k then y.mx else k) / UL L) := by
      conv => lhs; unfold nd
      rw [hy]
      rfl
    refine cond_c (fun hs => ?_) fun hs => ?_
    · have hs : y.mn = y.mx := by simp [VM.nd] at hs; omega
      rw [hnd, if_pos hs] at q
      exact q _ h.drop
    · have hs : y.mn ≠ y.mx := by simp [VM.nd] at hs; omega
      rw [hnd, if_neg hs] at q
      -- the key that goes in
      have go : ∀ k' : Nat, k' < UL (L + 1) → ¬ Q k' → (∀ w', Sat w' (VebR v x :: R) → K (((match y.cl (k' / UL L) with
          | some c => nd x.M L c (k' % UL L)
          | none => if y.sum = -1 then 2 else 1 + nd x.M L y.sum.toNat (k' / UL L)) : Nat)) w') → ∀ w, Sat w (blk r [.int .u64 y.mn, .int .u64 y.mx, .int .i64 y.sum, .int .u64 y.bits] :: VebR v x :: R) →
          veb_VEB_need.T1 K (some ⟨v, 0, none⟩) (i : Int) (wdt (L + 1) : Nat) (k' : Int) r 0 w := by
        intro k' hk' hQ' q w h
        unfold veb_VEB_need.T1
        refine veb_high_spec (by omega) ?_
        refine veb_cluster_spec h hy (by omega) hlev (half_lt (by omega) hk') (fun c hc => hcl _ c hc) fun w h => ?_
        cases hc : y.cl (k' / UL L) with
        | some c =>
          rw [hc] at q
          refine cond_t rfl ?_
          refine veb_low_spec (by omega) (by omega) ?_
          rcases wdt_half L with hw | hw
          · rw [hw]
            cases hin with
            | none _ h2 _ _ _ => rw [h2] at hc; cases hc
            | some s Ss os es cs g1 g2 g3 g4 g5 g6 g7 g8 g9 g10 =>
              obtain ⟨d, hd, hdh, rfl⟩ := (g6 _ _).1 hc
              refine ih (by omega) (h.pull 1) (g3 d hd).1 (UL_mod _ _) (fun hS' => hQ' ((g7 _).2 ⟨d, hd, hdh, hS'⟩)) fun w h => ?_
              exact q _ ((h.pull 1).drop)
          · omega
        | none =>
          rw [hc] at q
          refine cond_f rfl ?_
          refine lI64.of h (by rfl) ?_
          refine cond_c (fun hm => ?_) fun hm => ?_
          · have hm : y.sum = -1 := by simpa using hm
            simp only [hm, if_true] at q
            exact q _ h.drop
          · have hm : y.sum ≠ -1 := by simpa using hm
            simp only [if_neg hm] at q
            refine drP.of h fun w h => ?_
            refine lI64.of h (by rfl) ?_
            refine veb_high_spec (by omega) ?_
            refine ⟨Foc.cells inferInstance h (by rfl), ?_⟩
            cases hin with
            | none h1 _ _ _ _ => exact absurd h1 hm
            | some s Ss os es cs g1 g2 g3 g4 g5 g6 g7 g8 g9 g10 =>
              rcases wdt_half L with hw | hw
              · rw [hw]
                rw [g1] at q ⊢
                rw [Int.toNat_natCast] at q
                refine ih (by omega) (h.pull 1) g2 (UL_div hk') (fun hS' => ?_) fun w h => ?_
                · obtain ⟨d, hd, hdh⟩ := (g5 _).1 hS'
                  have := (g6 (k' / UL L) d.c).2 ⟨d, hd, hdh, rfl⟩
                  rw [hc] at this; cases this
                · have hnl := nd_le x.M L s (k' / UL L)
                  rw [w64_id (by omega) (by omega)]
                  have := q _ ((h.pull 1).drop)
                  rw [show ((1 + nd x.M L s (k' / UL L) : Nat) : Int) = 1 + ((nd x.M L s (k' / UL L) : Nat) : Int) by omega] at this
                  exact this
              · omega
      have hnmn : ¬ Q y.mn := fun hq => by have := hQ _ hq; omega
      have hnmx : ¬ Q y.mx := fun hq => by have := hQ _ hq; omega
      refine lU64.of h (by rfl) ?_
      refine cond_c (fun h1 => ?_) fun h1 => ?_
      · have h1 : k < y.mn := by simpa using h1
        rw [if_pos h1] at q
        refine lU64.of h (by rfl) ?_
        exact go y.mn (by omega) hnmn q w h
      · have h1 : ¬ k < y.mn := by simpa using h1
        rw [if_neg h1] at q
        refine lU64.of h (by rfl) ?_
        refine cond_c (fun h2 => ?_) fun h2 => ?_
        · have h2 : y.mx < k := by simpa using h2
          rw [if_pos h2] at q
          refine lU64.of h (by rfl) ?_
          exact go y.mx hmx hnmx q w h
        · have h2 : ¬ y.mx < k := by simpa using h2
          rw [if_neg h2] at q
          exact go k hk (fun hq => hS ((hSS k).2 (.inr (.inr hq)))) q w h

/-! ### one step of a change -/
theorem veb_putn {x : VSt} {w : World} {R : List HP} {r i a b d : Nat} {s : Int} {y y' : VM} {K : World → Prop} (h : Sat w (blk r [.int .u64 a, .int .u64 b, .int .i64 s, .int .u64 d] :: VebR v x :: R)) (hy : x.M i = some y)
    (h1 : y'.lev = y.lev) (h2 : y'.cl = y.cl) (h3 : y'.nd = ⟨a, b, s, d⟩) (k : ∀ w', Sat w' (blk r [.int .u64 a, .int .u64 b, .int .i64 s, .int .u64 d] :: VebR v { x with M := Pl.up x.M i (some y') } :: R) → K w') :
    drP w fun W => nn (some ⟨v, 0, none⟩) fun b o => lP W b (o + 1) fun p => lAu64_u64_i64_u64 W r 0 fun n1 n2 n3 n4 => pool_Pool_veb_node_Put.C p (i : Int) n1 n2 n3 n4 W fun _ W1 => K W1 := by
  refine drP.of h fun w h => ?_
  obtain ⟨m, t, f, g, hR, h⟩ := VebR.un (h.pull 1)
  refine lP.of h (by rfl) ?_
  refine lAu64_u64_i64_u64.of h (by rfl) ?_
  have hf : (Pl.mk (T := VNd) m f x.n x.lim).at (i : Int) = some y.nd := by simp [Pl.at, hR.f, hy]
  refine pool_Pool_veb_node_Put_spec (x := y'.nd) (by exact h) (fun h0 => by rw [hf] at h0; cases h0) (fun u _ w h => ?_) |> fun z => by rw [h3] at z; exact z
  have := VebR.mk (x := { x with M := Pl.up x.M i (some y') }) (hR.put hy h1 h2) (by simpa using h)
  exact k _ (this.pull 1)
theorem veb_allocn {x : VSt} {w : World} {R : List HP} {L q : Nat} {K : Int → Bool → World → Prop} (h : Sat w (VebR v x :: R)) (hL : L ≤ 3) (hq : q < UL L) (hn : x.n < x.lim)
    (k : ∀ (c : Nat) w', x.M c = none → c < 1048576 → Sat w' (VebR v { x with M := Pl.up x.M c (some (freshM L q)), n := x.n + 1 } :: R) → K c true w') :
    drP w fun W => nn (some ⟨v, 0, none⟩) fun b o => lP W b (o + 1) fun p => veb_fresh.C (q : Int) (w64 (Int.tdiv ((wdt (L + 1) : Nat) : Int) 2)) W fun n1 n2 n3 n4 W1 => cellsAre W1 b (o + 1) [.pointer p] ∧ pool_Pool_veb_node_Alloc.C p n1 n2 n3 n4 W1 K := by
  refine drP.of h fun w h => ?_
  obtain ⟨m, t, f, g, hR, h⟩ := VebR.un h
  refine lP.of h (by rfl) ?_
  rcases wdt_half L with hw | hw
  · rw [hw]
    refine veb_fresh_spec h (by omega) hq fun w h => ?_
    refine ⟨Foc.cells inferInstance h (by rfl), ?_⟩
    refine pool_Pool_veb_node_Alloc_spec (s := ⟨m, f, x.n, x.lim⟩) (x := (freshM L q).nd) (by exact h) (fun h0 => absurd hn (by have : x.lim ≤ x.n := h0; omega)) fun _ c w hc hlt h => ?_
    obtain ⟨hM, hR'⟩ := hR.alloc (y' := freshM L q) hlt hc (fun h => by unfold freshM; split <;> rfl)
    exact k c w hM hlt (VebR.mk (x := { x with M := Pl.up x.M c (some (freshM L q)), n := x.n + 1 }) hR' h)
  · omega
theorem veb_tput {x : VSt} {w : World} {R : List HP} {L i q c : Nat} {y : VM} {K : World → Prop} (h : Sat w (VebR v x :: R)) (hy : x.M i = some y) (hL : L ≤ 4) (hl : y.lev = L) (hq : q < 4294967296) (hc : c < 1048576) (hcl : y.cl q = none) (hnt : x.nt < 2 ^ 30)
    (k : ∀ w', Sat w' (VebR v { x with M := Pl.up x.M i (some (y.setCl q (some c))), nt := x.nt + 1 } :: R) → K w') :
    drP w fun W => nn (some ⟨v, 0, none⟩) fun b o => lP W b (o + 2) fun p => veb_key.C (i : Int) (wdt L : Nat) (q : Int) W fun n1 n2 W1 => cellsAre W1 b (o + 2) [.pointer p] ∧ hash_Table_Put.C p n1 n2 (wu64 (c : Int)) W1 fun _ W2 => K W2 := by
  refine drP.of h fun w h => ?_
  obtain ⟨m, t, f, g, hR, h⟩ := VebR.un h
  refine lP.of h (by rfl) ?_
  have hn := hR.lt i y hy
  refine veb_key_spec h hL hn hq fun w h => ?_
  refine ⟨Foc.cells inferInstance h (by rfl), ?_⟩
  rw [wu64_id (by omega) (by omega)]
  have hg := hR.g L i q hn hq
  rw [hy] at hg
  simp only [hl, if_true, hcl, Option.map_none] at hg
  have hR' := hR.tab hy hq (some c)
  rw [hl] at hR'
  refine hash_Put_spec (s := ⟨m, g, x.nt⟩) h hnt (fun u w hu _ => by have hu : g (wdt L : Nat) ((i * 4294967296 + q : Nat)) = some u := hu; rw [hg] at hu; cases hu) fun w _ h => ?_
  exact k w (VebR.mk (x := { x with M := Pl.up x.M i (some (y.setCl q (some c))), nt := x.nt + 1 }) hR' h)

/-- what putting a key does to a tree -/
structure PutPost (L i : Nat) (S : Nat → Prop) (own : List Nat) (e k : Nat) (M : Nat → Option VM) (n nt : Nat) (M' : Nat → Option VM) (n' nt' : Nat) (own' : List Nat) (e' : Nat) : Prop where
  vr : VR M' L i (fun y => S y ∨ y = k) own' e'
  f1 : ∀ j, j ∉ own → M j ≠ none → M' j = M j
  f2 : ∀ j ∈ own', j ∈ own ∨ M j = none
  cn : n' + own.length = n + own'.length
  ct : nt' + e = nt + e'
  nb : nt' ≤ nt + L
theorem up_same {T : Type} {M : Nat → Option T} {i : Nat} {o : Option T} : Pl.up M i o i = o := by simp [Pl.up]
theorem up_ne {T : Type} {M : Nat → Option T} {i j : Nat} {o : Option T} (h : j ≠ i) : Pl.up M i o j = M j := by simp [Pl.up, h]
theorem fresh_vr {M : Nat → Option VM} {L c q : Nat} (hq : q < UL L) (hM : M c = some (freshM L q)) : VR M L c (fun y => y = q) [c] 0 := by
  cases L with
  | zero =>
    rw [UL_zero] at hq
    refine ⟨_, hM, rfl, rfl, rfl, rfl, fun _ => rfl, ?_, ?_, fun k => ?_, rfl, rfl⟩
    · show 2 ^ q ≠ 0; have := Nat.two_pow_pos q; omega
    · show 2 ^ q < 65536
      have : 2 ^ q ≤ 2 ^ 15 := Nat.pow_le_pow_right (by decide) (by omega)
      omega
    · show k = q ↔ (2 ^ q).testBit k = true
      rw [Nat.testBit_two_pow]; simp [eq_comm]
  | succ L =>
    refine ⟨_, fun _ => False, [], hM, rfl, rfl, Nat.le_refl _, hq, .none rfl (fun _ => rfl) (fun _ h => h) rfl rfl, fun y h => h.elim, fun k => ?_, rfl, by simp⟩
    show k = q ↔ k = q ∨ k = q ∨ False
    simp
theorem map_inj {α β : Type} {f : α → β} : ∀ {l : List α}, (l.map f).Nodup → ∀ {a b : α}, a ∈ l → b ∈ l → f a = f b → a = b
  | [], _, _, _, ha, _, _ => by cases ha
  | x :: l, hn, a, b, ha, hb, he => by
    rw [List.map_cons, List.nodup_cons] at hn
    rcases List.mem_cons.1 ha with e1 | ha1
    · rcases List.mem_cons.1 hb with e2 | hb1
      · rw [e1, e2]
      · exact absurd (List.mem_map.2 ⟨b, hb1, by rw [← he, e1]⟩) hn.1
    · rcases List.mem_cons.1 hb with e2 | hb1
      · exact absurd (List.mem_map.2 ⟨a, ha1, by rw [he, e2]⟩) hn.1
      · exact map_inj hn.2 ha1 hb1 he
theorem veb_put_spec : ∀ (L : Nat), L ≤ 4 → ∀ {i k e : Nat} {S : Nat → Prop} {own : List Nat} {x : VSt} {w : World} {R : List HP} {K : World → Prop}, Sat w (VebR v x :: R) → VR x.M L i S own e → k < UL L → ¬ S k →
    x.n + nd x.M L i k ≤ x.lim → x.nt + L < 2 ^ 30 →
    (∀ M' n' nt' own' e' w', PutPost L i S own e k x.M x.n x.nt M' n' nt' own' e' → Sat w' (VebR v { x with M := M', n := n', nt := nt' } :: R) → K w') → veb_VEB_put.C (some ⟨v, 0, none⟩) (i : Int) (wdt L : Nat) (k : Int) w K := by
  intro L
  induction L with
  | zero =>
    intro hL i k e S own x w R K h hV hk hS hn hnt q
    obtain ⟨_, y, hy, _⟩ := VR.self hV
    obtain ⟨h1, h2, h3, h4, h5, h6, h7, h8, rfl, rfl⟩ := VR.word hV hy
    rw [UL_zero] at hk
    apply veb_VEB_put.ok
    refine veb_see_spec h hy fun w h => ?_
    refine alP.of h fun r w h => ?_
    refine stCs.of h (Nat.le_of_ble_eq_true rfl) (by simp [Value.oneCell']) fun w h => ?_
    refine cond_t wdt_zero ?_
    refine lU64.of h (by rfl) ?_
    rw [w64_id (by omega) (by omega)]
    refine bit_Set_spec (by omega) ?_
    refine stP.of h (Nat.le_of_ble_eq_true rfl) fun w h => ?_
    have e1 : oneN (k : Int) = 2 ^ k := by unfold oneN; rw [if_pos (by omega)]; simp
    have hp : 2 ^ k ≤ 2 ^ 15 := Nat.pow_le_pow_right (by decide) (by omega)
    have hor : y.bits ||| 2 ^ k < 65536 := Nat.or_lt_two_pow (n := 16) h7 (by omega)
    rw [e1] at h
    refine veb_putn (y' := { y with bits := y.bits ||| 2 ^ k }) (a := y.mn) (b := y.mx) (s := y.sum) (d := y.bits ||| 2 ^ k) h hy rfl rfl rfl fun w h => ?_
    refine q (Pl.up x.M i (some { y with bits := y.bits ||| 2 ^ k })) x.n x.nt [i] 0 w ⟨?_, ?_, ?_, rfl, rfl, Nat.le_refl _⟩ h.drop
    · refine ⟨_, up_same, h1, h2, h3, h4, h5, ?_, hor, fun j => ?_, rfl, rfl⟩
      · intro e
        have : (y.bits ||| 2 ^ k).testBit k = true := by rw [Nat.testBit_or, Nat.testBit_two_pow_self, Bool.or_true]
        rw [show (y.bits ||| 2 ^ k) = 0 from e, Nat.zero_testBit] at this; cases this
      · show S j ∨ j = k ↔ (y.bits ||| 2 ^ k).testBit j = true
        rw [Nat.testBit_or, Nat.testBit_two_pow, h8]
        simp only [Bool.or_eq_true, decide_eq_true_eq]; exact or_congr Iff.rfl eq_comm
    · intro j hj _; rw [up_ne]; simpa using hj
    · intro j hj; exact .inl hj
  | succ L ih =>
    intro hL i k e S own x w R K h hV hk hS hn hnt q
    obtain ⟨_, y, hy, _⟩ := VR.self hV
    obtain ⟨Q, ow, hlev, hbits, hle, hmx, hin, hQ, hSS, rfl, hni⟩ := VR.node hV hy
    obtain ⟨f, g, hR⟩ := VebR.rel h
    have hcl := hin.cl_lt hR
    have hlive := (VR.live hV).1
    have hU4 := UL_le4 (show L + 1 ≤ 4 from hL)
    have hU3 := UL_le (show L ≤ 3 by omega)
    have how : ∀ j ∈ ow, x.M j ≠ none ∧ j ≠ i := fun j hj => ⟨hlive j (List.mem_cons_of_mem _ hj), fun e => hni (e ▸ hj)⟩
    apply veb_VEB_put.ok
    refine veb_see_spec h hy fun w h => ?_
    refine alP.of h fun r w h => ?_
    refine stCs.of h (Nat.le_of_ble_eq_true rfl) (by simp [Value.oneCell']) fun w h => ?_
    refine cond_f wdt_gt ?_
    refine lAu64_u64_i64_u64.of h (by rfl) ?_
    refine veb_single_spec (x := y.nd) h fun w h => ?_
    have hnd : nd x.M (L + 1) i k = if y.mn = y.mx then 0 else
      match y.cl ((if k < y.mn then y.mn else if y.mx < k then y.mx else k) / UL L) with
      | some c => nd x.M L c ((if k < y.mn then y.mn else if y.mx < k then y.mx else k) % UL L)
      | none => if y.sum = -1 then 2 else 1 + nd x.M L y.sum.toNat ((if k < y.mn then y.mn else if y.mx < k then y.mx else k) / UL L) := by
      conv => lhs; unfold nd
      rw [hy]
      rfl
    rw [hnd] at hn
    refine cond_c (fun hs => ?_) fun hs => ?_
    · have hs : y.mn = y.mx := by simp [VM.nd] at hs; omega
      refine lU64.of h (by rfl) ?_
      refine lU64.of h (by rfl) ?_
      refine stP.of h (Nat.le_of_ble_eq_true rfl) fun w h => ?_
      refine stP.of h (Nat.le_of_ble_eq_true rfl) fun w h => ?_
      have e1 : mnI (y.mn : Int) (k : Int) = ((min y.mn k : Nat) : Int) := by unfold mnI; split <;> omega
      have e2 : mxI (y.mx : Int) (k : Int) = ((max y.mx k : Nat) : Int) := by unfold mxI; split <;> omega
      rw [e1, e2] at h
      refine veb_putn (y' := { y with mn := min y.mn k, mx := max y.mx k }) (a := min y.mn k) (b := max y.mx k) (s := y.sum) (d := y.bits) h hy rfl rfl rfl fun w h => ?_
      have hQe : ∀ z, ¬ Q z := fun z hz => by have := hQ z hz; omega
      refine q _ _ _ (i :: ow) e w ⟨?_, ?_, fun j hj => .inl hj, rfl, rfl, by omega⟩ h.drop
      · refine ⟨_, Q, ow, up_same, hlev, hbits, ?_, ?_, ?_, fun z hz => absurd hz (hQe z), fun z => ?_, rfl, hni⟩
        · show min y.mn k ≤ max y.mx k; omega
        · show max y.mx k < UL (L + 1); omega
        · exact hin.mono fun c S' own' e' hsub hr => hr.frame fun j hj => up_ne (how j (hsub j hj)).2
        · show S z ∨ z = k ↔ z = min y.mn k ∨ z = max y.mx k ∨ Q z
          rw [hSS]
          have := hQe z
          simp only [this, or_false]; omega
      · intro j hj _; rw [up_ne]; intro e; exact hj (by simp [e])
    · have hs : y.mn ≠ y.mx := by simp [VM.nd] at hs; omega
      rw [if_neg hs] at hn
      -- the key that goes inside
      have go : ∀ (k' a b : Nat), k' < UL (L + 1) → ¬ Q k' → b < UL (L + 1) → a < k' → k' < b → (∀ z, Q z → a < z ∧ z < b) → (∀ z, (S z ∨ z = k) ↔ z = a ∨ z = b ∨ Q z ∨ z = k') →
          x.n + (match y.cl (k' / UL L) with
          | some c => nd x.M L c (k' % UL L)
          | none => if y.sum = -1 then 2 else 1 + nd x.M L y.sum.toNat (k' / UL L)) ≤ x.lim → ∀ w, Sat w (blk r [.int .u64 a, .int .u64 b, .int .i64 y.sum, .int .u64 y.bits] :: VebR v x :: R) →
          veb_VEB_put.T1 K (some ⟨v, 0, none⟩) (i : Int) (wdt (L + 1) : Nat) (k' : Int) r 0 w := by
        intro k' a b hk' hQ' hb hak hkb hQab hSab hn w h
        unfold veb_VEB_put.T1
        have hdiv := UL_div hk'
        have hmod := UL_mod L k'
        have hQk : ∀ z, (Q z ∨ z = k') ↔ (z / UL L = k' / UL L ∧ z % UL L = k' % UL L) ∨ Q z := fun z => by
          constructor
          · rintro (hz | rfl)
            · exact .inr hz
            · exact .inl ⟨rfl, rfl⟩
          · rintro (⟨h1, h2⟩ | hz)
            · right; rw [← Nat.div_add_mod z (UL L), h1, h2, Nat.div_add_mod]
            · exact .inl hz
        refine veb_high_spec (by omega) ?_
        refine veb_low_spec (by omega) (by omega) ?_
        refine veb_cluster_spec h hy (by omega) hlev (half_lt (by omega) hk') (fun c hc => hcl _ c hc) fun w h => ?_
        cases hc : y.cl (k' / UL L) with
        | some c =>
          rw [hc] at hn
          refine cond_t rfl ?_
          refine veb_putn (y' := { y with mn := a, mx := b }) (a := a) (b := b) (s := y.sum) (d := y.bits) h hy rfl rfl rfl fun w h => ?_
          have hM1 : ∀ j ∈ ow, Pl.up x.M i (some { y with mn := a, mx := b }) j = x.M j := fun j hj => up_ne (how j hj).2
          rcases wdt_half L with hw | hw
          · rw [hw]
            cases hin with
            | none _ h2 _ _ _ => rw [h2] at hc; cases hc
            | some s Ss os es cs g1 g2 g3 g4 g5 g6 g7 g8 g9 g10 =>
              obtain ⟨d, hd, hdh, rfl⟩ := (g6 _ _).1 hc
              obtain ⟨A, B, rfl⟩ := List.append_of_mem hd
              have hdow : ∀ j ∈ d.own, j ∈ ow := fun j hj => by rw [g8]; exact List.mem_append_right _ (List.mem_flatMap.2 ⟨d, hd, hj⟩)
              have hdV := (g3 d hd).1.frame (M' := Pl.up x.M i (some { y with mn := a, mx := b })) fun j hj => hM1 j (hdow j hj)
              refine ih (by omega) (x := { x with M := Pl.up x.M i (some { y with mn := a, mx := b }) }) (h.pull 1) hdV hmod (fun hS' => hQ' ((g7 _).2 ⟨d, hd, hdh, hS'⟩)) ?_ (by show x.nt + L < 2 ^ 30; omega) fun M2 n2 nt2 own2 e2 w pp h => ?_
              · show x.n + nd (Pl.up x.M i (some { y with mn := a, mx := b })) L d.c (k' % UL L) ≤ x.lim
                rw [nd_frame (g3 d hd).1 fun j hj => hM1 j (hdow j hj)]; exact hn
              · have pp : PutPost L d.c d.S d.own d.e (k' % UL L) (Pl.up x.M i (some { y with mn := a, mx := b })) x.n x.nt M2 n2 nt2 own2 e2 := pp
                have hup : ∀ j, j ∉ d.own → j ≠ i → x.M j ≠ none → M2 j = x.M j := fun j h1 h2 h3 => by
                  rw [pp.f1 j h1 (by rw [up_ne h2]; exact h3), up_ne h2]
                have hin2 := in_set (c' := ⟨d.h, d.c, fun z => d.S z ∨ z = k' % UL L, own2, e2⟩) g1 g2 g3 g4 g5 g6 g7 g8 g9 g10 (R' := VR M2 L)
                  (fun c' S' own' e' hsub hr => hr.frame fun j hj => hup j (hsub j hj).2 (how j (hsub j hj).1).2 (how j (hsub j hj).1).1) pp.vr rfl rfl (VR.live pp.vr).2.1
                  (fun j hj => by
                    rcases pp.f2 j hj with h1 | h1
                    · exact .inl h1
                    · right; intro hjo; rw [hM1 j hjo] at h1; exact (how j hjo).1 h1) (Q' := fun z => Q z ∨ z = k') (fun z => by
                    rw [hQk]
                    constructor
                    · rintro (⟨h1, h2⟩ | hz)
                      · exact .inl ⟨by rw [h1, hdh], .inr h2⟩
                      · by_cases hzh : z / UL L = d.h
                        · obtain ⟨d', hd', h1, h2⟩ := (g7 z).1 hz
                          have : d' = d := map_inj g4 hd' hd (by rw [h1, hzh])
                          rw [this] at h2
                          exact .inl ⟨hzh, .inl h2⟩
                        · exact .inr ⟨hzh, hz⟩
                    · rintro (⟨h1, h2 | h2⟩ | ⟨_, hz⟩)
                      · exact .inr ((g7 z).2 ⟨d, hd, h1.symm, h2⟩)
                      · exact .inl ⟨by rw [h1, hdh], h2⟩
                      · exact .inr hz)
                have hi2 : M2 i = some { y with mn := a, mx := b } := by
                  rw [pp.f1 i (fun hid => hni (hdow i hid)) (by rw [up_same]; simp), up_same]
                refine q M2 n2 nt2 _ _ w ⟨⟨_, _, _, hi2, hlev, hbits, by show a ≤ b; omega, hb, hin2, ?_, ?_, rfl, ?_⟩, ?_, ?_, ?_, ?_, by have := pp.nb; omega⟩ (h.pull 1).drop
                · rintro z (hz | rfl)
                  · exact hQab z hz
                  · exact ⟨hak, hkb⟩
                · intro z; exact hSab z
                · intro hmem
                  simp only [List.flatMap_append, List.flatMap_cons, List.mem_append, g8] at hmem hni
                  rcases hmem with h1 | h1 | h1 | h1
                  · exact hni (.inl h1)
                  · exact hni (.inr (.inl h1))
                  · rcases pp.f2 i h1 with h2 | h2
                    · exact hni (.inr (.inr (.inl h2)))
                    · rw [up_same] at h2; cases h2
                  · exact hni (.inr (.inr (.inr h1)))
                · intro j hj hne
                  have hji : j ≠ i := fun e => hj (by simp [e])
                  exact hup j (fun hjd => hj (List.mem_cons_of_mem _ (hdow j hjd))) hji hne
                · intro j hj
                  simp only [List.flatMap_append, List.flatMap_cons, List.mem_cons, List.mem_append, g8] at hj ⊢
                  rcases hj with h1 | h1 | h1 | h1 | h1
                  · exact .inl (.inl h1)
                  · exact .inl (.inr (.inl h1))
                  · exact .inl (.inr (.inr (.inl h1)))
                  · rcases pp.f2 j h1 with h2 | h2
                    · exact .inl (.inr (.inr (.inr (.inl h2))))
                    · right
                      by_cases hji : j = i
                      · subst hji; rw [up_same] at h2; cases h2
                      · rw [up_ne hji] at h2; exact h2
                  · exact .inl (.inr (.inr (.inr (.inr h1))))
                · have := pp.cn
                  simp only [g8, List.length_cons, List.length_append, List.flatMap_append, List.flatMap_cons] at this ⊢
                  omega
                · have := pp.ct
                  simp only [g10, List.length_cons, List.length_append, List.map_append, List.map_cons, List.sum_append, List.sum_cons] at this ⊢
                  omega
          · omega
        | none =>
          rw [hc] at hn
          refine cond_f rfl ?_
          have hnl : x.n < x.lim := by
            have : 1 ≤ (match (none : Option Nat) with
              | some c => nd x.M L c (k' % UL L)
              | none => if y.sum = -1 then 2 else 1 + nd x.M L y.sum.toNat (k' / UL L)) := by
              show 1 ≤ if y.sum = -1 then 2 else 1 + nd x.M L y.sum.toNat (k' / UL L)
              split <;> omega
            omega
          refine veb_allocn (h.pull 1) (by omega) hmod hnl fun c w hMc hclt h => ?_
          have hci : c ≠ i := fun e => by rw [e, hy] at hMc; cases hMc
          have hcow : c ∉ ow := fun hj => (how c hj).1 hMc
          have hy1 : (Pl.up x.M c (some (freshM L (k' % UL L)))) i = some y := by rw [up_ne (Ne.symm hci)]; exact hy
          refine veb_tput h hy1 (by omega) hlev (half_lt (by omega) hk') hclt hc (by show x.nt < 2 ^ 30; omega) fun w h => ?_
          have h := h.pull 1
          simp only [pullL] at h
          refine lI64.of h (by rfl) ?_
          refine cond_c (fun hm => ?_) fun hm => ?_
          · have hm : y.sum = -1 := by simpa using hm
            simp only [hm, if_true] at hn
            refine veb_allocn (h.pull 1) (by omega) hdiv (by show x.n + 1 < x.lim; omega) fun s w hMs hslt h => ?_
            have hMs : Pl.up (Pl.up x.M c (some (freshM L (k' % UL L)))) i (some (y.setCl (k' / UL L) (some c))) s = none := hMs
            have hsi : s ≠ i := fun e => by rw [e, up_same] at hMs; cases hMs
            have hsc : s ≠ c := fun e => by rw [e, up_ne hci, up_same] at hMs; cases hMs
            have hMs0 : x.M s = none := by rw [up_ne hsi, up_ne hsc] at hMs; exact hMs
            have h := h.pull 1
            simp only [pullL] at h
            refine stP.of h (Nat.le_of_ble_eq_true rfl) fun w h => ?_
            refine veb_putn (y' := { (y.setCl (k' / UL L) (some c)) with mn := a, mx := b, sum := s }) (a := a) (b := b) (s := s) (d := y.bits) h (i := i) (y := y.setCl (k' / UL L) (some c)) (by show Pl.up _ _ _ i = _; rw [up_ne (Ne.symm hsi), up_same]) rfl rfl rfl fun w h => ?_
            generalize hM4 : Pl.up (Pl.up (Pl.up (Pl.up x.M c (some (freshM L (k' % UL L)))) i (some (y.setCl (k' / UL L) (some c)))) s (some (freshM L (k' / UL L)))) i (some { (y.setCl (k' / UL L) (some c)) with mn := a, mx := b, sum := s }) = M4 at h
            have f4 : ∀ j, j ≠ i → j ≠ s → j ≠ c → M4 j = x.M j := fun j h1 h2 h3 => by rw [← hM4, up_ne h1, up_ne h2, up_ne h1, up_ne h3]
            have hM4i : M4 i = some { (y.setCl (k' / UL L) (some c)) with mn := a, mx := b, sum := s } := by rw [← hM4, up_same]
            have hM4s : M4 s = some (freshM L (k' / UL L)) := by rw [← hM4, up_ne hsi, up_same]
            have hM4c : M4 c = some (freshM L (k' % UL L)) := by rw [← hM4, up_ne hci, up_ne (Ne.symm hsc), up_ne hci, up_same]
            cases hin with
            | some s' _ _ _ _ g1 => omega
            | none _ h2 h3 h4 h5 =>
              subst h4 h5
              have hin2 := in_add (R' := VR M4 L) (L := L) (cs := []) (c := ⟨k' / UL L, c, fun z => z = k' % UL L, [c], 0⟩) (cl' := (y.setCl (k' / UL L) (some c)).cl) (s' := s) (Ss' := fun z => z = k' / UL L) (os' := [s]) (es' := 0) (Q := Q) (Q' := fun z => Q z ∨ z = k')
                (fun d hd => by simp at hd) (by simp) (fun z => by simp) (fun z j => by
                  simp only [VM.setCl]
                  by_cases hz : z = k' / UL L
                  · simp [hz, eq_comm]
                  · simp [hz, h2]) (fun z => by simp [h3 z]) (fresh_vr hdiv hM4s) (fresh_vr hmod hM4c) hdiv (fun d hd => by simp at hd) (by simp; exact hsc) (fun z => hQk z)
              refine q M4 (x.n + 1 + 1) (x.nt + 1) _ _ w ⟨⟨_, _, _, hM4i, hlev, hbits, by show a ≤ b; omega, hb, hin2, ?_, ?_, rfl, ?_⟩, ?_, ?_, ?_, ?_, by omega⟩ h.drop
              · rintro z (hz | rfl)
                · exact hQab z hz
                · exact ⟨hak, hkb⟩
              · intro z; exact hSab z
              · simp; exact ⟨Ne.symm hsi, Ne.symm hci⟩
              · intro j hj hne
                have hji : j ≠ i := fun e => hj (by simp [e])
                exact f4 j hji (fun e => hne (by rw [e]; exact hMs0)) (fun e => hne (by rw [e]; exact hMc))
              · intro j hj
                simp at hj
                rcases hj with rfl | rfl | rfl
                · exact .inl (by simp)
                · exact .inr hMs0
                · exact .inr hMc
              · simp
              · simp
          · have hm : y.sum ≠ -1 := by simpa using hm
            simp only [if_neg hm] at hn
            refine veb_putn (y' := { (y.setCl (k' / UL L) (some c)) with mn := a, mx := b }) (a := a) (b := b) (s := y.sum) (d := y.bits) h (i := i) (y := y.setCl (k' / UL L) (some c)) up_same rfl rfl rfl fun w h => ?_
            refine lI64.of h (by rfl) ?_
            generalize hM3 : Pl.up (Pl.up (Pl.up x.M c (some (freshM L (k' % UL L)))) i (some (y.setCl (k' / UL L) (some c)))) i (some { (y.setCl (k' / UL L) (some c)) with mn := a, mx := b }) = M3 at h
            have f3 : ∀ j, j ≠ i → j ≠ c → M3 j = x.M j := fun j h1 h3 => by rw [← hM3, up_ne h1, up_ne h1, up_ne h3]
            have hM3i : M3 i = some { (y.setCl (k' / UL L) (some c)) with mn := a, mx := b } := by rw [← hM3, up_same]
            have hM3c : M3 c = some (freshM L (k' % UL L)) := by rw [← hM3, up_ne hci, up_ne hci, up_same]
            cases hin with
            | none h1 _ _ _ _ => exact absurd h1 hm
            | some s Ss os es cs g1 g2 g3 g4 g5 g6 g7 g8 g9 g10 =>
              have hos : ∀ j ∈ os, j ∈ ow := fun j hj => by rw [g8]; exact List.mem_append_left _ hj
              have hcs : ∀ d ∈ cs, ∀ j ∈ d.own, j ∈ ow := fun d hd j hj => by rw [g8]; exact List.mem_append_right _ (List.mem_flatMap.2 ⟨d, hd, hj⟩)
              have fow : ∀ j ∈ ow, M3 j = x.M j := fun j hj => f3 j (how j hj).2 (fun e => hcow (e ▸ hj))
              have hnoh : ¬ Ss (k' / UL L) := fun hS' => by
                obtain ⟨d, hd, hdh⟩ := (g5 _).1 hS'
                have := (g6 (k' / UL L) d.c).2 ⟨d, hd, hdh, rfl⟩
                rw [hc] at this; cases this
              rw [g1] at hn ⊢
              rw [Int.toNat_natCast] at hn
              rcases wdt_half L with hw | hw
              · rw [hw]
                refine ih (by omega) (x := { x with M := M3, n := x.n + 1, nt := x.nt + 1 }) (h.pull 1) (g2.frame fun j hj => fow j (hos j hj)) hdiv hnoh ?_ (by show x.nt + 1 + L < 2 ^ 30; omega) fun M2 n2 nt2 own2 e2 w pp h => ?_
                · show x.n + 1 + nd M3 L s (k' / UL L) ≤ x.lim
                  rw [nd_frame g2 fun j hj => fow j (hos j hj)]; omega
                · have pp : PutPost L s Ss os es (k' / UL L) M3 (x.n + 1) (x.nt + 1) M2 n2 nt2 own2 e2 := pp
                  have hnd9 := g9
                  rw [g8, List.nodup_append] at hnd9
                  have hup : ∀ j ∈ ow, j ∉ os → M2 j = x.M j := fun j h1 h2 => by
                    rw [pp.f1 j h2 (by rw [fow j h1]; exact (how j h1).1), fow j h1]
                  have hcos : ∀ d ∈ cs, ∀ j ∈ d.own, j ∉ os := fun d hd j hj hjo => hnd9.2.2 j hjo j (List.mem_flatMap.2 ⟨d, hd, hj⟩) rfl
                  have hM2c : M2 c = some (freshM L (k' % UL L)) := by
                    rw [pp.f1 c (fun hj => hcow (hos c hj)) (by rw [hM3c]; simp), hM3c]
                  have hM2i : M2 i = some { (y.setCl (k' / UL L) (some c)) with mn := a, mx := b } := by
                    rw [pp.f1 i (fun hj => hni (hos i hj)) (by rw [hM3i]; simp), hM3i]
                  have hown2 : ∀ j ∈ own2, j ∈ os ∨ (x.M j = none ∧ j ≠ c ∧ j ≠ i) := fun j hj => by
                    rcases pp.f2 j hj with h1 | h1
                    · exact .inl h1
                    · right
                      have hjc : j ≠ c := fun e => by rw [e, hM3c] at h1; cases h1
                      have hji : j ≠ i := fun e => by rw [e, hM3i] at h1; cases h1
                      exact ⟨by rw [f3 j hji hjc] at h1; exact h1, hjc, hji⟩
                  have hnd2 : (own2 ++ (Clu.mk (k' / UL L) c (fun z => z = k' % UL L) [c] 0 :: cs).flatMap (·.own)).Nodup := by
                    simp only [List.flatMap_cons, List.nodup_append, List.mem_append, List.mem_singleton]
                    refine ⟨(VR.live pp.vr).2.1, ⟨by simp, hnd9.2.1, ?_⟩, ?_⟩
                    · rintro z rfl b hb rfl
                      obtain ⟨d, hd, hj⟩ := List.mem_flatMap.1 hb
                      exact hcow (hcs d hd z hj)
                    · rintro z hz b (rfl | hb) rfl
                      · rcases hown2 z hz with h1 | h1
                        · exact hcow (hos z h1)
                        · exact h1.2.1 rfl
                      · rcases hown2 z hz with h1 | h1
                        · exact hnd9.2.2 z h1 z hb rfl
                        · obtain ⟨d, hd, hj⟩ := List.mem_flatMap.1 hb
                          exact (how z (hcs d hd z hj)).1 h1.1
                  have hin2 := in_add (R' := VR M2 L) (L := L) (cs := cs) (c := ⟨k' / UL L, c, fun z => z = k' % UL L, [c], 0⟩) (cl' := (y.setCl (k' / UL L) (some c)).cl) (s' := s) (Q := Q) (Q' := fun z => Q z ∨ z = k')
                    (fun d hd => ⟨(g3 d hd).1.frame fun j hj => hup j (hcs d hd j hj) (hcos d hd j hj), (g3 d hd).2⟩) g4 (Ss' := fun z => Ss z ∨ z = k' / UL L) (fun z => by rw [g5, or_comm]) (fun z j => by
                      simp only [VM.setCl]
                      by_cases hz : z = k' / UL L
                      · simp [hz, eq_comm]
                      · simp [hz, g6]) g7 pp.vr (fresh_vr hmod hM2c) hdiv (fun d hd e => hnoh ((g5 _).2 ⟨d, hd, e⟩)) hnd2 (fun z => hQk z)
                  rw [← g1] at hin2
                  refine q M2 n2 nt2 _ _ w ⟨⟨_, _, _, hM2i, hlev, hbits, by show a ≤ b; omega, hb, hin2, ?_, ?_, rfl, ?_⟩, ?_, ?_, ?_, ?_, by have := pp.nb; omega⟩ (h.pull 1).drop
                  · rintro z (hz | rfl)
                    · exact hQab z hz
                    · exact ⟨hak, hkb⟩
                  · intro z; exact hSab z
                  · intro hmem
                    simp only [List.flatMap_cons, List.mem_append, List.mem_singleton] at hmem
                    rcases hmem with h1 | h1 | h1
                    · rcases hown2 i h1 with h2 | h2
                      · exact hni (hos i h2)
                      · exact h2.2.2 rfl
                    · exact hci h1.symm
                    · obtain ⟨d, hd, hj⟩ := List.mem_flatMap.1 h1
                      exact hni (hcs d hd i hj)
                  · intro j hj hne
                    have hji : j ≠ i := fun e => hj (by simp [e])
                    have hjc : j ≠ c := fun e => hne (by rw [e]; exact hMc)
                    have hjo : j ∉ os := fun h1 => hj (List.mem_cons_of_mem _ (hos j h1))
                    rw [pp.f1 j hjo (by rw [f3 j hji hjc]; exact hne), f3 j hji hjc]
                  · intro j hj
                    simp only [List.flatMap_cons, List.mem_cons, List.mem_append, List.not_mem_nil, or_false] at hj
                    rcases hj with h1 | h1 | h1 | h1
                    · exact .inl (by simp [h1])
                    · rcases hown2 j h1 with h2 | h2
                      · exact .inl (List.mem_cons_of_mem _ (hos j h2))
                      · exact .inr h2.1
                    · exact .inr (by rw [h1]; exact hMc)
                    · obtain ⟨d, hd, hj⟩ := List.mem_flatMap.1 h1
                      exact .inl (List.mem_cons_of_mem _ (hcs d hd j hj))
                  · have := pp.cn
                    simp only [g8, List.length_cons, List.length_append, List.flatMap_cons, List.length_nil] at this ⊢
                    omega
                  · have := pp.ct
                    simp only [g10, List.length_cons, List.map_cons, List.sum_cons] at this ⊢
                    omega
              · omega
      have hnmn : ¬ Q y.mn := fun hq => by have := hQ _ hq; omega
      have hnmx : ¬ Q y.mx := fun hq => by have := hQ _ hq; omega
      refine lU64.of h (by rfl) ?_
      refine cond_c (fun h1 => ?_) fun h1 => ?_
      · have h1 : k < y.mn := by simpa using h1
        rw [if_pos h1] at hn
        refine lU64.of h (by rfl) ?_
        refine stP.of h (Nat.le_of_ble_eq_true rfl) fun w h => ?_
        exact go y.mn k y.mx (by omega) hnmn hmx h1 (by omega) (fun z hz => by have := hQ z hz; omega) (fun z => by rw [hSS]; grind) hn w h
      · have h1 : ¬ k < y.mn := by simpa using h1
        rw [if_neg h1] at hn
        refine lU64.of h (by rfl) ?_
        have hne1 : k ≠ y.mn := fun e => hS ((hSS k).2 (.inl e))
        have hne2 : k ≠ y.mx := fun e => hS ((hSS k).2 (.inr (.inl e)))
        refine cond_c (fun h2 => ?_) fun h2 => ?_
        · have h2 : y.mx < k := by simpa using h2
          rw [if_pos h2] at hn
          refine lU64.of h (by rfl) ?_
          refine stP.of h (Nat.le_of_ble_eq_true rfl) fun w h => ?_
          exact go y.mx y.mn k hmx hnmx hk (by omega) h2 (fun z hz => by have := hQ z hz; omega) (fun z => by rw [hSS]; grind) hn w h
        · have h2 : ¬ y.mx < k := by simpa using h2
          rw [if_neg h2] at hn
          exact go k y.mn y.mx hk (fun hq => hS ((hSS k).2 (.inr (.inr hq)))) hmx (by omega) (by omega) hQ (fun z => by rw [hSS]; constructor <;> (rintro (h | h) <;> (try rcases h with h | h | h) <;> simp [h])) hn w h
end
end Go.St
