/- Contracts: trees that halve their bits: the whole. -/
import Derived.Test.YtkapfochgkdhaaaGreatCtVc
import Derived.Test.YtkapfochgkdhaaaGreatCtK
namespace Go.St
open Go Go.Proofs
attribute [local irreducible] stP alP drP stCs lI64 lU64 lU8 lB lP lL lR AppV ClrV

/-- how many keys a tree has at most -/
theorem VR.cap {M : Nat → Option VM} : ∀ {L i : Nat} {S : Nat → Prop} {own : List Nat} {e : Nat}, VR M L i S own e → ∀ (l : List Nat), l.Nodup → (∀ k ∈ l, S k) → l.length ≤ 16 * own.length
  | 0, i, S, own, e, h, l, hl, hs => by
    have hlt := (VR.live h).2.2.2
    obtain ⟨x, h1, h2, h3, h4, h5, h6, h7, h8, h9, rfl, rfl⟩ := h
    have := hl.length_le_of_subset (l₂ := List.range 16) fun k hk => by have := hlt k (hs k hk); rw [UL_zero] at this; simpa using this
    simpa using this
  | L + 1, i, S, own, e, h, l, hl, hs => by
    obtain ⟨x, Q, ow, h1, h2, h3, h4, h5, h6, h7, h8, rfl, h10⟩ := h
    have two : ∀ q : List Nat, q.Nodup → (∀ k ∈ q, k = x.mn ∨ k = x.mx) → q.length ≤ 2 := fun q hq hk =>
      hq.length_le_of_subset (l₂ := [x.mn, x.mx]) fun k h => by simpa using hk k h
    have hsplit := filter_len (fun k => decide (k = x.mn) || decide (k = x.mx)) l
    have ha := two (l.filter fun k => decide (k = x.mn) || decide (k = x.mx)) (hl.filter _) fun k hk => by simpa using (List.mem_filter.1 hk).2
    have hq : ∀ k ∈ (l.filter fun k => !(decide (k = x.mn) || decide (k = x.mx))), Q k := fun k hk => by
      obtain ⟨h11, h12⟩ := List.mem_filter.1 hk
      rcases (h8 k).1 (hs k h11) with h | h | h
      · simp [h] at h12
      · simp [h] at h12
      · exact h
    have hn : (l.filter fun k => !(decide (k = x.mn) || decide (k = x.mx))).Nodup := hl.filter _
    generalize (l.filter fun k => !(decide (k = x.mn) || decide (k = x.mx))) = q at hsplit hq hn
    have hb : q.length ≤ 16 * ow.length := by
      cases h6 with
      | none g1 g2 g3 g4 g5 =>
        cases q with
        | nil => simp
        | cons k q => exact absurd (hq k (by simp)) (g3 k)
      | some s Ss os es cs g1 g2 g3 g4 g5 g6 g7 g8 g9 g10 =>
        have part : ∀ (ds : List Clu), (∀ c ∈ ds, VR M L c.c c.S c.own c.e) → ∀ (q : List Nat), q.Nodup → (∀ k ∈ q, ∃ c ∈ ds, c.h = k / UL L ∧ c.S (k % UL L)) → q.length ≤ 16 * (ds.flatMap (·.own)).length := by
          intro ds
          induction ds with
          | nil =>
            intro _ q _ hk
            cases q with
            | nil => simp
            | cons k q => obtain ⟨c, hc, _⟩ := hk k (by simp); cases hc
          | cons d ds ih =>
            intro hd q hq hk
            have hlen := filter_len (fun k => decide (k / UL L = d.h) && true) q
            have hP := fun k => Classical.propDecidable (k / UL L = d.h ∧ d.S (k % UL L))
            have hlen := filter_len (fun k => decide (k / UL L = d.h ∧ d.S (k % UL L))) q
            have h1 := VR.cap (hd d (by simp)) ((q.filter fun k => decide (k / UL L = d.h ∧ d.S (k % UL L))).map fun k => k % UL L) (by
              refine nodup_map (hq.filter _) ?_
              intro a ha b hb hab
              simp only [List.mem_filter, decide_eq_true_eq] at ha hb
              rw [← Nat.div_add_mod a (UL L), ← Nat.div_add_mod b (UL L), ha.2.1, hb.2.1, hab]) (fun k hk => by
              simp only [List.mem_map, List.mem_filter, decide_eq_true_eq] at hk
              obtain ⟨a, ⟨_, _, h2⟩, rfl⟩ := hk
              exact h2)
            have h2 := ih (fun c hc => hd c (List.mem_cons_of_mem _ hc)) (q.filter fun k => !decide (k / UL L = d.h ∧ d.S (k % UL L))) (hq.filter _) (fun k hk' => by
              obtain ⟨h3, h4⟩ := List.mem_filter.1 hk'
              obtain ⟨c, hc, h5, h6⟩ := hk k h3
              rcases List.mem_cons.1 hc with rfl | hc
              · simp [h5, h6] at h4
              · exact ⟨c, hc, h5, h6⟩)
            rw [List.length_map] at h1
            simp only [List.flatMap_cons, List.length_append]
            omega
        have := part cs (fun c hc => (g3 c hc).1) q hn fun k hk => (g7 k).1 (hq k hk)
        rw [g8, List.length_append]; omega
    simp only [List.length_cons]
    omega
structure KS where
  ks : List Nat
  lim : Nat
structure VebOk (x : VSt) (s : KS) : Prop where
  asc : Asc s.ks
  lt : ∀ k ∈ s.ks, k < 18446744073709551616
  cnt : x.cnt = s.ks.length
  lim : x.lim = s.lim
  llim : s.lim ≤ 1048576
  tree : s.ks = [] ∧ x.n = 0 ∧ x.nt = 0 ∧ (∀ i, x.M i = none) ∨ ∃ (i : Nat) (own : List Nat) (e : Nat), x.root = i ∧ VR x.M 4 i (· ∈ s.ks) own e ∧ x.n = own.length ∧ x.nt = e
def VebT (v : Nat) (s : KS) : HP := ex fun (x : VSt) => sp (pur (VebOk x s)) (VebR v x)
section
variable {w : World} {v : Nat} {s : KS} {M : List HP}
theorem VebT.un (h : Sat w (VebT v s :: M)) : ∃ x, VebOk x s ∧ Sat w (VebR v x :: M) := by
  obtain ⟨x, h⟩ := Sat.ex.1 h
  exact ⟨x, Sat.pur.1 (Sat.sep.1 h)⟩
theorem VebT.mk {x : VSt} (hx : VebOk x s) (h : Sat w (VebR v x :: M)) : Sat w (VebT v s :: M) := Sat.ex.2 ⟨x, Sat.sep.2 (Sat.pur.2 ⟨hx, h⟩)⟩
theorem UL4 : UL 4 = 18446744073709551616 := by decide
theorem VebOk.pos {x : VSt} (hx : VebOk x s) : (0 < s.ks.length) ↔ ∃ (i : Nat) (own : List Nat) (e : Nat), x.root = i ∧ VR x.M 4 i (· ∈ s.ks) own e ∧ x.n = own.length ∧ x.nt = e := by
  rcases hx.tree with ⟨h1, h2, h3, h4⟩ | h
  · constructor
    · rw [h1]; intro h; cases h
    · rintro ⟨i, own, e, _, hV, _⟩
      obtain ⟨k, hk⟩ := (VR.live hV).2.2.1
      exact List.length_pos_of_mem hk
  · constructor
    · exact fun _ => h
    · obtain ⟨i, own, e, _, hV, _⟩ := h
      obtain ⟨k, hk⟩ := (VR.live hV).2.2.1
      exact fun _ => List.length_pos_of_mem hk
theorem veb_New_spec {seed n : Int} {K : Option Addr → Int → World → Prop} (h : Sat w M) (k0 : ¬ (0 ≤ n ∧ n ≤ 1048576) → ∀ w', Sat w' M → K none 1 w')
    (k1 : 0 ≤ n → n ≤ 1048576 → ∀ v w', Sat w' (VebT v ⟨[], n.toNat⟩ :: M) → K (some ⟨v, 0, none⟩) 0 w') : veb_New.C seed n w K := by
  apply veb_New.ok
  refine count_New_spec h fun m w h => ?_
  refine pool_New_veb_node_spec h (fun h0 => ?_) fun h1 h2 p w h => ?_
  · exact cond_t rfl (k0 h0 _ h.drop)
  refine cond_f rfl ?_
  refine hash_New_spec h fun t w h => ?_
  refine alP.of h fun v w h => ?_
  refine k1 h1 h2 v w (VebT.mk (x := ⟨fun _ => none, 0, n.toNat, 0, -1, 0, p⟩) ⟨List.Pairwise.nil, fun k hk => (by cases hk), rfl, rfl, (by show n.toNat ≤ 1048576; omega), .inl ⟨rfl, rfl, rfl, fun _ => rfl⟩⟩ ?_)
  refine VebR.mk (m := m) (t := t) (f := fun _ => none) (g := fun _ _ => none) ⟨fun i => rfl, fun i x h => (by cases h), fun L i h _ _ => rfl⟩ ?_
  exact (((h.pull 1).pull 2).pull 3).pull 3
theorem veb_start_spec {x : VSt} {K : Bool → World → Prop} (h : Sat w (VebR v x :: M)) (k : ∀ w', Sat w' (VebR v x :: M) → K (decide (0 < x.cnt)) w') : veb_VEB_start.C (some ⟨v, 0, none⟩) w K := by
  apply veb_VEB_start.ok
  refine cond_f rfl ?_
  obtain ⟨m, t, f, g, hR, h⟩ := VebR.un h
  refine lP.of h (by rfl) ?_
  refine count_Start_spec h fun w h => ?_
  refine lI64.of h (by rfl) ?_
  exact k _ (VebR.mk hR h)
theorem veb_root {x : VSt} {K : Int → Prop} (h : Sat w (VebR v x :: M)) (k : K x.root) : lI64 w v 3 K := by
  obtain ⟨m, t, f, g, hR, h⟩ := VebR.un h
  exact lI64.of h (by rfl) k
theorem veb_rcell {x : VSt} (h : Sat w (VebR v x :: M)) : cellsAre w v 3 [.int .i64 x.root] := by
  obtain ⟨m, t, f, g, hR, h⟩ := VebR.un h
  exact Foc.cells inferInstance h (by rfl)
theorem veb_cnt {x : VSt} {K : Int → Prop} (h : Sat w (VebR v x :: M)) (k : K x.cnt) : lI64 w v 4 K := by
  obtain ⟨m, t, f, g, hR, h⟩ := VebR.un h
  exact lI64.of h (by rfl) k
theorem veb_setcnt {x : VSt} {c : Int} {K : World → Prop} (h : Sat w (VebR v x :: M)) (k : ∀ w', Sat w' (VebR v { x with cnt := c } :: M) → K w') : stP w v 4 (.int .i64 c) K := by
  obtain ⟨m, t, f, g, hR, h⟩ := VebR.un h
  refine stP.of h (Nat.le_of_ble_eq_true rfl) fun w h => ?_
  exact k _ (VebR.mk (x := { x with cnt := c }) hR h)
theorem veb_setroot {x : VSt} {c : Int} {K : World → Prop} (h : Sat w (VebR v x :: M)) (k : ∀ w', Sat w' (VebR v { x with root := c } :: M) → K w') : stP w v 3 (.int .i64 c) K := by
  obtain ⟨m, t, f, g, hR, h⟩ := VebR.un h
  refine stP.of h (Nat.le_of_ble_eq_true rfl) fun w h => ?_
  exact k _ (VebR.mk (x := { x with root := c }) hR h)
theorem veb_pool {x : VSt} {K : Option Addr → Prop} (h : Sat w (VebR v x :: M)) (k : K (some ⟨x.p, 0, none⟩)) : lP w v 1 K := by
  obtain ⟨m, t, f, g, hR, h⟩ := VebR.un h
  exact lP.of h (by rfl) k
theorem veb_pcell {x : VSt} (h : Sat w (VebR v x :: M)) : cellsAre w v 1 [.pointer (some ⟨x.p, 0, none⟩)] := by
  obtain ⟨m, t, f, g, hR, h⟩ := VebR.un h
  exact Foc.cells inferInstance h (by rfl)
theorem VebOk.dec {x : VSt} (hx : VebOk x s) : decide (0 < x.cnt) = decide (0 < s.ks.length) := by rw [hx.cnt]; simp
theorem veb_Has_spec {k : Nat} {K : Bool → World → Prop} (h : Sat w (VebT v s :: M)) (hk : k < 18446744073709551616) (q : ∀ w', Sat w' (VebT v s :: M) → K (decide (k ∈ s.ks)) w') : veb_VEB_Has.C (some ⟨v, 0, none⟩) (k : Int) w K := by
  obtain ⟨x, hx, h⟩ := VebT.un h
  apply veb_VEB_Has.ok
  refine drP.of h fun w h => ?_
  refine veb_start_spec h fun w h => ?_
  rw [hx.dec]
  refine cond_c (fun h1 => ?_) fun h1 => ?_
  · obtain ⟨i, own, e, hr, hV, h2, h3⟩ := hx.pos.1 (by simpa using h1)
    obtain ⟨_, y, hy, _⟩ := VR.self hV
    refine veb_root h ?_
    refine veb_root h ?_
    rw [hr]
    refine veb_read_spec h hy fun w h => ?_
    refine ⟨by have := veb_rcell h; rwa [hr] at this, ?_⟩
    refine veb_has_spec 4 (by omega) h hV hy (by rw [UL4]; exact hk) fun b w hb h => ?_
    have e : b = decide (k ∈ s.ks) := by cases b <;> simp_all
    rw [e]
    exact q _ (VebT.mk hx h)
  · have h1 : s.ks = [] := by simpa using h1
    have e : decide (k ∈ s.ks) = false := by simp [h1]
    rw [e] at q
    exact q _ (VebT.mk hx h)
theorem veb_Insert_spec {k : Nat} {K : Int → World → Prop} (h : Sat w (VebT v s :: M)) (hk : k < 18446744073709551616) (q1 : k ∈ s.ks → ∀ w', Sat w' (VebT v s :: M) → K 4 w')
    (q2 : k ∉ s.ks → s.lim < 5 * (s.ks.length + 1) → ∀ w', Sat w' (VebT v s :: M) → K 5 w') (q3 : k ∉ s.ks → ∀ w', Sat w' (VebT v ⟨ins k s.ks, s.lim⟩ :: M) → K 0 w') : veb_VEB_Insert.C (some ⟨v, 0, none⟩) (k : Int) w K := by
  apply veb_VEB_Insert.ok
  refine cond_f rfl ?_
  refine veb_Has_spec h hk fun w h => ?_
  refine cond_c (fun h1 => ?_) fun h1 => ?_
  · exact q1 (by simpa using h1) _ h
  have h1 : k ∉ s.ks := by simpa using h1
  obtain ⟨x, hx, h⟩ := VebT.un h
  refine veb_cnt h ?_
  rw [hx.cnt]
  have done : ∀ {M' : Nat → Option VM} {n' nt' : Nat} {c : Int} {i : Nat} {own' : List Nat} {e' : Nat} {w : World}, VR M' 4 i (· ∈ ins k s.ks) own' e' → n' = own'.length → nt' = e' → c = s.ks.length + 1 → Sat w (VebR v ⟨M', n', x.lim, nt', i, c, x.p⟩ :: M) → Sat w (VebT v ⟨ins k s.ks, s.lim⟩ :: M) := by
    intro M' n' nt' c i own' e' w g1 g2 g3 g4 h
    refine VebT.mk (x := ⟨M', n', x.lim, nt', i, c, x.p⟩) ⟨asc_ins hx.asc, fun j hj => ?_, ?_, hx.lim, hx.llim, .inr ⟨i, own', e', rfl, g1, g2, g3⟩⟩ h
    · rcases mem_ins.1 hj with rfl | hj
      · exact hk
      · exact hx.lt j hj
    · show c = _
      rw [g4]; show _ = ((ins k s.ks).length : Int)
      rw [len_ins h1]; omega
  refine cond_c (fun h2 => ?_) fun h2 => ?_
  · have h2 : s.ks = [] := by simpa using h2
    refine drP.of h fun w h => ?_
    obtain ⟨g1, g2, g3⟩ : x.n = 0 ∧ x.nt = 0 ∧ (∀ i, x.M i = none) := by
      rcases hx.tree with h3 | ⟨i, own, e, _, hV, _⟩
      · exact h3.2
      · obtain ⟨k, hk⟩ := (VR.live hV).2.2.1
        rw [h2] at hk; cases hk
    obtain ⟨m, t, f, g, hR, h⟩ := VebR.un h
    refine lP.of h (by rfl) ?_
    refine veb_fresh_spec (L := 4) h (by omega) (by rw [UL4]; exact hk) fun w h => ?_
    refine ⟨Foc.cells inferInstance h (by rfl), ?_⟩
    refine pool_Pool_veb_node_Alloc_spec (s := ⟨m, f, x.n, x.lim⟩) (x := (freshM 4 k).nd) (by exact h) (fun h0 w h => ?_) fun _ c w hc hlt h => ?_
    · have h0 : x.lim ≤ x.n := h0
      refine cond_t rfl (q2 h1 ?_ _ (VebT.mk hx (VebR.mk hR h)))
      rw [← hx.lim]; omega
    · refine cond_f rfl ?_
      obtain ⟨hM, hR'⟩ := hR.alloc (y' := freshM 4 k) hlt hc (fun h => by unfold freshM; split <;> rfl)
      have h := VebR.mk (x := { x with M := Pl.up x.M c (some (freshM 4 k)), n := x.n + 1 }) hR' h
      refine veb_setroot h fun w h => ?_
      refine veb_cnt h ?_
      refine veb_setcnt h fun w h => ?_
      refine q3 h1 _ (done (own' := [c]) (e' := 0) ?_ (by simp [g1]) g2 ?_ h)
      · rw [h2]
        refine (fresh_vr (L := 4) (q := k) (by rw [UL4]; exact hk) up_same).congr fun j => ?_
        simp [ins]
      · show w64 (x.cnt + 1) = _
        rw [hx.cnt, h2]; decide
  · have h2 : s.ks ≠ [] := by simpa using h2
    obtain ⟨i, own, e, hr, hV, g2, g3⟩ := hx.pos.1 (List.length_pos_iff.2 h2)
    have hb := hV.bound s.ks hx.asc.nodup (fun _ => Iff.rfl)
    have hnd := nd_le x.M 4 i k
    refine drP.of h fun w h => ?_
    refine veb_pool h ?_
    refine veb_root h ?_
    rw [hr]
    refine veb_need_spec 4 (by omega) h hV (by rw [UL4]; exact hk) h1 fun w h => ?_
    refine ⟨veb_pcell h, ?_⟩
    obtain ⟨m, t, f, g, hR, h⟩ := VebR.un h
    refine pool_Pool_veb_node_Room_spec (s := ⟨m, f, x.n, x.lim⟩) (by exact h) fun w h => ?_
    have h := VebR.mk hR h
    refine cond_c (fun h3 => ?_) fun h3 => ?_
    · have h3 : (x.lim : Int) - x.n < (nd x.M 4 i k : Nat) := by simpa using h3
      refine q2 h1 ?_ _ (VebT.mk hx h)
      rw [← hx.lim]; omega
    · have h3 : ((nd x.M 4 i k : Nat) : Int) ≤ (x.lim : Int) - x.n := by simpa using h3
      refine veb_root h ?_
      rw [hr]
      have hl := hx.lim
      have hl2 := hx.llim
      have hl3 : s.lim ≤ 1048576 := hl2
      have a1 : x.n + nd x.M 4 i k ≤ x.lim := by clear h; omega
      have a2 : x.nt + 4 < 2 ^ 30 := by clear h; omega
      refine veb_put_spec 4 (by omega) h hV (by rw [UL4]; exact hk) h1 a1 a2 fun M' n' nt' own' e' w hp h => ?_
      refine veb_cnt h ?_
      refine veb_setcnt h fun w h => ?_
      have hcn := hp.cn
      have hct := hp.ct
      refine q3 h1 _ (done (M' := M') (n' := n') (nt' := nt') (own' := own') (e' := e') (i := i) (hp.vr.congr fun j => ?_) (by omega) (by omega) ?_ (by rw [hr] at h; exact h))
      · rw [mem_ins]; exact or_comm
      · show w64 (x.cnt + 1) = _
        have h6 := VR.cap hV s.ks hx.asc.nodup fun _ h => h
        rw [hx.cnt, w64_id (by omega) (by omega)]

def Few2 (S : Nat → Prop) : Prop := ∀ a b c, S a → S b → S c → a ≠ b → a ≠ c → b ≠ c → False
theorem key_of {M : Nat → Option VM} {L : Nat} {c : Clu} (hc : VR M L c.c c.S c.own c.e) : ∃ k, k / UL L = c.h ∧ c.S (k % UL L) := by
  obtain ⟨k, hk⟩ := (VR.live hc).2.2.1
  have hlt := (VR.live hc).2.2.2 k hk
  obtain ⟨k1, k2⟩ := key_split (h := c.h) hlt
  exact ⟨c.h * UL L + k, k1, by rw [k2]; exact hk⟩
theorem ShT.of2 {M : Nat → Option VM} {L i e : Nat} {S : Nat → Prop} {own : List Nat} (hV : VR M (L + 1) i S own e) (hf : Few2 S) : ShT M (L + 1) i := by
  intro x hx
  left
  obtain ⟨Q, ow, hlev, hbits, hle, hmx, hin, hQ, hSS, rfl, hni⟩ := VR.node hV hx
  cases hin with
  | none h1 _ _ _ _ => exact h1
  | some s Ss os es cs g1 g2 g3 g4 g5 g6 g7 g8 g9 g10 =>
    obtain ⟨h, hh⟩ := (VR.live g2).2.2.1
    obtain ⟨c, hc, _⟩ := (g5 h).1 hh
    obtain ⟨k, k1, k2⟩ := key_of (g3 c hc).1
    have hq := (g7 k).2 ⟨c, hc, k1.symm, k2⟩
    have := hQ k hq
    exact (hf x.mn x.mx k ((hSS _).2 (.inl rfl)) ((hSS _).2 (.inr (.inl rfl))) ((hSS _).2 (.inr (.inr hq))) (by omega) (by omega) (by omega)).elim
theorem ShT.of4 {M : Nat → Option VM} {L i e : Nat} {S : Nat → Prop} {own : List Nat} (hV : VR M (L + 2) i S own e) (hf : ∀ l : List Nat, l.Nodup → (∀ k ∈ l, S k) → l.length ≤ 4) : ShT M (L + 2) i := by
  intro x hx
  obtain ⟨Q, ow, hlev, hbits, hle, hmx, hin, hQ, hSS, rfl, hni⟩ := VR.node hV hx
  cases hin with
  | none h1 _ _ _ _ => exact .inl h1
  | some s Ss os es cs g1 g2 g3 g4 g5 g6 g7 g8 g9 g10 =>
    right
    have three : ∀ a b c, Q a → Q b → Q c → a ≠ b → a ≠ c → b ≠ c → False := fun a b c ha hb hc h1 h2 h3 => by
      have q1 := hQ a ha; have q2 := hQ b hb; have q3 := hQ c hc
      have := hf [x.mn, x.mx, a, b, c] (by simp; omega) (by
        intro k hk
        simp only [List.mem_cons, List.not_mem_nil, or_false] at hk
        rcases hk with rfl | rfl | rfl | rfl | rfl <;> rw [hSS] <;> simp_all)
      simp at this
    have hkey : ∀ h, Ss h → ∃ k, k / UL (L + 1) = h ∧ Q k := fun h hh => by
      obtain ⟨c, hc, rfl⟩ := (g5 h).1 hh
      obtain ⟨k, k1, k2⟩ := key_of (g3 c hc).1
      exact ⟨k, k1, (g7 k).2 ⟨c, hc, k1.symm, k2⟩⟩
    refine ⟨fun s' hs' => ?_, fun h j hj => ?_⟩
    · have e1 : s' = s := by omega
      subst e1
      refine ShT.of2 g2 fun a b c ha hb hc h1 h2 h3 => ?_
      obtain ⟨ka, a1, a2⟩ := hkey a ha
      obtain ⟨kb, b1, b2⟩ := hkey b hb
      obtain ⟨kc, c1, c2⟩ := hkey c hc
      exact three ka kb kc a2 b2 c2 (fun e => h1 (by rw [← a1, ← b1, e])) (fun e => h2 (by rw [← a1, ← c1, e])) (fun e => h3 (by rw [← b1, ← c1, e]))
    · obtain ⟨d, hd, hdh, rfl⟩ := (g6 h j).1 hj
      refine ShT.of2 (g3 d hd).1 fun a b c ha hb hc h1 h2 h3 => ?_
      have kk : ∀ a, d.S a → Q (d.h * UL (L + 1) + a) := fun a ha => by
        obtain ⟨k1, k2⟩ := key_split (h := d.h) ((VR.live (g3 d hd).1).2.2.2 a ha)
        exact (g7 _).2 ⟨d, hd, k1.symm, by rw [k2]; exact ha⟩
      exact three _ _ _ (kk a ha) (kk b hb) (kk c hc) (by omega) (by omega) (by omega)
/-- the table is there, or isn't needed -/
def TbOr (M : List HP) (p : Prop) : Prop := TbIn M ∨ p
theorem veb_Next_spec {k : Nat} {K : Int → Bool → World → Prop} (h : Sat w (VebT v s :: M)) (hd : TbOr M (s.ks.length ≤ 4)) (hk : k < 18446744073709551616)
    (q : ∀ w', Sat w' (VebT v s :: M) → oK (nxt k s.ks) fun r b => K r b w') : veb_VEB_Next.C (some ⟨v, 0, none⟩) (k : Int) w K := by
  obtain ⟨x, hx, h⟩ := VebT.un h
  apply veb_VEB_Next.ok
  refine veb_start_spec h fun w h => ?_
  rw [hx.dec]
  refine cond_c (fun h1 => ?_) fun h1 => ?_
  · have h1 : s.ks = [] := by simpa using h1
    have := q _ (VebT.mk hx h)
    rw [h1] at this; exact this
  · obtain ⟨i, own, e, hr, hV, h2, h3⟩ := hx.pos.1 (by simpa using h1)
    obtain ⟨_, y, hy, _⟩ := VR.self hV
    obtain ⟨Q, ow, hlev, hbits, hle, hmx, hin, hQ, hSS, _, _⟩ := VR.node hV hy
    refine veb_root h ?_
    rw [hr]
    refine veb_read_spec h hy fun w h => ?_
    refine alP.of h fun r w h => ?_
    refine stCs.of h (Nat.le_of_ble_eq_true rfl) (by simp [Value.oneCell']) fun w h => ?_
    refine lU64.of h (by rfl) ?_
    refine cond_c (fun h1 => ?_) fun h1 => ?_
    · have h1 : y.mx < k := by simpa using h1
      have := q _ (VebT.mk hx h.drop)
      rw [nxt_none] at this
      · exact this
      · intro z hz
        rcases (hSS z).1 hz with rfl | rfl | hz
        · omega
        · omega
        · have := hQ z hz; omega
    · have h1 : ¬ y.mx < k := by simpa using h1
      refine drP.of h fun w h => ?_
      refine veb_root (h.pull 1) ?_
      rw [hr]
      refine lAu64_u64_i64_u64.of h (by rfl) ?_
      have hd : TbOr M (ShT x.M 4 i) := hd.imp_right fun hl => ShT.of4 hV fun l hn hs => by
        have := hn.length_le_of_subset (l₂ := s.ks) (fun k hk => hs k hk); omega
      refine veb_next_spec 4 (by omega) (h.pull 1) (hd.imp_left fun h => h.c) hV hy (by rw [UL4]; exact hk) ⟨y.mx, (hSS _).2 (.inr (.inl rfl)), by omega⟩ fun r w hn h => ?_
      have := q _ (VebT.mk hx (h.pull 1).drop)
      rw [nxt_some hx.asc hn.mem hn.ge hn.least] at this
      exact this
theorem veb_Prev_spec {k : Nat} {K : Int → Bool → World → Prop} (h : Sat w (VebT v s :: M)) (hd : TbOr M (s.ks.length ≤ 4)) (hk : k < 18446744073709551616)
    (q : ∀ w', Sat w' (VebT v s :: M) → oK (prv k s.ks) fun r b => K r b w') : veb_VEB_Prev.C (some ⟨v, 0, none⟩) (k : Int) w K := by
  obtain ⟨x, hx, h⟩ := VebT.un h
  apply veb_VEB_Prev.ok
  refine veb_start_spec h fun w h => ?_
  rw [hx.dec]
  refine cond_c (fun h1 => ?_) fun h1 => ?_
  · have h1 : s.ks = [] := by simpa using h1
    have := q _ (VebT.mk hx h)
    rw [h1] at this; exact this
  · obtain ⟨i, own, e, hr, hV, h2, h3⟩ := hx.pos.1 (by simpa using h1)
    obtain ⟨_, y, hy, _⟩ := VR.self hV
    obtain ⟨Q, ow, hlev, hbits, hle, hmx, hin, hQ, hSS, _, _⟩ := VR.node hV hy
    refine veb_root h ?_
    rw [hr]
    refine veb_read_spec h hy fun w h => ?_
    refine alP.of h fun r w h => ?_
    refine stCs.of h (Nat.le_of_ble_eq_true rfl) (by simp [Value.oneCell']) fun w h => ?_
    refine lU64.of h (by rfl) ?_
    refine cond_c (fun h1 => ?_) fun h1 => ?_
    · have h1 : k < y.mn := by simpa using h1
      have := q _ (VebT.mk hx h.drop)
      rw [prv_none] at this
      · exact this
      · intro z hz
        rcases (hSS z).1 hz with rfl | rfl | hz
        · omega
        · omega
        · have := hQ z hz; omega
    · have h1 : ¬ k < y.mn := by simpa using h1
      refine drP.of h fun w h => ?_
      refine veb_root (h.pull 1) ?_
      rw [hr]
      refine lAu64_u64_i64_u64.of h (by rfl) ?_
      have hd : TbOr M (ShT x.M 4 i) := hd.imp_right fun hl => ShT.of4 hV fun l hn hs => by
        have := hn.length_le_of_subset (l₂ := s.ks) (fun k hk => hs k hk); omega
      refine veb_prev_spec 4 (by omega) (h.pull 1) (hd.imp_left fun h => h.c) hV hy (by rw [UL4]; exact hk) ⟨y.mn, (hSS _).2 (.inl rfl), by omega⟩ fun r w hn h => ?_
      have := q _ (VebT.mk hx (h.pull 1).drop)
      rw [prv_some hx.asc hn.mem hn.le hn.most] at this
      exact this
theorem veb_Min_spec {K : Int → Bool → World → Prop} (h : Sat w (VebT v s :: M)) (q : ∀ w', Sat w' (VebT v s :: M) → oK s.ks.head? fun r b => K r b w') : veb_VEB_Min.C (some ⟨v, 0, none⟩) w K := by
  obtain ⟨x, hx, h⟩ := VebT.un h
  apply veb_VEB_Min.ok
  refine veb_start_spec h fun w h => ?_
  rw [hx.dec]
  refine cond_c (fun h1 => ?_) fun h1 => ?_
  · have h1 : s.ks = [] := by simpa using h1
    have := q _ (VebT.mk hx h)
    rw [h1] at this; exact this
  · obtain ⟨i, own, e, hr, hV, h2, h3⟩ := hx.pos.1 (by simpa using h1)
    obtain ⟨_, y, hy, _⟩ := VR.self hV
    obtain ⟨Q, ow, hlev, hbits, hle, hmx, hin, hQ, hSS, _, _⟩ := VR.node hV hy
    refine veb_root h ?_
    rw [hr]
    refine veb_read_spec h hy fun w h => ?_
    have := q _ (VebT.mk hx h)
    rw [Asc.first hx.asc ((hSS _).2 (.inl rfl)) fun z hz => ?_] at this
    · exact this
    · rcases (hSS z).1 hz with rfl | rfl | hz
      · omega
      · omega
      · have := hQ z hz; omega
theorem veb_Max_spec {K : Int → Bool → World → Prop} (h : Sat w (VebT v s :: M)) (q : ∀ w', Sat w' (VebT v s :: M) → oK s.ks.getLast? fun r b => K r b w') : veb_VEB_Max.C (some ⟨v, 0, none⟩) w K := by
  obtain ⟨x, hx, h⟩ := VebT.un h
  apply veb_VEB_Max.ok
  refine veb_start_spec h fun w h => ?_
  rw [hx.dec]
  refine cond_c (fun h1 => ?_) fun h1 => ?_
  · have h1 : s.ks = [] := by simpa using h1
    have := q _ (VebT.mk hx h)
    rw [h1] at this; exact this
  · obtain ⟨i, own, e, hr, hV, h2, h3⟩ := hx.pos.1 (by simpa using h1)
    obtain ⟨_, y, hy, _⟩ := VR.self hV
    obtain ⟨Q, ow, hlev, hbits, hle, hmx, hin, hQ, hSS, _, _⟩ := VR.node hV hy
    refine veb_root h ?_
    rw [hr]
    refine veb_read_spec h hy fun w h => ?_
    have := q _ (VebT.mk hx h)
    rw [Asc.last hx.asc ((hSS _).2 (.inr (.inl rfl))) fun z hz => ?_] at this
    · exact this
    · rcases (hSS z).1 hz with rfl | rfl | hz
      · omega
      · omega
      · have := hQ z hz; omega
theorem veb_Len_spec {K : Int → World → Prop} (h : Sat w (VebT v s :: M)) (q : K s.ks.length w) : veb_VEB_Len.C (some ⟨v, 0, none⟩) w K := by
  obtain ⟨x, hx, h⟩ := VebT.un h
  apply veb_VEB_Len.ok
  refine cond_f rfl ?_
  refine veb_cnt h ?_
  rw [hx.cnt]; exact q
theorem veb_Clear_spec {K : World → Prop} (h : Sat w (VebT v s :: M)) (q : ∀ w', Sat w' (VebT v ⟨[], s.lim⟩ :: M) → K w') : veb_VEB_Clear.C (some ⟨v, 0, none⟩) w K := by
  obtain ⟨x, hx, h⟩ := VebT.un h
  apply veb_VEB_Clear.ok
  refine cond_t rfl ?_
  obtain ⟨m, t, f, g, hR, h⟩ := VebR.un h
  refine lP.of h (by rfl) ?_
  refine pool_Pool_veb_node_Clear_spec (s := ⟨m, f, x.n, x.lim⟩) (by exact h) fun w h => ?_
  refine lP.of h (by rfl) ?_
  refine hash_Clear_spec (s := ⟨m, g, x.nt⟩) (by exact h) fun w h => ?_
  refine stP.of h (Nat.le_of_ble_eq_true rfl) fun w h => ?_
  refine stP.of h (Nat.le_of_ble_eq_true rfl) fun w h => ?_
  refine q _ (VebT.mk (x := ⟨fun _ => none, 0, x.lim, 0, -1, 0, x.p⟩) ⟨List.Pairwise.nil, fun k hk => (by cases hk), rfl, hx.lim, hx.llim, .inl ⟨rfl, rfl, rfl, fun _ => rfl⟩⟩ ?_)
  exact VebR.mk (m := m) (t := t) (f := fun _ => none) (g := fun _ _ => none) ⟨fun i => rfl, fun i x h => (by cases h), fun L i h _ _ => rfl⟩ h
end
end Go.St
