/- Contracts: cursors. -/
import Derived.Test.YtkapfochgkdhaaaGreatCtF
import Derived.Test.YtkapfochgkdhaaaGreatCtL0
import Derived.Test.YtkapfochgkdhaaaGreatF0
namespace Go.St
open Go Go.Proofs
attribute [local irreducible] stP alP drP stCs lI64 lU64 lU8 lB lP lL lR AppV ClrV InvV

def curC (x : Nat) (c : Cur) : List Value := [.pointer (some ⟨x, 0, none⟩), .int .u64 (c.ver : Int), .int .u64 (c.lo : Int), .int .u64 (c.hi : Int), .int .u64 (c.at' : Int), .bool c.past]
/-- a kept set -/
def KeptR (x : Nat) (s : SS × Nat) : HP := ex fun (v : Value) => sp (blk x [v, .int .u64 (s.2 : Int)]) (SetR v s.1)
section
variable {w : World} {M : List HP} {x : Nat} {s : SS} {n : Nat}
theorem KeptR.un (h : Sat w (KeptR x (s, n) :: M)) : ∃ t u, Sat w (blk x [.iface t u, .int .u64 (n : Int)] :: SetR (.iface t u) s :: M) := by
  obtain ⟨v, h⟩ := Sat.ex.1 h
  have h := Sat.sep.1 h
  obtain ⟨t, u, rfl⟩ := SetR.nonil (h.pull 1)
  exact ⟨t, u, h⟩
theorem KeptR.mk {v : Value} (h : Sat w (blk x [v, .int .u64 (n : Int)] :: SetR v s :: M)) : Sat w (KeptR x (s, n) :: M) := Sat.ex.2 ⟨v, Sat.sep.2 h⟩
theorem look_Keep_spec {v : Value} {K : Option Addr → World → Prop} (h : Sat w (SetR v s :: M)) (k : ∀ x w', Sat w' (KeptR x (s, 0) :: M) → K (some ⟨x, 0, none⟩) w') : look_Keep.C v w K := by
  obtain ⟨t, u, rfl⟩ := SetR.nonil h
  apply look_Keep.ok
  show alP _ _ _ _
  refine alP.of h fun r w h => ?_
  exact k r w (KeptR.mk h)
theorem look_Keep_nil {K : Option Addr → World → Prop} (k : K none w) : look_Keep.C .nilIface w K := by
  apply look_Keep.ok
  exact k
theorem look_Open_spec {lo hi : Nat} {K : Option Addr → Int → World → Prop} (h : Sat w (KeptR x (s, n) :: M)) (q1 : hi < lo → ∀ w', Sat w' (KeptR x (s, n) :: M) → K none 8 w')
    (q2 : lo ≤ hi → ∀ c w', Sat w' (blk c (curC x ⟨n, lo, hi, lo, false⟩) :: KeptR x (s, n) :: M) → K (some ⟨c, 0, none⟩) 0 w') : look_Kept_Open.C (some ⟨x, 0, none⟩) (lo : Int) (hi : Int) w K := by
  apply look_Kept_Open.ok
  refine cond_f rfl ?_
  refine cond_c (fun hc => ?_) fun hc => ?_
  · exact q1 (by simpa using hc) _ h
  · have hc : lo ≤ hi := by simpa using hc
    obtain ⟨t, u, h⟩ := KeptR.un h
    refine lU64.of h (by rfl) ?_
    have h := KeptR.mk h
    refine alP.of h fun c w h => ?_
    exact q2 hc c w h
variable {c : Nat} {d : Cur}
theorem look_may_spec {K : Int → World → Prop} (h : Sat w (blk c (curC x d) :: KeptR x (s, n) :: M)) (q : ∀ w', Sat w' (blk c (curC x d) :: KeptR x (s, n) :: M) → K (if n = d.ver then 0 else 9) w') : look_Cursor_may.C (some ⟨c, 0, none⟩) w K := by
  apply look_Cursor_may.ok
  refine cond_f rfl ?_
  apply look_Cursor_Stale.ok
  refine drP.of h fun w h => ?_
  refine cond_f rfl ?_
  refine lP.of h (by rfl) ?_
  obtain ⟨t, u, h⟩ := KeptR.un (h.pull 1)
  refine lU64.of h (by rfl) ?_
  refine lU64.of h (by rfl) ?_
  have h := (KeptR.mk h).pull 1
  refine cond_c (fun hc => ?_) fun hc => ?_
  · have hc : n ≠ d.ver := by simp at hc; omega
    have := q _ h; rwa [if_neg hc] at this
  · have hc : n = d.ver := by simp at hc; omega
    have := q _ h; rwa [if_pos hc] at this
theorem look_ahead_spec {K : Int → Int → World → Prop} (h : Sat w (blk c (curC x d) :: KeptR x (s, n) :: M)) (ht : TbOr M (Sml s)) (hd : d.Ok)
    (q : ∀ w', Sat w' (blk c (curC x (cAhead s.ks d).1) :: KeptR x (s, n) :: M) → oE (cAhead s.ks d).2 fun k e => K k e w') : look_Cursor_ahead.C (some ⟨c, 0, none⟩) w K := by
  apply look_Cursor_ahead.ok
  refine lB.of h (by rfl) ?_
  unfold cAhead at q
  refine cond_c (fun hp => ?_) fun hp => ?_
  · rw [if_pos hp] at q; exact q _ h
  · rw [if_neg (by simp [hp])] at q
    refine drP.of h fun w h => ?_
    refine lP.of h (by rfl) ?_
    obtain ⟨t, u, h⟩ := KeptR.un (h.pull 1)
    refine lR.of h (by rfl) ?_
    refine lU64.of h (by rfl) ?_
    show InvV _ _ _ _ _ _
    refine set_Next_spec (h.pull 1) (ht.imp_left fun h => h.c.c) hd.at' fun w h => ?_
    have fin : ∀ {e : Cur} {o : Option Nat} {w : World}, (∀ w', Sat w' (blk c (curC x e) :: KeptR x (s, n) :: M) → oE o fun k e => K k e w') → Sat w (SetR (.iface t u) s :: blk x [.iface t u, .int .u64 (n : Int)] :: blk c (curC x e) :: M) → oE o fun k e => K k e w :=
      fun q h => q _ ((KeptR.mk (h.pull 1)).pull 1)
    cases hn : nxt d.at' s.ks with
    | none =>
      rw [hn] at q
      refine ⟨0, false, rfl, Foc.cells inferInstance h (by rfl), Foc.cells inferInstance h (by rfl), ?_⟩
      refine cond_t rfl ?_
      refine stP.of h (Nat.le_of_ble_eq_true rfl) fun w h => ?_
      exact fin q h
    | some k =>
      rw [hn] at q
      refine ⟨k, true, rfl, Foc.cells inferInstance h (by rfl), Foc.cells inferInstance h (by rfl), ?_⟩
      refine cond_f rfl ?_
      refine lU64.of h (by rfl) ?_
      refine cond_c (fun hc => ?_) fun hc => ?_
      · have hc : d.hi < k := by simpa using hc
        simp only [if_pos hc] at q
        refine stP.of h (Nat.le_of_ble_eq_true rfl) fun w h => ?_
        exact fin q h
      · have hc : ¬ d.hi < k := by simpa using hc
        simp only [if_neg hc] at q
        refine stP.of h (Nat.le_of_ble_eq_true rfl) fun w h => ?_
        exact fin q h
theorem look_Next_spec {K : Int → Int → World → Prop} (h : Sat w (blk c (curC x d) :: KeptR x (s, n) :: M)) (ht : TbOr M (Sml s)) (hd : d.Ok)
    (q0 : n ≠ d.ver → ∀ w', Sat w' (blk c (curC x d) :: KeptR x (s, n) :: M) → K 0 9 w')
    (q : n = d.ver → ∀ w', Sat w' (blk c (curC x (cNext s.ks d).1) :: KeptR x (s, n) :: M) → oE (cNext s.ks d).2 fun k e => K k e w') : look_Cursor_Next.C (some ⟨c, 0, none⟩) w K := by
  apply look_Cursor_Next.ok
  refine look_may_spec h fun w h => ?_
  by_cases hs : n = d.ver
  · rw [if_pos hs]
    refine cond_f rfl ?_
    refine look_ahead_spec h ht hd fun w h => ?_
    have q := q hs
    unfold cNext at q
    have hi1 : (cAhead s.ks d).1.hi = d.hi := by
      unfold cAhead; repeat' split
      all_goals rfl
    have hk : ∀ k, (cAhead s.ks d).2 = some k → k ≤ d.hi := by
      intro k; unfold cAhead; repeat' split
      all_goals simp
      all_goals intro hk; omega
    generalize cAhead s.ks d = z at q h hi1 hk
    obtain ⟨e, o⟩ := z
    cases o with
    | none => exact q _ h
    | some k =>
      show lU64 _ _ _ _
      refine lU64.of h (by rfl) ?_
      refine cond_c (fun hc => ?_) fun hc => ?_
      · have hc : k = e.hi := by simp at hc; omega
        simp only [if_pos hc] at q
        refine stP.of h (Nat.le_of_ble_eq_true rfl) fun w h => ?_
        exact q _ h
      · have hc : ¬ k = e.hi := by simp at hc; omega
        simp only [if_neg hc] at q
        have := hk k rfl
        have := hd.hi
        simp only at hi1
        rw [wu64_id (by omega) (by omega)]
        refine stP.of h (Nat.le_of_ble_eq_true rfl) fun w h => ?_
        exact q _ h
  · rw [if_neg hs]
    exact cond_t rfl (q0 hs _ h)
theorem look_Prev_spec {K : Int → Int → World → Prop} (h : Sat w (blk c (curC x d) :: KeptR x (s, n) :: M)) (ht : TbOr M (Sml s)) (hd : d.Ok)
    (q0 : n ≠ d.ver → ∀ w', Sat w' (blk c (curC x d) :: KeptR x (s, n) :: M) → K 0 9 w')
    (q : n = d.ver → ∀ w', Sat w' (blk c (curC x (cPrev s.ks d).1) :: KeptR x (s, n) :: M) → oE (cPrev s.ks d).2 fun k e => K k e w') : look_Cursor_Prev.C (some ⟨c, 0, none⟩) w K := by
  apply look_Cursor_Prev.ok
  refine look_may_spec h fun w h => ?_
  by_cases hs : n = d.ver
  · rw [if_pos hs]
    refine cond_f rfl ?_
    have q := q hs
    unfold cPrev at q
    have fin : ∀ {o : Option Nat} {w : World}, cBack s.ks d = o → Sat w (blk c (curC x d) :: KeptR x (s, n) :: M) → oK o fun r b => look_Cursor_Prev.T1 K (some ⟨c, 0, none⟩) r b w := by
      intro o w ho h
      rw [ho] at q
      cases o with
      | none =>
        show look_Cursor_Prev.T1 K _ _ _ w
        unfold look_Cursor_Prev.T1
        refine cond_t rfl ?_
        refine lU64.of h (by rfl) ?_
        refine stP.of h (Nat.le_of_ble_eq_true rfl) fun w h => ?_
        refine stP.of h (Nat.le_of_ble_eq_true rfl) fun w h => ?_
        exact q _ h
      | some k =>
        show look_Cursor_Prev.T1 K _ _ _ w
        unfold look_Cursor_Prev.T1
        refine cond_f rfl ?_
        refine lU64.of h (by rfl) ?_
        refine cond_c (fun hc => ?_) fun hc => ?_
        · have hc : k < d.lo := by simpa using hc
          simp only [if_pos hc] at q
          refine lU64.of h (by rfl) ?_
          refine stP.of h (Nat.le_of_ble_eq_true rfl) fun w h => ?_
          refine stP.of h (Nat.le_of_ble_eq_true rfl) fun w h => ?_
          exact q _ h
        · have hc : ¬ k < d.lo := by simpa using hc
          simp only [if_neg hc] at q
          refine stP.of h (Nat.le_of_ble_eq_true rfl) fun w h => ?_
          refine stP.of h (Nat.le_of_ble_eq_true rfl) fun w h => ?_
          exact q _ h
    refine lB.of h (by rfl) ?_
    refine cond_c (fun hp => ?_) fun hp => ?_
    · have e : cBack s.ks d = prv d.hi s.ks := by unfold cBack; rw [if_pos hp]
      refine drP.of h fun w h => ?_
      refine lP.of h (by rfl) ?_
      obtain ⟨t, u, h⟩ := KeptR.un (h.pull 1)
      refine lR.of h (by rfl) ?_
      refine lU64.of h (by rfl) ?_
      show InvV _ _ _ _ _ _
      refine set_Prev_spec (h.pull 1) (ht.imp_left fun h => h.c.c) hd.hi fun w h => ?_
      have c1 : cellsAre w x 0 [.iface t u] := Foc.cells inferInstance h (by rfl)
      have c2 : cellsAre w c 0 [.pointer (some ⟨x, 0, none⟩)] := Foc.cells inferInstance h (by rfl)
      have := fin e ((KeptR.mk (h.pull 1)).pull 1)
      cases hn : prv d.hi s.ks with
      | none => rw [hn] at this; exact ⟨0, false, rfl, c1, c2, this⟩
      | some k => rw [hn] at this; exact ⟨k, true, rfl, c1, c2, this⟩
    · have hp : d.past = false := hp
      refine drP.of h fun w h => ?_
      refine lU64.of h (by rfl) ?_
      refine lU64.of h (by rfl) ?_
      refine cond_c (fun hc => ?_) fun hc => ?_
      · have hc : d.lo < d.at' := by simpa using hc
        have e : cBack s.ks d = prv (d.at' - 1) s.ks := by unfold cBack; rw [if_neg (by simp [hp]), if_pos hc]
        have hat := hd.at'
        refine drP.of h fun w h => ?_
        refine lP.of h (by rfl) ?_
        obtain ⟨t, u, h⟩ := KeptR.un (h.pull 1)
        refine lR.of h (by rfl) ?_
        refine lU64.of h (by rfl) ?_
        show InvV _ _ _ _ _ _
        rw [wu64_id (by omega) (by omega), show (d.at' : Int) - 1 = ((d.at' - 1 : Nat) : Int) by omega]
        refine set_Prev_spec (h.pull 1) (ht.imp_left fun h => h.c.c) (by omega) fun w h => ?_
        have c1 : cellsAre w x 0 [.iface t u] := Foc.cells inferInstance h (by rfl)
        have c2 : cellsAre w c 0 [.pointer (some ⟨x, 0, none⟩)] := Foc.cells inferInstance h (by rfl)
        have c3 : cellsAre w c 4 [.int .u64 (d.at' : Int)] := Foc.cells inferInstance h (by rfl)
        have := fin e ((KeptR.mk (h.pull 1)).pull 1)
        cases hn : prv (d.at' - 1) s.ks with
        | none => rw [hn] at this; exact ⟨0, false, rfl, c3, c1, c2, this⟩
        | some k => rw [hn] at this; exact ⟨k, true, rfl, c3, c1, c2, this⟩
      · have hc : ¬ d.lo < d.at' := by simpa using hc
        exact fin (by unfold cBack; rw [if_neg (by simp [hp]), if_neg hc]) h
  · rw [if_neg hs]
    exact cond_t rfl (q0 hs _ h)
theorem look_changed_spec {e : Int} {K : Int → World → Prop} (h : Sat w (KeptR x (s, n) :: M)) (hn : n + 1 < 18446744073709551616) (q : ∀ w', Sat w' (KeptR x (s, if e = 0 then n + 1 else n) :: M) → K e w') : look_Kept_changed.C (some ⟨x, 0, none⟩) e w K := by
  apply look_Kept_changed.ok
  refine cond_c (fun hc => ?_) fun hc => ?_
  · have hc : e = 0 := by simpa using hc
    obtain ⟨t, u, h⟩ := KeptR.un h
    refine lU64.of h (by rfl) ?_
    rw [wu64_id (by omega) (by omega)]
    refine stP.of h (Nat.le_of_ble_eq_true rfl) fun w h => ?_
    rw [if_pos hc] at q
    exact q _ (KeptR.mk h)
  · have hc : ¬ e = 0 := by simpa using hc
    rw [if_neg hc] at q
    exact q _ h
theorem look_Insert_spec {k : Nat} {K : Int → World → Prop} (h : Sat w (KeptR x (s, n) :: M)) (hk : k < 18446744073709551616) (hn : n + 1 < 18446744073709551616)
    (q1 : k ∈ s.ks → ∀ w', Sat w' (KeptR x (s, n) :: M) → K 4 w') (q2 : k ∉ s.ks → s.lim < needs s.tag (s.ks.length + 1) → ∀ w', Sat w' (KeptR x (s, n) :: M) → K 5 w')
    (q3 : k ∉ s.ks → ∀ w', Sat w' (KeptR x (⟨s.tag, ins k s.ks, s.lim⟩, n + 1) :: M) → K 0 w') : look_Kept_Insert.C (some ⟨x, 0, none⟩) (k : Int) w K := by
  apply look_Kept_Insert.ok
  refine cond_f rfl ?_
  obtain ⟨t, u, h⟩ := KeptR.un h
  refine lR.of h (by rfl) ?_
  refine set_Insert_spec (h.pull 1) hk (fun hm w h => ?_) (fun hm hl w h => ?_) fun hm w h => ?_
  · exact ⟨4, rfl, look_changed_spec (KeptR.mk (h.pull 1)) hn fun w h => q1 hm w h⟩
  · exact ⟨5, rfl, look_changed_spec (KeptR.mk (h.pull 1)) hn fun w h => q2 hm hl w h⟩
  · exact ⟨0, rfl, look_changed_spec (KeptR.mk (h.pull 1)) hn fun w h => q3 hm w h⟩
end
end Go.St
