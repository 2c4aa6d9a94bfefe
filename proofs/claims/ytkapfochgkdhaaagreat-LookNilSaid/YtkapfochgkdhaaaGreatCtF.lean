/- Contracts: one face for all ways to keep keys. -/
import Derived.Test.YtkapfochgkdhaaaGreatCtS
import Derived.Test.YtkapfochgkdhaaaGreatCtVe
import Derived.Test.YtkapfochgkdhaaaGreatF0
namespace Go.St
open Go Go.Proofs
attribute [local irreducible] stP alP drP stCs lI64 lU64 lU8 lB lP lL lR AppV ClrV

theorem inv_veb_Insert {p : Option Addr} {n : Int} {w : World} {K : Value → World → Prop} (h : CallsV prog 273 #[.pointer p, .int .u64 n] w K) : InvV prog (.iface 185 (.pointer p)) "Insert" #[.int .u64 n] w K := by
  unfold InvV
  have e : (callMethod (.iface 185 (.pointer p)) "Insert" #[.int .u64 n]).run prog w = .ok (.enter 273 #[.pointer p, .int .u64 n]) w := by kernel_rfl
  rw [e]
  exact h
theorem inv_veb_Next {p : Option Addr} {n : Int} {w : World} {K : Value → World → Prop} (h : CallsV prog 278 #[.pointer p, .int .u64 n] w K) : InvV prog (.iface 185 (.pointer p)) "Next" #[.int .u64 n] w K := by
  unfold InvV
  have e : (callMethod (.iface 185 (.pointer p)) "Next" #[.int .u64 n]).run prog w = .ok (.enter 278 #[.pointer p, .int .u64 n]) w := by kernel_rfl
  rw [e]
  exact h
theorem inv_veb_Prev {p : Option Addr} {n : Int} {w : World} {K : Value → World → Prop} (h : CallsV prog 279 #[.pointer p, .int .u64 n] w K) : InvV prog (.iface 185 (.pointer p)) "Prev" #[.int .u64 n] w K := by
  unfold InvV
  have e : (callMethod (.iface 185 (.pointer p)) "Prev" #[.int .u64 n]).run prog w = .ok (.enter 279 #[.pointer p, .int .u64 n]) w := by kernel_rfl
  rw [e]
  exact h
attribute [local irreducible] InvV
/-- a set: how it is kept, its keys, its limit -/
structure SS where
  tag : Nat
  ks : List Nat
  lim : Nat
/-- a limit that is enough -/
def needs (tag n : Nat) : Nat := match tag with
  | 1 => 5 * n
  | _ => 0
def SetT (tag p : Nat) (s : KS) : HP := match tag with
  | 1 => VebT p s
  | _ => pur False
def ity (tag : Nat) : TypeId := match tag with
  | 1 => 185
  | _ => 0
def SetR (v : Value) (s : SS) : HP := ex fun (p : Nat) => sp (pur (v = .iface (ity s.tag) (.pointer (some ⟨p, 0, none⟩)))) (SetT s.tag p ⟨s.ks, s.lim⟩)
/-- where the table of least bits isn't needed -/
def Sml (s : SS) : Prop := match s.tag with
  | 1 => s.ks.length ≤ 4
  | _ => False
abbrev encN (n : Nat) : List Value := [.int .u64 (n : Int)]
section
variable {w : World} {M : List HP} {v : Value} {s : SS}
theorem SetR.mk1 {p : Nat} {ks : List Nat} {lim : Nat} (h : Sat w (VebT p ⟨ks, lim⟩ :: M)) : Sat w (SetR (.iface 185 (.pointer (some ⟨p, 0, none⟩))) ⟨1, ks, lim⟩ :: M) :=
  Sat.ex.2 ⟨p, Sat.sep.2 (Sat.pur.2 ⟨rfl, h⟩)⟩
theorem SetR.un (h : Sat w (SetR v s :: M)) : ∃ p, s.tag = 1 ∧ v = .iface 185 (.pointer (some ⟨p, 0, none⟩)) ∧ Sat w (VebT p ⟨s.ks, s.lim⟩ :: M) := by
  obtain ⟨p, h⟩ := Sat.ex.1 h
  obtain ⟨e, h⟩ := Sat.pur.1 (Sat.sep.1 h)
  obtain ⟨tag, ks, lim⟩ := s
  unfold SetT at h
  split at h
  · next h1 => simp only at h1; subst h1; exact ⟨p, rfl, e, h⟩
  · exact (Sat.pur.1 h).1.elim
theorem SetR.asc (h : Sat w (SetR v s :: M)) : Asc s.ks ∧ (∀ k ∈ s.ks, k < 18446744073709551616) := by
  obtain ⟨p, _, _, h⟩ := SetR.un h
  obtain ⟨x, hx, _⟩ := VebT.un h
  exact ⟨hx.asc, hx.lt⟩
theorem SetR.nonil (h : Sat w (SetR v s :: M)) : ∃ t u, v = .iface t u := by
  obtain ⟨p, _, e, _⟩ := SetR.un h
  exact ⟨_, _, e⟩
theorem set_Insert_spec {k : Nat} {K : Value → World → Prop} (h : Sat w (SetR v s :: M)) (hk : k < 18446744073709551616) (q1 : k ∈ s.ks → ∀ w', Sat w' (SetR v s :: M) → K (.int .i64 4) w')
    (q2 : k ∉ s.ks → s.lim < needs s.tag (s.ks.length + 1) → ∀ w', Sat w' (SetR v s :: M) → K (.int .i64 5) w') (q3 : k ∉ s.ks → ∀ w', Sat w' (SetR v ⟨s.tag, ins k s.ks, s.lim⟩ :: M) → K (.int .i64 0) w') : InvV prog v "Insert" #[.int .u64 (k : Int)] w K := by
  obtain ⟨p, ht, e, h'⟩ := SetR.un h
  clear h; have h := h'; clear h'; subst e
  obtain ⟨tag, ks, lim⟩ := s
  simp only at ht; subst ht
  refine inv_veb_Insert ?_
  refine CallsV.mono (veb_Insert_spec (K := fun n w' => K (.int .i64 n) w') h hk ?_ ?_ ?_) ?_
  · exact fun hm w h => q1 hm w (SetR.mk1 h)
  · exact fun hm hl w h => q2 hm hl w (SetR.mk1 h)
  · exact fun hm w h => q3 hm w (SetR.mk1 h)
  · rintro v w ⟨n, rfl, h⟩; exact h
theorem set_Next_spec {k : Nat} {K : Value → World → Prop} (h : Sat w (SetR v s :: M)) (hd : TbOr M (Sml s)) (hk : k < 18446744073709551616)
    (q : ∀ w', Sat w' (SetR v s :: M) → oK (nxt k s.ks) fun r b => K (.tuple #[.int .u64 r, .bool b]) w') : InvV prog v "Next" #[.int .u64 (k : Int)] w K := by
  obtain ⟨p, ht, e, h'⟩ := SetR.un h
  clear h; have h := h'; clear h'; subst e
  obtain ⟨tag, ks, lim⟩ := s
  simp only at ht; subst ht
  refine inv_veb_Next ?_
  refine CallsV.mono (veb_Next_spec (K := fun r b w' => K (.tuple #[.int .u64 r, .bool b]) w') h hd hk ?_) ?_
  · exact fun w h => q w (SetR.mk1 h)
  · rintro v w ⟨r, b, rfl, h⟩; exact h
theorem set_Prev_spec {k : Nat} {K : Value → World → Prop} (h : Sat w (SetR v s :: M)) (hd : TbOr M (Sml s)) (hk : k < 18446744073709551616)
    (q : ∀ w', Sat w' (SetR v s :: M) → oK (prv k s.ks) fun r b => K (.tuple #[.int .u64 r, .bool b]) w') : InvV prog v "Prev" #[.int .u64 (k : Int)] w K := by
  obtain ⟨p, ht, e, h'⟩ := SetR.un h
  clear h; have h := h'; clear h'; subst e
  obtain ⟨tag, ks, lim⟩ := s
  simp only at ht; subst ht
  refine inv_veb_Prev ?_
  refine CallsV.mono (veb_Prev_spec (K := fun r b w' => K (.tuple #[.int .u64 r, .bool b]) w') h hd hk ?_) ?_
  · exact fun w h => q w (SetR.mk1 h)
  · rintro v w ⟨r, b, rfl, h⟩; exact h
/-- a new set; of tag 1 -/
theorem face_New_spec {tag : Nat} {seed n : Int} {K : Value → Int → World → Prop} (h : Sat w M) (ht : tag = 1) (k0 : ¬ (0 ≤ n ∧ n ≤ 1048576) → ∀ w', Sat w' M → K .nilIface 1 w')
    (k1 : 0 ≤ n → n ≤ 1048576 → ∀ v w', Sat w' (SetR v ⟨tag, [], n.toNat⟩ :: M) → K v 0 w') : face_New.C (tag : Int) seed n w K := by
  subst ht
  apply face_New.ok
  refine cond_t rfl ?_
  refine veb_New_spec h (fun h0 w h => ?_) fun h1 h2 p w h => ?_
  · apply face_made_veb_VEB.ok
    unfold face_made_veb_VEB.F face_New.T1
    refine cond_t rfl ?_
    exact k0 h0 _ h
  · apply face_made_veb_VEB.ok
    unfold face_made_veb_VEB.F face_New.T1
    refine cond_f rfl ?_
    exact k1 h1 h2 _ _ (SetR.mk1 h)
theorem sift_Of_spec {a : Option Addr} {l c : Nat} {xs : List Nat} {K : Value → World → Prop} (h : Sat w M) (rd : Rdb eK M a l xs) (hl : l ≤ 12)
    (k : ∀ v Rg w', (∀ D, Tells prog D v encN (keysOf xs) Rg) → Sat w' (Rg ++ M) → K v w') : sift_Of.C a l c w K := by
  apply sift_Of.ok
  refine slices_Clone_spec h rd (by omega) fun a' c' w h => ?_
  refine slices_Sort_spec h hl fun ys w hp hs h => ?_
  have hlen := Own.len h
  refine slices_Compact_spec h (by omega) hs fun l' zs w ha hm hl' h => ?_
  refine slices_Values_spec h fun r w h => ?_
  have e : zs = keysOf xs := ha.ext asc_keysOf fun x => by rw [hm, hp.mem_iff, mem_keysOf]
  subst e
  exact k _ _ _ (fun _ => slices_Values_tells (by omega)) h
theorem needs_mono {tag a b : Nat} (h : a ≤ b) : needs tag a ≤ needs tag b := by
  unfold needs; split <;> omega
theorem take_ins {ks : List Nat} {i k : Nat} (ha : Asc ks) (hk : ks[i]? = some k) : ins k (ks.take i) = ks.take (i + 1) ∧ k ∉ ks.take i := by
  have hlt : ∀ z ∈ ks.take i, z < k := fun z hz => by
    obtain ⟨j, hj⟩ := List.mem_iff_getElem?.1 hz
    rw [List.getElem?_take] at hj
    split at hj
    · obtain ⟨h1, rfl⟩ := List.getElem?_eq_some_iff.1 hj
      obtain ⟨h2, rfl⟩ := List.getElem?_eq_some_iff.1 hk
      exact List.pairwise_iff_getElem.1 ha j i h1 h2 (by assumption)
    · cases hj
  have htk : Asc (ks.take i) := ha.sublist (List.take_sublist _ _)
  refine ⟨(asc_ins htk).ext (ha.sublist (List.take_sublist _ _)) fun x => ?_, fun hm => by have := hlt k hm; omega⟩
  rw [mem_ins, take_snoc hk, List.mem_append, List.mem_singleton]; exact or_comm
theorem face_fill_spec {tag : Nat} {seed n : Int} {v : Value} {ks : List Nat} {Rg : List HP} {D0 : HP} {K : Value → Int → World → Prop} (h : Sat w (D0 :: (Rg ++ M))) (ht : tag = 1)
    (hv : ∀ D, Tells prog D v encN ks Rg) (ha : Asc ks) (hlt : ∀ k ∈ ks, k < 18446744073709551616)
    (k0 : ¬ (0 ≤ n ∧ n ≤ 1048576) → ∀ w', Sat w' (D0 :: (Rg ++ M)) → K .nilIface 1 w')
    (k1 : n.toNat < needs tag ks.length → ∀ w', Sat w' (D0 :: (Rg ++ M)) → K .nilIface 5 w')
    (k2 : 0 ≤ n → n ≤ 1048576 → ∀ x w', Sat w' (SetR x ⟨tag, ks, n.toNat⟩ :: D0 :: (Rg ++ M)) → K x 0 w') : face_fill.C (tag : Int) seed n v w K := by
  apply face_fill.ok
  refine alP.of h fun r5 w h => ?_
  refine alP.of h fun r7 w h => ?_
  refine face_New_spec h ht (fun h0 w h => ?_) fun h1 h2 x w h => ?_
  · refine alP.of h fun r12 w h => ?_
    show stP _ _ _ _ _
    refine stP.of h (Nat.le_of_ble_eq_true rfl) fun w h => ?_
    refine cond_t rfl ?_
    refine stP.of h (Nat.le_of_ble_eq_true rfl) fun w h => ?_
    refine stP.of h (Nat.le_of_ble_eq_true rfl) fun w h => ?_
    refine lR.of h (by rfl) ?_
    refine lI64.of h (by rfl) ?_
    exact k0 h0 _ h.drop.drop.drop
  · refine alP.of h fun r12 w h => ?_
    obtain ⟨ty, u, rfl⟩ := SetR.nonil (h.pull 1)
    show stP _ _ _ _ _
    refine stP.of h (Nat.le_of_ble_eq_true rfl) fun w h => ?_
    refine cond_f rfl ?_
    unfold face_fill.T1
    have h : Sat w (D0 :: (Rg ++ (SetR (.iface ty u) ⟨tag, [], n.toNat⟩ :: blk r12 [.iface ty u] :: blk r7 [.int .i64 0] :: blk r5 [.nilIface] :: M))) := by
      have h := (h.pull 1).pull 4
      refine h.perm (List.Perm.cons _ ?_)
      exact ((List.perm_append_comm (l₁ := [SetR (.iface ty u) ⟨tag, [], n.toNat⟩, blk r12 [.iface ty u], blk r7 [.int .i64 0], blk r5 [.nilIface]]) (l₂ := Rg)).append_right M).trans (by simp)
    have fin : ∀ {w : World} {A B C : HP}, Sat w (D0 :: (Rg ++ (A :: B :: C :: M))) → Sat w (D0 :: (Rg ++ M)) := fun h => h.sub (.cons_cons _ ((List.Sublist.refl Rg).append (.cons _ (.cons _ (.cons _ (.refl _))))))
    refine rfT.of (fun k : Nat => (k : Int)) (fun _ => rfl) (hv _) (fun i L => L = SetR (.iface ty u) ⟨tag, ks.take i, n.toNat⟩ :: blk r12 [.iface ty u] :: blk r7 [.int .i64 0] :: blk r5 [.nilIface] :: M)
      (fun L => n.toNat < needs tag ks.length ∧ L = blk r12 [.iface ty u] :: blk r7 [.int .i64 5] :: blk r5 [.nilIface] :: M) (fun _ => False) rfl h ?_ ?_ ?_ ?_
    · rintro i s _ W bg k A A' hi rfl h hbg hkn hkr hkx
      obtain ⟨hi1, hi2⟩ := take_ins ha hi
      have hil := (List.getElem?_eq_some_iff.1 hi).1
      have hsk := hlt s (List.mem_of_getElem? hi)
      refine hbg W _ _ h fun w h => ?_
      refine lR.of h (by rfl) ?_
      refine set_Insert_spec h.out hsk (fun hm => absurd hm hi2) (fun _ hl w h => ?_) fun _ w h => ?_
      · refine ⟨5, rfl, cond_t rfl ?_⟩
        have h := h.drop
        refine stP.of h (Nat.le_of_ble_eq_true rfl) fun w h => ?_
        refine stP.of h (Nat.le_of_ble_eq_true rfl) fun w h => ?_
        refine hkr w _ ⟨Nat.lt_of_lt_of_le hl (needs_mono ?_), rfl⟩ h
        simp; omega
      · refine ⟨0, rfl, cond_f rfl ?_⟩
        rw [hi1] at h
        exact hkn w _ rfl h.inn
    · rintro D W _ rfl h
      refine lR.of h (by rfl) ?_
      show stP _ _ _ _ _
      refine stP.of h (Nat.le_of_ble_eq_true rfl) fun w h => ?_
      refine stP.of h (Nat.le_of_ble_eq_true rfl) fun w h => ?_
      obtain ⟨e, h⟩ := Sat.dfr h (.deferred none)
      refine ⟨e, ?_⟩
      refine lR.of h (by rfl) ?_
      refine lI64.of h (by rfl) ?_
      rw [List.take_length] at h
      have h := h.perm (List.perm_middle (l₁ := D0 :: Rg))
      exact k2 h1 h2 _ _ (h.sub (.cons_cons _ (.cons_cons _ ((List.Sublist.refl Rg).append (.cons _ (.cons _ (.cons _ (.refl _))))))))
    · rintro D W _ ⟨hf, rfl⟩ h
      obtain ⟨e, h⟩ := Sat.dfr h (.deferred none)
      refine ⟨e, ?_⟩
      refine lR.of h (by rfl) ?_
      refine lI64.of h (by rfl) ?_
      exact k1 hf _ (fin h)
    · rintro D W _ hf h
      exact hf.elim
theorem face_Build_spec {tag : Nat} {seed n : Int} {a : Option Addr} {l c : Nat} {xs : List Nat} {D0 : HP} {K : Value → Int → World → Prop} (h : Sat w (D0 :: M)) (rd : Rdb eK (D0 :: M) a l xs) (ht : tag = 1) (hl : l ≤ 12) (hlt : ∀ k ∈ xs, k < 18446744073709551616)
    (k0 : ¬ (0 ≤ n ∧ n ≤ 1048576) → ∀ w', Sat w' (D0 :: M) → K .nilIface 1 w')
    (k1 : n.toNat < needs tag (keysOf xs).length → ∀ w', Sat w' (D0 :: M) → K .nilIface 5 w')
    (k2 : 0 ≤ n → n ≤ 1048576 → ∀ x w', Sat w' (SetR x ⟨tag, keysOf xs, n.toNat⟩ :: D0 :: M) → K x 0 w') : face_Build.C (tag : Int) seed n a l c w K := by
  apply face_Build.ok
  refine sift_Of_spec h rd hl fun v Rg w hv h => ?_
  have h := h.perm (List.perm_middle (l₁ := Rg))
  have cut : ∀ {w : World}, Sat w (D0 :: (Rg ++ M)) → Sat w (D0 :: M) := fun h => h.sub (.cons_cons _ (List.sublist_append_right _ _))
  refine face_fill_spec h ht hv asc_keysOf (fun k hk => hlt k (mem_keysOf.1 hk)) (fun h0 w h => k0 h0 w (cut h)) (fun h0 w h => k1 h0 w (cut h)) fun h1 h2 x w h => ?_
  exact k2 h1 h2 x w (h.sub (.cons_cons _ (.cons_cons _ (List.sublist_append_right _ _))))
end
end Go.St
