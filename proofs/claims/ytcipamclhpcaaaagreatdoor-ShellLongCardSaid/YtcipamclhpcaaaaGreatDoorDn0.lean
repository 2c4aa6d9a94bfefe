import Derived.Test.YtcipamclhpcaaaaGreatDoorCt0
import Derived.Test.YtcipamclhpcaaaaGreatDoorForms0
import Derived.Test.YtcipamclhpcaaaaGreatDoorForms1
import Derived.Lib.LaidU8
import Derived.LaidLaws
import Derived.OpenShut
import Derived.Shelf.Vars
import Derived.Handed
import Derived.ProofKit
import Derived.Test.YtcipamclhpcaaaaGreatDoorStY
import Derived.Lib.CutLaws
import Derived.Lib.CountLaws
import Derived.Lib.SplitLaws
import Derived.Lib.Split
import Derived.Test.YtcipamclhpcaaaaGreatDoorLib
import Derived.WalkKit
import Derived.BigCall
import Derived.BigGuard
import Derived.Lib.Walk
import Derived.Lib.ItoaMem
import Derived.Lib.AppendIntMem
import Derived.Lib.Builder
import Derived.Lib.UnsafeStr
import Derived.Test.YtcipamclhpcaaaaGreatDoorStZ
set_option linter.unusedVariables false
set_option linter.unusedSimpArgs false
/- Contracts: what is made anew, of whatever kind: that it ends. -/
namespace Go.St
open Go Go.Proofs
attribute [local irreducible] stP alP drP stCs lI64 lU64 lU8 lB lP lL lR AppV ClrV
section
variable {w : World} {M : List HP}
theorem chain_New_any {m : Nat} {n : Int} {K : Option Addr → Int → World → Prop} (h : Sat w M) (k0 : K none 1 w) (k1 : ∀ c w', Sat w' M → K (some ⟨c, 0, none⟩) 0 w') : chain_New.C (some ⟨m, 0, none⟩) n w K := by
  apply chain_New.ok
  refine pool_New_chain_link_spec h (fun _ => ?_) fun h1 h2 p w h => ?_
  · exact cond_t rfl k0
  refine cond_f rfl ?_
  obtain ⟨cs, fr, ca, cl, cc, fa, fl, fc, hp, h⟩ := PoolR.un h
  refine lP.of h (by rfl) ?_
  refine alP.of h fun c w h => ?_
  exact k1 c w h.drop.drop.drop.drop
theorem xfast_New_any {seed n : Int} {K : Option Addr → Int → World → Prop} (h : Sat w M) (k0 : ∀ w', Sat w' M → K none 1 w')
    (k1 : ∀ t m w' cs, Sat w' (blk t (.pointer (some ⟨m, 0, none⟩) :: cs) :: M) → K (some ⟨t, 0, none⟩) 0 w') : xfast_New.C seed n w K := by
  apply xfast_New.ok
  refine count_New_spec h fun m w h => ?_
  refine chain_New_any h (cond_t rfl (k0 _ h.drop)) fun c w h => ?_
  refine cond_f rfl ?_
  refine hash_New_spec h fun t w h => ?_
  refine alP.of h fun x w h => ?_
  exact k1 x m w _ ((h.pull 1).drop.pull 1).drop
theorem yfast_New_any {seed n : Int} {K : Option Addr → Int → World → Prop} (h : Sat w M) (k0 : ∀ w', Sat w' M → K none 1 w')
    (k1 : ∀ t w', Sat w' M → K (some ⟨t, 0, none⟩) 0 w') : yfast_New.C seed n w K := by
  apply yfast_New.ok
  refine xfast_New_any h (fun w h => cond_t rfl (k0 _ h)) fun t m w cs h => ?_
  refine cond_f rfl ?_
  refine lP.of h (by rfl) ?_
  refine pool_New_yfast_cell_spec h (fun _ => ?_) fun h1 h2 p w h => ?_
  · exact cond_t rfl (k0 _ h.drop)
  refine cond_f rfl ?_
  refine drP.of h fun w h => ?_
  refine lP.of h (by rfl) ?_
  refine lP.of h (by rfl) ?_
  refine hash_New_spec h fun u w h => ?_
  refine ⟨Foc.cells inferInstance h (by rfl), ?_⟩
  refine alP.of h fun x w h => ?_
  refine ⟨Foc.cells inferInstance h (by rfl), ?_⟩
  exact k1 x w h.drop.drop.drop.drop
theorem slots_New_any {seed n : Int} {K : Option Addr → Int → World → Prop} (h : Sat w M) (k0 : ∀ w', Sat w' M → K none 1 w')
    (k1 : ∀ t w', Sat w' M → K (some ⟨t, 0, none⟩) 0 w') : slots_New.C seed n w K := by
  apply slots_New.ok
  refine count_New_spec h fun m w h => ?_
  refine pool_New_uint64_spec h (fun _ => ?_) fun h1 h2 p w h => ?_
  · exact cond_t rfl (k0 _ h.drop)
  refine cond_f rfl ?_
  refine hash_New_spec h fun t w h => ?_
  refine alP.of h fun x w h => ?_
  exact k1 x w h.drop.drop.drop.drop
theorem roar_New_any {n : Int} {K : Option Addr → Int → World → Prop} (h : Sat w M) (k0 : ∀ w', Sat w' M → K none 1 w')
    (k1 : ∀ t w', Sat w' M → K (some ⟨t, 0, none⟩) 0 w') : roar_New.C n w K := by
  apply roar_New.ok
  refine cond_c (fun _ => k0 _ h) fun _ => cond_c (fun _ => k0 _ h) fun _ => ?_
  refine count_New_spec h fun m w h => ?_
  refine alP.of h fun x w h => ?_
  exact k1 x w h.drop.drop
theorem face_New_any {tag seed n : Int} {K : Value → Int → World → Prop} (h : Sat w M) (k0 : ∀ w', Sat w' M → K .nilIface 1 w')
    (k1 : ∀ t u w', Sat w' M → K (.iface t (.pointer u)) 0 w') : face_New.C tag seed n w K := by
  apply face_New.ok
  refine cond_c (fun _ => ?_) fun _ => cond_c (fun _ => ?_) fun _ => cond_c (fun _ => ?_) fun _ => cond_c (fun _ => ?_) fun _ => cond_c (fun _ => ?_) fun _ => ?_
  · refine veb_New_spec h (fun _ w h => ?_) fun _ _ p w h => ?_
    · apply face_made_veb_VEB.ok; unfold face_made_veb_VEB.F face_New.T1; exact cond_t rfl (k0 _ h)
    · apply face_made_veb_VEB.ok; unfold face_made_veb_VEB.F face_New.T1; exact cond_f rfl (k1 _ _ _ h.drop)
  · refine xfast_New_any h (fun w h => ?_) fun p _ w _ h => ?_
    · apply face_made_xfast_XFast.ok; unfold face_made_xfast_XFast.F face_New.T1; exact cond_t rfl (k0 _ h)
    · apply face_made_xfast_XFast.ok; unfold face_made_xfast_XFast.F face_New.T1; exact cond_f rfl (k1 _ _ _ h.drop)
  · refine yfast_New_any h (fun w h => ?_) fun p w h => ?_
    · apply face_made_yfast_YFast.ok; unfold face_made_yfast_YFast.F face_New.T1; exact cond_t rfl (k0 _ h)
    · apply face_made_yfast_YFast.ok; unfold face_made_yfast_YFast.F face_New.T1; exact cond_f rfl (k1 _ _ _ h)
  · refine trie_New_spec h (fun _ w h => ?_) fun _ _ p w h => ?_
    · apply face_made_trie_Trie.ok; unfold face_made_trie_Trie.F face_New.T1; exact cond_t rfl (k0 _ h)
    · apply face_made_trie_Trie.ok; unfold face_made_trie_Trie.F face_New.T1; exact cond_f rfl (k1 _ _ _ h.drop)
  · refine roar_New_any h (fun w h => ?_) fun p w h => ?_
    · apply face_made_roar_Roar.ok; unfold face_made_roar_Roar.F face_New.T1; exact cond_t rfl (k0 _ h)
    · apply face_made_roar_Roar.ok; unfold face_made_roar_Roar.F face_New.T1; exact cond_f rfl (k1 _ _ _ h)
  · unfold face_New.T1; exact cond_t rfl (k0 _ h)
theorem dict_New_any {tag seed n : Int} {K : Option Addr → Int → World → Prop} (h : Sat w M) (k0 : ∀ w', Sat w' M → K none 1 w')
    (k1 : ∀ t w', Sat w' M → K (some ⟨t, 0, none⟩) 0 w') : dict_New.C tag seed n w K := by
  apply dict_New.ok
  refine face_New_any h (fun w h => cond_t rfl (k0 _ h)) fun t u w h => ?_
  refine cond_f rfl ?_
  refine slots_New_any h (fun w h => cond_t rfl (k0 _ h)) fun s w h => ?_
  refine cond_f rfl ?_
  show alP _ _ _ _
  refine alP.of h fun x w h => ?_
  exact k1 x w h.drop
theorem look_Keep_any {t : Nat} {u : Option Addr} {K : Option Addr → World → Prop} (h : Sat w M) (k : ∀ x w', Sat w' (blk x [.iface t (.pointer u), .int .u64 0] :: M) → K (some ⟨x, 0, none⟩) w') : look_Keep.C (.iface t (.pointer u)) w K := by
  apply look_Keep.ok
  show alP _ _ _ _
  refine alP.of h fun r w h => ?_
  exact k r w h
theorem shelf_made_any {m : Bool} {tag seed n : Int} {K : Option Addr → Int → World → Prop} (h : Sat w M) (k0 : ∀ w', Sat w' M → K none 1 w')
    (k1 : ∀ t w', Sat w' M → K (some ⟨t, 0, none⟩) 0 w') : shelf_made.C m tag seed n w K := by
  apply shelf_made.ok
  refine alP.of h fun r w h => ?_
  refine lB.of h (by rfl) ?_
  refine cond_c (fun _ => ?_) fun _ => ?_
  · refine lI64.of h (by rfl) ?_
    refine lU64.of h (by rfl) ?_
    refine lI64.of h (by rfl) ?_
    refine dict_New_any h (fun w h => cond_t rfl (k0 _ h.drop)) fun t w h => ?_
    refine cond_f rfl ?_
    refine drP.of h fun w h => ?_
    refine lAb_i64_u64_i64.of h (by rfl) ?_
    refine look_Keep_any h fun x w h => ?_
    refine ⟨Foc.cells inferInstance h (by rfl), ?_⟩
    refine alP.of h fun y w h => ?_
    refine ⟨Foc.cells inferInstance h (by rfl), ?_⟩
    exact k1 y w h.drop.drop.drop
  · refine lI64.of h (by rfl) ?_
    refine lU64.of h (by rfl) ?_
    refine lI64.of h (by rfl) ?_
    refine face_New_any h (fun w h => cond_t rfl (k0 _ h.drop)) fun t u w h => ?_
    refine cond_f rfl ?_
    refine drP.of h fun w h => ?_
    refine lAb_i64_u64_i64.of h (by rfl) ?_
    refine look_Keep_any h fun x w h => ?_
    refine ⟨Foc.cells inferInstance h (by rfl), ?_⟩
    refine alP.of h fun y w h => ?_
    refine ⟨Foc.cells inferInstance h (by rfl), ?_⟩
    exact k1 y w h.drop.drop.drop
end
end Go.St

/- Contracts: a shelf none of whose handles is open; a player with it. -/
namespace Go.St
open Go Go.Proofs
attribute [local irreducible] stP alP drP stCs lI64 lU64 lU8 lB lP lL lR AppV ClrV
def nil8 : List Value := [.pointer none, .pointer none, .pointer none, .pointer none, .pointer none, .pointer none, .pointer none, .pointer none]
theorem nil8_get {n : Nat} (h : n < 8) : nil8[n]? = some (.pointer none) := by
  match n, h with
  | 0, _ => rfl
  | 1, _ => rfl
  | 2, _ => rfl
  | 3, _ => rfl
  | 4, _ => rfl
  | 5, _ => rfl
  | 6, _ => rfl
  | 7, _ => rfl
section
variable {w : World} {L : List HP} {s : Nat} {F : HP → List HP} [i : Foc blk s nil8 L F] {n : Int}
include i
theorem shelf_at_nil {K : Option Addr → World → Prop} (h : Sat w L) (k : K none w) : shelf_Shelf_at.C (some ⟨s, 0, none⟩) n w K := by
  apply shelf_Shelf_at.ok
  refine cond_f rfl (cond_c (fun _ => k) fun h1 => cond_c (fun _ => k) fun h2 => ?_)
  simp at h1 h2
  refine ⟨h1, by omega, ?_⟩
  refine lP.of h (n := none) ?_ k
  rw [show 0 + n.toNat * 1 = n.toNat by omega]
  exact nil8_get (by omega)
theorem shelf_Taken_nil {K : Bool → World → Prop} (h : Sat w L) (k : K false w) : shelf_Shelf_Taken.C (some ⟨s, 0, none⟩) n w K := by
  apply shelf_Shelf_Taken.ok
  exact shelf_at_nil h k
theorem shelf_Close_nil {K : Int → World → Prop} (h : Sat w L) (k : K 6 w) : shelf_Shelf_Close.C (some ⟨s, 0, none⟩) n w K := by
  apply shelf_Shelf_Close.ok
  exact shelf_Taken_nil h (cond_t rfl k)
theorem shelf_Insert_nil {k : Int} {K : Int → World → Prop} (h : Sat w L) (q : K 6 w) : shelf_Shelf_Insert.C (some ⟨s, 0, none⟩) n k w K := by
  apply shelf_Shelf_Insert.ok
  exact shelf_at_nil h (cond_f rfl q)
theorem shelf_Put_nil {k v : Int} {K : Int → World → Prop} (h : Sat w L) (q : K 6 w) : shelf_Shelf_Put.C (some ⟨s, 0, none⟩) n k v w K := by
  apply shelf_Shelf_Put.ok
  exact shelf_at_nil h (cond_t rfl q)
theorem shelf_Delete_nil {k : Int} {K : Int → World → Prop} (h : Sat w L) (q : K 6 w) : shelf_Shelf_Delete.C (some ⟨s, 0, none⟩) n k w K := by
  apply shelf_Shelf_Delete.ok
  exact shelf_at_nil h (cond_f rfl q)
theorem shelf_Wipe_nil {k v : Int} {K : Int → Int → World → Prop} (h : Sat w L) (q : K 0 6 w) : shelf_Shelf_Wipe.C (some ⟨s, 0, none⟩) n k v w K := by
  apply shelf_Shelf_Wipe.ok
  exact shelf_at_nil h (cond_t rfl q)
theorem shelf_Clear_nil {K : Int → World → Prop} (h : Sat w L) (q : K 6 w) : shelf_Shelf_Clear.C (some ⟨s, 0, none⟩) n w K := by
  apply shelf_Shelf_Clear.ok
  exact shelf_at_nil h (cond_t rfl q)
theorem shelf_Join_nil {o : Int} {a : Option Addr} {l c : Nat} {K : Int → World → Prop} (h : Sat w L) (q : K 6 w) : shelf_Shelf_Join.C (some ⟨s, 0, none⟩) o n a l c w K := by
  apply shelf_Shelf_Join.ok
  exact shelf_at_nil h (cond_t rfl q)
theorem shelf_Decode_nil {a : Option Addr} {l c : Nat} {K : Int → World → Prop} (h : Sat w L) (q : K 6 w) : shelf_Shelf_Decode.C (some ⟨s, 0, none⟩) n a l c w K := by
  apply shelf_Shelf_Decode.ok
  exact shelf_at_nil h (cond_t rfl q)
theorem shelf_Get_nil {k : Int} {K : Int → Int → World → Prop} (h : Sat w L) (q : K 0 6 w) : shelf_Shelf_Get.C (some ⟨s, 0, none⟩) n k w K := by
  apply shelf_Shelf_Get.ok
  exact shelf_at_nil h (cond_t rfl q)
theorem shelf_Has_nil {k : Int} {K : Bool → Int → World → Prop} (h : Sat w L) (q : K false 6 w) : shelf_Shelf_Has.C (some ⟨s, 0, none⟩) n k w K := by
  apply shelf_Shelf_Has.ok
  exact shelf_at_nil h (cond_f rfl q)
theorem shelf_Next_nil {k : Int} {K : Int → Int → World → Prop} (h : Sat w L) (q : K 0 6 w) : shelf_Shelf_Next.C (some ⟨s, 0, none⟩) n k w K := by
  apply shelf_Shelf_Next.ok
  exact shelf_at_nil h (cond_f rfl q)
theorem shelf_Prev_nil {k : Int} {K : Int → Int → World → Prop} (h : Sat w L) (q : K 0 6 w) : shelf_Shelf_Prev.C (some ⟨s, 0, none⟩) n k w K := by
  apply shelf_Shelf_Prev.ok
  exact shelf_at_nil h (cond_f rfl q)
theorem shelf_Len_nil {K : Int → Int → World → Prop} (h : Sat w L) (q : K 0 6 w) : shelf_Shelf_Len.C (some ⟨s, 0, none⟩) n w K := by
  apply shelf_Shelf_Len.ok
  exact shelf_at_nil h (cond_f rfl q)
theorem shelf_Rank_nil {k : Int} {K : Int → Int → World → Prop} (h : Sat w L) (q : K 0 6 w) : shelf_Shelf_Rank.C (some ⟨s, 0, none⟩) n k w K := by
  apply shelf_Shelf_Rank.ok
  exact shelf_at_nil h (cond_f rfl q)
theorem shelf_Select_nil {k : Int} {K : Int → Int → World → Prop} (h : Sat w L) (q : K 0 6 w) : shelf_Shelf_Select.C (some ⟨s, 0, none⟩) n k w K := by
  apply shelf_Shelf_Select.ok
  exact shelf_at_nil h (cond_t rfl q)
theorem shelf_Count_nil {k v : Int} {K : Int → Int → World → Prop} (h : Sat w L) (q : K 0 6 w) : shelf_Shelf_Count.C (some ⟨s, 0, none⟩) n k v w K := by
  apply shelf_Shelf_Count.ok
  exact shelf_at_nil h (cond_f rfl q)
theorem shelf_two_nil {k : Int} {K : Value → Value → Int → World → Prop} (h : Sat w L) (q : K .nilIface .nilIface 6 w) : shelf_Shelf_two.C (some ⟨s, 0, none⟩) n k w K := by
  apply shelf_Shelf_two.ok
  exact shelf_Taken_nil h (cond_t rfl q)
theorem shelf_Equal_nil {k : Int} {K : Bool → Int → World → Prop} (h : Sat w L) (q : K false 6 w) : shelf_Shelf_Equal.C (some ⟨s, 0, none⟩) n k w K := by
  apply shelf_Shelf_Equal.ok
  exact shelf_two_nil h (cond_f rfl q)
theorem shelf_Within_nil {k : Int} {K : Bool → Int → World → Prop} (h : Sat w L) (q : K false 6 w) : shelf_Shelf_Within.C (some ⟨s, 0, none⟩) n k w K := by
  apply shelf_Shelf_Within.ok
  exact shelf_two_nil h (cond_f rfl q)
theorem shelf_Encode_nil {K : Option Addr → Nat → Nat → Int → World → Prop} (h : Sat w L) (q : K none 0 0 6 w) : shelf_Shelf_Encode.C (some ⟨s, 0, none⟩) n w K := by
  apply shelf_Shelf_Encode.ok
  exact shelf_at_nil h (cond_t rfl q)
theorem shelf_Cursor_nil {k v : Int} {K : Int → World → Prop} (h : Sat w L) (q : K 6 w) : shelf_Shelf_Cursor.C (some ⟨s, 0, none⟩) n k v w K := by
  apply shelf_Shelf_Cursor.ok
  exact shelf_at_nil h (cond_t rfl q)
theorem shelf_Step_nil {b : Bool} {K : Int → Int → World → Prop} (h : Sat w L) (q : K 0 6 w) : shelf_Shelf_Step.C (some ⟨s, 0, none⟩) n b w K := by
  apply shelf_Shelf_Step.ok
  apply shelf_Shelf_cursor.ok
  exact shelf_at_nil h (cond_t rfl (cond_t rfl q))
theorem shelf_Seek_nil {k : Int} {K : Int → Int → World → Prop} (h : Sat w L) (q : K 0 6 w) : shelf_Shelf_Seek.C (some ⟨s, 0, none⟩) n k w K := by
  apply shelf_Shelf_Seek.ok
  apply shelf_Shelf_cursor.ok
  exact shelf_at_nil h (cond_t rfl (cond_t rfl q))
theorem shelf_Version_nil {K : Int → Int → World → Prop} (h : Sat w L) (q : K 0 6 w) : shelf_Shelf_Version.C (some ⟨s, 0, none⟩) n w K := by
  apply shelf_Shelf_Version.ok
  exact shelf_at_nil h (cond_f rfl q)
end
section
variable {w : World} {M : List HP} {p s : Nat} {d f : Int}
theorem shelf_Open_nil {n tag seed lim : Int} {mp : Bool} {K : Int → World → Prop} (h : Sat w (blk s nil8 :: M)) (q : ∀ e w' cs, Sat w' (blk s cs :: M) → K e w') : shelf_Shelf_Open.C (some ⟨s, 0, none⟩) n mp tag seed lim w K := by
  apply shelf_Shelf_Open.ok
  refine alP.of h fun r w h => ?_
  refine cond_f rfl (cond_c (fun _ => q _ _ _ h.drop) fun h1 => cond_c (fun _ => q _ _ _ h.drop) fun h2 => ?_)
  simp at h1 h2
  refine ⟨h1, by omega, ?_⟩
  refine lP.of h (n := none) ?_ ?_
  · rw [show 0 + n.toNat * 1 = n.toNat by omega]
    exact nil8_get (by omega)
  refine cond_f rfl ?_
  refine lAb_i64_u64_i64.of h (by rfl) ?_
  refine shelf_made_any h (fun w h => cond_f rfl (q _ _ _ h.drop)) fun t w h => cond_t rfl ?_
  refine ⟨h1, by omega, ?_⟩
  refine stP.of h ?_ fun w h => ?_
  · show 0 + n.toNat * 1 < 8
    omega
  · exact q _ _ _ h.drop
variable {a1 a2 a3 : Int} {b1 : Option Addr} {l1 c1 : Nat} {a4 a5 : Int} {b2 : Option Addr} {l2 c2 : Nat} {a6 : Bool} {a7 a8 a9 : Int} {a10 : Bool} {K : Int → Int → Int → Bool → Option Addr → Nat → Nat → Bool → World → Prop}
theorem play_change_nil (h : Sat w (blk p [.pointer (some ⟨s, 0, none⟩), .int .i64 d, .int .i64 f] :: blk s nil8 :: M))
    (q0 : ∀ w', Sat w' (blk p [.pointer (some ⟨s, 0, none⟩), .int .i64 d, .int .i64 f] :: blk s nil8 :: M) → K 0 0 0 false none 0 0 false w')
    (q1 : a1 < 24 → ∀ x1 x2 x3 x4 x5 x6 x7 w', Sat w' (blk p [.pointer (some ⟨s, 0, none⟩), .int .i64 d, .int .i64 f] :: M) → K x1 x2 x3 x4 x5 x6 x7 true w') :
    play_Player_change.C (some ⟨p, 0, none⟩) a1 a2 a3 b1 l1 c1 a4 a5 b2 l2 c2 a6 a7 a8 a9 a10 w K := by
  apply play_Player_change.ok
  refine alP.of h fun r1 w h => ?_
  refine alP.of h fun r2 w h => ?_
  refine alP.of h fun r3 w h => ?_
  refine stCs.of h (Nat.le_of_ble_eq_true rfl) (by simp [Value.oneCell']) fun w h => ?_
  refine lU8.of h (by rfl) ?_
  refine cond_c (fun hc => ?_) fun _ => ?_
  · refine drP.of h fun w h => ?_
    refine lP.of h (by rfl) ?_
    refine lI64.of h (by rfl) ?_
    refine lB.of h (by rfl) ?_
    refine lI64.of h (by rfl) ?_
    refine lU64.of h (by rfl) ?_
    refine lI64.of h (by rfl) ?_
    refine shelf_Open_nil (h.pull 4) fun e w cs h => ?_
    refine ⟨Foc.cells inferInstance h (by rfl), Foc.cells inferInstance h (by rfl), Foc.cells inferInstance h (by rfl), Foc.cells inferInstance h (by rfl), ?_⟩
    refine stP.of h (Nat.le_of_ble_eq_true rfl) fun w h => ?_
    refine lAi64_u64_i64_b_l.of h (by rfl) ?_
    refine stCs.of h (Nat.le_of_ble_eq_true rfl) (by simp [Value.oneCell']) fun w h => ?_
    refine lAi64_u64_i64_b_l.of h (by rfl) ?_
    exact q1 (by simp at hc; omega) _ _ _ _ _ _ _ _ h.drop.drop.drop.drop
  iterate 8
    refine cond_c (fun hc => ?_) fun _ => ?_
    · repeat' first
        | refine drP.of h fun w h => ?_
        | refine lP.of h (by rfl) ?_
        | refine lI64.of h (by rfl) ?_
        | refine lU64.of h (by rfl) ?_
        | refine lL.of h (by rfl) ?_
        | refine shelf_Close_nil h ?_
        | refine shelf_Insert_nil h ?_
        | refine shelf_Put_nil h ?_
        | refine shelf_Delete_nil h ?_
        | refine shelf_Wipe_nil h ?_
        | refine shelf_Clear_nil h ?_
        | refine shelf_Join_nil h ?_
        | refine shelf_Decode_nil h ?_
        | refine stP.of h (Nat.le_of_ble_eq_true rfl) fun w h => ?_
        | refine lAi64_u64_i64_b_l.of h (by rfl) ?_
        | refine stCs.of h (Nat.le_of_ble_eq_true rfl) (by simp [Value.oneCell']) fun w h => ?_
      exact q1 (by simp at hc; omega) _ _ _ _ _ _ _ _ (h.drop.drop.drop.pull 1).drop
  refine stCs.of h (Nat.le_of_ble_eq_true rfl) (by simp [Value.oneCell']) fun w h => ?_
  refine lAi64_u64_i64_b_l.of h (by rfl) ?_
  exact q0 _ h.drop.drop.drop
theorem play_look_nil (h : Sat w (blk p [.pointer (some ⟨s, 0, none⟩), .int .i64 d, .int .i64 f] :: blk s nil8 :: M))
    (q0 : ∀ w', Sat w' (blk p [.pointer (some ⟨s, 0, none⟩), .int .i64 d, .int .i64 f] :: blk s nil8 :: M) → K 0 0 0 false none 0 0 false w')
    (q1 : a1 < 24 → ∀ x1 x2 x3 x4 x5 x6 x7 w', Sat w' (blk p [.pointer (some ⟨s, 0, none⟩), .int .i64 d, .int .i64 f] :: M) → K x1 x2 x3 x4 x5 x6 x7 true w') :
    play_Player_look.C (some ⟨p, 0, none⟩) a1 a2 a3 b1 l1 c1 a4 a5 b2 l2 c2 a6 a7 a8 a9 a10 w K := by
  apply play_Player_look.ok
  refine alP.of h fun r1 w h => ?_
  refine alP.of h fun r2 w h => ?_
  refine alP.of h fun r3 w h => ?_
  refine stCs.of h (Nat.le_of_ble_eq_true rfl) (by simp [Value.oneCell']) fun w h => ?_
  refine lU8.of h (by rfl) ?_
  iterate 8
    refine cond_c (fun hc => ?_) fun _ => ?_
    · repeat' first
        | refine drP.of h fun w h => ?_
        | refine lP.of h (by rfl) ?_
        | refine lI64.of h (by rfl) ?_
        | refine lU64.of h (by rfl) ?_
        | refine shelf_Get_nil h ?_
        | refine shelf_Has_nil h ?_
        | refine shelf_Next_nil h ?_
        | refine shelf_Prev_nil h ?_
        | refine shelf_Len_nil h ?_
        | refine shelf_Rank_nil h ?_
        | refine shelf_Select_nil h ?_
        | refine shelf_Count_nil h ?_
        | refine stP.of h (Nat.le_of_ble_eq_true rfl) fun w h => ?_
        | refine lAi64_u64_i64_b_l.of h (by rfl) ?_
        | refine stCs.of h (Nat.le_of_ble_eq_true rfl) (by simp [Value.oneCell']) fun w h => ?_
      exact q1 (by simp at hc; omega) _ _ _ _ _ _ _ _ (h.drop.drop.drop.pull 1).drop
  refine stCs.of h (Nat.le_of_ble_eq_true rfl) (by simp [Value.oneCell']) fun w h => ?_
  refine lAi64_u64_i64_b_l.of h (by rfl) ?_
  exact q0 _ h.drop.drop.drop
theorem play_other_nil (h : Sat w (blk p [.pointer (some ⟨s, 0, none⟩), .int .i64 d, .int .i64 f] :: blk s nil8 :: M))
    (q0 : ∀ w', Sat w' (blk p [.pointer (some ⟨s, 0, none⟩), .int .i64 d, .int .i64 f] :: blk s nil8 :: M) → K 0 0 0 false none 0 0 false w')
    (q1 : a1 < 24 → ∀ x1 x2 x3 x4 x5 x6 x7 w', Sat w' (blk p [.pointer (some ⟨s, 0, none⟩), .int .i64 d, .int .i64 f] :: M) → K x1 x2 x3 x4 x5 x6 x7 true w') :
    play_Player_other.C (some ⟨p, 0, none⟩) a1 a2 a3 b1 l1 c1 a4 a5 b2 l2 c2 a6 a7 a8 a9 a10 w K := by
  apply play_Player_other.ok
  refine alP.of h fun r1 w h => ?_
  refine alP.of h fun r2 w h => ?_
  refine alP.of h fun r3 w h => ?_
  refine stCs.of h (Nat.le_of_ble_eq_true rfl) (by simp [Value.oneCell']) fun w h => ?_
  refine lU8.of h (by rfl) ?_
  iterate 7
    refine cond_c (fun hc => ?_) fun _ => ?_
    · repeat' first
        | refine drP.of h fun w h => ?_
        | refine lP.of h (by rfl) ?_
        | refine lI64.of h (by rfl) ?_
        | refine lU64.of h (by rfl) ?_
        | refine lB.of h (by rfl) ?_
        | refine shelf_Equal_nil h ?_
        | refine shelf_Within_nil h ?_
        | refine shelf_Encode_nil h ?_
        | refine shelf_Cursor_nil h ?_
        | refine shelf_Step_nil h ?_
        | refine shelf_Seek_nil h ?_
        | refine shelf_Version_nil h ?_
        | refine stP.of h (Nat.le_of_ble_eq_true rfl) fun w h => ?_
        | refine lAi64_u64_i64_b_l.of h (by rfl) ?_
        | refine stCs.of h (Nat.le_of_ble_eq_true rfl) (by simp [Value.oneCell']) fun w h => ?_
      exact q1 (by simp at hc; omega) _ _ _ _ _ _ _ _ (h.drop.drop.drop.pull 1).drop
  refine stCs.of h (Nat.le_of_ble_eq_true rfl) (by simp [Value.oneCell']) fun w h => ?_
  refine lAi64_u64_i64_b_l.of h (by rfl) ?_
  exact q0 _ h.drop.drop.drop
end
end Go.St

/- Contracts: trees by six bits: one that has one key. -/
namespace Go.St
open Go Go.Proofs
attribute [local irreducible] stP alP drP stCs lI64 lU64 lU8 lB lP lL lR AppV ClrV
/-- a node tells this key as the least and the greatest one -/
def HasKey (f : Nat → Option TNd) (c k : Int) : Prop := 0 ≤ c ∧ ∃ x, f c.toNat = some x ∧ x.mn = k ∧ x.mx = k
theorem HasKey.up {f : Nat → Option TNd} {i : Nat} {b : Int} {a : Option Addr} {l e : Nat} {k : Int} : HasKey (Pl.up f i (some ⟨b, a, l, e, 1, k, k⟩)) (i : Int) k :=
  ⟨by omega, _, by simp [Pl.up]; rfl, rfl, rfl⟩
/-- a tree with one key -/
def TrieO (t lim : Nat) (k : Int) : HP := ex fun (m : Nat) => ex fun (p : Nat) => ex fun (f : Nat → Option TNd) => ex fun (root : Int) =>
  sp (pur (HasKey f root k)) (seps [blk t [.pointer (some ⟨m, 0, none⟩), .pointer (some ⟨p, 0, none⟩), .int .i64 root, .int .i64 1], Mtr m (), PoolR eTNd p ⟨m, f, 11, lim⟩])
section
variable {w : World} {t lim : Nat} {k : Int} {s : TE} {M : List HP}
theorem TrieO.un (h : Sat w (TrieO t lim k :: M)) : ∃ m p f root, HasKey f root k ∧ Sat w (blk t [.pointer (some ⟨m, 0, none⟩), .pointer (some ⟨p, 0, none⟩), .int .i64 root, .int .i64 1] :: Mtr m () :: PoolR eTNd p ⟨m, f, 11, lim⟩ :: M) := by
  obtain ⟨m, h⟩ := Sat.ex.1 h; obtain ⟨p, h⟩ := Sat.ex.1 h; obtain ⟨f, h⟩ := Sat.ex.1 h; obtain ⟨r, h⟩ := Sat.ex.1 h
  obtain ⟨hk, h⟩ := Sat.pur.1 (Sat.sep.1 h)
  exact ⟨m, p, f, r, hk, Sat.seps.1 h⟩
theorem TrieO.mk {m p : Nat} {f : Nat → Option TNd} {root : Int} (hk : HasKey f root k) (h : Sat w (blk t [.pointer (some ⟨m, 0, none⟩), .pointer (some ⟨p, 0, none⟩), .int .i64 root, .int .i64 1] :: Mtr m () :: PoolR eTNd p ⟨m, f, 11, lim⟩ :: M)) : Sat w (TrieO t lim k :: M) :=
  Sat.ex.2 ⟨m, Sat.ex.2 ⟨p, Sat.ex.2 ⟨f, Sat.ex.2 ⟨root, Sat.sep.2 (Sat.pur.2 ⟨hk, Sat.seps.2 h⟩)⟩⟩⟩⟩
theorem trie_grown_zero {a1 k : Int} {a2 : Option Addr} {l c : Nat} {K : Int → Option Addr → Nat → Nat → Int → Int → Int → World → Prop} (h : Sat w M)
    (q : ∀ w', Sat w' M → K a1 a2 l c 1 k k w') : trie_grown.C a1 a2 l c 0 0 0 k w K := by
  have e1 : mnI k k = k := by unfold mnI; split <;> rfl
  have e2 : mxI k k = k := by unfold mxI; split <;> rfl
  apply trie_grown.ok
  refine alP.of h fun r w h => ?_
  refine alP.of h fun r2 w h => ?_
  refine lI64.of h (by rfl) ?_
  refine cond_t rfl ?_
  refine stP.of h (Nat.le_of_ble_eq_true rfl) fun w h => ?_
  refine stP.of h (Nat.le_of_ble_eq_true rfl) fun w h => ?_
  refine lI64.of h (by rfl) ?_
  refine stP.of h (Nat.le_of_ble_eq_true rfl) fun w h => ?_
  refine lU64.of h (by rfl) ?_
  refine lU64.of h (by rfl) ?_
  rw [e1, e2]
  refine stP.of h (Nat.le_of_ble_eq_true rfl) fun w h => ?_
  refine stP.of h (Nat.le_of_ble_eq_true rfl) fun w h => ?_
  refine lAu64_l_i64_u64_u64.of h (by rfl) ?_
  refine stCs.of h (Nat.le_of_ble_eq_true rfl) (by simp [Value.oneCell']) fun w h => ?_
  refine lAu64_l_i64_u64_u64.of h (by rfl) ?_
  exact q _ h.drop.drop
theorem trie_Len_one {K : Int → World → Prop} (h : Sat w (TrieO t lim k :: M)) (q : K 1 w) : trie_Trie_Len.C (some ⟨t, 0, none⟩) w K := by
  apply trie_Trie_Len.ok
  refine cond_f rfl ?_
  obtain ⟨m, p, f, r, _, h⟩ := TrieO.un h
  exact lI64.of h (by rfl) q
theorem trie_one_spec {k : Int} {K : Int → World → Prop} (h : Sat w (TrieE t s :: M)) (hu : s.used = 0) (hn : s.n = 0) (hl : 11 ≤ s.lim) (hl2 : s.lim ≤ 1048576)
    (q : ∀ w', Sat w' (TrieO t s.lim k :: M) → K 0 w') : trie_Trie_Insert.C (some ⟨t, 0, none⟩) k w K := by
  obtain ⟨lim, used, n⟩ := s
  simp only at hu hn hl hl2 q
  subst hu hn
  apply trie_Trie_Insert.ok
  refine cond_f rfl ?_
  apply trie_Trie_Has.ok
  apply trie_Trie_start.ok
  refine cond_f rfl ?_
  obtain ⟨m, p, f, r, h⟩ := TrieE.un h
  refine lP.of h (by rfl) ?_
  refine count_Start_spec h fun w h => ?_
  refine lI64.of h (by rfl) ?_
  refine cond_t rfl ?_
  refine cond_f rfl ?_
  apply trie_Trie_path.ok
  refine lI64.of h (by rfl) ?_
  refine cond_t rfl ?_
  refine lP.of h (by rfl) ?_
  refine pool_Pool_trie_node_Room_spec (s := ⟨m, f, 0, lim⟩) (by exact h) fun w h => ?_
  refine cond_f (by rw [w64_id (by omega) (by omega)]; simp; omega) ?_
  show LoopT _ _ _
  refine LoopT.of (fun s w => ∃ (c j : Int) (u : Nat) (f : Nat → Option TNd), s = (c, j) ∧ -1 ≤ j ∧ j + u = 10 ∧ (0 < u → HasKey f c k) ∧ Sat w (blk t [.pointer (some ⟨m, 0, none⟩), .pointer (some ⟨p, 0, none⟩), .int .i64 r, .int .i64 0] :: Mtr m () :: PoolR eTNd p ⟨m, f, u, lim⟩ :: M)) (fun s => (s.2 + 1).toNat)
    ⟨0, 10, 0, f, rfl, by omega, by omega, fun h0 => absurd h0 (by omega), h⟩ ?_
  rintro s w ⟨c, j, u, f, rfl, h1, h2, hk, h⟩
  refine cond_c (fun hc => ?_) fun hc => ?_
  · have hc : 0 ≤ j := by simpa using hc
    refine trie_at_spec hc (by omega) fun d => ?_
    refine alP.of h fun x w h => ?_
    refine cond_f (by simp; omega) ?_
    have hq : decide (j ≥ (((0 : Nat) : Nat) : Int)) = true := by simp; omega
    rw [hq]
    -- the node is laid
    have t3 : ∀ {b : Int} {a : Option Addr} {l e : Nat} {w : World}, Sat w (blk x [.int .u64 b, .slice a l e, .int .i64 0, .int .u64 0, .int .u64 0] :: blk t [.pointer (some ⟨m, 0, none⟩), .pointer (some ⟨p, 0, none⟩), .int .i64 r, .int .i64 0] :: Mtr m () :: PoolR eTNd p ⟨m, f, u, lim⟩ :: M) →
        trie_Trie_Insert.T3 (fun s' w' => (∃ (c j : Int) (u : Nat) (f : Nat → Option TNd), s' = (c, j) ∧ -1 ≤ j ∧ j + u = 10 ∧ (0 < u → HasKey f c k) ∧ Sat w' (blk t [.pointer (some ⟨m, 0, none⟩), .pointer (some ⟨p, 0, none⟩), .int .i64 r, .int .i64 0] :: Mtr m () :: PoolR eTNd p ⟨m, f, u, lim⟩ :: M)) ∧ (s'.2 + 1).toNat < ((c, j).2 + 1).toNat)
          (some ⟨t, 0, none⟩) k none 0 0 j true x 0 w := by
      intro b a l e w h
      unfold trie_Trie_Insert.T3
      refine lAu64_l_i64_u64_u64.of h (by rfl) ?_
      refine trie_grown_zero h fun w h => ?_
      refine stCs.of h (Nat.le_of_ble_eq_true rfl) (by simp [Value.oneCell']) fun w h => ?_
      refine cond_t rfl ?_
      refine drP.of h fun w h => ?_
      refine lP.of h (by rfl) ?_
      refine lAu64_l_i64_u64_u64.of h (by rfl) ?_
      refine pool_Pool_trie_node_Alloc_spec (s := ⟨m, f, u, lim⟩) (x := ⟨b, a, l, e, 1, k, k⟩) (by exact h) (fun h0 => absurd h0 (by show ¬ lim ≤ u; omega)) fun _ i w _ hi h => ?_
      rw [w64_id (by omega) (by omega)]
      exact ⟨⟨i, j - 1, u + 1, _, rfl, by omega, by omega, fun _ => HasKey.up, h.drop⟩, by simp; omega⟩
    unfold trie_Trie_Insert.T2
    refine lU64.of h (by rfl) ?_
    refine bit_Get_spec (W := 0) (by omega) ?_
    refine cond_t (by simp) ?_
    refine cond_c (fun hj => ?_) fun hj => ?_
    · refine drP.of h fun w h => ?_
      refine lL.of h (by rfl) ?_
      refine lU64.of h (by rfl) ?_
      have e0 : ((pc (0 &&& belowN d) : Nat) : Int) = 0 := by rw [Nat.zero_and]; rfl
      have fin : ∀ {a : Option Addr} {l e : Nat} {w : World}, Sat w (blk x [.int .u64 0, .slice none 0 0, .int .i64 0, .int .u64 0, .int .u64 0] :: blk t [.pointer (some ⟨m, 0, none⟩), .pointer (some ⟨p, 0, none⟩), .int .i64 r, .int .i64 0] :: Mtr m () :: PoolR eTNd p ⟨m, f, u, lim⟩ :: M) →
          stP w x (0 + 1) (.slice a l e) fun w => lU64 w x 0 fun n => bit_Set.C n d w fun n' w => stP w x 0 (.int .u64 n') fun w => trie_Trie_Insert.T3 (fun s' w' => (∃ (c j : Int) (u : Nat) (f : Nat → Option TNd), s' = (c, j) ∧ -1 ≤ j ∧ j + u = 10 ∧ (0 < u → HasKey f c k) ∧ Sat w' (blk t [.pointer (some ⟨m, 0, none⟩), .pointer (some ⟨p, 0, none⟩), .int .i64 r, .int .i64 0] :: Mtr m () :: PoolR eTNd p ⟨m, f, u, lim⟩ :: M)) ∧ (s'.2 + 1).toNat < ((c, j).2 + 1).toNat)
          (some ⟨t, 0, none⟩) k none 0 0 j true x 0 w := by
        intro a l e w h
        refine stP.of h (Nat.le_of_ble_eq_true rfl) fun w h => ?_
        refine lU64.of h (by rfl) ?_
        refine bit_Set_spec (W := 0) (by omega) ?_
        refine stP.of h (Nat.le_of_ble_eq_true rfl) fun w h => ?_
        exact t3 h
      refine ⟨?_, ?_⟩
      · apply slices_Clone_int_int.ok
        refine cond_t rfl ?_
        refine ⟨Foc.cells inferInstance h (by rfl), ?_, ?_⟩
        · refine bit_Rank_spec (W := 0) (by omega) ?_
          refine alP.of h fun r3 w h => ?_
          exact insert_none_spec h e0 fun a l c w h => fin h.drop
        · refine alP.of h fun r3 w h => ?_
          refine ⟨Foc.cells inferInstance h (by rfl), ?_⟩
          refine bit_Rank_spec (W := 0) (by omega) ?_
          exact insert_none_spec h e0 fun a l c w h => fin h.drop
      · refine alP.of h fun r3 w h => ?_
        refine ⟨Foc.cells inferInstance h (by rfl), Foc.cells inferInstance h (by rfl), ?_⟩
        apply slices_Clone_int_int.ok
        refine cond_t rfl ?_
        refine ⟨Foc.cells inferInstance h (by rfl), ?_⟩
        refine bit_Rank_spec (W := 0) (by omega) ?_
        exact insert_none_spec h e0 fun a l c w h => fin h.drop
    · refine lU64.of h (by rfl) ?_
      refine bit_Set_spec (W := 0) (by omega) ?_
      refine stP.of h (Nat.le_of_ble_eq_true rfl) fun w h => ?_
      exact t3 h
  · have hc : ¬ 0 ≤ j := by simpa using hc
    refine stP.of h (Nat.le_of_ble_eq_true rfl) fun w h => ?_
    refine lI64.of h (by rfl) ?_
    refine stP.of h (Nat.le_of_ble_eq_true rfl) fun w h => ?_
    obtain rfl : u = 11 := by omega
    exact q _ (TrieO.mk (hk (by omega)) h)
end
end Go.St

/- Contracts: a player: a handle is opened, a key is put in, asked for. -/
namespace Go.St
open Go Go.Proofs
attribute [local irreducible] stP alP drP stCs lI64 lU64 lU8 lB lP lL lR AppV ClrV InvV
/-- a set in a handle of a shelf that has no other one -/
def One (s : Nat) (tag seed lim : Int) (T : Value → HP) : HP := ex fun (v : Value) => ex fun (r : Nat) => ex fun (x : Nat) => ex fun (n : Int) =>
  sp (pur (∃ t u, v = .iface t (.pointer u))) (seps [blk s [.pointer (some ⟨r, 0, none⟩), .pointer none, .pointer none, .pointer none, .pointer none, .pointer none, .pointer none, .pointer none],
    blk r [.bool false, .int .i64 tag, .int .u64 seed, .int .i64 lim, .pointer (some ⟨x, 0, none⟩), .pointer none, .pointer none, .int .u64 0], blk x [v, .int .u64 n], T v])
section
variable {w : World} {M : List HP} {s : Nat} {tag seed lim : Int} {T T' : Value → HP}
theorem One.un (h : Sat w (One s tag seed lim T :: M)) : ∃ t u r x n, Sat w (blk s [.pointer (some ⟨r, 0, none⟩), .pointer none, .pointer none, .pointer none, .pointer none, .pointer none, .pointer none, .pointer none] ::
    blk r [.bool false, .int .i64 tag, .int .u64 seed, .int .i64 lim, .pointer (some ⟨x, 0, none⟩), .pointer none, .pointer none, .int .u64 0] :: blk x [.iface t (.pointer u), .int .u64 n] :: T (.iface t (.pointer u)) :: M) := by
  obtain ⟨v, h⟩ := Sat.ex.1 h; obtain ⟨r, h⟩ := Sat.ex.1 h; obtain ⟨x, h⟩ := Sat.ex.1 h; obtain ⟨n, h⟩ := Sat.ex.1 h
  obtain ⟨⟨t, u, rfl⟩, h⟩ := Sat.pur.1 (Sat.sep.1 h)
  exact ⟨t, u, r, x, n, Sat.seps.1 h⟩
theorem One.mk {t : TypeId} {u : Option Addr} {r x : Nat} {n : Int} (h : Sat w (blk s [.pointer (some ⟨r, 0, none⟩), .pointer none, .pointer none, .pointer none, .pointer none, .pointer none, .pointer none, .pointer none] ::
    blk r [.bool false, .int .i64 tag, .int .u64 seed, .int .i64 lim, .pointer (some ⟨x, 0, none⟩), .pointer none, .pointer none, .int .u64 0] :: blk x [.iface t (.pointer u), .int .u64 n] :: T (.iface t (.pointer u)) :: M)) : Sat w (One s tag seed lim T :: M) :=
  Sat.ex.2 ⟨_, Sat.ex.2 ⟨r, Sat.ex.2 ⟨x, Sat.ex.2 ⟨n, Sat.sep.2 (Sat.pur.2 ⟨⟨t, u, rfl⟩, Sat.seps.2 h⟩)⟩⟩⟩⟩
theorem shelf_at_one {K : Option Addr → World → Prop} {r : Nat} (h : Sat w (blk s [.pointer (some ⟨r, 0, none⟩), .pointer none, .pointer none, .pointer none, .pointer none, .pointer none, .pointer none, .pointer none] :: M)) (k : K (some ⟨r, 0, none⟩) w) : shelf_Shelf_at.C (some ⟨s, 0, none⟩) 0 w K := by
  apply shelf_Shelf_at.ok
  refine cond_f rfl (cond_f rfl (cond_f rfl ?_))
  refine ⟨by omega, by omega, ?_⟩
  exact lP.of h (by rfl) k
/-- a kind of set is made -/
def Makes (tag seed lim : Int) (T : Value → HP) : Prop := ∀ (w : World) (N : List HP) (K : Value → Int → World → Prop), Sat w N → (∀ t u w', Sat w' (T (.iface t (.pointer u)) :: N) → K (.iface t (.pointer u)) 0 w') → face_New.C tag seed lim w K
/-- a set's answer to a call -/
def Does (nm : String) (ar : Array Value) (T T' : Value → HP) (r : Value) : Prop := ∀ (w : World) (N : List HP) (t : TypeId) (u : Option Addr) (K : Value → World → Prop), Sat w (T (.iface t (.pointer u)) :: N) → (∀ w', Sat w' (T' (.iface t (.pointer u)) :: N) → K r w') → InvV prog (.iface t (.pointer u)) nm ar w K
theorem shelf_Open_one {K : Int → World → Prop} (mk : Makes tag seed lim T) (h : Sat w (blk s nil8 :: M)) (q : ∀ w', Sat w' (One s tag seed lim T :: M) → K 0 w') : shelf_Shelf_Open.C (some ⟨s, 0, none⟩) 0 false tag seed lim w K := by
  apply shelf_Shelf_Open.ok
  refine alP.of h fun r w h => ?_
  refine cond_f rfl (cond_f rfl (cond_f rfl ⟨by omega, by omega, ?_⟩))
  refine lP.of h (n := none) (by rfl) ?_
  refine cond_f rfl ?_
  refine lAb_i64_u64_i64.of h (by rfl) ?_
  apply shelf_made.ok
  refine alP.of h fun r5 w h => ?_
  refine lB.of h (by rfl) ?_
  refine cond_f rfl ?_
  refine lI64.of h (by rfl) ?_
  refine lU64.of h (by rfl) ?_
  refine lI64.of h (by rfl) ?_
  refine mk _ _ _ h fun t u w h => ?_
  refine cond_f rfl ?_
  refine drP.of h fun w h => ?_
  refine lAb_i64_u64_i64.of h (by rfl) ?_
  refine look_Keep_any h fun x w h => ?_
  refine ⟨Foc.cells inferInstance h (by rfl), ?_⟩
  refine alP.of h fun y w h => ?_
  refine ⟨Foc.cells inferInstance h (by rfl), ?_⟩
  refine cond_t rfl ⟨by omega, by omega, ?_⟩
  refine stP.of h (Nat.le_of_ble_eq_true rfl) fun w h => ?_
  have h := h.pull 5
  have h := h.sub (.cons_cons _ (.cons_cons _ (.cons_cons _ (.cons_cons _ (.cons _ (.cons _ (.refl _)))))))
  exact q _ (One.mk h)
theorem shelf_Insert_one {k : Int} {K : Int → World → Prop} (hi : Does "Insert" #[.int .u64 k] T T' (.int .i64 0)) (h : Sat w (One s tag seed lim T :: M)) (q : ∀ w', Sat w' (One s tag seed lim T' :: M) → K 0 w') : shelf_Shelf_Insert.C (some ⟨s, 0, none⟩) 0 k w K := by
  obtain ⟨t, u, r, x, n, h⟩ := One.un h
  apply shelf_Shelf_Insert.ok
  refine shelf_at_one h ?_
  refine cond_t rfl ?_
  refine lP.of h (by rfl) ?_
  apply look_Kept_Insert.ok
  refine cond_f rfl ?_
  refine lR.of h (by rfl) ?_
  refine hi _ _ _ _ _ (h.pull 3) fun w h => ⟨_, rfl, ?_⟩
  apply look_Kept_changed.ok
  refine cond_t rfl ?_
  refine lU64.of h (by rfl) ?_
  refine stP.of h (Nat.le_of_ble_eq_true rfl) fun w h => ?_
  exact q _ (One.mk ((h.pull 3).pull 3 |>.pull 3))
theorem shelf_Len_one {k : Int} {K : Int → Int → World → Prop} (hi : Does "Len" #[] T T (.int .i64 k)) (h : Sat w (One s tag seed lim T :: M)) (q : ∀ w', Sat w' (One s tag seed lim T :: M) → K k 0 w') : shelf_Shelf_Len.C (some ⟨s, 0, none⟩) 0 w K := by
  obtain ⟨t, u, r, x, n, h⟩ := One.un h
  apply shelf_Shelf_Len.ok
  refine shelf_at_one h ?_
  refine cond_t rfl ?_
  refine lP.of h (by rfl) ?_
  refine lR.of h (by rfl) ?_
  refine hi _ _ _ _ _ (h.pull 3) fun w h => ⟨_, rfl, ?_⟩
  exact q _ (One.mk ((h.pull 3).pull 3 |>.pull 3))
theorem shelf_Next_one {a k : Int} {K : Int → Int → World → Prop} (hi : Does "Next" #[.int .u64 a] T T (.tuple #[.int .u64 k, .bool true])) (h : Sat w (One s tag seed lim T :: M)) (q : ∀ w', Sat w' (One s tag seed lim T :: M) → K k 0 w') : shelf_Shelf_Next.C (some ⟨s, 0, none⟩) 0 a w K := by
  obtain ⟨t, u, r, x, n, h⟩ := One.un h
  apply shelf_Shelf_Next.ok
  refine shelf_at_one h ?_
  refine cond_t rfl ?_
  refine lP.of h (by rfl) ?_
  refine lR.of h (by rfl) ?_
  refine hi _ _ _ _ _ (h.pull 3) fun w h => ⟨_, _, rfl, ?_⟩
  apply shelf_found.ok
  refine cond_f rfl ?_
  exact q _ (One.mk ((h.pull 3).pull 3 |>.pull 3))
end
end Go.St

/- Contracts: a player's steps. -/
namespace Go.St
open Go Go.Proofs
attribute [local irreducible] stP alP drP stCs lI64 lU64 lU8 lB lP lL lR AppV ClrV InvV
abbrev Pc (s : Nat) (d f : Int) : List Value := [.pointer (some ⟨s, 0, none⟩), .int .i64 d, .int .i64 f]
section
variable {w : World} {M : List HP} {p s : Nat} {d f : Int} {X Y : HP}
variable {a1 a2 a3 : Int} {b1 : Option Addr} {l1 c1 : Nat} {a4 a5 : Int} {b2 : Option Addr} {l2 c2 : Nat} {a6 : Bool} {a7 a8 a9 : Int} {a10 : Bool}
/-- a call of the changing ones, on the whole -/
def Ch (p s : Nat) (d f : Int) (X Y : HP) (a1 a2 a3 : Int) (b1 : Option Addr) (l1 c1 : Nat) (a4 a5 : Int) (b2 : Option Addr) (l2 c2 : Nat) (a6 : Bool) (a7 a8 a9 : Int) (a10 : Bool) (e k n : Int) (y : Bool) (a : Option Addr) (l c : Nat) : Prop :=
  ∀ (w : World) (N : List HP) (K : Int → Int → Int → Bool → Option Addr → Nat → Nat → Bool → World → Prop), Sat w (blk p (Pc s d f) :: X :: N) → (∀ w', Sat w' (blk p (Pc s d f) :: Y :: N) → K e k n y a l c true w') →
    play_Player_change.C (some ⟨p, 0, none⟩) a1 a2 a3 b1 l1 c1 a4 a5 b2 l2 c2 a6 a7 a8 a9 a10 w K
/-- a call of the asking ones -/
def Lk' (p s : Nat) (d f : Int) (X Y : HP) (a1 a2 a3 : Int) (b1 : Option Addr) (l1 c1 : Nat) (a4 a5 : Int) (b2 : Option Addr) (l2 c2 : Nat) (a6 : Bool) (a7 a8 a9 : Int) (a10 : Bool) (e k n : Int) (y : Bool) (a : Option Addr) (l c : Nat) : Prop :=
  ∀ (w : World) (N : List HP) (K : Int → Int → Int → Bool → Option Addr → Nat → Nat → Bool → World → Prop), Sat w (blk p (Pc s d f) :: X :: N) → (∀ w', Sat w' (blk p (Pc s d f) :: Y :: N) → K e k n y a l c true w') →
    play_Player_look.C (some ⟨p, 0, none⟩) a1 a2 a3 b1 l1 c1 a4 a5 b2 l2 c2 a6 a7 a8 a9 a10 w K
/-- a step, on the whole -/
def Dn (p s : Nat) (d f d' : Int) (X Y : HP) (a1 a2 a3 : Int) (b1 : Option Addr) (l1 c1 : Nat) (a4 a5 : Int) (b2 : Option Addr) (l2 c2 : Nat) (a6 : Bool) (a7 a8 a9 : Int) (a10 : Bool) (e k n : Int) (y : Bool) (a : Option Addr) (l c : Nat) : Prop :=
  ∀ (w : World) (N : List HP) (K : Int → Int → Int → Bool → Option Addr → Nat → Nat → World → Prop), Sat w (blk p (Pc s d f) :: X :: N) → (∀ w', Sat w' (blk p (Pc s d' f) :: Y :: N) → K e k n y a l c w') →
    play_Player_Do.C (some ⟨p, 0, none⟩) a1 a2 a3 b1 l1 c1 a4 a5 b2 l2 c2 a6 a7 a8 a9 a10 w K
theorem play_change_no (ha : a1 = 7 ∨ a1 = 9) {K : Int → Int → Int → Bool → Option Addr → Nat → Nat → Bool → World → Prop} (h : Sat w M) (q0 : ∀ w', Sat w' M → K 0 0 0 false none 0 0 false w') :
    play_Player_change.C (some ⟨p, 0, none⟩) a1 a2 a3 b1 l1 c1 a4 a5 b2 l2 c2 a6 a7 a8 a9 a10 w K := by
  apply play_Player_change.ok
  refine alP.of h fun r1 w h => ?_
  refine alP.of h fun r2 w h => ?_
  refine alP.of h fun r3 w h => ?_
  refine stCs.of h (Nat.le_of_ble_eq_true rfl) (by simp [Value.oneCell']) fun w h => ?_
  refine lU8.of h (by rfl) ?_
  iterate 9 refine cond_f (by rcases ha with rfl | rfl <;> rfl) ?_
  refine stCs.of h (Nat.le_of_ble_eq_true rfl) (by simp [Value.oneCell']) fun w h => ?_
  refine lAi64_u64_i64_b_l.of h (by rfl) ?_
  exact q0 _ h.drop.drop.drop
theorem play_Do_change {e k n : Int} {y : Bool} {a : Option Addr} {l c : Nat} (he : e = 0)
    (hc : Ch p s (w64 (d + 1)) f X Y a1 a2 a3 b1 l1 c1 a4 a5 b2 l2 c2 a6 a7 a8 a9 a10 e k n y a l c) : Dn p s d f (w64 (d + 1)) X Y a1 a2 a3 b1 l1 c1 a4 a5 b2 l2 c2 a6 a7 a8 a9 a10 e k n y a l c := by
  intro w M K h q
  apply play_Player_Do.ok
  refine alP.of h fun r1 w h => ?_
  refine alP.of h fun r2 w h => ?_
  refine cond_f rfl ?_
  refine lI64.of h (by rfl) ?_
  refine stP.of h (Nat.le_of_ble_eq_true rfl) fun w h => ?_
  refine lAu8_i64_i64_l_u64_u64_l_b_i64_u64_i64_b.of h (by rfl) ?_
  refine hc _ (blk r2 _ :: blk r1 _ :: M) _ ((h.pull 3).pull 3) fun w h => ?_
  refine alP.of h fun r3 w h => ?_
  refine stCs.of h (Nat.le_of_ble_eq_true rfl) (by simp [Value.oneCell']) fun w h => ?_
  refine cond_f rfl ?_
  unfold play_Player_Do.T1
  refine cond_f rfl ?_
  unfold play_Player_Do.T2
  refine cond_f rfl ?_
  refine lI64.of h (by rfl) ?_
  refine cond_f (by subst he; rfl) ?_
  refine lAi64_u64_i64_b_l.of h (by rfl) ?_
  refine stCs.of h (Nat.le_of_ble_eq_true rfl) (by simp [Value.oneCell']) fun w h => ?_
  refine lAi64_u64_i64_b_l.of h (by rfl) ?_
  exact q _ (h.drop.sub (.cons_cons _ (.cons_cons _ (.cons _ (.cons _ (.refl _))))))
theorem play_Do_look {e k n : Int} {y : Bool} {a : Option Addr} {l c : Nat} (he : e = 0) (ha : a1 = 7 ∨ a1 = 9)
    (hc : Lk' p s (w64 (d + 1)) f X Y a1 a2 a3 b1 l1 c1 a4 a5 b2 l2 c2 a6 a7 a8 a9 a10 e k n y a l c) : Dn p s d f (w64 (d + 1)) X Y a1 a2 a3 b1 l1 c1 a4 a5 b2 l2 c2 a6 a7 a8 a9 a10 e k n y a l c := by
  intro w M K h q
  apply play_Player_Do.ok
  refine alP.of h fun r1 w h => ?_
  refine alP.of h fun r2 w h => ?_
  refine cond_f rfl ?_
  refine lI64.of h (by rfl) ?_
  refine stP.of h (Nat.le_of_ble_eq_true rfl) fun w h => ?_
  refine lAu8_i64_i64_l_u64_u64_l_b_i64_u64_i64_b.of h (by rfl) ?_
  refine play_change_no ha h fun w h => ?_
  refine alP.of h fun r3 w h => ?_
  refine stCs.of h (Nat.le_of_ble_eq_true rfl) (by simp [Value.oneCell']) fun w h => ?_
  refine cond_t rfl ?_
  refine lAu8_i64_i64_l_u64_u64_l_b_i64_u64_i64_b.of h (by rfl) ?_
  refine hc _ (blk r3 _ :: blk r2 _ :: blk r1 _ :: M) _ ((h.pull 4).pull 4) fun w h => ?_
  refine stCs.of h (Nat.le_of_ble_eq_true rfl) (by simp [Value.oneCell']) fun w h => ?_
  unfold play_Player_Do.T1
  refine cond_f rfl ?_
  unfold play_Player_Do.T2
  refine cond_f rfl ?_
  refine lI64.of h (by rfl) ?_
  refine cond_f (by subst he; rfl) ?_
  refine lAi64_u64_i64_b_l.of h (by rfl) ?_
  refine stCs.of h (Nat.le_of_ble_eq_true rfl) (by simp [Value.oneCell']) fun w h => ?_
  refine lAi64_u64_i64_b_l.of h (by rfl) ?_
  exact q _ (h.sub (.cons_cons _ (.cons_cons _ (.cons _ (.cons _ (.cons _ (.refl _)))))))
theorem play_change_open (hs : ∀ (w : World) (N : List HP) (K : Int → World → Prop), Sat w (X :: N) → (∀ w', Sat w' (Y :: N) → K 0 w') → shelf_Shelf_Open.C (some ⟨s, 0, none⟩) a2 a6 a7 a8 a9 w K) :
    Ch p s d f X Y 0 a2 a3 b1 l1 c1 a4 a5 b2 l2 c2 a6 a7 a8 a9 a10 0 0 0 false none 0 0 := by
  intro w M K h q
  apply play_Player_change.ok
  refine alP.of h fun r1 w h => ?_
  refine alP.of h fun r2 w h => ?_
  refine alP.of h fun r3 w h => ?_
  refine stCs.of h (Nat.le_of_ble_eq_true rfl) (by simp [Value.oneCell']) fun w h => ?_
  refine lU8.of h (by rfl) ?_
  refine cond_t rfl ?_
  refine drP.of h fun w h => ?_
  refine lP.of h (by rfl) ?_
  refine lI64.of h (by rfl) ?_
  refine lB.of h (by rfl) ?_
  refine lI64.of h (by rfl) ?_
  refine lU64.of h (by rfl) ?_
  refine lI64.of h (by rfl) ?_
  refine hs _ _ _ (h.pull 4) fun w h => ?_
  refine ⟨Foc.cells inferInstance h (by rfl), Foc.cells inferInstance h (by rfl), Foc.cells inferInstance h (by rfl), Foc.cells inferInstance h (by rfl), ?_⟩
  refine stP.of h (Nat.le_of_ble_eq_true rfl) fun w h => ?_
  refine lAi64_u64_i64_b_l.of h (by rfl) ?_
  refine stCs.of h (Nat.le_of_ble_eq_true rfl) (by simp [Value.oneCell']) fun w h => ?_
  refine lAi64_u64_i64_b_l.of h (by rfl) ?_
  exact q _ ((h.pull 4).sub (.cons_cons _ (.cons_cons _ (.cons _ (.cons _ (.cons _ (.refl _)))))))
theorem play_change_insert (hs : ∀ (w : World) (N : List HP) (K : Int → World → Prop), Sat w (X :: N) → (∀ w', Sat w' (Y :: N) → K 0 w') → shelf_Shelf_Insert.C (some ⟨s, 0, none⟩) a2 a4 w K) :
    Ch p s d f X Y 2 a2 a3 b1 l1 c1 a4 a5 b2 l2 c2 a6 a7 a8 a9 a10 0 0 0 false none 0 0 := by
  intro w M K h q
  apply play_Player_change.ok
  refine alP.of h fun r1 w h => ?_
  refine alP.of h fun r2 w h => ?_
  refine alP.of h fun r3 w h => ?_
  refine stCs.of h (Nat.le_of_ble_eq_true rfl) (by simp [Value.oneCell']) fun w h => ?_
  refine lU8.of h (by rfl) ?_
  refine cond_f rfl (cond_f rfl (cond_t rfl ?_))
  refine drP.of h fun w h => ?_
  refine lP.of h (by rfl) ?_
  refine lI64.of h (by rfl) ?_
  refine lU64.of h (by rfl) ?_
  refine hs _ _ _ (h.pull 4) fun w h => ?_
  refine stP.of h (Nat.le_of_ble_eq_true rfl) fun w h => ?_
  refine lAi64_u64_i64_b_l.of h (by rfl) ?_
  refine stCs.of h (Nat.le_of_ble_eq_true rfl) (by simp [Value.oneCell']) fun w h => ?_
  refine lAi64_u64_i64_b_l.of h (by rfl) ?_
  exact q _ ((h.pull 4).sub (.cons_cons _ (.cons_cons _ (.cons _ (.cons _ (.cons _ (.refl _)))))))
theorem play_look_next {k : Int} (hs : ∀ (w : World) (N : List HP) (K : Int → Int → World → Prop), Sat w (X :: N) → (∀ w', Sat w' (Y :: N) → K k 0 w') → shelf_Shelf_Next.C (some ⟨s, 0, none⟩) a2 a4 w K) :
    Lk' p s d f X Y 7 a2 a3 b1 l1 c1 a4 a5 b2 l2 c2 a6 a7 a8 a9 a10 0 k 0 false none 0 0 := by
  intro w M K h q
  apply play_Player_look.ok
  refine alP.of h fun r1 w h => ?_
  refine alP.of h fun r2 w h => ?_
  refine alP.of h fun r3 w h => ?_
  refine stCs.of h (Nat.le_of_ble_eq_true rfl) (by simp [Value.oneCell']) fun w h => ?_
  refine lU8.of h (by rfl) ?_
  refine cond_f rfl (cond_f rfl (cond_t rfl ?_))
  refine drP.of h fun w h => ?_
  refine lP.of h (by rfl) ?_
  refine lI64.of h (by rfl) ?_
  refine lU64.of h (by rfl) ?_
  refine hs _ _ _ (h.pull 4) fun w h => ?_
  refine stP.of h (Nat.le_of_ble_eq_true rfl) fun w h => ?_
  refine stP.of h (Nat.le_of_ble_eq_true rfl) fun w h => ?_
  refine lAi64_u64_i64_b_l.of h (by rfl) ?_
  refine stCs.of h (Nat.le_of_ble_eq_true rfl) (by simp [Value.oneCell']) fun w h => ?_
  refine lAi64_u64_i64_b_l.of h (by rfl) ?_
  exact q _ ((h.pull 4).sub (.cons_cons _ (.cons_cons _ (.cons _ (.cons _ (.cons _ (.refl _)))))))
theorem play_look_len {k : Int} (hs : ∀ (w : World) (N : List HP) (K : Int → Int → World → Prop), Sat w (X :: N) → (∀ w', Sat w' (Y :: N) → K k 0 w') → shelf_Shelf_Len.C (some ⟨s, 0, none⟩) a2 w K) :
    Lk' p s d f X Y 9 a2 a3 b1 l1 c1 a4 a5 b2 l2 c2 a6 a7 a8 a9 a10 0 0 k false none 0 0 := by
  intro w M K h q
  apply play_Player_look.ok
  refine alP.of h fun r1 w h => ?_
  refine alP.of h fun r2 w h => ?_
  refine alP.of h fun r3 w h => ?_
  refine stCs.of h (Nat.le_of_ble_eq_true rfl) (by simp [Value.oneCell']) fun w h => ?_
  refine lU8.of h (by rfl) ?_
  refine cond_f rfl (cond_f rfl (cond_f rfl (cond_f rfl (cond_t rfl ?_))))
  refine drP.of h fun w h => ?_
  refine lP.of h (by rfl) ?_
  refine lI64.of h (by rfl) ?_
  refine hs _ _ _ (h.pull 4) fun w h => ?_
  refine stP.of h (Nat.le_of_ble_eq_true rfl) fun w h => ?_
  refine stP.of h (Nat.le_of_ble_eq_true rfl) fun w h => ?_
  refine lAi64_u64_i64_b_l.of h (by rfl) ?_
  refine stCs.of h (Nat.le_of_ble_eq_true rfl) (by simp [Value.oneCell']) fun w h => ?_
  refine lAi64_u64_i64_b_l.of h (by rfl) ?_
  exact q _ ((h.pull 4).sub (.cons_cons _ (.cons_cons _ (.cons _ (.cons _ (.cons _ (.refl _)))))))
end
end Go.St

/- The law of the calls' names. -/
namespace Go.St
open Go Go.Proofs
attribute [local irreducible] stP alP drP stCs lI64 lU64 lU8 lB lP lL lR lS AppV ClrV
theorem inv_trie_Insert {p : Option Addr} {n : Int} {w : World} {K : Value → World → Prop} (h : CallsV prog 470 #[.pointer p, .int .u64 n] w K) : InvV prog (.iface 265 (.pointer p)) "Insert" #[.int .u64 n] w K := by
  unfold InvV
  have e : (callMethod (.iface 265 (.pointer p)) "Insert" #[.int .u64 n]).run prog w = .ok (.enter 470 #[.pointer p, .int .u64 n]) w := by kernel_rfl
  rw [e]
  exact h
theorem inv_trie_Len {p : Option Addr} {w : World} {K : Value → World → Prop} (h : CallsV prog 471 #[.pointer p] w K) : InvV prog (.iface 265 (.pointer p)) "Len" #[] w K := by
  unfold InvV
  have e : (callMethod (.iface 265 (.pointer p)) "Len" #[]).run prog w = .ok (.enter 471 #[.pointer p]) w := by kernel_rfl
  rw [e]
  exact h
attribute [local irreducible] InvV
/-- a tree without keys, as a set -/
def TrS (lim : Nat) (v : Value) : HP := ex fun (t : Nat) => sp (pur (v = .iface 265 (.pointer (some ⟨t, 0, none⟩)))) (TrieE t ⟨lim, 0, 0⟩)
/-- a tree with one key, as a set -/
def TrO (lim : Nat) (k : Int) (v : Value) : HP := ex fun (t : Nat) => sp (pur (v = .iface 265 (.pointer (some ⟨t, 0, none⟩)))) (TrieO t lim k)
theorem makes_trie {seed : Int} {lim : Nat} (h : lim ≤ 1048576) : Makes 4 seed (lim : Int) (TrS lim) := by
  intro w N K hs q
  apply face_New.ok
  refine cond_f rfl (cond_f rfl (cond_f rfl (cond_t rfl ?_)))
  refine trie_New_spec hs (fun h0 => absurd (by omega) h0) fun _ _ t w hs => ?_
  apply face_made_trie_Trie.ok
  unfold face_made_trie_Trie.F face_New.T1
  refine cond_f rfl ?_
  rw [Int.toNat_natCast] at hs
  exact q _ _ _ (Sat.ex.2 ⟨t, Sat.sep.2 (Sat.pur.2 ⟨rfl, hs⟩)⟩)
theorem does_trie_Insert {lim : Nat} {k : Int} (h1 : 11 ≤ lim) (h2 : lim ≤ 1048576) : Does "Insert" #[.int .u64 k] (TrS lim) (TrO lim k) (.int .i64 0) := by
  intro w N t u K hs q
  obtain ⟨a, hs1⟩ := Sat.ex.1 hs
  obtain ⟨e, hs2⟩ := Sat.pur.1 (Sat.sep.1 hs1)
  clear hs hs1
  cases e
  refine inv_trie_Insert ?_
  refine CallsV.mono (trie_one_spec (K := fun n w => n = 0 ∧ Sat w (TrieO a lim k :: N)) hs2 rfl rfl h1 h2 fun w h => ⟨rfl, h⟩) ?_
  rintro v w ⟨n, rfl, rfl, h⟩
  exact q w (Sat.ex.2 ⟨a, Sat.sep.2 (Sat.pur.2 ⟨rfl, h⟩)⟩)
theorem does_trie_Len {lim : Nat} {k : Int} : Does "Len" #[] (TrO lim k) (TrO lim k) (.int .i64 1) := by
  intro w N t u K hs q
  obtain ⟨a, hs1⟩ := Sat.ex.1 hs
  obtain ⟨e, hs2⟩ := Sat.pur.1 (Sat.sep.1 hs1)
  clear hs hs1
  cases e
  refine inv_trie_Len ?_
  refine CallsV.mono (trie_Len_one (K := fun n w => n = 1 ∧ Sat w (TrieO a lim k :: N)) hs2 ⟨rfl, hs2⟩) ?_
  rintro v w ⟨n, rfl, rfl, h⟩
  exact q w (Sat.ex.2 ⟨a, Sat.sep.2 (Sat.pur.2 ⟨rfl, h⟩)⟩)
/-- the calls' names -/
def namesL : List ByteArray := [(⟨#[111, 112, 101, 110]⟩ : ByteArray), (⟨#[99, 108, 111, 115, 101]⟩ : ByteArray), (⟨#[105, 110, 115, 101, 114, 116]⟩ : ByteArray), (⟨#[112, 117, 116]⟩ : ByteArray), (⟨#[100, 101, 108, 101, 116, 101]⟩ : ByteArray), (⟨#[103, 101, 116]⟩ : ByteArray), (⟨#[104, 97, 115]⟩ : ByteArray), (⟨#[110, 101, 120, 116]⟩ : ByteArray), (⟨#[112, 114, 101, 118]⟩ : ByteArray), (⟨#[108, 101, 110]⟩ : ByteArray), (⟨#[114, 97, 110, 107]⟩ : ByteArray), (⟨#[115, 101, 108, 101, 99, 116]⟩ : ByteArray), (⟨#[99, 111, 117, 110, 116]⟩ : ByteArray), (⟨#[119, 105, 112, 101]⟩ : ByteArray), (⟨#[99, 108, 101, 97, 114]⟩ : ByteArray), (⟨#[106, 111, 105, 110]⟩ : ByteArray), (⟨#[101, 113, 117, 97, 108]⟩ : ByteArray), (⟨#[119, 105, 116, 104, 105, 110]⟩ : ByteArray), (⟨#[101, 110, 99, 111, 100, 101]⟩ : ByteArray), (⟨#[100, 101, 99, 111, 100, 101]⟩ : ByteArray), (⟨#[99, 117, 114, 115, 111, 114]⟩ : ByteArray), (⟨#[115, 116, 101, 112]⟩ : ByteArray), (⟨#[115, 101, 101, 107]⟩ : ByteArray), (⟨#[118, 101, 114, 115, 105, 111, 110]⟩ : ByteArray)]
/-- the names lie where the program lays them -/
def GN (M : List HP) : Prop := ∀ w, Sat w M → ∀ i x, namesL[i]? = some x → w.cell? ⟨0, i, none⟩ = some (.string x)
theorem GN.cons {M : List HP} {A : HP} (g : GN M) : GN (A :: M) := fun w h => g w h.drop
theorem names_ne : ∀ n, n < 24 → ((namesL.getD n (⟨#[]⟩ : ByteArray)).toList == (⟨#[]⟩ : ByteArray).toList) = false := by decide +kernel
section
variable {w : World} {M : List HP}
theorem play_Name_spec {n : Nat} {K : ByteArray → World → Prop} (h : Sat w M) (g : GN M) (hn : n < 256) (k : K (namesL.getD n (⟨#[]⟩ : ByteArray)) w) : play_Name.C (n : Int) w K := by
  apply play_Name.ok
  unfold play_Name.F
  rw [w64_id (by omega) (by omega)]
  refine cond_c (fun hc => ?_) fun hc => ?_
  · have hc : 24 ≤ n := by simp at hc; omega
    have e : namesL.getD n (⟨#[]⟩ : ByteArray) = (⟨#[]⟩ : ByteArray) := by
      rw [List.getD_eq_getElem?_getD, List.getElem?_eq_none (by exact hc)]; rfl
    rw [e] at k; exact k
  · have hc : n < 24 := by simp at hc; omega
    refine ⟨by omega, by omega, ?_⟩
    have hx : namesL[n]? = some (namesL.getD n (⟨#[]⟩ : ByteArray)) := by
      rw [List.getD_eq_getElem?_getD, List.getElem?_eq_getElem (by exact hc)]; rfl
    refine lS.mk ?_ k
    rw [show 0 + (n : Int).toNat * 1 = n by omega]
    exact g _ h _ _ hx
theorem rRdI {a : Option Addr} {l : Nat} {xs : List Int} (rd : Rdb eI64 M a l xs) (h : Sat w M) {n : Int} {x : Int} {K : Int → Prop} (h0 : 0 ≤ n) (hx : xs[n.toNat]? = some x) (k : K x) :
    nn a fun b o => 0 ≤ n ∧ n < ((l : Nat) : Int) ∧ lI64 w b (o + Int.toNat n * 1) K := by
  obtain ⟨b, o, rfl, hl, hc⟩ := rd.get h hx
  refine ⟨h0, by omega, lI64.mk ?_ k⟩
  have := hc 0 (by decide)
  simpa [eI64] using this
theorem rRdB {a : Option Addr} {l : Nat} {xs : List Int} (rd : Rdb eU8 M a l xs) (h : Sat w M) {n : Int} {x : Int} {K : Int → Prop} (h0 : 0 ≤ n) (hx : xs[n.toNat]? = some x) (k : K x) :
    nn a fun b o => 0 ≤ n ∧ n < ((l : Nat) : Int) ∧ lU8 w b (o + Int.toNat n * 1) K := by
  obtain ⟨b, o, rfl, hl, hc⟩ := rd.get h hx
  refine ⟨h0, by omega, lU8.mk ?_ k⟩
  have := hc 0 (by decide)
  simpa [eU8] using this
theorem r1_Ints_any {N : Nat} (hN : N ≤ 1000) {a : Option Addr} {l c : Nat} {xs : List Int} {K : Option Addr → Nat → Nat → World → Prop} (h : Sat w M) (rd : Rdb eI64 M a l xs) (hl : l < 2 ^ 63) (q : ∀ a' l' c' w', Sat w' M → K a' l' c' w') : stepstoneref01_Ints.C a l c (N : Int) w K := by
  apply stepstoneref01_Ints.ok
  have hlen := (rd w h).2
  show LoopT _ _ _
  refine LoopT.of (fun s w => ∃ (i : Nat) (a' : Option Addr) (c' : Nat) (ys : List Int), s = (a', ys.length, c', (i : Int)) ∧ i ≤ l ∧ ys.length ≤ i ∧ Sat w (Own eI64 a' (ys.length, c', ys) :: M)) (fun s => l - s.2.2.2.toNat) ⟨0, none, 0, [], rfl, Nat.zero_le _, Nat.zero_le _, Own.nil h⟩ ?_
  rintro s w ⟨i, a', c', ys, rfl, hi, hy, h⟩
  refine cond_c (fun hc => ?_) fun hc => ?_
  · have hc : i < l := by simpa using hc
    have hx : xs[i]? = some xs[i] := List.getElem?_eq_getElem (by omega)
    refine rRdI rd.cons h (by omega) (by rw [Int.toNat_natCast]; exact hx) ?_
    rw [w64_id (by omega) (by omega)]
    refine cond_c (fun hlt => ?_) fun hlt => ?_
    · have hlt : i < N := by simpa using hlt
      have hok : appOk prog #[22, 22] eI64.sz 8 = true := by kernel_rfl
      refine alP.of h fun r w h => ?_
      refine AppV.own (E := eI64) (a := a') (c := c') (ys := [xs[i]]) h hok (Reads.own (E := eI64) (ys := [xs[i]]) (b := r) h (List.prefix_refl _)) rfl (by omega) (by decide) fun a2 c2 w h => ?_
      refine ⟨_, _, _, rfl, ?_⟩
      have e2 : ys.length + 1 = (ys ++ [xs[i]]).length := by simp
      have h := h.drop
      rw [e2] at h
      rw [e2]
      exact ⟨⟨i + 1, a2, c2, ys ++ [xs[i]], by congr, by omega, by simp; omega, h⟩, by simp; omega⟩
    · exact ⟨⟨i + 1, a', c', ys, by congr, by omega, by omega, h⟩, by simp; omega⟩
  · exact q _ _ _ _ h.drop
theorem r1_Bytes_any {N : Nat} (hN : N ≤ 1000) {a : Option Addr} {l c : Nat} {xs : List Int} {K : Option Addr → Nat → Nat → World → Prop} (h : Sat w M) (rd : Rdb eU8 M a l xs) (hl : l < 2 ^ 63) (q : ∀ a' l' c' w', Sat w' M → K a' l' c' w') : stepstoneref01_Bytes.C a l c (N : Int) w K := by
  apply stepstoneref01_Bytes.ok
  have hlen := (rd w h).2
  show LoopT _ _ _
  refine LoopT.of (fun s w => ∃ (i : Nat) (a' : Option Addr) (c' : Nat) (ys : List Int), s = (a', ys.length, c', (i : Int)) ∧ i ≤ l ∧ ys.length ≤ i ∧ Sat w (Own eU8 a' (ys.length, c', ys) :: M)) (fun s => l - s.2.2.2.toNat) ⟨0, none, 0, [], rfl, Nat.zero_le _, Nat.zero_le _, Own.nil h⟩ ?_
  rintro s w ⟨i, a', c', ys, rfl, hi, hy, h⟩
  refine cond_c (fun hc => ?_) fun hc => ?_
  · have hc : i < l := by simpa using hc
    have hx : xs[i]? = some xs[i] := List.getElem?_eq_getElem (by omega)
    refine rRdB rd.cons h (by omega) (by rw [Int.toNat_natCast]; exact hx) ?_
    rw [w64_id (by omega) (by omega)]
    refine cond_c (fun hlt => ?_) fun hlt => ?_
    · have hlt : i < N := by simpa using hlt
      have hok : appOk prog #[24, 24] eU8.sz 1 = true := by kernel_rfl
      refine alP.of h fun r w h => ?_
      refine AppV.own (E := eU8) (a := a') (c := c') (ys := [xs[i]]) h hok (Reads.own (E := eU8) (ys := [xs[i]]) (b := r) h (List.prefix_refl _)) rfl (by omega) (by decide) fun a2 c2 w h => ?_
      refine ⟨_, _, _, rfl, ?_⟩
      have e2 : ys.length + 1 = (ys ++ [xs[i]]).length := by simp
      have h := h.drop
      rw [e2] at h
      rw [e2]
      exact ⟨⟨i + 1, a2, c2, ys ++ [xs[i]], by congr, by omega, by simp; omega, h⟩, by simp; omega⟩
    · exact ⟨⟨i + 1, a', c', ys, by congr, by omega, by omega, h⟩, by simp; omega⟩
  · exact q _ _ _ _ h.drop
variable {a1 a2 a3 : Int} {b1 : Option Addr} {l1 c1 : Nat} {a4 a5 : Int} {b2 : Option Addr} {l2 c2 : Nat} {a6 : Bool} {a7 a8 a9 : Int} {a10 : Bool} {is bs : List Int}
theorem law26_own_spec {K : Int → Int → Int → Option Addr → Nat → Nat → Int → Int → Option Addr → Nat → Nat → Bool → Int → Int → Int → Bool → World → Prop} (h : Sat w M) (rdI : Rdb eI64 M b1 l1 is) (rdB : Rdb eU8 M b2 l2 bs) (hl1 : l1 < 2 ^ 63) (hl2 : l2 < 2 ^ 63)
    (q : ∀ b1 l1 c1 b2 l2 c2 w', Sat w' M → K a1 a2 a3 b1 l1 c1 a4 a5 b2 l2 c2 a6 a7 a8 a9 a10 w') : stepstonelaw26_own.C a1 a2 a3 b1 l1 c1 a4 a5 b2 l2 c2 a6 a7 a8 a9 a10 w K := by
  apply stepstonelaw26_own.ok
  refine alP.of h fun r1 w h => ?_
  refine alP.of h fun r2 w h => ?_
  refine lAu8_i64_i64_l_u64_u64_l_b_i64_u64_i64_b.of h (by rfl) ?_
  apply stepstoneref25_Few.ok
  refine alP.of h fun r3 w h => ?_
  refine alP.of h fun r4 w h => ?_
  refine lL.of h (by rfl) ?_
  refine r1_Ints_any (N := 5) (by decide) h rdI.cons.cons.cons.cons hl1 fun _ _ _ w h => ?_
  refine stP.of h (Nat.le_of_ble_eq_true rfl) fun w h => ?_
  refine lL.of h (by rfl) ?_
  refine r1_Bytes_any (N := 200) (by decide) h rdB.cons.cons.cons.cons hl2 fun _ _ _ w h => ?_
  refine stP.of h (Nat.le_of_ble_eq_true rfl) fun w h => ?_
  refine lAu8_i64_i64_l_u64_u64_l_b_i64_u64_i64_b.of h (by rfl) ?_
  refine stCs.of h (Nat.le_of_ble_eq_true rfl) (by simp [Value.oneCell']) fun w h => ?_
  refine lAu8_i64_i64_l_u64_u64_l_b_i64_u64_i64_b.of h (by rfl) ?_
  refine stCs.of h (Nat.le_of_ble_eq_true rfl) (by simp [Value.oneCell']) fun w h => ?_
  repeat' first
    | refine lU8.of h (by rfl) ?_
    | refine lI64.of h (by rfl) ?_
    | refine lU64.of h (by rfl) ?_
    | refine lB.of h (by rfl) ?_
    | refine lL.of h (by rfl) ?_
  refine stCs.of h (Nat.le_of_ble_eq_true rfl) (by simp [Value.oneCell']) fun w h => ?_
  refine lAu8_i64_i64_l_u64_u64_l_b_i64_u64_i64_b.of h (by rfl) ?_
  exact q _ _ _ _ _ _ _ h.drop.drop.drop.drop
theorem play_New_spec {K : Option Addr → World → Prop} (h : Sat w M) (q : ∀ p s w', Sat w' (blk p (Pc s 0 0) :: blk s nil8 :: M) → K (some ⟨p, 0, none⟩) w') : play_New.C w K := by
  apply play_New.ok
  apply shelf_New.ok
  refine alP.of h fun s w h => ?_
  refine alP.of h fun p w h => ?_
  exact q p s w h
/-- an answer -/
structure Ans where
  e : Int
  k : Int
  n : Int
  y : Bool
  a : Option Addr
  l : Nat
  c : Nat
def eAns : Enc Ans := ⟨fun x => [.int .i64 x.e, .int .u64 x.k, .int .i64 x.n, .bool x.y, .slice x.a x.l x.c], 5, by decide, fun _ => rfl, fun x v h => by
  simp only [List.mem_cons, List.not_mem_nil, or_false] at h
  rcases h with rfl | rfl | rfl | rfl | rfl <;> rfl⟩
theorem play_Do_nil {p s : Nat} {K : Int → Int → Int → Bool → Option Addr → Nat → Nat → World → Prop} (h : Sat w (blk p (Pc s 0 0) :: blk s nil8 :: M))
    (q : ∀ x1 x2 x3 x4 x5 x6 x7 g w', (24 ≤ a1 → x1 = 1) → Sat w' (blk p (Pc s 1 g) :: M) → K x1 x2 x3 x4 x5 x6 x7 w') : play_Player_Do.C (some ⟨p, 0, none⟩) a1 a2 a3 b1 l1 c1 a4 a5 b2 l2 c2 a6 a7 a8 a9 a10 w K := by
  have fin : ∀ {r3 r2 r1 : Nat} {w : World} {x1 x2 x3 : Int} {x4 : Bool} {x5 : Option Addr} {x6 x7 : Nat}, a1 < 24 → Sat w (blk r3 [.int .i64 x1, .int .u64 x2, .int .i64 x3, .bool x4, .slice x5 x6 x7] :: blk p (Pc s 1 0) :: blk r2 [.int .i64 0, .int .u64 0, .int .i64 0, .bool false, .slice none 0 0] :: M) →
      play_Player_Do.T2 K (some ⟨p, 0, none⟩) r2 0 r3 0 true w := by
    intro r3 r2 r1 w x1 x2 x3 x4 x5 x6 x7 ha h
    unfold play_Player_Do.T2
    refine cond_f rfl ?_
    refine lI64.of h (by rfl) ?_
    refine cond_c (fun _ => ?_) fun _ => ?_
    · refine lI64.of h (by rfl) ?_
      refine stP.of h (Nat.le_of_ble_eq_true rfl) fun w h => ?_
      refine lAi64_u64_i64_b_l.of h (by rfl) ?_
      refine stCs.of h (Nat.le_of_ble_eq_true rfl) (by simp [Value.oneCell']) fun w h => ?_
      refine lAi64_u64_i64_b_l.of h (by rfl) ?_
      exact q _ _ _ _ _ _ _ _ _ (fun h0 => absurd h0 (by omega)) (h.drop.pull 1).drop
    · refine lAi64_u64_i64_b_l.of h (by rfl) ?_
      refine stCs.of h (Nat.le_of_ble_eq_true rfl) (by simp [Value.oneCell']) fun w h => ?_
      refine lAi64_u64_i64_b_l.of h (by rfl) ?_
      exact q _ _ _ _ _ _ _ _ _ (fun h0 => absurd h0 (by omega)) (h.drop.pull 1).drop
  apply play_Player_Do.ok
  refine alP.of h fun r1 w h => ?_
  refine alP.of h fun r2 w h => ?_
  refine cond_f rfl ?_
  refine lI64.of h (by rfl) ?_
  refine stP.of h (Nat.le_of_ble_eq_true rfl) fun w h => ?_
  refine lAu8_i64_i64_l_u64_u64_l_b_i64_u64_i64_b.of h (by rfl) ?_
  refine play_change_nil ((h.pull 3).pull 3) (fun w h => ?_) fun ha x1 x2 x3 x4 x5 x6 x7 w h => ?_
  · refine alP.of h fun r3 w h => ?_
    refine stCs.of h (Nat.le_of_ble_eq_true rfl) (by simp [Value.oneCell']) fun w h => ?_
    refine cond_t rfl ?_
    refine lAu8_i64_i64_l_u64_u64_l_b_i64_u64_i64_b.of h (by rfl) ?_
    refine play_look_nil ((h.pull 2).pull 2) (fun w h => ?_) fun ha x1 x2 x3 x4 x5 x6 x7 w h => ?_
    · refine stCs.of h (Nat.le_of_ble_eq_true rfl) (by simp [Value.oneCell']) fun w h => ?_
      unfold play_Player_Do.T1
      refine cond_t rfl ?_
      refine lAu8_i64_i64_l_u64_u64_l_b_i64_u64_i64_b.of h (by rfl) ?_
      refine play_other_nil h (fun w h => ?_) fun ha x1 x2 x3 x4 x5 x6 x7 w h => ?_
      · refine stCs.of h (Nat.le_of_ble_eq_true rfl) (by simp [Value.oneCell']) fun w h => ?_
        unfold play_Player_Do.T2
        refine cond_t rfl ?_
        refine stCs.of h (Nat.le_of_ble_eq_true rfl) (by simp [Value.oneCell']) fun w h => ?_
        refine lAi64_u64_i64_b_l.of h (by rfl) ?_
        exact q _ _ _ _ _ _ _ _ _ (fun _ => rfl) (h.sub (.cons_cons _ (.cons _ (.cons _ (.cons _ (.cons _ (.refl _)))))))
      · refine stCs.of h (Nat.le_of_ble_eq_true rfl) (by simp [Value.oneCell']) fun w h => ?_
        exact fin (r1 := 0) ha ((h.pull 1).sub (.cons_cons _ (.cons_cons _ (.cons_cons _ (.cons _ (.refl _))))))
    · refine stCs.of h (Nat.le_of_ble_eq_true rfl) (by simp [Value.oneCell']) fun w h => ?_
      unfold play_Player_Do.T1
      refine cond_f rfl ?_
      exact fin (r1 := 0) ha ((h.pull 1).sub (.cons_cons _ (.cons_cons _ (.cons_cons _ (.cons _ (.refl _))))))
  · refine alP.of h fun r3 w h => ?_
    refine stCs.of h (Nat.le_of_ble_eq_true rfl) (by simp [Value.oneCell']) fun w h => ?_
    refine cond_f rfl ?_
    unfold play_Player_Do.T1
    refine cond_f rfl ?_
    exact fin (r1 := 0) ha (h.sub (.cons_cons _ (.cons_cons _ (.cons_cons _ (.cons _ (.refl _))))))
theorem play_Do_none {K : Int → Int → Int → Bool → Option Addr → Nat → Nat → World → Prop} (h : Sat w M) (q : ∀ w', Sat w' M → K 6 0 0 false none 0 0 w') : play_Player_Do.C none a1 a2 a3 b1 l1 c1 a4 a5 b2 l2 c2 a6 a7 a8 a9 a10 w K := by
  apply play_Player_Do.ok
  refine alP.of h fun r1 w h => ?_
  refine alP.of h fun r2 w h => ?_
  refine cond_t rfl ?_
  refine stCs.of h (Nat.le_of_ble_eq_true rfl) (by simp [Value.oneCell']) fun w h => ?_
  refine lAi64_u64_i64_b_l.of h (by rfl) ?_
  exact q _ h.drop.drop
end
end Go.St

/- From what a row lays to what the calls read. -/
namespace Go.St
open Go Go.Proofs Go.Lib
theorem cell_keep {w w' : World} {a : Addr} {v : Value} (hk : ∀ (b : Nat) (o : Obj), w.heap[b]? = some o → w'.heap[b]? = some o) (h : w.cell? a = some v) : w'.cell? a = some v := by
  unfold World.cell? at *
  cases e : w.heap[a.block]? with
  | none => rw [e] at h; cases h
  | some o => rw [e] at h; rw [hk _ _ e]; exact h
theorem var_keep {P : Program} {w w' : World} {n : String} {cs : Array Value} (hk : ∀ (b : Nat) (o : Obj), w.heap[b]? = some o → w'.heap[b]? = some o) (h : w.var? P n = some cs) : w'.var? P n = some cs := by
  unfold World.var? at *
  cases e : P.globalNamed n with
  | none => rw [e] at h; cases h
  | some g =>
    rw [e] at h
    simp only [Option.bind_some] at h ⊢
    cases e2 : w.heap[g]? with
    | none => rw [e2] at h; cases h
    | some o => rw [e2] at h; rw [hk _ _ e2]; exact h
theorem kept_of {w w' : World} (h : RelW w w') (hk : ∀ (b : Nat) (o : Obj), w.heap[b]? = some o → w'.heap[b]? = some o) (may : MemPlace → Prop) : w.keptBut w' may := by
  refine ⟨h.os, h.out, fun i hi => ?_⟩
  have e : w.heap[i]? = some w.heap[i] := Array.getElem?_eq_getElem hi
  rw [hk _ _ e, e]
  generalize w.heap[i] = o
  cases o <;> first | rfl | exact .inr ⟨rfl, rfl⟩ | exact ⟨rfl, rfl, rfl, fun _ _ => rfl⟩
/-- strings in a row -/
theorem cells_of_strs {H : Type} {enc : TypeId × Value → H} {P : Program} {w : World} {base : Nat} {sp : Nat → Bool} {held : Bool} {fuel : Nat} {t e : TypeId} {n : Nat} {cs : List Value} {bs : List (List UInt8)} {p : List MemPlace}
    (ht : P.underlying t = some (.array n e)) (he : P.underlying e = some .string) (hce : P.cellsOf e = 1) (h : DataW.trod enc P w base sp held fuel t cs = some (.agg (bs.map fun b => .lit (Lit.string b)), p)) :
    ∀ (i : Nat) (b : List UInt8), bs[i]? = some b → cs[i]? = some (.string ⟨b.toArray⟩) := by
  obtain ⟨xs, m, rfl, hx, hl, hn, hel⟩ := DataW.trod_array ht h
  intro i b hb
  have hx1 : bs.map (fun b => (DataW.lit (.string b) : DataW H)) = xs.map (·.1) := by
    have := congrArg Prod.fst hx
    simpa using this
  have hlen : bs.length = xs.length := by
    have := congrArg List.length hx1
    simpa using this
  have hi : i < bs.length := (List.getElem?_eq_some_iff.1 hb).1
  have hin : i < n := by omega
  have hi2 : xs[i]? = some (xs[i]'(by omega)) := List.getElem?_eq_getElem (by omega)
  generalize xs[i]'(by omega) = x at hi2
  have h1 := hel i hin
  rw [hi2] at h1
  obtain ⟨s, e1, rfl, _⟩ := DataW.trod_string he h1
  have h2 : (xs.map (·.1))[i]? = some (DataW.lit (.string s.data.toList) : DataW H) := by rw [List.getElem?_map, hi2]; rfl
  rw [← hx1, List.getElem?_map, hb] at h2
  simp only [Option.map_some, Option.some.injEq, DataW.lit.injEq, Lit.string.injEq] at h2
  have e2 : (⟨b.toArray⟩ : ByteArray) = s := by rw [h2]
  rw [e2]
  rw [hce, Nat.mul_one] at e1
  have := congrArg (·[0]?) e1
  simpa [List.getElem?_take, List.getElem?_drop] using this
/-- the names, as a row lays them -/
def namesD : DataW Unit := .agg (namesL.map fun s => .lit (.string s.data.toList))
theorem names_of_reads {W : World} {g t e : Nat} {n : Nat} (hg : prog.globalNamed "stepstone/play.names" = some 0) (hty : (prog.globals[0]?).map (·.type) = some t) (ht : prog.underlying t = some (.array n e)) (he : prog.underlying e = some .string) (hce : prog.cellsOf e = 1)
    (h : VarReads prog W "stepstone/play.names" namesD) : ∀ (i : Nat) (x : ByteArray), namesL[i]? = some x → W.cell? ⟨0, i, none⟩ = some (.string x) := by
  obtain ⟨g', t', cs, fuel, p, h1, h2, h3, h4⟩ := h
  obtain rfl := Option.some.inj (hg.symm.trans h1)
  obtain rfl := Option.some.inj (hty.symm.trans h2)
  intro i x hx
  rw [World.var?_cell hg h3]
  have e0 : namesD = .agg ((namesL.map fun s => s.data.toList).map fun b => .lit (.string b)) := by
    unfold namesD; rw [List.map_map]; rfl
  rw [e0] at h4
  have := cells_of_strs ht he hce h4 i x.data.toList (by rw [List.getElem?_map, hx]; rfl)
  simpa using this
/-- all that there was when the call began is what is asked -/
theorem gn_start {W : World} (h : ∀ (i : Nat) (x : ByteArray), namesL[i]? = some x → W.cell? ⟨0, i, none⟩ = some (.string x)) : GN [Start W] := by
  intro w hs i x hx
  exact cell_keep (Sat.end hs).2 (h i x hx)
/-- .. 'returnsInHanded_of_change_and' with the world's shape -/
theorem returns_shaped {H : Type} {enc : TypeId × Value → H} {a : Assume} {C : Checked} {os : Os} {f : FuncId} {fn : Func} {s : ChangeSpec} {conds : List PathCond} {apart fresh handsOn again : Bool} {X : World → Array Value → Prop}
    (hX : ∀ (w w' : World) (args : Array Value), w.heap = w'.heap → X w args → X w' args)
    (own : ownKnob C.prog.godebug = none) (started : os.Started) (noInit : C.prog.inits.idxOf? f = none) (hfn : C.prog.funcs[f]? = some fn)
    (witness : ∃ (w : World) (tape : Tape) (i : Input), w.os = os ∧ (w.forCall tape i).Shaped C.prog ∧ i.vars = [] ∧ Input.okWide C.prog (w.forCall tape i) .any w.heap.size f i ∧
      ((s.pre enc C.prog fn conds apart (w.forCall tape i).memory i.args ∧ X (w.forCall tape i).memory i.args) ∧ sizedMet enc C.prog fn (OpenSpec.ofChange s) apart (w.forCall tape i).memory i.args) ∧ a.holds C.prog (lone (Frame.enter C.prog f i.args .normal) [] (w.forCall tape i)))
    (contract : ∀ (W : World) (base : Nat) (args : Array Value) (ds gs : List (DataW H)) (before : List MemPlace),
      (∀ (j : Nat) t v, fn.params[j]? = some t → args[j]? = some v → Value.okWide C.prog W .any base t v) →
      DataW.Whole enc C.prog fn.params.toList s.vars apart W args.toList ds gs before →
      X W args → W.ShapedOpen C.prog →
      Calls C.prog f args W fun e W' => ∃ v, e = .returned v ∧ s.post enc C.prog fn apart fresh handsOn again W args v W') :
    ReturnsInHanded a C os f .any (fun w args => (s.pre enc C.prog fn conds apart w args ∧ X w args) ∧ sizedMet enc C.prog fn (OpenSpec.ofChange s) apart w args) (s.post enc C.prog fn apart fresh handsOn again) := by
  refine returnsInHanded_of_calls own started noInit witness ?_
  intro w tape i _ hsh _ hok hpre hholds
  obtain ⟨_, _, _, fn', hfn', _, _, _, _, hval⟩ := hok
  have e : fn' = fn := Option.some.inj (hfn'.symm.trans hfn)
  subst e
  obtain ⟨⟨⟨ds, gs, before, hw, hc⟩, hx⟩, hz⟩ := hpre
  have hw' := DataW.Whole.of_heap (w' := w.forCall tape i) (by rfl) hw
  refine (contract (w.forCall tape i) w.heap.size i.args ds gs before hval hw' (hX _ _ _ (by rfl) hx) hsh).mono fun e W' ⟨v, he, hp⟩ => ?_
  subst he
  exact ChangeSpec.post_blind hp
end Go.St

/- The law of the calls' names: the whole. -/
namespace Go.St
open Go Go.Proofs
attribute [local irreducible] stP alP drP stCs lI64 lU64 lU8 lB lP lL lR lS AppV ClrV InvV
section
variable {w : World} {M : List HP} {a : Option Addr} {l : Nat} {xs : List Ans}
theorem rRdA (rd : Rdb eAns M a l xs) (h : Sat w M) {n v : Int} {x : Ans} {K : Int → Prop} (h0 : 0 ≤ n) (hx : xs[n.toNat]? = some x) (hv : (eAns.e x)[0]? = some (.int .i64 v)) (k : K v) :
    nn a fun b o => 0 ≤ n ∧ n < ((l : Nat) : Int) ∧ lI64 w b (o + Int.toNat n * 5) K := by
  obtain ⟨b, o, rfl, hl, hc⟩ := rd.get h hx
  refine ⟨h0, by omega, lI64.mk ?_ k⟩
  have := hc 0 (by decide)
  rw [hv] at this; exact this
theorem rRdA2 (rd : Rdb eAns M a l xs) (h : Sat w M) {n v : Int} {x : Ans} {K : Int → Prop} (h0 : 0 ≤ n) (hx : xs[n.toNat]? = some x) (hv : (eAns.e x)[2]? = some (.int .i64 v)) (k : K v) :
    nn a fun b o => 0 ≤ n ∧ n < ((l : Nat) : Int) ∧ lI64 w b ((o + Int.toNat n * 5) + 2) K := by
  obtain ⟨b, o, rfl, hl, hc⟩ := rd.get h hx
  refine ⟨h0, by omega, lI64.mk ?_ k⟩
  have := hc 2 (by decide)
  rw [hv] at this; exact this
end
def steps3 : List Value := [.int .u8 0, .int .i64 0, .int .i64 0, .slice none 0 0, .int .u64 0, .int .u64 0, .slice none 0 0, .bool false, .int .i64 4, .int .u64 0, .int .i64 100, .bool false] ++ [.int .u8 2, .int .i64 0, .int .i64 0, .slice none 0 0, .int .u64 5, .int .u64 0, .slice none 0 0, .bool false, .int .i64 0, .int .u64 0, .int .i64 0, .bool false] ++ [.int .u8 9, .int .i64 0, .int .i64 0, .slice none 0 0, .int .u64 0, .int .u64 0, .slice none 0 0, .bool false, .int .i64 0, .int .u64 0, .int .i64 0, .bool false]
def ansL : List Ans := [⟨0, 0, 0, false, none, 0, 0⟩, ⟨0, 0, 0, false, none, 0, 0⟩, ⟨0, 0, 1, false, none, 0, 0⟩]
def stg (s : Nat) : Nat → HP
  | 0 => blk s nil8
  | 1 => One s 4 0 100 (TrS 100)
  | _ => One s 4 0 100 (TrO 100 5)
theorem w1 : w64 (0 + 1) = 1 := by decide
theorem w2 : w64 (1 + 1) = 2 := by decide
theorem w3 : w64 (2 + 1) = 3 := by decide
section
variable {w : World} {M : List HP}
theorem do0 {p s : Nat} : Dn p s 0 0 1 (stg s 0) (stg s 1) 0 0 0 none 0 0 0 0 none 0 0 false 4 0 100 false 0 0 0 false none 0 0 := by
  have := play_Do_change (p := p) (s := s) (d := 0) (f := 0) (X := stg s 0) (Y := stg s 1) (a1 := 0) (a2 := 0) (a3 := 0) (b1 := none) (l1 := 0) (c1 := 0) (a4 := 0) (a5 := 0) (b2 := none) (l2 := 0) (c2 := 0) (a6 := false) (a7 := 4) (a8 := 0) (a9 := 100) (a10 := false) rfl
    (play_change_open fun w N K h q => shelf_Open_one (makes_trie (lim := 100) (by decide)) h q)
  rwa [w1] at this
theorem do1 {p s : Nat} : Dn p s 1 0 2 (stg s 1) (stg s 2) 2 0 0 none 0 0 5 0 none 0 0 false 0 0 0 false 0 0 0 false none 0 0 := by
  have := play_Do_change (p := p) (s := s) (d := 1) (f := 0) (X := stg s 1) (Y := stg s 2) (a1 := 2) (a2 := 0) (a3 := 0) (b1 := none) (l1 := 0) (c1 := 0) (a4 := 5) (a5 := 0) (b2 := none) (l2 := 0) (c2 := 0) (a6 := false) (a7 := 0) (a8 := 0) (a9 := 0) (a10 := false) rfl
    (play_change_insert fun w N K h q => shelf_Insert_one (does_trie_Insert (lim := 100) (by decide) (by decide)) h q)
  rwa [w2] at this
theorem do2 {p s : Nat} : Dn p s 2 0 3 (stg s 2) (stg s 3) 9 0 0 none 0 0 0 0 none 0 0 false 0 0 0 false 0 0 1 false none 0 0 := by
  have := play_Do_look (p := p) (s := s) (d := 2) (f := 0) (X := stg s 2) (Y := stg s 3) (a1 := 9) (a2 := 0) (a3 := 0) (b1 := none) (l1 := 0) (c1 := 0) (a4 := 0) (a5 := 0) (b2 := none) (l2 := 0) (c2 := 0) (a6 := false) (a7 := 0) (a8 := 0) (a9 := 0) (a10 := false) rfl (.inr rfl)
    (play_look_len fun w N K h q => shelf_Len_one (does_trie_Len (lim := 100)) h q)
  rwa [w3] at this
theorem okAns : appOk prog #[38, 38] eAns.sz 56 = true := by kernel_rfl
theorem law26_awake_spec {K : Bool → World → Prop} (h : Sat w M) (g : GN M) (q : ∀ w', Sat w' M → K true w') : stepstonelaw26_awake.C w K := by
  apply stepstonelaw26_awake.ok
  refine play_New_spec h fun p s w h => ?_
  refine alP.of h fun r3 w h => ?_
  apply play_Player_Run.ok
  refine cond_f rfl ?_
  show LoopT _ _ _
  refine LoopT.of (fun z w => ∃ (j : Nat) (a : Option Addr) (c : Nat), j ≤ 3 ∧ z = (a, j, c, (j : Int)) ∧ Sat w (Own eAns a (j, c, ansL.take j) :: blk r3 steps3 :: blk p (Pc s j 0) :: stg s j :: M)) (fun z => 3 - z.2.1) ⟨0, none, 0, by decide, rfl, Own.nil h⟩ ?_
  rintro z w ⟨j, a, c, hj, rfl, h⟩
  refine cond_c (fun hc => ?_) fun hc => ?_
  have hj' : j = 0 ∨ j = 1 ∨ j = 2 := by simp at hc; omega
  rcases hj' with rfl | rfl | rfl
  · refine ⟨by omega, by omega, ?_⟩
    refine lAu8_i64_i64_l_u64_u64_l_b_i64_u64_i64_b.of h (by rfl) ?_
    refine alP.of h fun r4 w h => ?_
    refine stCs.of h (Nat.le_of_ble_eq_true rfl) (by simp [Value.oneCell']) fun w h => ?_
    refine lAu8_i64_i64_l_u64_u64_l_b_i64_u64_i64_b.of h (by rfl) ?_
    refine do0 _ (blk r4 _ :: Own eAns a _ :: blk r3 _ :: M) _ ((h.pull 4).pull 4) fun w h => ?_
    refine alP.of h fun r5 w h => ?_
    refine AppV.own (E := eAns) (a := a) (c := c) (ys := [⟨0, 0, 0, false, none, 0, 0⟩]) h okAns (Reads.own (E := eAns) (ys := [⟨0, 0, 0, false, none, 0, 0⟩]) (b := r5) h (List.prefix_refl _)) rfl (by omega) (by decide) fun a2 c2 w h => ?_
    refine ⟨_, _, _, rfl, ?_⟩
    refine ⟨⟨1, a2, c2, by decide, by rw [show ((0 : Nat) : Int) = 0 by rfl, w1]; rfl, ((h.drop.pull 4).pull 4).sub (.cons_cons _ (.cons_cons _ (.cons_cons _ (.cons_cons _ (.cons _ (.refl _))))))⟩, by show 3 - (0 + 1) < 3 - 0; decide⟩
  · refine ⟨by omega, by omega, ?_⟩
    refine lAu8_i64_i64_l_u64_u64_l_b_i64_u64_i64_b.of h (by rfl) ?_
    refine alP.of h fun r4 w h => ?_
    refine stCs.of h (Nat.le_of_ble_eq_true rfl) (by simp [Value.oneCell']) fun w h => ?_
    refine lAu8_i64_i64_l_u64_u64_l_b_i64_u64_i64_b.of h (by rfl) ?_
    refine do1 _ (blk r4 _ :: Own eAns a _ :: blk r3 _ :: M) _ ((h.pull 4).pull 4) fun w h => ?_
    refine alP.of h fun r5 w h => ?_
    refine AppV.own (E := eAns) (a := a) (c := c) (ys := [⟨0, 0, 0, false, none, 0, 0⟩]) h okAns (Reads.own (E := eAns) (ys := [⟨0, 0, 0, false, none, 0, 0⟩]) (b := r5) h (List.prefix_refl _)) rfl (by omega) (by decide) fun a2 c2 w h => ?_
    refine ⟨_, _, _, rfl, ?_⟩
    refine ⟨⟨2, a2, c2, by decide, by rw [show ((1 : Nat) : Int) = 1 by rfl, w2]; rfl, ((h.drop.pull 4).pull 4).sub (.cons_cons _ (.cons_cons _ (.cons_cons _ (.cons_cons _ (.cons _ (.refl _))))))⟩, by show 3 - (1 + 1) < 3 - 1; decide⟩
  · refine ⟨by omega, by omega, ?_⟩
    refine lAu8_i64_i64_l_u64_u64_l_b_i64_u64_i64_b.of h (by rfl) ?_
    refine alP.of h fun r4 w h => ?_
    refine stCs.of h (Nat.le_of_ble_eq_true rfl) (by simp [Value.oneCell']) fun w h => ?_
    refine lAu8_i64_i64_l_u64_u64_l_b_i64_u64_i64_b.of h (by rfl) ?_
    refine do2 _ (blk r4 _ :: Own eAns a _ :: blk r3 _ :: M) _ ((h.pull 4).pull 4) fun w h => ?_
    refine alP.of h fun r5 w h => ?_
    refine AppV.own (E := eAns) (a := a) (c := c) (ys := [⟨0, 0, 1, false, none, 0, 0⟩]) h okAns (Reads.own (E := eAns) (ys := [⟨0, 0, 1, false, none, 0, 0⟩]) (b := r5) h (List.prefix_refl _)) rfl (by omega) (by decide) fun a2 c2 w h => ?_
    refine ⟨_, _, _, rfl, ?_⟩
    refine ⟨⟨3, a2, c2, by decide, by rw [show ((2 : Nat) : Int) = 2 by rfl, w3]; rfl, ((h.drop.pull 4).pull 4).sub (.cons_cons _ (.cons_cons _ (.cons_cons _ (.cons_cons _ (.cons _ (.refl _))))))⟩, by show 3 - (2 + 1) < 3 - 2; decide⟩
  · obtain rfl : j = 3 := by simp at hc; omega
    refine cond_t rfl ?_
    refine rRdA (Rdb.own (E := eAns) (c := c) (xs := ansL.take 3)) h (x := ⟨0, 0, 0, false, none, 0, 0⟩) (by decide) rfl rfl (cond_t rfl ?_)
    refine rRdA (Rdb.own (E := eAns) (c := c) (xs := ansL.take 3)) h (x := ⟨0, 0, 0, false, none, 0, 0⟩) (by decide) rfl rfl (cond_t rfl ?_)
    refine rRdA2 (Rdb.own (E := eAns) (c := c) (xs := ansL.take 3)) h (x := ⟨0, 0, 1, false, none, 0, 0⟩) (by decide) rfl rfl (cond_t rfl ?_)
    refine play_Name_spec (n := 2) h g.cons.cons.cons.cons (by decide) ?_
    have e : namesL.getD 2 (⟨#[]⟩ : ByteArray) = (⟨#[105, 110, 115, 101, 114, 116]⟩ : ByteArray) := rfl
    rw [e, beq_self_eq_true]
    exact q _ h.drop.drop.drop.drop
variable {a2 a3 : Int} {b1 : Option Addr} {l1 c1 : Nat} {a4 a5 : Int} {b2 : Option Addr} {l2 c2 : Nat} {a6 : Bool} {a7 a8 a9 : Int} {a10 : Bool} {is bs : List Int}
theorem law26_T1 {n r : Nat} {z : Int} {K : Bool → World → Prop} (h : Sat w (blk r [.int .u8 z, .int .i64 a2, .int .i64 a3, .slice b1 l1 c1, .int .u64 a4, .int .u64 a5, .slice b2 l2 c2, .bool a6, .int .i64 a7, .int .u64 a8, .int .i64 a9, .bool a10] :: M)) (g : GN M)
    (rdI : Rdb eI64 M b1 l1 is) (rdB : Rdb eU8 M b2 l2 bs) (hl1 : l1 < 2 ^ 63) (hl2 : l2 < 2 ^ 63) (hn : n < 256) (q : ∀ w', Sat w' M → K true w') : stepstonelaw26_PlayNames.T1 K (n : Int) r 0 (namesL.getD n (⟨#[]⟩ : ByteArray)) w := by
  unfold stepstonelaw26_PlayNames.T1
  refine stP.of h (Nat.le_of_ble_eq_true rfl) fun w h => ?_
  refine play_New_spec h fun p s w h => ?_
  refine lAu8_i64_i64_l_u64_u64_l_b_i64_u64_i64_b.of h (by rfl) ?_
  refine law26_own_spec h rdI.cons.cons.cons rdB.cons.cons.cons hl1 hl2 fun _ _ _ _ _ _ w h => ?_
  refine play_Do_nil h fun x1 x2 x3 x4 x5 x6 x7 gg w hx h => ?_
  refine alP.of h fun r2 w h => ?_
  refine stCs.of h (Nat.le_of_ble_eq_true rfl) (by simp [Value.oneCell']) fun w h => ?_
  refine play_Name_spec (n := n) h g.cons.cons.cons hn ?_
  refine cond_t (beq_self_eq_true _) ?_
  have rest : ∀ {w : World}, Sat w (blk r2 [.int .i64 x1, .int .u64 x2, .int .i64 x3, .bool x4, .slice x5 x6 x7] :: blk p (Pc s 1 gg) :: blk r [.int .u8 n, .int .i64 a2, .int .i64 a3, .slice b1 l1 c1, .int .u64 a4, .int .u64 a5, .slice b2 l2 c2, .bool a6, .int .i64 a7, .int .u64 a8, .int .i64 a9, .bool a10] :: M) →
    (lAu8_i64_i64_l_u64_u64_l_b_i64_u64_i64_b w r 0 fun n110 n111 n112 a113 l114 c115 n116 n117 a118 l119 c120 q121 n122 n123 n124 q125 =>
      stepstonelaw26_own.C n110 n111 n112 a113 l114 c115 n116 n117 a118 l119 c120 q121 n122 n123 n124 q125 w fun n126 n127 n128 a129 l130 c131 n132 n133 a134 l135 c136 q137 n138 n139 n140 q141 W142 =>
      play_Player_Do.C none n126 n127 n128 a129 l130 c131 n132 n133 a134 l135 c136 q137 n138 n139 n140 q141 W142 fun n143 n144 n145 q146 a147 l148 c149 W150 =>
      cond (n143 == (6 : Int))
      (lAu8_i64_i64_l_u64_u64_l_b_i64_u64_i64_b W150 r 0 fun n151 n152 n153 a154 l155 c156 n157 n158 a159 l160 c161 q162 n163 n164 n165 q166 =>
      stepstonelaw26_own.C n151 n152 n153 a154 l155 c156 n157 n158 a159 l160 c161 q162 n163 n164 n165 q166 W150 fun n167 n168 n169 a170 l171 c172 n173 n174 a175 l176 c177 q178 n179 n180 n181 q182 W183 =>
      alP W183 #[(.int .u8 n167), (.int .i64 n168), (.int .i64 n169), (.slice a170 l171 c172), (.int .u64 n173), (.int .u64 n174), (.slice a175 l176 c177), (.bool q178), (.int .i64 n179), (.int .u64 n180), (.int .i64 n181), (.bool q182)] 35 fun r184 W185 =>
      play_Player_Run.C none (some ⟨r184, 0, none⟩) 1 1 W185 fun a186 l187 c188 W189 =>
      cond (((l187 : Nat) : Int) == (0 : Int))
      (play_Player_Whole.C none W189 fun a190 l191 c192 W193 =>
      cond (((l191 : Nat) : Int) == (0 : Int))
      (play_Player_Done.C none W193 fun n194 W195 =>
      play_Player_Fulls.C none W195 fun n196 W197 =>
      cond ((w64 (n194 + n196)) == (0 : Int))
      (play_Player_Done.C (some ⟨p, 0, none⟩) W197 fun n198 W199 =>
      K (n198 == (1 : Int)) W199)
      (K false W197))
      (K false W193))
      (K false W189))
      (K false W150)) := by
    intro w h
    refine lAu8_i64_i64_l_u64_u64_l_b_i64_u64_i64_b.of h (by rfl) ?_
    refine law26_own_spec h rdI.cons.cons.cons rdB.cons.cons.cons hl1 hl2 fun _ _ _ _ _ _ w h => ?_
    refine play_Do_none h fun w h => ?_
    refine cond_t rfl ?_
    refine lAu8_i64_i64_l_u64_u64_l_b_i64_u64_i64_b.of h (by rfl) ?_
    refine law26_own_spec h rdI.cons.cons.cons rdB.cons.cons.cons hl1 hl2 fun _ _ _ _ _ _ w h => ?_
    refine alP.of h fun r3 w h => ?_
    apply play_Player_Run.ok
    refine cond_t rfl (cond_t rfl ?_)
    apply play_Player_Whole.ok
    refine cond_t rfl (cond_t rfl ?_)
    apply play_Player_Done.ok
    refine cond_t rfl ?_
    apply play_Player_Fulls.ok
    refine cond_t rfl (cond_t (by decide) ?_)
    apply play_Player_Done.ok
    refine cond_f rfl ?_
    refine lI64.of h (by rfl) ?_
    exact q _ h.drop.drop.drop.drop
  rcases Nat.lt_or_ge n 24 with hlt | hge
  · refine cond_t (by rw [names_ne n hlt]; rfl) ?_
    exact rest h
  · have e : namesL.getD n (⟨#[]⟩ : ByteArray) = (⟨#[]⟩ : ByteArray) := by
      rw [List.getD_eq_getElem?_getD, List.getElem?_eq_none (by exact hge)]; rfl
    refine cond_f (by rw [e, beq_self_eq_true]; rfl) ?_
    have hx := hx (by omega)
    subst hx
    refine lI64.of h (by rfl) ?_
    refine cond_t rfl ?_
    exact rest h
theorem law26_PlayNames_spec {n : Nat} {z : Int} {K : Bool → World → Prop} (h : Sat w M) (g : GN M) (rdI : Rdb eI64 M b1 l1 is) (rdB : Rdb eU8 M b2 l2 bs) (hl1 : l1 < 2 ^ 63) (hl2 : l2 < 2 ^ 63) (hn : n < 256) (q : ∀ w', Sat w' M → K true w') :
    stepstonelaw26_PlayNames.C (n : Int) z a2 a3 b1 l1 c1 a4 a5 b2 l2 c2 a6 a7 a8 a9 a10 w K := by
  apply stepstonelaw26_PlayNames.ok
  refine alP.of h fun r w h => ?_
  refine law26_awake_spec h g.cons fun w h => ?_
  refine cond_f rfl ?_
  refine alP.of h fun r2 w h => ?_
  rw [w64_id (by omega) (by omega)]
  refine cond_c (fun hc => ?_) fun hc => ?_
  · have hc : n < 24 := by simp at hc; omega
    refine ⟨by omega, by omega, ?_⟩
    have hx : namesL[n]? = some (namesL.getD n (⟨#[]⟩ : ByteArray)) := by
      rw [List.getD_eq_getElem?_getD, List.getElem?_eq_getElem (by exact hc)]; rfl
    refine lS.of (n := namesL.getD n (⟨#[]⟩ : ByteArray)) h ?_ ?_
    · rw [show 0 + (n : Int).toNat * 1 = n by omega]
      show (namesL.map Value.string)[n]? = _
      rw [List.getElem?_map, hx]; rfl
    · exact law26_T1 h.drop g rdI rdB hl1 hl2 hn q
  · have hc : 24 ≤ n := by simp at hc; omega
    have e : namesL.getD n (⟨#[]⟩ : ByteArray) = (⟨#[]⟩ : ByteArray) := by
      rw [List.getD_eq_getElem?_getD, List.getElem?_eq_none (by exact hc)]; rfl
    rw [← e]
    exact law26_T1 h.drop g rdI rdB hl1 hl2 hn q
end
end Go.St

/- The law of the calls' names, on the whole. -/
namespace Go.St
open Go Go.Proofs Go.ChangeShapes
theorem rows_ints {k : IntKind} {E : Enc Int} (hE : ∀ n, E.e n = [.int k n]) : ∀ xs : List Int, E.rows xs = xs.map (Value.int k)
  | [] => rfl
  | x :: xs => by rw [Enc.rows, hE, rows_ints hE xs]; rfl
theorem reads_keep {E : Enc Int} {W w : World} {a : Option Addr} {xs : List Int} (hk : ∀ (b : Nat) (o : Obj), W.heap[b]? = some o → w.heap[b]? = some o) (h : Reads E W a xs) : Reads E w a xs := by
  rcases h with h | ⟨b, o, e, h⟩
  · exact .inl h
  · exact .inr ⟨b, o, e, fun j v hj => cell_keep hk (h j v hj)⟩
theorem rdb_start {E : Enc Int} {W : World} {a : Option Addr} {l : Nat} {xs : List Int} (h : Reads E W a xs) (hl : xs.length = l) : Rdb E [Start W] a l xs := fun _ hs => ⟨reads_keep (Sat.end hs).2 h, hl⟩
theorem law26_PlayNames_walk {n : Nat} {z a2 a3 a4 a5 a7 a8 a9 : Int} {b1 b2 : Option Addr} {l1 c1 l2 c2 : Nat} {a6 a10 : Bool} {is bs : List Int} {W : World} (hN : ∀ (i : Nat) (x : ByteArray), namesL[i]? = some x → W.cell? ⟨0, i, none⟩ = some (.string x))
    (hI : Reads eI64 W b1 is) (hI2 : is.length = l1) (hB : Reads eU8 W b2 bs) (hB2 : bs.length = l2) (h1 : l1 < 2 ^ 63) (h2 : l2 < 2 ^ 63) (hn : n < 256) :
    CallsV prog 3 #[.int .u8 n, .agg #[.int .u8 z, .int .i64 a2, .int .i64 a3, .slice b1 l1 c1, .int .u64 a4, .int .u64 a5, .slice b2 l2 c2, .bool a6, .int .i64 a7, .int .u64 a8, .int .i64 a9, .bool a10]] W fun v w' => v = .bool true ∧ RelW W w' ∧ ∀ (b : Nat) (o : Obj), W.heap[b]? = some o → w'.heap[b]? = some o := by
  refine (law26_PlayNames_spec (M := [Start W]) (K := fun b w' => b = true ∧ RelW W w' ∧ ∀ (b : Nat) (o : Obj), W.heap[b]? = some o → w'.heap[b]? = some o) (z := z) (a2 := a2) (a3 := a3) (b1 := b1) (l1 := l1) (c1 := c1) (a4 := a4) (a5 := a5) (b2 := b2) (l2 := l2) (c2 := c2) (a6 := a6) (a7 := a7) (a8 := a8) (a9 := a9) (a10 := a10) (Sat.start W) (gn_start hN) (rdb_start hI hI2) (rdb_start hB hB2) h1 h2 hn fun w' h => ⟨rfl, h.end⟩) |> fun q => q.mono ?_
  rintro v w1 ⟨b, rfl, rfl, h⟩
  exact ⟨rfl, h⟩
/-! ### an argument's fields -/
section
variable {H : Type} {enc : TypeId × Value → H} {P : Program} {W : World} {held : Bool} {m o : Nat} {ft : TypeId} {cs : List Value} {x : DataW H × List MemPlace}
theorem at_one {o : Nat} {v : Value} (h : (cs.drop o).take 1 = [v]) : cs[o]? = some v := by
  have := congrArg (·[0]?) h
  simpa [List.getElem?_take, List.getElem?_drop] using this
theorem fld_int {k : IntKind} (ht : P.underlying ft = some (.int k)) (hc : P.cellsOf ft = 1) (h : DataW.trod enc P W 0 (fun _ => true) held m ft ((cs.drop o).take (P.cellsOf ft)) = some x) : ∃ n, cs[o]? = some (.int k n) := by
  rw [hc] at h
  obtain ⟨n, e, _⟩ := DataW.trod_int ht h
  exact ⟨n, at_one e⟩
theorem fld_bool (ht : P.underlying ft = some .bool) (hc : P.cellsOf ft = 1) (h : DataW.trod enc P W 0 (fun _ => true) held m ft ((cs.drop o).take (P.cellsOf ft)) = some x) : ∃ n, cs[o]? = some (.bool n) := by
  rw [hc] at h
  obtain ⟨n, e, _⟩ := DataW.trod_bool ht h
  exact ⟨n, at_one e⟩
theorem fld_ints {k : IntKind} {E : Enc Int} {e : TypeId} (hE : ∀ n, E.e n = [.int k n]) (ht : P.underlying ft = some (.slice e)) (he : P.underlying e = some (.int k)) (hce : P.cellsOf e = 1) (hc : P.cellsOf ft = 1)
    (h : DataW.trod enc P W 0 (fun _ => true) held m ft ((cs.drop o).take (P.cellsOf ft)) = some x) : ∃ b l c xs, cs[o]? = some (.slice b l c) ∧ Reads E W b xs ∧ xs.length = l ∧ l < 2 ^ 63 := by
  rw [hc] at h
  rcases open_ints ht he hce h with ⟨e, _⟩ | ⟨a, len, cap, zs, e, _, h1, h2, h3, _, h4, _⟩
  · exact ⟨none, 0, 0, [], at_one e, .inl rfl, rfl, by decide⟩
  · have hm : maxLen < 2 ^ 63 := by decide
    simp only [if_true] at h3
    refine ⟨some a, len, cap, zs.take len, at_one e, ?_, by rw [List.length_take]; omega, by omega⟩
    by_cases hz : len = 0
    · subst hz; exact .inl (by simp)
    · right
      obtain ⟨b, off, sp⟩ := a
      have h0 := h4 0 (by omega)
      have hsp : sp = none := by
        cases sp with
        | none => rfl
        | some s =>
          exfalso
          simp only [Addr.add] at h0
          unfold World.cell? at h0
          split at h0
          · simp at h0
          · cases h0
      subst hsp
      refine ⟨b, off, rfl, fun j v hj => ?_⟩
      rw [rows_ints hE, List.getElem?_map] at hj
      have hj2 : j < (zs.take len).length := by
        rcases Nat.lt_or_ge j (zs.take len).length with h | h
        · exact h
        · rw [List.getElem?_eq_none h] at hj; cases hj
      rw [List.length_take] at hj2
      have h5 := h4 j (by omega)
      rw [addr_add] at h5
      rw [h5]
      rw [List.getElem?_take, if_pos (by omega), List.getElem?_eq_getElem (by omega)] at hj
      rw [List.getD_eq_getElem?_getD, List.getElem?_eq_getElem (by omega)]
      exact hj
end
theorem list12 {l : List Value} {v0 v1 v2 v3 v4 v5 v6 v7 v8 v9 v10 v11 : Value} (h : l.length = 12) (e0 : l[0]? = some v0) (e1 : l[1]? = some v1) (e2 : l[2]? = some v2) (e3 : l[3]? = some v3) (e4 : l[4]? = some v4) (e5 : l[5]? = some v5) (e6 : l[6]? = some v6) (e7 : l[7]? = some v7) (e8 : l[8]? = some v8) (e9 : l[9]? = some v9) (e10 : l[10]? = some v10) (e11 : l[11]? = some v11) :
    l = [v0, v1, v2, v3, v4, v5, v6, v7, v8, v9, v10, v11] := by
  apply List.ext_getElem?
  intro i
  rcases Nat.lt_or_ge i 12 with hi | hi
  · match i, hi with
    | 0, _ => exact e0
    | 1, _ => exact e1
    | 2, _ => exact e2
    | 3, _ => exact e3
    | 4, _ => exact e4
    | 5, _ => exact e5
    | 6, _ => exact e6
    | 7, _ => exact e7
    | 8, _ => exact e8
    | 9, _ => exact e9
    | 10, _ => exact e10
    | 11, _ => exact e11
  · rw [List.getElem?_eq_none (by omega), List.getElem?_eq_none (by exact hi)]
theorem same_of {W W' : World} (hk : ∀ (b : Nat) (o : Obj), W.heap[b]? = some o → W'.heap[b]? = some o) {p : MemPlace} (hp : p.block < W.heap.size) : W.sameAt W' p := by
  have e : W'.heap[p.block]? = W.heap[p.block]? := by
    have h := Array.getElem?_eq_getElem hp
    rw [hk _ _ h, h]
  cases p with
  | cell b o => exact World.cell?_of_block (w := W) e
  | map b => exact e
end Go.St

/- Plain: strings cut and parted at one byte. -/
namespace Go.St
open Go Go.Lib
def strB (l : List UInt8) : ByteArray := ⟨l.toArray⟩
theorem strB_eta (s : ByteArray) : strB s.data.toList = s := rfl
theorem occ1 {l : List UInt8} {c : UInt8} {i : Nat} : occAt l [c] i = true ↔ l[i]? = some c := by
  unfold occAt
  rw [show l[i]? = (l.drop i)[0]? by rw [List.getElem?_drop, Nat.add_zero]]
  cases l.drop i with
  | nil => simp [List.isPrefixOf]
  | cons x t => simp [List.isPrefixOf]; exact eq_comm
theorem index_no {l : List UInt8} {c : UInt8} (h : c ∉ l) : index l [c] = -1 := by
  refine index_none fun j _ => ?_
  cases e : occAt l [c] j with
  | false => rfl
  | true => exact absurd (List.mem_of_getElem? (occ1.1 e)) h
theorem index_at {p r : List UInt8} {c : UInt8} (h : c ∉ p) : index (p ++ c :: r) [c] = p.length := by
  refine index_first (by simp) (occ1.2 (by simp)) fun j hj => ?_
  cases e : occAt (p ++ c :: r) [c] j with
  | false => rfl
  | true =>
    have := occ1.1 e
    rw [List.getElem?_append_left hj] at this
    exact absurd (List.mem_of_getElem? this) h
theorem cut_no {l : List UInt8} {c : UInt8} (h : c ∉ l) : cut l [c] = (l, [], false) := by
  unfold cut; rw [index_no h]; rfl
theorem cut_at {p r : List UInt8} {c : UInt8} (h : c ∉ p) : cut (p ++ c :: r) [c] = (p, r, true) := by
  unfold cut; rw [index_at h, if_pos (by omega)]; simp
/-- the parts of a text at a byte -/
def parts (c : UInt8) : List (List UInt8) → List UInt8
  | [] => []
  | [x] => x
  | x :: y :: t => x ++ c :: parts c (y :: t)
theorem splitK_parts {c : UInt8} : ∀ {ws : List (List UInt8)}, ws ≠ [] → (∀ x ∈ ws, c ∉ x) → count (parts c ws) [c] + 1 = ws.length ∧ ∀ k, ws.length ≤ k + 1 → splitK [c] 0 k (parts c ws) = ws
  | [], h, _ => absurd rfl h
  | [x], _, hc => by
    have h1 : index x [c] = -1 := index_no (hc x (by simp))
    refine ⟨?_, fun k _ => ?_⟩
    · show count x [c] + 1 = 1
      rw [count_miss h1]
    · show splitK [c] 0 k x = [x]
      cases k with
      | zero => rfl
      | succ k => unfold splitK; rw [if_pos (beq_iff_eq.2 h1)]
  | x :: y :: t, _, hc => by
    obtain ⟨ih1, ih2⟩ := splitK_parts (c := c) (ws := y :: t) (by simp) fun z hz => hc z (List.mem_cons_of_mem _ hz)
    have h1 : index (parts c (x :: y :: t)) [c] = x.length := index_at (hc x (by simp))
    have e : (parts c (x :: y :: t)).drop (x.length + 1) = parts c (y :: t) := by
      show (x ++ c :: parts c (y :: t)).drop (x.length + 1) = _
      rw [List.drop_append]; simp
    refine ⟨?_, fun k hk => ?_⟩
    · rw [count_hit (by simp) h1]
      show 1 + count ((parts c (x :: y :: t)).drop (x.length + 1)) [c] + 1 = _
      rw [e]
      simp at ih1 ⊢; omega
    · obtain ⟨k, rfl⟩ : ∃ m, k = m + 1 := ⟨k - 1, by simp at hk; omega⟩
      have hm : ¬ (index (parts c (x :: y :: t)) [c] == -1) = true := fun e => by have := beq_iff_eq.1 e; omega
      unfold splitK
      rw [if_neg hm, h1]
      show (parts c (x :: y :: t)).take (x.length + 0) :: splitK [c] 0 k ((parts c (x :: y :: t)).drop (x.length + 1)) = _
      rw [e, ih2 k (by simp at hk ⊢; omega)]
      congr 1
      show (x ++ c :: parts c (y :: t)).take (x.length + 0) = x
      simp
theorem splitB_parts {c : UInt8} {ws : List (List UInt8)} (h : ws ≠ []) (hc : ∀ x ∈ ws, c ∉ x) : countB (strB (parts c ws)) (strB [c]) + 1 = ws.length ∧ splitB (strB [c]) 0 (countB (strB (parts c ws)) (strB [c])) (strB (parts c ws)) = ws.map strB := by
  obtain ⟨h1, h2⟩ := splitK_parts h hc
  refine ⟨h1, ?_⟩
  have e := splitB_data (strB [c]) 0 (countB (strB (parts c ws)) (strB [c])) (strB (parts c ws))
  have e2 := h2 (countB (strB (parts c ws)) (strB [c])) (by show ws.length ≤ count (parts c ws) [c] + 1; omega)
  rw [show splitK (strB [c]).data.toList 0 _ (strB (parts c ws)).data.toList = ws from e2] at e
  have h3 : List.map (strB ∘ fun s : ByteArray => s.data.toList) (splitB (strB [c]) 0 (countB (strB (parts c ws)) (strB [c])) (strB (parts c ws))) = splitB (strB [c]) 0 (countB (strB (parts c ws)) (strB [c])) (strB (parts c ws)) := List.map_id' _
  have h4 := congrArg (List.map strB) e
  rw [List.map_map] at h4
  exact h3.symm.trans h4
end Go.St

/- Walks of library functions that the shelf lacks: strconv.FormatUint, the Builder's own ones. -/
namespace Go.Proofs
open Go.RowKit Go.Sort Go.Lib
set_option maxHeartbeats 1000000 in
set_option maxRecDepth 100000 in
theorem Tryz.copyCheck_used (b : Nat) (w : World) (h0 : w.cell? ⟨b, 0, none⟩ = some (.pointer (some ⟨b, 0, none⟩))) :
    Calls Tryz.prog 66 #[.pointer (some ⟨b, 0, none⟩)] w fun e w' => e = .returned (.tuple #[]) ∧ w' = w := by
  obtain ⟨j, hj, _⟩ := Option.map_eq_some_iff.1 (show (Tryz.prog.info? 66).map (·.size) = some 2 by kernel_rfl)
  go_enter Tryz.func66, Tryz.ntmps66
  go_wp2
  rw [Lib.run_neq_ptr_same w _ Tryz.underlying64 hj]
  go_wp2
  go_end0
  exact ⟨rfl, rfl⟩
set_option maxHeartbeats 1000000 in
set_option maxRecDepth 100000 in
theorem Tryz.copyCheck_fresh (b : Nat) (w : World) (h0 : w.cell? ⟨b, 0, none⟩ = some (.pointer none)) (hsh : w.shape? b = some (66, 2)) (hfz : w.frozen? ⟨b, 0, none⟩ = false) :
    Calls Tryz.prog 66 #[.pointer (some ⟨b, 0, none⟩)] w fun e w' => e = .returned (.tuple #[]) ∧ w' = w.setCell ⟨b, 0, none⟩ (.pointer (some ⟨b, 0, none⟩)) := by
  obtain ⟨j, hj, hjs⟩ := Option.map_eq_some_iff.1 (show (Tryz.prog.info? 66).map (·.size) = some 2 by kernel_rfl)
  have t187 : Tryz.prog.underlying 187 = some .unsafePointer := by kernel_rfl
  go_enter Tryz.func66, Tryz.ntmps66
  go_wp2
  rw [Lib.run_to_unsafe w ⟨b, 0, none⟩ Tryz.underlying64 t187 hj (by rw [hjs]; decide) hsh (Nat.zero_lt_succ 1)]
  simp only [Result.andThen]
  rw [Oper.upon_value]
  go_wp2
  rw [run_callFunc_extern Tryz.func118 (by kernel_rfl) (by kernel_rfl) (by kernel_rfl) (e := Extern.AbiNoEscape.same) (by kernel_rfl)]
  rw [Lib.run_noEscape]
  simp only [Result.andThen]
  rw [Oper.upon_value]
  go_wp2
  rw [Lib.run_from_unsafe w ⟨b, 0, none⟩ t187 Tryz.underlying64 hj hsh (by kernel_rfl)]
  simp only [Result.andThen]
  rw [Oper.upon_value]
  go_wp2
  go_end0
  exact ⟨rfl, rfl⟩
set_option maxHeartbeats 1000000 in
set_option maxRecDepth 100000 in
theorem Tryz.Builder_String_exact (b g cap : Nat) (p : Value) (l : List UInt8) (cur : Array Value) (fz : Nat × Nat) (w : World) (hbk : w.heap[b]? = some (.cells #[p, .slice (some ⟨g, 0, none⟩) l.length cap] 66 (0, 0)))
    (hg : w.heap[g]? = some (.cells cur 5 fz)) (h0 : l ≠ []) (hnc : l.length ≤ cap) (hcm : cap ≤ maxLen) (hcs : cur.size = cap) (hc : ∀ j x, l[j]? = some x → w.cell? ⟨g, j, none⟩ = some (.int .u8 x.toNat)) :
    Calls Tryz.prog 32 #[.pointer (some ⟨b, 0, none⟩)] w fun e w' => e = .returned (.string ⟨l.toArray⟩) ∧ w' = w.drew.freeze ⟨g, 0, none⟩ l.length := by
  have hl0 : l.length ≠ 0 := by simpa using h0
  have c1 : w.drew.cell? ⟨b, 1, none⟩ = some (.slice (some ⟨g, 0, none⟩) l.length cap) := by
    have : w.drew.heap[b]? = some (.cells #[p, .slice (some ⟨g, 0, none⟩) l.length cap] 66 (0, 0)) := hbk
    rw [Lib.cell_of_heap this]; rfl
  have hSD : (Builtin.unsafeSliceData_ #[24] 125 #[.slice (some ⟨g, 0, none⟩) l.length cap]).run Tryz.prog w.drew = .ok (.pointer (some ⟨g, 0, none⟩)) w.drew :=
    Lib.run_unsafeSliceData_row _ _ _ _ _ _ (by omega)
  have hUS : (Builtin.unsafeString_ #[125, 3] 9 #[.pointer (some ⟨g, 0, none⟩), .int .i64 l.length]).run Tryz.prog w.drew = .ok (.string ⟨l.toArray⟩) (w.drew.freeze ⟨g, 0, none⟩ l.length) := by
    refine Lib.run_unsafeString_row w.drew 125 3 9 5 (by kernel_rfl) (by kernel_rfl) g cur.size (by have hg' : w.drew.heap[g]? = some (.cells cur 5 fz) := hg; simp [World.shape?, hg']) l h0 (by omega) (by unfold maxLen at hcm; omega) ?_
    intro j x hx
    rw [Lib.add_plain, World.cell?_drew, Nat.zero_add]; exact hc j x hx
  have mixed : Tryz.prog.follows .mixedOrders = true := by kernel_rfl
  go_enter Tryz.func32, Tryz.ntmps32
  go_wp2
  go_region_o
  all_goals (go_wp2; go_ret; exact ⟨rfl, rfl⟩)
end Go.Proofs

/- Walk of strconv.FormatUint at base 10. -/
namespace Go.Proofs
open Go.RowKit Go.Sort Go.Lib
set_option maxHeartbeats 6400000 in
set_option maxRecDepth 100000 in
theorem Tryz.internal_FormatUint (u : Nat) (hu64 : u < 18446744073709551616) (w : World) (htab : Lib.TabIs Tryz.prog w "internal/strconv.uint64pow10" .u64 Lib.pow10Tab) :
    Calls Tryz.prog 170 #[.int .u64 u, .int .i64 10] w fun e w' => e = .returned (.string ⟨(Lib.decDigits u).toArray⟩) ∧ ∃ k os, w' = grow (w.drewN k) os := by
  have mixed : Tryz.prog.follows .mixedOrders = true := by kernel_rfl
  have e212 : ∀ args w, (callFunc 212 args).run Tryz.prog w = .ok (.enter 212 args) w := enters_of Tryz.func212 (by kernel_rfl) rfl
  have e213 : ∀ args w, (callFunc 213 args).run Tryz.prog w = .ok (.enter 213 args) w := enters_of Tryz.func213 (by kernel_rfl) rfl
  have e214 : ∀ args w, (callFunc 214 args).run Tryz.prog w = .ok (.enter 214 args) w := enters_of Tryz.func214 (by kernel_rfl) rfl
  by_cases hs : u < 100
  · go_enter Tryz.func170, Tryz.ntmps170
    go_wp2_with (go_at_fn 212; refine (Tryz.internal_strconv_small u hs _).mono ?_; rintro e w' ⟨rfl, rfl⟩)
    go_ret
    exact ⟨rfl, 0, #[], by simp [World.drewN_zero]⟩
  · have hu1 : 1 ≤ u := by omega
    have hnd20 : Lib.nDigits u ≤ 20 := by have := Lib.numDigits_eq u hu1 hu64; split at this <;> omega
    have hb4 : Lib.nDigits u ≤ 24 := by omega
    have hal : Tryz.prog.arrayLen 296 = 24 := by simp [Program.arrayLen, Tryz.underlying296]
    have hsl1 : ∀ W, (Instr.sliceAt 296 (.pointer (some ⟨w.heap.size, 0, none⟩)) none (some (.int .i64 (Lib.nDigits u : Int))) none).run Tryz.prog W = .ok (.slice (some ⟨w.heap.size, 0, none⟩) (Lib.nDigits u) 24) W := fun W => by
      rw [run_sliceAt_array_h W 296 ⟨w.heap.size, 0, none⟩ (by simp [Program.arrayLen, Program.elem, Tryz.underlying296]) .i64 (Lib.nDigits u : Int) (by omega) (by rw [hal]; omega)]
      go_simp
    have hH0 := Lib.holds_zero0 w 296 (Lib.nDigits u) (by omega)
    have hfmt := Tryz.internal_strconv_formatBase10 w.heap.size 0 24 u (Array.replicate (Lib.nDigits u) 0) (w.alloc (.cells Lib.zeros24 296)) hH0 (by rw [Array.size_replicate]; exact Lib.lt_pow_nDigits u) hu64 (by rw [Array.size_replicate]; omega)
    rw [Array.size_replicate] at hfmt
    have HH0 := Lib.hid hH0
    clear hH0 hal
    go_enter Tryz.func170, Tryz.ntmps170
    go_wp2_with (first
      | (go_at_fn 213; refine (Tryz.internal_strconv_numDigits u hu1 hu64 _ (Lib.tabIs_alloc htab _)).mono ?_; rintro e w' ⟨rfl, rfl⟩))
    go_at_fn 214
    refine hfmt.mono ?_
    rintro e w' ⟨rfl, k, v', dk, rfl, hF⟩
    have hcv : (convert 24 9 (.slice (some ⟨w.heap.size, 0, none⟩) (Lib.nDigits u) 24)).run Tryz.prog ((putRow (fun (b : UInt8) => Value.int .u8 (b.toNat : Int)) (w.alloc (.cells Lib.zeros24 296)) w.heap.size 0 dk).drewN k) = .ok (.string ⟨(Lib.decDigits u).toArray⟩) ((putRow (fun (b : UInt8) => Value.int .u8 (b.toNat : Int)) (w.alloc (.cells Lib.zeros24 296)) w.heap.size 0 dk).drewN k) := by
      have h := run_convert_bytes_back (P := Tryz.prog) ((putRow (fun (b : UInt8) => Value.int .u8 (b.toNat : Int)) (w.alloc (.cells Lib.zeros24 296)) w.heap.size 0 dk).drewN k) 24 9 5 ⟨w.heap.size, 0, none⟩ 24 (Lib.decDigits u) Tryz.underlying24 Tryz.underlying5 Tryz.underlying9 (fun j hj => by
        rw [Lib.row_is_numeral hF j hj, Lib.add_plain, World.cell?_drewN]
        exact cell?_putRow (fun (b : UInt8) => Value.int .u8 (b.toNat : Int)) _ w.heap.size 0 _ dk HH0.out (by rw [hF.size, Array.size_replicate]) j (by rw [hF.size]; rw [Lib.decDigits_length] at hj; exact hj))
      rw [Lib.decDigits_length] at h
      exact h
    go_wp2
    go_ret
    refine ⟨rfl, k, ?_⟩
    rw [alloc_eq_grow]
    obtain ⟨os', _, e⟩ := putRow_grow_new (fun (b : UInt8) => Value.int .u8 (b.toNat : Int)) w #[.cells Lib.zeros24 296] w.heap.size 0 dk (Nat.le_refl _)
    exact ⟨os', by rw [e]; rfl⟩
end Go.Proofs

/- Contracts: a Builder. -/
namespace Go.St
open Go Go.Proofs Go.Lib
attribute [local irreducible] AppV
theorem runV_of {P : Program} {s : Sem Value} {w w' : World} {v : Value} {K : Value → World → Prop} (hr : s.run P w = .ok v w') (k : K v w') : runV P s w K := by
  unfold runV; rw [hr]; exact k
attribute [local irreducible] runV
theorem appInfo : ∃ i, prog.info? 5 = some i ∧ i.zero = some (.int .u8 0) ∧ i.size = 1 ∧ i.bytes = 1 := by
  have h : (prog.info? 5).map (fun i => (i.zero, i.size, i.bytes)) = some (some (.int .u8 0), 1, 1) := by kernel_rfl
  cases e : prog.info? 5 with
  | none => rw [e] at h; cases h
  | some i =>
    rw [e] at h
    simp only [Option.map_some, Option.some.injEq, Prod.mk.injEq] at h
    exact ⟨i, rfl, h.1, h.2.1, h.2.2⟩
/-- a row of bytes that a Builder owns -/
def BufT (a : Option Addr) (l c : Nat) (xs : List UInt8) : HP := match a with
  | none => pur (l = 0 ∧ c = 0 ∧ xs = [])
  | some ⟨g, o, s⟩ => ex fun (cur : Array Value) => sp (pur (o = 0 ∧ s = none ∧ xs.length = l ∧ l ≤ c ∧ c ≤ maxLen ∧ cur.size = c ∧ cur.toList.take l = byteCells xs)) (one g (.cells cur 5))
def BuilderR (b : Nat) (xs : List UInt8) : HP := ex fun (p : Option Addr) => ex fun (a : Option Addr) => ex fun (c : Nat) =>
  sp (pur (p = none ∨ p = some ⟨b, 0, none⟩)) (sp (one b (.cells #[.pointer p, .slice a xs.length c] 66)) (BufT a xs.length c xs))
section
variable {w : World} {M : List HP} {b g : Nat} {xs : List UInt8}
theorem one_ld {cs : Array Value} {t : TypeId} (h : Sat w (one b (.cells cs t) :: M)) (o : Nat) : w.cell? ⟨b, o, none⟩ = cs[o]? := by
  simp [World.cell?, one_get h]
theorem one_fz {cs : Array Value} {t : TypeId} (h : Sat w (one b (.cells cs t) :: M)) (o : Nat) : w.frozen? ⟨b, o, none⟩ = false := by
  simp [World.frozen?, one_get h]
theorem one_set {cs : Array Value} {t : TypeId} (h : Sat w (one b (.cells cs t) :: M)) (o : Nat) (v : Value) : Sat (w.setCell ⟨b, o, none⟩ v) (one b (.cells (cs.setIfInBounds o v) t) :: M) := by
  refine h.upd ?_ ?_ ⟨rfl, rfl⟩ rfl
  · have := one_get h
    simp [World.setCell, Array.getElem?_modify, this]
  · intro c hc
    simp [World.setCell, Array.getElem?_modify, Ne.symm hc]
theorem BuilderR.un (h : Sat w (BuilderR b xs :: M)) : ∃ p a c, (p = none ∨ p = some ⟨b, 0, none⟩) ∧ Sat w (one b (.cells #[.pointer p, .slice a xs.length c] 66) :: BufT a xs.length c xs :: M) := by
  obtain ⟨p, h⟩ := Sat.ex.1 h; obtain ⟨a, h⟩ := Sat.ex.1 h; obtain ⟨c, h⟩ := Sat.ex.1 h
  obtain ⟨hp, h⟩ := Sat.pur.1 (Sat.sep.1 h)
  exact ⟨p, a, c, hp, Sat.sep.1 h⟩
theorem BuilderR.mk {p a : Option Addr} {c : Nat} (hp : p = none ∨ p = some ⟨b, 0, none⟩) (h : Sat w (one b (.cells #[.pointer p, .slice a xs.length c] 66) :: BufT a xs.length c xs :: M)) : Sat w (BuilderR b xs :: M) :=
  Sat.ex.2 ⟨p, Sat.ex.2 ⟨a, Sat.ex.2 ⟨c, Sat.sep.2 (Sat.pur.2 ⟨hp, Sat.sep.2 h⟩)⟩⟩⟩
theorem BuilderR.new {K : Nat → World → Prop} (h : Sat w M) (k : ∀ r w1, Sat w1 (BuilderR r [] :: M) → K r w1) : alP w #[.pointer none, .slice none 0 0] 66 K := by
  have h1 : Sat (w.alloc (.cells #[.pointer none, .slice none 0 0] 66)) (one w.heap.size (.cells #[.pointer none, .slice none 0 0] 66) :: M) := h.allocO _ rfl
  have h2 : Sat (w.alloc (.cells #[.pointer none, .slice none 0 0] 66)) (BufT none 0 0 [] :: one w.heap.size (.cells #[.pointer none, .slice none 0 0] 66) :: M) := Sat.pur.2 ⟨⟨rfl, rfl, rfl⟩, h1⟩
  exact k _ _ (BuilderR.mk (p := none) (a := none) (c := 0) (.inl rfl) (h2.pull 1))
theorem BufT.un {o : Nat} {s : Option Nat} {l c : Nat} (h : Sat w (BufT (some ⟨g, o, s⟩) l c xs :: M)) : ∃ cur : Array Value, (o = 0 ∧ s = none ∧ xs.length = l ∧ l ≤ c ∧ c ≤ maxLen ∧ cur.size = c ∧ cur.toList.take l = byteCells xs) ∧ Sat w (one g (.cells cur 5) :: M) := by
  obtain ⟨cur, h⟩ := Sat.ex.1 h
  exact ⟨cur, Sat.pur.1 (Sat.sep.1 h)⟩
theorem BufT.mk {l c : Nat} {cur : Array Value} (p : xs.length = l ∧ l ≤ c ∧ c ≤ maxLen ∧ cur.size = c ∧ cur.toList.take l = byteCells xs) (h : Sat w (one g (.cells cur 5) :: M)) : Sat w (BufT (some ⟨g, 0, none⟩) l c xs :: M) :=
  Sat.ex.2 ⟨cur, Sat.sep.2 (Sat.pur.2 ⟨⟨rfl, rfl, p⟩, h⟩)⟩
theorem strCells_byte (s : ByteArray) : strCells s = byteCells s.data.toList := rfl
theorem byteCells_app (xs ys : List UInt8) : byteCells (xs ++ ys) = byteCells xs ++ byteCells ys := by simp [byteCells]
theorem BufT.app {a : Option Addr} {l c : Nat} {s : ByteArray} {K : Value → World → Prop} (h : Sat w (BufT a l c xs :: M)) (hl : xs.length = l) (hb : l + s.size ≤ 2 ^ 40)
    (k : ∀ a' c' w', Sat w' (BufT a' (l + s.size) c' (xs ++ s.data.toList) :: M) → K (.slice a' (l + s.size) c') w') : AppV prog #[24, 9] 24 (.slice a l c) (.string s) w K := by
  obtain ⟨i, hi, hz, hsz, hby⟩ := appInfo
  have ht : prog.underlying 24 = some (.slice 5) := by kernel_rfl
  have hu : prog.underlying 9 = some .string := by kernel_rfl
  have hml : l + s.size ≤ maxLen := by unfold maxLen; omega
  have hlen : (xs ++ s.data.toList).length = l + s.size := by rw [List.length_append, hl]; rfl
  have grown : ∀ old, old < l + s.size → ∀ w1 : World, (w1 = w.drew.alloc (.cells ((byteCells xs).toArray ++ (strCells s).toArray ++ Builtin.zeroCells (Value.int .u8 0).cells (grownCap w (l + s.size) old 5 - (l + s.size))) 5)) → Sat w M →
      Sat w1 (BufT (some ⟨w.heap.size, 0, none⟩) (l + s.size) (grownCap w (l + s.size) old 5) (xs ++ s.data.toList) :: M) := by
    rintro old ho w1 rfl hM
    have hge := grownCap_ge w (l + s.size) old 5
    have hcm : grownCap w (l + s.size) old 5 ≤ maxLen := grownCap_le_maxLen w (l + s.size) old 5 hml
    refine BufT.mk ⟨hlen, hge, hcm, ?_, ?_⟩ (hM.drew.allocO _ rfl)
    · have hz1 : (Value.int IntKind.u8 0).cells.size = 1 := rfl
      simp only [Array.size_append, List.size_toArray, size_zeroCells, hz1, byteCells_length, strCells_length]
      omega
    · simp only [Array.toList_append, List.append_assoc]
      rw [← List.append_assoc, byteCells_app, ← strCells_byte]
      refine List.take_left' ?_
      rw [List.length_append, byteCells_length, strCells_length, hl]
  unfold AppV
  cases a with
  | none =>
    obtain ⟨⟨rfl, rfl, rfl⟩, hM⟩ := Sat.pur.1 h
    by_cases hm : s.size = 0
    · have hf := run_firstCells_string (P := prog) w 1 s
      have hn : strCells s = [] := List.eq_nil_of_length_eq_zero (by rw [strCells_length]; exact hm)
      have hd : s.data.toList = [] := List.eq_nil_of_length_eq_zero hm
      rw [hm] at hf
      have hr : (Builtin.append_ #[24, 9] 24 #[.slice none 0 0, .string s]).run prog w = .ok (.slice none 0 0) w := by
        simp [Builtin.append_, run_underlying ht, run_underlying hu, sizeOf, typeInfo, hi, hsz, Builtin.lenOf, hm, hf]
      have := k none 0 w
      rw [hm, hd] at this
      exact runV_of hr (this (Sat.pur.2 ⟨⟨rfl, rfl, rfl⟩, hM⟩))
    · have hr := run_append_nil_string (P := prog) w 24 9 24 5 i (.int .u8 0) ht hu hi hz s (by omega) (by omega) (by rw [hby]; omega)
      have hgr := grown 0 (by omega) _ rfl hM
      simp only [Nat.zero_add, List.nil_append, show (byteCells []).toArray = #[] from rfl, Array.empty_append] at hgr
      have e1 : (s.data.map fun b => Value.int .u8 b.toNat) = (strCells s).toArray := by
        apply Array.ext'
        simp [strCells]
      rw [e1] at hr
      have := k (some ⟨w.heap.size, 0, none⟩) (grownCap w s.size 0 5) _ (by simpa using hgr)
      rw [Nat.zero_add] at this
      exact runV_of hr this
  | some ad =>
    obtain ⟨g, o, s0⟩ := ad
    obtain ⟨cur, ⟨rfl, rfl, _, hlc, hcm, hcs, htk⟩, h1⟩ := BufT.un h
    have hg := one_get h1
    by_cases hroom : l + s.size ≤ c
    · have hr := run_append_room_string (P := prog) w 24 9 24 5 i ht hu hi hsz g l c cur hg s hroom (by omega)
      refine runV_of hr (k _ _ _ (BufT.mk (cur := (cur.toList.take l ++ strCells s ++ cur.toList.drop (l + s.size)).toArray) ⟨hlen, hroom, hcm, ?_, ?_⟩ (h1.upd (setRow_heap w g cur _ 5 _ hg) (fun c hc => setRow_other w g c _ hc) ⟨rfl, rfl⟩ rfl)))
      · simp only [List.size_toArray, List.length_append, List.length_take, List.length_drop, Array.length_toList, strCells_length]
        omega
      · rw [htk, byteCells_app, ← strCells_byte]
        refine List.take_left' ?_
        rw [List.length_append, byteCells_length, strCells_length, hl]
    · have holds : ∀ j u, (byteCells xs)[j]? = some u → w.cell? ((⟨g, 0, none⟩ : Addr).add j) = some u := fun j u hj => by
        rw [Lib.add_plain, Nat.zero_add, one_ld h1]
        rw [← htk, List.getElem?_take] at hj
        split at hj
        · simpa using hj
        · cases hj
      have hr := run_append_grow_string (P := prog) w 24 9 24 5 i (.int .u8 0) ht hu hi hz ⟨g, 0, none⟩ l c (byteCells xs) (by rw [hsz, byteCells_length]; omega) holds s (by omega) (by omega) (by rw [hby]; exact growslice_fits (by omega) (by omega))
      exact runV_of hr (k _ _ _ (grown c (by omega) _ rfl h1.drop))
end
end Go.St

/- Contracts: what the library's functions tell. -/
namespace Go.St
open Go Go.Proofs Go.Lib
attribute [local irreducible] stP alP drP stCs lI64 lU64 lU8 lB lP lL lR lS AppV ClrV InvV
/-- what a call reads of the package-level variables -/
structure GF (w : World) : Prop where
  names : ∀ i x, namesL[i]? = some x → w.cell? ⟨0, i, none⟩ = some (.string x)
  tab : Lib.TabIs prog w "internal/strconv.uint64pow10" .u64 Lib.pow10Tab
  ml : ∃ m, w.cell? ⟨1, 0, none⟩ = some (.int .i64 m)
  es : ∃ ev, w.cell? ⟨3, 0, none⟩ = some ev ∧ (ev = .nilIface ∨ ∃ te pe, ev = .iface te pe)
  er : ∃ ev, w.cell? ⟨4, 0, none⟩ = some ev ∧ (ev = .nilIface ∨ ∃ te pe, ev = .iface te pe)
def GA (M : List HP) : Prop := ∀ w, Sat w M → GF w
theorem GA.cons {M : List HP} {A : HP} (g : GA M) : GA (A :: M) := fun w h => g w h.drop
theorem GA.perm {M N : List HP} (g : GA M) (p : N.Perm M) : GA N := fun w h => g w (h.perm p)
theorem GA.gn {M : List HP} (g : GA M) : GN M := fun w h => (g w h).names
theorem below_grow (w : World) (k : Nat) (os : Array Obj) : RowKit.Below w.heap.size w (Sort.grow (w.drewN k) os) :=
  ⟨rfl, rfl, rfl, by rw [Sort.size_grow]; exact Nat.le_add_right _ _, fun c hc => Sort.heap_grow_old (w.drewN k) os hc⟩
section
variable {w : World} {M : List HP}
theorem cut_spec {s sep : ByteArray} {K : ByteArray → ByteArray → Bool → World → Prop} (h : Sat w M) (g : GA M) (hs : s.size < 4294967281)
    (k : ∀ w', Sat w' M → K (strB (cut s.data.toList sep.data.toList).1) (strB (cut s.data.toList sep.data.toList).2.1) (cut s.data.toList sep.data.toList).2.2 w') : strings_Cut.C s sep w K := by
  obtain ⟨m, hm⟩ := (g w h).ml
  refine callsV_of_calls ((Tryz.strings_Cut s sep m w hs hm).mono ?_)
  rintro e w' ⟨rfl, n, rfl⟩
  exact ⟨_, rfl, _, _, _, rfl, k _ (h.keep rfl ⟨rfl, rfl⟩)⟩
theorem split_spec {ws : List (List UInt8)} {K : Option Addr → Nat → Nat → World → Prop} (h : Sat w M) (g : GA M) (hs : (parts 32 ws).length < 4294967281) (hne : ws ≠ []) (hw : ∀ x ∈ ws, (32 : UInt8) ∉ x)
    (k : ∀ r w', Sat w' (blk r (ws.map fun x => .string (strB x)) :: M) → K (some ⟨r, 0, none⟩) ws.length ws.length w') : strings_Split.C (strB (parts 32 ws)) (⟨#[32]⟩ : ByteArray) w K := by
  obtain ⟨m, hm⟩ := (g w h).ml
  obtain ⟨e1, e2⟩ := splitB_parts hne hw
  refine callsV_of_calls ((Tryz.strings_Split (strB (parts 32 ws)) (strB [32]) m w hs hm (by decide)).mono ?_)
  rintro e w' ⟨rfl, rfl⟩
  rw [e1, e2]
  refine ⟨_, rfl, _, _, _, rfl, k _ _ ?_⟩
  have e3 : (ws.map strB).map Value.string = ws.map fun x => Value.string (strB x) := by rw [List.map_map]; rfl
  have h3 : Sat (w.alloc (.cells ((ws.map strB).map Value.string).toArray 9)) (blk w.heap.size ((ws.map strB).map Value.string) :: M) := h.alloc _ 9
  rw [e3] at h3 ⊢
  exact h3
theorem parse_ok {s : ByteArray} {u : Nat} {K : Int → Value → World → Prop} (h : Sat w M) (hs : s.size < 4294967281) (hp : parseUintB 64 s.data.toList = .ok u) (k : ∀ w', Sat w' M → K u .nilIface w') : strconv_ParseUint.C s 10 64 w K := by
  refine callsV_of_calls ((Tryz.strconv_ParseUint_10_at64_ok s (by omega) u hp w).mono ?_)
  rintro e w' ⟨rfl, h1⟩
  refine ⟨_, rfl, _, _, rfl, k _ ?_⟩
  rcases h1 with rfl | rfl
  · exact h
  · exact h.below (bytesWorld_below w 5 s)
theorem parse_no {s : ByteArray} {K : Int → Value → World → Prop} (h : Sat w M) (g : GA M) (hs : s.size < 4294967281) (hp : ∀ u, parseUintB 64 s.data.toList ≠ .ok u) (k : ∀ n t p w', Sat w' M → K n (.iface t p) w') : strconv_ParseUint.C s 10 64 w K := by
  match e : parseUintB 64 s.data.toList with
  | .ok u => exact absurd e (hp u)
  | Go.Lib.NumEnd.syntax =>
    obtain ⟨ev, h1, h2⟩ := (g w h).es
    refine callsV_of_calls ((Tryz.strconv_ParseUint_10_at64_syntax s (by omega) e ev w h1 h2).mono ?_)
    rintro e w' ⟨N, rfl, _, _, hb⟩
    exact ⟨_, rfl, _, _, rfl, k _ _ _ _ (h.below hb)⟩
  | .range =>
    obtain ⟨ev, h1, h2⟩ := (g w h).er
    refine callsV_of_calls ((Tryz.strconv_ParseUint_10_at64_range s (by omega) e ev w h1 h2).mono ?_)
    rintro e w' ⟨N, rfl, _, _, hb⟩
    exact ⟨_, rfl, _, _, rfl, k _ _ _ _ (h.below hb)⟩
theorem format_spec {u : Nat} {K : ByteArray → World → Prop} (h : Sat w M) (g : GA M) (hu : u < 18446744073709551616) (k : ∀ w', Sat w' M → K (strB (decDigits u)) w') : strconv_FormatUint.C (u : Int) 10 w K := by
  apply strconv_FormatUint.ok
  refine callsV_of_calls ((Tryz.internal_FormatUint u hu w (g w h).tab).mono ?_)
  rintro e w' ⟨rfl, n, os, rfl⟩
  exact ⟨_, rfl, _, rfl, k _ (h.below (below_grow w n os))⟩
theorem itoa_spec {i : Nat} {K : ByteArray → World → Prop} (h : Sat w M) (hi : i < 100) (k : K (strB (decDigits i)) w) : strconv_Itoa.C (i : Int) w K := by
  refine callsV_of_calls ((Tryz.strconv_Itoa_small i hi w).mono ?_)
  rintro e w' ⟨rfl, rfl⟩
  exact ⟨_, rfl, _, rfl, k⟩
theorem write_spec {b : Nat} {xs : List UInt8} {s : ByteArray} {K : Int → Value → World → Prop} (h : Sat w (BuilderR b xs :: M)) (hb : xs.length + s.size ≤ 2 ^ 40) (k : ∀ n v w', Sat w' (BuilderR b (xs ++ s.data.toList) :: M) → K n v w') : strings_Builder_WriteString.C (some ⟨b, 0, none⟩) s w K := by
  apply strings_Builder_WriteString.ok
  obtain ⟨p, a, c, hp, h⟩ := BuilderR.un h
  have rest : ∀ w', Sat w' (one b (.cells #[.pointer (some ⟨b, 0, none⟩), .slice a xs.length c] 66) :: BufT a xs.length c xs :: M) →
      lL w' b (0 + 1) fun a6 l7 c8 => AppV prog #[24, 9] 24 (.slice a6 l7 c8) (.string s) w' fun x9 W10 =>
        ∃ (a11 : Option Addr), ∃ (l12 : Nat), ∃ (c13 : Nat), x9 = (.slice a11 l12 c13) ∧ stP W10 b (0 + 1) (.slice a11 l12 c13) fun W16 => K ((s.size : Nat) : Int) .nilIface W16 := by
    intro w h
    refine lL.mk (a := a) (l := xs.length) (c := c) (by rw [one_ld h]; rfl) ?_
    refine BufT.app (h.pull 1) rfl hb fun a' c' w' h => ⟨_, _, _, rfl, ?_⟩
    have h := h.pull 1
    unfold stP
    refine ⟨⟨⟨_, by rw [one_ld h]; rfl⟩, one_fz h _⟩, k _ _ _ ?_⟩
    have h := one_set h (0 + 1) (.slice a' (xs.length + s.size) c')
    refine BuilderR.mk (p := some ⟨b, 0, none⟩) (a := a') (c := c') (.inr rfl) ?_
    have e : (xs ++ s.data.toList).length = xs.length + s.size := by rw [List.length_append]; rfl
    rw [e]
    exact h
  rcases hp with rfl | rfl
  · refine callsV_of_calls ((Tryz.copyCheck_fresh b w (by rw [one_ld h]; rfl) (by simp [World.shape?, one_get h]) (one_fz h 0)).mono ?_)
    rintro e w' ⟨rfl, rfl⟩
    exact ⟨_, rfl, rfl, rest _ (one_set h 0 _)⟩
  · refine callsV_of_calls ((Tryz.copyCheck_used b w (by rw [one_ld h]; rfl)).mono ?_)
    rintro e w' ⟨rfl, rfl⟩
    exact ⟨_, rfl, rfl, rest _ h⟩
theorem freeze_other (w : World) (a : Addr) (n c : Nat) (hc : c ≠ a.block) : (w.freeze a n).heap[c]? = w.heap[c]? := by
  unfold World.freeze
  split
  · rfl
  · simp [Array.getElem?_modify, Ne.symm hc]
theorem freeze_same (w : World) (a : Addr) (n : Nat) : Same w (w.freeze a n) ∧ w.heap.size ≤ (w.freeze a n).heap.size := by
  unfold World.freeze
  split
  · exact ⟨⟨rfl, rfl⟩, Nat.le_refl _⟩
  · exact ⟨⟨rfl, rfl⟩, by simp⟩
theorem string_spec {b : Nat} {xs : List UInt8} {K : ByteArray → World → Prop} (h : Sat w (BuilderR b xs :: M)) (hne : xs ≠ []) (k : ∀ w', Sat w' M → K (strB xs) w') : strings_Builder_String.C (some ⟨b, 0, none⟩) w K := by
  obtain ⟨p, a, c, hp, h⟩ := BuilderR.un h
  have hg0 := one_get h
  have h2 := h.pull 1
  cases a with
  | none =>
    exact absurd (Sat.pur.1 h2).1.2.2 hne
  | some ad =>
    obtain ⟨g, o, s0⟩ := ad
    obtain ⟨cur, ⟨rfl, rfl, _, hlc, hcm, hcs, htk⟩, h1⟩ := BufT.un h2
    have hg := one_get h1
    refine callsV_of_calls ((Tryz.Builder_String_exact b g c (.pointer p) xs cur (0, 0) w hg0 hg hne hlc hcm hcs ?_).mono ?_)
    · intro j x hj
      rw [one_ld h1]
      have : (byteCells xs)[j]? = some (.int .u8 x.toNat) := by simp [byteCells, hj]
      rw [← htk, List.getElem?_take] at this
      split at this
      · simpa using this
      · cases this
    · rintro e w' ⟨rfl, rfl⟩
      refine ⟨_, rfl, _, rfl, k _ ?_⟩
      have h3 := h1.drew
      exact (h3.lose (fun c _ hc => freeze_other _ _ _ _ hc) (freeze_same _ _ _).1 (freeze_same _ _ _).2).drop
theorem sort_spec {b c : Nat} {xs : List (List UInt8)} {rest : List Value} {K : World → Prop} (h : Sat w (blk b (xs.map (fun x => .string (strB x)) ++ rest) :: M)) (hl : xs.length < 2 ^ 40)
    (k : ∀ w', Sat w' (blk b ((xs.mergeSort fun x y => decide (x ≤ y)).map (fun x => .string (strB x)) ++ rest) :: M) → K w') : slices_Sort_string_string.C (some ⟨b, 0, none⟩) xs.length c w K := by
  obtain ⟨t, h1⟩ := Sat.ex.1 h
  have hg := one_get h1
  refine callsV_of_calls ((Tryz.slices_Sort_string b 0 c xs w ?_ (Sat.lt h1) (by omega)).mono ?_)
  · intro j hj
    have hj : j < xs.length := by simpa using hj
    refine ⟨?_, h.fz _⟩
    rw [h.ld, Nat.zero_add, List.getElem?_append_left (by simpa using hj), List.getElem?_map, List.getElem?_eq_getElem hj]
    simp [hj]
    rfl
  · rintro e w' ⟨rfl, n, os, rfl⟩
    refine ⟨_, rfl, rfl, k _ (Sat.ex.2 ⟨t, ?_⟩)⟩
    have hs := heap_sorted (n := n) (os := os) (xs.mergeSort fun x y => decide (x ≤ y)).toArray hg
    have hlen : (xs.mergeSort fun x y => decide (x ≤ y)).length = xs.length := by simp
    have e : Sort.putCells encStr 0 (xs.mergeSort fun x y => decide (x ≤ y)).toArray (xs.map (fun x => Value.string (strB x)) ++ rest).toArray = ((xs.mergeSort fun x y => decide (x ≤ y)).map (fun x => Value.string (strB x)) ++ rest).toArray := by
      apply Array.ext'
      apply List.ext_getElem?
      intro j
      by_cases hj : j < xs.length
      · have hj2 : j < (xs.mergeSort fun x y => decide (x ≤ y)).length := by rw [hlen]; exact hj
        have e1 : (xs.map (fun x => Value.string (strB x)) ++ rest)[j]? = some (.string (strB xs[j])) := by
          rw [List.getElem?_append_left (by simpa using hj), List.getElem?_map, List.getElem?_eq_getElem hj]; rfl
        have e2 : ((xs.mergeSort fun x y => decide (x ≤ y)).map (fun x => Value.string (strB x)) ++ rest)[j]? = some (.string (strB (xs.mergeSort fun x y => decide (x ≤ y))[j])) := by
          rw [List.getElem?_append_left (by simpa using hj2), List.getElem?_map, List.getElem?_eq_getElem hj2]; rfl
        simp [Sort.putCells, hj, hlen]
        rw [e1, e2]
        rfl
      · simp [Sort.putCells, hj, hlen]
        rw [List.getElem?_append_right (by simp; omega), List.getElem?_append_right (by simp [hlen]; omega)]
        simp [hlen]
    rw [e] at hs
    refine h1.turn hs rfl (fun c hc hne => ?_) ⟨rfl, rfl⟩ (by simp)
    rw [Sort.heap_grow_old _ _ (by simpa using hc)]
    simp [Sort.putRow, Sort.mapBlock, Sort.ahead, Array.getElem?_modify, Ne.symm hne]
end
end Go.St

/- Contracts: words of a line. -/
namespace Go.St
open Go Go.Proofs Go.Lib
attribute [local irreducible] stP alP drP stCs lI64 lU64 lU8 lB lP lL lR lS AppV ClrV InvV
theorem strB_toList (x : List UInt8) : (strB x).toList = x := ByteArray.toList_mk x
theorem eq_lit {x : List UInt8} : ((strB x).toList == (strB x).toList) = true := beq_self_eq_true _
theorem ne_lit {x y : List UInt8} (h : x ≠ y) : ((strB x).toList == (strB y).toList) = false := by
  rw [strB_toList, strB_toList]; simpa using h
theorem bq {x y : List UInt8} : ((strB x).toList == (strB y).toList) = decide (x = y) := by
  rw [strB_toList, strB_toList]; by_cases h : x = y <;> simp [h]
/-- words that are left to be read, and whether one was bad -/
def Wh (r g : Nat) (cs : List Value) (ws : List (List UInt8)) (bad : Bool) : HP := ex fun (k : Nat) => ex fun (c : Nat) =>
  sp (pur (ws.length ≤ c ∧ ∀ j x, ws[j]? = some x → cs[k + j]? = some (.string (strB x)))) (blk r [.slice (some ⟨g, k, none⟩) ws.length c, .bool bad])
section
variable {w : World} {M : List HP} {r g : Nat} {cs : List Value} {ws : List (List UInt8)} {bad : Bool} {x : List UInt8}
theorem Wh.un (h : Sat w (Wh r g cs ws bad :: M)) : ∃ k c, (ws.length ≤ c ∧ ∀ j x, ws[j]? = some x → cs[k + j]? = some (.string (strB x))) ∧ Sat w (blk r [.slice (some ⟨g, k, none⟩) ws.length c, .bool bad] :: M) := by
  obtain ⟨k, h⟩ := Sat.ex.1 h; obtain ⟨c, h⟩ := Sat.ex.1 h
  exact ⟨k, c, Sat.pur.1 (Sat.sep.1 h)⟩
theorem Wh.mk {k c : Nat} (p : ws.length ≤ c ∧ ∀ j x, ws[j]? = some x → cs[k + j]? = some (.string (strB x))) (h : Sat w (blk r [.slice (some ⟨g, k, none⟩) ws.length c, .bool bad] :: M)) : Sat w (Wh r g cs ws bad :: M) :=
  Sat.ex.2 ⟨k, Sat.ex.2 ⟨c, Sat.sep.2 (Sat.pur.2 ⟨p, h⟩)⟩⟩
theorem words_next_cons {K : ByteArray → World → Prop} (h : Sat w (Wh r g cs (x :: ws) bad :: blk g cs :: M)) (q : ∀ w', Sat w' (Wh r g cs ws bad :: blk g cs :: M) → K (strB x) w') : shell_words_next.C (some ⟨r, 0, none⟩) w K := by
  obtain ⟨k, c, ⟨h1, h2⟩, h⟩ := Wh.un h
  apply shell_words_next.ok
  refine lL.of h (by rfl) ?_
  refine cond_f (by simp <;> omega) ?_
  refine lL.of h (by rfl) ?_
  refine ⟨by omega, by simp <;> omega, ?_⟩
  refine lS.of h (n := strB x) ?_ ?_
  · have := h2 0 x rfl
    simpa using this
  refine lL.of h (by rfl) ?_
  refine ⟨by omega, by simp <;> omega, ?_⟩
  refine stP.of h (Nat.le_of_ble_eq_true rfl) fun w h => ?_
  refine q _ ?_
  simp only [List.length_cons] at h1
  by_cases hc : c = 1
  · subst hc
    have hw : ws = [] := List.eq_nil_of_length_eq_zero (by omega)
    subst hw
    exact Wh.mk (k := k) (c := 0) ⟨by simp, fun j x hj => by simp at hj⟩ h
  · have e : slA (some ⟨g, k, none⟩) c (Int.toNat 1) 1 = some ⟨g, k + 1, none⟩ := by
      unfold slA
      rw [if_neg (by show ¬ c = 1; omega)]
      rfl
    rw [e] at h
    refine Wh.mk (k := k + 1) (c := c - 1) ⟨by omega, fun j y hj => ?_⟩ h
    have := h2 (j + 1) y (by simpa using hj)
    rw [show k + 1 + j = k + (j + 1) by omega]; exact this
theorem words_next_nil {K : ByteArray → World → Prop} (h : Sat w (Wh r g cs [] bad :: M)) (q : ∀ w', Sat w' (Wh r g cs [] true :: M) → K (strB []) w') : shell_words_next.C (some ⟨r, 0, none⟩) w K := by
  obtain ⟨k, c, p, h⟩ := Wh.un h
  apply shell_words_next.ok
  refine lL.of h (by rfl) ?_
  refine cond_t rfl ?_
  refine stP.of h (Nat.le_of_ble_eq_true rfl) fun w h => ?_
  exact q _ (Wh.mk p h)
/-- a number, spelt as it is told -/
structure Dec (x : List UInt8) (u : Nat) : Prop where
  p : parseUintB 64 x = .ok u
  d : decDigits u = x
  lt : u < 18446744073709551616
theorem words_key_ok {u : Nat} {K : Int → World → Prop} (h : Sat w (Wh r g cs (x :: ws) false :: blk g cs :: M)) (ga : GA M) (hl : x.length < 4294967281) (hd : Dec x u) (q : ∀ w', Sat w' (Wh r g cs ws false :: blk g cs :: M) → K u w') : shell_words_key.C (some ⟨r, 0, none⟩) w K := by
  apply shell_words_key.ok
  refine words_next_cons h fun w h => ?_
  refine parse_ok h hl hd.p fun w h => ?_
  obtain ⟨k, c, p, h⟩ := Wh.un h
  refine lB.of h (by rfl) ?_
  refine cond_f rfl ?_
  show strconv_FormatUint.C _ _ _ _
  refine format_spec h ga.cons.cons hd.lt fun w h => ?_
  rw [hd.d, eq_lit]
  refine stP.of h (Nat.le_of_ble_eq_true rfl) fun w h => ?_
  exact q _ (Wh.mk p h)
/-- one that is no number as it is told -/
theorem words_key_bad {K : Int → World → Prop} (h : Sat w (Wh r g cs (x :: ws) false :: blk g cs :: M)) (ga : GA M) (hl : x.length < 4294967281) (hd : ∀ u, ¬ Dec x u) (hu : ∀ u, parseUintB 64 x = .ok u → u < 18446744073709551616)
    (q : ∀ n w', Sat w' (Wh r g cs ws true :: blk g cs :: M) → K n w') : shell_words_key.C (some ⟨r, 0, none⟩) w K := by
  apply shell_words_key.ok
  refine words_next_cons h fun w h => ?_
  by_cases hp : ∃ u, parseUintB 64 x = .ok u
  · obtain ⟨u, hp⟩ := hp
    refine parse_ok h hl hp fun w h => ?_
    obtain ⟨k, c, p, h⟩ := Wh.un h
    refine lB.of h (by rfl) ?_
    refine cond_f rfl ?_
    show strconv_FormatUint.C _ _ _ _
    refine format_spec h ga.cons.cons (hu u hp) fun w h => ?_
    rw [ne_lit (fun e => hd u ⟨hp, e, hu u hp⟩)]
    refine stP.of h (Nat.le_of_ble_eq_true rfl) fun w h => ?_
    exact q _ _ (Wh.mk p h)
  · refine parse_no h ga.cons.cons hl (fun u hu => hp ⟨u, hu⟩) fun n t v w h => ?_
    obtain ⟨k, c, p, h⟩ := Wh.un h
    refine lB.of h (by rfl) ?_
    refine cond_f rfl ?_
    show stP _ _ _ _ _
    refine stP.of h (Nat.le_of_ble_eq_true rfl) fun w h => ?_
    exact q _ _ (Wh.mk p h)
theorem words_key_nil {K : Int → World → Prop} (h : Sat w (Wh r g cs [] bad :: M)) (ga : GA M) (q : ∀ n w', Sat w' (Wh r g cs [] true :: M) → K n w') : shell_words_key.C (some ⟨r, 0, none⟩) w K := by
  apply shell_words_key.ok
  refine words_next_nil h fun w h => ?_
  refine parse_no h ga.cons (by decide) (fun u hu => by cases hu) fun n t v w h => ?_
  obtain ⟨k, c, p, h⟩ := Wh.un h
  refine lB.of h (by rfl) ?_
  refine cond_t rfl ?_
  refine stP.of h (Nat.le_of_ble_eq_true rfl) fun w h => ?_
  exact q _ _ (Wh.mk p h)
theorem words_num_ok {u : Nat} {K : Int → World → Prop} (h : Sat w (Wh r g cs (x :: ws) false :: blk g cs :: M)) (ga : GA M) (hl : x.length ≤ 9) (hd : Dec x u) (hu : u < 1000000000) (q : ∀ w', Sat w' (Wh r g cs ws false :: blk g cs :: M) → K u w') : shell_words_num.C (some ⟨r, 0, none⟩) w K := by
  apply shell_words_num.ok
  obtain ⟨k, c, p, h⟩ := Wh.un h
  refine lL.of h (by rfl) ?_
  refine cond_t (by simp) ?_
  refine lL.of h (by rfl) ?_
  refine ⟨by omega, by simp <;> omega, ?_⟩
  refine lS.of h (n := strB x) ?_ ?_
  · have := p.2 0 x rfl
    simpa using this
  refine cond_f (by
    have e : (strB x).size = x.length := rfl
    rw [e]; simp; omega) ?_
  unfold shell_words_num.T1
  refine words_key_ok (Wh.mk p h) ga (by omega) hd fun w h => ?_
  obtain ⟨k, c, p, h⟩ := Wh.un h
  refine lB.of h (by rfl) ?_
  refine cond_f rfl ?_
  rw [w64_id (by omega) (by omega)]
  exact q _ (Wh.mk p h)
theorem words_num_nil {K : Int → World → Prop} (h : Sat w (Wh r g cs [] bad :: M)) (ga : GA M) (q : ∀ w', Sat w' (Wh r g cs [] true :: M) → K 0 w') : shell_words_num.C (some ⟨r, 0, none⟩) w K := by
  apply shell_words_num.ok
  obtain ⟨k, c, p, h⟩ := Wh.un h
  refine lL.of h (by rfl) ?_
  refine cond_f rfl ?_
  unfold shell_words_num.T1
  refine words_key_nil (Wh.mk p h) ga fun n w h => ?_
  obtain ⟨k, c, p, h⟩ := Wh.un h
  refine lB.of h (by rfl) ?_
  refine cond_t rfl ?_
  exact q _ (Wh.mk p h)
theorem words_one_no {yes : List UInt8} {K : Bool → World → Prop} (h : Sat w (Wh r g cs (x :: ws) false :: blk g cs :: M)) (hx : x ≠ yes) (q : ∀ w', Sat w' (Wh r g cs ws false :: blk g cs :: M) → K false w') : shell_words_one.C (some ⟨r, 0, none⟩) (strB yes) (strB x) w K := by
  apply shell_words_one.ok
  refine words_next_cons h fun w h => ?_
  obtain ⟨k, c, p, h⟩ := Wh.un h
  refine lB.of h (by rfl) ?_
  refine cond_f rfl ?_
  rw [ne_lit hx, eq_lit]
  refine cond_t rfl ?_
  refine stP.of h (Nat.le_of_ble_eq_true rfl) fun w h => ?_
  exact q _ (Wh.mk p h)
def tagN : Nat → List UInt8
  | 1 => [118, 101, 98]
  | 2 => [120, 102, 97, 115, 116]
  | 3 => [121, 102, 97, 115, 116]
  | 4 => [116, 114, 105, 101]
  | 5 => [114, 111, 97, 114]
  | _ => []
theorem face_Name_spec {n : Nat} {K : ByteArray → World → Prop} (h1 : 1 ≤ n) (h2 : n ≤ 5) (k : K (strB (tagN n)) w) : face_Name.C (n : Int) w K := by
  apply face_Name.ok
  have : n = 1 ∨ n = 2 ∨ n = 3 ∨ n = 4 ∨ n = 5 := by omega
  rcases this with rfl | rfl | rfl | rfl | rfl
  · exact cond_t rfl k
  · exact cond_f rfl (cond_t rfl k)
  · exact cond_f rfl (cond_f rfl (cond_t rfl k))
  · exact cond_f rfl (cond_f rfl (cond_f rfl (cond_t rfl k)))
  · exact cond_f rfl (cond_f rfl (cond_f rfl (cond_f rfl (cond_t rfl k))))
theorem words_tag {t : Nat} {K : Int → World → Prop} (h : Sat w (Wh r g cs (tagN t :: ws) false :: blk g cs :: M)) (h1 : 1 ≤ t) (h2 : t ≤ 5) (q : ∀ w', Sat w' (Wh r g cs ws false :: blk g cs :: M) → K t w') : shell_words_tag.C (some ⟨r, 0, none⟩) w K := by
  apply shell_words_tag.ok
  refine words_next_cons h fun w h => ?_
  show LoopT _ _ _
  refine LoopT.of (fun s w => ∃ j : Nat, s = (j : Int) ∧ 1 ≤ j ∧ j ≤ t ∧ Sat w (Wh r g cs ws false :: blk g cs :: M)) (fun s => 6 - s.toNat) ⟨1, rfl, by omega, h1, h⟩ ?_
  rintro s w ⟨j, rfl, hj1, hj2, h'⟩
  refine cond_c (fun hc => ?_) fun hc => ?_
  · refine face_Name_spec hj1 (by omega) ?_
    rw [bq]
    by_cases e : j = t
    · subst e
      refine cond_t (by simp) (q _ h')
    · have hne : tagN j ≠ tagN t := by
        have a : j = 1 ∨ j = 2 ∨ j = 3 ∨ j = 4 := by omega
        have b : t = 2 ∨ t = 3 ∨ t = 4 ∨ t = 5 := by omega
        rcases a with rfl | rfl | rfl | rfl <;> rcases b with rfl | rfl | rfl | rfl <;> first | exact absurd rfl e | decide | omega
      refine cond_f (by simpa using hne) ?_
      rw [w64_id (by omega) (by omega)]
      exact ⟨⟨j + 1, by omega, by omega, by omega, h'⟩, by omega⟩
  · simp at hc; omega
theorem words_end {K : Bool → World → Prop} (h : Sat w (Wh r g cs [] bad :: M)) (q : ∀ w', Sat w' (Wh r g cs [] bad :: M) → K (!bad) w') : shell_words_end.C (some ⟨r, 0, none⟩) w K := by
  apply shell_words_end.ok
  obtain ⟨k, c, p, h⟩ := Wh.un h
  refine lB.of h (by rfl) ?_
  cases bad with
  | false =>
    refine cond_t rfl ?_
    refine lL.of h (by rfl) ?_
    exact q _ (Wh.mk p h)
  | true => exact cond_f rfl (q _ (Wh.mk p h))
theorem wu8_id {n : Nat} (h : n < 256) : wu8 (n : Int) = (n : Int) := by
  simp [wu8, IntKind.wrap, IntKind.bits, IntKind.signed]; omega
theorem kind_hit {i : Nat} {K : Int → World → Prop} (h : Sat w M) (ga : GA M) (hi : i < 24) (ha : x ≠ [97, 108, 108]) (hx : namesL.getD i ⟨#[]⟩ = strB x) (hf : ∀ j, j < i → namesL.getD j ⟨#[]⟩ ≠ strB x) (q : K i w) : shell_kind.C (strB x) w K := by
  apply shell_kind.ok
  refine cond_f (ne_lit ha) ?_
  show LoopT _ _ _
  refine LoopT.of (fun s w' => ∃ j : Nat, s = (j : Int) ∧ j ≤ i ∧ w' = w) (fun s => 24 - s.toNat) ⟨0, rfl, by omega, rfl⟩ ?_
  rintro s w' ⟨j, rfl, hj, rfl⟩
  refine cond_c (fun hc => ?_) fun hc => ?_
  · rw [wu8_id (by omega)]
    refine play_Name_spec h ga.gn (by omega) ?_
    obtain ⟨y, hy⟩ : ∃ y, namesL.getD j ⟨#[]⟩ = strB y := ⟨_, (strB_eta _).symm⟩
    rw [hy, bq]
    by_cases e : j = i
    · subst e
      have : y = x := by
        have := hy.symm.trans hx
        have := congrArg (fun s : ByteArray => s.data.toList) this
        exact this
      refine cond_t (by simpa using this) q
    · refine cond_f ?_ ?_
      · have := hf j (by omega)
        rw [hy] at this
        simp only [decide_eq_false_iff_not]
        rintro rfl; exact this rfl
      · rw [w64_id (by omega) (by omega)]
        exact ⟨⟨j + 1, by omega, by omega, rfl⟩, by omega⟩
  · simp at hc; omega
theorem kind_miss {K : Int → World → Prop} (h : Sat w M) (ga : GA M) (ha : x ≠ [97, 108, 108]) (hf : ∀ j, j < 24 → namesL.getD j ⟨#[]⟩ ≠ strB x) (q : K (-1) w) : shell_kind.C (strB x) w K := by
  apply shell_kind.ok
  refine cond_f (ne_lit ha) ?_
  show LoopT _ _ _
  refine LoopT.of (fun s w' => ∃ j : Nat, s = (j : Int) ∧ w' = w) (fun s => 24 - s.toNat) ⟨0, rfl, rfl⟩ ?_
  rintro s w' ⟨j, rfl, rfl⟩
  refine cond_c (fun hc => ?_) fun hc => ?_
  · have hc : j < 24 := by simp at hc; omega
    rw [wu8_id (by omega)]
    refine play_Name_spec h ga.gn (by omega) ?_
    obtain ⟨y, hy⟩ : ∃ y, namesL.getD j ⟨#[]⟩ = strB y := ⟨_, (strB_eta _).symm⟩
    rw [hy, bq]
    refine cond_f ?_ ?_
    · have := hf j hc
      rw [hy] at this
      simp only [decide_eq_false_iff_not]
      rintro rfl; exact this rfl
    · rw [w64_id (by omega) (by omega)]
      exact ⟨⟨j + 1, by omega, rfl⟩, by omega⟩
  · exact q
end
end Go.St

/- Contracts: a line is read. -/
namespace Go.St
open Go Go.Proofs Go.Lib
attribute [local irreducible] stP alP drP stCs lI64 lU64 lU8 lB lP lL lR lS AppV ClrV InvV
/-- a step's cells -/
abbrev Stp (d h i k to : Int) (m : Bool) (tag seed lim : Int) (b : Bool) : List Value :=
  [.int .u8 d, .int .i64 h, .int .i64 i, .slice none 0 0, .int .u64 k, .int .u64 to, .slice none 0 0, .bool m, .int .i64 tag, .int .u64 seed, .int .i64 lim, .bool b]
abbrev wcs (ws : List (List UInt8)) : List Value := ws.map fun x => .string (strB x)
/-- the words behind which there is more than a handle -/
def special : List (List UInt8) := [[111, 112, 101, 110], [105, 110, 115, 101, 114, 116], [100, 101, 108, 101, 116, 101], [103, 101, 116], [104, 97, 115], [110, 101, 120, 116], [112, 114, 101, 118], [114, 97, 110, 107], [115, 101, 101, 107], [112, 117, 116], [99, 117, 114, 115, 111, 114], [99, 111, 117, 110, 116], [119, 105, 112, 101], [115, 101, 108, 101, 99, 116], [101, 113, 117, 97, 108], [119, 105, 116, 104, 105, 110], [106, 111, 105, 110], [115, 116, 101, 112], [100, 101, 99, 111, 100, 101]]
abbrev RK := Int → Int → Int → Option Addr → Nat → Nat → Int → Int → Option Addr → Nat → Nat → Bool → Int → Int → Int → Bool → Bool → World → Prop
section
variable {w : World} {M : List HP} {x : List UInt8} {ws : List (List UInt8)} {K : RK}
theorem read_start {i : Int} (h : Sat w M) (ga : GA M) (hl : (parts 32 (x :: ws)).length < 4294967281) (hw : ∀ y ∈ x :: ws, (32 : UInt8) ∉ y) (hj : x ≠ [106, 111, 105, 110])
    (hk : ∀ (w : World) (N : List HP) (K' : Int → World → Prop), Sat w N → GA N → K' i w → shell_kind.C (strB x) w K')
    (q : ∀ r2 g r13 r15 w', Sat w' (blk r15 (Stp (wu8 (mxI i 0)) 0 0 0 0 false 0 0 0 false) :: Wh r13 g (wcs (x :: ws)) ws false :: blk g (wcs (x :: ws)) :: blk r2 (Stp 0 0 0 0 0 false 0 0 0 false) :: M) →
      shell_read.T1 K r2 0 (some ⟨g, 0, none⟩) (x :: ws).length (x :: ws).length i r13 0 r15 0 w') : shell_read.C (strB (parts 32 (x :: ws))) w K := by
  apply shell_read.ok
  refine alP.of h fun r2 w h => ?_
  refine split_spec h ga.cons hl (by simp) hw fun g w h => ?_
  refine ⟨by omega, by simp <;> omega, ?_⟩
  refine lS.of h (n := strB x) (by rfl) ?_
  refine hk _ _ _ h ga.cons.cons ?_
  refine ⟨by omega, by simp <;> omega, ?_⟩
  refine alP.of h fun r13 w h => ?_
  refine alP.of h fun r15 w h => ?_
  refine stCs.of h (Nat.le_of_ble_eq_true rfl) (by simp [Value.oneCell']) fun w h => ?_
  refine ⟨by omega, by simp <;> omega, ?_⟩
  refine lS.of h (n := strB x) (by rfl) ?_
  refine cond_f (ne_lit hj) ?_
  refine q r2 g r13 r15 w ?_
  have h := h.pull 1
  have e : Sat w (Wh r13 g (wcs (x :: ws)) ws false :: blk r15 (Stp (wu8 (mxI i 0)) 0 0 0 0 false 0 0 0 false) :: blk g (wcs (x :: ws)) :: blk r2 (Stp 0 0 0 0 0 false 0 0 0 false) :: M) := by
    by_cases hn : ws = []
    · subst hn
      exact Wh.mk (k := 0) (c := 0) ⟨by simp, fun j y hj => by simp at hj⟩ h
    · have hn : 1 ≤ ws.length := by
        cases ws with
        | nil => exact absurd rfl hn
        | cons => simp
      have es : slA (some ⟨g, 0, none⟩) (x :: ws).length (Int.toNat 1) 1 = some ⟨g, 1, none⟩ := by
        unfold slA
        rw [if_neg (by show ¬ (ws.length + 1 = 1); omega)]
        rfl
      rw [es] at h
      refine Wh.mk (k := 1) (c := (x :: ws).length - 1) ⟨by simp, fun j y hj => ?_⟩ h
      rw [show 1 + j = j + 1 by omega]
      show (wcs ws)[j]? = _
      rw [List.getElem?_map, hj]; rfl
  exact e.pull 1
variable {r2 g r13 r15 : Nat} {cs : List Value} {d h' k to tag seed lim : Int} {m : Bool}
theorem read_T2 {i : Int} {bad : Bool} (h : Sat w (blk r15 (Stp d h' 0 k to m tag seed lim false) :: Wh r13 g cs [] bad :: blk g cs :: blk r2 (Stp 0 0 0 0 0 false 0 0 0 false) :: M)) (hi : 0 ≤ i)
    (q : ∀ w', Sat w' M → K d h' 0 none 0 0 k to none 0 0 m tag seed lim false (!bad) w') : shell_read.T2 K r2 0 i r13 0 r15 0 w := by
  unfold shell_read.T2
  refine drP.of h fun w h => ?_
  refine lAu8_i64_i64_l_u64_u64_l_b_i64_u64_i64_b.of h (by rfl) ?_
  refine cond_t (by simpa using hi) ?_
  refine words_end (h.pull 1) fun w h => ?_
  refine ⟨Foc.cells inferInstance h (by rfl), ?_⟩
  refine stCs.of h (Nat.le_of_ble_eq_true rfl) (by simp [Value.oneCell']) fun w h => ?_
  refine lAu8_i64_i64_l_u64_u64_l_b_i64_u64_i64_b.of h (by rfl) ?_
  exact q _ h.drop.drop.drop.drop
theorem read_T2_no {i : Int} {bad : Bool} (h : Sat w (blk r15 (Stp d h' 0 k to m tag seed lim false) :: Wh r13 g cs ws bad :: blk g cs :: blk r2 (Stp 0 0 0 0 0 false 0 0 0 false) :: M)) (hi : i < 0)
    (q : ∀ w', Sat w' M → K d h' 0 none 0 0 k to none 0 0 m tag seed lim false false w') : shell_read.T2 K r2 0 i r13 0 r15 0 w := by
  unfold shell_read.T2
  refine drP.of h fun w h => ?_
  refine lAu8_i64_i64_l_u64_u64_l_b_i64_u64_i64_b.of h (by rfl) ?_
  refine cond_f (by simp; omega) ?_
  refine stCs.of h (Nat.le_of_ble_eq_true rfl) (by simp [Value.oneCell']) fun w h => ?_
  refine lAu8_i64_i64_l_u64_u64_l_b_i64_u64_i64_b.of h (by rfl) ?_
  exact q _ h.drop.drop.drop.drop
end
end Go.St

/- Contracts: lines of a kind are read. -/
namespace Go.St
open Go Go.Proofs Go.Lib
attribute [local irreducible] stP alP drP stCs lI64 lU64 lU8 lB lP lL lR lS AppV ClrV InvV
theorem dec0 : Dec [48] 0 := ⟨by decide +kernel, by decide +kernel, by decide⟩
section
variable {w : World} {M : List HP} {x y : List UInt8} {ws : List (List UInt8)} {K : RK}
variable {r2 g r13 r15 : Nat} {d : Int}
/-- a line that no call has the name of -/
theorem read_none (h : Sat w M) (ga : GA M) (hl : x.length < 4294967281) (hw : (32 : UInt8) ∉ x) (ha : x ≠ [97, 108, 108]) (hf : ∀ j, j < 24 → namesL.getD j ⟨#[]⟩ ≠ strB x) (hx : ∀ y ∈ special, x ≠ y)
    (q : ∀ a1 a2 a3 a7 a8 a12 a13 a14 a15 a16 w', Sat w' M → K a1 a2 a3 none 0 0 a7 a8 none 0 0 a12 a13 a14 a15 a16 false w') : shell_read.C (strB x) w K := by
  refine read_start (x := x) (ws := []) (i := -1) h ga hl (by simpa using hw) (hx [106, 111, 105, 110] (by decide)) (fun w N K' h ga k => kind_miss h ga ha hf k) fun r2 g r13 r15 w h => ?_
  unfold shell_read.T1
  refine words_num_nil ((h.pull 2).pull 2) ga.cons.cons.cons fun w h => ?_
  refine stP.of h (Nat.le_of_ble_eq_true rfl) fun w h => ?_
  refine ⟨by omega, by simp <;> omega, ?_⟩
  refine lS.of h (n := strB x) (by rfl) ?_
  refine cond_f (ne_lit (hx [111, 112, 101, 110] (by decide))) ?_
  refine cond_f (ne_lit (hx [105, 110, 115, 101, 114, 116] (by decide))) ?_
  refine cond_f (ne_lit (hx [100, 101, 108, 101, 116, 101] (by decide))) ?_
  refine cond_f (ne_lit (hx [103, 101, 116] (by decide))) ?_
  refine cond_f (ne_lit (hx [104, 97, 115] (by decide))) ?_
  refine cond_f (ne_lit (hx [110, 101, 120, 116] (by decide))) ?_
  refine cond_f (ne_lit (hx [112, 114, 101, 118] (by decide))) ?_
  refine cond_f (ne_lit (hx [114, 97, 110, 107] (by decide))) ?_
  unfold shell_read.T3
  refine cond_f (ne_lit (hx [115, 101, 101, 107] (by decide))) ?_
  refine cond_f (ne_lit (hx [112, 117, 116] (by decide))) ?_
  refine cond_f (ne_lit (hx [99, 117, 114, 115, 111, 114] (by decide))) ?_
  refine cond_f (ne_lit (hx [99, 111, 117, 110, 116] (by decide))) ?_
  unfold shell_read.T4
  refine cond_f (ne_lit (hx [119, 105, 112, 101] (by decide))) ?_
  refine cond_f (ne_lit (hx [115, 101, 108, 101, 99, 116] (by decide))) ?_
  refine cond_f (ne_lit (hx [101, 113, 117, 97, 108] (by decide))) ?_
  unfold shell_read.T5
  refine cond_f (ne_lit (hx [119, 105, 116, 104, 105, 110] (by decide))) ?_
  refine cond_f (ne_lit (hx [106, 111, 105, 110] (by decide))) ?_
  refine cond_f (ne_lit (hx [115, 116, 101, 112] (by decide))) ?_
  refine cond_f (ne_lit (hx [100, 101, 99, 111, 100, 101] (by decide))) ?_
  exact read_T2_no (h.pull 2) (by decide) fun w h => q _ _ _ _ _ _ _ _ _ _ w h
theorem read_open {t sd lm : Nat} {xs xl : List UInt8} (h : Sat w M) (ga : GA M) (h1 : 1 ≤ t) (h5 : t ≤ 5) (hl : (parts 32 [[111, 112, 101, 110], [48], [115, 101, 116], tagN t, xs, xl]).length < 4294967281)
    (hw : ∀ z ∈ [[111, 112, 101, 110], [48], [115, 101, 116], tagN t, xs, xl], (32 : UInt8) ∉ z) (hs : Dec xs sd) (hxs : xs.length ≤ 20) (hm : Dec xl lm) (hxl : xl.length ≤ 9) (hlm : lm < 1000000000)
    (q : ∀ w', Sat w' M → K 0 0 0 none 0 0 0 0 none 0 0 false t sd lm false true w') : shell_read.C (strB (parts 32 [[111, 112, 101, 110], [48], [115, 101, 116], tagN t, xs, xl])) w K := by
  refine read_start (i := 0) h ga hl hw (by decide) (fun w N K' h ga k => kind_hit (i := 0) h ga (by decide) (by decide) rfl (by omega) k) fun r2 g r13 r15 w h => ?_
  unfold shell_read.T1
  refine words_num_ok (u := 0) ((h.pull 2).pull 2) ga.cons.cons (by decide) dec0 (by decide) fun w h => ?_
  refine stP.of h (Nat.le_of_ble_eq_true rfl) fun w h => ?_
  refine ⟨by omega, by simp <;> omega, ?_⟩
  refine lS.of h (n := strB [111, 112, 101, 110]) (by rfl) ?_
  refine cond_t eq_lit ?_
  refine words_one_no (yes := [109, 97, 112]) h (by decide) fun w h => ?_
  refine stP.of h (Nat.le_of_ble_eq_true rfl) fun w h => ?_
  refine words_tag h h1 h5 fun w h => ?_
  refine words_key_ok h ga.cons.cons (by omega) hs fun w h => ?_
  refine words_num_ok h ga.cons.cons hxl hm hlm fun w h => ?_
  refine stP.of h (Nat.le_of_ble_eq_true rfl) fun w h => ?_
  refine stP.of h (Nat.le_of_ble_eq_true rfl) fun w h => ?_
  refine stP.of h (Nat.le_of_ble_eq_true rfl) fun w h => ?_
  exact read_T2 (h.pull 2) (by decide) fun w h => q w h
theorem read_insert_ok {u : Nat} (h : Sat w M) (ga : GA M) (hl : y.length < 4294967000) (hw : (32 : UInt8) ∉ y) (hd : Dec y u)
    (q : ∀ w', Sat w' M → K 2 0 0 none 0 0 u 0 none 0 0 false 0 0 0 false true w') : shell_read.C (strB (parts 32 [[105, 110, 115, 101, 114, 116], [48], y])) w K := by
  refine read_start (i := 2) h ga (by simp [parts]; omega) (by intro z hz; simp only [List.mem_cons, List.not_mem_nil, or_false] at hz; rcases hz with rfl | rfl | rfl <;> first | decide | exact hw) (by decide) (fun w N K' h ga k => kind_hit (i := 2) h ga (by decide) (by decide) rfl (by decide +kernel) k) fun r2 g r13 r15 w h => ?_
  unfold shell_read.T1
  refine words_num_ok (u := 0) ((h.pull 2).pull 2) ga.cons.cons (by decide) dec0 (by decide) fun w h => ?_
  refine stP.of h (Nat.le_of_ble_eq_true rfl) fun w h => ?_
  refine ⟨by omega, by simp <;> omega, ?_⟩
  refine lS.of h (n := strB [105, 110, 115, 101, 114, 116]) (by rfl) ?_
  refine cond_f (ne_lit (by decide)) ?_
  refine cond_t eq_lit ?_
  unfold shell_read.T3
  refine cond_t eq_lit ?_
  refine words_key_ok h ga.cons.cons (by omega) hd fun w h => ?_
  refine stP.of h (Nat.le_of_ble_eq_true rfl) fun w h => ?_
  exact read_T2 (h.pull 2) (by decide) fun w h => q w h
theorem read_insert_bad (h : Sat w M) (ga : GA M) (hl : y.length < 4294967000) (hw : (32 : UInt8) ∉ y) (hd : ∀ u, ¬ Dec y u) (hu : ∀ u, parseUintB 64 y = .ok u → u < 18446744073709551616)
    (q : ∀ n w', Sat w' M → K 2 0 0 none 0 0 n 0 none 0 0 false 0 0 0 false false w') : shell_read.C (strB (parts 32 [[105, 110, 115, 101, 114, 116], [48], y])) w K := by
  refine read_start (i := 2) h ga (by simp [parts]; omega) (by intro z hz; simp only [List.mem_cons, List.not_mem_nil, or_false] at hz; rcases hz with rfl | rfl | rfl <;> first | decide | exact hw) (by decide) (fun w N K' h ga k => kind_hit (i := 2) h ga (by decide) (by decide) rfl (by decide +kernel) k) fun r2 g r13 r15 w h => ?_
  unfold shell_read.T1
  refine words_num_ok (u := 0) ((h.pull 2).pull 2) ga.cons.cons (by decide) dec0 (by decide) fun w h => ?_
  refine stP.of h (Nat.le_of_ble_eq_true rfl) fun w h => ?_
  refine ⟨by omega, by simp <;> omega, ?_⟩
  refine lS.of h (n := strB [105, 110, 115, 101, 114, 116]) (by rfl) ?_
  refine cond_f (ne_lit (by decide)) ?_
  refine cond_t eq_lit ?_
  unfold shell_read.T3
  refine cond_t eq_lit ?_
  refine words_key_bad h ga.cons.cons (by omega) hd hu fun n w h => ?_
  refine stP.of h (Nat.le_of_ble_eq_true rfl) fun w h => ?_
  exact read_T2 (h.pull 2) (by decide) fun w h => q _ w h
theorem read_next_ok {u : Nat} (h : Sat w M) (ga : GA M) (hl : y.length < 4294967000) (hw : (32 : UInt8) ∉ y) (hd : Dec y u)
    (q : ∀ w', Sat w' M → K 7 0 0 none 0 0 u 0 none 0 0 false 0 0 0 false true w') : shell_read.C (strB (parts 32 [[110, 101, 120, 116], [48], y])) w K := by
  refine read_start (i := 7) h ga (by simp [parts]; omega) (by intro z hz; simp only [List.mem_cons, List.not_mem_nil, or_false] at hz; rcases hz with rfl | rfl | rfl <;> first | decide | exact hw) (by decide) (fun w N K' h ga k => kind_hit (i := 7) h ga (by decide) (by decide) rfl (by decide +kernel) k) fun r2 g r13 r15 w h => ?_
  unfold shell_read.T1
  refine words_num_ok (u := 0) ((h.pull 2).pull 2) ga.cons.cons (by decide) dec0 (by decide) fun w h => ?_
  refine stP.of h (Nat.le_of_ble_eq_true rfl) fun w h => ?_
  refine ⟨by omega, by simp <;> omega, ?_⟩
  refine lS.of h (n := strB [110, 101, 120, 116]) (by rfl) ?_
  refine cond_f (ne_lit (by decide)) ?_
  refine cond_f (ne_lit (by decide)) ?_
  refine cond_f (ne_lit (by decide)) ?_
  refine cond_f (ne_lit (by decide)) ?_
  refine cond_f (ne_lit (by decide)) ?_
  refine cond_t eq_lit ?_
  unfold shell_read.T3
  refine cond_t eq_lit ?_
  refine words_key_ok h ga.cons.cons (by omega) hd fun w h => ?_
  refine stP.of h (Nat.le_of_ble_eq_true rfl) fun w h => ?_
  exact read_T2 (h.pull 2) (by decide) fun w h => q w h
theorem read_has_bad (h : Sat w M) (ga : GA M) (hl : y.length < 4294967000) (hw : (32 : UInt8) ∉ y) (hd : ∀ u, ¬ Dec y u) (hu : ∀ u, parseUintB 64 y = .ok u → u < 18446744073709551616)
    (q : ∀ n w', Sat w' M → K 6 0 0 none 0 0 n 0 none 0 0 false 0 0 0 false false w') : shell_read.C (strB (parts 32 [[104, 97, 115], [48], y])) w K := by
  refine read_start (i := 6) h ga (by simp [parts]; omega) (by intro z hz; simp only [List.mem_cons, List.not_mem_nil, or_false] at hz; rcases hz with rfl | rfl | rfl <;> first | decide | exact hw) (by decide) (fun w N K' h ga k => kind_hit (i := 6) h ga (by decide) (by decide) rfl (by decide +kernel) k) fun r2 g r13 r15 w h => ?_
  unfold shell_read.T1
  refine words_num_ok (u := 0) ((h.pull 2).pull 2) ga.cons.cons (by decide) dec0 (by decide) fun w h => ?_
  refine stP.of h (Nat.le_of_ble_eq_true rfl) fun w h => ?_
  refine ⟨by omega, by simp <;> omega, ?_⟩
  refine lS.of h (n := strB [104, 97, 115]) (by rfl) ?_
  refine cond_f (ne_lit (by decide)) ?_
  refine cond_f (ne_lit (by decide)) ?_
  refine cond_f (ne_lit (by decide)) ?_
  refine cond_f (ne_lit (by decide)) ?_
  refine cond_t eq_lit ?_
  unfold shell_read.T3
  refine cond_t eq_lit ?_
  refine words_key_bad h ga.cons.cons (by omega) hd hu fun n w h => ?_
  refine stP.of h (Nat.le_of_ble_eq_true rfl) fun w h => ?_
  exact read_T2 (h.pull 2) (by decide) fun w h => q _ w h
theorem read_len (h : Sat w M) (ga : GA M) (q : ∀ w', Sat w' M → K 9 0 0 none 0 0 0 0 none 0 0 false 0 0 0 false true w') : shell_read.C (strB (parts 32 [[108, 101, 110], [48]])) w K := by
  have hx : ∀ y ∈ special, ([108, 101, 110] : List UInt8) ≠ y := by decide
  refine read_start (i := 9) h ga (by decide) (by decide) (by decide) (fun w N K' h ga k => kind_hit (i := 9) h ga (by decide) (by decide) rfl (by decide +kernel) k) fun r2 g r13 r15 w h => ?_
  unfold shell_read.T1
  refine words_num_ok (u := 0) ((h.pull 2).pull 2) ga.cons.cons (by decide) dec0 (by decide) fun w h => ?_
  refine stP.of h (Nat.le_of_ble_eq_true rfl) fun w h => ?_
  refine ⟨by omega, by simp <;> omega, ?_⟩
  refine lS.of h (n := strB [108, 101, 110]) (by rfl) ?_
  refine cond_f (ne_lit (hx [111, 112, 101, 110] (by decide))) ?_
  refine cond_f (ne_lit (hx [105, 110, 115, 101, 114, 116] (by decide))) ?_
  refine cond_f (ne_lit (hx [100, 101, 108, 101, 116, 101] (by decide))) ?_
  refine cond_f (ne_lit (hx [103, 101, 116] (by decide))) ?_
  refine cond_f (ne_lit (hx [104, 97, 115] (by decide))) ?_
  refine cond_f (ne_lit (hx [110, 101, 120, 116] (by decide))) ?_
  refine cond_f (ne_lit (hx [112, 114, 101, 118] (by decide))) ?_
  refine cond_f (ne_lit (hx [114, 97, 110, 107] (by decide))) ?_
  unfold shell_read.T3
  refine cond_f (ne_lit (hx [115, 101, 101, 107] (by decide))) ?_
  refine cond_f (ne_lit (hx [112, 117, 116] (by decide))) ?_
  refine cond_f (ne_lit (hx [99, 117, 114, 115, 111, 114] (by decide))) ?_
  refine cond_f (ne_lit (hx [99, 111, 117, 110, 116] (by decide))) ?_
  unfold shell_read.T4
  refine cond_f (ne_lit (hx [119, 105, 112, 101] (by decide))) ?_
  refine cond_f (ne_lit (hx [115, 101, 108, 101, 99, 116] (by decide))) ?_
  refine cond_f (ne_lit (hx [101, 113, 117, 97, 108] (by decide))) ?_
  unfold shell_read.T5
  refine cond_f (ne_lit (hx [119, 105, 116, 104, 105, 110] (by decide))) ?_
  refine cond_f (ne_lit (hx [106, 111, 105, 110] (by decide))) ?_
  refine cond_f (ne_lit (hx [115, 116, 101, 112] (by decide))) ?_
  refine cond_f (ne_lit (hx [100, 101, 99, 111, 100, 101] (by decide))) ?_
  exact read_T2 (h.pull 2) (by decide) fun w h => q w h
end
end Go.St

/- Contracts: a line is answered; a text is. -/
namespace Go.St
open Go Go.Proofs Go.Lib
attribute [local irreducible] stP alP drP stCs lI64 lU64 lU8 lB lP lL lR lS AppV ClrV InvV DynV
theorem strB_app (x y : List UInt8) : strB x ++ strB y = strB (x ++ y) := by
  apply ByteArray.ext
  apply Array.ext'
  simp [strB, ByteArray.data_append]
theorem strB_size (x : List UInt8) : (strB x).size = x.length := rfl
section
variable {w : World} {M : List HP} {x : List UInt8}
theorem fault_spec {e : Nat} {K : ByteArray → World → Prop} (h : Sat w M) (he : e < 100) (hd : (decDigits e).length ≤ 20) (k : K (strB ([101, 114, 114, 111, 114, 32] ++ decDigits e)) w) : shell_fault.C (e : Int) w K := by
  apply shell_fault.ok
  refine itoa_spec h he ?_
  refine ⟨?_, ?_⟩
  · show (((6 + (decDigits e).length : Nat) : Int) ≤ IntKind.i64.max)
    have : (IntKind.i64.max : Int) = 9223372036854775807 := by decide
    rw [this]; omega
  · rw [← strB_app] at k
    exact k
/-- what is told of an answer that is neither a key nor a number -/
theorem told_open {k n : Int} {y : Bool} {a : Option Addr} {l c : Nat} {K : ByteArray → World → Prop} (h : Sat w M) (q : ∀ w', Sat w' M → K (strB [111, 107]) w') : shell_told.C (strB [111, 112, 101, 110]) 0 k n y a l c w K := by
  apply shell_told.ok
  refine alP.of h fun r w h => ?_
  refine lI64.of h (by rfl) ?_
  refine cond_f rfl ?_
  refine cond_f (ne_lit (by decide)) ?_
  refine cond_f (ne_lit (by decide)) ?_
  refine cond_f (ne_lit (by decide)) ?_
  refine cond_f (ne_lit (by decide)) ?_
  refine cond_f (ne_lit (by decide)) ?_
  refine cond_f (ne_lit (by decide)) ?_
  unfold shell_told.T1
  refine cond_f (ne_lit (by decide)) ?_
  refine cond_f (ne_lit (by decide)) ?_
  refine cond_f (ne_lit (by decide)) ?_
  refine cond_f (ne_lit (by decide)) ?_
  unfold shell_told.T2
  refine cond_f (ne_lit (by decide)) ?_
  refine cond_f (ne_lit (by decide)) ?_
  refine cond_f (ne_lit (by decide)) ?_
  unfold shell_told.T3
  refine cond_f (ne_lit (by decide)) ?_
  refine cond_f (ne_lit (by decide)) ?_
  exact q _ h.drop
theorem told_insert {k n : Int} {y : Bool} {a : Option Addr} {l c : Nat} {K : ByteArray → World → Prop} (h : Sat w M) (q : ∀ w', Sat w' M → K (strB [111, 107]) w') : shell_told.C (strB [105, 110, 115, 101, 114, 116]) 0 k n y a l c w K := by
  apply shell_told.ok
  refine alP.of h fun r w h => ?_
  refine lI64.of h (by rfl) ?_
  refine cond_f rfl ?_
  refine cond_f (ne_lit (by decide)) ?_
  refine cond_f (ne_lit (by decide)) ?_
  refine cond_f (ne_lit (by decide)) ?_
  refine cond_f (ne_lit (by decide)) ?_
  refine cond_f (ne_lit (by decide)) ?_
  refine cond_f (ne_lit (by decide)) ?_
  unfold shell_told.T1
  refine cond_f (ne_lit (by decide)) ?_
  refine cond_f (ne_lit (by decide)) ?_
  refine cond_f (ne_lit (by decide)) ?_
  refine cond_f (ne_lit (by decide)) ?_
  unfold shell_told.T2
  refine cond_f (ne_lit (by decide)) ?_
  refine cond_f (ne_lit (by decide)) ?_
  refine cond_f (ne_lit (by decide)) ?_
  unfold shell_told.T3
  refine cond_f (ne_lit (by decide)) ?_
  refine cond_f (ne_lit (by decide)) ?_
  exact q _ h.drop
theorem told_next {u : Nat} {n : Int} {y : Bool} {a : Option Addr} {l c : Nat} {K : ByteArray → World → Prop} (h : Sat w M) (ga : GA M) (hu : u < 18446744073709551616) (q : ∀ w', Sat w' M → K (strB (decDigits u)) w') : shell_told.C (strB [110, 101, 120, 116]) 0 u n y a l c w K := by
  apply shell_told.ok
  refine alP.of h fun r w h => ?_
  refine lI64.of h (by rfl) ?_
  refine cond_f rfl ?_
  refine cond_f (ne_lit (by decide)) ?_
  refine cond_t eq_lit ?_
  unfold shell_told.T1
  refine cond_t eq_lit ?_
  refine lU64.of h (by rfl) ?_
  exact format_spec h ga.cons hu fun w h => q _ h.drop
theorem told_len {k : Int} {n : Nat} {y : Bool} {a : Option Addr} {l c : Nat} {K : ByteArray → World → Prop} (h : Sat w M) (hn : n < 100) (q : ∀ w', Sat w' M → K (strB (decDigits n)) w') : shell_told.C (strB [108, 101, 110]) 0 k n y a l c w K := by
  apply shell_told.ok
  refine alP.of h fun r w h => ?_
  refine lI64.of h (by rfl) ?_
  refine cond_f rfl ?_
  refine cond_f (ne_lit (by decide)) ?_
  refine cond_f (ne_lit (by decide)) ?_
  refine cond_f (ne_lit (by decide)) ?_
  refine cond_f (ne_lit (by decide)) ?_
  refine cond_f (ne_lit (by decide)) ?_
  refine cond_f (ne_lit (by decide)) ?_
  unfold shell_told.T1
  refine cond_f (ne_lit (by decide)) ?_
  refine cond_t eq_lit ?_
  unfold shell_told.T2
  refine cond_t eq_lit ?_
  refine lI64.of h (by rfl) ?_
  exact itoa_spec h hn (q _ h.drop)
abbrev err12 : List UInt8 := [101, 114, 114, 111, 114, 32, 49, 50]
theorem line_bad {p : Option Addr} {s : ByteArray} {K : ByteArray → World → Prop} (h : Sat w M)
    (hr : ∀ (K' : RK), (∀ a1 a2 a3 a7 a8 a12 a13 a14 a15 a16 w', Sat w' M → K' a1 a2 a3 none 0 0 a7 a8 none 0 0 a12 a13 a14 a15 a16 false w') → shell_read.C s w K') (q : ∀ w', Sat w' M → K (strB err12) w') : shell_line.C p s w K := by
  apply shell_line.ok
  refine hr _ fun _ _ _ _ _ _ _ _ _ _ w h => ?_
  refine alP.of h fun r w h => ?_
  refine stCs.of h (Nat.le_of_ble_eq_true rfl) (by simp [Value.oneCell']) fun w h => ?_
  refine cond_t rfl ?_
  refine fault_spec (e := 12) h (by decide) (by decide +kernel) ?_
  have e : [101, 114, 114, 111, 114, 32] ++ decDigits 12 = err12 := by decide +kernel
  rw [e]
  exact q _ h.drop
theorem line_ok {p s : Nat} {X Y : HP} {d0 d1 f : Int} {t : List UInt8} {a1 a2 a4 : Int} {a6 : Bool} {a7 a8 a9 : Int} {k n : Int} {y : Bool} {out : List UInt8} {K : ByteArray → World → Prop}
    (hx : (32 : UInt8) ∉ x) (hl : (x ++ 32 :: t).length < 4294967281) (hc : a1 ≠ 24)
    (hr : ∀ (w : World) (N : List HP) (K' : RK), Sat w N → GA N → (∀ w', Sat w' N → K' a1 a2 0 none 0 0 a4 0 none 0 0 a6 a7 a8 a9 false true w') → shell_read.C (strB (x ++ 32 :: t)) w K')
    (hd : Dn p s d0 f d1 X Y a1 a2 0 none 0 0 a4 0 none 0 0 a6 a7 a8 a9 false 0 k n y none 0 0)
    (ht : ∀ (w : World) (N : List HP) (K' : ByteArray → World → Prop), Sat w N → GA N → (∀ w', Sat w' N → K' (strB out) w') → shell_told.C (strB x) 0 k n y none 0 0 w K')
    (h : Sat w (blk p (Pc s d0 f) :: X :: M)) (ga : GA M) (q : ∀ w', Sat w' (blk p (Pc s d1 f) :: Y :: M) → K (strB out) w') : shell_line.C (some ⟨p, 0, none⟩) (strB (x ++ 32 :: t)) w K := by
  apply shell_line.ok
  refine hr _ _ _ h ga.cons.cons fun w h => ?_
  refine alP.of h fun r w h => ?_
  refine stCs.of h (Nat.le_of_ble_eq_true rfl) (by simp [Value.oneCell']) fun w h => ?_
  refine cond_f rfl ?_
  refine cut_spec h ga.cons.cons.cons hl fun w h => ?_
  have e : cut (strB (x ++ 32 :: t)).data.toList (⟨#[32]⟩ : ByteArray).data.toList = (x, t, true) := cut_at hx
  rw [e]
  refine lU8.of h (by rfl) ?_
  refine cond_f (by simpa using hc) ?_
  refine lAu8_i64_i64_l_u64_u64_l_b_i64_u64_i64_b.of h (by rfl) ?_
  refine hd _ (blk r _ :: M) _ ((h.pull 2).pull 2) fun w h => ?_
  refine ht _ _ _ h ga.cons.cons.cons fun w h => ?_
  exact q _ (h.sub (.cons_cons _ (.cons_cons _ (.cons _ (.refl _)))))
/-- how long the text is that is left -/
def msr (w : World) (r : Nat) : Nat := match w.cell? ⟨r, 0, none⟩ with
  | some (.string s) => s.size
  | _ => 0
theorem msr_of {D : HP} {r : Nat} {z : List UInt8} {L : List HP} (h : Sat w (D :: blk r [.string (strB z)] :: L)) : msr w r = z.length := by
  unfold msr
  rw [(h.pull 1).ld 0]
  rfl
theorem sat_mono2 {D : HP} {r : Nat} {s : ByteArray} {L : List HP} (h : Sat w (D :: blk r [.string s] :: L)) : Sat w (D :: ([ex fun s => blk r [.string s]] ++ L)) :=
  (Sat.ex.2 ⟨s, h.pull 1⟩ : Sat w ((ex fun s => blk r [.string s]) :: D :: L)).pull 1
theorem LoopT.ofW {σ : Type} {B : σ → World → (σ → World → Prop) → Prop} {s : σ} {w : World} (I : σ → World → Prop) (μ : σ → World → Nat) (h0 : I s w) (hs : ∀ s w, I s w → B s w fun s' w' => I s' w' ∧ μ s' w' < μ s w) : LoopT B s w := ⟨I, μ, h0, hs⟩
theorem parts_drop {c : UInt8} : ∀ (i : Nat) (ws : List (List UInt8)), (parts c (ws.drop i)).length ≤ (parts c ws).length
  | 0, ws => Nat.le_refl _
  | i + 1, [] => by simp
  | i + 1, z :: zs => by
    refine Nat.le_trans (parts_drop i zs) ?_
    cases zs with
    | nil => simp [parts]
    | cons a zs => simp [parts]; omega
/-- a text's lines -/
theorem lines_tells {D : HP} {r : Nat} {ws : List (List UInt8)} (gD : ∀ w, Sat w [D] → GF w) (hne : ws ≠ []) (hlast : ∀ z, ws.getLast? = some z → z ≠ []) (h10 : ∀ z ∈ ws, (10 : UInt8) ∉ z) (hl : (parts 10 ws).length < 4294967281) :
    TellsF prog D (.func (.func 64) #[] #[.pointer (some ⟨r, 0, none⟩)]) (fun z : List UInt8 => [.string (strB z)]) ws [blk r [.string (strB (parts 10 ws))]] [ex fun s => blk r [.string s]] := by
  refine ⟨64, _, rfl, by kernel_rfl, ?_⟩
  intro y J Z w K L0 hy h0 h hk
  refine shell_lines_1.ok (x1 := y) (b2 := r) (o3 := 0) (K := K) ?_ |> fun z => z.mono fun v w1 h => h.2
  have gA : ∀ L, GA (D :: L) := fun L w h => gD w (h.sub (.cons_cons _ (List.nil_sublist _)))
  show LoopT _ _ _
  have hne1 : ∀ i z zs, ws.drop i = z :: zs → parts 10 (z :: zs) ≠ [] := by
    intro i z zs e
    cases zs with
    | nil =>
      show z ≠ []
      refine hlast z ?_
      have : ws.getLast? = (ws.drop i).getLast? := by
        rw [List.getLast?_drop]
        have hlt : ¬ ws.length ≤ i := fun h => by rw [List.drop_eq_nil_of_le h] at e; cases e
        rw [if_neg hlt]
      rw [this, e]; rfl
    | cons a zs => simp [parts]
  refine LoopT.ofW (fun _ w => ∃ (i : Nat) (L : List HP), i ≤ ws.length ∧ J i L ∧ Sat w (D :: blk r [.string (strB (parts 10 (ws.drop i)))] :: L)) (fun _ w => msr w r) ⟨0, L0, Nat.zero_le _, h0, h⟩ ?_
  rintro _ w ⟨i, L, hi, hJ, h⟩
  refine lS.of h (by rfl) ?_
  cases e : ws.drop i with
  | nil =>
    have hlen : ws.length ≤ i := by
      rcases Nat.lt_or_ge i ws.length with h1 | h1
      · rw [List.drop_eq_getElem_cons h1] at e; cases e
      · exact h1
    refine cond_f (by rw [show (strB (parts 10 [])) = strB [] from rfl]; show (!((strB []).toList == (strB []).toList)) = false; rw [eq_lit]; rfl) ?_
    obtain rfl : i = ws.length := by omega
    exact hk w L (.inl hJ) (sat_mono2 h)
  | cons z zs =>
    have hlt : i < ws.length := by
      rcases Nat.lt_or_ge i ws.length with h1 | h1
      · exact h1
      · rw [List.drop_eq_nil_of_le h1] at e; cases e
    have hz : ws[i]? = some z := by
      rw [← List.head?_drop, e]; rfl
    have hzs : ws.drop (i + 1) = zs := by
      rw [← List.drop_drop, List.drop_one] <;> simp [e]
    have hm := msr_of h
    rw [e] at h hm
    refine cond_t (by show (!((strB (parts 10 (z :: zs))).toList == (strB []).toList)) = true; rw [ne_lit (y := []) (hne1 i z zs e)]; rfl) ?_
    refine lS.of h (by rfl) ?_
    have hlz : (parts 10 (z :: zs)).length ≤ (parts 10 ws).length := by rw [← e]; exact parts_drop i ws
    refine cut_spec h (gA _) (by rw [strB_size]; omega) fun w1 h => ?_
    have hcut : cut (strB (parts 10 (z :: zs))).data.toList (⟨#[10]⟩ : ByteArray).data.toList = (z, parts 10 zs, !zs.isEmpty) := by
      have h10z := h10 z (List.mem_of_getElem? hz)
      cases zs with
      | nil => exact cut_no h10z
      | cons a zs => exact cut_at h10z
    rw [hcut]
    refine hy i z L w1 _ hz hJ (sat_mono2 h) fun b w2 L' hb h => ⟨b, rfl, ?_⟩
    cases b with
    | false => exact cond_t rfl (hk _ L' (.inr hb) h)
    | true =>
      refine cond_f rfl ?_
      obtain ⟨s, h⟩ := Sat.ex.1 ((show Sat w2 (D :: (ex fun s => blk r [.string s]) :: L') from h).pull 1)
      refine stP.of h (Nat.le_of_ble_eq_true rfl) fun w3 h => ?_
      have h3 : Sat w3 (D :: blk r [.string (strB (parts 10 (ws.drop (i + 1))))] :: L') := by rw [hzs]; exact h.pull 1
      refine ⟨⟨i + 1, L', hlt, hb, h3⟩, ?_⟩
      have := msr_of h3
      rw [hzs] at this
      rw [this, hm]
      cases zs with
      | nil =>
        have := hne1 i z [] e
        cases z with
        | nil => exact absurd rfl this
        | cons => simp [parts]
      | cons a zs => simp [parts]; omega
end
end Go.St

/- Contracts: a text is answered. -/
namespace Go.St
open Go Go.Proofs Go.Lib
attribute [local irreducible] stP alP drP stCs lI64 lU64 lU8 lB lP lL lR lS AppV ClrV InvV DynV
/-- answers, as a text -/
def outOf (ys : List (List UInt8)) : List UInt8 := ys.flatMap fun y => y ++ [10]
theorem outOf_app (a b : List (List UInt8)) : outOf (a ++ b) = outOf a ++ outOf b := by unfold outOf; rw [List.flatMap_append]
theorem outOf_take (ys : List (List UInt8)) (i : Nat) : (outOf (ys.take i)).length ≤ (outOf ys).length := by
  conv => rhs; rw [← List.take_append_drop i ys, outOf_app, List.length_append]
  omega
section
variable {w : World} {M : List HP} {D : HP} {ws ys : List (List UInt8)}
theorem run_spec {K : ByteArray → Int → World → Prop} (gD : ∀ w, Sat w [D] → GF w) (S : Nat → Nat → Nat → HP) (h : Sat w (D :: M)) (hne : ws ≠ []) (hlast : ∀ z, ws.getLast? = some z → z ≠ []) (h10 : ∀ z ∈ ws, (10 : UInt8) ∉ z)
    (hlen : ys.length = ws.length) (hl : (parts 10 ws).length ≤ 20000) (hout : (outOf ys).length ≤ 1000000)
    (h0 : ∀ p s w N, Sat w (blk p (Pc s 0 0) :: blk s nil8 :: N) → Sat w (S p s 0 :: N))
    (hline : ∀ p s i l y, ws[i]? = some l → ys[i]? = some y → ∀ (w : World) (N : List HP) (K : ByteArray → World → Prop), Sat w (S p s i :: N) → GA N → (∀ w', Sat w' (S p s (i + 1) :: N) → K (strB y) w') → shell_line.C (some ⟨p, 0, none⟩) (strB l) w K)
    (q : ∀ w', Sat w' (D :: M) → K (strB (outOf ys)) 0 w') : shell_Run.C (strB (parts 10 ws)) w K := by
  apply shell_Run.ok
  unfold shell_Run.F
  have hsz : decide ((((strB (parts 10 ws)).size : Nat) : Int) > (20000 : Int)) = false := by
    rw [strB_size]; exact decide_eq_false (by omega)
  rw [hsz]
  show play_New.C _ _
  refine play_New_spec h fun p s w h => ?_
  have h := h0 p s _ _ h
  refine alP.of h fun r4 w h => ?_
  refine stP.of h (Nat.le_of_ble_eq_true rfl) fun w h => ?_
  refine BuilderR.new h fun r7 w h => ?_
  apply shell_lines.ok
  refine alP.of h fun r2 w h => ?_
  unfold shell_Run.T1
  refine rfT.ofF (D0 := D) strB (fun _ => rfl) (lines_tells (D := D) (r := r2) gD hne hlast h10 (by omega)) (fun i L => L = BuilderR r7 (outOf (ys.take i)) :: blk r4 [.pointer (some ⟨p, 0, none⟩)] :: S p s i :: M) (fun _ => False) (fun _ => False) rfl (h.pull 4) ?_ ?_ ?_ ?_
  · rintro i l _ W bg k A A' hi rfl h hbg hkn hkr hkx
    refine hbg W _ _ h fun w h => ?_
    have hil := (List.getElem?_eq_some_iff.1 hi).1
    have hy : ys[i]? = some ys[i] := List.getElem?_eq_getElem (by omega)
    have ht := outOf_take ys (i + 1)
    have e1 : outOf (ys.take (i + 1)) = outOf (ys.take i) ++ (ys[i] ++ [10]) := by
      rw [List.take_add_one, hy, outOf_app]
      simp [outOf]
    refine lP.of (b := r4) h (by rfl) ?_
    refine hline p s i l _ hi hy _ _ _ (Sat.pull 5 (show Sat w (A' :: D :: (ex fun s => blk r2 [.string s]) :: BuilderR r7 (outOf (ys.take i)) :: blk r4 [.pointer (some ⟨p, 0, none⟩)] :: S p s i :: M) from h)) (fun w h => gD w (h.sub (.cons _ (.cons_cons _ (List.nil_sublist _))))) fun w h => ?_
    rw [e1] at ht
    simp only [List.length_append] at ht
    refine ⟨?_, ?_⟩
    · have : (IntKind.i64.max : Int) = 9223372036854775807 := by decide
      rw [this, strB_size]
      show ((ys[i].length + 1 : Nat) : Int) ≤ _
      simp at ht
      omega
    · have es : strB ys[i] ++ (⟨#[10]⟩ : ByteArray) = strB (ys[i] ++ [10]) := strB_app _ [10]
      rw [es]
      refine write_spec (h.pull 4) (by rw [strB_size, List.length_append]; simp at ht ⊢; omega) fun n v w h => ?_
      refine hkn w _ rfl ?_
      rw [e1]
      exact (((((h.pull 1).pull 5).pull 2).pull 5).pull 5).pull 5
  · rintro Dd W _ rfl h
    have e : ys.take ws.length = ys := by rw [← hlen, List.take_length]
    rw [e] at h
    have hno : outOf ys ≠ [] := by
      cases ys with
      | nil => exfalso; apply hne; exact List.eq_nil_of_length_eq_zero (by simpa using hlen.symm)
      | cons a t => simp [outOf]
    refine string_spec (Sat.pull 3 (show Sat W (one Dd (.deferred (some [])) :: D :: (ex fun s => blk r2 [.string s]) :: BuilderR r7 (outOf ys) :: blk r4 [.pointer (some ⟨p, 0, none⟩)] :: S p s ws.length :: M) from h)) hno fun w h => ?_
    obtain ⟨e, h⟩ := Sat.dfr h (.deferred none)
    exact ⟨e, q _ (h.sub (.cons_cons _ (.cons _ (.cons _ (.cons _ (.refl _))))))⟩
  · rintro D W _ hf; exact hf.elim
  · rintro D W _ hf; exact hf.elim
theorem run_long {x : ByteArray} {K : ByteArray → Int → World → Prop} (h : 20000 < x.size) (q : K (strB []) 1 w) : shell_Run.C x w K := by
  apply shell_Run.ok
  unfold shell_Run.F
  have hsz : decide (((x.size : Nat) : Int) > (20000 : Int)) = true := decide_eq_true (by omega)
  rw [hsz]
  exact q
end
end Go.St

/- Contracts: trees by six bits with one key: the least key from there on. -/
namespace Go.St
open Go Go.Proofs
attribute [local irreducible] stP alP drP stCs lI64 lU64 lU8 lB lP lL lR AppV ClrV
section
variable {w : World} {t lim : Nat} {k : Int} {M : List HP}
theorem trie_Next_T1 {x : TNd} {r : Nat} {q : Int} {K : Int → Bool → World → Prop} (h : Sat w (blk r (eTNd.e x) :: M)) (h1 : x.mn = k) (h2 : x.mx = k) (hq : q ≤ k) (z : K k true w) : trie_Trie_Next.T1 K (some ⟨t, 0, none⟩) q r 0 w := by
  unfold trie_Trie_Next.T1
  refine lU64.of h (n := x.mx) (by rfl) ?_
  refine cond_f (by rw [h2]; simp; omega) ?_
  show LoopT _ _ _
  refine LoopT.of (fun s w' => s = (0 : Int) ∧ w' = w) (fun _ => 0) ⟨rfl, rfl⟩ ?_
  rintro s w' ⟨rfl, rfl⟩
  refine lU64.of h (n := x.mn) (by rfl) ?_
  refine cond_t (by rw [h1]; simp; omega) ?_
  refine lU64.of h (n := x.mn) (by rfl) ?_
  rw [h1]; exact z
theorem trie_Next_one {q : Int} {K : Int → Bool → World → Prop} (h : Sat w (TrieO t lim k :: M)) (hq : q ≤ k) (z : ∀ w', Sat w' (TrieO t lim k :: M) → K k true w') : trie_Trie_Next.C (some ⟨t, 0, none⟩) q w K := by
  apply trie_Trie_Next.ok
  apply trie_Trie_start.ok
  refine cond_f rfl ?_
  obtain ⟨m, p, f, root, hk, h⟩ := TrieO.un h
  refine lP.of h (by rfl) ?_
  refine count_Start_spec h fun w h => ?_
  refine lI64.of h (by rfl) ?_
  refine cond_f rfl ?_
  obtain ⟨h0, x, hx, e1, e2⟩ := id hk
  have hat : Pl.at (⟨m, f, 11, lim⟩ : Pl TNd) root = some x := by unfold Pl.at; rw [if_pos h0]; exact hx
  refine drP.of h fun w h => ?_
  refine lP.of h (by rfl) ?_
  refine lI64.of h (by rfl) ?_
  refine ⟨?_, ?_⟩
  · refine pool_Pool_trie_node_At_spec (s := ⟨m, f, 11, lim⟩) rfl (by exact h) fun w h => ?_
    rw [hat]
    refine alP.of h fun r w h => ?_
    refine stCs.of h (Nat.le_of_ble_eq_true rfl) (by simp [Value.oneCell']) fun w h => ?_
    exact trie_Next_T1 (x := x) h e1 e2 hq (z _ (TrieO.mk hk h.drop))
  · refine alP.of h fun r w h => ?_
    refine ⟨Foc.cells inferInstance h (by rfl), Foc.cells inferInstance h (by rfl), ?_⟩
    refine pool_Pool_trie_node_At_spec (s := ⟨m, f, 11, lim⟩) rfl (by exact h) fun w h => ?_
    rw [hat]
    refine stCs.of h (Nat.le_of_ble_eq_true rfl) (by simp [Value.oneCell']) fun w h => ?_
    exact trie_Next_T1 (x := x) h e1 e2 hq (z _ (TrieO.mk hk h.drop))
end
end Go.St

/- The shell's laws: it is awake. -/
namespace Go.St
open Go Go.Proofs Go.Lib
attribute [local irreducible] stP alP drP stCs lI64 lU64 lU8 lB lP lL lR lS AppV ClrV InvV DynV
theorem inv_trie_Next {p : Option Addr} {n : Int} {w : World} {K : Value → World → Prop} (h : CallsV prog 475 #[.pointer p, .int .u64 n] w K) : InvV prog (.iface 265 (.pointer p)) "Next" #[.int .u64 n] w K := by
  unfold InvV
  have e : (callMethod (.iface 265 (.pointer p)) "Next" #[.int .u64 n]).run prog w = .ok (.enter 475 #[.pointer p, .int .u64 n]) w := by kernel_rfl
  rw [e]
  exact h
theorem does_trie_Next {lim : Nat} {k q : Int} (hq : q ≤ k) : Does "Next" #[.int .u64 q] (TrO lim k) (TrO lim k) (.tuple #[.int .u64 k, .bool true]) := by
  intro w N t u K hs z
  obtain ⟨a, hs1⟩ := Sat.ex.1 hs
  obtain ⟨e, hs2⟩ := Sat.pur.1 (Sat.sep.1 hs1)
  clear hs hs1
  cases e
  refine inv_trie_Next ?_
  refine CallsV.mono (trie_Next_one (K := fun x b w => x = k ∧ b = true ∧ Sat w (TrieO a lim k :: N)) hs2 hq fun w h => ⟨rfl, rfl, h⟩) ?_
  rintro v w ⟨x, b, rfl, rfl, rfl, h⟩
  exact z w (Sat.ex.2 ⟨a, Sat.sep.2 (Sat.pur.2 ⟨rfl, h⟩)⟩)
/-- a player's shelf, behind each line of the example -/
def awX (s : Nat) : Nat → HP
  | 0 => blk s nil8
  | 1 => One s 4 1 100 (TrS 100)
  | _ => One s 4 1 100 (TrO 100 5)
def awS (p s i : Nat) : HP := sp (blk p (Pc s i 0)) (awX s i)
def aw0 : List UInt8 := parts 32 [[111, 112, 101, 110], [48], [115, 101, 116], tagN 4, [49], [49, 48, 48]]
def aw1 : List UInt8 := parts 32 [[105, 110, 115, 101, 114, 116], [48], [53]]
def aw2 : List UInt8 := parts 32 [[110, 101, 120, 116], [48], [51]]
theorem dec1 : Dec [49] 1 := ⟨by decide +kernel, by decide +kernel, by decide⟩
theorem dec100 : Dec [49, 48, 48] 100 := ⟨by decide +kernel, by decide +kernel, by decide⟩
theorem dec5 : Dec [53] 5 := ⟨by decide +kernel, by decide +kernel, by decide⟩
theorem dec3 : Dec [51] 3 := ⟨by decide +kernel, by decide +kernel, by decide⟩
section
variable {w : World} {M : List HP} {D : HP}
theorem aw_line0 {p s : Nat} {K : ByteArray → World → Prop} (h : Sat w (awS p s 0 :: M)) (ga : GA M) (q : ∀ w', Sat w' (awS p s 1 :: M) → K (strB [111, 107]) w') : shell_line.C (some ⟨p, 0, none⟩) (strB aw0) w K := by
  refine line_ok (x := [111, 112, 101, 110]) (t := parts 32 [[48], [115, 101, 116], tagN 4, [49], [49, 48, 48]]) (p := p) (s := s) (X := awX s 0) (Y := awX s 1) (d0 := 0) (d1 := 1) (f := 0) (a1 := 0) (a2 := 0) (a4 := 0) (a6 := false) (a7 := 4) (a8 := 1) (a9 := 100) (k := 0) (n := 0) (y := false) (out := [111, 107]) (by decide) (by decide +kernel) (by decide) ?_ ?_ ?_ (Sat.sep.1 h) ga fun w h => q w (Sat.sep.2 h)
  · intro w N K' h ga k
    exact read_open (t := 4) (sd := 1) (lm := 100) (xs := [49]) (xl := [49, 48, 48]) h ga (by decide) (by decide) (by decide +kernel) (by decide) dec1 (by decide) dec100 (by decide) (by decide) k
  · exact play_Do_change rfl (play_change_open fun w N K h q => shelf_Open_one (makes_trie (lim := 100) (by decide)) h q)
  · exact fun w N K' h ga k => told_open h k
theorem aw_line1 {p s : Nat} {K : ByteArray → World → Prop} (h : Sat w (awS p s 1 :: M)) (ga : GA M) (q : ∀ w', Sat w' (awS p s 2 :: M) → K (strB [111, 107]) w') : shell_line.C (some ⟨p, 0, none⟩) (strB aw1) w K := by
  refine line_ok (x := [105, 110, 115, 101, 114, 116]) (t := parts 32 [[48], [53]]) (p := p) (s := s) (X := awX s 1) (Y := awX s 2) (d0 := 1) (d1 := 2) (f := 0) (a1 := 2) (a2 := 0) (a4 := 5) (a6 := false) (a7 := 0) (a8 := 0) (a9 := 0) (k := 0) (n := 0) (y := false) (out := [111, 107]) (by decide) (by decide +kernel) (by decide) ?_ ?_ ?_ (Sat.sep.1 h) ga fun w h => q w (Sat.sep.2 h)
  · intro w N K' h ga k
    exact read_insert_ok (y := [53]) (u := 5) h ga (by decide) (by decide) dec5 k
  · exact play_Do_change rfl (play_change_insert fun w N K h q => shelf_Insert_one (does_trie_Insert (lim := 100) (by decide) (by decide)) h q)
  · exact fun w N K' h ga k => told_insert h k
theorem aw_line2 {p s : Nat} {K : ByteArray → World → Prop} (h : Sat w (awS p s 2 :: M)) (ga : GA M) (q : ∀ w', Sat w' (awS p s 3 :: M) → K (strB [53]) w') : shell_line.C (some ⟨p, 0, none⟩) (strB aw2) w K := by
  refine line_ok (x := [110, 101, 120, 116]) (t := parts 32 [[48], [51]]) (p := p) (s := s) (X := awX s 2) (Y := awX s 3) (d0 := 2) (d1 := 3) (f := 0) (a1 := 7) (a2 := 0) (a4 := 3) (a6 := false) (a7 := 0) (a8 := 0) (a9 := 0) (k := 5) (n := 0) (y := false) (out := [53]) (by decide) (by decide +kernel) (by decide) ?_ ?_ ?_ (Sat.sep.1 h) ga fun w h => q w (Sat.sep.2 h)
  · intro w N K' h ga k
    exact read_next_ok (y := [51]) (u := 3) h ga (by decide) (by decide) dec3 k
  · exact play_Do_look rfl (.inl rfl) (play_look_next fun w N K h q => shelf_Next_one (does_trie_Next (by decide)) h q)
  · intro w N K' h ga k
    have e : decDigits 5 = [53] := by decide +kernel
    refine told_next (u := 5) h ga (by decide) fun w h => ?_
    rw [e]; exact k w h
theorem aw_run {K : ByteArray → Int → World → Prop} (gD : ∀ w, Sat w [D] → GF w) (h : Sat w (D :: M)) (q : ∀ w', Sat w' (D :: M) → K (strB [111, 107, 10, 111, 107, 10, 53, 10]) 0 w') : shell_Run.C (⟨#[111, 112, 101, 110, 32, 48, 32, 115, 101, 116, 32, 116, 114, 105, 101, 32, 49, 32, 49, 48, 48, 10, 105, 110, 115, 101, 114, 116, 32, 48, 32, 53, 10, 110, 101, 120, 116, 32, 48, 32, 51]⟩ : ByteArray) w K := by
  have e : (⟨#[111, 112, 101, 110, 32, 48, 32, 115, 101, 116, 32, 116, 114, 105, 101, 32, 49, 32, 49, 48, 48, 10, 105, 110, 115, 101, 114, 116, 32, 48, 32, 53, 10, 110, 101, 120, 116, 32, 48, 32, 51]⟩ : ByteArray) = strB (parts 10 [aw0, aw1, aw2]) := by rfl
  rw [e]
  refine run_spec (ws := [aw0, aw1, aw2]) (ys := [[111, 107], [111, 107], [53]]) gD awS h (by simp) (by intro z hz; simp only [List.getLast?, Option.some.injEq] at hz; subst hz; decide +kernel) (by decide +kernel) rfl (by decide +kernel) (by decide +kernel) (fun p s w N h => Sat.sep.2 h) ?_ q
  intro p s i l y hl hy w N K h ga k
  match i, hl, hy with
  | 0, hl, hy => cases hl; cases hy; exact aw_line0 h ga k
  | 1, hl, hy => cases hl; cases hy; exact aw_line1 h ga k
  | 2, hl, hy => cases hl; cases hy; exact aw_line2 h ga k
theorem law27_awake_spec {K : Bool → World → Prop} (gD : ∀ w, Sat w [D] → GF w) (h : Sat w (D :: M)) (q : ∀ w', Sat w' (D :: M) → K true w') : stepstonelaw27_awake.C w K := by
  apply stepstonelaw27_awake.ok
  refine aw_run gD h fun w h => ?_
  refine cond_t rfl ?_
  have e : ((strB [111, 107, 10, 111, 107, 10, 53, 10]).toList == (⟨#[111, 107, 10, 111, 107, 10, 53, 10]⟩ : ByteArray).toList) = true := eq_lit
  rw [e]
  exact q w h
end
end Go.St

/- Contracts: numbers of 16 bits: none, and one. -/
namespace Go.St
open Go Go.Proofs
def appMOk (P : Program) (ats : Array TypeId) : Bool :=
  match ats.toList with
  | [t, u] => match P.underlying t, P.underlying u with
    | some (.slice e), some (.int .i64) => match P.info? e with
      | some i => match i.zero with
        | some z => match z.cells.toList with
          | [.int .u16 0] => Nat.beq i.size 1 && Nat.beq i.bytes 2
          | _ => false
        | none => false
      | none => false
    | _, _ => false
  | _ => false
theorem appMOk.out {P : Program} {ats : Array TypeId} (h : appMOk P ats = true) :
    ∃ t u e i z, ats = #[t, u] ∧ P.underlying t = some (.slice e) ∧ P.underlying u = some (.int .i64) ∧ P.info? e = some i ∧ i.zero = some z ∧ i.size = 1 ∧ i.bytes = 2 ∧ z.cells.toList = eU16.e 0 := by
  unfold appMOk at h
  split at h
  · rename_i t u ha
    split at h
    · rename_i e h1 h2
      split at h
      · rename_i i hi
        split at h
        · rename_i z hz
          split at h
          · rename_i hzc
            simp only [Bool.and_eq_true] at h
            exact ⟨t, u, e, i, z, by apply Array.ext'; simpa using ha, h1, h2, hi, hz, Nat.eq_of_beq_eq_true h.1, Nat.eq_of_beq_eq_true h.2, hzc⟩
          · cases h
        · cases h
      · cases h
    · cases h
  · cases h
theorem AppV.made1 {P : Program} {ats : Array TypeId} {ty : TypeId} {w : World} {M : List HP} {K : Value → World → Prop} (ok : appMOk P ats = true) (h : Sat w M)
    (k : ∀ r c w', Sat w' (Own eU16 (some ⟨r, 0, none⟩) (1, c, [0]) :: M) → K (.slice (some ⟨r, 0, none⟩) 1 c) w') : AppV P ats ty (.slice none 0 0) (.int .i64 1) w K := by
  obtain ⟨t, u, e, i, z, rfl, ht, hu, hi, hz, hsz, hby, hzc⟩ := appMOk.out ok
  have hzs : z.cells.size = 1 := by rw [← Array.length_toList, hzc]; rfl
  have hcap : 1 ≤ grownCap w 1 0 e := grownCap_ge w _ _ e
  have hrun : (Builtin.append_ #[t, u] ty #[.slice none 0 0, .int .i64 1]).run P w =
        .ok (.slice (some ⟨w.heap.size, 0, none⟩) 1 (grownCap w 1 0 e)) (w.drew.alloc (.cells (Builtin.zeroCells z.cells 1 ++ Builtin.zeroCells z.cells (grownCap w 1 0 e - 1)) e)) := by
    have h48 : ¬ (281474976710656 < Builtin.nextslicecap 1 0 * i.bytes) := by
      have := growslice_fits (need := 1) (old := 0) (bytes := i.bytes) (by omega) (by rw [hby]; decide)
      omega
    rw [hby] at h48
    have h63 : ¬ ((9223372036854775807 : Int) < max 1 0) := by decide
    have hw1 : IntKind.i64.wrap 1 = 1 := by decide
    simp [Builtin.append_, run_underlying ht, run_underlying hu, sizeOf, typeInfo, zeroValue, hi, hz, h48, h63, hw1, hsz, hby, Question.forced, Builtin.firstCells, newRow, grownCap, asInt, asIntOf]
  show runV P _ w K
  unfold runV; rw [hrun]
  refine k _ _ _ (Own.ofBlk (rest := (Builtin.zeroCells z.cells (grownCap w 1 0 e - 1)).toList) ⟨rfl, hcap, by simp [size_zeroCells, hzs]; exact (Nat.mul_one _).symm⟩ ?_)
  have := (h.drew).alloc (Builtin.zeroCells z.cells 1 ++ Builtin.zeroCells z.cells (grownCap w 1 0 e - 1)) e
  rw [Array.toList_append, zeroCells_rows hzc] at this
  exact this
attribute [local irreducible] stP alP drP stCs lI64 lU64 lU8 lU16 lB lP lL lR lS AppV ClrV InvV DynV
section
variable {w : World} {M : List HP} {a c : Nat} {v q : Int} {rest : List Value}
theorem cmp_Less_u16 {x y : Int} {K : Bool → World → Prop} (k : K (decide (x < y)) w) : cmp_Less_uint16.C x y w K := by
  apply cmp_Less_uint16.ok
  apply cmp_isNaN_uint16.ok
  exact cond_f (by simp) k
theorem bs_nil {c : Nat} {K : Int → Bool → World → Prop} (k : K 0 false w) : slices_BinarySearch_uint16_uint16.C none 0 c q w K := by
  apply slices_BinarySearch_uint16_uint16.ok
  show LoopT _ _ _
  refine LoopT.of (fun s w' => s = (0, 0) ∧ w' = w) (fun _ => 0) ⟨rfl, rfl⟩ ?_
  rintro _ _ ⟨rfl, rfl⟩
  unfold slices_BinarySearch_uint16_uint16.B2
  dsimp only
  refine cond_f rfl ?_
  exact cond_f rfl k
theorem bs_one {K : Int → Bool → World → Prop} (h : Sat w (blk a (.int .u16 v :: rest) :: M)) (k : if q ≤ v then K 0 (v == q) w else K 1 false w) : slices_BinarySearch_uint16_uint16.C (some ⟨a, 0, none⟩) 1 c q w K := by
  apply slices_BinarySearch_uint16_uint16.ok
  show LoopT _ _ _
  refine LoopT.of (fun s w' => w' = w ∧ (s = (0, 1) ∨ (q ≤ v ∧ s = (0, 0)) ∨ (¬ q ≤ v ∧ s = (1, 1)))) (fun s => (s.2 - s.1).toNat) ⟨rfl, .inl rfl⟩ ?_
  rintro _ _ ⟨rfl, rfl | ⟨hq, rfl⟩ | ⟨hq, rfl⟩⟩
  · unfold slices_BinarySearch_uint16_uint16.B2
    dsimp only
    refine cond_t rfl ?_
    have e : w64 (shr .u64 (wu64 (w64 ((0 : Int) + 1))) 1) = 0 := by decide
    rw [e]
    refine ⟨by omega, by omega, ?_⟩
    refine lU16.of (b := a) h (by rfl) ?_
    refine cmp_Less_u16 ?_
    refine cond_c (fun hc => ?_) fun hc => ?_
    · simp at hc
      exact ⟨⟨rfl, .inr (.inr ⟨by omega, rfl⟩)⟩, by decide⟩
    · simp at hc
      exact ⟨⟨rfl, .inr (.inl ⟨by omega, rfl⟩)⟩, by decide⟩
  · rw [if_pos hq] at k
    unfold slices_BinarySearch_uint16_uint16.B2
    dsimp only
    refine cond_f rfl ?_
    refine cond_t rfl ?_
    refine ⟨by omega, by omega, ?_⟩
    refine lU16.of (b := a) h (by rfl) ?_
    refine cond_c (fun hc => ?_) fun hc => ?_
    · rw [hc] at k; exact k
    · rw [hc] at k
      refine ⟨by omega, by omega, ?_⟩
      refine lU16.of (b := a) h (by rfl) ?_
      apply slices_isNaN_uint16.ok
      exact cond_f (by simp) k
  · rw [if_neg hq] at k
    unfold slices_BinarySearch_uint16_uint16.B2
    dsimp only
    refine cond_f rfl ?_
    exact cond_f rfl k
theorem clone_nil {c : Nat} {K : Option Addr → Nat → Nat → World → Prop} (k : K none 0 0 w) : slices_Clone_uint16_uint16.C none 0 c w K := by
  apply slices_Clone_uint16_uint16.ok
  exact cond_t rfl k
theorem grow_one {K : Option Addr → Nat → Nat → World → Prop} (h : Sat w M) (k : ∀ r c w', Sat w' (Own eU16 (some ⟨r, 0, none⟩) (0, c, []) :: M) → K (some ⟨r, 0, none⟩) 0 c w') : slices_Grow_uint16_uint16.C none 0 0 1 w K := by
  apply slices_Grow_uint16_uint16.ok
  refine cond_f rfl ?_
  refine cond_t rfl ?_
  refine ⟨by omega, by omega, ?_⟩
  have e : w64 ((1 : Int) - w64 (((0 : Nat) : Int) - ((0 : Nat) : Int))) = 1 := by decide
  rw [e]
  refine AppV.made1 (by kernel_rfl) h fun r c w h => ⟨_, _, _, rfl, by omega, by omega, ?_⟩
  have e2 : slA (some ⟨r, 0, none⟩) c 0 1 = some ⟨r, 0, none⟩ := by
    unfold slA
    split
    · rfl
    · simp [Addr.add]
  rw [e2]
  refine k _ _ _ ?_
  obtain ⟨b, rest, eb, ⟨h1, h2, h3⟩, h⟩ := Own.toBlk h (Own.len h).2
  cases eb
  exact Own.ofBlk (rest := eU16.rows [0] ++ rest) ⟨rfl, Nat.zero_le _, by
    show (eU16.rows [0] ++ rest).length = (c - 0) * 1
    rw [List.length_append, h3]
    show 1 + (c - 1) * 1 = (c - 0) * 1
    omega⟩ h
def ccAt (v : Int) : Nat → List Int
  | 0 => []
  | 1 => []
  | _ => [v]
theorem concat_one {r d : Nat} {K : Option Addr → Nat → Nat → World → Prop} (h : Sat w (blk r [.slice none 0 0, .slice (some ⟨d, 0, none⟩) 1 1, .slice none 0 0] :: blk d [.int .u16 v] :: M))
    (k : ∀ a c w', Sat w' (Own eU16 a (1, c, [v]) :: M) → K a 1 c w') : slices_Concat_uint16_uint16.C (some ⟨r, 0, none⟩) 3 3 w K := by
  apply slices_Concat_uint16_uint16.ok
  have hok : appOk prog #[516, 516] eU16.sz 2 = true := by kernel_rfl
  show LoopT _ _ _
  refine LoopT.of (fun s w' => w' = w ∧ ∃ i : Nat, i ≤ 3 ∧ s = (((ccAt v i).length : Int), (i : Int))) (fun s => 3 - s.2.toNat) ⟨rfl, 0, by omega, rfl⟩ ?_
  rintro _ _ ⟨rfl, i, hi, rfl⟩
  match i, hi with
  | 0, _ =>
    unfold slices_Concat_uint16_uint16.B3
    dsimp only
    refine cond_t rfl ⟨by omega, by omega, ?_⟩
    refine lL.of (b := r) h (by rfl) ?_
    exact cond_f rfl ⟨⟨rfl, 1, by omega, rfl⟩, by decide⟩
  | 1, _ =>
    unfold slices_Concat_uint16_uint16.B3
    dsimp only
    refine cond_t rfl ⟨by omega, by omega, ?_⟩
    refine lL.of (b := r) h (by rfl) ?_
    exact cond_f rfl ⟨⟨rfl, 2, by omega, rfl⟩, by decide⟩
  | 2, _ =>
    unfold slices_Concat_uint16_uint16.B3
    dsimp only
    refine cond_t rfl ⟨by omega, by omega, ?_⟩
    refine lL.of (b := r) h (by rfl) ?_
    exact cond_f rfl ⟨⟨rfl, 3, by omega, rfl⟩, by decide⟩
  | 3, _ =>
    unfold slices_Concat_uint16_uint16.B3
    dsimp only
    refine cond_f rfl ?_
    refine grow_one h fun g c w h => ?_
    show LoopT _ _ _
    refine LoopT.of (fun s w' => ∃ (i : Nat) (a : Option Addr) (c : Nat), i ≤ 3 ∧ s = (a, (ccAt v i).length, c, (i : Int)) ∧ Sat w' (Own eU16 a ((ccAt v i).length, c, ccAt v i) :: blk r [.slice none 0 0, .slice (some ⟨d, 0, none⟩) 1 1, .slice none 0 0] :: blk d [.int .u16 v] :: M)) (fun s => 3 - s.2.2.2.toNat) ⟨0, _, c, by omega, rfl, h⟩ ?_
    rintro _ w ⟨i, a, c, hi, rfl, h⟩
    match i, hi with
    | 0, _ =>
      unfold slices_Concat_uint16_uint16.B2
      dsimp only
      refine cond_t rfl ⟨by omega, by omega, ?_⟩
      refine lL.of (b := r) h (by rfl) ?_
      refine AppV.own (E := eU16) (a := a) (c := c) (ys := []) h hok (.inl rfl) rfl (by show 0 + 0 ≤ 2 ^ 40; omega) (by decide) fun a2 c2 w h => ⟨_, _, _, rfl, ?_⟩
      exact ⟨⟨1, a2, c2, by omega, rfl, h⟩, by decide⟩
    | 1, _ =>
      unfold slices_Concat_uint16_uint16.B2
      dsimp only
      refine cond_t rfl ⟨by omega, by omega, ?_⟩
      refine lL.of (b := r) h (by rfl) ?_
      refine AppV.own (E := eU16) (a := a) (c := c) (ys := [v]) h hok (Reads.own (E := eU16) (ys := [v]) (b := d) h (List.prefix_refl _)) rfl (by show 0 + 1 ≤ 2 ^ 40; omega) (by decide) fun a2 c2 w h => ⟨_, _, _, rfl, ?_⟩
      exact ⟨⟨2, a2, c2, by omega, rfl, h⟩, by decide⟩
    | 2, _ =>
      unfold slices_Concat_uint16_uint16.B2
      dsimp only
      refine cond_t rfl ⟨by omega, by omega, ?_⟩
      refine lL.of (b := r) h (by rfl) ?_
      refine AppV.own (E := eU16) (a := a) (c := c) (ys := []) h hok (.inl rfl) rfl (by show 1 + 0 ≤ 2 ^ 40; omega) (by decide) fun a2 c2 w h => ⟨_, _, _, rfl, ?_⟩
      exact ⟨⟨3, a2, c2, by omega, rfl, h⟩, by decide⟩
    | 3, _ =>
      unfold slices_Concat_uint16_uint16.B2
      dsimp only
      refine cond_f rfl ?_
      exact k _ _ _ (h.sub (.cons_cons _ (.cons _ (.cons _ (.refl _)))))
theorem array_Add_nil {K : Option Addr → Nat → Nat → Bool → World → Prop} (h : Sat w M) (k : ∀ a c w', Sat w' (Own eU16 a (1, c, [v]) :: M) → K a 1 c true w') : array_Add.C none 0 0 v w K := by
  apply array_Add.ok
  refine bs_nil ?_
  refine cond_f rfl ?_
  refine drP.of h fun w h => ?_
  refine ⟨by omega, by omega, by omega, by omega, ?_⟩
  refine alP.of h fun d w h => ?_
  refine alP.of h fun r w h => ?_
  exact concat_one h fun a c w h => k a c w h
end
end Go.St

/- Contracts: boxes by the upper bits: none, and one with one key. -/
namespace Go.St
open Go Go.Proofs
theorem inv_few_has {a : Option Addr} {l c : Nat} {n : Int} {w : World} {K : Value → World → Prop} (h : CallsV prog 667 #[.agg #[.slice a l c], .int .u16 n] w K) : InvV prog (.iface 554 (.agg #[.slice a l c])) "stepstone/box.has" #[.int .u16 n] w K := by
  unfold InvV
  have e : (callMethod (.iface 554 (.agg #[.slice a l c])) "stepstone/box.has" #[.int .u16 n]).run prog w = .ok (.enter 667 #[.agg #[.slice a l c], .int .u16 n]) w := by kernel_rfl
  rw [e]; exact h
theorem inv_few_size {a : Option Addr} {l c : Nat} {w : World} {K : Value → World → Prop} (h : CallsV prog 673 #[.agg #[.slice a l c]] w K) : InvV prog (.iface 554 (.agg #[.slice a l c])) "stepstone/box.size" #[] w K := by
  unfold InvV
  have e : (callMethod (.iface 554 (.agg #[.slice a l c])) "stepstone/box.size" #[]).run prog w = .ok (.enter 673 #[.agg #[.slice a l c]]) w := by kernel_rfl
  rw [e]; exact h
theorem inv_few_cost {a : Option Addr} {l c : Nat} {w : World} {K : Value → World → Prop} (h : CallsV prog 666 #[.agg #[.slice a l c]] w K) : InvV prog (.iface 554 (.agg #[.slice a l c])) "stepstone/box.cost" #[] w K := by
  unfold InvV
  have e : (callMethod (.iface 554 (.agg #[.slice a l c])) "stepstone/box.cost" #[]).run prog w = .ok (.enter 666 #[.agg #[.slice a l c]]) w := by kernel_rfl
  rw [e]; exact h
theorem inv_few_list {a : Option Addr} {l c : Nat} {w : World} {K : Value → World → Prop} (h : CallsV prog 669 #[.agg #[.slice a l c]] w K) : InvV prog (.iface 554 (.agg #[.slice a l c])) "stepstone/box.list" #[] w K := by
  unfold InvV
  have e : (callMethod (.iface 554 (.agg #[.slice a l c])) "stepstone/box.list" #[]).run prog w = .ok (.enter 669 #[.agg #[.slice a l c]]) w := by kernel_rfl
  rw [e]; exact h
theorem inv_few_next {a : Option Addr} {l c : Nat} {n : Int} {w : World} {K : Value → World → Prop} (h : CallsV prog 670 #[.agg #[.slice a l c], .int .u16 n] w K) : InvV prog (.iface 554 (.agg #[.slice a l c])) "stepstone/box.next" #[.int .u16 n] w K := by
  unfold InvV
  have e : (callMethod (.iface 554 (.agg #[.slice a l c])) "stepstone/box.next" #[.int .u16 n]).run prog w = .ok (.enter 670 #[.agg #[.slice a l c], .int .u16 n]) w := by kernel_rfl
  rw [e]; exact h
theorem inv_few_prev {a : Option Addr} {l c : Nat} {n : Int} {w : World} {K : Value → World → Prop} (h : CallsV prog 671 #[.agg #[.slice a l c], .int .u16 n] w K) : InvV prog (.iface 554 (.agg #[.slice a l c])) "stepstone/box.prev" #[.int .u16 n] w K := by
  unfold InvV
  have e : (callMethod (.iface 554 (.agg #[.slice a l c])) "stepstone/box.prev" #[.int .u16 n]).run prog w = .ok (.enter 671 #[.agg #[.slice a l c], .int .u16 n]) w := by kernel_rfl
  rw [e]; exact h
attribute [local irreducible] stP alP drP stCs lI64 lU64 lU8 lU16 lB lP lL lR lS AppV ClrV InvV DynV
/-- a box with one number -/
def BxO (b : Nat) (v : Int) : HP := ex fun (a : Nat) => ex fun (c : Nat) => ex fun (rest : List Value) =>
  seps [blk b [.iface 554 (.agg #[.slice (some ⟨a, 0, none⟩) 1 c])], blk a (.int .u16 v :: rest)]
section
variable {w : World} {M : List HP} {b : Nat} {v q : Int}
theorem BxO.un (h : Sat w (BxO b v :: M)) : ∃ a c rest, Sat w (blk b [.iface 554 (.agg #[.slice (some ⟨a, 0, none⟩) 1 c])] :: blk a (.int .u16 v :: rest) :: M) := by
  obtain ⟨a, h⟩ := Sat.ex.1 h; obtain ⟨c, h⟩ := Sat.ex.1 h; obtain ⟨r, h⟩ := Sat.ex.1 h
  exact ⟨a, c, r, Sat.seps.1 h⟩
theorem BxO.mk {a c : Nat} {rest : List Value} (h : Sat w (blk b [.iface 554 (.agg #[.slice (some ⟨a, 0, none⟩) 1 c])] :: blk a (.int .u16 v :: rest) :: M)) : Sat w (BxO b v :: M) :=
  Sat.ex.2 ⟨a, Sat.ex.2 ⟨c, Sat.ex.2 ⟨rest, Sat.seps.2 h⟩⟩⟩
theorem kept_at {x : Value} {K : Value → World → Prop} (h : Sat w (blk b [x] :: M)) (hx : ∃ t u, x = .iface t u) (k : K x w) : box_Box_kept.C (some ⟨b, 0, none⟩) w K := by
  obtain ⟨t, u, rfl⟩ := hx
  apply box_Box_kept.ok
  refine cond_f rfl ?_
  exact lR.of (b := b) h (by rfl) k
theorem few_size_spec {a : Option Addr} {l c : Nat} {K : Int → World → Prop} (h : Sat w M) (k : ∀ w', Sat w' M → K (l : Nat) w') : box_few_size.C a l c w K := by
  apply box_few_size.ok
  refine alP.of h fun r w h => ?_
  refine lL.of (b := r) h (by rfl) ?_
  exact k _ h.drop
theorem few_cost_spec {a : Option Addr} {l c : Nat} {K : Int → World → Prop} (h : Sat w M) (k : ∀ w', Sat w' M → K (l : Nat) w') : box_few_cost.C a l c w K := by
  apply box_few_cost.ok
  refine alP.of h fun r w h => ?_
  refine lL.of (b := r) h (by rfl) ?_
  exact k _ h.drop
theorem box_Len_of {a : Option Addr} {l c : Nat} {K : Int → World → Prop} (h : Sat w (blk b [.iface 554 (.agg #[.slice a l c])] :: M)) (k : ∀ w', Sat w' (blk b [.iface 554 (.agg #[.slice a l c])] :: M) → K (l : Nat) w') : box_Box_Len.C (some ⟨b, 0, none⟩) w K := by
  apply box_Box_Len.ok
  refine kept_at h ⟨_, _, rfl⟩ ?_
  refine inv_few_size ?_
  refine CallsV.mono (few_size_spec (K := fun x w => x = (l : Nat) ∧ Sat w (blk b [.iface 554 (.agg #[.slice a l c])] :: M)) h fun w h => ⟨rfl, h⟩) ?_
  rintro v w ⟨x, rfl, rfl, h⟩
  exact ⟨_, rfl, k w h⟩
theorem box_Len_one {K : Int → World → Prop} (h : Sat w (BxO b v :: M)) (k : ∀ w', Sat w' (BxO b v :: M) → K 1 w') : box_Box_Len.C (some ⟨b, 0, none⟩) w K := by
  obtain ⟨a, c, r, h⟩ := BxO.un h
  exact box_Len_of h fun w h => k w (BxO.mk h)
theorem box_Cost_one {K : Int → World → Prop} (h : Sat w (BxO b v :: M)) (k : ∀ w', Sat w' (BxO b v :: M) → K 1 w') : box_Box_Cost.C (some ⟨b, 0, none⟩) w K := by
  obtain ⟨a, c, r, h⟩ := BxO.un h
  apply box_Box_Cost.ok
  refine kept_at h ⟨_, _, rfl⟩ ?_
  refine inv_few_cost ?_
  refine CallsV.mono (few_cost_spec (K := fun x w => x = ((1 : Nat) : Int) ∧ Sat w _) h fun w h => ⟨rfl, h⟩) ?_
  rintro v w ⟨x, rfl, rfl, h⟩
  exact ⟨_, rfl, k w (BxO.mk h)⟩
theorem select_zero {a : Nat} {rest : List Value} {c : Nat} {K : Int → Bool → World → Prop} (h : Sat w (blk a (.int .u16 v :: rest) :: M)) (k : K v true w) : array_Select.C (some ⟨a, 0, none⟩) 1 c 0 w K := by
  apply array_Select.ok
  refine cond_f rfl (cond_f rfl ?_)
  refine ⟨by omega, by omega, ?_⟩
  exact lU16.of (b := a) h (by rfl) k
theorem box_Next_zero {K : Int → Bool → World → Prop} (hv : 0 ≤ v) (h : Sat w (BxO b v :: M)) (k : ∀ w', Sat w' (BxO b v :: M) → K v true w') : box_Box_Next.C (some ⟨b, 0, none⟩) 0 w K := by
  obtain ⟨a, c, r, h⟩ := BxO.un h
  apply box_Box_Next.ok
  refine kept_at h ⟨_, _, rfl⟩ ?_
  refine inv_few_next ?_
  have : box_few_next.C (some ⟨a, 0, none⟩) 1 c 0 w fun x y w => x = v ∧ y = true ∧ Sat w (blk b [.iface 554 (.agg #[.slice (some ⟨a, 0, none⟩) 1 c])] :: blk a (.int .u16 v :: r) :: M) := by
    apply box_few_next.ok
    refine alP.of h fun r5 w h => ?_
    refine lL.of (b := r5) h (by rfl) ?_
    apply array_Next.ok
    refine bs_one (v := v) (h.pull 2) ?_
    rw [if_pos hv]
    exact select_zero (h.pull 2) ⟨rfl, rfl, h.drop⟩
  refine CallsV.mono this ?_
  rintro y w ⟨n, z, rfl, rfl, rfl, h⟩
  exact ⟨_, _, rfl, k w (BxO.mk h)⟩
theorem box_Prev_last {K : Int → Bool → World → Prop} (hv : v ≤ 65535) (h : Sat w (BxO b v :: M)) (k : ∀ w', Sat w' (BxO b v :: M) → K v true w') : box_Box_Prev.C (some ⟨b, 0, none⟩) 65535 w K := by
  obtain ⟨a, c, r, h⟩ := BxO.un h
  apply box_Box_Prev.ok
  refine kept_at h ⟨_, _, rfl⟩ ?_
  refine inv_few_prev ?_
  have : box_few_prev.C (some ⟨a, 0, none⟩) 1 c 65535 w fun x y w => x = v ∧ y = true ∧ Sat w (blk b [.iface 554 (.agg #[.slice (some ⟨a, 0, none⟩) 1 c])] :: blk a (.int .u16 v :: r) :: M) := by
    apply box_few_prev.ok
    refine alP.of h fun r5 w h => ?_
    refine lL.of (b := r5) h (by rfl) ?_
    apply array_Prev.ok
    refine bs_one (v := v) (h.pull 2) ?_
    by_cases hq : (65535 : Int) ≤ v
    · obtain rfl : v = 65535 := by omega
      rw [if_pos hq]
      exact cond_t (by rfl) ⟨rfl, rfl, h.drop⟩
    · rw [if_neg hq]
      refine cond_f rfl ?_
      have e : w64 ((1 : Int) - 1) = 0 := by decide
      rw [e]
      exact select_zero (h.pull 2) ⟨rfl, rfl, h.drop⟩
  refine CallsV.mono this ?_
  rintro y w ⟨n, z, rfl, rfl, rfl, h⟩
  exact ⟨_, _, rfl, k w (BxO.mk h)⟩
theorem box_Add_first {K : Bool → World → Prop} (h : Sat w (blk b [.iface 554 (.agg #[.slice none 0 0])] :: M)) (k : ∀ w', Sat w' (BxO b v :: M) → K true w') : box_Box_Add.C (some ⟨b, 0, none⟩) v w K := by
  apply box_Box_Add.ok
  refine cond_f rfl ?_
  apply box_Box_Has.ok
  refine kept_at h ⟨_, _, rfl⟩ ?_
  refine inv_few_has ?_
  have h1 : box_few_has.C none 0 0 v w fun x w => x = false ∧ Sat w (blk b [.iface 554 (.agg #[.slice none 0 0])] :: M) := by
    apply box_few_has.ok
    refine alP.of h fun r5 w h => ?_
    refine lL.of (b := r5) h (by rfl) ?_
    apply array_Has.ok
    exact bs_nil ⟨rfl, h.drop⟩
  refine CallsV.mono h1 ?_
  rintro y w ⟨z, rfl, rfl, h⟩
  refine ⟨_, rfl, ?_⟩
  unfold box_Box_Add.T1
  refine cond_f rfl ?_
  refine box_Len_of h fun w h => ?_
  refine cond_t rfl ?_
  refine lR.of (b := b) h (by rfl) ?_
  refine inv_few_list ?_
  have h2 : box_few_list.C none 0 0 w fun a l c w => a = none ∧ l = 0 ∧ c = 0 ∧ Sat w (blk b [.iface 554 (.agg #[.slice none 0 0])] :: M) := by
    apply box_few_list.ok
    refine alP.of h fun r5 w h => ?_
    refine lL.of (b := r5) h (by rfl) ?_
    exact clone_nil ⟨rfl, rfl, rfl, h.drop⟩
  refine CallsV.mono h2 ?_
  rintro y w ⟨_, _, _, rfl, rfl, rfl, rfl, h⟩
  refine ⟨_, _, _, rfl, ?_⟩
  refine array_Add_nil h fun a c w h => ?_
  obtain ⟨g, rest, rfl, ⟨h3, h4, h5⟩, h⟩ := Own.toBlk h (Own.len h).2
  refine stP.of (b := b) h (Nat.le_of_ble_eq_true rfl) fun w h => ?_
  exact k w (BxO.mk (a := g) (c := c) (rest := rest) (h.pull 1))
end
end Go.St

/- Contracts: sets of boxes: none, and one with one key. -/
namespace Go.St
open Go Go.Proofs
attribute [local irreducible] stP alP drP stCs lI64 lU64 lU8 lU16 lB lP lL lR lS AppV ClrV InvV DynV
def eEn : Enc (Int × Option Addr) := ⟨fun x => [.int .u64 x.1, .pointer x.2], 2, by decide, fun _ => rfl, fun x v h => by simp at h; rcases h with rfl | rfl <;> rfl⟩
/-- no boxes -/
def RoarE (t lim : Nat) : HP := ex fun (m : Nat) => seps [blk t [.pointer (some ⟨m, 0, none⟩), .slice none 0 0, .int .i64 0, .int .i64 lim], Mtr m ()]
/-- one box, with one number -/
def RoarO (t lim k : Nat) : HP := ex fun (m : Nat) => ex fun (e : Nat) => ex fun (c : Nat) => ex fun (b : Nat) => ex fun (rest : List Value) =>
  seps [blk t [.pointer (some ⟨m, 0, none⟩), .slice (some ⟨e, 0, none⟩) 1 c, .int .i64 2, .int .i64 lim], Mtr m (), blk e ([.int .u64 ((k / 65536 : Nat) : Int), .pointer (some ⟨b, 0, none⟩)] ++ rest), BxO b ((k % 65536 : Nat) : Int)]
section
variable {w : World} {M : List HP} {t lim k : Nat}
theorem RoarE.un (h : Sat w (RoarE t lim :: M)) : ∃ m, Sat w (blk t [.pointer (some ⟨m, 0, none⟩), .slice none 0 0, .int .i64 0, .int .i64 lim] :: Mtr m () :: M) := by
  obtain ⟨m, h⟩ := Sat.ex.1 h
  exact ⟨m, Sat.seps.1 h⟩
theorem RoarO.un (h : Sat w (RoarO t lim k :: M)) : ∃ m e c b rest, Sat w (blk t [.pointer (some ⟨m, 0, none⟩), .slice (some ⟨e, 0, none⟩) 1 c, .int .i64 2, .int .i64 lim] :: Mtr m () :: blk e ([.int .u64 ((k / 65536 : Nat) : Int), .pointer (some ⟨b, 0, none⟩)] ++ rest) :: BxO b ((k % 65536 : Nat) : Int) :: M) := by
  obtain ⟨m, h⟩ := Sat.ex.1 h; obtain ⟨e, h⟩ := Sat.ex.1 h; obtain ⟨c, h⟩ := Sat.ex.1 h; obtain ⟨b, h⟩ := Sat.ex.1 h; obtain ⟨r, h⟩ := Sat.ex.1 h
  exact ⟨m, e, c, b, r, Sat.seps.1 h⟩
theorem RoarO.mk {m e c b : Nat} {rest : List Value} (h : Sat w (blk t [.pointer (some ⟨m, 0, none⟩), .slice (some ⟨e, 0, none⟩) 1 c, .int .i64 2, .int .i64 lim] :: Mtr m () :: blk e ([.int .u64 ((k / 65536 : Nat) : Int), .pointer (some ⟨b, 0, none⟩)] ++ rest) :: BxO b ((k % 65536 : Nat) : Int) :: M)) : Sat w (RoarO t lim k :: M) :=
  Sat.ex.2 ⟨m, Sat.ex.2 ⟨e, Sat.ex.2 ⟨c, Sat.ex.2 ⟨b, Sat.ex.2 ⟨rest, Sat.seps.2 h⟩⟩⟩⟩⟩
theorem roar_New_spec {K : Option Addr → Int → World → Prop} (hl : lim ≤ 1048576) (h : Sat w M) (k : ∀ t w', Sat w' (RoarE t lim :: M) → K (some ⟨t, 0, none⟩) 0 w') : roar_New.C (lim : Int) w K := by
  apply roar_New.ok
  refine cond_f (decide_eq_false (by omega)) (cond_f (decide_eq_false (by omega)) ?_)
  refine count_New_spec h fun m w h => ?_
  refine alP.of h fun x w h => ?_
  exact k x w (Sat.ex.2 ⟨m, Sat.seps.2 h⟩)
theorem up_eq : shr .u64 (k : Int) 16 = ((k / 65536 : Nat) : Int) := shr_u64 (by decide)
theorem low_eq : wu16 (k : Int) = ((k % 65536 : Nat) : Int) := by rw [wu16_eq]; omega
theorem join_eq (hk : k < 18446744073709551616) : bOr .u64 (shl .u64 ((k / 65536 : Nat) : Int) 16) (wu64 ((k % 65536 : Nat) : Int)) = (k : Int) := by
  rw [shl_u64 (by decide), wu64_id (by omega) (by omega), Nat.mod_eq_of_lt (by omega), bOr_u64 (by omega) (by omega)]
  have h := Nat.two_pow_add_eq_or_of_lt (i := 16) (b := k % 65536) (by omega) (k / 65536)
  rw [Nat.mul_comm] at h
  rw [← h]
  omega
theorem entry_join_spec {p : Option Addr} {K : Int → World → Prop} (hk : k < 18446744073709551616) (h : Sat w M) (q : ∀ w', Sat w' M → K k w') : roar_entry_join.C ((k / 65536 : Nat) : Int) p ((k % 65536 : Nat) : Int) w K := by
  apply roar_entry_join.ok
  refine alP.of h fun r w h => ?_
  refine lU64.of (b := r) h (by rfl) ?_
  rw [join_eq hk]
  exact q _ h.drop
theorem roar_lay_first {b : Nat} {K : Int → World → Prop} (hl : 2 ≤ lim) (hl2 : lim ≤ 1048576) (h : Sat w (BxO b ((k % 65536 : Nat) : Int) :: RoarE t lim :: M)) (q : ∀ w', Sat w' (RoarO t lim k :: M) → K 0 w') : roar_Roar_lay.C (some ⟨t, 0, none⟩) 0 false ((k / 65536 : Nat) : Int) (some ⟨b, 0, none⟩) w K := by
  apply roar_Roar_lay.ok
  refine cond_f rfl ?_
  unfold roar_Roar_lay.T1
  refine box_Len_one h fun w h => ?_
  refine cond_t rfl ?_
  apply roar_cost.ok
  refine box_Cost_one h fun w h => ?_
  have e : w64 ((0 : Int) + w64 (1 + 1)) = 2 := by decide
  unfold roar_Roar_lay.T2
  dsimp only
  rw [e]
  refine drP.of h fun w h => ?_
  obtain ⟨m, h⟩ := RoarE.un (h.pull 1)
  refine lI64.of (b := t) h (by rfl) ?_
  refine lI64.of (b := t) h (by rfl) ?_
  have e2 : w64 ((0 : Int) + 2) = 2 := by decide
  rw [e2]
  refine cond_f (decide_eq_false (by omega)) ?_
  unfold roar_Roar_lay.T3
  refine cond_f rfl ?_
  unfold roar_Roar_lay.T4
  refine box_Len_one (h.pull 2) fun w h => ?_
  refine cond_t rfl ?_
  refine lL.of (b := t) h (by rfl) ?_
  refine alP.of h fun r w h => ?_
  apply slices_Replace_roar_entry_roar_entry.ok
  refine ⟨by omega, by omega, by omega, by omega, ?_⟩
  refine cond_t rfl ?_
  apply slices_Insert_roar_entry_roar_entry.ok
  refine ⟨by omega, by omega, ?_⟩
  refine cond_f rfl (cond_t rfl ?_)
  have hok : appOk prog #[330, 330] eEn.sz 16 = true := by kernel_rfl
  refine AppV.own (E := eEn) (a := none) (c := 0) (l := 0) (xs := []) (ys := [(((k / 65536 : Nat) : Int), some ⟨b, 0, none⟩)]) (Own.nil (E := eEn) h) hok (Reads.own (E := eEn) (ys := [(((k / 65536 : Nat) : Int), some ⟨b, 0, none⟩)]) (b := r) h (List.prefix_refl _)) rfl (by omega) (by decide) fun a c w h => ⟨_, _, _, rfl, ?_⟩
  obtain ⟨g, rest, rfl, ⟨h3, h4, h5⟩, h⟩ := Own.toBlk h (Own.len h).2
  refine stP.of (b := t) h (Nat.le_of_ble_eq_true rfl) fun w h => ?_
  refine lI64.of (b := t) h (by rfl) ?_
  rw [e2]
  refine stP.of (b := t) h (Nat.le_of_ble_eq_true rfl) fun w h => ?_
  refine q w (RoarO.mk (m := m) (e := g) (c := c) (b := b) (rest := rest) ?_)
  exact (((h.pull 3).pull 4).pull 1).sub (.cons_cons _ (.cons_cons _ (.cons_cons _ (.cons _ (.refl _)))))
theorem roar_start_none {K : Bool → World → Prop} (h : Sat w (RoarE t lim :: M)) (q : ∀ w', Sat w' (RoarE t lim :: M) → K false w') : roar_Roar_start.C (some ⟨t, 0, none⟩) w K := by
  apply roar_Roar_start.ok
  refine cond_f rfl ?_
  obtain ⟨m, h⟩ := RoarE.un h
  refine lP.of (b := t) h (by rfl) ?_
  refine count_Start_spec h fun w h => ?_
  refine lL.of (b := t) h (by rfl) ?_
  exact q w (Sat.ex.2 ⟨m, Sat.seps.2 h⟩)
theorem roar_start_one {K : Bool → World → Prop} (h : Sat w (RoarO t lim k :: M)) (q : ∀ w', Sat w' (RoarO t lim k :: M) → K true w') : roar_Roar_start.C (some ⟨t, 0, none⟩) w K := by
  apply roar_Roar_start.ok
  refine cond_f rfl ?_
  obtain ⟨m, e, c, b, r, h⟩ := RoarO.un h
  refine lP.of (b := t) h (by rfl) ?_
  refine count_Start_spec h fun w h => ?_
  refine lL.of (b := t) h (by rfl) ?_
  exact q w (RoarO.mk h)
theorem roar_find_none {u : Int} {K : Int → Bool → World → Prop} (h : Sat w (RoarE t lim :: M)) (q : ∀ w', Sat w' (RoarE t lim :: M) → K 0 false w') : roar_Roar_find.C (some ⟨t, 0, none⟩) u w K := by
  apply roar_Roar_find.ok
  refine drP.of h fun w h => ?_
  obtain ⟨m, h⟩ := RoarE.un h
  refine lL.of (b := t) h (by rfl) ?_
  show LoopT _ _ _
  refine LoopT.of (fun s w' => s = (0, 0) ∧ w' = w) (fun _ => 0) ⟨rfl, rfl⟩ ?_
  rintro _ _ ⟨rfl, rfl⟩
  unfold roar_Roar_find.B1
  dsimp only
  exact cond_f rfl (q _ (Sat.ex.2 ⟨m, Sat.seps.2 h⟩))
theorem roar_find_zero {K : Int → Bool → World → Prop} (h : Sat w (RoarO t lim k :: M)) (q : ∀ w', Sat w' (RoarO t lim k :: M) → K 0 (((k / 65536 : Nat) : Int) == 0) w') : roar_Roar_find.C (some ⟨t, 0, none⟩) 0 w K := by
  apply roar_Roar_find.ok
  refine drP.of h fun w h => ?_
  obtain ⟨m, e, c, b, r, h⟩ := RoarO.un h
  refine lL.of (b := t) h (by rfl) ?_
  show LoopT _ _ _
  refine LoopT.of (fun s w' => (s = (0, 1) ∨ (((((k / 65536 : Nat) : Int) == 0) = false) ∧ s = (0, 0))) ∧ Sat w' (blk t [.pointer (some ⟨m, 0, none⟩), .slice (some ⟨e, 0, none⟩) 1 c, .int .i64 2, .int .i64 lim] :: Mtr m () :: blk e ([.int .u64 ((k / 65536 : Nat) : Int), .pointer (some ⟨b, 0, none⟩)] ++ r) :: BxO b ((k % 65536 : Nat) : Int) :: M)) (fun s => s.2.toNat) ⟨.inl rfl, h⟩ ?_
  rintro _ w ⟨rfl | ⟨hz, rfl⟩, h⟩
  · unfold roar_Roar_find.B1
    dsimp only
    refine cond_t rfl ?_
    refine lP.of (b := t) h (by rfl) ?_
    refine count_Read_spec h fun w h => ?_
    refine lL.of (b := t) h (by rfl) ?_
    have e1 : w64 (Int.tdiv (w64 ((0 : Int) + 1)) 2) = 0 := by decide
    rw [e1]
    refine ⟨by omega, by omega, ?_⟩
    refine lU64.of (b := e) h (by rfl) ?_
    refine cond_c (fun hc => ?_) fun hc => ?_
    · rw [hc] at q; exact q _ (RoarO.mk h)
    · refine cond_f (decide_eq_false (by omega)) ?_
      exact ⟨⟨.inr ⟨hc, rfl⟩, h⟩, by decide⟩
  · unfold roar_Roar_find.B1
    dsimp only
    rw [hz] at q
    exact cond_f rfl (q _ (RoarO.mk h))
theorem roar_see_zero {K : Int → Option Addr → Bool → World → Prop} {m e c b : Nat} {r : List Value} (h : Sat w (blk t [.pointer (some ⟨m, 0, none⟩), .slice (some ⟨e, 0, none⟩) 1 c, .int .i64 2, .int .i64 lim] :: Mtr m () :: blk e ([.int .u64 ((k / 65536 : Nat) : Int), .pointer (some ⟨b, 0, none⟩)] ++ r) :: BxO b ((k % 65536 : Nat) : Int) :: M))
    (q : ∀ w', Sat w' (blk t [.pointer (some ⟨m, 0, none⟩), .slice (some ⟨e, 0, none⟩) 1 c, .int .i64 2, .int .i64 lim] :: Mtr m () :: blk e ([.int .u64 ((k / 65536 : Nat) : Int), .pointer (some ⟨b, 0, none⟩)] ++ r) :: BxO b ((k % 65536 : Nat) : Int) :: M) → K ((k / 65536 : Nat) : Int) (some ⟨b, 0, none⟩) true w') : roar_Roar_see.C (some ⟨t, 0, none⟩) 0 w K := by
  apply roar_Roar_see.ok
  refine alP.of h fun r3 w h => ?_
  refine cond_f rfl ?_
  refine lL.of (b := t) h (by rfl) ?_
  refine cond_f rfl ?_
  refine lP.of (b := t) h (by rfl) ?_
  refine count_Read_spec h fun w h => ?_
  refine lL.of (b := t) h (by rfl) ?_
  refine ⟨by omega, by omega, ?_⟩
  refine lAu64_p.of (b := e) h (by rfl) ?_
  refine stCs.of (b := r3) h (Nat.le_of_ble_eq_true rfl) (by simp [Value.oneCell']) fun w h => ?_
  refine lAu64_p.of (b := r3) h (by rfl) ?_
  exact q _ h.drop
theorem roar_Insert_first {K : Int → World → Prop} (hl : 2 ≤ lim) (hl2 : lim ≤ 1048576) (h : Sat w (RoarE t lim :: M)) (q : ∀ w', Sat w' (RoarO t lim k :: M) → K 0 w') : roar_Roar_Insert.C (some ⟨t, 0, none⟩) (k : Int) w K := by
  apply roar_Roar_Insert.ok
  refine cond_f rfl ?_
  apply roar_Roar_Has.ok
  refine roar_start_none h fun w h => ?_
  refine cond_t rfl (cond_f rfl ?_)
  apply roar_Roar_box.ok
  apply roar_upper.ok
  refine roar_find_none h fun w h => ?_
  refine cond_t rfl ?_
  apply box_New.ok
  refine alP.of h fun b w h => ?_
  apply roar_lower.ok
  unfold roar_lower.F
  rw [low_eq]
  refine box_Add_first h fun w h => ?_
  apply roar_upper.ok
  unfold roar_upper.F
  rw [up_eq]
  exact roar_lay_first hl hl2 h q
theorem roar_Next_zero {K : Int → Bool → World → Prop} (hk : k < 18446744073709551616) (h : Sat w (RoarO t lim k :: M)) (q : ∀ w', Sat w' (RoarO t lim k :: M) → K k true w') : roar_Roar_Next.C (some ⟨t, 0, none⟩) 0 w K := by
  apply roar_Roar_Next.ok
  refine roar_start_one h fun w h => ?_
  refine cond_f rfl ?_
  apply roar_upper.ok
  unfold roar_upper.F
  have e0 : shr .u64 (0 : Int) 16 = 0 := by decide
  rw [e0]
  refine roar_find_zero h fun w h => ?_
  obtain ⟨m, e, c, b, r, h⟩ := RoarO.un h
  refine cond_c (fun _ => ?_) fun _ => ?_
  · refine roar_see_zero h fun w h => ?_
    refine alP.of h fun r42 w h => ?_
    refine stCs.of (b := r42) h (Nat.le_of_ble_eq_true rfl) (by simp [Value.oneCell']) fun w h => ?_
    refine drP.of h fun w h => ?_
    refine lP.of (b := r42) h (by rfl) ?_
    apply roar_lower.ok
    unfold roar_lower.F
    have e1 : wu16 (0 : Int) = 0 := by decide
    rw [e1]
    refine ⟨Foc.cells inferInstance h (by rfl), ?_⟩
    refine box_Next_zero (by omega) (h.pull 4) fun w h => ?_
    refine cond_t rfl ?_
    refine lAu64_p.of (b := r42) h (by rfl) ?_
    refine entry_join_spec hk h fun w h => ?_
    refine q _ (RoarO.mk (m := m) (e := e) (c := c) (b := b) (rest := r) ?_)
    exact (((h.pull 4).pull 4).pull 4).sub (.cons_cons _ (.cons_cons _ (.cons_cons _ (.cons_cons _ (.cons _ (.refl _))))))
  · unfold roar_Roar_Next.T1
    refine roar_see_zero h fun w h => ?_
    refine alP.of h fun r30 w h => ?_
    refine stCs.of (b := r30) h (Nat.le_of_ble_eq_true rfl) (by simp [Value.oneCell']) fun w h => ?_
    refine cond_f rfl ?_
    refine lAu64_p.of (b := r30) h (by rfl) ?_
    apply roar_entry_ends.ok
    refine alP.of h fun r3 w h => ?_
    refine lP.of (b := r3) h (by rfl) ?_
    refine box_Next_zero (by omega) (h.pull 5) fun w h => ?_
    refine lP.of (b := r3) h (by rfl) ?_
    refine box_Prev_last (by omega) h fun w h => ?_
    refine drP.of h fun w h => ?_
    refine lAu64_p.of (b := r3) h (by rfl) ?_
    refine lAu64_p.of (b := r3) h (by rfl) ?_
    refine entry_join_spec hk h fun w h => ?_
    refine ⟨Foc.cells inferInstance h (by rfl), ?_⟩
    refine entry_join_spec hk h fun w h => ?_
    refine q _ (RoarO.mk (m := m) (e := e) (c := c) (b := b) (rest := r) ?_)
    exact (((h.pull 5).pull 5).pull 5).sub (.cons_cons _ (.cons_cons _ (.cons_cons _ (.cons_cons _ (.cons _ (.cons _ (.refl _)))))))
theorem roar_Len_one {K : Int → World → Prop} (h : Sat w (RoarO t lim k :: M)) (q : ∀ w', Sat w' (RoarO t lim k :: M) → K 1 w') : roar_Roar_Len.C (some ⟨t, 0, none⟩) w K := by
  apply roar_Roar_Len.ok
  refine cond_f rfl ?_
  obtain ⟨m, e, c, b, r, h⟩ := RoarO.un h
  refine lL.of (b := t) h (by rfl) ?_
  show LoopT _ _ _
  refine LoopT.of (fun s w' => (s = (0, 0) ∨ s = (1, 1)) ∧ Sat w' (blk t [.pointer (some ⟨m, 0, none⟩), .slice (some ⟨e, 0, none⟩) 1 c, .int .i64 2, .int .i64 lim] :: Mtr m () :: blk e ([.int .u64 ((k / 65536 : Nat) : Int), .pointer (some ⟨b, 0, none⟩)] ++ r) :: BxO b ((k % 65536 : Nat) : Int) :: M)) (fun s => 1 - s.2.toNat) ⟨.inl rfl, h⟩ ?_
  rintro _ w ⟨rfl | rfl, h⟩
  · unfold roar_Roar_Len.B1
    dsimp only
    refine cond_t rfl ?_
    refine ⟨by omega, by omega, ?_⟩
    refine lAu64_p.of (b := e) h (by rfl) ?_
    refine alP.of h fun r28 w h => ?_
    refine stCs.of (b := r28) h (Nat.le_of_ble_eq_true rfl) (by simp [Value.oneCell']) fun w h => ?_
    refine lP.of (b := r28) h (by rfl) ?_
    refine box_Len_one (h.pull 4) fun w h => ?_
    refine ⟨⟨.inr (by decide), ?_⟩, by decide⟩
    exact (((h.pull 4).pull 4).pull 4).sub (.cons_cons _ (.cons_cons _ (.cons_cons _ (.cons_cons _ (.cons _ (.refl _))))))
  · unfold roar_Roar_Len.B1
    dsimp only
    exact cond_f rfl (q _ (RoarO.mk h))
end
end Go.St

/- The shell's laws: a long text; the words. -/
namespace Go.St
open Go Go.Proofs Go.Lib
attribute [local irreducible] stP alP drP stCs lI64 lU64 lU8 lB lP lL lR lS AppV ClrV InvV DynV
def namesB : List (List UInt8) := namesL.map fun s => s.data.toList
def wordsL : List (List UInt8) := [97, 108, 108] :: namesB
def wantL : List (List UInt8) := namesB ++ [[97, 108, 108]]
abbrev srt (l : List (List UInt8)) : List (List UInt8) := l.mergeSort fun x y => decide (x ≤ y)
theorem srt_perm {x y : List (List UInt8)} (p : x.Perm y) : srt x = srt y := by
  have tr : ∀ a b c : List UInt8, decide (a ≤ b) = true → decide (b ≤ c) = true → decide (a ≤ c) = true := by
    intro a b c h1 h2
    rw [decide_eq_true_eq] at *
    exact List.le_trans h1 h2
  have tot : ∀ a b : List UInt8, (decide (a ≤ b) || decide (b ≤ a)) = true := by
    intro a b
    rcases List.le_total a b with h | h <;> simp [h]
  refine List.Perm.eq_of_pairwise (le := fun a b => decide (a ≤ b) = true) ?_ (List.pairwise_mergeSort tr tot _) (List.pairwise_mergeSort tr tot _) (((List.mergeSort_perm _ _).trans p).trans (List.mergeSort_perm _ _).symm)
  intro a b _ _ h1 h2
  rw [decide_eq_true_eq] at h1 h2
  exact List.le_antisymm h1 h2
theorem words_want : srt wordsL = srt wantL := srt_perm (List.perm_append_singleton _ _).symm
theorem str_rows (l : List (List UInt8)) : eStr.rows (l.map strB) = l.map fun x => .string (strB x) := by
  induction l with
  | nil => rfl
  | cons x l ih => rw [List.map_cons, Enc.rows, ih]; rfl
section
variable {w : World} {M : List HP} {D : HP}
theorem ref27_Names_spec {K : Option Addr → Nat → Nat → World → Prop} (h : Sat w M) (k : ∀ r w', Sat w' (blk r (wantL.map (fun x => .string (strB x)) ++ []) :: M) → K (some ⟨r, 0, none⟩) 25 25 w') : stepstoneref27_Names.C w K := by
  apply stepstoneref27_Names.ok
  refine alP.of h fun r w h => ?_
  exact k r w h
theorem shell_Words_spec {K : Option Addr → Nat → Nat → World → Prop} (h : Sat w M) (g : GN M) (k : ∀ r c rest w', Sat w' (blk r ((srt wordsL).map (fun x => .string (strB x)) ++ rest) :: M) → K (some ⟨r, 0, none⟩) 25 c w') : shell_Words.C w K := by
  apply shell_Words.ok
  refine alP.of h fun r1 w h => ?_
  unfold shell_Words.T1
  have hn : namesL.length = 24 := rfl
  refine LoopT.of (fun s w => ∃ (i : Nat) (a : Option Addr) (c : Nat), s = (a, i + 1, c, (i : Int)) ∧ i ≤ 24 ∧ Sat w (Own eStr a (i + 1, c, strB [97, 108, 108] :: namesL.take i) :: M)) (fun s => 24 - s.2.2.2.toNat) ⟨0, _, 1, rfl, by decide, Own.ofBlk (rest := []) ⟨rfl, Nat.le_refl _, rfl⟩ h⟩ ?_
  rintro s w ⟨i, a, c, rfl, hi, h⟩
  refine cond_c (fun hc => ?_) fun hc => ?_
  · have hc : i < 24 := by simp at hc; omega
    have e8 : wu8 (i : Int) = (i : Int) := by
      have : ∀ i : Nat, i < 24 → wu8 (i : Int) = (i : Int) := by decide +kernel
      exact this i hc
    rw [e8]
    refine play_Name_spec h.drop g (by omega) ?_
    have hx : namesL[i]? = some (namesL.getD i (⟨#[]⟩ : ByteArray)) := by
      rw [List.getD_eq_getElem?_getD, List.getElem?_eq_getElem (by omega)]; rfl
    have hok : appOk prog #[28, 28] eStr.sz 16 = true := by kernel_rfl
    refine alP.of h fun r w h => ?_
    refine AppV.own (E := eStr) (a := a) (c := c) (ys := [namesL.getD i (⟨#[]⟩ : ByteArray)]) h hok (Reads.own (E := eStr) (ys := [namesL.getD i (⟨#[]⟩ : ByteArray)]) (b := r) h (List.prefix_refl _)) rfl (by omega) (by decide) fun a2 c2 w h => ?_
    refine ⟨_, _, _, rfl, ?_⟩
    have e2 : (strB [97, 108, 108] :: namesL.take i) ++ [namesL.getD i (⟨#[]⟩ : ByteArray)] = strB [97, 108, 108] :: namesL.take (i + 1) := by
      rw [List.take_add_one, hx]; rfl
    have h := h.drop
    rw [e2] at h
    rw [w64_id (by omega) (by omega)]
    exact ⟨⟨i + 1, a2, c2, rfl, by omega, h⟩, by simp; omega⟩
  · have hc : 24 ≤ i := by simp at hc; omega
    obtain rfl : i = 24 := by omega
    obtain ⟨rest, ⟨hl, hlc, hrl⟩, ho⟩ := Own.un h
    cases a with
    | none =>
      have hc : c = 0 := (Sat.pur.1 ho).1
      omega
    | some ad =>
      obtain ⟨b, o, s0⟩ := ad
      obtain ⟨⟨e1, e2⟩, ho'⟩ := Sat.pur.1 (Sat.sep.1 ho)
      subst e1; subst e2
      have e3 : strB [97, 108, 108] :: namesL.take 24 = wordsL.map strB := by rfl
      rw [e3, str_rows] at ho'
      refine sort_spec (xs := wordsL) ho' (by decide) fun w h => ?_
      exact k _ _ _ _ h
theorem slices_Equal_same {xs : List (List UInt8)} {b b' c c' l : Nat} {rest rest' : List Value} {K : Bool → World → Prop} (hl : xs.length = l) (hlt : l < 2 ^ 40) (h : Sat w (blk b (xs.map (fun x => .string (strB x)) ++ rest) :: blk b' (xs.map (fun x => .string (strB x)) ++ rest') :: M))
    (k : ∀ w', Sat w' M → K true w') : slices_Equal_string_string.C (some ⟨b, 0, none⟩) l c (some ⟨b', 0, none⟩) l c' w K := by
  apply slices_Equal_string_string.ok
  unfold slices_Equal_string_string.F
  refine cond_f (by simp) ?_
  unfold slices_Equal_string_string.T1
  refine LoopT.of (fun s w => ∃ (i : Nat), s = (i : Int) ∧ i ≤ l ∧ Sat w (blk b (xs.map (fun x => .string (strB x)) ++ rest) :: blk b' (xs.map (fun x => .string (strB x)) ++ rest') :: M)) (fun s => l - s.toNat) ⟨0, rfl, Nat.zero_le _, h⟩ ?_
  rintro s w ⟨i, rfl, hi, h⟩
  refine cond_c (fun hc => ?_) fun hc => ?_
  · have hc : i < l := by simpa using hc
    have hx : ∀ r : List Value, (xs.map (fun x => Value.string (strB x)) ++ r)[0 + (i : Int).toNat * 1]? = some (.string (strB (xs.getD i []))) := by
      intro r
      have hc' : i < xs.length := by omega
      rw [show 0 + (i : Int).toNat * 1 = i by omega, List.getElem?_append_left (by simpa using hc'), List.getElem?_map, List.getElem?_eq_getElem hc', List.getD_eq_getElem?_getD, List.getElem?_eq_getElem hc']; rfl
    refine drP.of h fun w h => ?_
    refine ⟨by omega, by omega, ?_⟩
    refine lS.mk (n := strB (xs.getD i [])) (by rw [h.ld]; exact hx _) ?_
    refine ⟨by omega, by omega, ?_⟩
    refine lS.mk (n := strB (xs.getD i [])) (by rw [(h.pull 1).ld]; exact hx _) ?_
    refine cond_f (by rw [eq_lit]; rfl) ?_
    rw [w64_id (by omega) (by omega)]
    exact ⟨⟨i + 1, rfl, by omega, h⟩, by simp; omega⟩
  · exact k _ h.drop.drop
theorem run_zeros {m : Nat} {K : ByteArray → Int → World → Prop} (gD : ∀ w, Sat w [D] → GF w) (h : Sat w (D :: M)) (hm : 9 < m) (hm2 : m ≤ 20000) (q : ∀ w', Sat w' (D :: M) → K (strB (err12 ++ [10])) 0 w') : shell_Run.C (strB (List.replicate m 0)) w K := by
  obtain ⟨j, rfl⟩ : ∃ j, m = j + 1 := ⟨m - 1, by omega⟩
  have e0 : List.replicate (j + 1) (0 : UInt8) = 0 :: List.replicate j 0 := rfl
  refine run_spec (ws := [List.replicate (j + 1) 0]) (ys := [err12]) gD (fun p s _ => sp (blk p (Pc s 0 0)) (blk s nil8)) h (by simp) ?_ ?_ rfl ?_ (by decide +kernel) (fun p s w N h => Sat.sep.2 h) ?_ q
  · intro z hz
    simp only [List.getLast?, Option.some.injEq] at hz
    subst hz; rw [e0]; intro e; cases e
  · intro z hz
    rw [List.mem_singleton] at hz
    subst hz
    intro hm; have := List.eq_of_mem_replicate hm; exact absurd this (by decide)
  · show (List.replicate (j + 1) (0 : UInt8)).length ≤ 20000
    rw [List.length_replicate]; exact hm2
  intro p s i l y hl hy w N K h ga k
  match i, hl, hy with
  | 0, hl, hy =>
    cases hl; cases hy
    refine line_bad h (fun K' kk => ?_) k
    have hne : ∀ y : List UInt8, y.head? ≠ some 0 → List.replicate (j + 1) 0 ≠ y := by
      intro y hy e; rw [← e, e0] at hy; exact hy rfl
    have hno : ∀ j, j < 24 → (namesL.getD j ⟨#[]⟩).data.toList.head? ≠ some 0 := by decide +kernel
    refine read_none (x := List.replicate (j + 1) 0) h ga.cons (by rw [List.length_replicate]; omega) (fun hm => absurd (List.eq_of_mem_replicate hm) (by decide)) (hne _ (by decide)) ?_ ?_ fun a1 a2 a3 a7 a8 a12 a13 a14 a15 a16 w h => kk _ _ _ _ _ _ _ _ _ _ w h
    · intro i hi e
      refine hne _ (hno i hi) ?_
      rw [e]; rfl
    · intro y hy
      refine hne _ ?_
      have : ∀ y ∈ special, y.head? ≠ some 0 := by decide +kernel
      exact this y hy
theorem law27_ShellLong_spec {n : Nat} {K : Bool → World → Prop} (gD : ∀ w, Sat w [D] → GF w) (h : Sat w (D :: M)) (hn : n < 256) (q : ∀ w', Sat w' (D :: M) → K true w') : stepstonelaw27_ShellLong.C (n : Int) w K := by
  have gA : ∀ L, GA (D :: L) := fun L w h => gD w (h.sub (.cons_cons _ (List.nil_sublist _)))
  apply stepstonelaw27_ShellLong.ok
  unfold stepstonelaw27_ShellLong.F
  obtain ⟨m, hm1, hm2, em⟩ : ∃ m : Nat, 19997 ≤ m ∧ m ≤ 20003 ∧ w64 ((19997 : Int) + w64 (Int.tmod (n : Int) 7)) = (m : Int) := by
    refine ⟨19997 + n % 7, by omega, by omega, ?_⟩
    have e1 : Int.tmod (n : Int) 7 = ((n % 7 : Nat) : Int) := by
      rw [Int.tmod_eq_emod_of_nonneg (by omega)]; rfl
    rw [e1, w64_id (x := ((n % 7 : Nat) : Int)) (by omega) (by omega), w64_id (by omega) (by omega)]
    omega
  rw [em]
  refine law27_awake_spec gD h fun w h => ?_
  refine cond_f rfl ?_
  rw [w64_id (x := (m : Int)) (by omega) (by omega)]
  refine ⟨⟨by omega, by omega, by omega⟩, ?_⟩
  rw [Int.toNat_natCast]
  refine alP.of h fun r w h => ?_
  have ez : (zrow #[(.int .u8 (0 : Int))] (m * 1)).toList = eB.rows (List.replicate m 0) := zrow_rows (E := eB) (z := 0) _ rfl
  rw [ez] at h
  have hcv := run_convert_bytes_back (P := prog) w 24 9 5 ⟨r, 0, none⟩ m (List.replicate m 0) (by kernel_rfl) (by kernel_rfl) (by kernel_rfl) (fun j hj => by
    rw [addr_add, h.ld]
    have hj' : j < m := by simpa using hj
    rw [Enc.rows_rep_get (E := eB) (0 : UInt8) m (0 + j) (by show 0 + j < m * 1; omega)]
    simp [eB, Nat.mod_one])
  rw [List.length_replicate] at hcv
  unfold CnvV runV
  rw [hcv]
  refine ⟨_, rfl, ?_⟩
  have rest : ∀ (s : ByteArray) (e : Int) (w : World), Sat w (D :: blk r (eB.rows (List.replicate m 0)) :: M) → (if 20000 < m then s = strB [] ∧ e = 1 else s = strB (err12 ++ [10]) ∧ e = 0) → stepstoneref27_Names.C w fun a12 l13 c14 W15 =>
      slices_Sort_string_string.C a12 l13 c14 W15 fun W16 =>
      shell_Words.C W16 fun a17 l18 c19 W20 =>
      slices_Equal_string_string.C a17 l18 c19 a12 l13 c14 W20 fun q21 W22 =>
      cond (!q21)
      (K false W22)
      (cond (decide ((m : Int) > (20000 : Int)))
      (cond (e == (1 : Int))
      (K (s.toList == (⟨#[]⟩ : ByteArray).toList) W22)
      (K false W22))
      (cond (e == (0 : Int))
      (K (s.toList == (⟨#[101, 114, 114, 111, 114, 32, 49, 50, 10]⟩ : ByteArray).toList) W22)
      (K false W22))) := by
    intro s e w h hse
    refine ref27_Names_spec h fun r1 w h => ?_
    refine sort_spec (xs := wantL) h (by decide) fun w h => ?_
    refine shell_Words_spec h (gA _).cons.gn fun r2 c rest w h => ?_
    rw [words_want] at h
    refine slices_Equal_same (xs := srt wantL) (by simp [srt]; rfl) (by decide) h fun w h => ?_
    refine cond_f rfl ?_
    have h := h.sub (.cons_cons _ (.cons _ (.refl _)))
    refine cond_c (fun hc => ?_) fun hc => ?_
    · have hc : 20000 < m := by simp at hc; omega
      rw [if_pos hc] at hse
      obtain ⟨rfl, rfl⟩ := hse
      refine cond_t rfl ?_
      have e : ((strB []).toList == (⟨#[]⟩ : ByteArray).toList) = true := eq_lit
      rw [e]
      exact q _ h
    · have hc : ¬ 20000 < m := by simp at hc; omega
      rw [if_neg hc] at hse
      obtain ⟨rfl, rfl⟩ := hse
      refine cond_t rfl ?_
      have e : ((strB (err12 ++ [10])).toList == (⟨#[101, 114, 114, 111, 114, 32, 49, 50, 10]⟩ : ByteArray).toList) = true := eq_lit
      rw [e]
      exact q _ h
  by_cases hc : 20000 < m
  · refine run_long (by show 20000 < (List.replicate m (0 : UInt8)).length; rw [List.length_replicate]; exact hc) ?_
    exact rest _ _ _ (h.pull 1) (by rw [if_pos hc]; exact ⟨rfl, rfl⟩)
  · refine run_zeros gD (h.pull 1) (by omega) (by omega) fun w h => ?_
    exact rest _ _ _ h (by rw [if_neg hc]; exact ⟨rfl, rfl⟩)
end
end Go.St

