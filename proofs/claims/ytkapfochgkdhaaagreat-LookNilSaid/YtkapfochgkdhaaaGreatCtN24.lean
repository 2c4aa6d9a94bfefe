/- The law of nil sets and cursors. -/
import Derived.Test.YtkapfochgkdhaaaGreatCtL
import Derived.Test.YtkapfochgkdhaaaGreatCtR
import Derived.Test.YtkapfochgkdhaaaGreatF0
namespace Go.St
open Go Go.Proofs
attribute [local irreducible] stP alP drP stCs lI64 lU64 lU8 lB lP lL lR AppV ClrV InvV
section
variable {w : World} {M : List HP}
theorem law24_lay_spec {a : Option Addr} {l c : Nat} {xs : List Nat} {K : Option Addr → Option Addr → World → Prop} (h : Sat w M) (rd : Rdb eK M a l xs) (hl : l ≤ 12) (hx : ∀ k ∈ xs, k < 18446744073709551616)
    (q : ∀ x r w', Sat w' (KeptR x (⟨1, keysOf xs, 100000⟩, 0) :: M) → K (some ⟨x, 0, none⟩) r w') : stepstonelaw24_lay.C 0 1 a l c w K := by
  apply stepstonelaw24_lay.ok
  refine r1_Words_spec (n := 50) h rd (by omega) (by omega) fun a1 c1 w h => ?_
  have hlen := (rd _ h.drop).2
  rw [List.take_of_length_le (by omega)] at h ⊢
  refine face_Build_spec (tag := 1) (D0 := Own eK a1 (xs.length, c1, xs)) h Rdb.own rfl (by omega) hx (fun h0 => absurd h0 (by omega)) (fun h0 => ?_) fun _ _ x w h => ?_
  · exfalso
    have h1 : (keysOf xs).length ≤ xs.length := asc_keysOf.nodup.length_le_of_subset fun k hk => mem_keysOf.1 hk
    have h0 : 100000 < 5 * (keysOf xs).length := h0
    omega
  · refine look_Keep_spec h fun x w h => ?_
    refine r11_Of_spec (xs := xs) (M := KeptR x (⟨1, keysOf xs, 100000⟩, 0) :: Own eK a1 (xs.length, c1, xs) :: M) h Rdb.own.cons (by omega) fun a2 c2 w h => ?_
    refine alP.of h fun r w h => ?_
    exact q x _ w ((h.drop.drop.pull 1).drop)
theorem law24_awake_spec {K : Bool → World → Prop} (h : Sat w M) (q : ∀ w', Sat w' M → K true w') : stepstonelaw24_awake.C w K := by
  apply stepstonelaw24_awake.ok
  refine alP.of h fun r w h => ?_
  have rd : Rdb eK (blk r [.int .u64 1, .int .u64 5, .int .u64 9] :: M) (some ⟨r, 0, none⟩) 3 [1, 5, 9] := fun w h => ⟨Reads.own (E := eK) h (List.prefix_refl _), rfl⟩
  refine law24_lay_spec (xs := [1, 5, 9]) h rd (by omega) (by decide) fun x y w h => ?_
  have e1 : keysOf [1, 5, 9] = [1, 5, 9] := by decide
  rw [e1] at h
  refine cond_f rfl ?_
  refine look_Open_spec (lo := 2) (hi := 9) h (fun h0 => absurd h0 (by omega)) fun _ c w h => ?_
  have sm : ∀ {M : List HP}, TbOr M (Sml ⟨1, [1, 5, 9], 100000⟩) := .inr (by show 3 ≤ 4; omega)
  refine look_Next_spec h sm ⟨by decide, by decide, by decide⟩ (fun h0 => absurd rfl h0) fun _ w h => ?_
  have e2 : cNext [1, 5, 9] ⟨0, 2, 9, 2, false⟩ = (⟨0, 2, 9, 6, false⟩, some 5) := rfl
  simp only [e2] at h ⊢
  refine look_Next_spec h sm ⟨by decide, by decide, by decide⟩ (fun h0 => absurd rfl h0) fun _ w h => ?_
  have e3 : cNext [1, 5, 9] ⟨0, 2, 9, 6, false⟩ = (⟨0, 2, 9, 9, true⟩, some 9) := rfl
  simp only [e3] at h ⊢
  refine look_Next_spec h sm ⟨by decide, by decide, by decide⟩ (fun h0 => absurd rfl h0) fun _ w h => ?_
  have e4 : cNext [1, 5, 9] ⟨0, 2, 9, 9, true⟩ = (⟨0, 2, 9, 9, true⟩, none) := rfl
  simp only [e4] at h ⊢
  refine look_Prev_spec h sm ⟨by decide, by decide, by decide⟩ (fun h0 => absurd rfl h0) fun _ w h => ?_
  have e5 : cPrev [1, 5, 9] ⟨0, 2, 9, 9, true⟩ = (⟨0, 2, 9, 9, false⟩, some 9) := rfl
  simp only [e5] at h ⊢
  refine look_Insert_spec (k := 7) (h.pull 1) (by omega) (by omega) (fun h0 => absurd h0 (by decide)) (fun _ h0 => absurd h0 (by decide)) fun _ w h => ?_
  refine look_Next_spec (h.pull 1) (.inr (by show 4 ≤ 4; omega)) ⟨by decide, by decide, by decide⟩ (fun _ w h => ?_) fun h0 => absurd h0 (by decide)
  exact q _ h.drop.drop.drop
/-- nothing is told by a nil cursor -/
theorem look_Rest_nil {K : Value → World → Prop} (h : Sat w M) (k : ∀ v Rg w', (∀ D, Tells prog D v encN [] Rg) → Sat w' (Rg ++ M) → K v w') : look_Cursor_Rest.C none w K := by
  apply look_Cursor_Rest.ok
  refine alP.of h fun r w h => ?_
  refine k _ [blk r [.pointer none]] w (fun D => ?_) h
  refine ⟨187, _, rfl, by kernel_rfl, ?_⟩
  intro y J Z w K L0 hy h0 h hk
  refine look_Cursor_Rest_1.ok (x1 := y) (b2 := r) (o3 := 0) (K := K) ?_ |> fun z => z.mono fun v w1 h => h.2
  refine lP.of h (by rfl) ?_
  apply look_Cursor_Next.ok
  apply look_Cursor_may.ok
  refine cond_t rfl ?_
  refine cond_t rfl ?_
  show LoopT _ _ _
  refine LoopT.of (fun s w => s = ((0 : Int), (3 : Int)) ∧ Sat w (D :: ([blk r [.pointer none]] ++ L0))) (fun _ => 0) ⟨rfl, h⟩ ?_
  rintro s w ⟨rfl, h⟩
  exact hk w L0 (.inl h0) h
theorem law24_restOf_nil {K : Option Addr → Nat → Nat → World → Prop} (h : Sat w M) (k : ∀ w', Sat w' M → K none 0 0 w') : stepstonelaw24_restOf.C none 9 w K := by
  apply stepstonelaw24_restOf.ok
  refine alP.of h fun r3 w h => ?_
  refine alP.of h fun r5 w h => ?_
  refine look_Rest_nil h fun v Rg w hv h => ?_
  unfold stepstonelaw24_restOf.T1
  refine rfT.of (D0 := emp) (fun k : Nat => (k : Int)) (fun _ => rfl) (hv _) (fun i L => L = blk r5 [.slice none 0 0] :: blk r3 [.int .i64 9] :: M) (fun _ => False) (fun _ => False) rfl (Sat.emp.2 h) ?_ ?_ ?_ ?_
  · rintro i s _ W bg k A A' hi
    simp at hi
  · rintro D W _ rfl h
    refine lL.of h (by rfl) ?_
    obtain ⟨e, h⟩ := Sat.dfr h (.deferred none)
    refine ⟨e, ?_⟩
    exact k _ (h.sub (.cons _ ((List.Sublist.cons _ (List.Sublist.cons _ (List.Sublist.refl M))).trans (List.sublist_append_right Rg _))))
  · rintro D W _ hf; exact hf.elim
  · rintro D W _ hf; exact hf.elim
theorem law24_LookNil_spec {k m : Int} {K : Bool → World → Prop} (h : Sat w M) (q : ∀ w', Sat w' M → K true w') : stepstonelaw24_LookNil.C k m w K := by
  apply stepstonelaw24_LookNil.ok
  refine law24_awake_spec h fun w h => ?_
  refine cond_f rfl ?_
  refine look_Keep_nil ?_
  apply look_Kept_Open.ok
  refine cond_t rfl ?_
  have nx : ∀ {w : World} {K : Int → Int → World → Prop}, K 0 3 w → look_Cursor_Next.C none w K := fun {w K} k => by
    apply look_Cursor_Next.ok
    apply look_Cursor_may.ok
    exact k
  refine nx ?_
  apply look_Cursor_Prev.ok
  apply look_Cursor_may.ok
  refine cond_t rfl ?_
  refine cond_t rfl ?_
  apply look_Cursor_Seek.ok
  apply look_Cursor_may.ok
  refine cond_t rfl ?_
  refine cond_t rfl ?_
  apply look_Kept_Wipe.ok
  refine cond_t rfl ?_
  apply look_Kept_Clear.ok
  refine cond_f rfl ?_
  apply look_Kept_Swap.ok
  refine cond_t rfl ?_
  refine cond_t rfl (cond_t rfl (cond_t rfl (cond_t rfl (cond_t rfl (cond_t rfl ?_)))))
  apply look_Kept_Insert.ok
  refine cond_t rfl (cond_t rfl ?_)
  apply look_Kept_Delete.ok
  refine cond_t rfl (cond_t rfl ?_)
  apply look_Kept_Version.ok
  refine cond_t rfl (cond_t rfl ?_)
  apply look_Cursor_Stale.ok
  refine drP.of h fun w h => ?_
  refine cond_t rfl (cond_t rfl ?_)
  refine law24_restOf_nil h fun w h => ?_
  exact q w h
/-- the whole: what there was stays -/
theorem law24_LookNil_walk {k m : Int} {w : World} : CallsV prog 11 #[.int .u64 k, .int .u64 m] w fun v w' => v = .bool true ∧ RelW w w' ∧ ∀ (b : Nat) (o : Obj), w.heap[b]? = some o → w'.heap[b]? = some o := by
  refine (law24_LookNil_spec (K := fun b w' => b = true ∧ RelW w w' ∧ ∀ (b : Nat) (o : Obj), w.heap[b]? = some o → w'.heap[b]? = some o) (k := k) (m := m) (Sat.start w) fun w' h => ⟨rfl, h.end⟩) |> fun z => z.mono ?_
  rintro v w1 ⟨b, rfl, rfl, h⟩
  exact ⟨rfl, h⟩
end
end Go.St
