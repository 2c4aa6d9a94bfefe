import Derived.Test.YtcipamclhpcaaaaGreatDoorStV
import Derived.Test.YtcipamclhpcaaaaGreatDoorForms0
import Derived.Test.YtcipamclhpcaaaaGreatDoorForms1
import Derived.Test.YtcipamclhpcaaaaGreatDoorStW
import Derived.Laws.MathBits
import Derived.KernelRfl
import Derived.Test.YtcipamclhpcaaaaGreatDoorStX
set_option linter.unusedVariables false
set_option linter.unusedSimpArgs false
/- Contracts: pools, the plain part. -/
namespace Go.St
open Go

structure Pl (T : Type) where
  m : Nat
  f : Nat → Option T
  n : Nat
  lim : Nat
def Pl.up {T : Type} (f : Nat → Option T) (i : Nat) (o : Option T) : Nat → Option T := fun j => if j = i then o else f j
def Pl.at {T : Type} (s : Pl T) (i : Int) : Option T := if 0 ≤ i then s.f i.toNat else none
/-- the cells and the free places of a pool -/
structure PlOk {T : Type} (s : Pl T) (cs : List (T × Bool)) (fr : List Nat) : Prop where
  f : ∀ i, s.f i = match cs[i]? with
    | some (v, true) => some v
    | _ => none
  nd : fr.Nodup
  mem : ∀ i, i ∈ fr ↔ ∃ v, cs[i]? = some (v, false)
  len : cs.length = s.n + fr.length
  lim : cs.length ≤ s.lim
  cap : s.lim ≤ 1048576
section
variable {T : Type} {s : Pl T} {cs : List (T × Bool)} {fr : List Nat}
theorem PlOk.le (h : PlOk s cs fr) : s.n ≤ s.lim := by have := h.len; have := h.lim; omega
theorem PlOk.get (h : PlOk s cs fr) {i : Nat} {v : T} (e : s.f i = some v) : cs[i]? = some (v, true) := by
  rw [h.f] at e
  split at e
  · rename_i h1; cases e; exact h1
  · cases e
theorem PlOk.lt (h : PlOk s cs fr) {i : Nat} {v : T} (e : s.f i = some v) : i < cs.length := (List.getElem?_eq_some_iff.1 (h.get e)).1
theorem PlOk.no (h : PlOk s cs fr) {i : Nat} (e : s.f i = none) (hi : i < cs.length) : ∃ v, cs[i]? = some (v, false) := by
  rw [h.f] at e
  have : cs[i]? = some cs[i] := List.getElem?_eq_getElem hi
  rw [this] at e
  rw [this]
  generalize cs[i] = x at e
  obtain ⟨v, b⟩ := x
  cases b
  · exact ⟨v, rfl⟩
  · cases e
theorem PlOk.new (m lim : Nat) (h : lim ≤ 1048576) : PlOk (T := T) ⟨m, fun _ => none, 0, lim⟩ [] [] :=
  ⟨fun i => by simp, List.nodup_nil, fun i => by simp, rfl, Nat.zero_le _, h⟩
theorem PlOk.put (h : PlOk s cs fr) {i : Nat} {v u : T} (e : s.f i = some u) : PlOk ⟨s.m, Pl.up s.f i (some v), s.n, s.lim⟩ (cs.set i (v, true)) fr := by
  have hi := h.lt e
  have hg := h.get e
  refine ⟨fun j => ?_, h.nd, fun j => ?_, by simpa using h.len, by simpa using h.lim, h.cap⟩
  · simp only [Pl.up, List.getElem?_set]
    by_cases hj : j = i
    · subst hj; simp [hi]
    · rw [if_neg hj, if_neg (Ne.symm hj)]; exact h.f j
  · rw [h.mem, List.getElem?_set]
    by_cases hj : i = j
    · subst hj
      have hg' : cs[i] = (u, true) := by rw [List.getElem?_eq_getElem hi] at hg; exact Option.some.inj hg
      simp [hi, hg']
    · rw [if_neg hj]
theorem PlOk.free (h : PlOk s cs fr) {i : Nat} {v u : T} (e : s.f i = some u) : PlOk ⟨s.m, Pl.up s.f i none, s.n - 1, s.lim⟩ (cs.set i (v, false)) (fr ++ [i]) := by
  have hi := h.lt e
  have hg := h.get e
  have hni : i ∉ fr := fun hm => by
    obtain ⟨v, hv⟩ := (h.mem i).1 hm
    rw [hg] at hv; cases hv
  have hn : 0 < s.n := by
    -- the places that are not free
    have h1 := h.len
    have hsub : (i :: fr).length ≤ cs.length := by
      have hs : (i :: fr) ⊆ List.range cs.length := fun j hj => by
        rw [List.mem_range]
        rcases List.mem_cons.1 hj with rfl | hj
        · exact hi
        · obtain ⟨v, hv⟩ := (h.mem j).1 hj
          exact (List.getElem?_eq_some_iff.1 hv).1
      have := (List.nodup_cons.2 ⟨hni, h.nd⟩).length_le_of_subset hs
      simpa using this
    simp at hsub; omega
  refine ⟨fun j => ?_, ?_, fun j => ?_, by have := h.len; simp; omega, by simpa using h.lim, h.cap⟩
  · simp only [Pl.up, List.getElem?_set]
    by_cases hj : j = i
    · subst hj; simp [hi]
    · rw [if_neg hj, if_neg (Ne.symm hj)]; exact h.f j
  · rw [List.nodup_append]
    exact ⟨h.nd, by simp, fun a ha b hb => by simp at hb; subst hb; rintro rfl; exact hni ha⟩
  · rw [List.mem_append, h.mem, List.getElem?_set]
    by_cases hj : i = j
    · subst hj; simp [hi]
    · rw [if_neg hj]; simp [Ne.symm hj]
theorem PlOk.pop {i : Nat} (h : PlOk s cs (fr ++ [i])) (v : T) : s.f i = none ∧ i < cs.length ∧ PlOk ⟨s.m, Pl.up s.f i (some v), s.n + 1, s.lim⟩ (cs.set i (v, true)) fr := by
  obtain ⟨u, hu⟩ := (h.mem i).1 (by simp)
  have hi := (List.getElem?_eq_some_iff.1 hu).1
  have hnd := List.nodup_append.1 h.nd
  have hni : i ∉ fr := fun hm => hnd.2.2 i hm i (by simp) rfl
  refine ⟨by rw [h.f, hu], hi, fun j => ?_, hnd.1, fun j => ?_, by have := h.len; simp at this ⊢; omega, by simpa using h.lim, h.cap⟩
  · simp only [Pl.up, List.getElem?_set]
    by_cases hj : j = i
    · subst hj; simp [hi]
    · rw [if_neg hj, if_neg (Ne.symm hj)]; exact h.f j
  · rw [List.getElem?_set]
    by_cases hj : i = j
    · subst hj; simp [hi, hni]
    · rw [if_neg hj, ← h.mem]; simp [Ne.symm hj]
theorem PlOk.push (h : PlOk s cs []) (hn : s.n < s.lim) (v : T) : s.f cs.length = none ∧ PlOk ⟨s.m, Pl.up s.f cs.length (some v), s.n + 1, s.lim⟩ (cs ++ [(v, true)]) [] := by
  have hl := h.len
  refine ⟨by rw [h.f]; simp, fun j => ?_, List.nodup_nil, fun j => ?_, by simp at hl ⊢; omega, by simp at hl ⊢; omega, h.cap⟩
  · simp only [Pl.up]
    by_cases hj : j = cs.length
    · subst hj; simp
    · rw [if_neg hj, h.f]
      rcases Nat.lt_or_ge j cs.length with h1 | h1
      · rw [List.getElem?_append_left h1]
      · rw [List.getElem?_eq_none h1, List.getElem?_eq_none (by simp; omega)]
  · rw [h.mem]
    rcases Nat.lt_or_ge j cs.length with h1 | h1
    · rw [List.getElem?_append_left h1]
    · rw [List.getElem?_eq_none h1, List.getElem?_append_right h1]
      cases hk : j - cs.length <;> simp
end

def eNat : Enc Nat := ⟨fun n => [.int .i64 (n : Int)], 1, by decide, fun _ => rfl, fun _ v h => by simp at h; subst h; rfl⟩
/-- a pool in memory, without its meter -/
def PoolR {T : Type} (E : Enc T) (p : Nat) (s : Pl T) : HP :=
  ex fun (cs : List (T × Bool)) => ex fun (fr : List Nat) => ex fun (c : Sli) => ex fun (f : Sli) =>
    sp (pur (PlOk s cs fr)) (sp (blk p [.pointer (some ⟨s.m, 0, none⟩), .slice c.1 c.2.1 c.2.2, .slice f.1 f.2.1 f.2.2, .int .i64 (s.n : Int), .int .i64 (s.lim : Int)]) (sp (Own E.flag c.1 (c.2.1, c.2.2, cs)) (Own eNat f.1 (f.2.1, f.2.2, fr))))
section
variable {T : Type} {E : Enc T} {p : Nat} {s : Pl T} {w : World} {M : List HP}
theorem PoolR.un (h : Sat w (PoolR E p s :: M)) : ∃ cs fr ca cl cc fa fl fc, PlOk s cs fr ∧
    Sat w (blk p [.pointer (some ⟨s.m, 0, none⟩), .slice ca cl cc, .slice fa fl fc, .int .i64 (s.n : Int), .int .i64 (s.lim : Int)] :: Own E.flag ca (cl, cc, cs) :: Own eNat fa (fl, fc, fr) :: M) := by
  obtain ⟨cs, h⟩ := Sat.ex.1 h; obtain ⟨fr, h⟩ := Sat.ex.1 h; obtain ⟨⟨ca, cl, cc⟩, h⟩ := Sat.ex.1 h; obtain ⟨⟨fa, fl, fc⟩, h⟩ := Sat.ex.1 h
  obtain ⟨hp, h⟩ := Sat.pur.1 (Sat.sep.1 h)
  have h := (Sat.sep.1 h).pull 1
  have h := ((Sat.sep.1 h).pull 2)
  exact ⟨cs, fr, ca, cl, cc, fa, fl, fc, hp, h⟩
theorem PoolR.mk {cs : List (T × Bool)} {fr : List Nat} {ca fa : Option Addr} {cl cc fl fc : Nat} (hp : PlOk s cs fr)
    (h : Sat w (blk p [.pointer (some ⟨s.m, 0, none⟩), .slice ca cl cc, .slice fa fl fc, .int .i64 (s.n : Int), .int .i64 (s.lim : Int)] :: Own E.flag ca (cl, cc, cs) :: Own eNat fa (fl, fc, fr) :: M)) : Sat w (PoolR E p s :: M) := by
  refine Sat.ex.2 ⟨cs, Sat.ex.2 ⟨fr, Sat.ex.2 ⟨(ca, cl, cc), Sat.ex.2 ⟨(fa, fl, fc), Sat.sep.2 (Sat.pur.2 ⟨hp, Sat.sep.2 ?_⟩)⟩⟩⟩⟩
  have h := h.pull 1
  have h := h.pull 2
  simp only [pullL] at h
  -- [fr, cs, blk]
  have h1 := (h.pull 1)
  simp only [pullL] at h1
  have h2 := Sat.sep.2 h1
  exact h2.pull 1
end
end Go.St

/- Contracts: steps are counted. -/
namespace Go.St
open Go Go.Proofs
attribute [local irreducible] stP alP drP stCs lI64 lU64 lB lP lL lR

def Mtr (m : Nat) (_ : Unit) : HP := ex fun (a : Int) => ex fun (b : Int) => ex fun (c : Int) => ex fun (d : Int) => ex fun (e : Int) =>
  blk m [.int .i64 a, .int .i64 b, .int .i64 c, .int .i64 d, .int .i64 e]
theorem Mtr.mk {w : World} {m : Nat} {a b c d e : Int} {L : List HP} (h : Sat w (blk m [.int .i64 a, .int .i64 b, .int .i64 c, .int .i64 d, .int .i64 e] :: L)) : Sat w (Mtr m () :: L) :=
  Sat.ex.2 ⟨a, Sat.ex.2 ⟨b, Sat.ex.2 ⟨c, Sat.ex.2 ⟨d, Sat.ex.2 ⟨e, h⟩⟩⟩⟩⟩
theorem Mtr.un {w : World} {m : Nat} {L : List HP} (h : Sat w (Mtr m () :: L)) : ∃ a b c d e, Sat w (blk m [.int .i64 a, .int .i64 b, .int .i64 c, .int .i64 d, .int .i64 e] :: L) := by
  obtain ⟨a, h⟩ := Sat.ex.1 h; obtain ⟨b, h⟩ := Sat.ex.1 h; obtain ⟨c, h⟩ := Sat.ex.1 h; obtain ⟨d, h⟩ := Sat.ex.1 h; obtain ⟨e, h⟩ := Sat.ex.1 h
  exact ⟨a, b, c, d, e, h⟩

theorem count_New_spec {w : World} {L : List HP} {K : Option Addr → World → Prop} (h : Sat w L) (k : ∀ m w', Sat w' (Mtr m () :: L) → K (some ⟨m, 0, none⟩) w') : count_New.C w K := by
  apply count_New.ok
  refine alP.of h fun r w h => ?_
  exact k _ _ (Mtr.mk h)
section
variable {w : World} {L : List HP} {m : Nat} {F : HP → List HP} [i : Foc Mtr m () L F] {K : World → Prop}
include i
theorem count_Start_spec (h : Sat w L) (k : ∀ w', Sat w' L → K w') : count_Meter_Start.C (some ⟨m, 0, none⟩) w K := by
  apply count_Meter_Start.ok
  obtain ⟨M, h, hb, _⟩ := i.back h
  obtain ⟨a, b, c, d, e, h⟩ := Mtr.un h
  refine stP.of h (by simp) fun w h => ?_
  refine lI64.of h (by rfl) ?_
  refine stP.of h (by simp) fun w h => ?_
  exact k _ (hb (Mtr.mk h))
theorem count_step_spec (h : Sat w L) (k : ∀ w', Sat w' L → K w') : count_Meter_step.C (some ⟨m, 0, none⟩) w K := by
  apply count_Meter_step.ok
  obtain ⟨M, h, hb, _⟩ := i.back h
  obtain ⟨a, b, c, d, e, h⟩ := Mtr.un h
  repeat' first
    | refine lI64.of h (by rfl) ?_
    | (refine stP.of h (by simp) ?_; intro w h)
    | (refine drP.of h ?_; intro w h)
  exact k _ (hb (Mtr.mk h))
theorem count_Read_spec (h : Sat w L) (k : ∀ w', Sat w' L → K w') : count_Meter_Read.C (some ⟨m, 0, none⟩) w K := by
  apply count_Meter_Read.ok
  obtain ⟨M, h, hb, _⟩ := i.back h
  obtain ⟨a, b, c, d, e, h⟩ := Mtr.un h
  refine lI64.of h (by rfl) ?_
  refine stP.of h (by simp) fun w h => ?_
  exact count_step_spec (Mtr.mk h) fun w h => k _ (hb h)
end
end Go.St

/- Contracts: pools. (printed by pool.py) -/
namespace Go.St
open Go Go.Proofs
attribute [local irreducible] stP alP drP stCs lI64 lU64 lB lP lL lR AppV ClrV
/-! pools of TNd -/
structure TNd where
  bits : Int
  kidsa : Option Addr
  kidsl : Nat
  kidsc : Nat
  n : Int
  mn : Int
  mx : Int
def eTNd : Enc TNd := ⟨fun x => [.int .u64 x.bits, .slice x.kidsa x.kidsl x.kidsc, .int .i64 x.n, .int .u64 x.mn, .int .u64 x.mx], 5, by decide, fun _ => rfl, fun x v h => by
  simp only [List.mem_cons, List.not_mem_nil, or_false] at h
  rcases h with rfl | rfl | rfl | rfl | rfl <;> rfl⟩
def TNd.zero : TNd := ⟨0, none, 0, 0, 0, 0, 0⟩
section
variable {w : World} {L : List HP} {p : Nat} {s : Pl TNd} {F : HP → List HP} [i : Foc (PoolR eTNd) p s L F]
include i
theorem pool_Pool_trie_node_Live_spec {n : Int} {K : Bool → World → Prop} (h : Sat w L) (k : K (s.at n).isSome w) : pool_Pool_trie_node_Live.C (some ⟨p, 0, none⟩) n w K := by
  apply pool_Pool_trie_node_Live.ok
  obtain ⟨M, h, hb, _⟩ := i.back h
  obtain ⟨cs, fr, ca, cl, cc, fa, fl, fc, hp, h⟩ := PoolR.un h
  have hlen := (Own.len (h.pull 1)).1
  refine cond_t rfl ?_
  refine cond_c (fun h0 => ?_) fun h0 => ?_
  · refine lL.of h (by rfl) ?_
    refine cond_c (fun h1 => ?_) fun h1 => ?_
    · simp only [decide_eq_true_eq, ge_iff_le] at h0 h1
      refine lL.of h (by rfl) ?_
      have hlt : n.toNat < cs.length := by omega
      obtain ⟨b, rfl, _, hj⟩ := Own.get (E := eTNd.flag) (a := ca) (l := cl) (c := cc) h (List.getElem?_eq_getElem hlt)
      refine ⟨h0, by omega, ?_⟩
      have hs : s.at n = s.f n.toNat := by simp [Pl.at, h0]
      rw [hs, hp.f, List.getElem?_eq_getElem hlt] at k
      have hj := hj 5 (by decide)
      generalize cs[n.toNat] = c at k hj
      obtain ⟨v, b⟩ := c
      refine lB.mk (n := b) (by rw [show 0 + n.toNat * 6 + 5 = n.toNat * eTNd.flag.sz + 5 by simp [Enc.flag, eTNd], hj]; rfl) ?_
      cases b <;> exact k
    · simp only [decide_eq_false_iff_not] at h1
      have h0' : 0 ≤ n := by simpa using h0
      have hs : s.at n = none := by
        simp only [Pl.at, h0', if_true]; rw [hp.f, List.getElem?_eq_none (by omega)]
      rw [hs] at k; exact k
  · have hs : s.at n = none := by unfold Pl.at; rw [if_neg (by simpa using h0)]
    rw [hs] at k; exact k
theorem pool_Pool_trie_node_Room_spec {n : Int} {K : Bool → World → Prop} (h : Sat w L) (k : ∀ w', Sat w' L → K (decide (n ≤ ((s.lim : Int) - (s.n : Int)))) w') : pool_Pool_trie_node_Room.C (some ⟨p, 0, none⟩) n w K := by
  apply pool_Pool_trie_node_Room.ok
  refine drP.of h fun w h => ?_
  obtain ⟨M, h, hb, _⟩ := i.back h
  obtain ⟨cs, fr, ca, cl, cc, fa, fl, fc, hp, h⟩ := PoolR.un h
  refine lI64.of h (by rfl) ?_
  refine lI64.of h (by rfl) ?_
  have := hp.le; have := hp.cap
  rw [w64_id (by omega) (by omega)]
  exact k _ (hb (PoolR.mk hp h))
theorem pool_Pool_trie_node_Peek_spec {n : Int} {K : Int → Option Addr → Nat → Nat → Int → Int → Int → Bool → World → Prop} (h : Sat w L) (k : ∀ w', Sat w' L → (fun x : TNd => K x.bits x.kidsa x.kidsl x.kidsc x.n x.mn x.mx (s.at n).isSome w') ((s.at n).getD TNd.zero)) : pool_Pool_trie_node_Peek.C (some ⟨p, 0, none⟩) n w K := by
  apply pool_Pool_trie_node_Peek.ok
  obtain ⟨M, h, hb, _⟩ := i.back h
  refine alP.of h fun r w h => ?_
  refine pool_Pool_trie_node_Live_spec h ?_
  refine cond_c (fun h0 => ?_) fun h0 => ?_
  · have hs : s.at n = none := by simpa using h0
    rw [hs] at k
    refine alP.of h fun r2 w h => ?_
    refine lAu64_l_i64_u64_u64.of h (by rfl) ?_
    refine stCs.of h (Nat.le_of_ble_eq_true rfl) (by simp [Value.oneCell']) fun w h => ?_
    refine lAu64_l_i64_u64_u64.of h (by rfl) ?_
    exact k _ (hb (h.drop.drop))
  · obtain ⟨x, hx⟩ : ∃ x, s.at n = some x := by
      cases e : s.at n with
      | none => rw [e] at h0; simp at h0
      | some x => exact ⟨x, rfl⟩
    rw [hx] at k
    have h00 : 0 ≤ n := by
      unfold Pl.at at hx; split at hx
      · assumption
      · cases hx
    have hf : s.f n.toNat = some x := by simpa [Pl.at, h00] using hx
    obtain ⟨cs, fr, ca, cl, cc, fa, fl, fc, hp, h⟩ := PoolR.un (h.pull 1)
    refine lL.of h (by rfl) ?_
    have hg := hp.get hf
    have hlen := (Own.len (h.pull 1)).1
    have hlt := hp.lt hf
    obtain ⟨b, rfl, _, hj⟩ := Own.cells (E := eTNd.flag) (a := ca) (l := cl) (c := cc) h hg
    refine ⟨h00, by omega, ?_⟩
    refine lAu64_l_i64_u64_u64.mk (by rw [show 0 + n.toNat * 6 = n.toNat * eTNd.flag.sz + 0 by simp [Enc.flag, eTNd]]; exact hj 0 _ rfl) ?_
    refine stCs.of h (Nat.le_of_ble_eq_true rfl) (by simp [Value.oneCell']) fun w h => ?_
    refine lAu64_l_i64_u64_u64.of h (by rfl) ?_
    exact k _ (hb ((PoolR.mk hp h).pull 1).drop)
theorem pool_Pool_trie_node_At_spec {m : Nat} (hm : s.m = m) {G : HP → List HP} [j : Foc Mtr m () (F emp) G] {n : Int} {K : Int → Option Addr → Nat → Nat → Int → Int → Int → Bool → World → Prop} (h : Sat w L) (k : ∀ w', Sat w' L → (fun x : TNd => K x.bits x.kidsa x.kidsl x.kidsc x.n x.mn x.mx (s.at n).isSome w') ((s.at n).getD TNd.zero)) : pool_Pool_trie_node_At.C (some ⟨p, 0, none⟩) n w K := by
  apply pool_Pool_trie_node_At.ok
  obtain ⟨M, h, hb, _⟩ := Foc.op2 (i := i) (j := j) h
  refine alP.of h fun r w h => ?_
  refine pool_Pool_trie_node_Peek_spec h fun w h => ?_
  refine alP.of h fun r2 w h => ?_
  refine stCs.of h (Nat.le_of_ble_eq_true rfl) (by simp [Value.oneCell']) fun w h => ?_
  refine cond_c (fun h0 => ?_) fun h0 => ?_
  · have hmp : ∃ cs : List Value, cs[0]? = some (.pointer (some ⟨m, 0, none⟩)) ∧ w.cell? ⟨p, 0, none⟩ = cs[0]? := by
      obtain ⟨cs, fr, ca, cl, cc, fa, fl, fc, hp, h⟩ := PoolR.un (h.pull 2)
      exact ⟨_, by rw [← hm]; rfl, h.ld 0⟩
    obtain ⟨_, e1, e2⟩ := hmp
    refine lP.mk (e2.trans e1) ?_
    refine count_Read_spec h fun w h => ?_
    refine lAu64_l_i64_u64_u64.of h (by rfl) ?_
    refine stCs.of h (Nat.le_of_ble_eq_true rfl) (by simp [Value.oneCell']) fun w h => ?_
    refine lAu64_l_i64_u64_u64.of h (by rfl) ?_
    exact k _ (hb h.drop.drop)
  · refine lAu64_l_i64_u64_u64.of h (by rfl) ?_
    refine stCs.of h (Nat.le_of_ble_eq_true rfl) (by simp [Value.oneCell']) fun w h => ?_
    refine lAu64_l_i64_u64_u64.of h (by rfl) ?_
    exact k _ (hb h.drop.drop)
theorem pool_Pool_trie_node_Alloc_spec {x : TNd} {K : Int → Bool → World → Prop} (h : Sat w L) (k0 : s.lim ≤ s.n → ∀ w', Sat w' L → K 0 false w')
    (k1 : s.n < s.lim → ∀ (n : Nat) w', s.f n = none → n < 1048576 → Sat w' (F (PoolR eTNd p ⟨s.m, Pl.up s.f n (some x), s.n + 1, s.lim⟩)) → K n true w') : pool_Pool_trie_node_Alloc.C (some ⟨p, 0, none⟩) x.bits x.kidsa x.kidsl x.kidsc x.n x.mn x.mx w K := by
  apply pool_Pool_trie_node_Alloc.ok
  obtain ⟨M, h, hb, hc⟩ := i.back h
  refine alP.of h fun r w h => ?_
  refine pool_Pool_trie_node_Room_spec h fun w h => ?_
  refine cond_c (fun h0 => ?_) fun h0 => ?_
  · simp at h0
    exact k0 (by omega) _ (hb h.drop)
  · simp at h0
    have hn : s.n < s.lim := by omega
    obtain ⟨cs, fr, ca, cl, cc, fa, fl, fc, hp, h⟩ := PoolR.un (h.pull 1)
    have hlim := hp.lim; have hcap := hp.cap; have hpl := hp.len
    have hlen := (Own.len (h.pull 1)).1
    have hfl := (Own.len (h.pull 2)).1
    refine lI64.of h (by rfl) ?_
    refine stP.of h (by simp) fun w h => ?_
    refine lAu64_l_i64_u64_u64.of h (by rfl) ?_
    refine alP.of h fun r2 w h => ?_
    refine stCs.of h (Nat.le_of_ble_eq_true rfl) (by simp [Value.oneCell']) fun w h => ?_
    refine lL.of h (by rfl) ?_
    refine cond_c (fun h1 => ?_) fun h1 => ?_
    · simp only [gt_iff_lt, decide_eq_true_eq] at h1
      have hw : w64 ((fl : Int) - 1) = ((fl - 1 : Nat) : Int) := by rw [w64_id (by omega) (by omega)]; omega
      rw [hw]
      obtain ⟨fs, n, rfl⟩ : ∃ fs n, fr = fs ++ [n] := by
        rcases List.eq_nil_or_concat fr with rfl | ⟨a, b, e⟩
        · simp at hfl; omega
        · exact ⟨a, b, by simpa using e⟩
      have hfl' : fs.length = fl - 1 := by simp at hfl; omega
      refine lL.of h (by rfl) ?_
      obtain ⟨b, rfl, _, hj⟩ := Own.get (E := eNat) (a := fa) (l := fl) (c := fc) (n := fl - 1) (x := n) h (by rw [← hfl']; simp)
      refine ⟨by omega, by omega, ?_⟩
      have hj := hj 0 (by decide)
      refine lI64.mk (n := (n : Int)) (by rw [show 0 + ((fl - 1 : Nat) : Int).toNat * 1 = (fl - 1) * eNat.sz + 0 by simp [eNat], hj]; rfl) ?_
      refine lL.of h (by rfl) ?_
      have hfc := (Own.len (h.pull 3)).2
      refine ⟨by omega, by omega, ?_⟩
      obtain ⟨hnone, hni, hpop⟩ := hp.pop x
      refine stP.of h (by simp) fun w h => ?_
      refine drP.of h fun w h => ?_
      refine lL.of h (by rfl) ?_
      refine lAu64_l_i64_u64_u64_b.of h (by rfl) ?_
      obtain ⟨b2, rfl, _, _⟩ := Own.get (E := eTNd.flag) (a := ca) (l := cl) (c := cc) h (List.getElem?_eq_getElem hni)
      refine ⟨by omega, by omega, ?_⟩
      have he : 0 + ((n : Nat) : Int).toNat * 6 = n * eTNd.flag.sz + 0 := by simp [Enc.flag, eTNd]
      rw [he]
      refine Own.stCs (E := eTNd.flag) (y := (x, true)) h (List.getElem?_eq_getElem hni) (Nat.le_of_ble_eq_true rfl) (by simp [Value.oneCell']) rfl fun w h => ?_
      have h := h.drop
      have h := Sat.perm h (.refl _)
      refine k1 hn n _ hnone (by omega) (hc ?_)
      rw [w64_id (by omega) (by omega)] at h
      have h2 := h.pull 2
      simp only [pullL] at h2
      obtain ⟨b3, rest, e3, hq, h2⟩ := Own.toBlk h2 (by omega)
      cases e3
      have h2 := Own.ofBlk (E := eNat) (b := b) (xs := fs) (l := fl - 1) (c := fc) (rest := eNat.e n ++ rest) (by
        refine ⟨hfl', by omega, ?_⟩
        rw [List.length_append, hq.2.2, eNat.len]
        simp only [eNat]; omega) (by rw [Enc.rows_app] at h2; simpa [Enc.rows] using h2)
      have h3 := h2.pull 2
      have h3 := (h3.pull 2)
      simp only [pullL] at h3
      have h4 := PoolR.mk (s := ⟨s.m, Pl.up s.f n (some x), s.n + 1, s.lim⟩) (p := p) hpop (by
        simpa [slA_zero, slA_some] using h3)
      exact (h4.pull 1).drop
    · simp only [gt_iff_lt, decide_eq_false_iff_not] at h1
      have hf0 : fl = 0 := by omega
      have hfr : fr = [] := List.eq_nil_of_length_eq_zero (by omega)
      subst hfr
      refine drP.of h fun w h => ?_
      refine lL.of h (by rfl) ?_
      refine lAu64_l_i64_u64_u64_b.of h (by rfl) ?_
      refine alP.of h fun r3 w h => ?_
      refine ⟨Foc.cells inferInstance h (by rfl), ?_⟩
      obtain ⟨hnone, hpush⟩ := hp.push hn x
      have hok : appOk prog #[383, 383] eTNd.flag.sz 64 = true := by kernel_rfl
      have hsrc : Reads eTNd.flag w (some ⟨r3, 0, none⟩) [(x, true)] := Reads.own h (List.prefix_refl _)
      refine AppV.own (E := eTNd.flag) h hok hsrc rfl (by omega) (by decide) fun ca' cc' w h => ?_
      refine ⟨_, _, _, rfl, ?_⟩
      refine stP.of h (by simp) fun w h => ?_
      refine lL.of h (by rfl) ?_
      rw [w64_id (by omega) (by omega), show ((cl + 1 : Nat) : Int) - 1 = ((cs.length : Nat) : Int) by omega]
      refine k1 hn _ _ hnone (by omega) (hc ?_)
      rw [w64_id (by omega) (by omega)] at h
      have h4 := PoolR.mk (s := ⟨s.m, Pl.up s.f cs.length (some x), s.n + 1, s.lim⟩) (p := p) hpush h.drop.drop
      exact (h4.pull 1).drop
end
theorem pool_New_trie_node_spec {w : World} {L : List HP} {m : Nat} {n : Int} {K : Option Addr → Int → World → Prop} (h : Sat w L) (k0 : ¬ (0 ≤ n ∧ n ≤ 1048576) → K none 1 w)
    (k1 : 0 ≤ n → n ≤ 1048576 → ∀ p w', Sat w' (PoolR eTNd p ⟨m, fun _ => none, 0, n.toNat⟩ :: L) → K (some ⟨p, 0, none⟩) 0 w') : pool_New_trie_node.C (some ⟨m, 0, none⟩) n w K := by
  apply pool_New_trie_node.ok
  refine cond_c (fun h0 => ?_) fun h0 => ?_
  · simp at h0; exact k0 (by omega)
  refine cond_c (fun h1 => ?_) fun h1 => ?_
  · simp at h1; exact k0 (by omega)
  simp at h0 h1
  refine cond_f rfl ?_
  refine alP.of h fun r w h => ?_
  refine k1 h0 h1 r _ ?_
  refine PoolR.mk (s := ⟨m, fun _ => none, 0, n.toNat⟩) (PlOk.new m n.toNat (by omega)) (ca := none) (cl := 0) (cc := 0) (fa := none) (fl := 0) (fc := 0) ?_
  have h := Own.nil (E := eTNd.flag) (Own.nil (E := eNat) h)
  have h := (h.pull 2)
  simpa [pullL, show ((n.toNat : Nat) : Int) = n by omega] using h

end Go.St

/- Contracts: bits, the plain part. -/
namespace Go.St
open Go

theorem wrap_nat {k : IntKind} {n : Nat} (hk : k.signed = false) (h : n < 2 ^ k.bits) : k.wrap (n : Int) = (n : Int) := by
  unfold IntKind.wrap
  simp only [hk, Bool.false_and, Bool.false_eq_true, if_false]
  rw [Int.emod_eq_of_lt (by omega) (by exact_mod_cast h)]
theorem bAnd_u64 {x y : Nat} (hx : x < 18446744073709551616) (hy : y < 18446744073709551616) : bAnd .u64 (x : Int) (y : Int) = ((x &&& y : Nat) : Int) := by
  show IntKind.u64.wrap (((BitVec.ofInt 64 (x : Int) &&& BitVec.ofInt 64 (y : Int)).toNat : Nat) : Int) = _
  simp only [BitVec.ofInt_natCast, BitVec.toNat_and, BitVec.toNat_ofNat]
  rw [Nat.mod_eq_of_lt hx, Nat.mod_eq_of_lt hy]
  exact wrap_nat rfl (Nat.lt_of_le_of_lt Nat.and_le_left hx)
theorem bOr_u64 {x y : Nat} (hx : x < 18446744073709551616) (hy : y < 18446744073709551616) : bOr .u64 (x : Int) (y : Int) = ((x ||| y : Nat) : Int) := by
  show IntKind.u64.wrap (((BitVec.ofInt 64 (x : Int) ||| BitVec.ofInt 64 (y : Int)).toNat : Nat) : Int) = _
  simp only [BitVec.ofInt_natCast, BitVec.toNat_or, BitVec.toNat_ofNat]
  rw [Nat.mod_eq_of_lt hx, Nat.mod_eq_of_lt hy]
  exact wrap_nat rfl (Nat.or_lt_two_pow (n := 64) hx hy)
theorem wu64_rng (x : Int) : 0 ≤ wu64 x ∧ wu64 x < 18446744073709551616 := by rw [wu64_eq]; omega
theorem fdiv_nat (x m : Nat) : ((x : Int)).fdiv (2 ^ m) = ((x / 2 ^ m : Nat) : Int) := by
  rw [Int.fdiv_eq_ediv_of_nonneg _ (by exact_mod_cast Nat.zero_le _)]
  exact_mod_cast rfl
theorem shr_u64 {x m : Nat} (hm : m ≤ 64) : shr .u64 (x : Int) m = ((x / 2 ^ m : Nat) : Int) := by
  unfold shr; rw [show min m IntKind.u64.bits = m from Nat.min_eq_left hm, fdiv_nat]
theorem shl_u64 {x m : Nat} (hm : m ≤ 64) : shl .u64 (x : Int) m = ((x * 2 ^ m % 18446744073709551616 : Nat) : Int) := by
  unfold shl
  rw [show min m IntKind.u64.bits = m from Nat.min_eq_left hm]
  show wu64 ((x : Int) * 2 ^ m) = _
  rw [wu64_eq]
  have : ((x * 2 ^ m : Nat) : Int) = (x : Int) * 2 ^ m := by rw [Int.natCast_mul]; congr 1
  rw [← this]; omega
/-- a mask of the low bits is a rest -/
theorem bAnd_mask {a : Int} {j : Nat} (hj : j ≤ 62) : bAnd .i64 a ((2 : Int) ^ j - 1) = a % 2 ^ j := by
  show IntKind.i64.wrap (((BitVec.ofInt 64 a &&& BitVec.ofInt 64 ((2 : Int) ^ j - 1)).toNat : Nat) : Int) = _
  have hp : (2 : Nat) ^ j ≤ 2 ^ 62 := Nat.pow_le_pow_right (by decide) hj
  have hp0 := Nat.two_pow_pos j
  have e1 : ((2 : Int) ^ j - 1) = (((2 ^ j - 1 : Nat)) : Int) := by
    have : ((2 ^ j : Nat) : Int) = (2 : Int) ^ j := by exact_mod_cast rfl
    omega
  rw [e1]
  simp only [BitVec.ofInt_natCast, BitVec.toNat_and, BitVec.toNat_ofNat, BitVec.toNat_ofInt]
  rw [Nat.mod_eq_of_lt (show 2 ^ j - 1 < 2 ^ 64 by omega), Nat.and_two_pow_sub_one_eq_mod]
  have e2 : ((((a % (2 ^ 64 : Nat)).toNat % 2 ^ j : Nat)) : Int) = a % 2 ^ j := by
    have h0 : 0 ≤ a % ((2 ^ 64 : Nat) : Int) := Int.emod_nonneg _ (by decide)
    rw [Int.natCast_emod, Int.toNat_of_nonneg h0]
    have hd : ((2 ^ j : Nat) : Int) ∣ ((2 ^ 64 : Nat) : Int) := by
      exact_mod_cast Nat.pow_dvd_pow 2 (by omega)
    rw [Int.emod_emod_of_dvd _ hd]
    exact_mod_cast rfl
  rw [e2]
  have h1 : 0 ≤ a % 2 ^ j := Int.emod_nonneg _ (by have : (0 : Int) < 2 ^ j := by exact_mod_cast hp0
                                                   omega)
  have h2 : a % 2 ^ j < 2 ^ j := Int.emod_lt_of_pos _ (by exact_mod_cast hp0)
  have h3 : (2 : Int) ^ j ≤ 4611686018427387904 := by
    have : ((2 ^ j : Nat) : Int) ≤ ((2 ^ 62 : Nat) : Int) := by exact_mod_cast hp
    have h4 : ((2 ^ j : Nat) : Int) = (2 : Int) ^ j := by exact_mod_cast rfl
    rw [h4] at this; simpa using this
  exact w64_id (by omega) (by omega)
end Go.St

/- Contracts: tables, the plain part: places in a ring; keys stand at their home or behind it with no gap between. -/
namespace Go.St
open Go

structure Ent where
  lev : Int
  pre : Int
  v : Int
  full : Bool
def nx (L i d : Nat) : Nat := if i + d < L then i + d else i + d - L
def ds (L a i : Nat) : Nat := if a ≤ i then i - a else i + L - a
theorem nx_ds {L a i : Nat} (ha : a < L) (hi : i < L) : nx L a (ds L a i) = i := by unfold nx ds; (repeat' split) <;> omega
/-- is a place full? -/
def fl (A : List Ent) (i : Nat) : Bool := match A[i]? with
  | some e => e.full
  | none => false
def isK (A : List Ent) (i : Nat) (l p : Int) : Prop := ∃ e, A[i]? = some e ∧ e.lev = l ∧ e.pre = p
structure Ring (h : Int → Int → Nat) (L : Nat) (A : List Ent) : Prop where
  len : A.length = L
  hom : ∀ l p, h l p < L
  path : ∀ i e, A[i]? = some e → e.full = true → ∀ d, d < ds L (h e.lev e.pre) i → fl A (nx L (h e.lev e.pre) d) = true
  uniq : ∀ i j l p, fl A i = true → fl A j = true → isK A i l p → isK A j l p → i = j
/-- what a ring says of keys -/
def Says (f : Int → Int → Option Int) (A : List Ent) : Prop :=
  ∀ l p v, f l p = some v ↔ ∃ i : Nat, ∃ e : Ent, A[i]? = some e ∧ e.full = true ∧ e.lev = l ∧ e.pre = p ∧ e.v = v
/-- where the search for a key ends -/
structure Found (h : Int → Int → Nat) (L : Nat) (A : List Ent) (l p : Int) (i : Nat) : Prop where
  lt : i < L
  way : ∀ d, d < ds L (h l p) i → fl A (nx L (h l p) d) = true ∧ ¬ isK A (nx L (h l p) d) l p
  is : fl A i = true → isK A i l p

theorem fl_of {A : List Ent} {i : Nat} {e : Ent} (h : A[i]? = some e) : fl A i = e.full := by unfold fl; rw [h]
section
variable {h : Int → Int → Nat} {L : Nat} {A : List Ent} {f : Int → Int → Option Int} {l p : Int} {i : Nat}
theorem Found.some (hr : Ring h L A) (hs : Says f A) (hf : Found h L A l p i) (hb : fl A i = true) : ∃ e, A[i]? = some e ∧ e.full = true ∧ e.lev = l ∧ e.pre = p ∧ f l p = some e.v := by
  obtain ⟨e, he, h1, h2⟩ := hf.is hb
  refine ⟨e, he, by rw [fl_of he] at hb; exact hb, h1, h2, (hs l p e.v).2 ⟨i, e, he, by rw [fl_of he] at hb; exact hb, h1, h2, rfl⟩⟩
theorem Found.none (hr : Ring h L A) (hs : Says f A) (hf : Found h L A l p i) (hb : fl A i = false) : f l p = none := by
  cases e : f l p with
  | none => rfl
  | some v =>
    exfalso
    obtain ⟨j, x, hx, hfull, h1, h2, _⟩ := (hs l p v).1 e
    have hj : j < L := by rw [← hr.len]; exact (List.getElem?_eq_some_iff.1 hx).1
    have hh := hr.hom l p
    have hp := hr.path j x hx hfull
    rw [h1, h2] at hp
    rcases Nat.lt_trichotomy (ds L (h l p) j) (ds L (h l p) i) with hlt | heq | hgt
    · have := (hf.way _ hlt).2
      rw [nx_ds hh hj] at this
      exact this ⟨x, hx, h1, h2⟩
    · have : j = i := by rw [← nx_ds hh hj, heq, nx_ds hh hf.lt]
      subst this
      rw [fl_of hx, hfull] at hb; cases hb
    · have := hp _ hgt
      rw [nx_ds hh hf.lt, hb] at this; cases this
def Tb.up (f : Int → Int → Option Int) (l p : Int) (o : Option Int) : Int → Int → Option Int := fun a b => if a = l ∧ b = p then o else f a b
/-! ### taking out -/
/-- a ring with a hole, where the search for what may move into it has come to place i -/
structure Hole (h : Int → Int → Nat) (L : Nat) (A : List Ent) (o i : Nat) : Prop where
  len : A.length = L
  hom : ∀ l p, h l p < L
  ho : o < L
  hi : i < L
  /-- between the hole and i all is full -/
  run : ∀ d, 0 < d → d < ds L o i → fl A (nx L o d) = true
  fo : fl A o = true
  ne : o ≠ i
  path : ∀ j e, j ≠ o → A[j]? = some e → e.full = true → ∀ d, d < ds L (h e.lev e.pre) j → fl A (nx L (h e.lev e.pre) d) = true ∧
    (nx L (h e.lev e.pre) d = o → ds L o i ≤ ds L o j)
  uniq : ∀ a b l p, a ≠ o → b ≠ o → fl A a = true → fl A b = true → isK A a l p → isK A b l p → a = b
end

/-! ### how many are full -/
def cnt (A : List Ent) : Nat := A.countP (·.full)
theorem ex_empty {A : List Ent} (h : cnt A < A.length) : ∃ e, e < A.length ∧ fl A e = false := by
  by_cases hx : ∃ e, e < A.length ∧ fl A e = false
  · exact hx
  · exfalso
    have hall : ∀ x ∈ A, x.full = true := fun x hm => by
      obtain ⟨i, hi, rfl⟩ := List.mem_iff_getElem.1 hm
      cases hf : (A[i]).full with
      | true => rfl
      | false => exact absurd ⟨i, hi, by rw [fl_of (List.getElem?_eq_getElem hi), hf]⟩ hx
    have : cnt A = A.length := List.countP_eq_length.2 hall
    omega
theorem cnt_rep (n : Nat) (z : Ent) (hz : z.full = false) : cnt (List.replicate n z) = 0 := by
  unfold cnt; rw [List.countP_eq_zero]
  intro x hx; rw [(List.mem_replicate.1 hx).2, hz]; simp
theorem fl_rep (n : Nat) (z : Ent) (hz : z.full = false) (i : Nat) : fl (List.replicate n z) i = false := by
  unfold fl
  split
  · rename_i e he
    have := (List.mem_replicate.1 (List.mem_of_getElem? he)).2
    rw [this, hz]
  · rfl
theorem ring_rep {h : Int → Int → Nat} {L : Nat} (hom : ∀ l p, h l p < L) {z : Ent} (hz : z.full = false) : Ring h L (List.replicate L z) ∧ Says (fun _ _ => none) (List.replicate L z) := by
  refine ⟨⟨by simp, hom, ?_, ?_⟩, ?_⟩
  · intro i e he hf
    have := fl_rep L z hz i
    rw [fl_of he, hf] at this; cases this
  · intro i j l p h1
    rw [fl_rep L z hz i] at h1; cases h1
  · intro l p v
    constructor
    · intro h; cases h
    · rintro ⟨i, e, he, hf, _⟩
      have := fl_rep L z hz i
      rw [fl_of he, hf] at this; cases this
end Go.St

/- Contracts: tables. -/
namespace Go.St
open Go Go.Proofs
attribute [local irreducible] stP alP drP stCs lI64 lU64 lU8 lB lP lL lR AppV ClrV

def rotl (x k : Int) : Int := bOr .u64 (shl .u64 x (bAnd .u64 (wu64 k) 63).toNat) (shr .u64 x (wu64 (64 - bAnd .u64 (wu64 k) 63)).toNat)
theorem shP_of {b : Int} {K : Nat → Prop} (h : 0 ≤ b) (k : K b.toNat) : shP b K := by
  cases b with
  | ofNat n => exact k
  | negSucc n => exact absurd h (by simp)
def oddF (seed turn : Int) : Int := bOr .u64 (rotl (wu64 (wu64 (seed * 11400714819323198485) + 15111065706836454659)) turn) 1
def mixF (seed l p : Int) : Int :=
  let x := wu64 (wu64 (p * oddF seed 0) + wu64 (wu64 l * oddF seed 23))
  wu64 (bXor .u64 x (shr .u64 x 29) * oddF seed 41)
def homeN (seed : Int) (j : Nat) (l p : Int) : Nat := (mixF seed l p).toNat / 2 ^ (64 - j)
theorem homeN_lt {seed l p : Int} {j : Nat} (hj : j ≤ 64) : homeN seed j l p < 2 ^ j := by
  unfold homeN
  have h := wu64_rng (bXor .u64 (wu64 (wu64 (p * oddF seed 0) + wu64 (wu64 l * oddF seed 23))) (shr .u64 (wu64 (wu64 (p * oddF seed 0) + wu64 (wu64 l * oddF seed 23))) 29) * oddF seed 41)
  rw [Nat.div_lt_iff_lt_mul (Nat.two_pow_pos _), ← Nat.pow_add, show j + (64 - j) = 64 by omega]
  unfold mixF
  simp only
  omega

def eEnt : Enc Ent := ⟨fun x => [.int .u8 x.lev, .int .u64 x.pre, .int .u64 x.v, .bool x.full], 4, by decide, fun _ => rfl, fun x v h => by
  simp only [List.mem_cons, List.not_mem_nil, or_false] at h
  rcases h with rfl | rfl | rfl | rfl <;> rfl⟩
def zEnt : Ent := ⟨0, 0, 0, false⟩
/-- a table's own block -/
abbrev tblk (t m : Nat) (a : Option Addr) (L : Nat) (seed n pr : Int) : HP := blk t [.pointer (some ⟨m, 0, none⟩), .slice a L L, .int .u64 seed, .int .i64 n, .int .i64 pr]
section
variable {w : World} {t m : Nat} {a : Option Addr} {L : Nat} {seed n pr : Int} {F : HP → List HP} {M : List HP}
theorem zrow_rows {T : Type} {E : Enc T} {z : T} {n : Nat} (zc : Array Value) (h : zc.toList = E.e z) : (zrow zc (n * E.sz)).toList = E.rows (List.replicate n z) := by
  rw [← zeroCells_rows h n]
  have hs : zc.size = E.sz := by rw [← Array.length_toList, h, E.len]
  unfold zrow Builtin.zeroCells
  rw [hs]
theorem Own.ofZrow {T : Type} {E : Enc T} {z : T} {n r : Nat} {w : World} {M : List HP} {zc : Array Value} (hz : zc.toList = E.e z) (h : Sat w (blk r (zrow zc (n * E.sz)).toList :: M)) :
    Sat w (Own E (some ⟨r, 0, none⟩) (n, n, List.replicate n z) :: M) := by
  rw [zrow_rows zc hz] at h
  exact Own.ofBlk (rest := []) ⟨by simp, Nat.le_refl _, by simp⟩ (by simpa using h)
theorem LoopT.of {σ : Type} {B : σ → World → (σ → World → Prop) → Prop} {s : σ} {w : World} (I : σ → World → Prop) (μ : σ → Nat) (h0 : I s w) (hs : ∀ s w, I s w → B s w fun s' w' => I s' w' ∧ μ s' < μ s) : LoopT B s w :=
  ⟨I, fun s _ => μ s, h0, hs⟩
/-- what the first i places of a ring say -/
def SaysTo (f : Int → Int → Option Int) (A : List Ent) (i : Nat) : Prop :=
  ∀ l p v, f l p = some v ↔ ∃ q : Nat, ∃ e : Ent, q < i ∧ A[q]? = some e ∧ e.full = true ∧ e.lev = l ∧ e.pre = p ∧ e.v = v
theorem SaysTo.all {f g : Int → Int → Option Int} {A : List Ent} (h : SaysTo g A A.length) (hf : Says f A) : g = f := by
  funext l p
  have : ∀ v, g l p = some v ↔ f l p = some v := fun v => by
    rw [h, hf]
    constructor
    · rintro ⟨q, e, _, r⟩; exact ⟨q, e, r⟩
    · rintro ⟨q, e, r⟩; exact ⟨q, e, (List.getElem?_eq_some_iff.1 r.1).1, r⟩
  cases h1 : g l p with
  | none => cases h2 : f l p with
    | none => rfl
    | some v => rw [(this v).2 h2] at h1; cases h1
  | some v => rw [(this v).1 h1]
theorem SaysTo.skip {f : Int → Int → Option Int} {A : List Ent} {i : Nat} {e : Ent} (h : SaysTo f A i) (he : A[i]? = some e) (hb : e.full = false) : SaysTo f A (i + 1) := by
  intro l p v
  rw [h]
  constructor
  · rintro ⟨q, x, hq, r⟩; exact ⟨q, x, by omega, r⟩
  · rintro ⟨q, x, hq, hx, hf, r⟩
    refine ⟨q, x, ?_, hx, hf, r⟩
    rcases Nat.lt_or_ge q i with h | h
    · exact h
    · have : q = i := by omega
      subst this; rw [he] at hx; cases hx; rw [hb] at hf; cases hf
theorem SaysTo.new {h : Int → Int → Nat} {L : Nat} {f : Int → Int → Option Int} {A : List Ent} {i : Nat} {e : Ent} (hr : Ring h L A) (hs : SaysTo f A i) (he : A[i]? = some e) (hb : e.full = true) :
    f e.lev e.pre = none ∧ SaysTo (Tb.up f e.lev e.pre (some e.v)) A (i + 1) := by
  have hn : f e.lev e.pre = none := by
    cases hx : f e.lev e.pre with
    | none => rfl
    | some v =>
      obtain ⟨q, x, hq, hx', hf, h1, h2, _⟩ := (hs _ _ _).1 hx
      have := hr.uniq q i e.lev e.pre (by rw [fl_of hx', hf]) (by rw [fl_of he, hb]) ⟨x, hx', h1, h2⟩ ⟨e, he, rfl, rfl⟩
      omega
  refine ⟨hn, ?_⟩
  intro l p v
  unfold Tb.up
  split
  · rename_i hlp
    obtain ⟨rfl, rfl⟩ := hlp
    constructor
    · intro hv; cases hv; exact ⟨i, e, by omega, he, hb, rfl, rfl, rfl⟩
    · rintro ⟨q, x, hq, hx, hf, h1, h2, h3⟩
      have := hr.uniq q i e.lev e.pre (by rw [fl_of hx, hf]) (by rw [fl_of he, hb]) ⟨x, hx, h1, h2⟩ ⟨e, he, rfl, rfl⟩
      subst this; rw [he] at hx; cases hx; rw [← h3]
  · rename_i hlp
    rw [hs]
    constructor
    · rintro ⟨q, x, hq, r⟩; exact ⟨q, x, by omega, r⟩
    · rintro ⟨q, x, hq, hx, hf, h1, h2, h3⟩
      refine ⟨q, x, ?_, hx, hf, h1, h2, h3⟩
      rcases Nat.lt_or_ge q i with h | h
      · exact h
      · have : q = i := by omega
        subst this; rw [he] at hx; cases hx; exact absurd ⟨h1.symm, h2.symm⟩ hlp
structure Tb where
  m : Nat
  f : Int → Int → Option Int
  n : Nat
structure TbOk (s : Tb) (A : List Ent) (seed : Int) (j : Nat) : Prop where
  ring : Ring (homeN seed j) (2 ^ j) A
  says : Says s.f A
  cnt : cnt A = s.n
  half : 2 * s.n ≤ 2 ^ j
  j3 : 3 ≤ j
  j40 : j ≤ 40
  big : 2 ^ j = 8 ∨ 2 ^ j ≤ 8 * s.n
def TabR (t : Nat) (s : Tb) : HP := ex fun (A : List Ent) => ex fun (x : Int × Int) => ex fun (j : Nat) => ex fun (a : Option Addr) =>
  sp (pur (TbOk s A x.1 j)) (sp (tblk t s.m a (2 ^ j) x.1 (s.n : Int) x.2) (Own eEnt a (2 ^ j, 2 ^ j, A)))
theorem TabR.un {s : Tb} (h : Sat w (TabR t s :: M)) : ∃ A seed pr j a, TbOk s A seed j ∧ Sat w (tblk t s.m a (2 ^ j) seed (s.n : Int) pr :: Own eEnt a (2 ^ j, 2 ^ j, A) :: M) := by
  obtain ⟨A, h⟩ := Sat.ex.1 h; obtain ⟨⟨seed, pr⟩, h⟩ := Sat.ex.1 h; obtain ⟨j, h⟩ := Sat.ex.1 h; obtain ⟨a, h⟩ := Sat.ex.1 h
  obtain ⟨hp, h⟩ := Sat.pur.1 (Sat.sep.1 h)
  exact ⟨A, seed, pr, j, a, hp, Sat.sep.1 h⟩
theorem TabR.mk {s : Tb} {A : List Ent} {j : Nat} (hp : TbOk s A seed j) (h : Sat w (tblk t s.m a (2 ^ j) seed (s.n : Int) pr :: Own eEnt a (2 ^ j, 2 ^ j, A) :: M)) : Sat w (TabR t s :: M) :=
  Sat.ex.2 ⟨A, Sat.ex.2 ⟨(seed, pr), Sat.ex.2 ⟨j, Sat.ex.2 ⟨a, Sat.sep.2 (Sat.pur.2 ⟨hp, Sat.sep.2 h⟩)⟩⟩⟩⟩
theorem pow8 {j : Nat} (h : 3 ≤ j) : 8 ≤ 2 ^ j := Nat.pow_le_pow_right (n := 2) (by decide) h
theorem TbOk.empty {s : Tb} {A : List Ent} {j : Nat} (hp : TbOk s A seed j) : ∃ e, e < 2 ^ j ∧ fl A e = false := by
  have h8 := pow8 hp.j3
  have := hp.half
  obtain ⟨e, h1, h2⟩ := ex_empty (A := A) (by rw [hp.cnt, hp.ring.len]; omega)
  exact ⟨e, by rw [← hp.ring.len]; exact h1, h2⟩
theorem hash_New_spec {seed : Int} {K : Option Addr → World → Prop} (h : Sat w M) (k : ∀ t w', Sat w' (TabR t ⟨m, fun _ _ => none, 0⟩ :: M) → K (some ⟨t, 0, none⟩) w') : hash_New.C (some ⟨m, 0, none⟩) seed w K := by
  apply hash_New.ok
  refine cond_f rfl ?_
  refine ⟨by decide, ?_⟩
  refine alP.of h fun r w h => ?_
  have h := Own.ofZrow (E := eEnt) (z := zEnt) (n := 8) rfl h
  refine alP.of h fun r2 w h => ?_
  refine k r2 w ?_
  obtain ⟨ring0, says0⟩ := ring_rep (h := homeN seed 3) (L := 2 ^ 3) (fun l p => homeN_lt (by omega)) (z := zEnt) rfl
  exact TabR.mk (s := ⟨m, fun _ _ => none, 0⟩) (A := List.replicate 8 zEnt) (j := 3) (seed := seed) (pr := 0) ⟨ring0, says0, cnt_rep _ _ rfl, Nat.le_of_ble_eq_true rfl, by decide, by decide, .inl rfl⟩ h
end
end Go.St

/- Contracts: words as lists of their set bits; how many there are. -/
namespace Go.St
open Go

/-- the set bits, rising -/
def bl (W : Nat) : List Nat := (List.range 64).filter fun i => W.testBit i
/-! ### the number of set bits -/
def vl (b : Nat) : List Nat → Nat
  | [] => 0
  | d :: ds => d + 2 ^ b * vl b ds
def fold2 : List Nat → List Nat
  | a :: b :: l => (a + b) :: fold2 l
  | l => l
theorem and_split (n a b c d : Nat) (ha : a < 2 ^ n) (hc : c < 2 ^ n) : (a + 2 ^ n * b) &&& (c + 2 ^ n * d) = (a &&& c) + 2 ^ n * (b &&& d) := by
  apply Nat.eq_of_testBit_eq
  intro j
  have hac : a &&& c < 2 ^ n := Nat.lt_of_le_of_lt Nat.and_le_left ha
  rw [Nat.testBit_and, Nat.add_comm a, Nat.add_comm c, Nat.add_comm (a &&& c), Nat.testBit_two_pow_mul_add _ ha, Nat.testBit_two_pow_mul_add _ hc, Nat.testBit_two_pow_mul_add _ hac]
  split <;> simp
theorem vl_bits : ∀ (n W : Nat), vl 1 ((List.range n).map fun i => (W.testBit i).toNat) = W % 2 ^ n
  | 0, W => by simp [vl, Nat.mod_one]
  | n + 1, W => by
    rw [List.range_succ_eq_map]
    simp only [List.map_cons, List.map_map, vl]
    have : (List.range n).map ((fun i => (W.testBit i).toNat) ∘ Nat.succ) = (List.range n).map fun i => ((W / 2).testBit i).toNat := by
      apply List.map_congr_left
      intro i _
      simp [Nat.testBit_succ]
    rw [this, vl_bits n (W / 2), Nat.pow_succ (n := 2) (m := n)]
    have h0 : (W.testBit 0).toNat = W % 2 := by
      rw [Nat.testBit_zero]
      rcases Nat.mod_two_eq_zero_or_one W with h | h <;> simp [h]
    rw [h0, Nat.mul_comm (2 ^ n) 2, Nat.mod_mul]
theorem vl_mask (b : Nat) : ∀ (n : Nat) {ds : List Nat}, ds.length = 2 * n → (∀ d ∈ ds, d < 2 ^ b) →
    (vl b ds / 2 ^ b &&& vl (2 * b) (List.replicate n (2 ^ b - 1))) + (vl b ds &&& vl (2 * b) (List.replicate n (2 ^ b - 1))) = vl (2 * b) (fold2 ds)
  | 0, [], _, _ => by simp [vl, fold2]
  | n + 1, [], h, _ => by simp at h
  | n + 1, [_], h, _ => by simp at h; omega
  | n + 1, a :: c :: l, h, hd => by
    have ih := vl_mask b n (ds := l) (by simp at h; omega) (fun d hm => hd d (by simp [hm]))
    have ha := hd a (by simp)
    have hc := hd c (by simp)
    have hp := Nat.two_pow_pos b
    have h2 : 2 ^ (2 * b) = 2 ^ b * 2 ^ b := by rw [Nat.two_mul, Nat.pow_add]
    simp only [vl, fold2, List.replicate_succ]
    generalize hv : vl b l = v at *
    generalize hm : vl (2 * b) (List.replicate n (2 ^ b - 1)) = m at *
    generalize hB : 2 ^ b = B at *
    have hB2 : B - 1 < 2 ^ (2 * b) := by
      rw [h2]; have : B * 1 ≤ B * B := Nat.mul_le_mul_left _ hp
      omega
    have hlow : ∀ x, x < B → ∀ y, (x + B * y) &&& (B - 1) = x := fun x hx y => by
      rw [← hB, Nat.and_two_pow_sub_one_eq_mod, hB, Nat.add_mul_mod_self_left, Nat.mod_eq_of_lt hx]
    have e1 : a + B * (c + B * v) = (a + B * c) + 2 ^ (2 * b) * v := by rw [h2, Nat.mul_add, Nat.add_assoc, Nat.mul_assoc]
    have l1 : a + B * c < 2 ^ (2 * b) := by
      rw [h2]
      have : B * c + B ≤ B * B := by rw [← Nat.mul_succ]; exact Nat.mul_le_mul_left _ hc
      omega
    have e2 : (a + B * (c + B * v)) / B = (c + B * (v % B)) + 2 ^ (2 * b) * (v / B) := by
      rw [Nat.add_mul_div_left _ _ hp, Nat.div_eq_of_lt ha, Nat.zero_add, h2, Nat.mul_assoc, Nat.add_assoc, ← Nat.mul_add]
      congr 2
      exact (Nat.mod_add_div v B).symm
    have l2 : c + B * (v % B) < 2 ^ (2 * b) := by
      rw [h2]
      have hvm := Nat.mod_lt v hp
      have : B * (v % B) + B ≤ B * B := by rw [← Nat.mul_succ]; exact Nat.mul_le_mul_left _ hvm
      omega
    rw [e2, e1, and_split _ _ _ _ _ l2 hB2, and_split _ _ _ _ _ l1 hB2, hlow c hc, hlow a ha, ← ih, Nat.mul_add]
    omega
theorem vl_last : ∀ (n : Nat) {ds : List Nat}, ds.length = 2 * n → (∀ d ∈ ds, d ≤ 4) →
    (vl 4 ds / 16 + vl 4 ds) &&& vl 8 (List.replicate n 15) = vl 8 (fold2 ds)
  | 0, [], _, _ => by simp [vl, fold2]
  | n + 1, [], h, _ => by simp at h
  | n + 1, [_], h, _ => by simp at h; omega
  | n + 1, a :: c :: l, h, hd => by
    have ih := vl_last n (ds := l) (by simp at h; omega) (fun d hm => hd d (by simp [hm]))
    have ha := hd a (by simp)
    have hc := hd c (by simp)
    simp only [vl, fold2, List.replicate_succ]
    have hv16 : vl 4 l % 16 ≤ 4 := by
      cases l with
      | nil => simp [vl]
      | cons x l => have := hd x (by simp); simp only [vl]; omega
    generalize hv : vl 4 l = v at *
    generalize hm : vl 8 (List.replicate n 15) = m at *
    have e : (a + 2 ^ 4 * (c + 2 ^ 4 * v)) / 16 + (a + 2 ^ 4 * (c + 2 ^ 4 * v)) = (a + c + 16 * (c + v % 16)) + 2 ^ 8 * (v / 16 + v) := by omega
    rw [e, and_split 8 _ _ 15 m (by omega) (by omega), ih]
    congr 1
    have := Nat.and_two_pow_sub_one_eq_mod (a + c + 16 * (c + v % 16)) 4
    rw [show 2 ^ 4 - 1 = 15 from rfl] at this
    rw [this]; omega
theorem fold2_sum : ∀ (ds : List Nat), (fold2 ds).sum = ds.sum
  | [] => rfl
  | [_] => rfl
  | a :: b :: l => by simp [fold2, fold2_sum l, Nat.add_assoc]
theorem fold2_le {k : Nat} : ∀ {ds : List Nat}, (∀ d ∈ ds, d ≤ k) → ∀ d ∈ fold2 ds, d ≤ 2 * k
  | [], _, d, h => by simp [fold2] at h
  | [a], hk, d, h => by simp [fold2] at h; subst h; have := hk d (by simp); omega
  | a :: b :: l, hk, d, h => by
    simp only [fold2, List.mem_cons] at h
    rcases h with rfl | h
    · have := hk a (by simp); have := hk b (by simp); omega
    · exact fold2_le (fun d hd => hk d (by simp [hd])) d h
theorem fold2_len : ∀ (n : Nat) {ds : List Nat}, ds.length = 2 * n → (fold2 ds).length = n
  | 0, [], _ => rfl
  | n + 1, [], h => by simp at h
  | n + 1, [_], h => by simp at h; omega
  | n + 1, a :: b :: l, h => by simp only [fold2, List.length_cons]; rw [fold2_len n (by simp at h; omega)]
def pc (W : Nat) : Nat := (bl W).length
theorem pc_sum (W : Nat) : ((List.range 64).map fun i => (W.testBit i).toNat).sum = pc W := by
  unfold pc bl
  generalize List.range 64 = l
  induction l with
  | nil => rfl
  | cons x l ih => simp only [List.map_cons, List.sum_cons, ih, List.filter_cons]; cases W.testBit x <;> simp; omega
/-- the library's way to count -/
theorem swar (W : Nat) (hW : W < 2 ^ 64) :
    let x1 := (W / 2 &&& 6148914691236517205) + (W &&& 6148914691236517205)
    let x2 := (x1 / 4 &&& 3689348814741910323) + (x1 &&& 3689348814741910323)
    let x3 := (x2 / 16 + x2) &&& 1085102592571150095
    ∃ e0 e1 e2 e3 e4 e5 e6 e7 : Nat, x1 ≤ 12297829382473034410 ∧ x2 ≤ 4919131752989213764 ∧ (e0 ≤ 8 ∧ e1 ≤ 8 ∧ e2 ≤ 8 ∧ e3 ≤ 8 ∧ e4 ≤ 8 ∧ e5 ≤ 8 ∧ e6 ≤ 8 ∧ e7 ≤ 8) ∧ e0 + e1 + e2 + e3 + e4 + e5 + e6 + e7 = pc W ∧
      x3 = e0 + 256 * (e1 + 256 * (e2 + 256 * (e3 + 256 * (e4 + 256 * (e5 + 256 * (e6 + 256 * e7)))))) := by
  intro x1 x2 x3
  let ds := (List.range 64).map fun i => (W.testBit i).toNat
  have h0 : vl 1 ds = W := by rw [vl_bits, Nat.mod_eq_of_lt hW]
  have l0 : ds.length = 2 * 32 := by simp [ds]
  have b0 : ∀ d ∈ ds, d ≤ 1 := fun d hd => by
    obtain ⟨i, _, rfl⟩ := List.mem_map.1 hd
    cases W.testBit i <;> simp
  have h1 := vl_mask 1 32 l0 (fun d hd => by have := b0 d hd; omega)
  rw [h0] at h1
  have m1 : vl (2 * 1) (List.replicate 32 (2 ^ 1 - 1)) = 6148914691236517205 := by kernel_rfl
  rw [m1] at h1
  have hx1 : x1 = vl 2 (fold2 ds) := h1
  have l1 := fold2_len 32 l0
  have b1 := fold2_le b0
  have h2 := vl_mask 2 16 (ds := fold2 ds) l1 (fun d hd => by have := b1 d hd; omega)
  have m2 : vl (2 * 2) (List.replicate 16 (2 ^ 2 - 1)) = 3689348814741910323 := by kernel_rfl
  rw [m2, ← hx1] at h2
  have hx2 : x2 = vl 4 (fold2 (fold2 ds)) := h2
  have l2 := fold2_len 16 (ds := fold2 ds) l1
  have b2 := fold2_le b1
  have h3 := vl_last 8 (ds := fold2 (fold2 ds)) l2 (fun d hd => b2 d hd)
  have m3 : vl 8 (List.replicate 8 15) = 1085102592571150095 := by kernel_rfl
  rw [m3, ← hx2] at h3
  have hx3 : x3 = vl 8 (fold2 (fold2 (fold2 ds))) := h3
  have l3 := fold2_len 8 (ds := fold2 (fold2 ds)) l2
  have b3 := fold2_le b2
  have hs : (fold2 (fold2 (fold2 ds))).sum = pc W := by rw [fold2_sum, fold2_sum, fold2_sum]; exact pc_sum W
  have bound : ∀ (b k : Nat) (l : List Nat), (∀ d ∈ l, d ≤ k) → vl b l ≤ vl b (List.replicate l.length k) := by
    intro b k l
    induction l with
    | nil => intro _; simp [vl]
    | cons x l ih =>
      intro hk
      simp only [List.length_cons, List.replicate_succ, vl]
      exact Nat.add_le_add (hk x (by simp)) (Nat.mul_le_mul_left _ (ih fun d hd => hk d (by simp [hd])))
  have q1 := bound 2 2 _ b1
  have q2 := bound 4 4 _ b2
  rw [l1, ← hx1] at q1
  rw [l2, ← hx2] at q2
  generalize fold2 (fold2 (fold2 ds)) = es at hx3 l3 b3 hs
  match es, l3 with
  | [e0, e1, e2, e3, e4, e5, e6, e7], _ =>
    refine ⟨e0, e1, e2, e3, e4, e5, e6, e7, ?_, ?_, ⟨b3 e0 (by simp), b3 e1 (by simp), b3 e2 (by simp), b3 e3 (by simp), b3 e4 (by simp), b3 e5 (by simp), b3 e6 (by simp), b3 e7 (by simp)⟩, ?_, ?_⟩
    · exact Nat.le_trans q1 (Nat.le_of_eq (by kernel_rfl))
    · exact Nat.le_trans q2 (Nat.le_of_eq (by kernel_rfl))
    · rw [← hs]; simp; omega
    · rw [hx3]; simp [vl]
theorem sw1 {x e y : Nat} (h : x = e + 256 * y) (he : e ≤ 8) : x / 256 = y := by omega
theorem sw2 {x x1 x2 x3 a b c : Nat} (h : x = a + 256 * x1) (h1 : x1 = b + 256 * x2) (h2 : x2 = c + 256 * x3) (ha : a ≤ 8) (hb : b ≤ 8) (hc : c ≤ 8) : (x + x1) / 65536 = x2 + x3 := by
  have : x + x1 = (a + b + 256 * (b + c)) + 65536 * (x2 + x3) := by subst h h1 h2; omega
  rw [this]; omega
theorem sw3 {x x1 x2 x3 x4 a b c d : Nat} (h : x = a + 256 * x1) (h1 : x1 = b + 256 * x2) (h2 : x2 = c + 256 * x3) (h3 : x3 = d + 256 * x4) (ha : a ≤ 8) (hb : b ≤ 8) (hc : c ≤ 8) (hd : d ≤ 8) : ∃ r, x = r + 4294967296 * x4 ∧ r ≤ 134744072 :=
  ⟨a + 256 * b + 65536 * c + 16777216 * d, by subst h h1 h2 h3; omega, by omega⟩
theorem sw4 {x0 x1 x2 x3 y0 y1 y2 y3 : Nat} (h0 : ∃ r, x0 = r + 4294967296 * y0 ∧ r ≤ 134744072) (h1 : ∃ r, x1 = r + 4294967296 * y1 ∧ r ≤ 134744072) (h2 : ∃ r, x2 = r + 4294967296 * y2 ∧ r ≤ 134744072) (h3 : ∃ r, x3 = r + 4294967296 * y3 ∧ r ≤ 134744072) :
    (x0 + x1 + (x2 + x3)) / 4294967296 = y0 + y1 + y2 + y3 := by
  obtain ⟨r0, rfl, p0⟩ := h0; obtain ⟨r1, rfl, p1⟩ := h1; obtain ⟨r2, rfl, p2⟩ := h2; obtain ⟨r3, rfl, p3⟩ := h3
  have : r0 + 4294967296 * y0 + (r1 + 4294967296 * y1) + (r2 + 4294967296 * y2 + (r3 + 4294967296 * y3)) = (r0 + r1 + r2 + r3) + 4294967296 * (y0 + y1 + y2 + y3) := by omega
  rw [this]
  have hr : r0 + r1 + r2 + r3 < 4294967296 := by omega
  generalize r0 + r1 + r2 + r3 = r at hr
  generalize y0 + y1 + y2 + y3 = y
  omega
theorem sw5 {x e y k : Nat} (h : x = e + 256 * y) (he : e ≤ 8) (hk : y ≤ k) : x ≤ 8 + 256 * k := by omega
theorem swar_end {e0 e1 e2 e3 e4 e5 e6 e7 : Nat} (h : e0 ≤ 8 ∧ e1 ≤ 8 ∧ e2 ≤ 8 ∧ e3 ≤ 8 ∧ e4 ≤ 8 ∧ e5 ≤ 8 ∧ e6 ≤ 8 ∧ e7 ≤ 8) {x : Nat} (hx : x = e0 + 256 * (e1 + 256 * (e2 + 256 * (e3 + 256 * (e4 + 256 * (e5 + 256 * (e6 + 256 * e7))))))) :
    x ≤ 723401728380766730 ∧ ∃ y z u : Nat, y = x + x / 2 ^ 8 ∧ y < 2 ^ 62 ∧ z = y + y / 2 ^ 16 ∧ z < 2 ^ 62 ∧ u = z + z / 2 ^ 32 ∧ u < 2 ^ 63 ∧ u % 128 = e0 + e1 + e2 + e3 + e4 + e5 + e6 + e7 := by
  obtain ⟨h0, h1, h2, h3, h4, h5, h6, h7⟩ := h
  obtain ⟨x6, g6⟩ : ∃ y, y = e6 + 256 * e7 := ⟨_, rfl⟩
  rw [← g6] at hx
  obtain ⟨x5, g5⟩ : ∃ y, y = e5 + 256 * x6 := ⟨_, rfl⟩
  rw [← g5] at hx
  obtain ⟨x4, g4⟩ : ∃ y, y = e4 + 256 * x5 := ⟨_, rfl⟩
  rw [← g4] at hx
  obtain ⟨x3, g3⟩ : ∃ y, y = e3 + 256 * x4 := ⟨_, rfl⟩
  rw [← g3] at hx
  obtain ⟨x2, g2⟩ : ∃ y, y = e2 + 256 * x3 := ⟨_, rfl⟩
  rw [← g2] at hx
  obtain ⟨x1, g1⟩ : ∃ y, y = e1 + 256 * x2 := ⟨_, rfl⟩
  rw [← g1] at hx
  have b6 := sw5 g6 h6 h7
  have b5 := sw5 g5 h5 b6
  have b4 := sw5 g4 h4 b5
  have b3 := sw5 g3 h3 b4
  have b2 := sw5 g2 h2 b3
  have b1 := sw5 g1 h1 b2
  have b0 := sw5 hx h0 b1
  have hy := sw1 hx h0
  have hy2 := sw2 hx g1 g2 h0 h1 h2
  have hz := sw4 (sw3 hx g1 g2 g3 h0 h1 h2 h3) (sw3 g1 g2 g3 g4 h1 h2 h3 h4) (sw3 g2 g3 g4 g5 h2 h3 h4 h5) (sw3 g3 g4 g5 g6 h3 h4 h5 h6)
  have t : x + x1 + (x2 + x3) + (x4 + x5 + x6 + e7) = (e0 + e1 + e2 + e3 + e4 + e5 + e6 + e7) + 256 * (x1 + x2 + x3 + x4 + x5 + x6 + e7) := by
    clear h0 h1 h2 h3 h4 h5 h6 h7 b0 b1 b2 b3 b4 b5 b6 hy hy2 hz
    omega
  have hs : e0 + e1 + e2 + e3 + e4 + e5 + e6 + e7 ≤ 64 := by
    clear hx g1 g2 g3 g4 g5 g6 b0 b1 b2 b3 b4 b5 b6 hy hy2 hz t
    omega
  refine ⟨by clear hx g1 g2 g3 g4 g5 g6 hy hy2 hz t; omega, x + x1, x + x1 + (x2 + x3), x + x1 + (x2 + x3) + (x4 + x5 + x6 + e7), by rw [show (2 : Nat) ^ 8 = 256 from rfl, hy], ?_, by rw [show (2 : Nat) ^ 16 = 65536 from rfl, hy2], ?_, by rw [show (2 : Nat) ^ 32 = 4294967296 from rfl, hz], ?_, ?_⟩
  · clear hx g1 g2 g3 g4 g5 g6 hy hy2 hz t; omega
  · clear hx g1 g2 g3 g4 g5 g6 hy hy2 hz t; omega
  · clear hx g1 g2 g3 g4 g5 g6 hy hy2 hz t; omega
  · rw [t]
    generalize e0 + e1 + e2 + e3 + e4 + e5 + e6 + e7 = s at hs
    generalize x1 + x2 + x3 + x4 + x5 + x6 + e7 = v
    clear hx g1 g2 g3 g4 g5 g6 b0 b1 b2 b3 b4 b5 b6 hy hy2 hz t h0 h1 h2 h3 h4 h5 h6 h7
    omega
theorem swar_all (W : Nat) (hW : W < 2 ^ 64) :
    let x1 := (W / 2 &&& 6148914691236517205) + (W &&& 6148914691236517205)
    let x2 := (x1 / 4 &&& 3689348814741910323) + (x1 &&& 3689348814741910323)
    let x3 := (x2 / 16 + x2) &&& 1085102592571150095
    ∃ y z u : Nat, x1 ≤ 12297829382473034410 ∧ x2 ≤ 4919131752989213764 ∧ x3 ≤ 723401728380766730 ∧ y = x3 + x3 / 2 ^ 8 ∧ y < 2 ^ 62 ∧ z = y + y / 2 ^ 16 ∧ z < 2 ^ 62 ∧ u = z + z / 2 ^ 32 ∧ u < 2 ^ 63 ∧ u % 128 = pc W := by
  obtain ⟨e0, e1, e2, e3, e4, e5, e6, e7, hx1, hx2, hb, hs, hx3⟩ := swar W hW
  obtain ⟨hb3, y, z, u, hy, hyb, hz, hzb, hu, hub, hmod⟩ := swar_end hb hx3
  exact ⟨y, z, u, hx1, hx2, hb3, hy, hyb, hz, hzb, hu, hub, hmod.trans hs⟩
end Go.St

/- Contracts: bits of a word. -/
namespace Go.St
open Go Go.Proofs
attribute [local irreducible] stP alP drP stCs lI64 lU64 lU8 lB lP lL lR AppV ClrV

def oneN (i : Int) : Nat := if 0 ≤ i ∧ i < 64 then 2 ^ i.toNat else 0
def belowN (i : Int) : Nat := if i ≤ 0 then 0 else if 64 ≤ i then 18446744073709551615 else 2 ^ i.toNat - 1
theorem p64 {n : Nat} (h : n < 64) : 2 ^ n ≤ 9223372036854775808 := by
  have : 2 ^ n ≤ 2 ^ 63 := Nat.pow_le_pow_right (by decide) (by omega)
  exact this
theorem oneN_lt (i : Int) : oneN i < 18446744073709551616 := by
  unfold oneN; split
  · have := p64 (n := i.toNat) (by omega); omega
  · decide
theorem belowN_lt (i : Int) : belowN i < 18446744073709551616 := by
  unfold belowN; split
  · decide
  · split
    · decide
    · have := p64 (n := i.toNat) (by omega); omega
theorem tb_oneN {i : Int} {j : Nat} : (oneN i).testBit j = decide (0 ≤ i ∧ i < 64 ∧ j = i.toNat) := by
  unfold oneN; split
  · rename_i h
    rw [Nat.testBit_two_pow]
    simp [h.1, h.2, eq_comm]
  · rename_i h
    simp; intro h1 h2; exact absurd ⟨h1, h2⟩ h
theorem shl_one {m : Nat} (h : m < 64) : shl .u64 (1 : Int) m = ((2 ^ m : Nat) : Int) := by
  have := shl_u64 (x := 1) (m := m) (by omega)
  rw [show ((1 : Nat) : Int) = 1 from rfl] at this
  rw [this, Nat.one_mul, Nat.mod_eq_of_lt]
  have := p64 h; omega
section
variable {w : World} {K : Int → World → Prop} {W : Nat} {i : Int}
theorem bit_one_spec (k : K (oneN i : Nat) w) : bit_one.C i w K := by
  apply bit_one.ok
  have ht : bit_there.C i w fun q2 W3 => cond (!q2) (K 0 W3) (shP i fun m4 => K (shl .u64 1 m4) W3) := by
    apply bit_there.ok
    refine cond_c (fun h => ?_) fun h => ?_
    · simp only [ge_iff_le, decide_eq_true_eq] at h
      refine cond_c (fun h2 => ?_) fun h2 => ?_
      · have h2 : ¬ i < 64 := by simpa using h2
        rw [show oneN i = 0 by unfold oneN; rw [if_neg]; omega] at k; exact k
      · have h2 : i < 64 := by simpa using h2
        refine shP_of h ?_
        rw [shl_one (by omega)]
        rw [show oneN i = 2 ^ i.toNat by unfold oneN; rw [if_pos ⟨h, h2⟩]] at k; exact k
    · have h : ¬ 0 ≤ i := by simpa using h
      rw [show oneN i = 0 by unfold oneN; rw [if_neg]; omega] at k; exact k
  exact ht
theorem bit_below_spec (k : K (belowN i : Nat) w) : bit_below.C i w K := by
  apply bit_below.ok
  unfold belowN at k
  refine cond_c (fun h => ?_) fun h => ?_
  · have h : i ≤ 0 := by simpa using h
    rw [if_pos h] at k; exact k
  · have h : ¬ i ≤ 0 := by simpa using h
    rw [if_neg h] at k
    refine cond_c (fun h2 => ?_) fun h2 => ?_
    · have h2 : 64 ≤ i := by simpa using h2
      rw [if_pos h2] at k; exact k
    · have h2 : ¬ 64 ≤ i := by simpa using h2
      rw [if_neg h2] at k
      refine shP_of (by omega) ?_
      have hp := p64 (n := i.toNat) (by omega)
      have hp0 := Nat.two_pow_pos i.toNat
      rw [shl_one (by omega), show ((2 ^ i.toNat : Nat) : Int) - 1 = ((2 ^ i.toNat - 1 : Nat) : Int) by omega, wu64_id (by omega) (by omega)]
      exact k
theorem bit_Get_spec (hW : W < 18446744073709551616) {K : Bool → World → Prop} (k : K (decide (0 ≤ i ∧ i < 64) && W.testBit i.toNat) w) : bit_Get.C (W : Int) i w K := by
  apply bit_Get.ok
  refine bit_one_spec ?_
  rw [bAnd_u64 hW (oneN_lt i)]
  have : (((W &&& oneN i : Nat) : Int) != 0) = (decide (0 ≤ i ∧ i < 64) && W.testBit i.toNat) := by
    by_cases h : 0 ≤ i ∧ i < 64
    · simp only [h, and_self, decide_true, Bool.true_and]
      cases hb : W.testBit i.toNat with
      | true =>
        have : (W &&& oneN i).testBit i.toNat = true := by rw [Nat.testBit_and, hb, tb_oneN]; simp [h]
        have hne : W &&& oneN i ≠ 0 := by intro e; rw [e] at this; simp at this
        simp; omega
      | false =>
        have : W &&& oneN i = 0 := by
          apply Nat.eq_of_testBit_eq
          intro j
          rw [Nat.testBit_and, tb_oneN, Nat.zero_testBit]
          by_cases hj : j = i.toNat
          · subst hj; simp [hb]
          · simp [hj]
        rw [this]; rfl
    · have : oneN i = 0 := by unfold oneN; rw [if_neg h]
      rw [this]; simp [h]
  rw [this]; exact k
theorem bit_Set_spec (hW : W < 18446744073709551616) (k : K ((W ||| oneN i : Nat)) w) : bit_Set.C (W : Int) i w K := by
  apply bit_Set.ok
  refine bit_one_spec ?_
  rw [bOr_u64 hW (oneN_lt i)]; exact k
theorem bits_Ones_spec (hW : W < 18446744073709551616) (k : K (pc W : Nat) w) : math_bits_OnesCount64.C (W : Int) w K := by
  apply math_bits_OnesCount64.ok
  have a1 : ∀ x : Nat, x < 18446744073709551616 → ∀ y : Nat, y < 18446744073709551616 → bAnd .u64 (x : Int) (y : Int) = ((x &&& y : Nat) : Int) := fun x hx y hy => bAnd_u64 hx hy
  have m1 : bAnd .u64 (shr .u64 (W : Int) 1) (6148914691236517205 : Int) = ((W / 2 &&& 6148914691236517205 : Nat) : Int) := by
    rw [shr_u64 (by decide)]; exact a1 _ (by omega) 6148914691236517205 (by decide)
  have m2 : bAnd .u64 (W : Int) (6148914691236517205 : Int) = ((W &&& 6148914691236517205 : Nat) : Int) := a1 _ hW 6148914691236517205 (by decide)
  obtain ⟨y, z, u, hx1, hx2, hb3, hy, hyb, hz, hzb, hu, hub, hmod⟩ := swar_all W hW
  unfold math_bits_OnesCount64.F
  rw [m1, m2]
  generalize hX1 : (W / 2 &&& 6148914691236517205) + (W &&& 6148914691236517205) = x1 at hx1 hx2 hb3 hy
  have c1 : wu64 (((W / 2 &&& 6148914691236517205 : Nat) : Int) + ((W &&& 6148914691236517205 : Nat) : Int)) = (x1 : Int) := by rw [wu64_id (by omega) (by omega)]; omega
  rw [c1]
  have m3 : bAnd .u64 (shr .u64 (x1 : Int) 2) (3689348814741910323 : Int) = ((x1 / 4 &&& 3689348814741910323 : Nat) : Int) := by
    rw [shr_u64 (by decide)]; exact a1 _ (by omega) 3689348814741910323 (by decide)
  have m4 : bAnd .u64 (x1 : Int) (3689348814741910323 : Int) = ((x1 &&& 3689348814741910323 : Nat) : Int) := a1 _ (by omega) 3689348814741910323 (by decide)
  rw [m3, m4]
  generalize hX2 : (x1 / 4 &&& 3689348814741910323) + (x1 &&& 3689348814741910323) = x2 at hx2 hb3 hy
  have c2 : wu64 (((x1 / 4 &&& 3689348814741910323 : Nat) : Int) + ((x1 &&& 3689348814741910323 : Nat) : Int)) = (x2 : Int) := by rw [wu64_id (by omega) (by omega)]; omega
  rw [c2, shr_u64 (m := 4) (by decide)]
  have c3 : wu64 (((x2 / 2 ^ 4 : Nat) : Int) + (x2 : Int)) = ((x2 / 16 + x2 : Nat) : Int) := by rw [wu64_id (by omega) (by omega)]; omega
  rw [c3]
  have m5 : bAnd .u64 ((x2 / 16 + x2 : Nat) : Int) (1085102592571150095 : Int) = ((((x2 / 16 + x2) &&& 1085102592571150095 : Nat)) : Int) := a1 _ (by omega) 1085102592571150095 (by decide)
  rw [m5]
  generalize hX3 : ((x2 / 16 + x2) &&& 1085102592571150095) = x3 at hb3 hy
  rw [shr_u64 (m := 8) (by decide), show wu64 ((x3 : Int) + ((x3 / 2 ^ 8 : Nat) : Int)) = (y : Int) by rw [wu64_id (by omega) (by omega)]; omega]
  rw [shr_u64 (m := 16) (by decide), show wu64 ((y : Int) + ((y / 2 ^ 16 : Nat) : Int)) = (z : Int) by rw [wu64_id (by omega) (by omega)]; omega]
  rw [shr_u64 (m := 32) (by decide), show wu64 ((z : Int) + ((z / 2 ^ 32 : Nat) : Int)) = (u : Int) by rw [wu64_id (by omega) (by omega)]; omega]
  rw [w64_id (by omega) (by omega)]
  have := bAnd_mask (a := (u : Int)) (j := 7) (by decide)
  rw [show ((2 : Int) ^ 7 - 1) = 127 by decide] at this
  rw [this, show ((u : Int) % 2 ^ 7) = ((pc W : Nat) : Int) by omega]
  exact k
theorem bit_Count_spec (hW : W < 18446744073709551616) (k : K (pc W : Nat) w) : bit_Count.C (W : Int) w K := bit_Count.ok (bits_Ones_spec hW k)
theorem bit_Rank_spec (hW : W < 18446744073709551616) (k : K (pc (W &&& belowN i) : Nat) w) : bit_Rank.C (W : Int) i w K := by
  apply bit_Rank.ok
  refine bit_below_spec ?_
  rw [bAnd_u64 hW (belowN_lt i)]
  exact bit_Count_spec (Nat.lt_of_le_of_lt Nat.and_le_left hW) k
end

/-! ### the least and the greatest set bit -/
def dbTab : List Int := [0, 1, 56, 2, 57, 49, 28, 3, 61, 58, 42, 50, 38, 29, 17, 4, 62, 47, 59, 36, 45, 43, 51, 22, 53, 39, 33, 30, 24, 18, 12, 5, 63, 55, 48, 27, 60, 41, 37, 16, 46, 35, 44, 21, 52, 32, 23, 11, 54, 26, 40, 15, 34, 20, 31, 10, 25, 14, 19, 9, 13, 8, 7, 6]
/-- the library's table, which is never written -/
def Dbr (_ : Unit) (_ : Unit) : HP := blk 8 (dbTab.map fun n => .int .u8 n)
inductive IsLow (W : Nat) : Int → Prop where
  | none : W = 0 → IsLow W (-1)
  | some (i : Nat) : i < 64 → W.testBit i = true → (∀ j, j < i → W.testBit j = false) → IsLow W (i : Int)
inductive IsHigh (W : Nat) : Int → Prop where
  | none : W = 0 → IsHigh W (-1)
  | some (i : Nat) : i < 64 → W.testBit i = true → (∀ j, i < j → W.testBit j = false) → IsHigh W (i : Int)
section
variable {w : World} {K : Int → World → Prop} {W : Nat} {i : Int} {L : List HP} {F : HP → List HP} [g : Foc Dbr () () L F]
include g
end
section
variable {w : World} {K : Int → World → Prop} {W : Nat} {i : Int}
end
end Go.St

/- Keys as rising lists, plain. -/
namespace Go.St

abbrev Asc (l : List Nat) : Prop := l.Pairwise (· < ·)
theorem asc_cons {x : Nat} {l : List Nat} : Asc (x :: l) ↔ (∀ y ∈ l, x < y) ∧ Asc l := List.pairwise_cons
theorem Asc.ext : ∀ {a b : List Nat}, Asc a → Asc b → (∀ x, x ∈ a ↔ x ∈ b) → a = b
  | [], [], _, _, _ => rfl
  | [], y :: b, _, _, h => by have := (h y).2 (by simp); simp at this
  | x :: a, [], _, _, h => by have := (h x).1 (by simp); simp at this
  | x :: a, y :: b, ha, hb, h => by
    rw [asc_cons] at ha hb
    have h1 := (h x).1 (by simp)
    have h2 := (h y).2 (by simp)
    have e : x = y := by
      rcases List.mem_cons.1 h1 with e | h1
      · exact e
      · rcases List.mem_cons.1 h2 with e | h2
        · exact e.symm
        · have := ha.1 _ h2; have := hb.1 _ h1; omega
    subst e
    rw [Asc.ext ha.2 hb.2 fun z => ?_]
    have hz := h z
    simp only [List.mem_cons] at hz
    constructor
    · intro hm
      rcases hz.1 (.inr hm) with e | h
      · subst e; have := ha.1 _ hm; omega
      · exact h
    · intro hm
      rcases hz.2 (.inr hm) with e | h
      · subst e; have := hb.1 _ hm; omega
      · exact h
theorem Asc.first {r : Nat} : ∀ {l : List Nat}, Asc l → r ∈ l → (∀ z ∈ l, r ≤ z) → l.head? = some r
  | [], _, h, _ => by cases h
  | x :: l, ha, hr, hz => by
    have h1 := hz x (by simp)
    rcases List.mem_cons.1 hr with rfl | hr
    · rfl
    · have := (asc_cons.1 ha).1 _ hr; omega
theorem Asc.last {r : Nat} : ∀ {l : List Nat}, Asc l → r ∈ l → (∀ z ∈ l, z ≤ r) → l.getLast? = some r
  | [], _, h, _ => by cases h
  | [x], _, hr, _ => by simp at hr; subst hr; rfl
  | x :: y :: l, ha, hr, hz => by
    rw [List.getLast?_cons_cons]
    refine Asc.last (asc_cons.1 ha).2 ?_ fun z h => hz z (List.mem_cons_of_mem _ h)
    rcases List.mem_cons.1 hr with rfl | hr
    · have h1 := (asc_cons.1 ha).1 y (by simp)
      have := hz y (by simp); omega
    · exact hr
end Go.St

/- Sorting, plain. -/
namespace Go.St

/-- the same elements; outside of a part nothing is changed -/
structure PermOn (xs ys : List Nat) (a b : Nat) : Prop where
  p : ys.Perm xs
  o : ∀ i, i < a ∨ b ≤ i → ys[i]? = xs[i]?
def SortedOn (xs : List Nat) (a b : Nat) : Prop := ∀ i j x y, a ≤ i → i < j → j < b → xs[i]? = some x → xs[j]? = some y → x ≤ y
theorem PermOn.refl {xs : List Nat} {a b : Nat} : PermOn xs xs a b := ⟨.refl _, fun _ _ => rfl⟩
theorem PermOn.len {xs ys : List Nat} {a b : Nat} (h : PermOn xs ys a b) : ys.length = xs.length := h.p.length_eq
theorem PermOn.trans {xs ys zs : List Nat} {a b : Nat} (h1 : PermOn xs ys a b) (h2 : PermOn ys zs a b) : PermOn xs zs a b := ⟨h2.p.trans h1.p, fun i hi => (h2.o i hi).trans (h1.o i hi)⟩
theorem set_swap_perm : ∀ {xs : List Nat} {i j x y : Nat}, i < j → xs[i]? = some x → xs[j]? = some y → ((xs.set j x).set i y).Perm xs
  | [], i, j, x, y, _, h, _ => by simp at h
  | z :: xs, 0, j + 1, x, y, _, hi, hj => by
    simp only [List.getElem?_cons_zero, Option.some.injEq] at hi
    subst hi
    simp only [List.getElem?_cons_succ] at hj
    simp only [List.set_cons_succ, List.set_cons_zero]
    have hl := (List.getElem?_eq_some_iff.1 hj)
    obtain ⟨hl, rfl⟩ := hl
    have e1 : xs = xs.take j ++ xs[j] :: xs.drop (j + 1) := by simp
    have e2 : xs.set j z = xs.take j ++ z :: xs.drop (j + 1) := by rw [List.set_eq_take_append_cons_drop, if_pos hl]
    rw [e2]
    conv => rhs; rw [e1]
    refine ((List.perm_middle (a := z) (l₁ := xs.take j) (l₂ := xs.drop (j + 1))).cons _).trans ?_
    refine (List.Perm.swap _ _ _).trans ?_
    exact ((List.perm_middle (a := xs[j]) (l₁ := xs.take j) (l₂ := xs.drop (j + 1))).symm).cons _
  | z :: xs, i + 1, j + 1, x, y, h, hi, hj => by
    simp only [List.getElem?_cons_succ] at hi hj
    simp only [List.set_cons_succ]
    exact (set_swap_perm (by omega) hi hj).cons _
theorem PermOn.swap {xs ys : List Nat} {a b i j x y : Nat} (h : PermOn xs ys a b) (hij : i < j) (ha : a ≤ i) (hb : j < b) (hi : ys[i]? = some x) (hj : ys[j]? = some y) : PermOn xs ((ys.set j x).set i y) a b := by
  refine ⟨(set_swap_perm hij hi hj).trans h.p, fun k hk => ?_⟩
  rw [List.getElem?_set_ne (by omega), List.getElem?_set_ne (by omega)]
  exact h.o k hk
/-- sorted but for what stands at j -/
def SortedBut (xs : List Nat) (a b j : Nat) : Prop := ∀ p q x y, a ≤ p → p < q → q < b → q ≠ j → xs[p]? = some x → xs[q]? = some y → x ≤ y
theorem SortedBut.step {xs : List Nat} {a b j x y : Nat} (h : SortedBut xs a b (j + 1)) (ha : a ≤ j) (hb : j + 1 < b) (hx : xs[j]? = some x) (hy : xs[j + 1]? = some y) (hl : y < x) : SortedBut ((xs.set (j + 1) x).set j y) a b j := by
  intro p q u v hp hpq hq hqj hu hv
  have hlen := (List.getElem?_eq_some_iff.1 hy).1
  simp only [List.getElem?_set, List.length_set] at hu hv
  have := h p q
  by_cases e1 : q = j + 1
  · subst e1
    rw [if_neg (by omega), if_pos rfl, if_pos hlen] at hv
    cases hv
    by_cases e2 : p = j
    · subst e2
      rw [if_pos rfl, if_pos (by omega)] at hu; cases hu; omega
    · rw [if_neg (by omega), if_neg (by omega)] at hu
      exact h p j u x hp (by omega) (by omega) (by omega) hu hx
  · rw [if_neg (by omega), if_neg (by omega)] at hv
    by_cases e2 : p = j
    · subst e2
      rw [if_pos rfl, if_pos (by omega)] at hu; cases hu
      exact h (p + 1) q y v (by omega) (by omega) hq e1 hy hv
    · rw [if_neg (by omega)] at hu
      by_cases e3 : p = j + 1
      · subst e3
        rw [if_pos rfl, if_pos hlen] at hu; cases hu
        exact h j q x v (by omega) (by omega) hq e1 hx hv
      · rw [if_neg (by omega)] at hu
        exact h p q u v hp hpq hq e1 hu hv
theorem SortedBut.done {xs : List Nat} {a b j x y : Nat} (h : SortedBut xs a b (j + 1)) (_ : a ≤ j) (hx : xs[j]? = some x) (hy : xs[j + 1]? = some y) (hl : ¬ y < x) : SortedOn xs a b := by
  intro p q u v hp hpq hq hu hv
  by_cases e1 : q = j + 1
  · subst e1
    rw [hy] at hv; cases hv
    by_cases e2 : p = j
    · subst e2; rw [hx] at hu; cases hu; omega
    · have := h p j u x hp (by omega) (by omega) (by omega) hu hx; omega
  · exact h p q u v hp hpq hq e1 hu hv
theorem SortedBut.first {xs : List Nat} {a b : Nat} (h : SortedBut xs a b a) : SortedOn xs a b := fun p q u v hp hpq hq hu hv => h p q u v hp hpq hq (by omega) hu hv
theorem SortedOn.next {xs : List Nat} {a b : Nat} (h : SortedOn xs a b) : SortedBut xs a (b + 1) b := fun p q u v hp hpq hq hne hu hv => h p q u v hp hpq (by omega) hu hv
theorem SortedOn.asc {xs : List Nat} (h : SortedOn xs 0 xs.length) : xs.Pairwise (· ≤ ·) := by
  rw [List.pairwise_iff_getElem]
  intro i j hi hj hij
  exact h i j _ _ (Nat.zero_le _) hij hj (List.getElem?_eq_getElem hi) (List.getElem?_eq_getElem hj)
end Go.St

/- Contracts: slices of keys. -/
namespace Go.St
open Go Go.Proofs
attribute [local irreducible] stP alP drP stCs lI64 lU64 lU8 lB lP lL lR AppV ClrV

section
variable {w : World} {M : List HP} {F : HP → List HP} {a : Option Addr} {l c : Nat} {xs : List Nat}
end
end Go.St

/- Contracts: trees by six bits: an empty one, and its first key. -/
namespace Go.St
open Go Go.Proofs
attribute [local irreducible] stP alP drP stCs lI64 lU64 lU8 lB lP lL lR AppV ClrV

/-- a tree of which we know but the limit, how many nodes and how many keys it has -/
structure TE where
  lim : Nat
  used : Nat
  n : Nat
def TrieE (t : Nat) (s : TE) : HP := ex fun (m : Nat) => ex fun (p : Nat) => ex fun (f : Nat → Option TNd) => ex fun (root : Int) =>
  seps [blk t [.pointer (some ⟨m, 0, none⟩), .pointer (some ⟨p, 0, none⟩), .int .i64 root, .int .i64 (s.n : Int)], Mtr m (), PoolR eTNd p ⟨m, f, s.used, s.lim⟩]
section
variable {w : World} {t : Nat} {s : TE} {M : List HP}
theorem TrieE.un (h : Sat w (TrieE t s :: M)) : ∃ m p f root, Sat w (blk t [.pointer (some ⟨m, 0, none⟩), .pointer (some ⟨p, 0, none⟩), .int .i64 root, .int .i64 (s.n : Int)] :: Mtr m () :: PoolR eTNd p ⟨m, f, s.used, s.lim⟩ :: M) := by
  obtain ⟨m, h⟩ := Sat.ex.1 h; obtain ⟨p, h⟩ := Sat.ex.1 h; obtain ⟨f, h⟩ := Sat.ex.1 h; obtain ⟨r, h⟩ := Sat.ex.1 h
  exact ⟨m, p, f, r, Sat.seps.1 h⟩
theorem TrieE.mk {m p : Nat} {f : Nat → Option TNd} {root : Int} (h : Sat w (blk t [.pointer (some ⟨m, 0, none⟩), .pointer (some ⟨p, 0, none⟩), .int .i64 root, .int .i64 (s.n : Int)] :: Mtr m () :: PoolR eTNd p ⟨m, f, s.used, s.lim⟩ :: M)) : Sat w (TrieE t s :: M) :=
  Sat.ex.2 ⟨m, Sat.ex.2 ⟨p, Sat.ex.2 ⟨f, Sat.ex.2 ⟨root, Sat.seps.2 h⟩⟩⟩⟩
theorem trie_New_spec {n : Int} {K : Option Addr → Int → World → Prop} (h : Sat w M) (k0 : ¬ (0 ≤ n ∧ n ≤ 1048576) → ∀ w', Sat w' M → K none 1 w')
    (k1 : 0 ≤ n → n ≤ 1048576 → ∀ t w', Sat w' (TrieE t ⟨n.toNat, 0, 0⟩ :: M) → K (some ⟨t, 0, none⟩) 0 w') : trie_New.C n w K := by
  apply trie_New.ok
  refine count_New_spec h fun m w h => ?_
  refine pool_New_trie_node_spec h (fun h0 => ?_) fun h1 h2 p w h => ?_
  · exact cond_t rfl (k0 h0 _ h.drop)
  refine cond_f rfl ?_
  refine alP.of h fun t w h => ?_
  exact k1 h1 h2 t w (TrieE.mk (f := fun _ => none) (root := 0) (h.pull 2 |>.pull 1))
theorem trie_at_spec {k n : Int} {K : Int → World → Prop} (h0 : 0 ≤ n) (h1 : n ≤ 10) (q : ∀ d, K d w) : trie_at.C k n w K := by
  apply trie_at.ok
  unfold trie_at.F
  rw [w64_id (x := 6 * n) (by omega) (by omega), w64_id (by omega) (by omega)]
  exact shP_of (by omega) (q _)
/-- what is put into a list of none -/
theorem insert_none_spec {x n : Int} {r : Nat} {K : Option Addr → Nat → Nat → World → Prop} (h : Sat w (blk r [.int .i64 x] :: M)) (hn : n = 0) (q : ∀ a l c w', Sat w' (blk r [.int .i64 x] :: M) → K a l c w') : slices_Insert_int_int.C none 0 0 n (some ⟨r, 0, none⟩) 1 1 w K := by
  subst hn
  apply slices_Insert_int_int.ok
  refine ⟨by omega, by omega, ?_⟩
  refine cond_f rfl (cond_t rfl ?_)
  have hok : appOk prog #[22, 22] eI64.sz 8 = true := by kernel_rfl
  refine AppV.own (E := eI64) (a := none) (l := 0) (c := 0) (xs := []) (ys := [x]) (Own.nil (E := eI64) h) hok (Reads.own (E := eI64) (ys := [x]) (b := r) (Own.nil (E := eI64) h) (List.prefix_refl _)) rfl (by omega) (by decide) fun a c w h => ?_
  refine ⟨a, _, c, rfl, ?_⟩
  exact q _ _ _ _ h.drop
end
end Go.St

/- Contracts: pools. (printed by pool.py) -/
namespace Go.St
open Go Go.Proofs
attribute [local irreducible] stP alP drP stCs lI64 lU64 lB lP lL lR AppV ClrV
/-! pools of YCl -/
structure YCl where
  rep : Int
  keysa : Option Addr
  keysl : Nat
  keysc : Nat
  prev : Int
  next : Int
def eYCl : Enc YCl := ⟨fun x => [.int .u64 x.rep, .slice x.keysa x.keysl x.keysc, .int .i64 x.prev, .int .i64 x.next], 4, by decide, fun _ => rfl, fun x v h => by
  simp only [List.mem_cons, List.not_mem_nil, or_false] at h
  rcases h with rfl | rfl | rfl | rfl <;> rfl⟩
def YCl.zero : YCl := ⟨0, none, 0, 0, 0, 0⟩
section
variable {w : World} {L : List HP} {p : Nat} {s : Pl YCl} {F : HP → List HP} [i : Foc (PoolR eYCl) p s L F]
include i
end
theorem pool_New_yfast_cell_spec {w : World} {L : List HP} {m : Nat} {n : Int} {K : Option Addr → Int → World → Prop} (h : Sat w L) (k0 : ¬ (0 ≤ n ∧ n ≤ 1048576) → K none 1 w)
    (k1 : 0 ≤ n → n ≤ 1048576 → ∀ p w', Sat w' (PoolR eYCl p ⟨m, fun _ => none, 0, n.toNat⟩ :: L) → K (some ⟨p, 0, none⟩) 0 w') : pool_New_yfast_cell.C (some ⟨m, 0, none⟩) n w K := by
  apply pool_New_yfast_cell.ok
  refine cond_c (fun h0 => ?_) fun h0 => ?_
  · simp at h0; exact k0 (by omega)
  refine cond_c (fun h1 => ?_) fun h1 => ?_
  · simp at h1; exact k0 (by omega)
  simp at h0 h1
  refine cond_f rfl ?_
  refine alP.of h fun r w h => ?_
  refine k1 h0 h1 r _ ?_
  refine PoolR.mk (s := ⟨m, fun _ => none, 0, n.toNat⟩) (PlOk.new m n.toNat (by omega)) (ca := none) (cl := 0) (cc := 0) (fa := none) (fl := 0) (fc := 0) ?_
  have h := Own.nil (E := eYCl.flag) (Own.nil (E := eNat) h)
  have h := (h.pull 2)
  simpa [pullL, show ((n.toNat : Nat) : Int) = n by omega] using h

end Go.St

/- Contracts: pools. (printed by pool.py) -/
namespace Go.St
open Go Go.Proofs
attribute [local irreducible] stP alP drP stCs lI64 lU64 lB lP lL lR AppV ClrV
/-! pools of CLk -/
structure CLk where
  key : Int
  prev : Int
  next : Int
def eCLk : Enc CLk := ⟨fun x => [.int .u64 x.key, .int .i64 x.prev, .int .i64 x.next], 3, by decide, fun _ => rfl, fun x v h => by
  simp only [List.mem_cons, List.not_mem_nil, or_false] at h
  rcases h with rfl | rfl | rfl <;> rfl⟩
def CLk.zero : CLk := ⟨0, 0, 0⟩
section
variable {w : World} {L : List HP} {p : Nat} {s : Pl CLk} {F : HP → List HP} [i : Foc (PoolR eCLk) p s L F]
include i
end
theorem pool_New_chain_link_spec {w : World} {L : List HP} {m : Nat} {n : Int} {K : Option Addr → Int → World → Prop} (h : Sat w L) (k0 : ¬ (0 ≤ n ∧ n ≤ 1048576) → K none 1 w)
    (k1 : 0 ≤ n → n ≤ 1048576 → ∀ p w', Sat w' (PoolR eCLk p ⟨m, fun _ => none, 0, n.toNat⟩ :: L) → K (some ⟨p, 0, none⟩) 0 w') : pool_New_chain_link.C (some ⟨m, 0, none⟩) n w K := by
  apply pool_New_chain_link.ok
  refine cond_c (fun h0 => ?_) fun h0 => ?_
  · simp at h0; exact k0 (by omega)
  refine cond_c (fun h1 => ?_) fun h1 => ?_
  · simp at h1; exact k0 (by omega)
  simp at h0 h1
  refine cond_f rfl ?_
  refine alP.of h fun r w h => ?_
  refine k1 h0 h1 r _ ?_
  refine PoolR.mk (s := ⟨m, fun _ => none, 0, n.toNat⟩) (PlOk.new m n.toNat (by omega)) (ca := none) (cl := 0) (cc := 0) (fa := none) (fl := 0) (fc := 0) ?_
  have h := Own.nil (E := eCLk.flag) (Own.nil (E := eNat) h)
  have h := (h.pull 2)
  simpa [pullL, show ((n.toNat : Nat) : Int) = n by omega] using h

end Go.St

/- Contracts: pools. (printed by pool.py) -/
namespace Go.St
open Go Go.Proofs
attribute [local irreducible] stP alP drP stCs lI64 lU64 lB lP lL lR AppV ClrV
/-! pools of UCl -/
structure UCl where
  n : Int
def eUCl : Enc UCl := ⟨fun x => [.int .u64 x.n], 1, by decide, fun _ => rfl, fun x v h => by
  simp only [List.mem_cons, List.not_mem_nil, or_false] at h
  rcases h with rfl <;> rfl⟩
def UCl.zero : UCl := ⟨0⟩
section
variable {w : World} {L : List HP} {p : Nat} {s : Pl UCl} {F : HP → List HP} [i : Foc (PoolR eUCl) p s L F]
include i
end
theorem pool_New_uint64_spec {w : World} {L : List HP} {m : Nat} {n : Int} {K : Option Addr → Int → World → Prop} (h : Sat w L) (k0 : ¬ (0 ≤ n ∧ n ≤ 1048576) → K none 1 w)
    (k1 : 0 ≤ n → n ≤ 1048576 → ∀ p w', Sat w' (PoolR eUCl p ⟨m, fun _ => none, 0, n.toNat⟩ :: L) → K (some ⟨p, 0, none⟩) 0 w') : pool_New_uint64.C (some ⟨m, 0, none⟩) n w K := by
  apply pool_New_uint64.ok
  refine cond_c (fun h0 => ?_) fun h0 => ?_
  · simp at h0; exact k0 (by omega)
  refine cond_c (fun h1 => ?_) fun h1 => ?_
  · simp at h1; exact k0 (by omega)
  simp at h0 h1
  refine cond_f rfl ?_
  refine alP.of h fun r w h => ?_
  refine k1 h0 h1 r _ ?_
  refine PoolR.mk (s := ⟨m, fun _ => none, 0, n.toNat⟩) (PlOk.new m n.toNat (by omega)) (ca := none) (cl := 0) (cc := 0) (fa := none) (fl := 0) (fc := 0) ?_
  have h := Own.nil (E := eUCl.flag) (Own.nil (E := eNat) h)
  have h := (h.pull 2)
  simpa [pullL, show ((n.toNat : Nat) : Int) = n by omega] using h

end Go.St

/- Contracts: pools. (printed by pool.py) -/
namespace Go.St
open Go Go.Proofs
attribute [local irreducible] stP alP drP stCs lI64 lU64 lB lP lL lR AppV ClrV
/-! pools of VNd -/
structure VNd where
  mn : Int
  mx : Int
  sum : Int
  bits : Int
def eVNd : Enc VNd := ⟨fun x => [.int .u64 x.mn, .int .u64 x.mx, .int .i64 x.sum, .int .u64 x.bits], 4, by decide, fun _ => rfl, fun x v h => by
  simp only [List.mem_cons, List.not_mem_nil, or_false] at h
  rcases h with rfl | rfl | rfl | rfl <;> rfl⟩
def VNd.zero : VNd := ⟨0, 0, 0, 0⟩
section
variable {w : World} {L : List HP} {p : Nat} {s : Pl VNd} {F : HP → List HP} [i : Foc (PoolR eVNd) p s L F]
include i
end
theorem pool_New_veb_node_spec {w : World} {L : List HP} {m : Nat} {n : Int} {K : Option Addr → Int → World → Prop} (h : Sat w L) (k0 : ¬ (0 ≤ n ∧ n ≤ 1048576) → K none 1 w)
    (k1 : 0 ≤ n → n ≤ 1048576 → ∀ p w', Sat w' (PoolR eVNd p ⟨m, fun _ => none, 0, n.toNat⟩ :: L) → K (some ⟨p, 0, none⟩) 0 w') : pool_New_veb_node.C (some ⟨m, 0, none⟩) n w K := by
  apply pool_New_veb_node.ok
  refine cond_c (fun h0 => ?_) fun h0 => ?_
  · simp at h0; exact k0 (by omega)
  refine cond_c (fun h1 => ?_) fun h1 => ?_
  · simp at h1; exact k0 (by omega)
  simp at h0 h1
  refine cond_f rfl ?_
  refine alP.of h fun r w h => ?_
  refine k1 h0 h1 r _ ?_
  refine PoolR.mk (s := ⟨m, fun _ => none, 0, n.toNat⟩) (PlOk.new m n.toNat (by omega)) (ca := none) (cl := 0) (cc := 0) (fa := none) (fl := 0) (fc := 0) ?_
  have h := Own.nil (E := eVNd.flag) (Own.nil (E := eNat) h)
  have h := (h.pull 2)
  simpa [pullL, show ((n.toNat : Nat) : Int) = n by omega] using h

end Go.St

/- Contracts: trees that halve their bits, the plain part. -/
namespace Go.St
open Go

structure VM where
  lev : Nat
  mn : Nat
  mx : Nat
  sum : Int
  bits : Nat
  cl : Nat → Option Nat
def wdt (L : Nat) : Nat := 2 ^ (L + 2)
def UL (L : Nat) : Nat := 2 ^ wdt L
theorem UL_pos (L : Nat) : 0 < UL L := Nat.two_pow_pos _
theorem UL_zero : UL 0 = 16 := by decide
structure Clu where
  h : Nat
  c : Nat
  S : Nat → Prop
  own : List Nat
  e : Nat
/-- what lies inside a node: its summary and its clusters -/
inductive IN (R : Nat → (Nat → Prop) → List Nat → Nat → Prop) (L : Nat) (sum : Int) (cl : Nat → Option Nat) (Q : Nat → Prop) (ow : List Nat) (e : Nat) : Prop where
  | none : sum = -1 → (∀ h, cl h = none) → (∀ k, ¬ Q k) → ow = [] → e = 0 → IN R L sum cl Q ow e
  | some (s : Nat) (Ss : Nat → Prop) (os : List Nat) (es : Nat) (cs : List Clu) : sum = (s : Int) → R s Ss os es → (∀ c ∈ cs, R c.c c.S c.own c.e ∧ c.h < UL L) → (cs.map (·.h)).Nodup →
      (∀ h, Ss h ↔ ∃ c ∈ cs, c.h = h) → (∀ h j, cl h = Option.some j ↔ ∃ c ∈ cs, c.h = h ∧ c.c = j) → (∀ k, Q k ↔ ∃ c ∈ cs, c.h = k / UL L ∧ c.S (k % UL L)) →
      ow = os ++ cs.flatMap (·.own) → ow.Nodup → e = es + cs.length + (cs.map (·.e)).sum → IN R L sum cl Q ow e
/-- a node stands for a set -/
def VR (M : Nat → Option VM) : Nat → Nat → (Nat → Prop) → List Nat → Nat → Prop
  | 0, i, S, own, e => ∃ x, M i = some x ∧ x.lev = 0 ∧ x.mn = 0 ∧ x.mx = 0 ∧ x.sum = -1 ∧ (∀ h, x.cl h = none) ∧ x.bits ≠ 0 ∧ x.bits < 65536 ∧ (∀ k, S k ↔ x.bits.testBit k = true) ∧ own = [i] ∧ e = 0
  | L + 1, i, S, own, e => ∃ x Q ow, M i = some x ∧ x.lev = L + 1 ∧ x.bits = 0 ∧ x.mn ≤ x.mx ∧ x.mx < UL (L + 1) ∧ IN (VR M L) L x.sum x.cl Q ow e ∧
      (∀ y, Q y → x.mn < y ∧ y < x.mx) ∧ (∀ k, S k ↔ k = x.mn ∨ k = x.mx ∨ Q k) ∧ own = i :: ow ∧ i ∉ ow
theorem IN.mono {R R' : Nat → (Nat → Prop) → List Nat → Nat → Prop} {L : Nat} {sum : Int} {cl : Nat → Option Nat} {Q : Nat → Prop} {ow : List Nat} {e : Nat} (h : IN R L sum cl Q ow e)
    (hm : ∀ i S own e, (∀ j ∈ own, j ∈ ow) → R i S own e → R' i S own e) : IN R' L sum cl Q ow e := by
  cases h with
  | none h1 h2 h3 h4 h5 => exact .none h1 h2 h3 h4 h5
  | some s Ss os es cs h1 h2 h3 h4 h5 h6 h7 h8 h9 h10 =>
    refine .some s Ss os es cs h1 (hm _ _ _ _ (fun j hj => by rw [h8]; exact List.mem_append_left _ hj) h2) (fun c hc => ⟨hm _ _ _ _ (fun j hj => by rw [h8]; exact List.mem_append_right _ (List.mem_flatMap.2 ⟨c, hc, hj⟩)) (h3 c hc).1, (h3 c hc).2⟩) h4 h5 h6 h7 h8 h9 h10
theorem VR.frame {M M' : Nat → Option VM} : ∀ {L i : Nat} {S : Nat → Prop} {own : List Nat} {e : Nat}, VR M L i S own e → (∀ j ∈ own, M' j = M j) → VR M' L i S own e
  | 0, i, S, own, e, h, hf => by
    obtain ⟨x, h1, h2⟩ := h
    refine ⟨x, ?_, h2⟩
    rw [hf i (by rw [h2.2.2.2.2.2.2.2.2.1]; simp)]; exact h1
  | L + 1, i, S, own, e, h, hf => by
    obtain ⟨x, Q, ow, h1, h2, h3, h4, h5, h6, h7, h8, h9, h10⟩ := h
    refine ⟨x, Q, ow, by rw [hf i (by rw [h9]; simp)]; exact h1, h2, h3, h4, h5, ?_, h7, h8, h9, h10⟩
    exact h6.mono fun i S own e hsub hr => VR.frame hr fun j hj => hf j (by rw [h9]; exact List.mem_cons_of_mem _ (hsub j hj))
theorem VR.live {M : Nat → Option VM} : ∀ {L i : Nat} {S : Nat → Prop} {own : List Nat} {e : Nat}, VR M L i S own e → (∀ j ∈ own, M j ≠ none) ∧ own.Nodup ∧ (∃ k, S k) ∧ (∀ k, S k → k < UL L)
  | 0, i, S, own, e, h => by
    obtain ⟨x, h1, h2, h3, h4, h5, h6, h7, h8, h9, rfl, h11⟩ := h
    refine ⟨fun j hj => by simp at hj; subst hj; rw [h1]; simp, by simp, ?_, fun k hk => ?_⟩
    · obtain ⟨k, hk⟩ := Nat.exists_testBit_of_ne_zero h7
      exact ⟨k, (h9 k).2 hk⟩
    · rw [h9] at hk
      have := Nat.ge_two_pow_of_testBit hk
      rw [UL_zero]
      rcases Nat.lt_or_ge k 16 with h | h
      · exact h
      · have h2 : 2 ^ 16 ≤ 2 ^ k := Nat.pow_le_pow_right (by decide) h
        omega
  | L + 1, i, S, own, e, h => by
    obtain ⟨x, Q, ow, h1, h2, h3, h4, h5, h6, h7, h8, rfl, h10⟩ := h
    have hin : (∀ j ∈ ow, M j ≠ none) ∧ ow.Nodup := by
      cases h6 with
      | none _ _ _ h _ => subst h; exact ⟨fun j hj => by simp at hj, List.nodup_nil⟩
      | some s Ss os es cs g1 g2 g3 g4 g5 g6 g7 g8 g9 g10 =>
        refine ⟨fun j hj => ?_, g9⟩
        rw [g8, List.mem_append, List.mem_flatMap] at hj
        rcases hj with hj | ⟨c, hc, hj⟩
        · exact (VR.live g2).1 j hj
        · exact (VR.live (g3 c hc).1).1 j hj
    refine ⟨fun j hj => ?_, List.nodup_cons.2 ⟨h10, hin.2⟩, ⟨x.mn, (h8 _).2 (.inl rfl)⟩, fun k hk => ?_⟩
    · rcases List.mem_cons.1 hj with rfl | hj
      · rw [h1]; simp
      · exact hin.1 j hj
    · rcases (h8 k).1 hk with rfl | rfl | hq
      · omega
      · exact h5
      · have := h7 k hq; omega
theorem VR.congr {M : Nat → Option VM} {L i : Nat} {S S' : Nat → Prop} {own : List Nat} {e : Nat} (h : VR M L i S own e) (hs : ∀ k, S k ↔ S' k) : VR M L i S' own e := by
  cases L with
  | zero =>
    obtain ⟨x, h1, h2, h3, h4, h5, h6, h7, h8, h9, h10, h11⟩ := h
    exact ⟨x, h1, h2, h3, h4, h5, h6, h7, h8, fun k => by rw [← hs, h9], h10, h11⟩
  | succ L =>
    obtain ⟨x, Q, ow, h1, h2, h3, h4, h5, h6, h7, h8, h9, h10⟩ := h
    exact ⟨x, Q, ow, h1, h2, h3, h4, h5, h6, h7, fun k => by rw [← hs, h8], h9, h10⟩
theorem IN.congr {R : Nat → (Nat → Prop) → List Nat → Nat → Prop} {L : Nat} {sum : Int} {cl : Nat → Option Nat} {Q Q' : Nat → Prop} {ow : List Nat} {e : Nat} (h : IN R L sum cl Q ow e) (hq : ∀ k, Q k ↔ Q' k) : IN R L sum cl Q' ow e := by
  cases h with
  | none h1 h2 h3 h4 h5 => exact .none h1 h2 (fun k => by rw [← hq]; exact h3 k) h4 h5
  | some s Ss os es cs h1 h2 h3 h4 h5 h6 h7 h8 h9 h10 => exact .some s Ss os es cs h1 h2 h3 h4 h5 h6 (fun k => by rw [← hq]; exact h7 k) h8 h9 h10

/-- how many nodes more a key needs -/
def nd (M : Nat → Option VM) : Nat → Nat → Nat → Nat
  | 0, _, _ => 0
  | L + 1, i, k => match M i with
    | none => 0
    | some x => if x.mn = x.mx then 0 else
      let k' := if k < x.mn then x.mn else if x.mx < k then x.mx else k
      match x.cl (k' / UL L) with
      | some c => nd M L c (k' % UL L)
      | none => if x.sum = -1 then 2 else 1 + nd M L x.sum.toNat (k' / UL L)
theorem filter_len {α : Type} (p : α → Bool) : ∀ l : List α, (l.filter p).length + (l.filter fun k => !p k).length = l.length
  | [] => rfl
  | x :: l => by
    have := filter_len p l
    simp only [List.filter_cons]
    cases p x <;> simp <;> omega
theorem nodup_map {α β : Type} {f : α → β} {l : List α} (h : l.Nodup) (hf : ∀ a, a ∈ l → ∀ b, b ∈ l → f a = f b → a = b) : (l.map f).Nodup := by
  unfold List.Nodup at *
  rw [List.pairwise_map]
  exact h.imp_of_mem fun ha hb hne he => hne (hf _ ha _ hb he)
/-- how many nodes a tree has at most -/
theorem VR.bound {M : Nat → Option VM} : ∀ {L i : Nat} {S : Nat → Prop} {own : List Nat} {e : Nat}, VR M L i S own e → ∀ (l : List Nat), l.Nodup → (∀ k, S k ↔ k ∈ l) → own.length + L ≤ L * l.length + 1 ∧ e + 1 ≤ own.length
  | 0, i, S, own, e, h, l, hl, hs => by
    obtain ⟨x, h1, h2, h3, h4, h5, h6, h7, h8, h9, rfl, rfl⟩ := h
    simp
  | L + 1, i, S, own, e, h, l, hl, hs => by
    obtain ⟨x, Q, ow, h1, h2, h3, h4, h5, h6, h7, h8, rfl, h10⟩ := h
    have hmn : x.mn ∈ l := (hs _).1 ((h8 _).2 (.inl rfl))
    cases h6 with
    | none g1 g2 g3 g4 g5 =>
      subst g4 g5
      have : 1 ≤ l.length := List.length_pos_of_mem hmn
      refine ⟨?_, by simp⟩
      have := Nat.mul_le_mul_left (L + 1) this
      simp only [List.length_cons, List.length_nil]; omega
    | some s Ss os es cs g1 g2 g3 g4 g5 g6 g7 g8 g9 g10 =>
      -- the summary
      obtain ⟨a1, a2⟩ := VR.bound g2 (cs.map (·.h)) g4 (fun h => by rw [g5]; simp)
      rw [List.length_map] at a1
      -- the clusters, each with its part of the list
      have part : ∀ (ds : List Clu), (∀ c ∈ ds, VR M L c.c c.S c.own c.e ∧ c.h < UL L) → (ds.map (·.h)).Nodup → ∀ (q : List Nat), q.Nodup → (∀ k, (∃ c ∈ ds, c.h = k / UL L ∧ c.S (k % UL L)) ↔ k ∈ q) →
          (ds.flatMap (·.own)).length + L * ds.length ≤ L * q.length + ds.length ∧ (ds.map (·.e)).sum + ds.length ≤ (ds.flatMap (·.own)).length ∧ ds.length ≤ q.length := by
        intro ds
        induction ds with
        | nil => intro _ _ q _ _; simp
        | cons d ds ih =>
          intro hd hn q hq hk
          simp only [List.map_cons, List.nodup_cons] at hn
          have hU := UL_pos L
          let qa := q.filter fun k => decide (k / UL L = d.h)
          let qb := q.filter fun k => !decide (k / UL L = d.h)
          have hlen : qa.length + qb.length = q.length := by
            exact filter_len _ q
          have hb := ih (fun c hc => hd c (List.mem_cons_of_mem _ hc)) hn.2 qb (hq.filter _) (fun k => by
            simp only [qb, List.mem_filter, ← hk k]
            constructor
            · rintro ⟨c, hc, h1, h2⟩
              refine ⟨⟨c, List.mem_cons_of_mem _ hc, h1, h2⟩, ?_⟩
              have : k / UL L ≠ d.h := fun e => hn.1 (List.mem_map.2 ⟨c, hc, by rw [h1, e]⟩)
              simp [this]
            · rintro ⟨⟨c, hc, h1, h2⟩, h3⟩
              rcases List.mem_cons.1 hc with rfl | hc
              · simp [h1] at h3
              · exact ⟨c, hc, h1, h2⟩)
          obtain ⟨v1, v2⟩ := VR.bound (hd d (by simp)).1 (qa.map fun k => k % UL L) (by
              refine nodup_map (hq.filter _) ?_
              intro a ha b hb hab
              simp only [qa, List.mem_filter, decide_eq_true_eq] at ha hb
              rw [← Nat.div_add_mod a (UL L), ← Nat.div_add_mod b (UL L), ha.2, hb.2, hab]) (fun k => by
            simp only [List.mem_map, qa, List.mem_filter, decide_eq_true_eq]
            constructor
            · intro hS
              have hlt := (VR.live (hd d (by simp)).1).2.2.2 k hS
              refine ⟨d.h * UL L + k, ⟨(hk _).1 ⟨d, by simp, ?_, ?_⟩, ?_⟩, ?_⟩
              · rw [Nat.mul_comm, Nat.mul_add_div hU, Nat.div_eq_of_lt hlt, Nat.add_zero]
              · rw [Nat.mul_comm, Nat.mul_add_mod, Nat.mod_eq_of_lt hlt]; exact hS
              · rw [Nat.mul_comm, Nat.mul_add_div hU, Nat.div_eq_of_lt hlt, Nat.add_zero]
              · rw [Nat.mul_comm, Nat.mul_add_mod, Nat.mod_eq_of_lt hlt]
            · rintro ⟨a, ⟨ha, hd'⟩, rfl⟩
              obtain ⟨c, hc, h1, h2⟩ := (hk a).2 ha
              rcases List.mem_cons.1 hc with rfl | hc
              · exact h2
              · exact absurd (List.mem_map.2 ⟨c, hc, by rw [h1, hd']⟩) hn.1)
          rw [List.length_map] at v1
          have hqa : 1 ≤ qa.length := by
            obtain ⟨k, hS⟩ := (VR.live (hd d (by simp)).1).2.2.1
            have hlt := (VR.live (hd d (by simp)).1).2.2.2 k hS
            have hm : d.h * UL L + k ∈ qa := by
              simp only [qa, List.mem_filter, decide_eq_true_eq]
              refine ⟨(hk _).1 ⟨d, by simp, ?_, ?_⟩, ?_⟩
              · rw [Nat.mul_comm, Nat.mul_add_div hU, Nat.div_eq_of_lt hlt, Nat.add_zero]
              · rw [Nat.mul_comm, Nat.mul_add_mod, Nat.mod_eq_of_lt hlt]; exact hS
              · rw [Nat.mul_comm, Nat.mul_add_div hU, Nat.div_eq_of_lt hlt, Nat.add_zero]
            exact List.length_pos_of_mem hm
          obtain ⟨b1, b2, b3⟩ := hb
          simp only [List.flatMap_cons, List.length_append, List.length_cons, List.map_cons, List.sum_cons]
          refine ⟨?_, by omega, by omega⟩
          rw [← hlen, Nat.mul_add L qa.length, Nat.mul_add L ds.length, Nat.mul_one]
          omega
      -- the inner keys
      let q := l.filter fun k => !decide (k = x.mn) && !decide (k = x.mx)
      obtain ⟨p1, p2, p3⟩ := part cs g3 g4 q (hl.filter _) (fun k => by
        rw [← g7]
        simp only [q, List.mem_filter, ← hs, h8]
        constructor
        · intro hQ
          have := h7 k hQ
          refine ⟨.inr (.inr hQ), ?_⟩
          have h1 : k ≠ x.mn := by omega
          have h2 : k ≠ x.mx := by omega
          simp [h1, h2]
        · rintro ⟨rfl | rfl | hQ, h3⟩
          · simp at h3
          · simp at h3
          · exact hQ)
      have hne : x.mn ≠ x.mx := by
        obtain ⟨h, hh⟩ := (VR.live g2).2.2.1
        obtain ⟨c, hc, rfl⟩ := (g5 h).1 hh
        obtain ⟨k, hk⟩ := (VR.live (g3 c hc).1).2.2.1
        have hlt := (VR.live (g3 c hc).1).2.2.2 k hk
        have hU := UL_pos L
        have := h7 (c.h * UL L + k) ((g7 _).2 ⟨c, hc, by rw [Nat.mul_comm, Nat.mul_add_div hU, Nat.div_eq_of_lt hlt, Nat.add_zero], by rw [Nat.mul_comm, Nat.mul_add_mod, Nat.mod_eq_of_lt hlt]; exact hk⟩)
        omega
      have hmx : x.mx ∈ l := (hs _).1 ((h8 _).2 (.inr (.inl rfl)))
      have hql : q.length + 2 ≤ l.length := by
        have hsub : (x.mn :: x.mx :: q) ⊆ l := fun a ha => by
          rcases List.mem_cons.1 ha with rfl | ha
          · exact hmn
          · rcases List.mem_cons.1 ha with rfl | ha
            · exact hmx
            · exact (List.mem_filter.1 ha).1
        have hnd : (x.mn :: x.mx :: q).Nodup := List.nodup_cons.2 ⟨fun hm => by
          rcases List.mem_cons.1 hm with h | hm
          · exact hne h
          · simp [q] at hm, List.nodup_cons.2 ⟨fun hm => by simp [q] at hm, hl.filter _⟩⟩
        have := hnd.length_le_of_subset hsub
        simpa using this
      subst g8 g10
      simp only [List.length_cons, List.length_append]
      refine ⟨?_, by omega⟩
      have h1 : L * q.length + L ≤ L * l.length := by
        have := Nat.mul_le_mul_left L (show q.length + 1 ≤ l.length by omega)
        rw [Nat.mul_add, Nat.mul_one] at this; exact this
      have h2 : (L + 1) * l.length = L * l.length + l.length := by rw [Nat.add_mul, Nat.one_mul]
      rw [h2]
      generalize hX : L * l.length = X at h1 ⊢
      generalize hY : L * q.length = Y at h1 p1
      generalize hZ : L * cs.length = Z at a1 p1
      omega
end Go.St

/- Contracts: trees that halve their bits, the plain part: changes. -/
namespace Go.St
open Go

section
variable {R R' : Nat → (Nat → Prop) → List Nat → Nat → Prop} {L s : Nat} {sum : Int} {cl : Nat → Option Nat} {Q : Nat → Prop} {ow os : List Nat} {e es : Nat} {Ss : Nat → Prop} {A B : List Clu} {c c' : Clu}
end
/-- the least and the greatest key of a node -/
def VR.lo (x : VM) : Nat → Nat → Prop := fun L k => if L = 0 then x.bits.testBit k = true ∧ ∀ j, j < k → x.bits.testBit j = false else k = x.mn
theorem VR.node {M : Nat → Option VM} {L i : Nat} {S : Nat → Prop} {own : List Nat} {e : Nat} {x : VM} (h : VR M (L + 1) i S own e) (hx : M i = some x) :
    ∃ Q ow, x.lev = L + 1 ∧ x.bits = 0 ∧ x.mn ≤ x.mx ∧ x.mx < UL (L + 1) ∧ IN (VR M L) L x.sum x.cl Q ow e ∧
      (∀ y, Q y → x.mn < y ∧ y < x.mx) ∧ (∀ k, S k ↔ k = x.mn ∨ k = x.mx ∨ Q k) ∧ own = i :: ow ∧ i ∉ ow := by
  obtain ⟨y, Q, ow, h1, r⟩ := h
  rw [hx] at h1; cases h1
  exact ⟨Q, ow, r⟩
theorem VR.word {M : Nat → Option VM} {i : Nat} {S : Nat → Prop} {own : List Nat} {e : Nat} {x : VM} (h : VR M 0 i S own e) (hx : M i = some x) :
    x.lev = 0 ∧ x.mn = 0 ∧ x.mx = 0 ∧ x.sum = -1 ∧ (∀ h, x.cl h = none) ∧ x.bits ≠ 0 ∧ x.bits < 65536 ∧ (∀ k, S k ↔ x.bits.testBit k = true) ∧ own = [i] ∧ e = 0 := by
  obtain ⟨y, h1, r⟩ := h
  rw [hx] at h1; cases h1
  exact r
end Go.St

/- Contracts: trees that halve their bits. -/
namespace Go.St
open Go Go.Proofs
attribute [local irreducible] stP alP drP stCs lI64 lU64 lU8 lB lP lL lR AppV ClrV

structure VSt where
  M : Nat → Option VM
  n : Nat
  lim : Nat
  nt : Nat
  root : Int
  cnt : Int
  p : Nat
def VM.nd (x : VM) : VNd := ⟨x.mn, x.mx, x.sum, x.bits⟩
/-- pool and table hold what the model says -/
structure VRel (f : Nat → Option VNd) (g : Int → Int → Option Int) (M : Nat → Option VM) : Prop where
  f : ∀ i, f i = (M i).map VM.nd
  lt : ∀ i x, M i = some x → i < 1048576
  g : ∀ L i h : Nat, i < 1048576 → h < 4294967296 → g (wdt L : Nat) ((i * 4294967296 + h : Nat) : Int) = match M i with
    | some x => if x.lev = L then (x.cl h).map (fun c : Nat => (c : Int)) else none
    | none => none
def VebR (v : Nat) (x : VSt) : HP := ex fun (m : Nat) => ex fun (t : Nat) => ex fun (f : Nat → Option VNd) => ex fun (g : Int → Int → Option Int) =>
  sp (pur (VRel f g x.M)) (seps [blk v [.pointer (some ⟨m, 0, none⟩), .pointer (some ⟨x.p, 0, none⟩), .pointer (some ⟨t, 0, none⟩), .int .i64 x.root, .int .i64 x.cnt], Mtr m (), PoolR eVNd x.p ⟨m, f, x.n, x.lim⟩, TabR t ⟨m, g, x.nt⟩])
section
variable {w : World} {v : Nat} {x : VSt} {M : List HP}
theorem VebR.un (h : Sat w (VebR v x :: M)) : ∃ m t f g, VRel f g x.M ∧
    Sat w (blk v [.pointer (some ⟨m, 0, none⟩), .pointer (some ⟨x.p, 0, none⟩), .pointer (some ⟨t, 0, none⟩), .int .i64 x.root, .int .i64 x.cnt] :: Mtr m () :: PoolR eVNd x.p ⟨m, f, x.n, x.lim⟩ :: TabR t ⟨m, g, x.nt⟩ :: M) := by
  obtain ⟨m, h⟩ := Sat.ex.1 h; obtain ⟨t, h⟩ := Sat.ex.1 h; obtain ⟨f, h⟩ := Sat.ex.1 h; obtain ⟨g, h⟩ := Sat.ex.1 h
  obtain ⟨hR, h⟩ := Sat.pur.1 (Sat.sep.1 h)
  exact ⟨m, t, f, g, hR, Sat.seps.1 h⟩
theorem VebR.mk {m t : Nat} {f : Nat → Option VNd} {g : Int → Int → Option Int} (hR : VRel f g x.M)
    (h : Sat w (blk v [.pointer (some ⟨m, 0, none⟩), .pointer (some ⟨x.p, 0, none⟩), .pointer (some ⟨t, 0, none⟩), .int .i64 x.root, .int .i64 x.cnt] :: Mtr m () :: PoolR eVNd x.p ⟨m, f, x.n, x.lim⟩ :: TabR t ⟨m, g, x.nt⟩ :: M)) : Sat w (VebR v x :: M) :=
  Sat.ex.2 ⟨m, Sat.ex.2 ⟨t, Sat.ex.2 ⟨f, Sat.ex.2 ⟨g, Sat.sep.2 (Sat.pur.2 ⟨hR, Sat.seps.2 h⟩)⟩⟩⟩⟩
end
/-! ### halves of keys -/
section
variable {w : World} {L k : Nat} {K : Int → World → Prop}
end
section
variable {w : World} {v : Nat} {x : VSt} {L : List HP} {F : HP → List HP} [i : Foc VebR v x L F]
include i
end

theorem wdt_inj {a b : Nat} (h : ((wdt a : Nat) : Int) = ((wdt b : Nat) : Int)) : a = b := by
  have : wdt a = wdt b := by omega
  unfold wdt at this
  have := (Nat.pow_right_inj (by decide)).1 this
  omega
def VM.setCl (y : VM) (q : Nat) (o : Option Nat) : VM := { y with cl := fun h => if h = q then o else y.cl h }
section
variable {f : Nat → Option VNd} {g : Int → Int → Option Int} {M : Nat → Option VM} {n : Nat} {y : VM}
theorem VRel.upd (hR : VRel f g M) {o : Option VM} (hn : n < 1048576)
    (hg : ∀ L h : Nat, h < 4294967296 → (match M n with
      | some x => if x.lev = L then (x.cl h).map (fun c : Nat => (c : Int)) else none
      | none => none) = match o with
      | some x => if x.lev = L then (x.cl h).map (fun c : Nat => (c : Int)) else none
      | none => none) : VRel (Pl.up f n (o.map VM.nd)) g (Pl.up M n o) := by
  refine ⟨fun i => ?_, fun i x hx => ?_, fun L i h hi hh => ?_⟩
  · unfold Pl.up; split
    · rfl
    · exact hR.f i
  · unfold Pl.up at hx; split at hx
    · rename_i e; rw [e]; exact hn
    · exact hR.lt i x hx
  · rw [hR.g L i h hi hh]
    unfold Pl.up
    by_cases e : i = n
    · subst e; rw [if_pos rfl]; exact hg L h hh
    · rw [if_neg e]
theorem VRel.put (hR : VRel f g M) (hy : M n = some y) {y' : VM} (h1 : y'.lev = y.lev) (h2 : y'.cl = y.cl) : VRel (Pl.up f n (some y'.nd)) g (Pl.up M n (some y')) :=
  hR.upd (o := some y') (hR.lt n y hy) fun L h _ => by rw [hy]; simp only [h1, h2]
theorem VRel.alloc (hR : VRel f g M) (hn : n < 1048576) (hf : f n = none) {y' : VM} (h2 : ∀ h, y'.cl h = none) : M n = none ∧ VRel (Pl.up f n (some y'.nd)) g (Pl.up M n (some y')) := by
  have hM : M n = none := by
    have := hR.f n; rw [hf] at this
    cases e : M n with
    | none => rfl
    | some z => rw [e] at this; cases this
  exact ⟨hM, hR.upd (o := some y') hn fun L h _ => by rw [hM]; simp [h2]⟩
theorem VRel.free (hR : VRel f g M) (hy : M n = some y) (h2 : ∀ h, y.cl h = none) : VRel (Pl.up f n none) g (Pl.up M n none) :=
  hR.upd (o := none) (hR.lt n y hy) fun L h _ => by rw [hy]; simp [h2]
theorem VRel.tab (hR : VRel f g M) (hy : M n = some y) {q : Nat} (hq : q < 4294967296) (o : Option Nat) :
    VRel f (Tb.up g (wdt y.lev : Nat) ((n * 4294967296 + q : Nat)) (o.map fun c : Nat => (c : Int))) (Pl.up M n (some (y.setCl q o))) := by
  have hn := hR.lt n y hy
  refine ⟨fun i => ?_, fun i x hx => ?_, fun L i h hi hh => ?_⟩
  · unfold Pl.up; split
    · rename_i e; subst e; rw [hR.f, hy]; rfl
    · exact hR.f i
  · unfold Pl.up at hx; split at hx
    · rename_i e; rw [e]; exact hn
    · exact hR.lt i x hx
  · unfold Tb.up
    split
    · rename_i e
      obtain ⟨e1, e2⟩ := e
      have hL := wdt_inj e1
      have hin : i = n ∧ h = q := by omega
      obtain ⟨rfl, rfl⟩ := hin
      simp [Pl.up, VM.setCl, hL]
    · rename_i e
      rw [hR.g L i h hi hh]
      unfold Pl.up
      by_cases e1 : i = n
      · subst e1
        rw [hy, if_pos rfl]
        simp only [VM.setCl]
        by_cases hl : y.lev = L
        · subst hl
          have : h ≠ q := fun e2 => e ⟨rfl, by rw [e2]⟩
          simp [this]
        · simp [hl]
      · rw [if_neg e1]
end
end Go.St

/- Contracts: trees that halve their bits: need, put. -/
namespace Go.St
open Go Go.Proofs
attribute [local irreducible] stP alP drP stCs lI64 lU64 lU8 lB lP lL lR AppV ClrV

section
variable {v : Nat}
/-! ### one step of a change -/
/-- what putting a key does to a tree -/
structure PutPost (L i : Nat) (S : Nat → Prop) (own : List Nat) (e k : Nat) (M : Nat → Option VM) (n nt : Nat) (M' : Nat → Option VM) (n' nt' : Nat) (own' : List Nat) (e' : Nat) : Prop where
  vr : VR M' L i (fun y => S y ∨ y = k) own' e'
  f1 : ∀ j, j ∉ own → M j ≠ none → M' j = M j
  f2 : ∀ j ∈ own', j ∈ own ∨ M j = none
  cn : n' + own.length = n + own'.length
  ct : nt' + e = nt + e'
  nb : nt' ≤ nt + L
end
end Go.St

/- Contracts: trees that halve their bits: looking. -/
namespace Go.St
open Go Go.Proofs
attribute [local irreducible] stP alP drP stCs lI64 lU64 lU8 lB lP lL lR AppV ClrV

structure Ends (S : Nat → Prop) (lo hi : Nat) : Prop where
  ml : S lo
  mh : S hi
  all : ∀ z, S z → lo ≤ z ∧ z ≤ hi
/-- the table of the least bits lies there -/
def TbIn (R : List HP) : Prop := ∃ G, Foc Dbr () () R G
theorem TbIn.c {A : HP} {R : List HP} (h : TbIn R) : TbIn (A :: R) := by
  obtain ⟨G, h⟩ := h
  exact ⟨_, Foc.there (i := h)⟩
section
variable {v : Nat}
structure IsNext (S : Nat → Prop) (k r : Nat) : Prop where
  mem : S r
  ge : k ≤ r
  least : ∀ z, S z → k ≤ z → r ≤ z
structure IsPrev (S : Nat → Prop) (k r : Nat) : Prop where
  mem : S r
  le : r ≤ k
  most : ∀ z, S z → z ≤ k → z ≤ r
end
end Go.St

/- Contracts: trees that halve their bits: the whole. -/
namespace Go.St
open Go Go.Proofs
attribute [local irreducible] stP alP drP stCs lI64 lU64 lU8 lB lP lL lR AppV ClrV

/-- how many keys a tree has at most -/
theorem VR.cap {M : Nat → Option VM} : ∀ {L i : Nat} {S : Nat → Prop} {own : List Nat} {e : Nat}, VR M L i S own e → ∀ (l : List Nat), l.Nodup → (∀ k ∈ l, S k) → l.length ≤ 16 * own.length
  | 0, i, S, own, e, h, l, hl, hs => by
    have hlt := (VR.live h).2.2.2
    obtain ⟨x, h1, h2, h3, h4, h5, h6, h7, h8, h9, rfl, rfl⟩ := h
    have := hl.length_le_of_subset (l₂ := List.range 16) fun k hk => by have := hlt k (hs k hk); rw [UL_zero] at this; simpa using this
    simpa using this
  | L + 1, i, S, own, e, h, l, hl, hs => by
    obtain ⟨x, Q, ow, h1, h2, h3, h4, h5, h6, h7, h8, rfl, h10⟩ := h
    have two : ∀ q : List Nat, q.Nodup → (∀ k ∈ q, k = x.mn ∨ k = x.mx) → q.length ≤ 2 := fun q hq hk =>
      hq.length_le_of_subset (l₂ := [x.mn, x.mx]) fun k h => by simpa using hk k h
    have hsplit := filter_len (fun k => decide (k = x.mn) || decide (k = x.mx)) l
    have ha := two (l.filter fun k => decide (k = x.mn) || decide (k = x.mx)) (hl.filter _) fun k hk => by simpa using (List.mem_filter.1 hk).2
    have hq : ∀ k ∈ (l.filter fun k => !(decide (k = x.mn) || decide (k = x.mx))), Q k := fun k hk => by
      obtain ⟨h11, h12⟩ := List.mem_filter.1 hk
      rcases (h8 k).1 (hs k h11) with h | h | h
      · simp [h] at h12
      · simp [h] at h12
      · exact h
    have hn : (l.filter fun k => !(decide (k = x.mn) || decide (k = x.mx))).Nodup := hl.filter _
    generalize (l.filter fun k => !(decide (k = x.mn) || decide (k = x.mx))) = q at hsplit hq hn
    have hb : q.length ≤ 16 * ow.length := by
      cases h6 with
      | none g1 g2 g3 g4 g5 =>
        cases q with
        | nil => simp
        | cons k q => exact absurd (hq k (by simp)) (g3 k)
      | some s Ss os es cs g1 g2 g3 g4 g5 g6 g7 g8 g9 g10 =>
        have part : ∀ (ds : List Clu), (∀ c ∈ ds, VR M L c.c c.S c.own c.e) → ∀ (q : List Nat), q.Nodup → (∀ k ∈ q, ∃ c ∈ ds, c.h = k / UL L ∧ c.S (k % UL L)) → q.length ≤ 16 * (ds.flatMap (·.own)).length := by
          intro ds
          induction ds with
          | nil =>
            intro _ q _ hk
            cases q with
            | nil => simp
            | cons k q => obtain ⟨c, hc, _⟩ := hk k (by simp); cases hc
          | cons d ds ih =>
            intro hd q hq hk
            have hlen := filter_len (fun k => decide (k / UL L = d.h) && true) q
            have hP := fun k => Classical.propDecidable (k / UL L = d.h ∧ d.S (k % UL L))
            have hlen := filter_len (fun k => decide (k / UL L = d.h ∧ d.S (k % UL L))) q
            have h1 := VR.cap (hd d (by simp)) ((q.filter fun k => decide (k / UL L = d.h ∧ d.S (k % UL L))).map fun k => k % UL L) (by
              refine nodup_map (hq.filter _) ?_
              intro a ha b hb hab
              simp only [List.mem_filter, decide_eq_true_eq] at ha hb
              rw [← Nat.div_add_mod a (UL L), ← Nat.div_add_mod b (UL L), ha.2.1, hb.2.1, hab]) (fun k hk => by
              simp only [List.mem_map, List.mem_filter, decide_eq_true_eq] at hk
              obtain ⟨a, ⟨_, _, h2⟩, rfl⟩ := hk
              exact h2)
            have h2 := ih (fun c hc => hd c (List.mem_cons_of_mem _ hc)) (q.filter fun k => !decide (k / UL L = d.h ∧ d.S (k % UL L))) (hq.filter _) (fun k hk' => by
              obtain ⟨h3, h4⟩ := List.mem_filter.1 hk'
              obtain ⟨c, hc, h5, h6⟩ := hk k h3
              rcases List.mem_cons.1 hc with rfl | hc
              · simp [h5, h6] at h4
              · exact ⟨c, hc, h5, h6⟩)
            rw [List.length_map] at h1
            simp only [List.flatMap_cons, List.length_append]
            omega
        have := part cs (fun c hc => (g3 c hc).1) q hn fun k hk => (g7 k).1 (hq k hk)
        rw [g8, List.length_append]; omega
    simp only [List.length_cons]
    omega
structure KS where
  ks : List Nat
  lim : Nat
structure VebOk (x : VSt) (s : KS) : Prop where
  asc : Asc s.ks
  lt : ∀ k ∈ s.ks, k < 18446744073709551616
  cnt : x.cnt = s.ks.length
  lim : x.lim = s.lim
  llim : s.lim ≤ 1048576
  tree : s.ks = [] ∧ x.n = 0 ∧ x.nt = 0 ∧ (∀ i, x.M i = none) ∨ ∃ (i : Nat) (own : List Nat) (e : Nat), x.root = i ∧ VR x.M 4 i (· ∈ s.ks) own e ∧ x.n = own.length ∧ x.nt = e
def VebT (v : Nat) (s : KS) : HP := ex fun (x : VSt) => sp (pur (VebOk x s)) (VebR v x)
section
variable {w : World} {v : Nat} {s : KS} {M : List HP}
theorem VebT.un (h : Sat w (VebT v s :: M)) : ∃ x, VebOk x s ∧ Sat w (VebR v x :: M) := by
  obtain ⟨x, h⟩ := Sat.ex.1 h
  exact ⟨x, Sat.pur.1 (Sat.sep.1 h)⟩
theorem VebT.mk {x : VSt} (hx : VebOk x s) (h : Sat w (VebR v x :: M)) : Sat w (VebT v s :: M) := Sat.ex.2 ⟨x, Sat.sep.2 (Sat.pur.2 ⟨hx, h⟩)⟩
theorem VebOk.pos {x : VSt} (hx : VebOk x s) : (0 < s.ks.length) ↔ ∃ (i : Nat) (own : List Nat) (e : Nat), x.root = i ∧ VR x.M 4 i (· ∈ s.ks) own e ∧ x.n = own.length ∧ x.nt = e := by
  rcases hx.tree with ⟨h1, h2, h3, h4⟩ | h
  · constructor
    · rw [h1]; intro h; cases h
    · rintro ⟨i, own, e, _, hV, _⟩
      obtain ⟨k, hk⟩ := (VR.live hV).2.2.1
      exact List.length_pos_of_mem hk
  · constructor
    · exact fun _ => h
    · obtain ⟨i, own, e, _, hV, _⟩ := h
      obtain ⟨k, hk⟩ := (VR.live hV).2.2.1
      exact fun _ => List.length_pos_of_mem hk
theorem veb_New_spec {seed n : Int} {K : Option Addr → Int → World → Prop} (h : Sat w M) (k0 : ¬ (0 ≤ n ∧ n ≤ 1048576) → ∀ w', Sat w' M → K none 1 w')
    (k1 : 0 ≤ n → n ≤ 1048576 → ∀ v w', Sat w' (VebT v ⟨[], n.toNat⟩ :: M) → K (some ⟨v, 0, none⟩) 0 w') : veb_New.C seed n w K := by
  apply veb_New.ok
  refine count_New_spec h fun m w h => ?_
  refine pool_New_veb_node_spec h (fun h0 => ?_) fun h1 h2 p w h => ?_
  · exact cond_t rfl (k0 h0 _ h.drop)
  refine cond_f rfl ?_
  refine hash_New_spec h fun t w h => ?_
  refine alP.of h fun v w h => ?_
  refine k1 h1 h2 v w (VebT.mk (x := ⟨fun _ => none, 0, n.toNat, 0, -1, 0, p⟩) ⟨List.Pairwise.nil, fun k hk => (by cases hk), rfl, rfl, (by show n.toNat ≤ 1048576; omega), .inl ⟨rfl, rfl, rfl, fun _ => rfl⟩⟩ ?_)
  refine VebR.mk (m := m) (t := t) (f := fun _ => none) (g := fun _ _ => none) ⟨fun i => rfl, fun i x h => (by cases h), fun L i h _ _ => rfl⟩ ?_
  exact (((h.pull 1).pull 2).pull 3).pull 3
theorem VebOk.dec {x : VSt} (hx : VebOk x s) : decide (0 < x.cnt) = decide (0 < s.ks.length) := by rw [hx.cnt]; simp
end
end Go.St

