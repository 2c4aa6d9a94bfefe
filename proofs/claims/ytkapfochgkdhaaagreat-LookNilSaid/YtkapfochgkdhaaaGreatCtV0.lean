/- Contracts: trees that halve their bits, the plain part. -/
import Derived.Test.YtkapfochgkdhaaaGreatCtP0
import Derived.Test.YtkapfochgkdhaaaGreatCtH0
namespace Go.St
open Go

structure VM where
  lev : Nat
  mn : Nat
  mx : Nat
  sum : Int
  bits : Nat
  cl : Nat → Option Nat
def wdt (L : Nat) : Nat := 2 ^ (L + 2)
def UL (L : Nat) : Nat := 2 ^ wdt L
theorem UL_succ (L : Nat) : UL (L + 1) = UL L * UL L := by
  unfold UL wdt; rw [← Nat.pow_add]; congr 1; rw [show L + 1 + 2 = (L + 2) + 1 by omega, Nat.pow_succ]; omega
theorem UL_pos (L : Nat) : 0 < UL L := Nat.two_pow_pos _
theorem UL_zero : UL 0 = 16 := by decide
theorem UL_le {L : Nat} (h : L ≤ 3) : UL L ≤ 4294967296 := by
  have : L = 0 ∨ L = 1 ∨ L = 2 ∨ L = 3 := by omega
  rcases this with rfl | rfl | rfl | rfl <;> decide
theorem UL_le4 {L : Nat} (h : L ≤ 4) : UL L ≤ 18446744073709551616 := by
  have : L = 0 ∨ L = 1 ∨ L = 2 ∨ L = 3 ∨ L = 4 := by omega
  rcases this with rfl | rfl | rfl | rfl | rfl <;> decide
theorem UL_div {L k : Nat} (h : k < UL (L + 1)) : k / UL L < UL L := by rw [UL_succ] at h; exact Nat.div_lt_of_lt_mul h
theorem UL_mod (L k : Nat) : k % UL L < UL L := Nat.mod_lt _ (UL_pos L)

structure Clu where
  h : Nat
  c : Nat
  S : Nat → Prop
  own : List Nat
  e : Nat
/-- what lies inside a node: its summary and its clusters -/
inductive IN (R : Nat → (Nat → Prop) → List Nat → Nat → Prop) (L : Nat) (sum : Int) (cl : Nat → Option Nat) (Q : Nat → Prop) (ow : List Nat) (e : Nat) : Prop where
  | none : sum = -1 → (∀ h, cl h = none) → (∀ k, ¬ Q k) → ow = [] → e = 0 → IN R L sum cl Q ow e
  | some (s : Nat) (Ss : Nat → Prop) (os : List Nat) (es : Nat) (cs : List Clu) : sum = (s : Int) → R s Ss os es → (∀ c ∈ cs, R c.c c.S c.own c.e ∧ c.h < UL L) → (cs.map (·.h)).Nodup →
      (∀ h, Ss h ↔ ∃ c ∈ cs, c.h = h) → (∀ h j, cl h = Option.some j ↔ ∃ c ∈ cs, c.h = h ∧ c.c = j) → (∀ k, Q k ↔ ∃ c ∈ cs, c.h = k / UL L ∧ c.S (k % UL L)) →
      ow = os ++ cs.flatMap (·.own) → ow.Nodup → e = es + cs.length + (cs.map (·.e)).sum → IN R L sum cl Q ow e
/-- a node stands for a set -/
def VR (M : Nat → Option VM) : Nat → Nat → (Nat → Prop) → List Nat → Nat → Prop
  | 0, i, S, own, e => ∃ x, M i = some x ∧ x.lev = 0 ∧ x.mn = 0 ∧ x.mx = 0 ∧ x.sum = -1 ∧ (∀ h, x.cl h = none) ∧ x.bits ≠ 0 ∧ x.bits < 65536 ∧ (∀ k, S k ↔ x.bits.testBit k = true) ∧ own = [i] ∧ e = 0
  | L + 1, i, S, own, e => ∃ x Q ow, M i = some x ∧ x.lev = L + 1 ∧ x.bits = 0 ∧ x.mn ≤ x.mx ∧ x.mx < UL (L + 1) ∧ IN (VR M L) L x.sum x.cl Q ow e ∧
      (∀ y, Q y → x.mn < y ∧ y < x.mx) ∧ (∀ k, S k ↔ k = x.mn ∨ k = x.mx ∨ Q k) ∧ own = i :: ow ∧ i ∉ ow
theorem IN.mono {R R' : Nat → (Nat → Prop) → List Nat → Nat → Prop} {L : Nat} {sum : Int} {cl : Nat → Option Nat} {Q : Nat → Prop} {ow : List Nat} {e : Nat} (h : IN R L sum cl Q ow e)
    (hm : ∀ i S own e, (∀ j ∈ own, j ∈ ow) → R i S own e → R' i S own e) : IN R' L sum cl Q ow e := by
  cases h with
  | none h1 h2 h3 h4 h5 => exact .none h1 h2 h3 h4 h5
  | some s Ss os es cs h1 h2 h3 h4 h5 h6 h7 h8 h9 h10 =>
    refine .some s Ss os es cs h1 (hm _ _ _ _ (fun j hj => by rw [h8]; exact List.mem_append_left _ hj) h2) (fun c hc => ⟨hm _ _ _ _ (fun j hj => by rw [h8]; exact List.mem_append_right _ (List.mem_flatMap.2 ⟨c, hc, hj⟩)) (h3 c hc).1, (h3 c hc).2⟩) h4 h5 h6 h7 h8 h9 h10
theorem VR.frame {M M' : Nat → Option VM} : ∀ {L i : Nat} {S : Nat → Prop} {own : List Nat} {e : Nat}, VR M L i S own e → (∀ j ∈ own, M' j = M j) → VR M' L i S own e
  | 0, i, S, own, e, h, hf => by
    obtain ⟨x, h1, h2⟩ := h
    refine ⟨x, ?_, h2⟩
    rw [hf i (by rw [h2.2.2.2.2.2.2.2.2.1]; simp)]; exact h1
  | L + 1, i, S, own, e, h, hf => by
    obtain ⟨x, Q, ow, h1, h2, h3, h4, h5, h6, h7, h8, h9, h10⟩ := h
    refine ⟨x, Q, ow, by rw [hf i (by rw [h9]; simp)]; exact h1, h2, h3, h4, h5, ?_, h7, h8, h9, h10⟩
    exact h6.mono fun i S own e hsub hr => VR.frame hr fun j hj => hf j (by rw [h9]; exact List.mem_cons_of_mem _ (hsub j hj))
theorem VR.self {M : Nat → Option VM} {L i : Nat} {S : Nat → Prop} {own : List Nat} {e : Nat} (h : VR M L i S own e) : i ∈ own ∧ ∃ x, M i = some x ∧ x.lev = L := by
  cases L with
  | zero => obtain ⟨x, h1, h2⟩ := h; exact ⟨by rw [h2.2.2.2.2.2.2.2.2.1]; simp, x, h1, h2.1⟩
  | succ L => obtain ⟨x, Q, ow, h1, h2, h3, h4, h5, h6, h7, h8, h9, h10⟩ := h; exact ⟨by rw [h9]; simp, x, h1, h2⟩
theorem VR.live {M : Nat → Option VM} : ∀ {L i : Nat} {S : Nat → Prop} {own : List Nat} {e : Nat}, VR M L i S own e → (∀ j ∈ own, M j ≠ none) ∧ own.Nodup ∧ (∃ k, S k) ∧ (∀ k, S k → k < UL L)
  | 0, i, S, own, e, h => by
    obtain ⟨x, h1, h2, h3, h4, h5, h6, h7, h8, h9, rfl, h11⟩ := h
    refine ⟨fun j hj => by simp at hj; subst hj; rw [h1]; simp, by simp, ?_, fun k hk => ?_⟩
    · obtain ⟨k, hk⟩ := Nat.exists_testBit_of_ne_zero h7
      exact ⟨k, (h9 k).2 hk⟩
    · rw [h9] at hk
      have := Nat.ge_two_pow_of_testBit hk
      rw [UL_zero]
      rcases Nat.lt_or_ge k 16 with h | h
      · exact h
      · have h2 : 2 ^ 16 ≤ 2 ^ k := Nat.pow_le_pow_right (by decide) h
        omega
  | L + 1, i, S, own, e, h => by
    obtain ⟨x, Q, ow, h1, h2, h3, h4, h5, h6, h7, h8, rfl, h10⟩ := h
    have hin : (∀ j ∈ ow, M j ≠ none) ∧ ow.Nodup := by
      cases h6 with
      | none _ _ _ h _ => subst h; exact ⟨fun j hj => by simp at hj, List.nodup_nil⟩
      | some s Ss os es cs g1 g2 g3 g4 g5 g6 g7 g8 g9 g10 =>
        refine ⟨fun j hj => ?_, g9⟩
        rw [g8, List.mem_append, List.mem_flatMap] at hj
        rcases hj with hj | ⟨c, hc, hj⟩
        · exact (VR.live g2).1 j hj
        · exact (VR.live (g3 c hc).1).1 j hj
    refine ⟨fun j hj => ?_, List.nodup_cons.2 ⟨h10, hin.2⟩, ⟨x.mn, (h8 _).2 (.inl rfl)⟩, fun k hk => ?_⟩
    · rcases List.mem_cons.1 hj with rfl | hj
      · rw [h1]; simp
      · exact hin.1 j hj
    · rcases (h8 k).1 hk with rfl | rfl | hq
      · omega
      · exact h5
      · have := h7 k hq; omega
theorem VR.congr {M : Nat → Option VM} {L i : Nat} {S S' : Nat → Prop} {own : List Nat} {e : Nat} (h : VR M L i S own e) (hs : ∀ k, S k ↔ S' k) : VR M L i S' own e := by
  cases L with
  | zero =>
    obtain ⟨x, h1, h2, h3, h4, h5, h6, h7, h8, h9, h10, h11⟩ := h
    exact ⟨x, h1, h2, h3, h4, h5, h6, h7, h8, fun k => by rw [← hs, h9], h10, h11⟩
  | succ L =>
    obtain ⟨x, Q, ow, h1, h2, h3, h4, h5, h6, h7, h8, h9, h10⟩ := h
    exact ⟨x, Q, ow, h1, h2, h3, h4, h5, h6, h7, fun k => by rw [← hs, h8], h9, h10⟩
theorem IN.congr {R : Nat → (Nat → Prop) → List Nat → Nat → Prop} {L : Nat} {sum : Int} {cl : Nat → Option Nat} {Q Q' : Nat → Prop} {ow : List Nat} {e : Nat} (h : IN R L sum cl Q ow e) (hq : ∀ k, Q k ↔ Q' k) : IN R L sum cl Q' ow e := by
  cases h with
  | none h1 h2 h3 h4 h5 => exact .none h1 h2 (fun k => by rw [← hq]; exact h3 k) h4 h5
  | some s Ss os es cs h1 h2 h3 h4 h5 h6 h7 h8 h9 h10 => exact .some s Ss os es cs h1 h2 h3 h4 h5 h6 (fun k => by rw [← hq]; exact h7 k) h8 h9 h10

/-- how many nodes more a key needs -/
def nd (M : Nat → Option VM) : Nat → Nat → Nat → Nat
  | 0, _, _ => 0
  | L + 1, i, k => match M i with
    | none => 0
    | some x => if x.mn = x.mx then 0 else
      let k' := if k < x.mn then x.mn else if x.mx < k then x.mx else k
      match x.cl (k' / UL L) with
      | some c => nd M L c (k' % UL L)
      | none => if x.sum = -1 then 2 else 1 + nd M L x.sum.toNat (k' / UL L)
theorem nd_le (M : Nat → Option VM) : ∀ (L i k : Nat), nd M L i k ≤ L + 1
  | 0, _, _ => by simp [nd]
  | L + 1, i, k => by
    unfold nd
    split
    · omega
    · split
      · omega
      · simp only
        split
        · exact Nat.le_trans (nd_le M L _ _) (by omega)
        · split
          · omega
          · exact Nat.le_trans (Nat.add_le_add_left (nd_le M L _ _) 1) (by omega)
theorem nd_frame {M M' : Nat → Option VM} : ∀ {L i : Nat} {S : Nat → Prop} {own : List Nat} {e k : Nat}, VR M L i S own e → (∀ j ∈ own, M' j = M j) → nd M' L i k = nd M L i k
  | 0, _, _, _, _, _, _, _ => rfl
  | L + 1, i, S, own, e, k, h, hf => by
    obtain ⟨x, Q, ow, h1, h2, h3, h4, h5, h6, h7, h8, rfl, h10⟩ := h
    have hi : M' i = some x := by rw [hf i (by simp)]; exact h1
    unfold nd
    rw [hi, h1]
    simp only
    split
    · rfl
    · generalize (if k < x.mn then x.mn else if x.mx < k then x.mx else k) = k'
      cases h6 with
      | none g1 g2 _ _ _ => rw [g2]; simp [g1]
      | some s Ss os es cs g1 g2 g3 g4 g5 g6 g7 g8 g9 g10 =>
        cases hc : x.cl (k' / UL L) with
        | some c =>
          obtain ⟨y, hy, _, rfl⟩ := (g6 _ _).1 hc
          exact nd_frame (g3 y hy).1 fun j hj => hf j (List.mem_cons_of_mem _ (by rw [g8]; exact List.mem_append_right _ (List.mem_flatMap.2 ⟨y, hy, hj⟩)))
        | none =>
          simp only [g1]
          rw [if_neg (by omega), if_neg (by omega)]
          rw [Int.toNat_natCast, nd_frame g2 fun j hj => hf j (List.mem_cons_of_mem _ (by rw [g8]; exact List.mem_append_left _ hj))]

theorem filter_len {α : Type} (p : α → Bool) : ∀ l : List α, (l.filter p).length + (l.filter fun k => !p k).length = l.length
  | [] => rfl
  | x :: l => by
    have := filter_len p l
    simp only [List.filter_cons]
    cases p x <;> simp <;> omega
theorem nodup_map {α β : Type} {f : α → β} {l : List α} (h : l.Nodup) (hf : ∀ a, a ∈ l → ∀ b, b ∈ l → f a = f b → a = b) : (l.map f).Nodup := by
  unfold List.Nodup at *
  rw [List.pairwise_map]
  exact h.imp_of_mem fun ha hb hne he => hne (hf _ ha _ hb he)
/-- how many nodes a tree has at most -/
theorem VR.bound {M : Nat → Option VM} : ∀ {L i : Nat} {S : Nat → Prop} {own : List Nat} {e : Nat}, VR M L i S own e → ∀ (l : List Nat), l.Nodup → (∀ k, S k ↔ k ∈ l) → own.length + L ≤ L * l.length + 1 ∧ e + 1 ≤ own.length
  | 0, i, S, own, e, h, l, hl, hs => by
    obtain ⟨x, h1, h2, h3, h4, h5, h6, h7, h8, h9, rfl, rfl⟩ := h
    simp
  | L + 1, i, S, own, e, h, l, hl, hs => by
    obtain ⟨x, Q, ow, h1, h2, h3, h4, h5, h6, h7, h8, rfl, h10⟩ := h
    have hmn : x.mn ∈ l := (hs _).1 ((h8 _).2 (.inl rfl))
    cases h6 with
    | none g1 g2 g3 g4 g5 =>
      subst g4 g5
      have : 1 ≤ l.length := List.length_pos_of_mem hmn
      refine ⟨?_, by simp⟩
      have := Nat.mul_le_mul_left (L + 1) this
      simp only [List.length_cons, List.length_nil]; omega
    | some s Ss os es cs g1 g2 g3 g4 g5 g6 g7 g8 g9 g10 =>
      -- the summary
      obtain ⟨a1, a2⟩ := VR.bound g2 (cs.map (·.h)) g4 (fun h => by rw [g5]; simp)
      rw [List.length_map] at a1
      -- the clusters, each with its part of the list
      have part : ∀ (ds : List Clu), (∀ c ∈ ds, VR M L c.c c.S c.own c.e ∧ c.h < UL L) → (ds.map (·.h)).Nodup → ∀ (q : List Nat), q.Nodup → (∀ k, (∃ c ∈ ds, c.h = k / UL L ∧ c.S (k % UL L)) ↔ k ∈ q) →
          (ds.flatMap (·.own)).length + L * ds.length ≤ L * q.length + ds.length ∧ (ds.map (·.e)).sum + ds.length ≤ (ds.flatMap (·.own)).length ∧ ds.length ≤ q.length := by
        intro ds
        induction ds with
        | nil => intro _ _ q _ _; simp
        | cons d ds ih =>
          intro hd hn q hq hk
          simp only [List.map_cons, List.nodup_cons] at hn
          have hU := UL_pos L
          let qa := q.filter fun k => decide (k / UL L = d.h)
          let qb := q.filter fun k => !decide (k / UL L = d.h)
          have hlen : qa.length + qb.length = q.length := by
            exact filter_len _ q
          have hb := ih (fun c hc => hd c (List.mem_cons_of_mem _ hc)) hn.2 qb (hq.filter _) (fun k => by
            simp only [qb, List.mem_filter, ← hk k]
            constructor
            · rintro ⟨c, hc, h1, h2⟩
              refine ⟨⟨c, List.mem_cons_of_mem _ hc, h1, h2⟩, ?_⟩
              have : k / UL L ≠ d.h := fun e => hn.1 (List.mem_map.2 ⟨c, hc, by rw [h1, e]⟩)
              simp [this]
            · rintro ⟨⟨c, hc, h1, h2⟩, h3⟩
              rcases List.mem_cons.1 hc with rfl | hc
              · simp [h1] at h3
              · exact ⟨c, hc, h1, h2⟩)
          obtain ⟨v1, v2⟩ := VR.bound (hd d (by simp)).1 (qa.map fun k => k % UL L) (by
              refine nodup_map (hq.filter _) ?_
              intro a ha b hb hab
              simp only [qa, List.mem_filter, decide_eq_true_eq] at ha hb
              rw [← Nat.div_add_mod a (UL L), ← Nat.div_add_mod b (UL L), ha.2, hb.2, hab]) (fun k => by
            simp only [List.mem_map, qa, List.mem_filter, decide_eq_true_eq]
            constructor
            · intro hS
              have hlt := (VR.live (hd d (by simp)).1).2.2.2 k hS
              refine ⟨d.h * UL L + k, ⟨(hk _).1 ⟨d, by simp, ?_, ?_⟩, ?_⟩, ?_⟩
              · rw [Nat.mul_comm, Nat.mul_add_div hU, Nat.div_eq_of_lt hlt, Nat.add_zero]
              · rw [Nat.mul_comm, Nat.mul_add_mod, Nat.mod_eq_of_lt hlt]; exact hS
              · rw [Nat.mul_comm, Nat.mul_add_div hU, Nat.div_eq_of_lt hlt, Nat.add_zero]
              · rw [Nat.mul_comm, Nat.mul_add_mod, Nat.mod_eq_of_lt hlt]
            · rintro ⟨a, ⟨ha, hd'⟩, rfl⟩
              obtain ⟨c, hc, h1, h2⟩ := (hk a).2 ha
              rcases List.mem_cons.1 hc with rfl | hc
              · exact h2
              · exact absurd (List.mem_map.2 ⟨c, hc, by rw [h1, hd']⟩) hn.1)
          rw [List.length_map] at v1
          have hqa : 1 ≤ qa.length := by
            obtain ⟨k, hS⟩ := (VR.live (hd d (by simp)).1).2.2.1
            have hlt := (VR.live (hd d (by simp)).1).2.2.2 k hS
            have hm : d.h * UL L + k ∈ qa := by
              simp only [qa, List.mem_filter, decide_eq_true_eq]
              refine ⟨(hk _).1 ⟨d, by simp, ?_, ?_⟩, ?_⟩
              · rw [Nat.mul_comm, Nat.mul_add_div hU, Nat.div_eq_of_lt hlt, Nat.add_zero]
              · rw [Nat.mul_comm, Nat.mul_add_mod, Nat.mod_eq_of_lt hlt]; exact hS
              · rw [Nat.mul_comm, Nat.mul_add_div hU, Nat.div_eq_of_lt hlt, Nat.add_zero]
            exact List.length_pos_of_mem hm
          obtain ⟨b1, b2, b3⟩ := hb
          simp only [List.flatMap_cons, List.length_append, List.length_cons, List.map_cons, List.sum_cons]
          refine ⟨?_, by omega, by omega⟩
          rw [← hlen, Nat.mul_add L qa.length, Nat.mul_add L ds.length, Nat.mul_one]
          omega
      -- the inner keys
      let q := l.filter fun k => !decide (k = x.mn) && !decide (k = x.mx)
      obtain ⟨p1, p2, p3⟩ := part cs g3 g4 q (hl.filter _) (fun k => by
        rw [← g7]
        simp only [q, List.mem_filter, ← hs, h8]
        constructor
        · intro hQ
          have := h7 k hQ
          refine ⟨.inr (.inr hQ), ?_⟩
          have h1 : k ≠ x.mn := by omega
          have h2 : k ≠ x.mx := by omega
          simp [h1, h2]
        · rintro ⟨rfl | rfl | hQ, h3⟩
          · simp at h3
          · simp at h3
          · exact hQ)
      have hne : x.mn ≠ x.mx := by
        obtain ⟨h, hh⟩ := (VR.live g2).2.2.1
        obtain ⟨c, hc, rfl⟩ := (g5 h).1 hh
        obtain ⟨k, hk⟩ := (VR.live (g3 c hc).1).2.2.1
        have hlt := (VR.live (g3 c hc).1).2.2.2 k hk
        have hU := UL_pos L
        have := h7 (c.h * UL L + k) ((g7 _).2 ⟨c, hc, by rw [Nat.mul_comm, Nat.mul_add_div hU, Nat.div_eq_of_lt hlt, Nat.add_zero], by rw [Nat.mul_comm, Nat.mul_add_mod, Nat.mod_eq_of_lt hlt]; exact hk⟩)
        omega
      have hmx : x.mx ∈ l := (hs _).1 ((h8 _).2 (.inr (.inl rfl)))
      have hql : q.length + 2 ≤ l.length := by
        have hsub : (x.mn :: x.mx :: q) ⊆ l := fun a ha => by
          rcases List.mem_cons.1 ha with rfl | ha
          · exact hmn
          · rcases List.mem_cons.1 ha with rfl | ha
            · exact hmx
            · exact (List.mem_filter.1 ha).1
        have hnd : (x.mn :: x.mx :: q).Nodup := List.nodup_cons.2 ⟨fun hm => by
          rcases List.mem_cons.1 hm with h | hm
          · exact hne h
          · simp [q] at hm, List.nodup_cons.2 ⟨fun hm => by simp [q] at hm, hl.filter _⟩⟩
        have := hnd.length_le_of_subset hsub
        simpa using this
      subst g8 g10
      simp only [List.length_cons, List.length_append]
      refine ⟨?_, by omega⟩
      have h1 : L * q.length + L ≤ L * l.length := by
        have := Nat.mul_le_mul_left L (show q.length + 1 ≤ l.length by omega)
        rw [Nat.mul_add, Nat.mul_one] at this; exact this
      have h2 : (L + 1) * l.length = L * l.length + l.length := by rw [Nat.add_mul, Nat.one_mul]
      rw [h2]
      generalize hX : L * l.length = X at h1 ⊢
      generalize hY : L * q.length = Y at h1 p1
      generalize hZ : L * cs.length = Z at a1 p1
      omega
end Go.St
