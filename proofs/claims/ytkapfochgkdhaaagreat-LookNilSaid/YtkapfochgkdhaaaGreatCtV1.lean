/- Contracts: trees that halve their bits, the plain part: changes. -/
import Derived.Test.YtkapfochgkdhaaaGreatCtV0
namespace Go.St
open Go

theorem nodup_mid {X c c' Y : List Nat} (h : (X ++ c ++ Y).Nodup) (hc : c'.Nodup) (hs : ∀ j ∈ c', j ∈ c ∨ j ∉ X ++ c ++ Y) : (X ++ c' ++ Y).Nodup := by
  simp only [List.nodup_append, List.mem_append] at *
  obtain ⟨⟨h1, h2, h3⟩, h4, h5⟩ := h
  refine ⟨⟨h1, hc, fun a ha b hb => ?_⟩, h4, fun a ha b hb => ?_⟩
  · rcases hs b hb with hb' | hb'
    · exact h3 a ha b hb'
    · rintro rfl; exact hb' (.inl (.inl ha))
  · rcases ha with ha | ha
    · exact h5 a (.inl ha) b hb
    · rcases hs a ha with ha' | ha'
      · exact h5 a (.inr ha') b hb
      · rintro rfl; exact ha' (.inr hb)
section
variable {R R' : Nat → (Nat → Prop) → List Nat → Nat → Prop} {L s : Nat} {sum : Int} {cl : Nat → Option Nat} {Q : Nat → Prop} {ow os : List Nat} {e es : Nat} {Ss : Nat → Prop} {A B : List Clu} {c c' : Clu}
/-- another set in a cluster -/
theorem in_set (g1 : sum = (s : Int)) (g2 : R s Ss os es) (g3 : ∀ d ∈ A ++ c :: B, R d.c d.S d.own d.e ∧ d.h < UL L) (g4 : ((A ++ c :: B).map (·.h)).Nodup)
    (g5 : ∀ h, Ss h ↔ ∃ d ∈ A ++ c :: B, d.h = h) (g6 : ∀ h j, cl h = some j ↔ ∃ d ∈ A ++ c :: B, d.h = h ∧ d.c = j) (g7 : ∀ k, Q k ↔ ∃ d ∈ A ++ c :: B, d.h = k / UL L ∧ d.S (k % UL L))
    (g8 : ow = os ++ (A ++ c :: B).flatMap (·.own)) (g9 : ow.Nodup) (g10 : e = es + (A ++ c :: B).length + ((A ++ c :: B).map (·.e)).sum)
    (hR : ∀ i S own e, (∀ j ∈ own, j ∈ ow ∧ j ∉ c.own) → R i S own e → R' i S own e) (hc : R' c'.c c'.S c'.own c'.e) (hh : c'.h = c.h) (hcc : c'.c = c.c) (hnd : c'.own.Nodup) (hs : ∀ j ∈ c'.own, j ∈ c.own ∨ j ∉ ow)
    {Q' : Nat → Prop} (hQ : ∀ k, Q' k ↔ (k / UL L = c.h ∧ c'.S (k % UL L)) ∨ (k / UL L ≠ c.h ∧ Q k)) :
    IN R' L sum cl Q' (os ++ (A ++ c' :: B).flatMap (·.own)) (es + (A ++ c' :: B).length + ((A ++ c' :: B).map (·.e)).sum) := by
  have e1 : (A ++ c :: B).flatMap (·.own) = A.flatMap (·.own) ++ c.own ++ B.flatMap (·.own) := by simp
  have e2 : (A ++ c' :: B).flatMap (·.own) = A.flatMap (·.own) ++ c'.own ++ B.flatMap (·.own) := by simp
  have hnd0 : ((os ++ A.flatMap (·.own)) ++ c.own ++ B.flatMap (·.own)).Nodup := by rw [g8, e1] at g9; simpa [List.append_assoc] using g9
  have how : ow = (os ++ A.flatMap (·.own)) ++ c.own ++ B.flatMap (·.own) := by rw [g8, e1]; simp [List.append_assoc]
  simp only [List.map_append, List.map_cons, List.nodup_append, List.nodup_cons] at g4
  have hdis := hnd0
  simp only [List.nodup_append, List.mem_append] at hdis
  have hA : ∀ d ∈ A ++ B, R' d.c d.S d.own d.e ∧ d.h < UL L ∧ d.h ≠ c.h := fun d hd => by
    have hd' : d ∈ A ++ c :: B := by
      rcases List.mem_append.1 hd with h | h
      · exact List.mem_append_left _ h
      · exact List.mem_append_right _ (List.mem_cons_of_mem _ h)
    refine ⟨hR _ _ _ _ (fun j hj => ⟨by rw [g8]; exact List.mem_append_right _ (List.mem_flatMap.2 ⟨d, hd', hj⟩), fun hjc => ?_⟩) (g3 d hd').1, (g3 d hd').2, ?_⟩
    · rcases List.mem_append.1 hd with h | h
      · exact hdis.1.2.2 j (.inr (List.mem_flatMap.2 ⟨d, h, hj⟩)) j hjc rfl
      · exact hdis.2.2 j (.inr hjc) j (List.mem_flatMap.2 ⟨d, h, hj⟩) rfl
    · rcases List.mem_append.1 hd with h | h
      · exact g4.2.2 _ (List.mem_map.2 ⟨d, h, rfl⟩) _ (by simp)
      · intro heq; exact g4.2.1.1 (List.mem_map.2 ⟨d, h, heq⟩)
  have hmem : ∀ d, d ∈ A ++ c' :: B ↔ d = c' ∨ d ∈ A ++ B := fun d => by simp only [List.mem_append, List.mem_cons]; exact or_left_comm
  have hmem0 : ∀ d, d ∈ A ++ c :: B ↔ d = c ∨ d ∈ A ++ B := fun d => by simp only [List.mem_append, List.mem_cons]; exact or_left_comm
  refine .some s Ss os es (A ++ c' :: B) g1 (hR _ _ _ _ (fun j hj => ⟨by rw [g8]; exact List.mem_append_left _ hj, fun hjc => hdis.1.2.2 j (.inl hj) j hjc rfl⟩) g2) (fun d hd => ?_) ?_ (fun h => ?_) (fun h j => ?_) (fun k => ?_) rfl ?_ rfl
  · rcases (hmem d).1 hd with rfl | hd
    · exact ⟨hc, by rw [hh]; exact (g3 c (by simp)).2⟩
    · exact ⟨(hA d hd).1, (hA d hd).2.1⟩
  · simp only [List.map_append, List.map_cons, List.nodup_append, List.nodup_cons, hh]; exact g4
  · rw [g5]
    constructor
    · rintro ⟨d, hd, rfl⟩
      rcases (hmem0 d).1 hd with rfl | hd
      · exact ⟨c', (hmem _).2 (.inl rfl), hh⟩
      · exact ⟨d, (hmem _).2 (.inr hd), rfl⟩
    · rintro ⟨d, hd, rfl⟩
      rcases (hmem d).1 hd with rfl | hd
      · exact ⟨c, (hmem0 _).2 (.inl rfl), hh.symm⟩
      · exact ⟨d, (hmem0 _).2 (.inr hd), rfl⟩
  · rw [g6]
    constructor
    · rintro ⟨d, hd, rfl, rfl⟩
      rcases (hmem0 d).1 hd with rfl | hd
      · exact ⟨c', (hmem _).2 (.inl rfl), hh, hcc⟩
      · exact ⟨d, (hmem _).2 (.inr hd), rfl, rfl⟩
    · rintro ⟨d, hd, rfl, rfl⟩
      rcases (hmem d).1 hd with rfl | hd
      · exact ⟨c, (hmem0 _).2 (.inl rfl), hh.symm, hcc.symm⟩
      · exact ⟨d, (hmem0 _).2 (.inr hd), rfl, rfl⟩
  · rw [hQ, g7]
    constructor
    · rintro (⟨h1, h2⟩ | ⟨h1, d, hd, h2, h3⟩)
      · exact ⟨c', (hmem _).2 (.inl rfl), by rw [hh, h1], h2⟩
      · rcases (hmem0 d).1 hd with rfl | hd
        · exact absurd h2.symm h1
        · exact ⟨d, (hmem _).2 (.inr hd), h2, h3⟩
    · rintro ⟨d, hd, h2, h3⟩
      rcases (hmem d).1 hd with rfl | hd
      · exact .inl ⟨by rw [← h2, hh], h3⟩
      · exact .inr ⟨fun h => (hA d hd).2.2 (by rw [h2, h]), d, (hmem0 _).2 (.inr hd), h2, h3⟩
  · rw [e2]
    have := nodup_mid hnd0 hnd (fun j hj => by
      rcases hs j hj with h | h
      · exact .inl h
      · exact .inr (by rw [← how]; exact h))
    simpa [List.append_assoc] using this
/-- a cluster more, behind a change of the summary -/
theorem in_add {cs : List Clu} {cl' : Nat → Option Nat} {s' : Nat} {Ss' : Nat → Prop} {os' : List Nat} {es' : Nat} (g3 : ∀ d ∈ cs, R' d.c d.S d.own d.e ∧ d.h < UL L) (g4 : (cs.map (·.h)).Nodup)
    (g5 : ∀ h, Ss' h ↔ h = c.h ∨ ∃ d ∈ cs, d.h = h) (g6 : ∀ h j, cl' h = some j ↔ (h = c.h ∧ j = c.c) ∨ (h ≠ c.h ∧ ∃ d ∈ cs, d.h = h ∧ d.c = j)) (g7 : ∀ k, Q k ↔ ∃ d ∈ cs, d.h = k / UL L ∧ d.S (k % UL L))
    (g2 : R' s' Ss' os' es') (hc : R' c.c c.S c.own c.e) (hh : c.h < UL L) (hn : ∀ d ∈ cs, d.h ≠ c.h) (hnd : (os' ++ (c :: cs).flatMap (·.own)).Nodup)
    {Q' : Nat → Prop} (hQ : ∀ k, Q' k ↔ (k / UL L = c.h ∧ c.S (k % UL L)) ∨ Q k) :
    IN R' L (s' : Int) cl' Q' (os' ++ (c :: cs).flatMap (·.own)) (es' + (c :: cs).length + ((c :: cs).map (·.e)).sum) := by
  refine .some s' Ss' os' es' (c :: cs) rfl g2 (fun d hd => ?_) ?_ (fun h => ?_) (fun h j => ?_) (fun k => ?_) rfl hnd rfl
  · rcases List.mem_cons.1 hd with rfl | hd
    · exact ⟨hc, hh⟩
    · exact g3 d hd
  · rw [List.map_cons, List.nodup_cons]
    exact ⟨fun hm => by obtain ⟨d, hd, he⟩ := List.mem_map.1 hm; exact hn d hd he, g4⟩
  · rw [g5]; simp [eq_comm]
  · rw [g6]
    constructor
    · rintro (⟨rfl, rfl⟩ | ⟨_, d, hd, h1, h2⟩)
      · exact ⟨c, by simp, rfl, rfl⟩
      · exact ⟨d, by simp [hd], h1, h2⟩
    · rintro ⟨d, hd, h1, h2⟩
      rcases List.mem_cons.1 hd with rfl | hd
      · exact .inl ⟨h1.symm, h2.symm⟩
      · exact .inr ⟨fun h => hn d hd (by rw [h1, h]), d, hd, h1, h2⟩
  · rw [hQ, g7]
    constructor
    · rintro (⟨h1, h2⟩ | ⟨d, hd, h1, h2⟩)
      · exact ⟨c, by simp, h1.symm, h2⟩
      · exact ⟨d, by simp [hd], h1, h2⟩
    · rintro ⟨d, hd, h1, h2⟩
      rcases List.mem_cons.1 hd with rfl | hd
      · exact .inl ⟨h1.symm, h2⟩
      · exact .inr ⟨d, hd, h1, h2⟩
/-- a cluster less -/
theorem in_rem {cl' : Nat → Option Nat} {s' : Nat} {Ss' : Nat → Prop} {os' : List Nat} {es' : Nat} (g3 : ∀ d ∈ A ++ B, R' d.c d.S d.own d.e ∧ d.h < UL L) (g4 : ((A ++ c :: B).map (·.h)).Nodup)
    (g5 : ∀ h, Ss' h ↔ h ≠ c.h ∧ ∃ d ∈ A ++ c :: B, d.h = h) (g6 : ∀ h j, cl' h = some j ↔ h ≠ c.h ∧ ∃ d ∈ A ++ c :: B, d.h = h ∧ d.c = j) (g7 : ∀ k, Q k ↔ ∃ d ∈ A ++ c :: B, d.h = k / UL L ∧ d.S (k % UL L))
    (g2 : R' s' Ss' os' es') (hnd : (os' ++ (A ++ B).flatMap (·.own)).Nodup) {Q' : Nat → Prop} (hQ : ∀ k, Q' k ↔ k / UL L ≠ c.h ∧ Q k) :
    IN R' L (s' : Int) cl' Q' (os' ++ (A ++ B).flatMap (·.own)) (es' + (A ++ B).length + ((A ++ B).map (·.e)).sum) := by
  have hmem0 : ∀ d, d ∈ A ++ c :: B ↔ d = c ∨ d ∈ A ++ B := fun d => by simp only [List.mem_append, List.mem_cons]; exact or_left_comm
  simp only [List.map_append, List.map_cons, List.nodup_append, List.nodup_cons] at g4
  have hne : ∀ d ∈ A ++ B, d.h ≠ c.h := fun d hd => by
    rcases List.mem_append.1 hd with h | h
    · exact g4.2.2 _ (List.mem_map.2 ⟨d, h, rfl⟩) _ (by simp)
    · intro heq; exact g4.2.1.1 (List.mem_map.2 ⟨d, h, heq⟩)
  refine .some s' Ss' os' es' (A ++ B) rfl g2 g3 ?_ (fun h => ?_) (fun h j => ?_) (fun k => ?_) rfl hnd rfl
  · simp only [List.map_append, List.nodup_append]
    exact ⟨g4.1, g4.2.1.2, fun a ha b hb => g4.2.2 a ha b (List.mem_cons_of_mem _ hb)⟩
  · rw [g5]
    constructor
    · rintro ⟨h1, d, hd, rfl⟩
      rcases (hmem0 d).1 hd with rfl | hd
      · exact absurd rfl h1
      · exact ⟨d, hd, rfl⟩
    · rintro ⟨d, hd, rfl⟩
      exact ⟨hne d hd, d, (hmem0 d).2 (.inr hd), rfl⟩
  · rw [g6]
    constructor
    · rintro ⟨h1, d, hd, rfl, rfl⟩
      rcases (hmem0 d).1 hd with rfl | hd
      · exact absurd rfl h1
      · exact ⟨d, hd, rfl, rfl⟩
    · rintro ⟨d, hd, rfl, rfl⟩
      exact ⟨hne d hd, d, (hmem0 d).2 (.inr hd), rfl, rfl⟩
  · rw [hQ, g7]
    constructor
    · rintro ⟨h1, d, hd, h2, h3⟩
      rcases (hmem0 d).1 hd with rfl | hd
      · exact absurd h2.symm h1
      · exact ⟨d, hd, h2, h3⟩
    · rintro ⟨d, hd, h2, h3⟩
      exact ⟨fun h => hne d hd (by rw [h2, h]), d, (hmem0 d).2 (.inr hd), h2, h3⟩
end
/-- the least and the greatest key of a node -/
def VR.lo (x : VM) : Nat → Nat → Prop := fun L k => if L = 0 then x.bits.testBit k = true ∧ ∀ j, j < k → x.bits.testBit j = false else k = x.mn
theorem VR.node {M : Nat → Option VM} {L i : Nat} {S : Nat → Prop} {own : List Nat} {e : Nat} {x : VM} (h : VR M (L + 1) i S own e) (hx : M i = some x) :
    ∃ Q ow, x.lev = L + 1 ∧ x.bits = 0 ∧ x.mn ≤ x.mx ∧ x.mx < UL (L + 1) ∧ IN (VR M L) L x.sum x.cl Q ow e ∧
      (∀ y, Q y → x.mn < y ∧ y < x.mx) ∧ (∀ k, S k ↔ k = x.mn ∨ k = x.mx ∨ Q k) ∧ own = i :: ow ∧ i ∉ ow := by
  obtain ⟨y, Q, ow, h1, r⟩ := h
  rw [hx] at h1; cases h1
  exact ⟨Q, ow, r⟩
theorem VR.word {M : Nat → Option VM} {i : Nat} {S : Nat → Prop} {own : List Nat} {e : Nat} {x : VM} (h : VR M 0 i S own e) (hx : M i = some x) :
    x.lev = 0 ∧ x.mn = 0 ∧ x.mx = 0 ∧ x.sum = -1 ∧ (∀ h, x.cl h = none) ∧ x.bits ≠ 0 ∧ x.bits < 65536 ∧ (∀ k, S k ↔ x.bits.testBit k = true) ∧ own = [i] ∧ e = 0 := by
  obtain ⟨y, h1, r⟩ := h
  rw [hx] at h1; cases h1
  exact r
end Go.St
