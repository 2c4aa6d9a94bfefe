import Derived.Test.YtcipamclhpcaaaaGreatDoorStX
/- St core, part Z: ranges over functions that need more at first. -/
namespace Go.St
open Go
/-- what a function tells that is ranged over; R0: what it needs at first; Rg: what it needs and keeps; D: what is always there -/
def TellsF (P : Program) (D : HP) (g : Value) {σ : Type} (enc : σ → List Value) (xs : List σ) (R0 Rg : List HP) : Prop :=
  ∃ gf lb, g = .func (.func gf) #[] lb ∧ hasBody P gf = true ∧ ∀ (y : Value) (J : Nat → List HP → Prop) (Z : List HP → Prop) (w : World) (K : World → Prop) (L0 : List HP),
    (∀ i s L W (R : Value → World → Prop), xs[i]? = some s → J i L → Sat W (D :: (Rg ++ L)) → (∀ (b : Bool) W' L', (if b then J (i + 1) L' else Z L') → Sat W' (D :: (Rg ++ L')) → R (.bool b) W') → DynV P y (enc s).toArray W R) →
    J 0 L0 → Sat w (D :: (R0 ++ L0)) → (∀ W' L', (J xs.length L' ∨ Z L') → Sat W' (D :: (Rg ++ L')) → K W') → CallsV P gf (#[y] ++ lb) w fun _ W => K W

theorem rfT.ofF {P : Program} {D0 : HP} {g : Value} {w : World} {σ : Type} {enc : σ → List Value} {B : σ → World → Beg → (Ex → World → Prop) → Prop} {Kn Kr : Nat → World → Prop} {xid : Nat} {Kx : Nat → World → Prop}
    {τ : Type} {enc' : τ → List Value} (f : τ → σ) (he : ∀ t, enc' t = enc (f t)) {xs : List τ} {R0 Rg L0 : List HP} (ht : TellsF P D0 g enc' xs R0 Rg) (J : Nat → List HP → Prop) (Zr Zx : List HP → Prop) (h0 : J 0 L0) (h : Sat w (D0 :: (R0 ++ L0)))
    (hb : ∀ i s L W (bg : Beg) (k : Ex → World → Prop) (A A' : HP), xs[i]? = some s → J i L → Sat W (A :: D0 :: (Rg ++ L)) →
      (∀ W1 M (k1 : World → Prop), Sat W1 (A :: M) → (∀ W2, Sat W2 (A' :: M) → k1 W2) → bg W1 k1) →
      (∀ W1 L', J (i + 1) L' → Sat W1 (A' :: D0 :: (Rg ++ L')) → k .normal W1) →
      (∀ W1 L', Zr L' → Sat W1 (A' :: D0 :: (Rg ++ L')) → k .ret W1) →
      (∀ W1 L', Zx L' → Sat W1 (A' :: D0 :: (Rg ++ L')) → k (.exit xid) W1) → B (f s) W bg k)
    (hn : ∀ D W L', J xs.length L' → Sat W (one D (.deferred (some [])) :: D0 :: (Rg ++ L')) → Kn D W)
    (hr : ∀ D W L', Zr L' → Sat W (one D (.deferred (some [])) :: D0 :: (Rg ++ L')) → Kr D W)
    (hx : ∀ D W L', Zx L' → Sat W (one D (.deferred (some [])) :: D0 :: (Rg ++ L')) → Kx D W) : rfT P g w enc B Kn Kr xid Kx := by
  intro oB oE oX ho hy
  obtain ⟨gf, lb, rfl, hbody, ht⟩ := ht
  refine ⟨rfl, hbody, ?_⟩
  have e1 : (w.alloc (.deferred (some []))).heap.size = w.heap.size + 1 := by unfold World.alloc; simp
  have s1 := h.allocO (.deferred (some [])) trivial
  have s2 := s1.allocO (oE .normal) (ho.2 _).1.nf
  rw [e1] at s2
  have perm : ∀ {Rg : List HP} {a b : HP} {L : List HP}, (D0 :: (Rg ++ (a :: b :: L))).Perm (b :: a :: D0 :: (Rg ++ L)) := fun {Rg a b L} => by
    refine ((List.perm_append_comm (l₁ := Rg) (l₂ := a :: b :: L)).cons _).trans ?_
    refine (List.Perm.swap _ _ _).trans ?_
    refine ((List.Perm.swap _ _ _).cons _).trans ?_
    refine (List.Perm.swap _ _ _).trans ?_
    exact (((List.perm_append_comm (l₁ := L) (l₂ := Rg)).cons _).cons _).cons _
  have mid : ∀ {a b : HP} {L : List HP} {W : World}, Sat W (D0 :: (Rg ++ (a :: b :: L))) → Sat W (b :: a :: D0 :: (Rg ++ L)) := fun h => h.perm perm
  have dim : ∀ {Rg : List HP} {a b : HP} {L : List HP} {W : World}, Sat W (b :: a :: D0 :: (Rg ++ L)) → Sat W (D0 :: (Rg ++ (a :: b :: L))) := fun h => h.perm perm.symm
  refine ht (yv (w.heap.size + 1)) (fun i L => ∃ M, L = one w.heap.size (.deferred (some [])) :: one (w.heap.size + 1) (oE .normal) :: M ∧ J i M)
    (fun L => ∃ M, (L = one w.heap.size (.deferred (some [])) :: one (w.heap.size + 1) (oE .ret) :: M ∧ Zr M) ∨ (L = one w.heap.size (.deferred (some [])) :: one (w.heap.size + 1) (oE (.exit xid)) :: M ∧ Zx M))
    _ _ (one w.heap.size (.deferred (some [])) :: one (w.heap.size + 1) (oE .normal) :: L0) ?_ ⟨L0, rfl, h0⟩ (dim s2) ?_
  · rintro i s _ W R hi ⟨M, rfl, hJ⟩ hS hR
    have hS := mid hS
    rw [he]
    refine hy (f s) W R (one_get hS) ?_
    refine hb i s M W _ _ (sp (one w.heap.size (.deferred (some []))) (one (w.heap.size + 1) (oE .normal))) (sp (one w.heap.size (.deferred (some []))) (one (w.heap.size + 1) oB)) hi hJ (Sat.sep.2 (hS.pull 1)) ?_ ?_ ?_ ?_
    · intro W1 M k1 h1 hk
      have h1 := (Sat.sep.1 h1).pull 1
      exact ⟨one_get h1, hk _ (Sat.sep.2 ((h1.put ho.1.nf).pull 1))⟩
    · intro W1 L' hJ' h1
      have h1 := (Sat.sep.1 h1).pull 1
      exact ⟨one_get h1, hR true _ _ ⟨L', rfl, hJ'⟩ (dim (h1.put (ho.2 _).1.nf))⟩
    · intro W1 L' hJ' h1
      have h1 := (Sat.sep.1 h1).pull 1
      exact ⟨one_get h1, hR false _ _ ⟨L', .inl ⟨rfl, hJ'⟩⟩ (dim (h1.put (ho.2 _).1.nf))⟩
    · intro W1 L' hJ' h1
      have h1 := (Sat.sep.1 h1).pull 1
      exact ⟨one_get h1, hR false _ _ ⟨L', .inr ⟨rfl, hJ'⟩⟩ (dim (h1.put (ho.2 _).1.nf))⟩
  · rintro W' _ (⟨M, rfl, hJ⟩ | ⟨M, ⟨rfl, hJ⟩ | ⟨rfl, hJ⟩⟩) hS
    · have hS := mid hS
      exact .inl ⟨one_get hS, hn _ _ M hJ ((hS.put (ho.2 _).2.nf).drop)⟩
    · have hS := mid hS
      exact .inr (.inl ⟨one_get hS, hr _ _ M hJ ((hS.put (ho.2 _).2.nf).drop)⟩)
    · have hS := mid hS
      exact .inr (.inr ⟨one_get hS, hx _ _ M hJ ((hS.put (ho.2 _).2.nf).drop)⟩)

end Go.St

