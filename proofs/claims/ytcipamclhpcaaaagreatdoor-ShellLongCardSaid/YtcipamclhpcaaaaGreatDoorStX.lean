import Derived.Test.YtcipamclhpcaaaaGreatDoorStV
import Derived.Test.YtcipamclhpcaaaaGreatDoorStR
import Derived.Test.YtcipamclhpcaaaaGreatDoorStW
/- St core, part X: ranges over functions, over heaps in parts. -/
namespace Go.St
open Go

/-- what a function tells that is ranged over; Rg: what it needs and keeps; D: what is always there -/
def Tells (P : Program) (D : HP) (g : Value) {σ : Type} (enc : σ → List Value) (xs : List σ) (Rg : List HP) : Prop :=
  ∃ gf lb, g = .func (.func gf) #[] lb ∧ hasBody P gf = true ∧ ∀ (y : Value) (J : Nat → List HP → Prop) (Z : List HP → Prop) (w : World) (K : World → Prop) (L0 : List HP),
    (∀ i s L W (R : Value → World → Prop), xs[i]? = some s → J i L → Sat W (D :: (Rg ++ L)) → (∀ (b : Bool) W' L', (if b then J (i + 1) L' else Z L') → Sat W' (D :: (Rg ++ L')) → R (.bool b) W') → DynV P y (enc s).toArray W R) →
    J 0 L0 → Sat w (D :: (Rg ++ L0)) → (∀ W' L', (J xs.length L' ∨ Z L') → Sat W' (D :: (Rg ++ L')) → K W') → CallsV P gf (#[y] ++ lb) w fun _ W => K W

instance Foc.app {β α : Type} {R : β → α → HP} {b : β} {x : α} {A : HP} {L M : List HP} {F : HP → List HP} [i : Foc R b x (A :: (L ++ M)) F] : Foc R b x ((A :: L) ++ M) F := i
instance Foc.app0 {β α : Type} {R : β → α → HP} {b : β} {x : α} {M : List HP} {F : HP → List HP} [i : Foc R b x M F] : Foc R b x ([] ++ M) F := i
instance (priority := low) Foc.appR {β α : Type} {R : β → α → HP} {b : β} {x : α} {L M : List HP} {F : HP → List HP} [i : Foc R b x M F] : Foc R b x (L ++ M) (fun B => L ++ F B) := by
  obtain ⟨N, p, q⟩ := i.ok
  exact ⟨L ++ N, (p.append_left L).trans List.perm_middle, fun B => ((q B).append_left L).trans List.perm_middle⟩
theorem Sat.put {w : World} {D : Nat} {o o' : Obj} {L : List HP} (h : Sat w (one D o :: L)) (ho : nfz o') : Sat (w.putObj D o') (one D o' :: L) := by
  have hl := Sat.lt h
  refine h.upd ?_ ?_ ⟨rfl, rfl⟩ ho
  · simp [World.putObj, hl]
  · intro c hc
    simp [World.putObj, Ne.symm hc]
theorem noCells.nf {o : Obj} (h : noCells o) : nfz o := by
  cases o <;> first | exact h.elim | trivial
/-- what is marked to be done at the end is done -/
theorem Sat.dfr {w : World} {D : Nat} {o : Obj} {L : List HP} (h : Sat w (one D o :: L)) (o' : Obj) (ho : nfz o' := by trivial) : w.heap[D]? = some o ∧ Sat (w.putObj D o') L := ⟨one_get h, (h.put ho).drop⟩
theorem Sat.sub {w : World} {L L' : List HP} (h : Sat w L) (s : L'.Sublist L) : Sat w L' := by
  obtain ⟨r, p⟩ := s.exists_perm_append
  exact (h.perm (p.trans List.perm_append_comm)).app
/-- the first part behind an unknown list, to the front; and back -/
theorem Sat.out {w : World} {A D S : HP} {L R : List HP} (h : Sat w (A :: D :: (R ++ (S :: L)))) : Sat w (S :: A :: D :: (R ++ L)) :=
  h.perm (List.perm_middle (l₁ := A :: D :: R) (l₂ := L))
theorem rfT.of {P : Program} {D0 : HP} {g : Value} {w : World} {σ : Type} {enc : σ → List Value} {B : σ → World → Beg → (Ex → World → Prop) → Prop} {Kn Kr : Nat → World → Prop} {xid : Nat} {Kx : Nat → World → Prop}
    {τ : Type} {enc' : τ → List Value} (f : τ → σ) (he : ∀ t, enc' t = enc (f t)) {xs : List τ} {Rg L0 : List HP} (ht : Tells P D0 g enc' xs Rg) (J : Nat → List HP → Prop) (Zr Zx : List HP → Prop) (h0 : J 0 L0) (h : Sat w (D0 :: (Rg ++ L0)))
    (hb : ∀ i s L W (bg : Beg) (k : Ex → World → Prop) (A A' : HP), xs[i]? = some s → J i L → Sat W (A :: D0 :: (Rg ++ L)) →
      (∀ W1 M (k1 : World → Prop), Sat W1 (A :: M) → (∀ W2, Sat W2 (A' :: M) → k1 W2) → bg W1 k1) →
      (∀ W1 L', J (i + 1) L' → Sat W1 (A' :: D0 :: (Rg ++ L')) → k .normal W1) →
      (∀ W1 L', Zr L' → Sat W1 (A' :: D0 :: (Rg ++ L')) → k .ret W1) →
      (∀ W1 L', Zx L' → Sat W1 (A' :: D0 :: (Rg ++ L')) → k (.exit xid) W1) → B (f s) W bg k)
    (hn : ∀ D W L', J xs.length L' → Sat W (one D (.deferred (some [])) :: D0 :: (Rg ++ L')) → Kn D W)
    (hr : ∀ D W L', Zr L' → Sat W (one D (.deferred (some [])) :: D0 :: (Rg ++ L')) → Kr D W)
    (hx : ∀ D W L', Zx L' → Sat W (one D (.deferred (some [])) :: D0 :: (Rg ++ L')) → Kx D W) : rfT P g w enc B Kn Kr xid Kx := by
  intro oB oE oX ho hy
  obtain ⟨gf, lb, rfl, hbody, ht⟩ := ht
  refine ⟨rfl, hbody, ?_⟩
  have e1 : (w.alloc (.deferred (some []))).heap.size = w.heap.size + 1 := by unfold World.alloc; simp
  have s1 := h.allocO (.deferred (some [])) trivial
  have s2 := s1.allocO (oE .normal) (ho.2 _).1.nf
  rw [e1] at s2
  have perm : ∀ {a b : HP} {L : List HP}, (D0 :: (Rg ++ (a :: b :: L))).Perm (b :: a :: D0 :: (Rg ++ L)) := fun {a b L} => by
    refine ((List.perm_append_comm (l₁ := Rg) (l₂ := a :: b :: L)).cons _).trans ?_
    refine (List.Perm.swap _ _ _).trans ?_
    refine ((List.Perm.swap _ _ _).cons _).trans ?_
    refine (List.Perm.swap _ _ _).trans ?_
    exact (((List.perm_append_comm (l₁ := L) (l₂ := Rg)).cons _).cons _).cons _
  have mid : ∀ {a b : HP} {L : List HP} {W : World}, Sat W (D0 :: (Rg ++ (a :: b :: L))) → Sat W (b :: a :: D0 :: (Rg ++ L)) := fun h => h.perm perm
  have dim : ∀ {a b : HP} {L : List HP} {W : World}, Sat W (b :: a :: D0 :: (Rg ++ L)) → Sat W (D0 :: (Rg ++ (a :: b :: L))) := fun h => h.perm perm.symm
  refine ht (yv (w.heap.size + 1)) (fun i L => ∃ M, L = one w.heap.size (.deferred (some [])) :: one (w.heap.size + 1) (oE .normal) :: M ∧ J i M)
    (fun L => ∃ M, (L = one w.heap.size (.deferred (some [])) :: one (w.heap.size + 1) (oE .ret) :: M ∧ Zr M) ∨ (L = one w.heap.size (.deferred (some [])) :: one (w.heap.size + 1) (oE (.exit xid)) :: M ∧ Zx M))
    _ _ (one w.heap.size (.deferred (some [])) :: one (w.heap.size + 1) (oE .normal) :: L0) ?_ ⟨L0, rfl, h0⟩ (dim s2) ?_
  · rintro i s _ W R hi ⟨M, rfl, hJ⟩ hS hR
    have hS := mid hS
    rw [he]
    refine hy (f s) W R (one_get hS) ?_
    refine hb i s M W _ _ (sp (one w.heap.size (.deferred (some []))) (one (w.heap.size + 1) (oE .normal))) (sp (one w.heap.size (.deferred (some []))) (one (w.heap.size + 1) oB)) hi hJ (Sat.sep.2 (hS.pull 1)) ?_ ?_ ?_ ?_
    · intro W1 M k1 h1 hk
      have h1 := (Sat.sep.1 h1).pull 1
      exact ⟨one_get h1, hk _ (Sat.sep.2 ((h1.put ho.1.nf).pull 1))⟩
    · intro W1 L' hJ' h1
      have h1 := (Sat.sep.1 h1).pull 1
      exact ⟨one_get h1, hR true _ _ ⟨L', rfl, hJ'⟩ (dim (h1.put (ho.2 _).1.nf))⟩
    · intro W1 L' hJ' h1
      have h1 := (Sat.sep.1 h1).pull 1
      exact ⟨one_get h1, hR false _ _ ⟨L', .inl ⟨rfl, hJ'⟩⟩ (dim (h1.put (ho.2 _).1.nf))⟩
    · intro W1 L' hJ' h1
      have h1 := (Sat.sep.1 h1).pull 1
      exact ⟨one_get h1, hR false _ _ ⟨L', .inr ⟨rfl, hJ'⟩⟩ (dim (h1.put (ho.2 _).1.nf))⟩
  · rintro W' _ (⟨M, rfl, hJ⟩ | ⟨M, ⟨rfl, hJ⟩ | ⟨rfl, hJ⟩⟩) hS
    · have hS := mid hS
      exact .inl ⟨one_get hS, hn _ _ M hJ ((hS.put (ho.2 _).2.nf).drop)⟩
    · have hS := mid hS
      exact .inr (.inl ⟨one_get hS, hr _ _ M hJ ((hS.put (ho.2 _).2.nf).drop)⟩)
    · have hS := mid hS
      exact .inr (.inr ⟨one_get hS, hx _ _ M hJ ((hS.put (ho.2 _).2.nf).drop)⟩)

/-! slices with arrays of their own: shorter ones, what they read as -/
theorem Own.cut {T : Type} {E : Enc T} {w : World} {M : List HP} {a : Option Addr} {l c n : Nat} {xs : List T} (h : Sat w (Own E a (l, c, xs) :: M)) (hn : n ≤ l) : Sat w (Own E a (n, c, xs.take n) :: M) := by
  obtain ⟨rest, ⟨h1, h2, h3⟩, h⟩ := Own.un h
  refine Own.mk (rest := E.rows (xs.drop n) ++ rest) ⟨by simp; omega, by omega, ?_⟩ ?_
  · rw [List.length_append, E.rows_len, h3, List.length_drop, h1, ← Nat.add_mul]; congr 1; omega
  · rw [← List.append_assoc, ← Enc.rows_app, List.take_append_drop]; exact h
theorem Own.reads {T : Type} {E : Enc T} {w : World} {L : List HP} {F : HP → List HP} {a : Option Addr} {l c : Nat} {xs : List T} [i : Foc (Own E) a (l, c, xs) L F] (h : Sat w L) : Reads E w a xs := by
  obtain ⟨M, h, _⟩ := i.op h
  obtain ⟨hl, hc⟩ := Own.len h
  rcases Nat.eq_zero_or_pos c with h0 | h0
  · left; rw [← List.length_eq_zero_iff]; omega
  · obtain ⟨b, rest, rfl, _, h⟩ := Own.toBlk h h0
    exact Reads.own h (List.prefix_append _ _)
/-- a slice that can be read wherever M lies -/
def Rdb {T : Type} (E : Enc T) (M : List HP) (a : Option Addr) (l : Nat) (xs : List T) : Prop := ∀ w, Sat w M → Reads E w a xs ∧ xs.length = l
theorem Rdb.own {T : Type} {E : Enc T} {L : List HP} {F : HP → List HP} {a : Option Addr} {l c : Nat} {xs : List T} [i : Foc (Own E) a (l, c, xs) L F] : Rdb E L a l xs := fun w h => by
  refine ⟨Own.reads (l := l) (c := c) h, ?_⟩
  obtain ⟨M, h, _⟩ := i.op h
  exact (Own.len h).1
theorem Rdb.cons {T : Type} {E : Enc T} {M : List HP} {A : HP} {a : Option Addr} {l : Nat} {xs : List T} (h : Rdb E M a l xs) : Rdb E (A :: M) a l xs := fun w hs => h w hs.drop
theorem Rdb.sub {T : Type} {E : Enc T} {M N : List HP} {a : Option Addr} {l : Nat} {xs : List T} (h : Rdb E M a l xs) (hs : M.Sublist N) : Rdb E N a l xs := fun w hN => h w (hN.sub hs)
theorem Rdb.nil {T : Type} {E : Enc T} {M : List HP} {a : Option Addr} : Rdb E M a 0 ([] : List T) := fun _ _ => ⟨.inl rfl, rfl⟩
theorem Rdb.get {T : Type} {E : Enc T} {M : List HP} {a : Option Addr} {l n : Nat} {xs : List T} {x : T} {w : World} (rd : Rdb E M a l xs) (h : Sat w M) (hx : xs[n]? = some x) :
    ∃ b o, a = some ⟨b, o, none⟩ ∧ n < l ∧ ∀ j, j < E.sz → w.cell? ⟨b, o + (n * E.sz + j), none⟩ = (E.e x)[j]? := by
  obtain ⟨hr, hl⟩ := rd w h
  have hn := (List.getElem?_eq_some_iff.1 hx).1
  rcases hr with rfl | ⟨b, o, rfl, hr⟩
  · simp at hn
  · refine ⟨b, o, rfl, by omega, fun j hj => ?_⟩
    have h1 := Enc.rows_at (E := E) (xs := xs) [] hx hj
    rw [List.append_nil] at h1
    cases h2 : (E.e x)[j]? with
    | none => rw [List.getElem?_eq_none_iff, E.len] at h2; omega
    | some v => rw [h2] at h1; exact hr _ v h1
theorem Rdb.part {T : Type} {E : Enc T} {M : List HP} {a : Option Addr} {l c i j : Nat} {xs : List T} (rd : Rdb E M a l xs) (hij : i ≤ j) (hj : j ≤ l) (hc : l ≤ c) : Rdb E M (slA a c i E.sz) (j - i) ((xs.drop i).take (j - i)) := fun w h => by
  obtain ⟨hr, hl⟩ := rd w h
  refine ⟨?_, by simp; omega⟩
  rcases Nat.eq_or_lt_of_le hij with rfl | hlt
  · exact .inl (by simp)
  rcases hr with rfl | ⟨b, o, rfl, hr⟩
  · simp at hl; omega
  · refine .inr ⟨b, o + i * E.sz, by rw [slA_some, if_neg (by omega)], fun k v hk => ?_⟩
    rw [Nat.add_assoc]
    refine hr _ v ?_
    have e1 : xs = xs.take i ++ ((xs.drop i).take (j - i) ++ (xs.drop i).drop (j - i)) := by rw [List.take_append_drop, List.take_append_drop]
    rw [e1, Enc.rows_app, List.getElem?_append_right (by rw [E.rows_len, List.length_take]; have := Nat.mul_le_mul_right E.sz (Nat.min_le_left i xs.length); omega), E.rows_len, List.length_take, Nat.min_eq_left (by omega), Enc.rows_app, Nat.add_sub_cancel_left]
    rw [List.getElem?_append_left (by
      rcases Nat.lt_or_ge k (E.rows ((xs.drop i).take (j - i))).length with h | h
      · exact h
      · rw [List.getElem?_eq_none h] at hk; cases hk)]
    exact hk
end Go.St

