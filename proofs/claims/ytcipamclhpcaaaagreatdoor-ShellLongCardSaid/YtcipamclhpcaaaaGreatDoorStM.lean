import Derived.Test.YtcipamclhpcaaaaGreatDoorStL
/- St core, part M: cutting code; loops over typed states; what code leaves alone. -/
namespace Go.St
open Go

theorem kSeq.mono {s s' : Fr → World → KX → Prop} {K K' : KX} (hs : ∀ fr w, s fr w K → s' fr w K') (hk : ∀ e fr w, K e fr w → K' e fr w) :
    ∀ e fr w, kSeq s K e fr w → kSeq s' K' e fr w := by
  intro e fr w h
  cases e
  · exact hs _ _ h
  · exact hk _ _ _ h
  · exact hk _ _ _ h
theorem kBlock.mono {id : Nat} {K K' : KX} (hk : ∀ e fr w, K e fr w → K' e fr w) : ∀ e fr w, kBlock id K e fr w → kBlock id K' e fr w := by
  intro e fr w h
  cases e
  · exact hk _ _ _ h
  · revert h; unfold kBlock
    split <;> first | exact hk _ _ _ | skip
    · split <;> exact hk _ _ _
  · exact hk _ _ _ h
theorem sh_mono {P : Program} {cut : Nat → Fr → World → Prop} : ∀ {c : Code} {fr : Fr} {w : World} {K K' : KX}, sh P cut c fr w K → (∀ e fr w, K e fr w → K' e fr w) → sh P cut c fr w K'
  | .skip, _, _, _, _, h, hk => hk _ _ _ h
  | .label _, _, _, _, _, h, hk => hk _ _ _ h
  | .region _ ops draw, fr, w, K, K', h, hk => by
    revert h; unfold sh
    split
    · exact fun h => shL.mono h fun _ _ => hk _ _ _
    · split
      · exact fun h => shD.mono h fun _ _ => hk _ _ _
      · exact id
  | .seq a b, fr, w, K, K', h, hk => sh_mono (c := a) h (kSeq.mono (fun fr w h => sh_mono (c := b) h hk) hk)
  | .cond c a b, fr, w, K, K', h, hk => by
    revert h; unfold sh
    split
    · exact fun h => cond_imp (fun h => sh_mono h hk) (fun h => sh_mono h hk) h
    · exact id
  | .block id c, fr, w, K, K', h, hk => sh_mono (c := c) h (kBlock.mono hk)
  | .loop c, fr, w, K, K', h, hk => by
    obtain ⟨I, μ, h0, hs⟩ := h
    refine ⟨I, μ, h0, fun fr w hI => sh_mono (c := c) (hs fr w hI) fun e fr' w' h => ?_⟩
    cases e
    · exact h
    · exact hk _ _ _ h
    · exact hk _ _ _ h
  | .exit _, _, _, _, _, h, hk => hk _ _ _ h
  | .ret, _, _, _, _, h, hk => hk _ _ _ h
  | .goto _, _, _, _, _, h, _ => h
  | .rangeFunc .., _, _, _, _, h, _ => h
  | .scope c, fr, w, K, K', h, hk => sh_mono (c := c) h hk
  | .refuse _, _, _, _, _, h, _ => h

inductive Dir where
  | L | R | T | E | B
def subAt : List Dir → Code → Code
  | [], c => c
  | .L :: p, .seq a _ => subAt p a
  | .R :: p, .seq _ b => subAt p b
  | .T :: p, .cond _ a _ => subAt p a
  | .E :: p, .cond _ _ b => subAt p b
  | .B :: p, .block _ c => subAt p c
  | .B :: p, .scope c => subAt p c
  | _ :: _, _ => .skip
def cutAt (l : Nat) : List Dir → Code → Code
  | [], _ => .goto l
  | .L :: p, .seq a b => .seq (cutAt l p a) b
  | .R :: p, .seq a b => .seq a (cutAt l p b)
  | .T :: p, .cond x a b => .cond x (cutAt l p a) b
  | .E :: p, .cond x a b => .cond x a (cutAt l p b)
  | .B :: p, .block id c => .block id (cutAt l p c)
  | .B :: p, .scope c => .scope (cutAt l p c)
  | _ :: _, c => c
def ctxAt (P : Program) (cut : Nat → Fr → World → Prop) : List Dir → Code → KX → KX
  | [], _, K => K
  | .L :: p, .seq a b, K => ctxAt P cut p a (kSeq (sh P cut b) K)
  | .R :: p, .seq _ b, K => ctxAt P cut p b K
  | .T :: p, .cond _ a _, K => ctxAt P cut p a K
  | .E :: p, .cond _ _ b, K => ctxAt P cut p b K
  | .B :: p, .block id c, K => ctxAt P cut p c (kBlock id K)
  | .B :: p, .scope c, K => ctxAt P cut p c K
  | _ :: _, _, K => K
theorem sh_cutAt {P : Program} {cut : Nat → Fr → World → Prop} {l : Nat} : ∀ {p : List Dir} {c : Code} {fr : Fr} {w : World} {K : KX},
    sh P cut (cutAt l p c) fr w K → (∀ fr w, cut l fr w → sh P cut (subAt p c) fr w (ctxAt P cut p c K)) → sh P cut c fr w K
  | [], c, fr, w, K, h, hc => hc fr w h
  | .L :: p, c, fr, w, K, h, hc => by
    cases c with
    | seq a b => exact sh_cutAt (p := p) (c := a) h hc
    | _ => exact h
  | .R :: p, c, fr, w, K, h, hc => by
    cases c with
    | seq a b => exact sh_mono (c := a) h (kSeq.mono (fun fr w h => sh_cutAt (p := p) (c := b) h hc) fun _ _ _ h => h)
    | _ => exact h
  | .T :: p, c, fr, w, K, h, hc => by
    cases c with
    | cond x a b =>
      revert h; simp only [cutAt, sh]
      split
      · exact fun h => cond_imp (fun h => sh_cutAt (p := p) (c := a) h hc) id h
      · exact id
    | _ => exact h
  | .E :: p, c, fr, w, K, h, hc => by
    cases c with
    | cond x a b =>
      revert h; simp only [cutAt, sh]
      split
      · exact fun h => cond_imp id (fun h => sh_cutAt (p := p) (c := b) h hc) h
      · exact id
    | _ => exact h
  | .B :: p, c, fr, w, K, h, hc => by
    cases c with
    | block id a => exact sh_cutAt (p := p) (c := a) h hc
    | scope a => exact sh_cutAt (p := p) (c := a) h hc
    | _ => exact h

/-! ### what code leaves alone -/
def wrO (o : Oper) (t : Nat) : Bool :=
  match o.dst with
  | some d => Nat.beq d t
  | none => false
def wrC : Code → Nat → Bool
  | .region _ ops _, t => ops.toList.any (wrO · t)
  | .seq a b, t => wrC a t || wrC b t
  | .cond _ a b, t => wrC a t || wrC b t
  | .block _ c, t => wrC c t
  | .scope c, t => wrC c t
  | .loop c, t => wrC c t
  | _, _ => false
theorem updO_wr {o : Oper} {fr : Fr} {v : Value} {t : Nat} (h : wrO o t = false) : updO fr o.dst v t = fr t := by
  unfold wrO at h
  cases hd : o.dst with
  | none => rfl
  | some d =>
    simp only [hd] at h
    exact upd_ne _ _ (fun e => by subst e; simp at h)
theorem gdP_same {ops : Array Oper} {o : Oper} {fr : Fr} {F G : Fr → Bool → Prop} (h : gdP ops o fr F) (hk : ∀ b, F fr b → G fr b) : gdP ops o fr G := by
  revert h; unfold gdP
  repeat' first
    | exact id
    | exact hk _
    | (rename_i d _ _ b hb
       have e : ∀ (x : Bool), fr d = .bool x → upd fr d (.bool x) = fr := fun x hx => upd_self _ _ _ hx
       cases b
       · simp only [cond_false, e false hb]; exact hk _
       · simp only [cond_true, e true hb]; exact hk _)
    | split
theorem shL_frame {P : Program} {ops : Array Oper} : ∀ {l : List Oper} {fr : Fr} {w : World} {F : Fr → World → Prop}, shL P ops l fr w F →
    shL P ops l fr w fun fr' w' => F fr' w' ∧ ∀ t, l.any (wrO · t) = false → fr' t = fr t
  | [], fr, w, F, h => ⟨h, fun _ _ => rfl⟩
  | o :: rest, fr, w, F, h => by
    refine gdP_same h fun b => ?_
    have key : ∀ (v : Value) (fr' : Fr) (w' : World), (F fr' w' ∧ ∀ t, rest.any (wrO · t) = false → fr' t = updO fr o.dst v t) → F fr' w' ∧ ∀ t, (o :: rest).any (wrO · t) = false → fr' t = fr t := by
      rintro v fr' w' ⟨h1, h2⟩
      refine ⟨h1, fun t ht => ?_⟩
      simp only [List.any_cons, Bool.or_eq_false_iff] at ht
      rw [h2 t ht.2, updO_wr ht.1]
    cases b
    · exact fun h => shL.mono (shL_frame h) (key _)
    · exact fun h => shOp.mono h fun v w' h => shL.mono (shL_frame h) (key _)
theorem shD_frame {P : Program} {ops : Array Oper} : ∀ {fuel : Nat} {listed : Array Bool} {H : Hs} {fr : Fr} {w : World} {F : Fr → World → Prop}, shD P ops fuel listed H fr w F →
    shD P ops fuel listed H fr w fun fr' w' => F fr' w' ∧ ∀ t, ops.toList.any (wrO · t) = false → fr' t = fr t
  | 0, listed, H, fr, w, F, h => by
    revert h; unfold shD
    split
    · exact fun h => ⟨h, fun _ _ => rfl⟩
    · exact id
  | fuel + 1, listed, H, fr, w, F, h => by
    have key : ∀ (o : Oper) (i : Nat), ops[i]? = some o → ∀ (v : Value) (fr' : Fr) (w' : World), (F fr' w' ∧ ∀ t, ops.toList.any (wrO · t) = false → fr' t = updO fr o.dst v t) → F fr' w' ∧ ∀ t, ops.toList.any (wrO · t) = false → fr' t = fr t := by
      rintro o i hi v fr' w' ⟨h1, h2⟩
      refine ⟨h1, fun t ht => ?_⟩
      rw [h2 t ht]
      rw [List.any_eq_false] at ht
      exact updO_wr (by simpa using ht o (by rw [Array.mem_toList_iff]; exact Array.mem_of_getElem? hi))
    revert h; unfold shD
    split
    · exact fun h => ⟨h, fun _ _ => rfl⟩
    · split
      · split
        · exact id
        · rename_i o ho
          refine fun h => gdP_same h fun b => ?_
          cases b
          · exact fun h => shD.mono (shD_frame h) (key o _ ho _)
          · exact fun h => rdOp.mono h fun v C h => shD.mono (shD_frame h) (key o _ ho _)
      · refine fun h => allL.mono h fun j => ?_
        split
        · exact id
        · rename_i o ho
          refine fun h => gdP_same h fun b => ?_
          cases b
          · exact fun h => shD.mono (shD_frame h) (key o _ ho _)
          · exact fun h => shOp.mono h fun v w' h => heldP.mono h fun H' _ _ h => shD.mono (shD_frame h) (key o _ ho _)
theorem sh_frame {P : Program} {cut : Nat → Fr → World → Prop} : ∀ {c : Code} {fr : Fr} {w : World} {K : KX}, sh P cut c fr w K →
    sh P cut c fr w fun e fr' w' => K e fr' w' ∧ ∀ t, wrC c t = false → fr' t = fr t
  | .skip, _, _, _, h => ⟨h, fun _ _ => rfl⟩
  | .label _, _, _, _, h => ⟨h, fun _ _ => rfl⟩
  | .region _ ops draw, fr, w, K, h => by
    revert h; unfold sh
    split
    · exact fun h => shL_frame h
    · split
      · exact fun h => shD_frame h
      · exact id
  | .seq a b, fr, w, K, h => by
    refine sh_mono (c := a) (sh_frame (c := a) h) ?_
    rintro e fr' w' ⟨h1, h2⟩
    have h2' : ∀ t, wrC (.seq a b) t = false → fr' t = fr t := fun t ht => h2 t (by simp only [wrC, Bool.or_eq_false_iff] at ht; exact ht.1)
    cases e
    · refine sh_mono (c := b) (sh_frame (c := b) h1) ?_
      rintro e fr'' w'' ⟨h3, h4⟩
      exact ⟨h3, fun t ht => by rw [h4 t (by simp only [wrC, Bool.or_eq_false_iff] at ht; exact ht.2), h2' t ht]⟩
    · exact ⟨h1, h2'⟩
    · exact ⟨h1, h2'⟩
  | .cond c a b, fr, w, K, h => by
    revert h; unfold sh
    split
    · refine fun h => cond_imp (fun h => sh_mono (sh_frame h) ?_) (fun h => sh_mono (sh_frame h) ?_) h <;>
        (rintro e fr' w' ⟨h1, h2⟩
         exact ⟨h1, fun t ht => h2 t (by simp only [wrC, Bool.or_eq_false_iff] at ht; first | exact ht.1 | exact ht.2)⟩)
    · exact id
  | .block id c, fr, w, K, h => by
    refine sh_mono (c := c) (sh_frame (c := c) h) ?_
    rintro e fr' w' ⟨h1, h2⟩
    cases e
    · exact ⟨h1, h2⟩
    · revert h1; simp only [kBlock]
      split <;> exact fun h1 => ⟨h1, h2⟩
    · exact ⟨h1, h2⟩
  | .loop c, fr, w, K, h => by
    obtain ⟨I, μ, h0, hs⟩ := h
    refine ⟨fun fr' w' => I fr' w' ∧ ∀ t, wrC c t = false → fr' t = fr t, μ, ⟨h0, fun _ _ => rfl⟩, fun fr' w' hI => ?_⟩
    refine sh_mono (sh_frame (c := c) (hs fr' w' hI.1)) ?_
    rintro e fr'' w'' ⟨h1, h2⟩
    have h2' : ∀ t, wrC c t = false → fr'' t = fr t := fun t ht => by rw [h2 t ht, hI.2 t ht]
    cases e
    · exact ⟨⟨h1.1, h2'⟩, h1.2⟩
    · exact ⟨h1, h2'⟩
    · exact ⟨h1, h2'⟩
  | .exit _, _, _, _, h => ⟨h, fun _ _ => rfl⟩
  | .ret, _, _, _, h => ⟨h, fun _ _ => rfl⟩
  | .goto _, _, _, _, h => h
  | .rangeFunc .., _, _, _, h => h
  | .scope c, fr, w, K, h => sh_mono (c := c) (sh_frame (c := c) h) fun _ _ _ h => h
  | .refuse _, _, _, _, h => h

/-! ### loops over typed states -/
def LoopT {σ : Type} (body : σ → World → (σ → World → Prop) → Prop) (s : σ) (w : World) : Prop :=
  ∃ (I : σ → World → Prop) (μ : σ → World → Nat), I s w ∧ ∀ s w, I s w → body s w fun s' w' => I s' w' ∧ μ s' w' < μ s w
def nextK {σ : Type} (ext : Fr → Option σ) (next : σ → World → Prop) (K : KX) : KX := fun e fr w =>
  match e with
  | .normal => match ext fr with
    | some s => next s w
    | none => False
  | .exit id => K (.exit id) fr w
  | .ret => K .ret fr w
theorem loop_typed {P : Program} {cut : Nat → Fr → World → Prop} {c : Code} {K : KX} {σ : Type} (ext : Fr → Option σ) {B : σ → World → (σ → World → Prop) → Prop} {s : σ} {fr : Fr} {w : World}
    (hs : ext fr = some s) (h : LoopT B s w)
    (hb : ∀ s fr' w next, ext fr' = some s → (∀ t, wrC c t = false → fr' t = fr t) → B s w next → sh P cut c fr' w (nextK ext next K)) : LoopP (sh P cut c) fr w K := by
  obtain ⟨I, μ, h0, hstep⟩ := h
  refine ⟨fun fr' w => ∃ s, ext fr' = some s ∧ (∀ t, wrC c t = false → fr' t = fr t) ∧ I s w, fun fr' w => match ext fr' with | some s => μ s w | none => 0, ⟨s, hs, fun _ _ => rfl, h0⟩, ?_⟩
  rintro fr' w' ⟨s', hs', hk, hI⟩
  refine sh_mono (sh_frame (hb s' fr' w' _ hs' hk (hstep s' w' hI))) ?_
  rintro e fr'' w'' ⟨h1, h2⟩
  cases e
  · simp only [nextK] at h1
    simp only [hs']
    split at h1
    · rename_i s'' hs''
      exact ⟨⟨s'', hs'', fun t ht => by rw [h2 t ht, hk t ht], h1.1⟩, h1.2⟩
    · exact h1.elim
  · exact h1
  · exact h1
end Go.St

