import Derived.Test.YtcipamclhpcaaaaGreatDoorStN
import Derived.RangeFuncRecord
/- St core, part R: a function whose spine holds one range over a function. -/
set_option linter.unusedVariables false
namespace Go.St
open Go

def exJ : Ex → Option Code
  | .normal => none
  | .exit id => some (.exit id)
  | .ret => some .ret
def isN : Ex → Bool
  | .normal => true
  | .exit _ => false
  | .ret => false
/-- a loop's yield -/
def yv (l : Nat) : Value := .func (.yield l) #[] #[]
/-- the one call of a range over the function g -/
def rcP (P : Program) (g : Value) (l : Nat) (w : World) (K : World → Prop) : Prop :=
  match g with
  | .func (.func gf) cap lb => cap = #[] ∧ hasBody P gf = true ∧ CallsV P gf (#[yv l] ++ lb) w fun _ w' => K w'
  | _ => False
/-- a block that is no cells -/
def noCells : Obj → Prop
  | .cells _ _ _ => False
  | _ => True
/-- a round begins: the record is ready; it is busy then -/
abbrev Beg := World → (World → Prop) → Prop
/-- a range over the function g. B: a round, from yield's arguments on. K: what is asked behind, by the way in which it is left; D: the block of the mark. -/
def rfP (P : Program) (g : Value) (w : World) (B : List Value → World → Beg → (Ex → World → Prop) → Prop) (K : Ex → Nat → World → Prop) : Prop :=
  ∀ (oB : Obj) (oE oX : Ex → Obj), (noCells oB ∧ ∀ e, noCells (oE e) ∧ noCells (oX e)) →
    (∀ (args : List Value) (W : World) (R : Value → World → Prop), W.heap[w.heap.size + 1]? = some (oE .normal) →
      B args W (fun W1 k => W1.heap[w.heap.size + 1]? = some (oE .normal) ∧ k (W1.putObj (w.heap.size + 1) oB))
        (fun e W2 => W2.heap[w.heap.size + 1]? = some oB ∧ R (.bool (isN e)) (W2.putObj (w.heap.size + 1) (oE e))) →
      DynV P (yv (w.heap.size + 1)) args.toArray W R) →
    rcP P g (w.heap.size + 1) ((w.alloc (.deferred (some []))).alloc (oE .normal)) fun W =>
      ∃ e, W.heap[w.heap.size + 1]? = some (oE e) ∧ K e w.heap.size (W.putObj (w.heap.size + 1) (oX e))

def updPs (fr : Fr) (ps : Array Tmp) (args : List Value) : Fr := (ps.toList.zip args).foldl (fun f pv => upd f pv.1 pv.2) fr
/-- a round's text -/
def rndP (P : Program) (fr : Fr) (ps : Array Tmp) (as bo : Code) (args : List Value) (W : World) (beg : Beg) (k : Ex → World → Prop) : Prop :=
  args.length = ps.size ∧ sh P noCut as (updPs fr ps args) W fun e fr W1 =>
    match e with
    | .normal => beg W1 fun W2 => sh P noCut bo fr W2 fun e _ W3 => k e W3
    | .exit _ => False
    | .ret => False
def mk1 (D : Nat) : List Deferred := [{ target := .collected D, args := #[] }]
/-- behind the spine's range -/
def QM (n : Nat) (K : KX) (KM : Nat → KX) : Exit → Act → World → Prop := fun e a w =>
  QK n [] K e a w ∨ ∃ D, QK n (mk1 D) (KM D) e a w

theorem frOf_fold {a : Array Value} (ds : List Deferred) : ∀ (l : List (Tmp × Value)) (a : Array Value), (∀ p ∈ l, p.1 < a.size) →
    frOf { tmps := l.foldl (fun t (p : Tmp × Value) => t.setIfInBounds p.1 p.2) a, defers := ds } = l.foldl (fun f pv => upd f pv.1 pv.2) (frOf { tmps := a, defers := ds })
  | [], _, _ => rfl
  | (t, v) :: l, a, h => by
    have ht : t < a.size := h (t, v) List.mem_cons_self
    rw [List.foldl_cons, List.foldl_cons, frOf_fold (a := a) ds l _ (fun p hp => by simpa using h p (List.mem_cons_of_mem _ hp))]
    congr 1
    funext u
    simp only [frOf, upd, Array.getD_eq_getD_getElem?]
    by_cases hu : u = t
    · subst hu; simp [ht]
    · have : Nat.beq u t = false := by
        cases hb : Nat.beq u t
        · rfl
        · exact absurd (Nat.eq_of_beq_eq_true hb) hu
      rw [this, Array.getElem?_setIfInBounds_ne (fun e => hu e.symm)]; rfl
theorem fold_size : ∀ (l : List (Tmp × Value)) (a : Array Value), (l.foldl (fun t (p : Tmp × Value) => t.setIfInBounds p.1 p.2) a).size = a.size
  | [], _ => rfl
  | (t, v) :: l, a => by rw [List.foldl_cons, fold_size l]; simp

def psOk (n : Nat) (ps : Array Tmp) : Bool := ps.toList.all fun p => Nat.blt p n

theorem rf_sound {P : Program} {n : Nat} (hm : P.follows .mixedOrders = true) (hP : NoNumGo P) {g : Operand} {ps : Array Tmp} {as bo : Code} {a : Act} {w : World} {KM : Nat → KX}
    (hps : psOk n ps = true) (ha : codeOk n as = true) (hb : codeOk n bo = true) (hr : Rel n [] a)
    (h : rfP P (ev (frOf a) g) w (rndP P (frOf a) ps as bo) fun e D W => KM D e (frOf a) W) :
    (Code.rangeFunc g ps as bo).wpIn (FW none) 0 P (fun e a w => ∃ D, QK n (mk1 D) (KM D) e a w) a w := by
  refine wpIn_rangeFunc fun fn _ => ?_
  obtain ⟨rec, hrec⟩ : ∃ rec : LoopState → Option Code → Loop, rec = fun st pe => { state := st, pending := pe, fn, tmps := a.tmps, params := ps, assign := as, body := bo, defers := w.heap.size } := ⟨_, rfl⟩
  obtain ⟨oE, hoE⟩ : ∃ oE : Ex → Obj, oE = fun e => .loop (rec (if (exJ e).isNone then .ready else .done) (exJ e)) := ⟨_, rfl⟩
  have hE0 : oE .normal = .loop (rec .ready none) := by rw [hoE]; rfl
  have hx := h (.loop { rec .ready none with state := .busy }) oE (fun e => .loop { rec (if (exJ e).isNone then .ready else .done) (exJ e) with state := .exhausted })
    ⟨trivial, fun e => ⟨by rw [hoE]; trivial, trivial⟩⟩ ?_
  · rw [hE0] at hx
    unfold rcP at hx
    split at hx
    · rename_i gf cap lb hg
      obtain ⟨rfl, hbd, hc⟩ := hx
      have hev : a.eval g = .func (.func gf) #[] lb := by rw [← ev_frOf]; exact hg
      unfold hasBody at hbd
      split at hbd
      · rename_i fnn hfn
        split at hbd
        · rename_i body hbody
          have hn := hP gf fnn hfn
          obtain ⟨W1, hW1⟩ : ∃ W1, (w.alloc (.deferred (some []))).alloc (.loop { state := .ready, pending := none, fn, tmps := a.tmps, params := ps, assign := as, body := bo, defers := w.heap.size }) = W1 := ⟨_, rfl⟩
          refine ⟨w.heap.size + 1, mk1 w.heap.size, W1, { target := .fn (.func gf) lb, args := #[yv (w.heap.size + 1)] }, W1, gf, #[yv (w.heap.size + 1)] ++ lb, W1, by rw [← hW1]; exact run_enterLoop_outer _ _ _ _ _, ?_, fun _ _ => trivial, ?_, fun h => by simp [FW] at h, ?_⟩
          · simp only [resolve, hev]
            simp [go_sem, yv]
          · simp [invoke, go_sem, callFunc, hfn, hn, hbody]
          · rw [hrec] at hc
            rw [← hW1]
            refine callsFW (CallsIn.mono hc ?_)
            rintro e W ⟨v, rfl, e', hl, hK⟩
            rw [hoE] at hl
            have he := run_endLoop (P := P) hl (by rw [hrec]; cases e' <;> simp [exJ])
            rw [hrec] at he
            refine ⟨exJ e', _, he, ?_⟩
            have hra : Rel n (mk1 w.heap.size) { a with defers := mk1 w.heap.size ++ a.defers } := ⟨by rw [hr.defers]; rfl, hr.size⟩
            cases e'
            · exact ⟨w.heap.size, hra, hK⟩
            · exact wpIn_exit ⟨w.heap.size, hra, hK⟩
            · exact wpIn_ret ⟨w.heap.size, hra, hK⟩
        · cases hbd
      · cases hbd
    · exact hx.elim
  · intro args W R hl hB
    rw [hE0] at hl
    obtain ⟨hlen, hB⟩ := hB
    have hy := run_yield (P := P) (args := args.toArray) hl (by rw [hrec]; simp [hlen])
    unfold DynV
    have : (do let d ← Deferred.ofValue (yv (w.heap.size + 1)) args.toArray; invoke d.target d.args : Sem Next).run P W = (Instr.yield (w.heap.size + 1) args.toArray).run P W := by
      simp [go_sem, yv, invoke, Deferred.ofValue, callFunc]
    rw [this, hy]
    show RoundV P _ _ _ _ _ _ _
    rw [hrec]
    refine roundFW (n := 0) (r := none) (roundIn_of_wpIn (F := FW none) trivial ?_)
    have hfr := frOf_fold (a := a.tmps) [] (ps.toList.zip args) a.tmps (fun p hp => by
      have := (List.all_eq_true.1 hps) p.1 (List.of_mem_zip hp).1
      rw [hr.size]; exact Nat.le_of_ble_eq_true this)
    have hzip : ∀ (f : Array Value → Tmp × Value → Array Value) (b : Array Value), (ps.zip args.toArray).foldl f b = (ps.toList.zip args).foldl f b := by
      intro f b
      rw [← Array.foldl_toList]
      simp
    have e1 : frOf a = frOf { tmps := a.tmps, defers := [] } := rfl
    unfold updPs at hB
    rw [e1, ← hfr] at hB
    show as.wpIn (FW (some (w.heap.size + 1))) 0 P _ _ W
    rw [hzip]
    have hrel : Rel n [] { tmps := (ps.toList.zip args).foldl (fun t (p : Tmp × Value) => t.setIfInBounds p.1 p.2) a.tmps, defers := [] } := ⟨rfl, by rw [fold_size]; exact hr.size⟩
    refine wpIn_mono (sh_sound (r := some (w.heap.size + 1)) (ds := []) hm hP ha hrel hB) ?_
    intro e a1 W1 hq
    cases e <;> simp only [QK] at hq <;> first | exact hq.elim | exact hq.2.elim | skip
    obtain ⟨hr1, hl1, hk⟩ := hq
    rw [hE0] at hl1
    refine ⟨_, run_beginRound hl1 (by rw [hrec]), ?_⟩
    refine wpIn_mono (sh_sound (r := some (w.heap.size + 1)) (ds := []) hm hP hb hr1 hk) ?_
    intro e a2 W2 hq
    cases e <;> simp only [QK] at hq <;> first | exact hq.elim | skip
    · obtain ⟨hr2, hl2, hR⟩ := hq
      have := run_endRound (P := P) none hl2
      rw [hoE, hrec] at hR
      rw [hrec] at this
      exact ⟨_, _, this, _, rfl, hR⟩
    · obtain ⟨hr2, hl2, hR⟩ := hq
      rename_i id
      have := run_endRound (P := P) (some (.exit id)) hl2
      rw [hoE, hrec] at hR
      rw [hrec] at this
      exact ⟨_, _, this, _, rfl, hR⟩
    · obtain ⟨hr2, hl2, hR⟩ := hq
      have := run_endRound (P := P) (some .ret) hl2
      rw [hoE, hrec] at hR
      rw [hrec] at this
      exact ⟨_, _, this, _, rfl, hR⟩

theorem inBlock_mono {id : Nat} {Q Q' : Exit → Act → World → Prop} {e : Exit} {a : Act} {w : World} (h : Exit.inBlock id Q e a w) (hq : ∀ e a w, Q e a w → Q' e a w) : Exit.inBlock id Q' e a w := by
  revert h
  cases e <;> simp only [Exit.inBlock] <;> first
    | exact hq _ _ _
    | (split <;> exact hq _ _ _)
def spOk : List Dir → Code → Bool
  | [], .rangeFunc _ _ _ _ => true
  | .L :: p, .seq x y => spOk p x && noGoto y
  | .R :: p, .seq x y => noGoto x && spOk p y
  | .B :: p, .block _ c => spOk p c
  | _, _ => false
/-- the spine: a range over a function at the end of p; before it and behind it no other -/
theorem spine_sound {P : Program} {n l : Nat} {cut : Nat → Fr → World → Prop} (hm : P.follows .mixedOrders = true) (hP : NoNumGo P) {g : Operand} {ps : Array Tmp} {as bo : Code}
    (hps : psOk n ps = true) (ha : codeOk n as = true) (hb : codeOk n bo = true) : ∀ {p : List Dir} {c : Code} {K : KX} {KM : Nat → KX} {a : Act} {w : World},
    spOk p c = true → codeOk n c = true → subAt p c = .rangeFunc g ps as bo → Rel n [] a → sh P cut (cutAt l p c) (frOf a) w K →
    (∀ fr w, cut l fr w → rfP P (ev fr g) w (rndP P fr ps as bo) fun e D W => ctxAt P noCut p c (KM D) e fr W) →
    c.wpIn (FW none) 0 P (QM n K KM) a w
  | [], c, K, KM, a, w, _, _, hs, hr, h, hc => by
    simp only [subAt] at hs; subst hs
    exact wpIn_mono (rf_sound hm hP hps ha hb hr (hc _ _ h)) fun e a w h => .inr h
  | .L :: p, .seq x y, K, KM, a, w, hsp, hok, hs, hr, h, hc => by
    simp only [spOk, Bool.and_eq_true] at hsp
    simp only [codeOk, Bool.and_eq_true] at hok
    refine wpIn_seq (wpIn_mono (spine_sound hm hP hps ha hb (p := p) (c := x) (K := kSeq (sh P cut y) K) (KM := fun D => kSeq (sh P noCut y) (KM D)) hsp.1 hok.1 hs hr h hc) ?_)
    rintro e a' w' (hq | ⟨D, hq⟩)
    · cases e <;> simp only [QK, kSeq] at hq <;> first
        | exact hq.elim
        | (simp only [Exit.then]; first | exact .inl hq | exact wpIn_mono (sh_sound hm hP hok.2 hq.1 (sh_anyCut hsp.2 hq.2)) fun e a w h => .inl h)
    · cases e <;> simp only [QK, kSeq] at hq <;> first
        | exact hq.elim
        | (simp only [Exit.then]; first | exact .inr ⟨D, hq⟩ | exact wpIn_mono (sh_sound hm hP hok.2 hq.1 hq.2) fun e a w h => .inr ⟨D, h⟩)
  | .R :: p, .seq x y, K, KM, a, w, hsp, hok, hs, hr, h, hc => by
    simp only [spOk, Bool.and_eq_true] at hsp
    simp only [codeOk, Bool.and_eq_true] at hok
    refine wpIn_seq (wpIn_mono (sh_sound hm hP hok.1 hr (sh_anyCut (c := x) hsp.1 h)) ?_)
    intro e a' w' hq
    cases e <;> simp only [QK, kSeq] at hq <;> first
      | exact hq.elim
      | (simp only [Exit.then]; first | exact .inl hq | exact spine_sound hm hP hps ha hb (p := p) (c := y) hsp.2 hok.2 hs hq.1 hq.2 hc)
  | .B :: p, .block id c, K, KM, a, w, hsp, hok, hs, hr, h, hc => by
    refine wpIn_block (wpIn_mono (spine_sound hm hP hps ha hb (p := p) (c := c) (K := kBlock id K) (KM := fun D => kBlock id (KM D)) hsp hok hs hr h hc) ?_)
    have key : ∀ (ds : List Deferred) (K : KX) e a' w', QK n ds (kBlock id K) e a' w' → Exit.inBlock id (QK n ds K) e a' w' := by
      intro ds K e a' w' hq
      cases e <;> simp only [QK, kBlock] at hq <;> simp only [Exit.inBlock] <;> first
        | exact hq.elim
        | exact hq
        | skip
      rename_i id'
      split at hq
      · rename_i hb
        rw [if_pos (Nat.eq_of_beq_eq_true hb)]; exact hq
      · rename_i hb
        rw [if_neg (by intro e; subst e; simp at hb)]; exact hq
    rintro e a' w' (hq | ⟨D, hq⟩)
    · exact inBlock_mono (key _ _ _ _ _ hq) fun e a w h => .inl h
    · exact inBlock_mono (key _ _ _ _ _ hq) fun e a w h => .inr ⟨D, h⟩

/-- the end of a function that has ranged: its block is shut, then the results are read -/
def retM (P : Program) (rs : List ResultVar) (R : Value → World → Prop) (D : Nat) : KX := fun e fr w =>
  w.heap[D]? = some (.deferred (some [])) ∧ retK P rs R e fr (w.putObj D (.deferred none))

theorem callsV_of_spine {P : Program} (hm : P.follows .mixedOrders = true) (hP : NoNumGo P) {f : FuncId} {fn : Func} {c : Code} {args : List Value} {w : World} {R : Value → World → Prop}
    {l : Nat} {cut : Nat → Fr → World → Prop} {g : Operand} {ps : Array Tmp} {as bo : Code} {p : List Dir}
    (hf : P.funcs[f]? = some fn) (hb : fn.body = some c) (hn : Nat.ble args.length fn.ntmps = true)
    (hchk : (psOk fn.ntmps ps && codeOk fn.ntmps as && codeOk fn.ntmps bo && spOk p c && codeOk fn.ntmps c) = true) (hs : subAt p c = .rangeFunc g ps as bo)
    (h : sh P cut (cutAt l p c) (frA args) w (retK P fn.results.toList R))
    (hc : ∀ fr w, cut l fr w → rfP P (ev fr g) w (rndP P fr ps as bo) fun e D W => ctxAt P noCut p c (retM P fn.results.toList R D) e fr W) : CallsV P f args.toArray w R := by
  simp only [Bool.and_eq_true] at hchk
  have hle := Nat.le_of_ble_eq_true hn
  refine callsIn_of_wp_marks hf hb trivial ?_
  have hfr : frOf { tmps := args.toArray ++ Array.replicate (fn.ntmps - args.toArray.size) undef, defers := [] } = frA args := by
    funext t
    simp only [frOf, frA, Array.getD_eq_getD_getElem?, List.getD_eq_getElem?_getD]
    by_cases ht : t < args.length
    · rw [Array.getElem?_append_left (by simpa using ht)]; simp
    · rw [Array.getElem?_append_right (by simpa using ht), Array.getElem?_replicate]
      have : args[t]? = none := by simp; omega
      rw [this]
      split <;> rfl
  rw [← hfr] at h
  have hsnd := spine_sound (n := fn.ntmps) hm hP hchk.1.1.1.1 hchk.1.1.1.2 hchk.1.1.2 hchk.1.2 hchk.2 hs ⟨rfl, by simp; omega⟩ h hc
  refine wpIn_mono hsnd ?_
  have k1 : ∀ (e : Exit) (a' : Act) (w' : World), QK fn.ntmps [] (retK P fn.results.toList R) e a' w' → bodyPostM (FW none) 0 P fn (fun e w => ∃ v, e = .returned v ∧ R v w) e a' w' := by
    intro e a' w' hq
    cases e <;> simp only [QK, retK] at hq <;> first
      | exact hq.elim
      | exact hq.2.elim
      | skip
    all_goals
      obtain ⟨v, hr, hR⟩ := results_of hq.2
      simp only [bodyPostM]
      rw [hq.1.defers]
      exact ⟨v, hr, v, rfl, hR⟩
  have k2 : ∀ (D : Nat) (e : Exit) (a' : Act) (w' : World), QK fn.ntmps (mk1 D) (retM P fn.results.toList R D) e a' w' → bodyPostM (FW none) 0 P fn (fun e w => ∃ v, e = .returned v ∧ R v w) e a' w' := by
    intro D e a' w' hq
    cases e <;> simp only [QK, retM, retK] at hq <;> first
      | exact hq.elim
      | exact hq.2.2.elim
      | skip
    all_goals
      obtain ⟨v, hr, hR⟩ := results_of hq.2.2
      simp only [bodyPostM]
      rw [hq.1.defers]
      exact ⟨by simp, .inl ⟨D, _, rfl, run_takeDeferred hq.2.1, v, hr, v, rfl, hR⟩⟩
  rintro e a' w' (hq | ⟨D, hq⟩)
  · exact k1 e a' w' hq
  · exact k2 D e a' w' hq

/-! the typed form -/
def rfT (P : Program) (g : Value) (w : World) {σ : Type} (enc : σ → List Value) (B : σ → World → Beg → (Ex → World → Prop) → Prop) (Kn Kr : Nat → World → Prop) (xid : Nat) (Kx : Nat → World → Prop) : Prop :=
  ∀ (oB : Obj) (oE oX : Ex → Obj), (noCells oB ∧ ∀ e, noCells (oE e) ∧ noCells (oX e)) →
    (∀ (s : σ) (W : World) (R : Value → World → Prop), W.heap[w.heap.size + 1]? = some (oE .normal) →
      B s W (fun W1 k => W1.heap[w.heap.size + 1]? = some (oE .normal) ∧ k (W1.putObj (w.heap.size + 1) oB))
        (fun e W2 => W2.heap[w.heap.size + 1]? = some oB ∧ R (.bool (isN e)) (W2.putObj (w.heap.size + 1) (oE e))) →
      DynV P (yv (w.heap.size + 1)) (enc s).toArray W R) →
    rcP P g (w.heap.size + 1) ((w.alloc (.deferred (some []))).alloc (oE .normal)) fun W =>
      (W.heap[w.heap.size + 1]? = some (oE .normal) ∧ Kn w.heap.size (W.putObj (w.heap.size + 1) (oX .normal))) ∨
      (W.heap[w.heap.size + 1]? = some (oE .ret) ∧ Kr w.heap.size (W.putObj (w.heap.size + 1) (oX .ret))) ∨
      (W.heap[w.heap.size + 1]? = some (oE (.exit xid)) ∧ Kx w.heap.size (W.putObj (w.heap.size + 1) (oX (.exit xid))))
theorem rcP.mono {P : Program} {g : Value} {l : Nat} {w : World} {K K' : World → Prop} (h : rcP P g l w K) (hk : ∀ w, K w → K' w) : rcP P g l w K' := by
  unfold rcP at h ⊢
  split at h
  · exact ⟨h.1, h.2.1, h.2.2.mono fun _ _ => hk _⟩
  · exact h.elim
theorem rf_typed {P : Program} {g g' : Value} {w : World} {σ : Type} {enc : σ → List Value} {Bt : σ → World → Beg → (Ex → World → Prop) → Prop} {Kn Kr : Nat → World → Prop} {xid : Nat} {Kx : Nat → World → Prop}
    {B : List Value → World → Beg → (Ex → World → Prop) → Prop} {K : Ex → Nat → World → Prop}
    (hg : g' = g) (h : rfT P g' w enc Bt Kn Kr xid Kx) (hB : ∀ s W beg k, Bt s W beg k → B (enc s) W beg k)
    (hn : ∀ D W, Kn D W → K .normal D W) (hr : ∀ D W, Kr D W → K .ret D W) (hx : ∀ D W, Kx D W → K (.exit xid) D W) : rfP P g w B K := by
  subst hg
  intro oB oE oX ho hy
  refine (h oB oE oX ho fun s W R hl hb => hy (enc s) W R hl (hB s W _ _ hb)).mono ?_
  rintro W (⟨hl, hk⟩ | ⟨hl, hk⟩ | ⟨hl, hk⟩)
  · exact ⟨_, hl, hn _ _ hk⟩
  · exact ⟨_, hl, hr _ _ hk⟩
  · exact ⟨_, hl, hx _ _ hk⟩
end Go.St

