import Derived.Test.YtcipamclhpcaaaaGreatDoorStI
import Derived.TacticsIn
import Derived.Scope
/- St core, part J: 'sh' is sound. -/
namespace Go.St
open Go

def frOf (a : Act) : Fr := fun t => a.tmps.getD t undef
theorem ev_frOf (a : Act) : ev (frOf a) = a.eval := by
  funext x; cases x <;> rfl
structure Rel (n : Nat) (ds : List Deferred) (a : Act) : Prop where
  defers : a.defers = ds
  size : a.tmps.size = n
theorem Rel.put {n : Nat} {ds : List Deferred} {a : Act} (h : Rel n ds a) (dst : Option Tmp) (v : Value) : Rel n ds (a.put dst v) := by
  cases dst with
  | none => exact h
  | some d => exact ⟨h.defers, by simp [Act.put, h.size]⟩
theorem frOf_put {a : Act} {dst : Option Tmp} {v : Value} (hd : ∀ d, dst = some d → d < a.tmps.size) : frOf (a.put dst v) = updO (frOf a) dst v := by
  cases dst with
  | none => rfl
  | some d =>
    have hlt := hd d rfl
    funext t
    simp only [updO, frOf, Act.put]
    simp only [Array.getD_eq_getD_getElem?, Array.getElem?_setIfInBounds]
    by_cases h : t = d
    · subst h; rw [upd_same]; simp [hlt]
    · rw [upd_ne _ _ h, if_neg (Ne.symm h)]
      simp [frOf]
theorem yielded_frOf (ops : Array Oper) (a : Act) (j : Nat) : yielded ops a.tmps j = yldF ops (frOf a) j := by
  unfold yielded yldF frOf
  cases (ops[j]?).bind (·.dst) with
  | none => rfl
  | some d =>
    simp only [Option.bind_some]
    by_cases h : d < a.tmps.size
    · have e : a.tmps.getD d undef = a.tmps[d] := by simp [Array.getD, h]
      rw [e]
      simp only [Array.getElem?_eq_getElem h]
      generalize a.tmps[d] = x
      cases x <;> rfl
    · simp [h, undef]
theorem wanted_frOf (ops : Array Oper) (o : Oper) (a : Act) : Region.wanted o (yielded ops a.tmps) = wantF ops o (frOf a) := by
  unfold wantF
  congr 1
  funext j
  exact yielded_frOf ops a j

def opOk (n : Nat) (o : Oper) : Bool :=
  (match o.dst with
  | some d => Nat.blt d n
  | none => true) && (match o.op with
  | .defer _ => false
  | _ => true)
theorem opOk.dst {n : Nat} {o : Oper} (h : opOk n o = true) : ∀ d, o.dst = some d → d < n := by
  intro d hd
  simp only [opOk, hd, Bool.and_eq_true] at h
  have h1 := h.1
  rw [Nat.blt_eq] at h1
  exact h1
theorem opOk.nd {n : Nat} {o : Oper} (h : opOk n o = true) : ∀ c, o.op ≠ .defer c := by
  intro c hc
  simp [opOk, hc] at h
def codeOk (n : Nat) : Code → Bool
  | .region _ ops _ => ops.toList.all (opOk n)
  | .seq a b => codeOk n a && codeOk n b
  | .cond _ a b => codeOk n a && codeOk n b
  | .block _ c => codeOk n c
  | .scope c => codeOk n c
  | .loop c => codeOk n c
  | _ => true

def QK (n : Nat) (ds : List Deferred) (K : KX) : Exit → Act → World → Prop
  | .normal, a, w => Rel n ds a ∧ K .normal (frOf a) w
  | .exit id, a, w => Rel n ds a ∧ K (.exit id) (frOf a) w
  | .ret, a, w => Rel n ds a ∧ K .ret (frOf a) w
  | _, _, _ => False

section
variable {P : Program} {n : Nat} {ds : List Deferred} {r : Option Nat}

theorem shL_sound (hP : NoNumGo P) {ops : Array Oper} {K : KX} : ∀ {l : List Oper} {a : Act} {w : World}, l.all (opOk n) = true → Rel n ds a →
    shL P ops l (frOf a) w (fun fr w => K .normal fr w) → wpListIn (FW r) 0 P ops (QK n ds K) l a w
  | [], a, w, _, hr, h => ⟨hr, h⟩
  | o :: rest, a, w, hok, hr, h => by
    simp only [List.all_cons, Bool.and_eq_true] at hok
    have hd : ∀ d, o.dst = some d → d < a.tmps.size := fun d hd => by rw [hr.size]; exact opOk.dst hok.1 d hd
    have h1 := gdP_sound h
    unfold wpListIn
    rw [wanted_frOf]
    split at h1
    · rename_i hw
      rw [if_pos hw]
      have h2 := shOp_sound hP h1
      rw [ev_frOf] at h2
      refine upV_wpIn (opOk.nd hok.1) h2 fun v w' h3 => ?_
      rw [← frOf_put hd] at h3
      exact shL_sound hP hok.2 (hr.put _ _) h3
    · rename_i hw
      rw [if_neg (by simp [hw])]
      refine ⟨fun _ _ => trivial, ?_⟩
      rw [← frOf_put hd] at h1
      exact shL_sound hP hok.2 (hr.put _ _) h1

theorem anyH_wpAnyIn {ops : Array Oper} {K : KX} (hok : ops.toList.all (opOk n) = true) : ∀ {fuel : Nat} {listed : Array Bool} {H : Hs} {a : Act} {w : World}, Rel n ds a →
    anyH P ops (fun fr w => K .normal fr w) fuel listed H (frOf a) w → wpAnyIn (FW r) 0 P .any ops (QK n ds K) fuel listed a w
  | 0, listed, H, a, w, hr, h => ⟨h.1, hr, h.2⟩
  | fuel + 1, listed, H, a, w, hr, h => by
    refine ⟨fun h0 => ⟨hr, h.1 h0⟩, fun i hi => ?_⟩
    have h1 := h.2 i hi
    unfold stepF at h1
    unfold wpOpIn
    split at h1
    · exact h1.elim
    · rename_i o ho
      simp only [ho]
      have hoo : opOk n o = true := by
        have := List.all_eq_true.1 hok o (by
          rw [Array.mem_toList_iff]
          exact Array.mem_of_getElem? ho)
        exact this
      have hd : ∀ d, o.dst = some d → d < a.tmps.size := fun d hd => by rw [hr.size]; exact opOk.dst hoo d hd
      rw [wanted_frOf]
      split at h1
      · rename_i hw
        rw [if_pos hw]
        rw [ev_frOf] at h1
        refine upV_wpIn (opOk.nd hoo) h1 fun v w' h2 => ?_
        simp only [← frOf_put hd] at h2
        have h3 : anyH P ops (fun fr w => K .normal fr w) fuel (listed.setIfInBounds i true) [] (frOf (a.put o.dst v)) w' := by
          have : ∀ {H : Hs} {F : Hs → Prop}, heldP o H w' F → ∃ H', F H' := by
            intro H
            induction H with
            | nil => intro F h; exact ⟨[], h⟩
            | cons p H ih =>
              intro F h
              obtain ⟨k, C⟩ := p
              simp only [heldP] at h
              split at h
              · exact ih h
              · split at h
                · obtain ⟨H', h⟩ := ih h; exact ⟨_, h⟩
                · obtain ⟨H', h⟩ := ih h.2; exact ⟨_, h⟩
          obtain ⟨H', h3⟩ := this h2
          exact anyH_sub (List.nil_subset _) h3
        exact anyH_wpAnyIn hok (hr.put _ _) h3
      · rename_i hw
        rw [if_neg (by simp [hw])]
        refine ⟨fun _ _ => trivial, ?_⟩
        rw [← frOf_put hd] at h1
        exact anyH_wpAnyIn hok (hr.put _ _) h1

theorem stepR_scope {b : Frame} {a : Act} {k : List Item} {cs : List Frame} {w : World} {c : Code} : step P (lone (b.atR a (.code (.scope c) :: k)) cs w) = .next (lone (b.atR a (.code c :: .inScope c :: k)) cs w) :=
  step_lone_go (by simp [stepG, stepG.exec, Frame.atR])
theorem stepR_inScope {b : Frame} {a : Act} {k : List Item} {cs : List Frame} {w : World} {c : Code} : step P (lone (b.atR a (.inScope c :: k)) cs w) = .next (lone (b.atR a k) cs w) :=
  step_lone_go (by simp [stepG, stepG.exec, Frame.atR])
/-- a scope that no jump of its own comes back to -/
theorem wpIn_scope {F : Fence} {m : Nat} {c : Code} {Q : Exit → Act → World → Prop} {a : Act} {w : World} (h : c.wpIn F m P (Exit.noGoto Q) a w) : (Code.scope c).wpIn F m P Q a w := by
  intro b k cs hro hb hr
  have h0 : (lone (b.atR a (.code (.scope c) :: k)) cs w).fenced P F := fenced_calm hb hr rfl
  obtain ⟨e, a₁, w₁, hq, harr⟩ := h b (.inScope c :: k) cs hro hb hr
  cases e with
  | normal => exact ⟨.normal, a₁, w₁, hq, .head h0 stepR_scope (StepsIn.trans harr (.one (fenced_calm hb hr rfl) stepR_inScope))⟩
  | exit id =>
    have hx : exitTo id (.inScope c :: k) = exitTo id k := by simp [exitTo]
    exact ⟨.exit id, a₁, w₁, hq, fun k' hk => .head h0 stepR_scope (harr.1 k' (by rw [hx]; exact hk)),
      fun hr' hk => let ⟨k₁, h1, h2⟩ := harr.2 hr' (by rw [hx]; exact hk); ⟨k₁, h1, .head h0 stepR_scope h2⟩⟩
  | goto l => exact hq.elim
  | ret => exact ⟨_, a₁, w₁, hq, .of_steps (.one h0 stepR_scope) harr⟩
  | panic ch => exact ⟨_, a₁, w₁, hq, .of_steps (.one h0 stepR_scope) harr⟩
  | outgrown => exact ⟨_, a₁, w₁, hq, .of_steps (.one h0 stepR_scope) harr⟩
theorem sh_sound (hm : P.follows .mixedOrders = true) (hP : NoNumGo P) : ∀ {c : Code} {a : Act} {w : World} {K : KX}, codeOk n c = true → Rel n ds a → sh P noCut c (frOf a) w K →
    c.wpIn (FW r) 0 P (QK n ds K) a w
  | .skip, a, w, K, _, hr, h => wpIn_skip ⟨hr, h⟩
  | .label _, a, w, K, _, hr, h => wpIn_label ⟨hr, h⟩
  | .region id ops draw, a, w, K, hok, hr, h => by
    unfold sh at h
    split at h
    · exact wpIn_region_list (shL_sound hP hok hr h)
    · split at h
      · rename_i hsel
        refine wpIn_region_any hm ?_
        exact anyH_wpAnyIn hok hr (shD_sound hP hsel (fun _ h => by cases h) h)
      · exact h.elim
  | .seq x y, a, w, K, hok, hr, h => by
    simp only [codeOk, Bool.and_eq_true] at hok
    refine wpIn_seq (wpIn_mono (sh_sound hm hP hok.1 hr h) ?_)
    intro e a' w' hq
    cases e <;> simp only [QK, kSeq] at hq <;> first
      | exact hq.elim
      | (simp only [Exit.then]; first | exact hq | exact sh_sound hm hP hok.2 hq.1 hq.2)
  | .cond c x y, a, w, K, hok, hr, h => by
    simp only [codeOk, Bool.and_eq_true] at hok
    unfold sh at h
    split at h
    · rename_i t ht
      rw [ev_frOf] at ht
      refine wpIn_cond_split ht (fun e => ?_) (fun e => ?_)
      · subst e; exact sh_sound hm hP hok.1 hr h
      · subst e; exact sh_sound hm hP hok.2 hr h
    · exact h.elim
  | .block id c, a, w, K, hok, hr, h => by
    refine wpIn_block (wpIn_mono (sh_sound hm hP hok hr h) ?_)
    intro e a' w' hq
    cases e <;> simp only [QK, kBlock] at hq <;> simp only [Exit.inBlock] <;> first
      | exact hq.elim
      | exact hq
      | skip
    rename_i id'
    split at hq
    · rename_i hb
      rw [if_pos (Nat.eq_of_beq_eq_true hb)]; exact hq
    · rename_i hb
      rw [if_neg (by intro e; subst e; simp at hb)]; exact hq
  | .loop c, a, w, K, hok, hr, h => by
    obtain ⟨I, μ, h0, hstep⟩ := h
    refine wpIn_loop (fun a w => Rel n ds a ∧ I (frOf a) w) (fun a w => μ (frOf a) w) ⟨hr, h0⟩ fun a' w' ⟨hr', hI⟩ => ?_
    refine wpIn_mono (sh_sound hm hP (c := c) hok hr' (hstep _ _ hI)) ?_
    intro e a' w' hq
    cases e <;> simp only [QK] at hq <;> simp only [Exit.then] <;> first
      | exact hq.elim
      | exact ⟨⟨hq.1, hq.2.1⟩, hq.2.2⟩
      | exact hq
  | .exit id, a, w, K, _, hr, h => wpIn_exit ⟨hr, h⟩
  | .ret, a, w, K, _, hr, h => wpIn_ret ⟨hr, h⟩
  | .goto _, _, _, _, _, _, h => h.elim
  | .rangeFunc .., _, _, _, _, _, h => h.elim
  | .scope c, a, w, K, hok, hr, h => by
    refine wpIn_scope (wpIn_mono (sh_sound hm hP (c := c) hok hr h) ?_)
    intro e a' w' hq
    cases e <;> simp only [QK] at hq <;> simp only [Exit.noGoto] <;> first
      | exact hq.elim
      | exact hq
  | .refuse _, _, _, _, _, _, h => h.elim
end
end Go.St

