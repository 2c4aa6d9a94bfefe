import Derived.Test.YtcipamclhpcaaaaGreatDoorStH
/- St core, part I: 'shL' (a region in the order of its text), 'shD' (a region that draws its order), 'sh' (code). -/
namespace Go.St
open Go

/-- A guard is decided (an open one is split). -/
def gdP (ops : Array Oper) (o : Oper) (fr : Fr) (K : Fr → Bool → Prop) : Prop :=
  match o.guard with
  | none => K fr true
  | some (j, want) => match (ops[j]?).bind (·.dst) with
    | none => K fr false
    | some d => match fr d with
      | .bool b => cond b (K (upd fr d (.bool true)) want) (K (upd fr d (.bool false)) (!want))
      | _ => K fr false
theorem yldF_bool {ops : Array Oper} {fr : Fr} {j d : Nat} {b : Bool} (hd : (ops[j]?).bind (·.dst) = some d) (hb : fr d = .bool b) : yldF ops fr j = some b := by
  unfold yldF; simp only [hd, hb]
theorem yldF_not {ops : Array Oper} {fr : Fr} {j d : Nat} (hd : (ops[j]?).bind (·.dst) = some d) (hb : ∀ b, fr d ≠ .bool b) : yldF ops fr j = none := by
  unfold yldF; simp only [hd]
theorem yldF_none {ops : Array Oper} {fr : Fr} {j : Nat} (hd : (ops[j]?).bind (·.dst) = none) : yldF ops fr j = none := by
  unfold yldF; simp only [hd]
theorem wantF_eq {ops : Array Oper} {o : Oper} {fr : Fr} {j : Nat} {want : Bool} (hg : o.guard = some (j, want)) : wantF ops o fr = (yldF ops fr j == some want) := by
  unfold wantF Region.wanted; simp only [hg]
theorem gdP_sound {ops : Array Oper} {o : Oper} {fr : Fr} {K : Fr → Bool → Prop} (h : gdP ops o fr K) : K fr (wantF ops o fr) := by
  unfold gdP at h
  split at h
  · rename_i hg
    have : wantF ops o fr = true := by unfold wantF Region.wanted; simp only [hg]
    rw [this]; exact h
  · rename_i j want hg
    rw [wantF_eq hg]
    split at h
    · rename_i hd; rw [yldF_none hd]; simpa using h
    · rename_i d hd
      split at h
      · rename_i b hb
        rw [yldF_bool hd hb]
        cases b
        · rw [cond_false, upd_self _ _ _ hb] at h; cases want <;> simpa using h
        · rw [cond_true, upd_self _ _ _ hb] at h; cases want <;> simpa using h
      · rename_i hnb
        rw [yldF_not hd (fun b hb => hnb b hb)]; simpa using h

def shOp (P : Program) (o : Oper) (fr : Fr) (w : World) (K : Value → World → Prop) : Prop :=
  match isRd P o.op with
  | true => rdOp P o.op fr w fun v _ => K v w
  | false => efOp P o.op o.type fr w K
theorem shOp_sound {P : Program} (hP : NoNumGo P) {o : Oper} {fr : Fr} {w : World} {K : Value → World → Prop} (h : shOp P o fr w K) : upV P K ((execOp (ev fr) o).run P w) := by
  unfold shOp at h
  split at h
  · obtain ⟨v, C, hk, hc, hr⟩ := rdOp_sound h
    rw [hr w hc]; exact hk
  · exact efOp_sound hP h

def shL (P : Program) (ops : Array Oper) : List Oper → Fr → World → (Fr → World → Prop) → Prop
  | [], fr, w, K => K fr w
  | o :: rest, fr, w, K => gdP ops o fr fun fr b => match b with
    | true => shOp P o fr w fun v w' => shL P ops rest (updO fr o.dst v) w' K
    | false => shL P ops rest (updO fr o.dst undef) w K

def pickF (P : Program) (ops : Array Oper) (listed : Array Bool) : List Nat → Option Nat
  | [] => none
  | i :: rest => match ops[i]? with
    | none => pickF P ops listed rest
    | some o => match isRd P o.op with
      | true => match Region.free .any ops listed i with
        | true => some i
        | false => pickF P ops listed rest
      | false => pickF P ops listed rest
def addH (i : Nat) (C : Seen) (H : Hs) : Hs :=
  match C with
  | none => H
  | some c => (i, some c) :: H
def allL (l : List Nat) (F : Nat → Prop) : Prop :=
  match l with
  | [] => True
  | i :: rest => match rest with
    | [] => F i
    | j :: rest => F i ∧ allL (j :: rest) F
theorem allL.out {l : List Nat} {F : Nat → Prop} (h : allL l F) : ∀ i ∈ l, F i := by
  induction l with
  | nil => intro i hi; cases hi
  | cons a l ih =>
    intro i hi
    cases l with
    | nil => cases hi with
      | head => exact h
      | tail _ hi => cases hi
    | cons b l => cases hi with
      | head => exact h.1
      | tail _ hi => exact ih h.2 i hi
def shD (P : Program) (ops : Array Oper) : Nat → Array Bool → Hs → Fr → World → (Fr → World → Prop) → Prop
  | 0, listed, _, fr, w, K => match Region.ready .any ops listed with
    | [] => K fr w
    | _ :: _ => False
  | fuel + 1, listed, H, fr, w, K => match Region.ready .any ops listed with
    | [] => K fr w
    | r :: rs => match pickF P ops listed (r :: rs) with
      | some i => match ops[i]? with
        | none => False
        | some o => gdP ops o fr fun fr b => match b with
          | true => rdOp P o.op fr w fun v C => shD P ops fuel (listed.setIfInBounds i true) (addH i C H) (updO fr o.dst v) w K
          | false => shD P ops fuel (listed.setIfInBounds i true) H (updO fr o.dst undef) w K
      | none => allL (r :: rs) fun j => match ops[j]? with
        | none => False
        | some o => gdP ops o fr fun fr b => match b with
          | true => shOp P o fr w fun v w' => heldP o H w' fun H' => shD P ops fuel (listed.setIfInBounds j true) H' (updO fr o.dst v) w' K
          | false => shD P ops fuel (listed.setIfInBounds j true) H (updO fr o.dst undef) w K

theorem pickF_some {P : Program} {ops : Array Oper} {listed : Array Bool} : ∀ {l : List Nat} {i : Nat}, pickF P ops listed l = some i → i ∈ l ∧ ∃ o, ops[i]? = some o ∧ isRd P o.op = true ∧ Region.free .any ops listed i = true
  | [], i, h => by cases h
  | j :: rest, i, h => by
    unfold pickF at h
    split at h
    · obtain ⟨h1, h2⟩ := pickF_some h; exact ⟨List.mem_cons_of_mem _ h1, h2⟩
    · rename_i o ho
      split at h
      · rename_i hr
        split at h
        · rename_i hf; cases h; exact ⟨List.mem_cons_self, o, ho, hr, hf⟩
        · obtain ⟨h1, h2⟩ := pickF_some h; exact ⟨List.mem_cons_of_mem _ h1, h2⟩
      · obtain ⟨h1, h2⟩ := pickF_some h; exact ⟨List.mem_cons_of_mem _ h1, h2⟩
theorem anyH_addH {P : Program} {ops : Array Oper} {K : Fr → World → Prop} {fuel : Nat} {listed : Array Bool} {H : Hs} {fr : Fr} {w : World} {i : Nat} {C : Seen}
    (h : anyH P ops K fuel listed (addH i C H) fr w) (hC : C = none → anyH P ops K fuel listed H fr w → anyH P ops K fuel listed ((i, none) :: H) fr w) : anyH P ops K fuel listed ((i, C) :: H) fr w := by
  cases C with
  | none => exact hC rfl h
  | some c => exact h
theorem heldP_none {o : Oper} {H : Hs} {w : World} {K K' : Hs → Prop} {i : Nat} (h : heldP o H w K) (hk : ∀ H', K H' → K' ((i, none) :: H')) (hk' : ∀ H', K H' → K' H') : heldP o ((i, none) :: H) w K' := by
  unfold heldP
  split
  · exact h.mono fun H' _ _ => hk' H'
  · exact h.mono fun H' _ _ => hk H'
theorem anyH_none {P : Program} {ops : Array Oper} {K : Fr → World → Prop} {i : Nat} : ∀ {fuel : Nat} {listed : Array Bool} {H : Hs} {fr : Fr} {w : World},
    anyH P ops K fuel listed H fr w → anyH P ops K fuel listed ((i, none) :: H) fr w
  | 0, _, _, _, _, h => h
  | fuel + 1, listed, H, fr, w, h => by
    refine ⟨h.1, fun j hj => ?_⟩
    have h1 := h.2 j hj
    unfold stepF at *
    split at h1
    · exact h1
    · split at h1
      · exact h1.mono fun v w' h2 => heldP_none h2 (fun H' h3 => anyH_none h3) (fun H' h3 => h3)
      · exact anyH_none h1
theorem shD_sound {P : Program} (hP : NoNumGo P) {ops : Array Oper} (hsel : Region.noSelect ops = true) {K : Fr → World → Prop} :
    ∀ {fuel : Nat} {listed : Array Bool} {H : Hs} {fr : Fr} {w : World}, heldAll H w → shD P ops fuel listed H fr w K → anyH P ops K fuel listed H fr w
  | 0, listed, H, fr, w, _, h => by
    unfold shD at h
    split at h
    · exact ⟨by assumption, h⟩
    · exact h.elim
  | fuel + 1, listed, H, fr, w, hH, h => by
    unfold shD at h
    split at h
    · rename_i hr
      exact ⟨fun _ => h, by rw [hr]; intro i hi; cases hi⟩
    · rename_i r rs hr
      split at h
      · rename_i i hp
        obtain ⟨hmem, o, ho, hrd, hfree⟩ := pickF_some hp
        simp only [ho] at h
        have h := gdP_sound h
        have hready : i ∈ Region.ready .any ops listed := by rw [hr]; exact hmem
        split at h
        · rename_i hw
          obtain ⟨v, C, hk, hc, hrun⟩ := rdOp_sound h
          refine anyH_take (C := C) ho (Region.noSelect_spec hsel) fuel listed H fr w (Region.free_spec ho hfree) hready hH hc (.inl ⟨hw, hrun⟩) ?_
          refine anyH_addH (shD_sound hP hsel ?_ hk) (fun _ => anyH_none)
          unfold addH
          split
          · exact hH
          · intro p hp
            cases hp with
            | head => exact hc
            | tail _ hp => exact hH p hp
        · rename_i hw
          refine anyH_take (C := none) ho (Region.noSelect_spec hsel) fuel listed H fr w (Region.free_spec ho hfree) hready hH trivial (.inr ⟨hw, rfl⟩) ?_
          exact anyH_none (shD_sound hP hsel hH h)
      · refine ⟨fun h0 => (by rw [h0] at hr; cases hr), fun j hj => ?_⟩
        rw [hr] at hj
        have h1 := h.out j hj
        unfold stepF
        split at h1
        · exact h1.elim
        · rename_i o ho
          simp only [ho]
          have h2 := gdP_sound h1
          split at h2
          · rename_i hw
            simp only [hw]
            exact (shOp_sound hP h2).mono fun v w' h3 => h3.mono fun H' h4 _ h5 => shD_sound hP hsel h4 h5
          · rename_i hw
            simp only [hw]
            exact shD_sound hP hsel hH h2

/-! ### code -/
inductive Ex where
  | normal
  | exit (id : Nat)
  | ret
abbrev KX := Ex → Fr → World → Prop

def kSeq (s : Fr → World → KX → Prop) (K : KX) : KX := fun e fr w =>
  match e with
  | .normal => s fr w K
  | .exit id => K (.exit id) fr w
  | .ret => K .ret fr w
def kBlock (id : Nat) (K : KX) : KX := fun e fr w =>
  match e with
  | .normal => K .normal fr w
  | .exit id' => match Nat.beq id' id with
    | true => K .normal fr w
    | false => K (.exit id') fr w
  | .ret => K .ret fr w
def LoopP (body : Fr → World → KX → Prop) (fr : Fr) (w : World) (K : KX) : Prop :=
  ∃ (I : Fr → World → Prop) (μ : Fr → World → Nat), I fr w ∧ ∀ fr w, I fr w → body fr w fun e fr' w' =>
    match e with
    | .normal => I fr' w' ∧ μ fr' w' < μ fr w
    | .exit id => K (.exit id) fr' w'
    | .ret => K .ret fr' w'
/-- 'cut l': what is asked where the code has been cut at label l. -/
def sh (P : Program) (cut : Nat → Fr → World → Prop) : Code → Fr → World → KX → Prop
  | .skip, fr, w, K => K .normal fr w
  | .label _, fr, w, K => K .normal fr w
  | .region _ ops draw, fr, w, K => match draw with
    | false => shL P ops ops.toList fr w fun fr w => K .normal fr w
    | true => match Region.noSelect ops with
      | true => shD P ops ops.size (Array.replicate ops.size false) [] fr (w.drew) fun fr w => K .normal fr w
      | false => False
  | .seq a b, fr, w, K => sh P cut a fr w (kSeq (sh P cut b) K)
  | .cond c a b, fr, w, K => match ev fr c with
    | .bool t => cond t (sh P cut a fr w K) (sh P cut b fr w K)
    | _ => False
  | .block id c, fr, w, K => sh P cut c fr w (kBlock id K)
  | .loop c, fr, w, K => LoopP (sh P cut c) fr w K
  | .exit id, fr, w, K => K (.exit id) fr w
  | .ret, fr, w, K => K .ret fr w
  | .goto l, fr, w, _ => cut l fr w
  | .rangeFunc .., _, _, _ => False
  | .scope c, fr, w, K => sh P cut c fr w K
  | .refuse _, _, _, _ => False
def noCut : Nat → Fr → World → Prop := fun _ _ _ => False
end Go.St

