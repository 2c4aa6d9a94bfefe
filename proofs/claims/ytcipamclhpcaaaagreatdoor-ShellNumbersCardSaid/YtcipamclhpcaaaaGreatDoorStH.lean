import Derived.Test.YtcipamclhpcaaaaGreatDoorStG
/- St core, part H: a region that draws its order: reads are taken first; what was read is shown anew behind each effect that could come ahead of the read. -/
namespace Go.St
open Go

def yldF (ops : Array Oper) (fr : Fr) (j : Nat) : Option Bool :=
  match (ops[j]?).bind (·.dst) with
  | some d => match fr d with
    | .bool b => some b
    | _ => none
  | none => none
def wantF (ops : Array Oper) (o : Oper) (fr : Fr) : Bool := Region.wanted o (yldF ops fr)

def depO (o : Oper) (i : Nat) : Bool := o.after.toList.any fun e => Region.binds .any e && Nat.beq e.on i
theorem depO_of {o : Oper} {i : Nat} (h : ∀ e ∈ o.after, Region.binds .any e = true → e.on ≠ i) : depO o i = false := by
  unfold depO
  rw [List.any_eq_false]
  intro e he hh
  simp only [Bool.and_eq_true] at hh
  exact h e (by simpa using he) hh.1 (Nat.eq_of_beq_eq_true hh.2)

abbrev Hs := List (Nat × Seen)
def heldAll (H : Hs) (w : World) : Prop := ∀ p ∈ H, heldC w p.2
def heldP (o : Oper) : Hs → World → (Hs → Prop) → Prop
  | [], _, K => K []
  | (i, C) :: H, w, K => match depO o i with
    | true => heldP o H w K
    | false => match C with
      | none => heldP o H w fun H' => K ((i, none) :: H')
      | some (b, k, us) => cellsAre w b k us ∧ heldP o H w fun H' => K ((i, some (b, k, us)) :: H')
theorem heldP_cons_false {o : Oper} {i : Nat} {C : Seen} {H : Hs} {w : World} {K : Hs → Prop} (hd : depO o i = false) (h : heldP o ((i, C) :: H) w K) :
    heldC w C ∧ heldP o H w fun H' => K ((i, C) :: H') := by
  unfold heldP at h
  rw [hd] at h
  cases C with
  | none => exact ⟨trivial, h⟩
  | some c => exact h
theorem heldP.mono {o : Oper} {H : Hs} {w : World} {K K' : Hs → Prop} (h : heldP o H w K) (hk : ∀ H', heldAll H' w → H' ⊆ H → K H' → K' H') : heldP o H w K' := by
  induction H generalizing K K' with
  | nil => exact hk [] (fun _ h => by cases h) (List.Subset.refl _) h
  | cons p H ih =>
    obtain ⟨i, C⟩ := p
    have key : heldC w C → ∀ H', heldAll H' w → H' ⊆ H → K ((i, C) :: H') → K' ((i, C) :: H') := fun h0 H' h1 h2 => hk _ (fun q hq => by
        cases hq with
        | head => exact h0
        | tail _ hq => exact h1 q hq) (fun x hx => by
        cases hx with
        | head => exact List.mem_cons_self
        | tail _ hx => exact List.mem_cons_of_mem _ (h2 hx))
    simp only [heldP] at h ⊢
    split at h
    · exact ih h fun H' h1 h2 => hk H' h1 (fun x hx => List.mem_cons_of_mem _ (h2 hx))
    · split at h
      · exact ih (K' := fun H' => K' ((i, none) :: H')) h (key trivial)
      · exact ⟨h.1, ih (K' := fun H' => K' (_ :: H')) h.2 (key h.1)⟩
/-- Of conditions that hold there is nothing to show. -/
theorem heldP_of {o : Oper} {H : Hs} {w : World} {K : Hs → Prop} (hH : heldAll H w) (h : ∀ H', H' ⊆ H → heldAll H' w → K H') : heldP o H w K := by
  induction H generalizing K with
  | nil => exact h [] (List.Subset.refl _) hH
  | cons p H ih =>
    obtain ⟨i, C⟩ := p
    have hH' : heldAll H w := fun p hp => hH p (List.mem_cons_of_mem _ hp)
    have h0 : heldC w C := hH (i, C) List.mem_cons_self
    unfold heldP
    split
    · exact ih hH' fun H' h1 h2 => h H' (fun x hx => List.mem_cons_of_mem _ (h1 hx)) h2
    · have key : ∀ H', H' ⊆ H → heldAll H' w → K ((i, C) :: H') := fun H' h1 h2 => h _ (fun x hx => by
          cases hx with
          | head => exact List.mem_cons_self
          | tail _ hx => exact List.mem_cons_of_mem _ (h1 hx)) (fun p hp => by
          cases hp with
          | head => exact h0
          | tail _ hp => exact h2 p hp)
      cases C with
      | none => exact ih hH' key
      | some c => exact ⟨h0, ih hH' key⟩
/-- Fewer conditions are easier. -/
theorem heldP_sub {o : Oper} : ∀ {H G : Hs} {w : World} {K : Hs → Prop}, (∀ A B : Hs, A ⊆ B → K B → K A) → G ⊆ H → heldP o H w K → heldP o G w K := by
  intro H G w K hK hs h
  have hall : ∀ p ∈ H, depO o p.1 = false → heldC w p.2 := by
    clear hs hK
    induction H generalizing K with
    | nil => intro p hp; cases hp
    | cons p H ih =>
      obtain ⟨i, C⟩ := p
      intro q hq hd
      cases hq with
      | head =>
        exact (heldP_cons_false hd h).1
      | tail _ hq =>
        unfold heldP at h
        split at h
        · exact ih h q hq hd
        · split at h
          · exact ih h q hq hd
          · exact ih h.2 q hq hd
  have hf : ∀ {H : Hs} {K : Hs → Prop}, heldP o H w K → K (H.filter fun p => !depO o p.1) := by
    intro H
    induction H with
    | nil => intro K h; exact h
    | cons p H ih =>
      intro K h
      obtain ⟨i, C⟩ := p
      unfold heldP at h
      split at h
      · rename_i hd; simp only [List.filter_cons, hd]; exact ih h
      · rename_i hd
        simp only [List.filter_cons, hd]
        split at h
        · exact ih h
        · exact ih h.2
  have hb : ∀ {G : Hs} {K : Hs → Prop}, (∀ p ∈ G, depO o p.1 = false → heldC w p.2) → K (G.filter fun p => !depO o p.1) → heldP o G w K := by
    intro G
    induction G with
    | nil => intro K _ h; exact h
    | cons p G ih =>
      intro K ha h
      obtain ⟨i, C⟩ := p
      have ha' : ∀ p ∈ G, depO o p.1 = false → heldC w p.2 := fun p hp => ha p (List.mem_cons_of_mem _ hp)
      unfold heldP
      split
      · rename_i hd; simp only [List.filter_cons, hd] at h; exact ih ha' h
      · rename_i hd
        simp only [List.filter_cons, hd] at h
        have h0 := ha (i, C) List.mem_cons_self hd
        split
        · exact ih ha' h
        · exact ⟨h0, ih ha' h⟩
  refine hb (fun p hp hd => hall p (hs hp) hd) (hK _ _ ?_ (hf h))
  intro p hp
  rw [List.mem_filter] at *
  exact ⟨hs hp.1, hp.2⟩

/-! ### whatever order -/
def stepF (P : Program) (ops : Array Oper) (i : Nat) (fr : Fr) (w : World) (K : Oper → Value → World → Prop) (skip : Oper → Prop) : Prop :=
  match ops[i]? with
  | none => False
  | some o => match wantF ops o fr with
    | true => upV P (K o) ((execOp (ev fr) o).run P w)
    | false => skip o
def anyH (P : Program) (ops : Array Oper) (K : Fr → World → Prop) : Nat → Array Bool → Hs → Fr → World → Prop
  | 0, listed, _, fr, w => Region.ready .any ops listed = [] ∧ K fr w
  | fuel + 1, listed, H, fr, w =>
    (Region.ready .any ops listed = [] → K fr w) ∧
    ∀ i ∈ Region.ready .any ops listed, stepF P ops i fr w
      (fun o v w' => heldP o H w' fun H' => anyH P ops K fuel (listed.setIfInBounds i true) H' (updO fr o.dst v) w')
      (fun o => anyH P ops K fuel (listed.setIfInBounds i true) H (updO fr o.dst undef) w)
theorem anyH_sub {P : Program} {ops : Array Oper} {K : Fr → World → Prop} : ∀ {fuel : Nat} {listed : Array Bool} {H G : Hs} {fr : Fr} {w : World}, G ⊆ H →
    anyH P ops K fuel listed H fr w → anyH P ops K fuel listed G fr w
  | 0, _, _, _, _, _, _, h => h
  | fuel + 1, listed, H, G, fr, w, hs, h => by
    refine ⟨h.1, fun i hi => ?_⟩
    have h1 := h.2 i hi
    unfold stepF at *
    split at h1
    · exact h1
    · split at h1
      · exact h1.mono fun v w' h2 => heldP_sub (fun A B hab hb => anyH_sub hab hb) hs h2
      · exact anyH_sub hs h1

theorem updO_comm (fr : Fr) {x y : Option Tmp} (v u : Value) (h : ∀ d, x = some d → y ≠ some d) : updO (updO fr x v) y u = updO (updO fr y u) x v := by
  cases x with
  | none => rfl
  | some d =>
    cases y with
    | none => rfl
    | some e =>
      have hne : d ≠ e := fun e' => h d rfl (by rw [e'])
      funext t
      simp only [updO]
      by_cases h1 : t = d
      · subst h1; rw [upd_ne _ _ hne, upd_same, upd_same]
      · by_cases h2 : t = e
        · subst h2; rw [upd_same, upd_ne _ _ h1, upd_same]
        · rw [upd_ne _ _ h2, upd_ne _ _ h1, upd_ne _ _ h1, upd_ne _ _ h2]
theorem ev_updO {fr : Fr} {dst : Option Tmp} {v : Value} {x : Operand} (h : ∀ d, dst = some d → x ≠ .tmp d) : ev (updO fr dst v) x = ev fr x := by
  cases dst with
  | none => rfl
  | some d =>
    cases x <;> first | rfl | skip
    rename_i t
    have : t ≠ d := fun e => h d rfl (by rw [e])
    exact upd_ne _ _ this
theorem execOp_updO {ops : Array Oper} (o : Oper) (hs : ∀ cs b, o.op ≠ .select cs b) (fr : Fr) (dst : Option Tmp) (v : Value) (h : ∀ d, dst = some d → d ∉ o.looksAt ops) :
    execOp (ev (updO fr dst v)) o = execOp (ev fr) o :=
  execOp_congr o hs fun x hx => ev_updO fun d hd hxd => h d hd (by
    subst hxd
    exact List.mem_append_left _ (List.mem_filterMap.2 ⟨.tmp d, by simpa using hx, rfl⟩))
theorem wantF_updO {ops : Array Oper} (o : Oper) (fr : Fr) (dst : Option Tmp) (v : Value) (h : ∀ d, dst = some d → d ∉ o.looksAt ops) :
    wantF ops o (updO fr dst v) = wantF ops o fr := by
  unfold wantF Region.wanted
  cases hg : o.guard with
  | none => rfl
  | some p =>
    obtain ⟨j, want⟩ := p
    simp only
    congr 1
    unfold yldF
    cases hd : (ops[j]?).bind (·.dst) with
    | none => rfl
    | some d =>
      simp only
      cases dst with
      | none => rfl
      | some e =>
        have hne : d ≠ e := by
          rintro rfl
          refine h d rfl ?_
          unfold Oper.looksAt
          simp [hg, hd]
        simp only [updO, upd_ne fr v hne]

theorem anyH_take {P : Program} {ops : Array Oper} {K : Fr → World → Prop} {i : Nat} {oi : Oper} {v : Value} {C : Seen} (hi : ops[i]? = some oi)
    (hsel : ∀ (j : Nat) (o : Oper) cs b, ops[j]? = some o → o.op ≠ .select cs b) :
    ∀ (fuel : Nat) (listed : Array Bool) (H : Hs) (fr : Fr) (w : World),
      (∀ j oj, ops[j]? = some oj → j ≠ i → listed.getD j true = false → (∀ e ∈ oj.after, Region.binds .any e = true → e.on ≠ i) → oi.apart ops oj = true) →
      i ∈ Region.ready .any ops listed → heldAll H w → heldC w C → (wantF ops oi fr = true ∧ (∀ w', heldC w' C → (execOp (ev fr) oi).run P w' = .ok (.value v) w') ∨ (wantF ops oi fr = false ∧ v = undef)) →
      anyH P ops K fuel (listed.setIfInBounds i true) ((i, C) :: H) (updO fr oi.dst v) w → anyH P ops K (fuel + 1) listed H fr w := by
  have doI : ∀ (fuel : Nat) (listed : Array Bool) (H : Hs) (fr : Fr) (w : World), heldAll H w → heldC w C → (wantF ops oi fr = true ∧ (∀ w', heldC w' C → (execOp (ev fr) oi).run P w' = .ok (.value v) w') ∨ (wantF ops oi fr = false ∧ v = undef)) →
      anyH P ops K fuel (listed.setIfInBounds i true) ((i, C) :: H) (updO fr oi.dst v) w →
      stepF P ops i fr w (fun o v w' => heldP o H w' fun H' => anyH P ops K fuel (listed.setIfInBounds i true) H' (updO fr o.dst v) w')
        (fun o => anyH P ops K fuel (listed.setIfInBounds i true) H (updO fr o.dst undef) w) := by
    intro fuel listed H fr w hH hC hy h
    unfold stepF
    simp only [hi]
    rcases hy with ⟨hw, hr⟩ | ⟨hw, rfl⟩
    · rw [hw]
      simp only
      rw [hr w hC]
      exact heldP_of hH fun H' h1 _ => anyH_sub (fun x hx => List.mem_cons_of_mem _ (h1 hx)) h
    · rw [hw]
      exact anyH_sub (fun x hx => List.mem_cons_of_mem _ hx) h
  intro fuel
  induction fuel with
  | zero =>
    intro listed H fr w _ hr hH hC hy h
    refine ⟨fun h0 => (by rw [h0] at hr; cases hr), fun j hj => ?_⟩
    by_cases hji : j = i
    · subst hji; exact doI 0 listed H fr w hH hC hy h
    · have := ready_mono hj hji
      rw [h.1] at this
      cases this
  | succ fuel ih =>
    intro listed H fr w hfree hr hH hC hy h
    refine ⟨fun h0 => (by rw [h0] at hr; cases hr), fun j hj => ?_⟩
    by_cases hji : j = i
    · subst hji; exact doI _ listed H fr w hH hC hy h
    · have h1 := h.2 j (ready_mono hj hji)
      obtain ⟨hjun, oj, hoj, hall⟩ := mem_ready.1 hj
      have hnot : ∀ e ∈ oj.after, Region.binds .any e = true → e.on ≠ i := fun e he hb heq => by
        have h1 := hall e he hb
        have h0 := (mem_ready.1 hr).1
        rw [heq] at h1
        rcases Nat.lt_or_ge i listed.size with h' | h'
        · simp [h'] at h0 h1; rw [h0] at h1; cases h1
        · simp [Array.getElem?_eq_none h'] at h1
      have hap := hfree j oj hoj hji hjun hnot
      obtain ⟨a1, a2, a3⟩ := Oper.apart_spec hap
      have hsi := fun cs b => hsel i oi cs b hi
      have hsj := fun cs b => hsel j oj cs b hoj
      have hfree' : ∀ k ok, ops[k]? = some ok → k ≠ i → (listed.setIfInBounds j true).getD k true = false →
          (∀ e ∈ ok.after, Region.binds .any e = true → e.on ≠ i) → oi.apart ops ok = true := fun k ok hk hki hun hno => by
        refine hfree k ok hk hki ?_ hno
        by_cases hjk : j = k
        · subst hjk; exact hjun
        · rw [getD_set_ne true hjk] at hun; exact hun
      have keep : ∀ u, (wantF ops oi (updO fr oj.dst u) = true ∧ (∀ w', heldC w' C → (execOp (ev (updO fr oj.dst u)) oi).run P w' = .ok (.value v) w') ∨ (wantF ops oi (updO fr oj.dst u) = false ∧ v = undef)) := fun u => by
        rw [wantF_updO oi fr oj.dst u a3, execOp_updO oi hsi fr oj.dst u a3]; exact hy
      have hrj := ready_mono hr (Ne.symm hji)
      unfold stepF at h1 ⊢
      simp only [hoj] at h1 ⊢
      rw [wantF_updO oj fr oi.dst v a1] at h1
      split
      · rename_i hw
        simp only [hw] at h1
        rw [execOp_updO oj hsj fr oi.dst v a1] at h1
        refine h1.mono fun u w' h2 => ?_
        obtain ⟨hC', h3⟩ := heldP_cons_false (depO_of hnot) h2
        refine h3.mono fun H' h4 _ h5 => ih _ H' _ w' hfree' hrj h4 hC' (keep u) ?_
        rw [Array.setIfInBounds_comm _ _ hji, updO_comm fr u v (fun d hd he => a2 d he hd)]
        exact h5
      · rename_i hw
        simp only [hw] at h1
        refine ih _ H _ w hfree' hrj hH hC (keep _) ?_
        rw [Array.setIfInBounds_comm _ _ hji, updO_comm fr undef v (fun d hd he => a2 d he hd)]
        exact h1
end Go.St

