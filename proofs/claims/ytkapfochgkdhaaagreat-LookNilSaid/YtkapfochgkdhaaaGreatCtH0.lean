/- Contracts: tables, the plain part: places in a ring; keys stand at their home or behind it with no gap between. -/
import Derived.Test.YtkapfochgkdhaaaGreatStV
namespace Go.St
open Go

structure Ent where
  lev : Int
  pre : Int
  v : Int
  full : Bool
def nx (L i d : Nat) : Nat := if i + d < L then i + d else i + d - L
def ds (L a i : Nat) : Nat := if a ≤ i then i - a else i + L - a
theorem nx_lt {L i d : Nat} (hi : i < L) (hd : d < L) : nx L i d < L := by unfold nx; split <;> omega
theorem ds_lt {L a i : Nat} (ha : a < L) (hi : i < L) : ds L a i < L := by unfold ds; split <;> omega
theorem nx_ds {L a i : Nat} (ha : a < L) (hi : i < L) : nx L a (ds L a i) = i := by unfold nx ds; (repeat' split) <;> omega
theorem ds_nx {L a d : Nat} (ha : a < L) (hd : d < L) : ds L a (nx L a d) = d := by unfold nx ds; (repeat' split) <;> omega

/-- is a place full? -/
def fl (A : List Ent) (i : Nat) : Bool := match A[i]? with
  | some e => e.full
  | none => false
def isK (A : List Ent) (i : Nat) (l p : Int) : Prop := ∃ e, A[i]? = some e ∧ e.lev = l ∧ e.pre = p
structure Ring (h : Int → Int → Nat) (L : Nat) (A : List Ent) : Prop where
  len : A.length = L
  hom : ∀ l p, h l p < L
  path : ∀ i e, A[i]? = some e → e.full = true → ∀ d, d < ds L (h e.lev e.pre) i → fl A (nx L (h e.lev e.pre) d) = true
  uniq : ∀ i j l p, fl A i = true → fl A j = true → isK A i l p → isK A j l p → i = j
/-- what a ring says of keys -/
def Says (f : Int → Int → Option Int) (A : List Ent) : Prop :=
  ∀ l p v, f l p = some v ↔ ∃ i : Nat, ∃ e : Ent, A[i]? = some e ∧ e.full = true ∧ e.lev = l ∧ e.pre = p ∧ e.v = v
/-- where the search for a key ends -/
structure Found (h : Int → Int → Nat) (L : Nat) (A : List Ent) (l p : Int) (i : Nat) : Prop where
  lt : i < L
  way : ∀ d, d < ds L (h l p) i → fl A (nx L (h l p) d) = true ∧ ¬ isK A (nx L (h l p) d) l p
  is : fl A i = true → isK A i l p

theorem fl_lt {A : List Ent} {i : Nat} (h : fl A i = true) : i < A.length := by
  unfold fl at h
  split at h
  · rename_i e he; exact (List.getElem?_eq_some_iff.1 he).1
  · cases h
theorem fl_of {A : List Ent} {i : Nat} {e : Ent} (h : A[i]? = some e) : fl A i = e.full := by unfold fl; rw [h]
theorem fl_get {A : List Ent} {i : Nat} (h : fl A i = true) : ∃ e, A[i]? = some e ∧ e.full = true := by
  unfold fl at h
  split at h
  · rename_i e he; exact ⟨e, he, h⟩
  · cases h
section
variable {h : Int → Int → Nat} {L : Nat} {A : List Ent} {f : Int → Int → Option Int} {l p : Int} {i : Nat}
theorem Found.some (hr : Ring h L A) (hs : Says f A) (hf : Found h L A l p i) (hb : fl A i = true) : ∃ e, A[i]? = some e ∧ e.full = true ∧ e.lev = l ∧ e.pre = p ∧ f l p = some e.v := by
  obtain ⟨e, he, h1, h2⟩ := hf.is hb
  refine ⟨e, he, by rw [fl_of he] at hb; exact hb, h1, h2, (hs l p e.v).2 ⟨i, e, he, by rw [fl_of he] at hb; exact hb, h1, h2, rfl⟩⟩
theorem Found.none (hr : Ring h L A) (hs : Says f A) (hf : Found h L A l p i) (hb : fl A i = false) : f l p = none := by
  cases e : f l p with
  | none => rfl
  | some v =>
    exfalso
    obtain ⟨j, x, hx, hfull, h1, h2, _⟩ := (hs l p v).1 e
    have hj : j < L := by rw [← hr.len]; exact (List.getElem?_eq_some_iff.1 hx).1
    have hh := hr.hom l p
    have hp := hr.path j x hx hfull
    rw [h1, h2] at hp
    rcases Nat.lt_trichotomy (ds L (h l p) j) (ds L (h l p) i) with hlt | heq | hgt
    · have := (hf.way _ hlt).2
      rw [nx_ds hh hj] at this
      exact this ⟨x, hx, h1, h2⟩
    · have : j = i := by rw [← nx_ds hh hj, heq, nx_ds hh hf.lt]
      subst this
      rw [fl_of hx, hfull] at hb; cases hb
    · have := hp _ hgt
      rw [nx_ds hh hf.lt, hb] at this; cases this
/-- a step of the search -/
theorem found_step (hr : Ring h L A) {e : Nat} (he : e < L) (hemp : fl A e = false) {d : Nat} (hd : d < L) (hway : ∀ c, c < d → fl A (nx L (h l p) c) = true ∧ ¬ isK A (nx L (h l p) c) l p)
    : d ≤ ds L (h l p) e ∧ (fl A (nx L (h l p) d) = true → d < ds L (h l p) e) := by
  have hh := hr.hom l p
  have key : ∀ c, fl A (nx L (h l p) c) = true → c ≠ ds L (h l p) e := fun c hc hce => by
    rw [hce, nx_ds hh he, hemp] at hc; cases hc
  have h1 : d ≤ ds L (h l p) e := by
    rcases Nat.lt_or_ge (ds L (h l p) e) d with hlt | hge
    · exact absurd rfl (key _ (hway _ hlt).1)
    · exact hge
  exact ⟨h1, fun hfu => by have := key _ hfu; omega⟩
theorem isK_set {A : List Ent} {i j : Nat} {x : Ent} {l p : Int} (hj : j ≠ i) : isK (A.set i x) j l p ↔ isK A j l p := by
  unfold isK; rw [List.getElem?_set_ne (Ne.symm hj)]
theorem fl_set {A : List Ent} {i j : Nat} {x : Ent} (hi : i < A.length) : fl (A.set i x) j = if j = i then x.full else fl A j := by
  unfold fl
  by_cases e : j = i
  · subst e; simp [hi]
  · rw [List.getElem?_set_ne (Ne.symm e), if_neg e]
theorem isK_set_same {A : List Ent} {i : Nat} {x : Ent} {l p : Int} (hi : i < A.length) : isK (A.set i x) i l p ↔ x.lev = l ∧ x.pre = p := by
  unfold isK
  simp only [List.getElem?_set_self hi]
  constructor
  · rintro ⟨e, h1, h2, h3⟩; cases h1; exact ⟨h2, h3⟩
  · rintro ⟨h2, h3⟩; exact ⟨x, rfl, h2, h3⟩
def Tb.up (f : Int → Int → Option Int) (l p : Int) (o : Option Int) : Int → Int → Option Int := fun a b => if a = l ∧ b = p then o else f a b
/-- a key more, where the search ended -/
theorem ring_put (hr : Ring h L A) (hs : Says f A) (hf : Found h L A l p i) (hb : fl A i = false) (v : Int) :
    Ring h L (A.set i ⟨l, p, v, true⟩) ∧ Says (Tb.up f l p (some v)) (A.set i ⟨l, p, v, true⟩) := by
  have hi : i < A.length := by rw [hr.len]; exact hf.lt
  have hnone := hf.none hr hs hb
  have hfl : ∀ j, fl (A.set i ⟨l, p, v, true⟩) j = if j = i then true else fl A j := fun j => fl_set hi
  have hmono : ∀ j, fl A j = true → fl (A.set i ⟨l, p, v, true⟩) j = true := fun j hj => by
    rw [hfl]; split
    · rfl
    · exact hj
  have hkey : ∀ j, j ≠ i → fl A j = true → ¬ isK A j l p := fun j _ hj hk => by
    obtain ⟨e, he, h1, h2⟩ := hk
    rw [fl_of he] at hj
    have := (hs l p e.v).2 ⟨j, e, he, hj, h1, h2, rfl⟩
    rw [hnone] at this; cases this
  refine ⟨⟨by simpa using hr.len, hr.hom, ?_, ?_⟩, ?_⟩
  · intro j e he hfull d hd
    by_cases hj : j = i
    · subst hj
      rw [List.getElem?_set_self hi] at he; cases he
      exact hmono _ (hf.way d hd).1
    · rw [List.getElem?_set_ne (Ne.symm hj)] at he
      exact hmono _ (hr.path j e he hfull d hd)
  · intro j k a b hj hk h1 h2
    by_cases ej : j = i
    · by_cases ek : k = i
      · rw [ej, ek]
      · exfalso
        rw [hfl, if_neg ek] at hk
        rw [isK_set ek] at h2
        subst ej
        obtain ⟨rfl, rfl⟩ := (isK_set_same hi).1 h1
        exact hkey k ek hk h2
    · by_cases ek : k = i
      · exfalso
        rw [hfl, if_neg ej] at hj
        rw [isK_set ej] at h1
        subst ek
        obtain ⟨rfl, rfl⟩ := (isK_set_same hi).1 h2
        exact hkey j ej hj h1
      · rw [hfl, if_neg ej] at hj
        rw [hfl, if_neg ek] at hk
        rw [isK_set ej] at h1
        rw [isK_set ek] at h2
        exact hr.uniq j k a b hj hk h1 h2
  · intro a b u
    unfold Tb.up
    split
    · rename_i hab
      obtain ⟨rfl, rfl⟩ := hab
      constructor
      · intro e; cases e; exact ⟨i, _, List.getElem?_set_self hi, rfl, rfl, rfl, rfl⟩
      · rintro ⟨j, e, he, hfull, h1, h2, h3⟩
        by_cases ej : j = i
        · subst ej; rw [List.getElem?_set_self hi] at he; cases he; rw [← h3]
        · rw [List.getElem?_set_ne (Ne.symm ej)] at he
          exact absurd ⟨e, he, h1, h2⟩ (hkey j ej (by rw [fl_of he, hfull]))
    · rename_i hab
      rw [hs]
      constructor
      · rintro ⟨j, e, he, hfull, h1, h2, h3⟩
        have ej : j ≠ i := by rintro rfl; rw [fl_of he, hfull] at hb; cases hb
        exact ⟨j, e, by rw [List.getElem?_set_ne (Ne.symm ej)]; exact he, hfull, h1, h2, h3⟩
      · rintro ⟨j, e, he, hfull, h1, h2, h3⟩
        by_cases ej : j = i
        · subst ej; rw [List.getElem?_set_self hi] at he; cases he; exact absurd ⟨h1.symm, h2.symm⟩ hab
        · rw [List.getElem?_set_ne (Ne.symm ej)] at he; exact ⟨j, e, he, hfull, h1, h2, h3⟩
/-- another value -/
theorem ring_val (hr : Ring h L A) (hs : Says f A) {e : Ent} (he : A[i]? = some e) (hb : e.full = true) (v : Int) :
    Ring h L (A.set i ⟨e.lev, e.pre, v, true⟩) ∧ Says (Tb.up f e.lev e.pre (some v)) (A.set i ⟨e.lev, e.pre, v, true⟩) := by
  have hi : i < A.length := (List.getElem?_eq_some_iff.1 he).1
  have hfl : ∀ j, fl (A.set i ⟨e.lev, e.pre, v, true⟩) j = fl A j := fun j => by
    rw [fl_set hi]; split
    · rename_i ej; subst ej; rw [fl_of he, hb]
    · rfl
  have hk : ∀ j a b, isK (A.set i ⟨e.lev, e.pre, v, true⟩) j a b ↔ isK A j a b := fun j a b => by
    by_cases ej : j = i
    · subst ej
      rw [isK_set_same hi]
      constructor
      · rintro ⟨h1, h2⟩; exact ⟨e, he, h1, h2⟩
      · rintro ⟨x, hx, h1, h2⟩; rw [he] at hx; cases hx; exact ⟨h1, h2⟩
    · exact isK_set ej
  refine ⟨⟨by simpa using hr.len, hr.hom, ?_, ?_⟩, ?_⟩
  · intro j x hx hfull d hd
    rw [hfl]
    by_cases ej : j = i
    · subst ej; rw [List.getElem?_set_self hi] at hx; cases hx
      exact hr.path j e he hb d hd
    · rw [List.getElem?_set_ne (Ne.symm ej)] at hx
      exact hr.path j x hx hfull d hd
  · intro j k a b h1 h2 h3 h4
    rw [hfl] at h1 h2; rw [hk] at h3 h4
    exact hr.uniq j k a b h1 h2 h3 h4
  · intro a b u
    unfold Tb.up
    split
    · rename_i hab
      obtain ⟨rfl, rfl⟩ := hab
      constructor
      · intro e'; cases e'; exact ⟨i, _, List.getElem?_set_self hi, rfl, rfl, rfl, rfl⟩
      · rintro ⟨j, x, hx, hfull, h1, h2, h3⟩
        have : j = i := hr.uniq j i e.lev e.pre (by rw [← hfl, fl_of hx, hfull]) (by rw [fl_of he, hb]) ((hk _ _ _).1 ⟨x, hx, h1, h2⟩) ⟨e, he, rfl, rfl⟩
        subst this; rw [List.getElem?_set_self hi] at hx; cases hx; rw [← h3]
    · rename_i hab
      rw [hs]
      constructor
      · rintro ⟨j, x, hx, hfull, h1, h2, h3⟩
        have ej : j ≠ i := by rintro rfl; rw [he] at hx; cases hx; exact hab ⟨h1.symm, h2.symm⟩
        exact ⟨j, x, by rw [List.getElem?_set_ne (Ne.symm ej)]; exact hx, hfull, h1, h2, h3⟩
      · rintro ⟨j, x, hx, hfull, h1, h2, h3⟩
        by_cases ej : j = i
        · subst ej; rw [List.getElem?_set_self hi] at hx; cases hx; exact absurd ⟨h1.symm, h2.symm⟩ hab
        · rw [List.getElem?_set_ne (Ne.symm ej)] at hx; exact ⟨j, x, hx, hfull, h1, h2, h3⟩

/-! ### taking out -/
/-- a ring with a hole, where the search for what may move into it has come to place i -/
structure Hole (h : Int → Int → Nat) (L : Nat) (A : List Ent) (o i : Nat) : Prop where
  len : A.length = L
  hom : ∀ l p, h l p < L
  ho : o < L
  hi : i < L
  /-- between the hole and i all is full -/
  run : ∀ d, 0 < d → d < ds L o i → fl A (nx L o d) = true
  fo : fl A o = true
  ne : o ≠ i
  path : ∀ j e, j ≠ o → A[j]? = some e → e.full = true → ∀ d, d < ds L (h e.lev e.pre) j → fl A (nx L (h e.lev e.pre) d) = true ∧
    (nx L (h e.lev e.pre) d = o → ds L o i ≤ ds L o j)
  uniq : ∀ a b l p, a ≠ o → b ≠ o → fl A a = true → fl A b = true → isK A a l p → isK A b l p → a = b
/-- what a ring with a hole says -/
def SaysO (f : Int → Int → Option Int) (A : List Ent) (o : Nat) : Prop :=
  ∀ l p v, f l p = some v ↔ ∃ i : Nat, ∃ e : Ent, i ≠ o ∧ A[i]? = some e ∧ e.full = true ∧ e.lev = l ∧ e.pre = p ∧ e.v = v
theorem hole_new (hr : Ring h L A) (hs : Says f A) (hL : 1 < L) {o : Nat} {e : Ent} (he : A[o]? = some e) (hb : e.full = true) :
    Hole h L A o (nx L o 1) ∧ SaysO (Tb.up f e.lev e.pre none) A o := by
  have ho : o < L := by rw [← hr.len]; exact (List.getElem?_eq_some_iff.1 he).1
  refine ⟨⟨hr.len, hr.hom, ho, nx_lt ho hL, ?_, by rw [fl_of he, hb], ?_, ?_, ?_⟩, ?_⟩
  · intro d h1 h2; rw [ds_nx ho hL] at h2; omega
  · unfold nx; split <;> omega
  · intro j x hj hx hfull d hd
    refine ⟨hr.path j x hx hfull d hd, fun _ => ?_⟩
    rw [ds_nx ho hL]
    have hjl : j < L := by rw [← hr.len]; exact (List.getElem?_eq_some_iff.1 hx).1
    unfold ds; split <;> omega
  · intro a b l p _ _ h1 h2 h3 h4; exact hr.uniq a b l p h1 h2 h3 h4
  · intro a b u
    unfold Tb.up
    split
    · rename_i hab
      obtain ⟨rfl, rfl⟩ := hab
      constructor
      · intro x; cases x
      · rintro ⟨j, x, hj, hx, hfull, h1, h2, h3⟩
        exact absurd (hr.uniq j o e.lev e.pre (by rw [fl_of hx, hfull]) (by rw [fl_of he, hb]) ⟨x, hx, h1, h2⟩ ⟨e, he, rfl, rfl⟩) hj
    · rename_i hab
      rw [hs]
      constructor
      · rintro ⟨j, x, hx, hfull, h1, h2, h3⟩
        refine ⟨j, x, ?_, hx, hfull, h1, h2, h3⟩
        rintro rfl; rw [he] at hx; cases hx; exact hab ⟨h1.symm, h2.symm⟩
      · rintro ⟨j, x, _, hx, hfull, h1, h2, h3⟩; exact ⟨j, x, hx, hfull, h1, h2, h3⟩
/-- what stands at i stays -/
theorem hole_stay {o : Nat} {e : Ent} (hh : Hole h L A o i) (hL : 1 < L) (he : A[i]? = some e) (hb : e.full = true) (hfar : ds L (h e.lev e.pre) i < ds L o i) {k : Nat} (hk : k < L) (hkn : k ≠ o)
    (hemp : fl A k = false) : Hole h L A o (nx L i 1) := by
  have hm := hh.hom e.lev e.pre
  have ho := hh.ho; have hi := hh.hi
  have hne : nx L i 1 ≠ o := by
    intro e1
    -- then all places are full
    have hrun := hh.run (ds L o k) (by unfold ds; split <;> omega) ?_
    · rw [nx_ds ho hk, hemp] at hrun; cases hrun
    · have hki : k ≠ i := by rintro rfl; rw [fl_of he, hb] at hemp; cases hemp
      revert e1; unfold nx ds; (repeat' split) <;> omega
  have hds : ds L o (nx L i 1) = ds L o i + 1 := by revert hne; unfold ds nx; (repeat' split) <;> omega
  refine ⟨hh.len, hh.hom, ho, nx_lt hi hL, ?_, hh.fo, Ne.symm hne, ?_, hh.uniq⟩
  · intro d h1 h2
    rw [hds] at h2
    by_cases hd : d = ds L o i
    · rw [hd, nx_ds ho hi, fl_of he, hb]
    · exact hh.run d h1 (by omega)
  · intro j x hj hx hfull d hd
    obtain ⟨p1, p2⟩ := hh.path j x hj hx hfull d hd
    refine ⟨p1, fun hd2 => ?_⟩
    rw [hds]
    have h2 := p2 hd2
    have hjl : j < L := by rw [← hh.len]; exact (List.getElem?_eq_some_iff.1 hx).1
    rcases Nat.lt_or_ge (ds L o i) (ds L o j) with h3 | h3
    · exact h3
    · exfalso
      have hij : j = i := by rw [← nx_ds ho hjl, show ds L o j = ds L o i by omega, nx_ds ho hi]
      subst hij
      rw [he] at hx; cases hx
      revert hfar hd hd2; unfold ds nx; (repeat' split) <;> omega
/-- what stands at i moves into the hole, which is at i then -/
theorem hole_move {o : Nat} {e : Ent} (hh : Hole h L A o i) (hs : SaysO f A o) (hL : 1 < L) (he : A[i]? = some e) (hb : e.full = true) (hfar : ds L o i ≤ ds L (h e.lev e.pre) i) :
    Hole h L (A.set o e) i (nx L i 1) ∧ SaysO f (A.set o e) i := by
  have hm := hh.hom e.lev e.pre
  have ho := hh.ho; have hi := hh.hi; have hne := hh.ne
  have hol : o < A.length := by rw [hh.len]; exact ho
  have hfl : ∀ j, fl (A.set o e) j = fl A j := fun j => by
    rw [fl_set hol]; split
    · rename_i ej; subst ej; rw [hb, hh.fo]
    · rfl
  have hfi : fl A i = true := by rw [fl_of he, hb]
  refine ⟨⟨by simpa using hh.len, hh.hom, hi, nx_lt hi hL, ?_, by rw [hfl, hfi], ?_, ?_, ?_⟩, ?_⟩
  · intro d h1 h2; rw [ds_nx hi hL] at h2; omega
  · unfold nx; split <;> omega
  · intro j x hj hx hfull d hd
    rw [hfl]
    rw [ds_nx hi hL]
    have hjl : j < L := by rw [← hh.len]; have := (List.getElem?_eq_some_iff.1 hx).1; simpa using this
    refine ⟨?_, fun _ => by unfold ds; split <;> omega⟩
    by_cases ej : j = o
    · subst ej
      rw [List.getElem?_set_self hol] at hx; cases hx
      by_cases hd3 : d < ds L (h e.lev e.pre) i
      · exact (hh.path i e (Ne.symm hne) he hb d hd3).1
      · exfalso; revert hfar hd hd3; unfold ds; (repeat' split) <;> omega
    · rw [List.getElem?_set_ne (Ne.symm ej)] at hx
      exact (hh.path j x ej hx hfull d hd).1
  · intro a b l p ha hb' h1 h2 h3 h4
    rw [hfl] at h1 h2
    -- a key at o is the one that stood at i
    have tr : ∀ a, a ≠ i → fl A a = true → isK (A.set o e) a l p → ∃ a', a' ≠ o ∧ fl A a' = true ∧ isK A a' l p ∧ (a = if a' = i then o else a') := fun a ha h1 h3 => by
      by_cases ea : a = o
      · subst ea
        exact ⟨i, Ne.symm hne, hfi, ⟨e, he, (isK_set_same hol).1 h3⟩, by simp⟩
      · exact ⟨a, ea, h1, (isK_set ea).1 h3, by simp [ha]⟩
    obtain ⟨a', ha1, ha2, ha3, ha4⟩ := tr a ha h1 h3
    obtain ⟨b', hb1, hb2, hb3, hb4⟩ := tr b hb' h2 h4
    have := hh.uniq a' b' l p ha1 hb1 ha2 hb2 ha3 hb3
    rw [ha4, hb4, this]
  · intro l p v
    rw [hs]
    constructor
    · rintro ⟨j, x, hj, hx, hfull, h1, h2, h3⟩
      by_cases ej : j = i
      · subst ej; rw [he] at hx; cases hx
        exact ⟨o, e, hne, List.getElem?_set_self hol, hfull, h1, h2, h3⟩
      · exact ⟨j, x, ej, by rw [List.getElem?_set_ne (Ne.symm hj)]; exact hx, hfull, h1, h2, h3⟩
    · rintro ⟨j, x, hj, hx, hfull, h1, h2, h3⟩
      by_cases ej : j = o
      · subst ej; rw [List.getElem?_set_self hol] at hx; cases hx
        exact ⟨i, e, Ne.symm hne, he, hfull, h1, h2, h3⟩
      · rw [List.getElem?_set_ne (Ne.symm ej)] at hx; exact ⟨j, x, ej, hx, hfull, h1, h2, h3⟩
/-- i is free: the hole is, too -/
theorem hole_end {o : Nat} {z : Ent} (hh : Hole h L A o i) (hs : SaysO f A o) (hz : z.full = false) (hemp : fl A i = false) : Ring h L (A.set o z) ∧ Says f (A.set o z) := by
  have ho := hh.ho; have hi := hh.hi; have hne := hh.ne
  have hol : o < A.length := by rw [hh.len]; exact ho
  have hfl : ∀ j, fl (A.set o z) j = if j = o then false else fl A j := fun j => by rw [fl_set hol, hz]
  have hget : ∀ j x, (A.set o z)[j]? = some x → x.full = true → j ≠ o ∧ A[j]? = some x := fun j x hx hfull => by
    by_cases ej : j = o
    · subst ej; rw [List.getElem?_set_self hol] at hx; cases hx; rw [hz] at hfull; cases hfull
    · rw [List.getElem?_set_ne (Ne.symm ej)] at hx; exact ⟨ej, hx⟩
  refine ⟨⟨by simpa using hh.len, hh.hom, ?_, ?_⟩, ?_⟩
  · intro j x hx hfull d hd
    obtain ⟨hj, hx⟩ := hget j x hx hfull
    obtain ⟨p1, p2⟩ := hh.path j x hj hx hfull d hd
    rw [hfl, if_neg, p1]
    intro ed
    have h2 := p2 ed
    have hjl : j < L := by rw [← hh.len]; exact (List.getElem?_eq_some_iff.1 hx).1
    have hm := hh.hom x.lev x.pre
    -- i lies on the way to j, or is j
    rcases Nat.lt_or_ge (ds L o i) (ds L o j) with h3 | h3
    · have h4 := (hh.path j x hj hx hfull (d + ds L o i) (by revert hd ed h3; unfold ds nx; (repeat' split) <;> omega)).1
      have : nx L (h x.lev x.pre) (d + ds L o i) = i := by revert hd ed h3; unfold ds nx; (repeat' split) <;> omega
      rw [this, hemp] at h4; cases h4
    · have hij : j = i := by rw [← nx_ds ho hjl, show ds L o j = ds L o i by omega, nx_ds ho hi]
      subst hij
      rw [fl_of hx, hfull] at hemp; cases hemp
  · intro a b l p h1 h2 h3 h4
    rw [hfl] at h1 h2
    split at h1
    · cases h1
    · rename_i ha
      split at h2
      · cases h2
      · rename_i hb
        exact hh.uniq a b l p ha hb h1 h2 ((isK_set ha).1 h3) ((isK_set hb).1 h4)
  · intro l p v
    rw [hs]
    constructor
    · rintro ⟨j, x, hj, hx, hfull, h1, h2, h3⟩
      exact ⟨j, x, by rw [List.getElem?_set_ne (Ne.symm hj)]; exact hx, hfull, h1, h2, h3⟩
    · rintro ⟨j, x, hx, hfull, h1, h2, h3⟩
      obtain ⟨hj, hx⟩ := hget j x hx hfull
      exact ⟨j, x, hj, hx, hfull, h1, h2, h3⟩
end

/-! ### how many are full -/
def cnt (A : List Ent) : Nat := A.countP (·.full)
theorem cnt_set : ∀ {A : List Ent} {i : Nat} {e : Ent} (x : Ent), A[i]? = some e → cnt (A.set i x) + e.full.toNat = cnt A + x.full.toNat
  | [], i, e, x, h => by simp at h
  | y :: A, 0, e, x, h => by
    simp at h; subst h
    unfold cnt
    simp only [List.set_cons_zero, List.countP_cons]
    cases y.full <;> cases x.full <;> simp <;> omega
  | y :: A, i + 1, e, x, h => by
    have := cnt_set (A := A) (i := i) x (by simpa using h)
    unfold cnt at *
    simp only [List.set_cons_succ, List.countP_cons]
    omega
theorem ex_empty {A : List Ent} (h : cnt A < A.length) : ∃ e, e < A.length ∧ fl A e = false := by
  by_cases hx : ∃ e, e < A.length ∧ fl A e = false
  · exact hx
  · exfalso
    have hall : ∀ x ∈ A, x.full = true := fun x hm => by
      obtain ⟨i, hi, rfl⟩ := List.mem_iff_getElem.1 hm
      cases hf : (A[i]).full with
      | true => rfl
      | false => exact absurd ⟨i, hi, by rw [fl_of (List.getElem?_eq_getElem hi), hf]⟩ hx
    have : cnt A = A.length := List.countP_eq_length.2 hall
    omega
theorem cnt_rep (n : Nat) (z : Ent) (hz : z.full = false) : cnt (List.replicate n z) = 0 := by
  unfold cnt; rw [List.countP_eq_zero]
  intro x hx; rw [(List.mem_replicate.1 hx).2, hz]; simp
theorem fl_rep (n : Nat) (z : Ent) (hz : z.full = false) (i : Nat) : fl (List.replicate n z) i = false := by
  unfold fl
  split
  · rename_i e he
    have := (List.mem_replicate.1 (List.mem_of_getElem? he)).2
    rw [this, hz]
  · rfl
theorem ring_rep {h : Int → Int → Nat} {L : Nat} (hom : ∀ l p, h l p < L) {z : Ent} (hz : z.full = false) : Ring h L (List.replicate L z) ∧ Says (fun _ _ => none) (List.replicate L z) := by
  refine ⟨⟨by simp, hom, ?_, ?_⟩, ?_⟩
  · intro i e he hf
    have := fl_rep L z hz i
    rw [fl_of he, hf] at this; cases this
  · intro i j l p h1
    rw [fl_rep L z hz i] at h1; cases h1
  · intro l p v
    constructor
    · intro h; cases h
    · rintro ⟨i, e, he, hf, _⟩
      have := fl_rep L z hz i
      rw [fl_of he, hf] at this; cases this
theorem cnt_take_succ {A : List Ent} {i : Nat} {e : Ent} (h : A[i]? = some e) : cnt (A.take (i + 1)) = cnt (A.take i) + e.full.toNat := by
  obtain ⟨hi, rfl⟩ := List.getElem?_eq_some_iff.1 h
  unfold cnt
  rw [List.take_succ_eq_append_getElem hi, List.countP_append]
  simp only [List.countP_cons, List.countP_nil]
  cases (A[i]).full <;> simp
theorem cnt_take_le (A : List Ent) (i : Nat) : cnt (A.take i) ≤ cnt A := (List.take_sublist i A).countP_le
end Go.St
