import Derived.Test.YtcipamclhpcaaaaGreatDoorStD
import Derived.Laws.NewBlocks
/- St core, part F: 'efOp': operations that write, make memory, or call. -/
namespace Go.St
open Go

def stOne (v : Value) (K : Prop) : Prop :=
  match v with
  | .agg _ => False
  | .tuple _ => False
  | _ => K
theorem stOne.out {v : Value} {K : Prop} (h : stOne v K) : K ∧ v.oneCell' = true ∧ v.cells = #[v] := by
  unfold stOne at h
  split at h
  · exact h.elim
  · exact h.elim
  · rename_i h1 h2
    refine ⟨h, ?_, ?_⟩ <;> cases v <;> first | rfl | (exact absurd rfl (h1 _)) | (exact absurd rfl (h2 _))
def canSt (w : World) (b o : Nat) : Prop := (∃ u, w.cell? ⟨b, o, none⟩ = some u) ∧ w.frozen? ⟨b, o, none⟩ = false
theorem run_storeSt {P : Program} {w : World} {b o : Nat} {v : Value} (hc : canSt w b o) (hv : v.oneCell' = true) : (store ⟨b, o, none⟩ v).run P w = .ok () (w.setCell ⟨b, o, none⟩ v) := by
  rw [run_store P w ⟨b, o, none⟩ v .plain hv]
  obtain ⟨⟨u, hu⟩, hf⟩ := hc
  simp [hu, hf]
def stCs (b : Nat) : Nat → List Value → World → (World → Prop) → Prop
  | _, [], w, K => K w
  | o, v :: vs, w, K => stOne v (canSt w b o ∧ stCs b (o + 1) vs (w.setCell ⟨b, o, none⟩ v) K)
theorem stCs_sound {P : Program} {b o : Nat} : ∀ {vs : List Value} {i : Nat} {w : World} {K : World → Prop}, stCs b (o + i) vs w K →
    ∃ w', K w' ∧ (storeCells ⟨b, o, none⟩ vs i).run P w = .ok () w'
  | [], i, w, K, h => ⟨w, h, rfl⟩
  | v :: vs, i, w, K, h => by
    obtain ⟨⟨hc, h⟩, hv, _⟩ := stOne.out h
    obtain ⟨w', hk, hr⟩ := stCs_sound (P := P) (o := o) (vs := vs) (i := i + 1) h
    refine ⟨w', hk, ?_⟩
    simp only [storeCells, Sem.run_bind, addr_add, run_storeSt hc hv, Result.andThen_ok, hr]

def stT (P : Program) (t : TypeId) (w : World) (b o : Nat) (v : Value) (K : World → Prop) : Prop :=
  match tyOf P t with
  | some (.one _) => stOne v (canSt w b o ∧ K (w.setCell ⟨b, o, none⟩ v))
  | some (.many zs) => match v with
    | .agg cs => match Nat.beq cs.toList.length zs.length with
      | true => stCs b o cs.toList w K
      | false => False
    | _ => False
  | none => False
theorem stT_sound {P : Program} {t : TypeId} {w : World} {b o : Nat} {v : Value} {K : World → Prop} (h : stT P t w b o v K) :
    ∃ w', K w' ∧ (storeVar t ⟨b, o, none⟩ v).run P w = .ok () w' := by
  unfold stT at h
  split at h
  · rename_i z hz
    obtain ⟨⟨hc, hk⟩, hv, hvc⟩ := stOne.out h
    refine ⟨_, hk, ?_⟩
    have hst := run_storeSt (P := P) hc hv
    simp [storeVar, hvc, (tyOf_one_size hz w).1, storeCells, addr_add, hst]
  · rename_i zs hz
    split at h
    · rename_i cs
      split at h
      · rename_i hb
        have hl := Nat.eq_of_beq_eq_true hb
        obtain ⟨w', hk, hr⟩ := stCs_sound (P := P) (o := o) (i := 0) h
        refine ⟨w', hk, ?_⟩
        have : cs.size = zs.length := by simpa using hl
        simp [storeVar, Value.cells, (tyOf_many hz w).2, this, hr]
      · exact h.elim
    · exact h.elim
  · exact h.elim

/-- the cells of a value of type t -/
def cellsP (P : Program) (t : TypeId) (v : Value) (K : List Value → Prop) : Prop :=
  match tyOf P t with
  | some (.one _) => stOne v (K [v])
  | some (.many zs) => match v with
    | .agg cs => match Nat.beq cs.toList.length zs.length with
      | true => K cs.toList
      | false => False
    | _ => False
  | none => False
theorem cellsP.out {P : Program} {t : TypeId} {v : Value} {K : List Value → Prop} (h : cellsP P t v K) :
    ∃ i, P.info? t = some i ∧ v.cells.size = i.size ∧ K v.cells.toList := by
  unfold cellsP at h
  split at h
  · rename_i z hz
    obtain ⟨hk, hv, hvc⟩ := stOne.out h
    obtain ⟨i, hi, hs⟩ := (tyOf_one_size hz default).2
    exact ⟨i, hi, by rw [hvc, hs]; rfl, by rw [hvc]; exact hk⟩
  · rename_i zs hz
    split at h
    · split at h
      · rename_i cs _ hb
        have hl := Nat.eq_of_beq_eq_true hb
        have h2 := (tyOf_many hz default).2
        unfold tyOf at hz
        split at hz
        · cases hz
        · split at hz
          · cases hz
          · rename_i i hi
            refine ⟨i, hi, ?_, h⟩
            rw [run_sizeOf hi] at h2
            have h3 := (Result.ok.inj h2).1
            rw [h3]; simpa [Value.cells] using hl
      · exact h.elim
    · exact h.elim
  · exact h.elim
def setAt (cs : List Value) (off : Nat) : List Value → List Value
  | [] => cs
  | v :: vs => setAt (cs.set off v) (off + 1) vs
theorem foldl_setAt (off : Nat) : ∀ (vs : List Value) (k : Nat) (cs : Array Value),
    (vs.zipIdx k).foldl (fun cs (c, j) => cs.setIfInBounds (off + j) c) cs = (setAt cs.toList (off + k) vs).toArray
  | [], k, cs => by simp [setAt]
  | v :: vs, k, cs => by
    rw [List.zipIdx_cons, List.foldl_cons, foldl_setAt off vs (k + 1)]
    simp [setAt, Nat.add_assoc]
def fillT (P : Program) (place : Nat → Option (Nat × TypeId)) : List (Nat × Value) → List Value → (List Value → Prop) → Prop
  | [], cs, K => K cs
  | (i, v) :: rest, cs, K => match place i with
    | none => False
    | some (off, ty) => cellsP P ty v fun l => match Nat.ble (off + l.length) cs.length with
      | true => fillT P place rest (setAt cs off l) K
      | false => False
theorem fillT_sound {P : Program} {place : Nat → Option (Nat × TypeId)} {sz : Nat → Option (Nat × Nat)}
    (hp : ∀ i off ty, place i = some (off, ty) → ∃ inf, P.info? ty = some inf ∧ sz i = some (off, inf.size)) :
    ∀ {ps : List (Nat × Value)} {cs : List Value} {K : List Value → Prop}, fillT P place ps cs K → ∃ cs', K cs' ∧ Instr.fill sz cs.toArray ps = some cs'.toArray
  | [], cs, K, h => ⟨cs, h, rfl⟩
  | (i, v) :: rest, cs, K, h => by
    unfold fillT at h
    split at h
    · exact h.elim
    · rename_i off ty hpl
      obtain ⟨inf, hi, hsz⟩ := hp i off ty hpl
      obtain ⟨inf', hi', hsize, h⟩ := cellsP.out h
      rw [hi] at hi'; cases hi'
      split at h
      · rename_i hb
        have hle : off + v.cells.toList.length ≤ cs.length := Nat.le_of_ble_eq_true hb
        obtain ⟨cs', hk, hr⟩ := fillT_sound hp h
        refine ⟨cs', hk, ?_⟩
        unfold Instr.fill
        simp only [hsz]
        rw [if_neg]
        · have := foldl_setAt off v.cells.toList 0 cs.toArray
          rw [← hr]
          congr 1
          rw [← Array.foldl_toList]
          simpa using this
        · simp [hsize]
          simp at hle
          omega
      · exact h.elim

def fieldPlaces (fs : List Field) (i : Nat) : Option (Nat × TypeId) :=
  match fs[i]? with
  | some f => some (f.offset, f.type)
  | none => none
def bldT (P : Program) (t : TypeId) (ps : List (Nat × Value)) (K : Value → Prop) : Prop :=
  match P.info? t with
  | none => False
  | some inf => match inf.zero with
    | none => False
    | some z => match P.underlying t with
      | some (.struct fs) => match placesP P fs.toList with
        | none => False
        | some _ => fillT P (fieldPlaces fs.toList) ps z.cells.toList fun cs => K (.agg cs.toArray)
      | some (.array _ e) => sizeP P e fun sz => fillT P (fun i => some (i * sz, e)) ps z.cells.toList fun cs => K (.agg cs.toArray)
      | _ => False
theorem placesP_get {P : Program} : ∀ {fs : List Field} {l : List (Nat × Nat)}, placesP P fs = some l → ∀ (i off : Nat) (ty : TypeId), fieldPlaces fs i = some (off, ty) →
    ∃ inf, P.info? ty = some inf ∧ l[i]? = some (off, inf.size)
  | [], l, h, i, off, ty, hi => by simp [fieldPlaces] at hi
  | f :: fs, l, h, i, off, ty, hi => by
    unfold placesP at h
    split at h
    · cases h
    · rename_i inf hinf
      split at h
      · cases h
      · rename_i l' hl
        cases h
        cases i with
        | zero => simp [fieldPlaces] at hi; obtain ⟨rfl, rfl⟩ := hi; exact ⟨inf, hinf, rfl⟩
        | succ i => exact placesP_get hl i off ty (by simpa [fieldPlaces] using hi)
theorem bldT_sound {P : Program} {t : TypeId} {ps : List (Nat × Value)} {K : Value → Prop} (h : bldT P t ps K) :
    ∃ v, K v ∧ ∀ w, (Instr.build t ps.toArray).run P w = .ok v w := by
  unfold bldT at h
  split at h
  · exact h.elim
  · rename_i inf hi
    split at h
    · exact h.elim
    · rename_i z hz
      split at h
      · rename_i fs hu
        split at h
        · exact h.elim
        · rename_i l hl
          obtain ⟨cs, hk, hf⟩ := fillT_sound (sz := (l.toArray[·]?)) (fun i off ty hp => by
            obtain ⟨inf, h1, h2⟩ := placesP_get hl i off ty hp
            exact ⟨inf, h1, by simpa using h2⟩) h
          refine ⟨_, hk, fun w => ?_⟩
          have hm := run_mapM_array (P := P) _ fs l w (placesP_sound hl w)
          simp only [Array.toArray_toList] at hf
          simp only [Instr.build, Sem.run_bind, run_zeroValue hi hz, Result.andThen_ok, run_underlying hu, hm, hf, Sem.run_pure]
      · rename_i n e hu
        obtain ⟨ie, hie, h⟩ := h.out
        obtain ⟨cs, hk, hf⟩ := fillT_sound (sz := fun i => some (i * ie.size, ie.size)) (fun i off ty hp => by cases hp; exact ⟨ie, hie, rfl⟩) h
        refine ⟨_, hk, fun w => ?_⟩
        simp only [Array.toArray_toList] at hf
        simp only [Instr.build, Sem.run_bind, run_zeroValue hi hz, Result.andThen_ok, run_underlying hu, run_sizeOf hie, hf, Sem.run_pure]
      · exact h.elim

def zrow (z : Array Value) (n : Nat) : Array Value := (Array.range n).map (z[· % z.size]!)
def bslT (P : Program) (t : TypeId) (len : Nat) (ps : List (Nat × Value)) (w : World) (K : Value → World → Prop) : Prop :=
  match P.underlying t with
  | some (.slice e) => match P.info? e with
    | none => False
    | some inf => match inf.zero with
      | none => False
      | some z => match Nat.ble (len * inf.size) (2 ^ 24) with
        | true => fillT P (fun i => some (i * inf.size, e)) ps (zrow z.cells (len * inf.size)).toList fun cs =>
          K (.slice (some ⟨w.heap.size, 0, none⟩) len len) (w.alloc (.cells cs.toArray e))
        | false => False
  | _ => False
theorem bslT_sound {P : Program} {t : TypeId} {len : Nat} {ps : List (Nat × Value)} {w : World} {K : Value → World → Prop} (h : bslT P t len ps w K) :
    ∃ v w', K v w' ∧ (Instr.buildSlice t len ps.toArray).run P w = .ok v w' := by
  unfold bslT at h
  split at h
  · rename_i e hu
    split at h
    · exact h.elim
    · rename_i inf hi
      split at h
      · exact h.elim
      · rename_i z hz
        split at h
        · rename_i hb
          have hle : len * inf.size ≤ 2 ^ 24 := Nat.le_of_ble_eq_true hb
          obtain ⟨cs, hk, hf⟩ := fillT_sound (sz := fun i => some (i * inf.size, inf.size)) (fun i off ty hp => by cases hp; exact ⟨inf, hi, rfl⟩) h
          refine ⟨_, _, hk, ?_⟩
          simp only [Array.toArray_toList] at hf
          simp only [Instr.buildSlice, Sem.run_bind, run_underlying hu, Result.andThen_ok, run_sizeOf hi]
          rw [if_neg (by omega)]
          by_cases h0 : len * inf.size = 0
          · have hz' : zrow z.cells (len * inf.size) = (Array.range (len * inf.size)).map ((#[] : Array Value)[· % (#[] : Array Value).size]!) := by
              rw [h0]; simp [zrow]
            rw [hz'] at hf
            simp only [h0, if_true, Sem.run_bind, Sem.run_pure, Result.andThen_ok]
            rw [h0] at hf
            simp only [hf]
            simp [newRow]
          · simp only [h0, if_false, Sem.run_bind, run_zeroValue hi hz, Sem.run_pure, Result.andThen_ok]
            simp only [zrow] at hf
            simp only [hf]
            simp [newRow]
        · exact h.elim
  · exact h.elim

def mkS (P : Program) (t : TypeId) (l c : Value) (w : World) (K : Value → World → Prop) : Prop :=
  match P.underlying t with
  | some (.slice e) => match P.info? e with
    | none => False
    | some inf => match inf.zero with
      | none => False
      | some z => match l with
        | .int _ m => match c with
          | .int _ n => (0 ≤ IntKind.i64.wrap m ∧ IntKind.i64.wrap m ≤ IntKind.i64.wrap n ∧ inf.bytes * IntKind.i64.wrap n ≤ 2 ^ 48) ∧
            K (.slice (some ⟨w.heap.size, 0, none⟩) (IntKind.i64.wrap m).toNat (IntKind.i64.wrap n).toNat) (w.alloc (.cells (zrow z.cells ((IntKind.i64.wrap n).toNat * inf.size)) e))
          | _ => False
        | _ => False
  | _ => False
theorem mkS_sound {P : Program} {t : TypeId} {l c : Value} {w : World} {K : Value → World → Prop} (h : mkS P t l c w K) :
    ∃ v w', K v w' ∧ (Instr.makeSlice t l c).run P w = .ok v w' := by
  unfold mkS at h
  split at h
  · rename_i e hu
    split at h
    · exact h.elim
    · rename_i inf hi
      split at h
      · exact h.elim
      · rename_i z hz
        split at h
        · split at h
          · rename_i k m _ k' n
            obtain ⟨⟨h0, h1, h2⟩, hk⟩ := h
            refine ⟨_, _, hk, ?_⟩
            have ht : ¬ ((decide (IntKind.i64.wrap n < 0) || decide (inf.bytes * IntKind.i64.wrap n > 2 ^ 48) || decide (IntKind.i64.wrap m < 0) || decide (IntKind.i64.wrap m > IntKind.i64.wrap n)) = true) := by
              simp; omega
            simp only [Instr.makeSlice, Sem.run_bind, run_underlying hu, Result.andThen_ok, asInt, asIntOf, Sem.run_pure, run_typeInfo hi]
            rw [if_neg (by simpa using ht)]
            simp only [Sem.run_bind, run_askRoom, Result.andThen_ok, run_sizeOf hi]
            by_cases hn : (IntKind.i64.wrap n).toNat * inf.size = 0
            · have hz' : zrow z.cells ((IntKind.i64.wrap n).toNat * inf.size) = (Array.range ((IntKind.i64.wrap n).toNat * inf.size)).map ((#[] : Array Value)[· % (#[] : Array Value).size]!) := by
                rw [hn]; simp [zrow]
              rw [hz']
              simp only [hn, if_true]
              simp [newRow]
            · simp only [hn, if_false, Sem.run_bind, run_zeroValue hi hz, Sem.run_pure, Result.andThen_ok]
              simp [newRow, zrow]
          · exact h.elim
        · exact h.elim
  · exact h.elim
end Go.St

