import Derived.Test.YtcipamclhpcaaaaGreatDoorStV
/- St core, part W: whole numbers within their bounds. -/
namespace Go.St
open Go
theorem w64_eq (x : Int) : w64 x = if x % 18446744073709551616 ≥ 9223372036854775808 then x % 18446744073709551616 - 18446744073709551616 else x % 18446744073709551616 := by
  simp [w64, IntKind.wrap, IntKind.bits, IntKind.signed]
theorem w64_id {x : Int} (h1 : -9223372036854775808 ≤ x) (h2 : x < 9223372036854775808) : w64 x = x := by
  rw [w64_eq]; split <;> omega
theorem wu64_eq (x : Int) : wu64 x = x % 18446744073709551616 := by simp [wu64, IntKind.wrap, IntKind.bits, IntKind.signed]
theorem wu64_id {x : Int} (h1 : 0 ≤ x) (h2 : x < 18446744073709551616) : wu64 x = x := by rw [wu64_eq]; omega
theorem wu16_eq (x : Int) : wu16 x = x % 65536 := by simp [wu16, IntKind.wrap, IntKind.bits, IntKind.signed]
theorem slA_zero {a : Option Addr} {c sz : Nat} (h : a = none ∨ ∃ b o, a = some ⟨b, o, none⟩) : slA a c 0 sz = a := by
  unfold slA; split
  · rfl
  · rcases h with rfl | ⟨b, o, rfl⟩
    · rfl
    · simp [addr_add]
theorem slA_some {b o c l sz : Nat} : slA (some ⟨b, o, none⟩) c l sz = some ⟨b, if c = l then o else o + l * sz, none⟩ := by
  unfold slA; split <;> simp [addr_add]
/-! ### clear -/
def clrZ (P : Program) (ats : Array TypeId) : Option (List Value) :=
  match ats.toList with
  | [t] => match P.underlying t with
    | some (.slice e) => match P.info? e with
      | some i => match i.zero with
        | some z => some z.cells.toList
        | none => none
      | none => none
    | _ => none
  | _ => none
theorem clrZ.out {P : Program} {ats : Array TypeId} {cs : List Value} (h : clrZ P ats = some cs) :
    ∃ t e i z, ats = #[t] ∧ P.underlying t = some (.slice e) ∧ P.info? e = some i ∧ i.zero = some z ∧ z.cells.toList = cs := by
  unfold clrZ at h
  split at h
  · rename_i t ha
    split at h
    · rename_i e hu
      split at h
      · rename_i i hi
        split at h
        · rename_i z hz; cases h; exact ⟨t, e, i, z, list1 ha, hu, hi, hz, rfl⟩
        · cases h
      · cases h
    · cases h
  · cases h
theorem Enc.rows_rep {T : Type} {E : Enc T} (z : T) (n : Nat) : E.rows (List.replicate (n + 1) z) = E.e z ++ E.rows (List.replicate n z) := rfl
theorem Enc.rows_rep_get {T : Type} {E : Enc T} (z : T) : ∀ (n j : Nat), j < n * E.sz → (E.rows (List.replicate n z))[j]? = (E.e z)[j % E.sz]?
  | 0, j, h => by simp at h
  | n + 1, j, h => by
    rw [Enc.rows_rep]
    by_cases hj : j < E.sz
    · rw [List.getElem?_append_left (by rw [E.len]; exact hj), Nat.mod_eq_of_lt hj]
    · have h' : j < n * E.sz + E.sz := by rw [Nat.add_mul] at h; omega
      rw [List.getElem?_append_right (by rw [E.len]; omega), E.len, Enc.rows_rep_get z n (j - E.sz) (by omega), Nat.mod_eq_sub_mod (a := j) (by omega)]
theorem zeroCells_rows {T : Type} {E : Enc T} {z : T} {zc : Array Value} (h : zc.toList = E.e z) (n : Nat) : (Builtin.zeroCells zc n).toList = E.rows (List.replicate n z) := by
  have hs : zc.size = E.sz := by rw [← Array.length_toList, h, E.len]
  apply List.ext_getElem?
  intro j
  by_cases hj : j < n * E.sz
  · rw [Enc.rows_rep_get z n j hj]
    have hm : j % E.sz < E.sz := Nat.mod_lt _ E.pos
    have hget : zc[j % E.sz]! = (E.e z)[j % E.sz]'(by rw [E.len]; exact hm) := by
      rw [getElem!_pos zc (j % E.sz) (by rw [hs]; exact hm)]
      simp only [← h]
      simp
    rw [getElem!_pos zc (j % E.sz) (by rw [hs]; exact hm)] at hget
    simp [Builtin.zeroCells, hs, hj, hget, hm, E.len]
  · rw [List.getElem?_eq_none (by simp [Builtin.zeroCells, hs]; omega), List.getElem?_eq_none (by rw [E.rows_len]; simp; omega)]
theorem ClrV.own {P : Program} {ats : Array TypeId} {ty : TypeId} {T : Type} {E : Enc T} {z : T} {w : World} {L : List HP} {F : HP → List HP} {a r : Option Addr} {l c o n m : Nat} {xs : List T} {K : Value → World → Prop} [i : Foc (Own E) a (l, c, xs) L F]
    (h : Sat w L) (hz : clrZ P ats = some (E.e z)) (hr : n = 0 ∨ ∃ b, a = some ⟨b, 0, none⟩ ∧ r = some ⟨b, o * E.sz, none⟩) (hn : o + n ≤ l)
    (k : ∀ x w', Sat w' (F (Own E a (l, c, xs.take o ++ List.replicate n z ++ xs.drop (o + n)))) → K x w') : ClrV P ats ty (.slice r n m) w K := by
  obtain ⟨t, e, i', zv, rfl, ht, hi, hz', hzc⟩ := clrZ.out hz
  show runV P (Builtin.clear_ #[t] ty #[.slice r n m]) w K
  obtain ⟨M, h, hb⟩ := i.op h
  by_cases hn0 : n = 0
  · subst hn0
    have : (Builtin.clear_ #[t] ty #[.slice r 0 m]).run P w = .ok (.tuple #[]) w := by
      cases r <;> simp [Builtin.clear_, run_underlying ht]
    unfold runV; rw [this]
    refine k _ _ (hb ?_)
    simpa using h
  · obtain ⟨b, rfl, rfl⟩ := hr.resolve_left hn0
    have hl := Own.len h
    obtain ⟨b', rest, hbb, hp, h⟩ := Own.toBlk h (by omega)
    cases hbb
    obtain ⟨tt, hx⟩ := Sat.ex.1 h
    have hg := one_get hx
    have hzl : (E.rows (List.replicate n z)).length = n * E.sz := by rw [E.rows_len]; simp
    have hrl : (E.rows xs ++ rest).length = c * E.sz := by rw [List.length_append, E.rows_len, hp.2.2, hl.1, ← Nat.add_mul]; congr 1; omega
    have hfit : o * E.sz + n * E.sz ≤ c * E.sz := by rw [← Nat.add_mul]; exact Nat.mul_le_mul_right _ (by omega)
    have hst := run_storeCells_at P b (o * E.sz) tt (E.rows (List.replicate n z)) 0 (E.rows xs ++ rest).toArray w hg (by simp only [List.size_toArray]; rw [hrl, hzl]; omega) (E.rows_one _)
    have hrun : (Builtin.clear_ #[t] ty #[.slice (some ⟨b, o * E.sz, none⟩) n m]).run P w = .ok (.tuple #[])
        (w.setRow b ((E.rows xs ++ rest).take (o * E.sz) ++ E.rows (List.replicate n z) ++ (E.rows xs ++ rest).drop (o * E.sz + (E.rows (List.replicate n z)).length)).toArray) := by
      simp only [Nat.add_zero] at hst
      obtain ⟨n', rfl⟩ : ∃ k, n = k + 1 := ⟨n - 1, by omega⟩
      have hzr := zeroCells_rows (E := E) hzc (n' + 1)
      simp only [Builtin.clear_]
      simp only [List.getElem?_toArray, List.getElem?_cons_zero, Sem.run_bind, Result.andThen_ok, run_underlying ht, run_zeroValue hi hz', hzr, hst, Sem.run_pure]
    unfold runV; rw [hrun]
    have e1 : (E.rows xs ++ rest).take (o * E.sz) = E.rows (xs.take o) := by
      conv => lhs; rw [← List.take_append_drop o xs, Enc.rows_app, List.append_assoc]
      exact List.take_left' (by rw [E.rows_len, List.length_take]; congr 1; omega)
    have e2 : (E.rows xs ++ rest).drop (o * E.sz + (E.rows (List.replicate n z)).length) = E.rows (xs.drop (o + n)) ++ rest := by
      conv => lhs; rw [← List.take_append_drop (o + n) xs, Enc.rows_app, List.append_assoc]
      exact List.drop_left' (by rw [E.rows_len, List.length_take, hzl, ← Nat.add_mul]; congr 1; omega)
    rw [e1, e2]
    refine k _ _ (hb (Own.ofBlk (rest := rest) ⟨by simp; omega, hp.2.1, hp.2.2⟩ ?_))
    refine h.setRow' (fun t' ht' => ?_) (fun c hc => setRow_other w b c _ hc) ⟨rfl, rfl⟩
    rw [setRow_heap w b _ _ t' _ ht', Enc.rows_app, Enc.rows_app]
    simp
end Go.St

