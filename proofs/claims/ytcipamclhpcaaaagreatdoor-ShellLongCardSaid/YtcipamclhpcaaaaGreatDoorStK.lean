import Derived.Test.YtcipamclhpcaaaaGreatDoorStJ
import Derived.KernelRfl
/- St core, part K: from a function's text to its call. -/
namespace Go.St
open Go

def frA (args : List Value) : Fr := fun t => args.getD t undef
def resP (P : Program) : List ResultVar → Fr → World → (List Value → Prop) → Prop
  | [], _, _, K => K []
  | .tmp t :: rs, fr, w, K => resP P rs fr w fun vs => K (fr t :: vs)
  | .cell a t :: rs, fr, w, K => atP (fr a) fun b o => ldT P t w b o fun v _ => resP P rs fr w fun vs => K (v :: vs)
def oneV (vs : List Value) : Value :=
  match vs with
  | [v] => v
  | vs => .tuple vs.toArray
def retK (P : Program) (rs : List ResultVar) (R : Value → World → Prop) : KX := fun e fr w =>
  match e with
  | .normal => resP P rs fr w fun vs => R (oneV vs) w
  | .ret => resP P rs fr w fun vs => R (oneV vs) w
  | .exit _ => False

def resS (tmps : Array Value) : ResultVar → Sem Value
  | .tmp t => pure (tmps.getD t undef)
  | .cell a t => do loadVar t (← asAddr (tmps.getD a undef))
theorem results_eq (fn : Func) (tmps : Array Value) : results fn tmps = (do
    let vs ← fn.results.mapM (resS tmps)
    pure (if h : vs.size = 1 then vs[0] else .tuple vs)) := by
  unfold results
  congr 2
theorem resP_sound {P : Program} {a : Act} {w : World} : ∀ {rs : List ResultVar} {K : List Value → Prop}, resP P rs (frOf a) w K →
    ∃ vs, K vs ∧ (rs.mapM (resS a.tmps)).run P w = .ok vs w
  | [], K, h => ⟨[], h, rfl⟩
  | .tmp t :: rs, K, h => by
    obtain ⟨vs, hk, hr⟩ := resP_sound (rs := rs) h
    refine ⟨_, hk, ?_⟩
    have e : (resS a.tmps (.tmp t)).run P w = .ok (frOf a t) w := rfl
    simp only [List.mapM_cons, Sem.run_bind, e, Result.andThen_ok, hr, Sem.run_pure]
  | .cell b t :: rs, K, h => by
    obtain ⟨b', o', hb, h⟩ := h.out
    obtain ⟨v, C, h, hc, hr⟩ := ldT_sound h
    obtain ⟨vs, hk, hrs⟩ := resP_sound (rs := rs) h
    refine ⟨_, hk, ?_⟩
    have hb' : a.tmps.getD b undef = .pointer (some ⟨b', o', none⟩) := hb
    have e : (resS a.tmps (.cell b t)).run P w = .ok v w := by
      simp only [resS, Sem.run_bind, hb']
      exact hr w hc
    simp only [List.mapM_cons, Sem.run_bind, e, Result.andThen_ok, hrs, Sem.run_pure]
theorem one_of (vs : List Value) : (if h : vs.toArray.size = 1 then vs.toArray[0] else .tuple vs.toArray) = oneV vs := by
  cases vs with
  | nil => rfl
  | cons v vs =>
    cases vs with
    | nil => rfl
    | cons u vs => simp [oneV]
theorem results_of {P : Program} {fn : Func} {a : Act} {w : World} {R : Value → World → Prop} (h : resP P fn.results.toList (frOf a) w fun vs => R (oneV vs) w) :
    ∃ v, (results fn a.tmps).run P w = .ok v w ∧ R v w := by
  obtain ⟨vs, hk, hr⟩ := resP_sound h
  refine ⟨oneV vs, ?_, hk⟩
  have hm := run_mapM_array (P := P) _ fn.results vs w hr
  rw [results_eq]
  simp only [Sem.run_bind, hm, Result.andThen_ok, Sem.run_pure]
  rw [one_of]

theorem callsV_of_sh {P : Program} (hm : P.follows .mixedOrders = true) (hP : NoNumGo P) {f : FuncId} {fn : Func} {c : Code} {args : List Value} {w : World} {R : Value → World → Prop}
    (hf : P.funcs[f]? = some fn) (hb : fn.body = some c) (hok : codeOk fn.ntmps c = true) (hn : Nat.ble args.length fn.ntmps = true)
    (h : sh P noCut c (frA args) w (retK P fn.results.toList R)) : CallsV P f args.toArray w R := by
  have hle := Nat.le_of_ble_eq_true hn
  refine callsIn_of_wp hf hb trivial ?_
  have hfr : frOf { tmps := args.toArray ++ Array.replicate (fn.ntmps - args.toArray.size) undef, defers := [] } = frA args := by
    funext t
    simp only [frOf, frA, Array.getD_eq_getD_getElem?, List.getD_eq_getElem?_getD]
    by_cases ht : t < args.length
    · rw [Array.getElem?_append_left (by simpa using ht)]; simp
    · rw [Array.getElem?_append_right (by simpa using ht), Array.getElem?_replicate]
      have : args[t]? = none := by simp; omega
      rw [this]
      split <;> rfl
  rw [← hfr] at h
  have hs := sh_sound (n := fn.ntmps) (ds := []) (r := none) hm hP hok ⟨rfl, by simp; omega⟩ h
  refine wpIn_mono hs ?_
  intro e a' w' hq
  cases e <;> simp only [QK, retK] at hq <;> first
    | exact hq.elim
    | exact hq.2.elim
    | skip
  · obtain ⟨v, hr, hR⟩ := results_of hq.2
    exact ⟨hq.1.defers, v, hr, v, rfl, hR⟩
  · obtain ⟨v, hr, hR⟩ := results_of hq.2
    exact ⟨hq.1.defers, v, hr, v, rfl, hR⟩

end Go.St

