/-
  LookNil: the law answers true for every input, and leaves what there was as it was. No condition.
-/
import Derived.Test.YtkapfochgkdhaaaGreatCtN24
import Derived.Test.YtkapfochgkdhaaaGreatZ1
import Derived.Test.YtkapfochgkdhaaaGreatZ2
import Derived.Test.YtkapfochgkdhaaaGreatZ3
namespace Go.Proofs.YtkapfochgkdhaaaGreat.lookNil
open Go.ChangeShapes Go.WideShapes Go.ChangeAt Go.RowKit
set_option linter.unusedVariables false
theorem own : ownKnob Tryz.prog.godebug = none := by kernel_rfl
theorem grown {w w' : World} (h : Go.St.RelW w w') (hk : ∀ (b : Nat) (o : Obj), w.heap[b]? = some o → w'.heap[b]? = some o) : Grown w w' := by
  refine ⟨⟨h.os, h.out, fun i hi => ?_⟩, fun a => ?_, h.size⟩
  · have e : w.heap[i]? = some w.heap[i] := Array.getElem?_eq_getElem hi
    rw [hk _ _ e, e]
    generalize w.heap[i] = o
    cases o <;> first | rfl | exact .inr ⟨rfl, rfl⟩ | exact ⟨rfl, rfl, rfl, fun _ _ => rfl⟩
  · unfold World.frozen?
    rcases Nat.lt_or_ge a.block w.heap.size with hl | hl
    · have e : w.heap[a.block]? = some w.heap[a.block] := Array.getElem?_eq_getElem hl
      rw [hk _ _ e, e]
    · rw [Array.getElem?_eq_none hl]
      cases e : w'.heap[a.block]? with
      | none => rfl
      | some o =>
        have := h.nf _ _ hl e
        cases o <;> try rfl
        next c t fr => cases this; simp
theorem walk (a0 : Int) (a1 : Int) (w0 : (Lit.int .u64 a0).wf = true) (w1 : (Lit.int .u64 a1).wf = true) (w : World) :
    Calls Tryz.prog 11 #[.int .u64 a0, .int .u64 a1] w fun e w' => e = .returned (.bool true) ∧ Grown w w' := by
  refine (Go.St.callsV_calls Go.St.law24_LookNil_walk).mono ?_
  rintro e w' ⟨v, rfl, rfl, h1, h2⟩
  exact ⟨rfl, grown h1 h2⟩
set_option maxRecDepth 100000 in
theorem lifted (os : Os) (started : os.Started) (H : Type) (enc : TypeId × Value → H) :
    ReturnsInHanded {} Tryz.checked os 11 .any (Rows.lookNilSpec.pre6 enc Tryz.prog Tryz.f11 Rows.lookNilRow.domain false) (Rows.lookNilSpec.post enc Tryz.prog Tryz.f11 false true false false) := by
  refine returnsInHanded_of_change (C := Tryz.checked) own started (by kernel_rfl) Tryz.func11
    (ChangeSpec.witness6 (enc := enc) (C := Tryz.checked) false ⟨#[], #[.int .u64 0, .int .u64 0], []⟩ 8 (by kernel_rfl) (by kernel_rfl) (by kernel_rfl) (by kernel_rfl)) ?_
  intro W base args ds gs before hval0 hW hcnd _
  have hval : ∀ (j : Nat) t v, Tryz.f11.params[j]? = some t → args[j]? = some v → Value.okWide Tryz.prog W .any base t v := hval0
  have hW' := hW
  obtain ⟨p, q, hA0, hV, rfl, hfz, hnd⟩ := hW
  have hA : DataW.TrodAll enc Tryz.prog W 0 (fun _ => true) true Tryz.f11.params.toList args.toList ds p := hA0
  rw [Tryz.params11] at hA hval
  obtain ⟨v0, vs0, d0, ds0, p0, q0, hargs, rfl, rfl, h0, r0⟩ := trodAll_cons hA
  obtain ⟨v1, vs1, d1, ds1, p1, q1, rfl, rfl, rfl, h1, r1⟩ := trodAll_cons r0
  obtain ⟨rfl, rfl, rfl⟩ := trodAll_nil r1
  obtain rfl : args = #[v0, v1] := by cases args; simp_all
  obtain ⟨rfl, rfl⟩ := trodVars_none hV
  obtain ⟨a0, rfl, rfl, rfl, w0⟩ := open_int Tryz.underlying22 (hval 0 22 v0 rfl rfl) h0
  obtain ⟨a1, rfl, rfl, rfl, w1⟩ := open_int Tryz.underlying22 (hval 1 22 v1 rfl rfl) h1
  clear hA0 hval0
  simp only [List.append_nil] at hW'
  refine (walk a0 a1 w0 w1 W).mono fun e W' ⟨he, hg⟩ => ?_
  subst he
  exact ⟨_, rfl, post_of_same (pa := []) (pv := []) hW' (fun _ _ _ => (trodAll_cons_mk (shut_bool Tryz.underlying4 _) trodAll_mk0)) (fun sp _ => (trodAll_cons_mk (shut_int Tryz.underlying22 w0) (trodAll_cons_mk (shut_int Tryz.underlying22 w1) trodAll_mk0))) (fun _ _ => rfl) rfl
    (hg.frame _) hg.2.1 (ok_one (by kernel_rfl) rfl (okWide_bool_mk Tryz.underlying4 _))⟩
theorem ai {a b : Bool} (x : a = true) (y : b = true) : (a && b) = true := by rw [x, y]; rfl
theorem closed : joinedFacts Tryz.prog 11 Tryz.f11 Rows.lookNilSpec Rows.lookNilRow = true := by
  unfold joinedFacts
  exact (ai (ai (ai (ai (ai (ai (ai (ai (ai (ai (ai (ai (ai (ai (ai (ai (ai (ai (ai (ai (ai (ai (ai (ai (ai (ai (ai (ai (ai (ai (ai k1 k2) k3) k4) k5) k6) k7) k8) k9) k10) k11) k12) k13) k14) k15) k16) k17) k18) k19) k20) k21) k22) k23) k24) k25) k26) k27) k28) (by kernel_rfl)) k30) k31) k32)
theorem pe : Tryz.pinned.checked.prog = Tryz.prog := by kernel_rfl
theorem closed2 : joinedFacts Tryz.pinned.checked.prog 11 Tryz.f11 Rows.lookNilSpec Rows.lookNilRow = true := by rw [pe]; exact closed
theorem kn2 : Tryz.pinned.checked.prog.funcNamed Rows.lookNilRow.func = some 11 := by rw [pe]; exact kn
theorem over : Rows.lookNilRow.holds Tryz.pinned (OpenSpec.ofChange Rows.lookNilSpec) :=
  OpenClaim.holds_of_wide 11 Tryz.f11 rfl rfl rfl rfl rfl rfl rfl ⟨rfl, rfl, rfl, rfl, rfl⟩ rfl rfl rfl rfl rfl kn2 Tryz.func11 closed2
    (of_decide_eq_true (by kernel_rfl)) (by unfold Func.isWrapper; first | (rw [if_pos (by decide +kernel)]; kernel_rfl) | (rw [if_neg (by decide +kernel)]; exact ⟨rfl, rfl⟩))
    (fun os started H enc _ => lifted os started H enc)
theorem proved : Rows.LookNilSaid := over
end Go.Proofs.YtkapfochgkdhaaaGreat.lookNil
