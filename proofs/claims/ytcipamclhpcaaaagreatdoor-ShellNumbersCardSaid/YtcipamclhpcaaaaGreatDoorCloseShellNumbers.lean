import Derived.Test.YtcipamclhpcaaaaGreatDoorFactKl
import Derived.Test.YtcipamclhpcaaaaGreatDoorFactKe
import Derived.Test.YtcipamclhpcaaaaGreatDoorFactKc
import Derived.Test.YtcipamclhpcaaaaGreatDoorKShellNumbers
import Derived.Test.YtcipamclhpcaaaaGreatDoorLaid1
import Derived.Test.YtcipamclhpcaaaaGreatDoorWShellNumbers
import Derived.ChangeMaps5
import Derived.Test.YtcipamclhpcaaaaGreatDoorCShellNumbers
import Derived.Test.YtcipamclhpcaaaaGreatDoorFactTt
set_option linter.unusedVariables false
set_option linter.unusedSimpArgs false
/- The row's closed facts, together. -/
namespace Go.Proofs.YtcipamclhpcaaaaGreatDoor.shellNumbers
open Go.ChangeShapes Go.WideShapes Go.ChangeAt Go.RowKit
theorem ai {a b : Bool} (x : a = true) (y : b = true) : (a && b) = true := by rw [x, y]; rfl
theorem closed : joinedFacts Tryz.prog 4 Tryz.f4 Rows.shellNumbersSpec Rows.shellNumbersRow = true := by
  unfold joinedFacts
  exact (ai (ai (ai (ai (ai (ai (ai (ai (ai (ai (ai (ai (ai (ai (ai (ai (ai (ai (ai (ai (ai (ai (ai (ai (ai (ai (ai (ai (ai (ai (ai k1 kq1) kq2) k4) k5) k6) kq6) k8) kq8) k10) k11) k12) k13) k14) k15) k16) k17) k18) k19) k20) k21) k22) k23) k24) kq24) kq25) k27) k28) (by kernel_rfl)) k30) k31) k32)
theorem closed2 : joinedFacts Tryz.pinned.checked.prog 4 Tryz.f4 Rows.shellNumbersSpec Rows.shellNumbersRow = true := by rw [pe]; exact closed
theorem kn2 : Tryz.pinned.checked.prog.funcNamed Rows.shellNumbersRow.func = some 4 := by rw [pe]; exact kn
end Go.Proofs.YtcipamclhpcaaaaGreatDoor.shellNumbers

/-
  ShellNumbers: the law answers true for every input, and leaves what there was as it was.
-/
namespace Go.Proofs.YtcipamclhpcaaaaGreatDoor.shellNumbers
open Go.ChangeShapes Go.WideShapes Go.ChangeAt Go.RowKit
set_option linter.unusedVariables false
set_option maxRecDepth 100000 in
theorem lifted (os : Os) (started : os.Started) (H : Type) (enc : TypeId × Value → H) :
    ReturnsInHanded {} Tryz.checked os 4 .any (fun w args => (Rows.shellNumbersSpec.pre enc Tryz.prog Tryz.f4 [] false w args ∧ laidMetH Tryz.prog Rows.shellNumbersRow.laid w) ∧ sizedMet enc Tryz.prog Tryz.f4 (OpenSpec.ofChange Rows.shellNumbersSpec) false w args)
      (Rows.shellNumbersSpec.post enc Tryz.prog Tryz.f4 false true false false) := by
  refine Go.St.returns_shaped (C := Tryz.checked) (X := fun w _ => laidMetH Tryz.prog Rows.shellNumbersRow.laid w) (fun _ _ _ hh h => h.of_heap hh) own started noInit Tryz.func4
    (ChangeSpec.witness_shaped (enc := enc) (C := Tryz.checked) (os := os) (X := fun w _ => laidMetH Tryz.prog Rows.shellNumbersRow.laid w) false (World.laidAll Tryz.prog os Rows.shellNumbersRow.laid) #[.int .u64 0, .string ⟨#[]⟩] 8 (World.laidAll_os _ _ _) (shaped os) (okB os) (preB os H enc) (sizedB os H enc) (met os)) ?_
  intro W base args ds gs before hval0 hW hL hsh
  have hval : ∀ (j : Nat) t v, Tryz.f4.params[j]? = some t → args[j]? = some v → Value.okWide Tryz.prog W .any base t v := hval0
  have hW' := hW
  obtain ⟨p, q, hA0, hV, rfl, _, _⟩ := hW
  have hA : DataW.TrodAll enc Tryz.prog W 0 (fun _ => true) true Tryz.f4.params.toList args.toList ds p := hA0
  rw [Tryz.params4] at hA hval
  obtain ⟨v0, vs0, d0, ds0, p0, q0, hargs, rfl, rfl, h0, r0⟩ := trodAll_cons hA
  obtain ⟨v1, vs1, d1, ds1, p1, q1, rfl, rfl, rfl, h1, r1⟩ := trodAll_cons r0
  obtain ⟨rfl, rfl, rfl⟩ := trodAll_nil r1
  obtain rfl : args = #[v0, v1] := by cases args; simp_all
  obtain ⟨rfl, rfl⟩ := trodVars_none hV
  obtain ⟨x, rfl, rfl, rfl, wx⟩ := open_int Tryz.underlying23 (hval 0 23 v0 rfl rfl) h0
  obtain ⟨s, rfl, rfl, rfl, ws⟩ := Go.ChangeMaps.open_string Tryz.underlying9 (hval 1 9 v1 rfl rfl) h1
  clear hA0 hval0
  simp only [List.append_nil] at hW'
  have hx : 0 ≤ x ∧ x ≤ 18446744073709551615 := by simpa [Lit.wf, IntKind.min, IntKind.max, IntKind.signed, IntKind.bits] using wx
  obtain ⟨n, rfl⟩ := Int.eq_ofNat_of_zero_le hx.1
  rw [MakeChecks.laidMetH_plain _ _ _ (by kernel_rfl)] at hL
  have g : Go.St.GF W := gf_laid (Lib.laidMet.reads hL (.tail _ (.tail _ (.head _)))) (Lib.laidMet.reads hL (.tail _ (.tail _ (.tail _ (.tail _ (.tail _ (.head _))))))) (Lib.laidMet.reads hL (.tail _ (.tail _ (.tail _ (.head _))))) (Lib.laidMet.reads hL (.tail _ (.tail _ (.tail _ (.tail _ (.head _)))))) hsh
  refine (Go.St.callsV_calls (Go.St.law27_ShellNumbers_walk (s := s) g (by omega))).mono fun e W' h => ?_
  obtain ⟨v, rfl, rfl, h1, h2⟩ := h
  exact ⟨_, rfl, _, _, _, [], [], [], hW', trodAll_mk1 (shut_bool Tryz.underlying4 _), (trodAll_cons_mk (shut_int Tryz.underlying23 wx) (trodAll_cons_mk (Go.ChangeMaps.shut_string Tryz.underlying9 ws) trodAll_mk0)), rfl, Go.St.kept_of h1 h2 _, fun h => by cases h⟩
theorem over : Rows.shellNumbersRow.holds Tryz.pinned (OpenSpec.ofChange Rows.shellNumbersSpec) :=
  OpenClaim.holds_of_wide 4 Tryz.f4 rfl rfl rfl rfl rfl rfl rfl ⟨rfl, rfl, rfl, rfl, rfl⟩ rfl rfl rfl rfl rfl kn2 Tryz.func4 closed2
    (of_decide_eq_true (by kernel_rfl)) (by unfold Func.isWrapper; first | (rw [if_pos (by decide +kernel)]; kernel_rfl) | (rw [if_neg (by decide +kernel)]; exact ⟨rfl, rfl⟩))
    (fun os started H enc _ => lifted os started H enc)
end Go.Proofs.YtcipamclhpcaaaaGreatDoor.shellNumbers

/- ShellNumbers: the tied card. -/
namespace Go.Proofs.YtcipamclhpcaaaaGreatDoor.shellNumbers
open Go.ChangeShapes Go.WideShapes Go.ChangeAt Go.RowKit
theorem proved : Rows.ShellNumbersCardSaid :=
  Claim7.holds_tied_plain_at .later [] [.pinned, .data, .data, .sentinel, .sentinel, .data, .data, .data] true (true, "6973daad96ceec1caa9cc9050160ec60db34f499c694825fcc4f5e5f5aca9dc2") true
    over (fun _ h => by cases h) byText (fun _ h => by cases h) own.shellNumbers_row_tie rfl ⟨rfl, rfl⟩ mainIs rfl
    (fun f fn hf hfn => by
      obtain rfl : f = 4 := Option.some.inj (kn2.symm.trans hf) |>.symm
      obtain rfl : fn = Tryz.f4 := (Option.some.inj ((show Tryz.pinned.checked.prog.funcs[4]? = some Tryz.f4 from Tryz.func4).symm.trans hfn)).symm
      exact ⟨looks, fun j t ht => by
        rw [Tryz.params4] at ht
        have hm : t ∈ [23, 9] := by simpa using Array.mem_of_getElem? ht
        have hall := noStand
        exact (show Tryz.pinned.checked.prog.wantsStandIn t = false by simpa using List.all_eq_true.1 hall t hm)⟩)
    goes
end Go.Proofs.YtcipamclhpcaaaaGreatDoor.shellNumbers

