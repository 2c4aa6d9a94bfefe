import Derived.Test.YtcipamclhpcaaaaGreatDoorFactKl
import Derived.Test.YtcipamclhpcaaaaGreatDoorFactKe
import Derived.Test.YtcipamclhpcaaaaGreatDoorFactKc
import Derived.Test.YtcipamclhpcaaaaGreatDoorKPlayNames
import Derived.Test.YtcipamclhpcaaaaGreatDoorDn0
import Derived.Test.YtcipamclhpcaaaaGreatDoorLaid0
import Derived.Test.YtcipamclhpcaaaaGreatDoorWPlayNames
import Derived.WideKeyArgs
import Derived.Test.YtcipamclhpcaaaaGreatDoorCPlayNames
import Derived.Test.YtcipamclhpcaaaaGreatDoorFactTt
set_option linter.unusedVariables false
set_option linter.unusedSimpArgs false
/- The row's closed facts, together. -/
namespace Go.Proofs.YtcipamclhpcaaaaGreatDoor.playNames
open Go.ChangeShapes Go.WideShapes Go.ChangeAt Go.RowKit
theorem ai {a b : Bool} (x : a = true) (y : b = true) : (a && b) = true := by rw [x, y]; rfl
theorem closed : joinedFacts Tryz.prog 3 Tryz.f3 Rows.playNamesSpec Rows.playNamesRow = true := by
  unfold joinedFacts
  exact (ai (ai (ai (ai (ai (ai (ai (ai (ai (ai (ai (ai (ai (ai (ai (ai (ai (ai (ai (ai (ai (ai (ai (ai (ai (ai (ai (ai (ai (ai (ai k1 kq1) kq2) k4) k5) k6) kq6) k8) kq8) k10) k11) k12) k13) k14) k15) k16) k17) k18) k19) k20) k21) k22) k23) k24) kq24) kq25) k27) k28) (by kernel_rfl)) k30) k31) k32)
theorem closed2 : joinedFacts Tryz.pinned.checked.prog 3 Tryz.f3 Rows.playNamesSpec Rows.playNamesRow = true := by rw [pe]; exact closed
theorem kn2 : Tryz.pinned.checked.prog.funcNamed Rows.playNamesRow.func = some 3 := by rw [pe]; exact kn
end Go.Proofs.YtcipamclhpcaaaaGreatDoor.playNames

/-
  PlayNames: the law answers true for every input, and leaves what there was as it was.
-/
namespace Go.Proofs.YtcipamclhpcaaaaGreatDoor.playNames
open Go.ChangeShapes Go.WideShapes Go.ChangeAt Go.RowKit
set_option linter.unusedVariables false
set_option maxRecDepth 100000 in
theorem lifted (os : Os) (started : os.Started) (H : Type) (enc : TypeId × Value → H) :
    ReturnsInHanded {} Tryz.checked os 3 .any (fun w args => (Rows.playNamesSpec.pre enc Tryz.prog Tryz.f3 [] false w args ∧ laidMetH Tryz.prog Rows.playNamesRow.laid w) ∧ sizedMet enc Tryz.prog Tryz.f3 (OpenSpec.ofChange Rows.playNamesSpec) false w args)
      (Rows.playNamesSpec.post enc Tryz.prog Tryz.f3 false true false false) := by
  refine Go.St.returns_shaped (C := Tryz.checked) (X := fun w _ => laidMetH Tryz.prog Rows.playNamesRow.laid w) (fun _ _ _ hh h => h.of_heap hh) own started noInit Tryz.func3
    (ChangeSpec.witness_shaped (enc := enc) (C := Tryz.checked) (os := os) (X := fun w _ => laidMetH Tryz.prog Rows.playNamesRow.laid w) false (World.laidAll Tryz.prog os Rows.playNamesRow.laid) #[.int .u8 0, .agg #[.int .u8 0, .int .i64 0, .int .i64 0, .slice none 0 0, .int .u64 0, .int .u64 0, .slice none 0 0, .bool false, .int .i64 0, .int .u64 0, .int .i64 0, .bool false]] 8 (World.laidAll_os _ _ _) (shaped os) (okB os) (preB os H enc) (sizedB os H enc) (met os)) ?_
  intro W base args ds gs before hval0 hW hL hsh
  have hval : ∀ (j : Nat) t v, Tryz.f3.params[j]? = some t → args[j]? = some v → Value.okWide Tryz.prog W .any base t v := hval0
  have hW' := hW
  obtain ⟨p, q, hA0, hV, rfl, _, _⟩ := hW
  have hA : DataW.TrodAll enc Tryz.prog W 0 (fun _ => true) true Tryz.f3.params.toList args.toList ds p := hA0
  rw [Tryz.params3] at hA hval
  obtain ⟨v0, vs0, d0, ds0, p0, q0, hargs, rfl, rfl, h0, r0⟩ := trodAll_cons hA
  obtain ⟨v1, vs1, d1, ds1, p1, q1, rfl, rfl, rfl, h1, r1⟩ := trodAll_cons r0
  obtain ⟨rfl, rfl, rfl⟩ := trodAll_nil r1
  obtain rfl : args = #[v0, v1] := by cases args; simp_all
  obtain ⟨rfl, rfl⟩ := trodVars_none hV
  obtain ⟨x, rfl, rfl, rfl, wx⟩ := open_int Tryz.underlying5 (hval 0 5 v0 rfl rfl) h0
  obtain ⟨cs, rfl, hsz⟩ := okWide_struct Tryz.underlying26 (hval 1 26 v1 rfl rfl)
  clear hA0 hval0
  simp only [List.append_nil] at hW'
  have hx : 0 ≤ x ∧ x ≤ 255 := by simpa [Lit.wf, IntKind.min, IntKind.max, IntKind.signed, IntKind.bits] using wx
  obtain ⟨n, rfl⟩ := Int.eq_ofNat_of_zero_le hx.1
  rw [MakeChecks.laidMetH_plain _ _ _ (by kernel_rfl)] at hL
  have hN := names_laid (Lib.laidMet.reads hL (.head _))
  have ce := cells1
  simp only [Bool.and_eq_true, beq_iff_eq] at ce
  obtain ⟨⟨⟨⟨⟨⟨c5, c3⟩, c22⟩, c23⟩, c24⟩, c4⟩, c26⟩ := ce
  have h1' := h1
  obtain ⟨fuel, hf⟩ := h1
  have hlt : ∀ y ∈ p1, y.block < W.heap.size := DataW.trod_lt fuel 26 _ _ hf
  obtain ⟨xs, m, _, _, _, hxl, hel⟩ := DataW.trod_struct Tryz.underlying26 hf
  have fld := fun (i : Nat) (fd : Field) h => (⟨_, (hel i fd h).trans (List.getElem?_eq_getElem (by rw [hxl]; exact (Array.getElem?_eq_some_iff.1 h).1))⟩ : ∃ x, _ = some x)
  obtain ⟨x0, q0'⟩ := fld 0 { name := "Do", type := 5, offset := 0, embedded := false, tag := "", pkgPath := "", byteOffset := 0 } rfl
  obtain ⟨x1, q1'⟩ := fld 1 { name := "H", type := 3, offset := 1, embedded := false, tag := "", pkgPath := "", byteOffset := 8 } rfl
  obtain ⟨x2, q2'⟩ := fld 2 { name := "I", type := 3, offset := 2, embedded := false, tag := "", pkgPath := "", byteOffset := 16 } rfl
  obtain ⟨x3, q3'⟩ := fld 3 { name := "Of", type := 22, offset := 3, embedded := false, tag := "", pkgPath := "", byteOffset := 24 } rfl
  obtain ⟨x4, q4'⟩ := fld 4 { name := "K", type := 23, offset := 4, embedded := false, tag := "", pkgPath := "", byteOffset := 48 } rfl
  obtain ⟨x5, q5'⟩ := fld 5 { name := "To", type := 23, offset := 5, embedded := false, tag := "", pkgPath := "", byteOffset := 56 } rfl
  obtain ⟨x6, q6'⟩ := fld 6 { name := "P", type := 24, offset := 6, embedded := false, tag := "", pkgPath := "", byteOffset := 64 } rfl
  obtain ⟨x7, q7'⟩ := fld 7 { name := "Map", type := 4, offset := 7, embedded := false, tag := "", pkgPath := "", byteOffset := 88 } rfl
  obtain ⟨x8, q8'⟩ := fld 8 { name := "Tag", type := 3, offset := 8, embedded := false, tag := "", pkgPath := "", byteOffset := 96 } rfl
  obtain ⟨x9, q9'⟩ := fld 9 { name := "Seed", type := 23, offset := 9, embedded := false, tag := "", pkgPath := "", byteOffset := 104 } rfl
  obtain ⟨x10, q10'⟩ := fld 10 { name := "Limit", type := 3, offset := 10, embedded := false, tag := "", pkgPath := "", byteOffset := 112 } rfl
  obtain ⟨x11, q11'⟩ := fld 11 { name := "Back", type := 4, offset := 11, embedded := false, tag := "", pkgPath := "", byteOffset := 120 } rfl
  obtain ⟨z, e0⟩ := Go.St.fld_int (o := 0) (ft := 5) Tryz.underlying5 c5 q0'
  obtain ⟨a2, e1⟩ := Go.St.fld_int (o := 1) (ft := 3) Tryz.underlying3 c3 q1'
  obtain ⟨a3, e2⟩ := Go.St.fld_int (o := 2) (ft := 3) Tryz.underlying3 c3 q2'
  obtain ⟨b1, l1, k1, is, e3, rI, nI, mI⟩ := Go.St.fld_ints (o := 3) (ft := 22) (E := Go.St.eI64) (fun _ => rfl) Tryz.underlying22 Tryz.underlying3 c3 c22 q3'
  obtain ⟨a4, e4⟩ := Go.St.fld_int (o := 4) (ft := 23) Tryz.underlying23 c23 q4'
  obtain ⟨a5, e5⟩ := Go.St.fld_int (o := 5) (ft := 23) Tryz.underlying23 c23 q5'
  obtain ⟨b2, l2, k2, bs, e6, rB, nB, mB⟩ := Go.St.fld_ints (o := 6) (ft := 24) (E := Go.St.eU8) (fun _ => rfl) Tryz.underlying24 Tryz.underlying5 c5 c24 q6'
  obtain ⟨a6, e7⟩ := Go.St.fld_bool (o := 7) (ft := 4) Tryz.underlying4 c4 q7'
  obtain ⟨a7, e8⟩ := Go.St.fld_int (o := 8) (ft := 3) Tryz.underlying3 c3 q8'
  obtain ⟨a8, e9⟩ := Go.St.fld_int (o := 9) (ft := 23) Tryz.underlying23 c23 q9'
  obtain ⟨a9, e10⟩ := Go.St.fld_int (o := 10) (ft := 3) Tryz.underlying3 c3 q10'
  obtain ⟨a10, e11⟩ := Go.St.fld_bool (o := 11) (ft := 4) Tryz.underlying4 c4 q11'
  have hl := Go.St.list12 (l := cs.toList) (by rw [Array.length_toList, hsz]; exact c26) e0 e1 e2 e3 e4 e5 e6 e7 e8 e9 e10 e11
  obtain ⟨cl⟩ := cs
  simp only at hl
  subst hl
  refine (Go.St.callsV_calls (Go.St.law26_PlayNames_walk (n := n) (z := z) (a2 := a2) (a3 := a3) (c1 := k1) (a4 := a4) (a5 := a5) (c2 := k2) (a6 := a6) (a7 := a7) (a8 := a8) (a9 := a9) (a10 := a10) hN rI nI rB nB mI mB (by omega))).mono fun e W' h => ?_
  obtain ⟨v, rfl, rfl, g1, g2⟩ := h
  refine ⟨_, rfl, _, _, _, [], _, [], hW', trodAll_mk1 (shut_bool Tryz.underlying4 _), trodAll_cons_mk (shut_int Tryz.underlying5 wx) (trodAll_cons_mk (WideElems.Trod_stays kq1 reads26 (of_decide_eq_true size26) h1' (fun y hy => Go.St.same_of g2 (hlt y hy)) (fun y hy => by simpa using hlt y hy)) trodAll_mk0), rfl, Go.St.kept_of g1 g2 _, fun h => by cases h⟩
theorem over : Rows.playNamesRow.holds Tryz.pinned (OpenSpec.ofChange Rows.playNamesSpec) :=
  OpenClaim.holds_of_wide 3 Tryz.f3 rfl rfl rfl rfl rfl rfl rfl ⟨rfl, rfl, rfl, rfl, rfl⟩ rfl rfl rfl rfl rfl kn2 Tryz.func3 closed2
    (of_decide_eq_true (by kernel_rfl)) (by unfold Func.isWrapper; first | (rw [if_pos (by decide +kernel)]; kernel_rfl) | (rw [if_neg (by decide +kernel)]; exact ⟨rfl, rfl⟩))
    (fun os started H enc _ => lifted os started H enc)
end Go.Proofs.YtcipamclhpcaaaaGreatDoor.playNames

/- PlayNames: the tied card. -/
namespace Go.Proofs.YtcipamclhpcaaaaGreatDoor.playNames
open Go.ChangeShapes Go.WideShapes Go.ChangeAt Go.RowKit
theorem proved : Rows.PlayNamesCardSaid :=
  Claim7.holds_tied_plain_at .later [] [.data] true (true, "6973daad96ceec1caa9cc9050160ec60db34f499c694825fcc4f5e5f5aca9dc2") true
    over (fun _ h => by cases h) byText (fun _ h => by cases h) own.playNames_row_tie rfl ⟨rfl, rfl⟩ mainIs rfl
    (fun f fn hf hfn => by
      obtain rfl : f = 3 := Option.some.inj (kn2.symm.trans hf) |>.symm
      obtain rfl : fn = Tryz.f3 := (Option.some.inj ((show Tryz.pinned.checked.prog.funcs[3]? = some Tryz.f3 from Tryz.func3).symm.trans hfn)).symm
      exact ⟨looks, fun j t ht => by
        rw [Tryz.params3] at ht
        have hm : t ∈ [5, 26] := by simpa using Array.mem_of_getElem? ht
        have hall := noStand
        exact (show Tryz.pinned.checked.prog.wantsStandIn t = false by simpa using List.all_eq_true.1 hall t hm)⟩)
    goes
end Go.Proofs.YtcipamclhpcaaaaGreatDoor.playNames

