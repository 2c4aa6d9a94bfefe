/- Contracts: steps are counted. -/
import Derived.Test.YtkapfochgkdhaaaGreatF0
import Derived.Test.YtkapfochgkdhaaaGreatStW
import Derived.Test.YtkapfochgkdhaaaGreatCtP0
namespace Go.St
open Go Go.Proofs
attribute [local irreducible] stP alP drP stCs lI64 lU64 lB lP lL lR

def Mtr (m : Nat) (_ : Unit) : HP := ex fun (a : Int) => ex fun (b : Int) => ex fun (c : Int) => ex fun (d : Int) => ex fun (e : Int) =>
  blk m [.int .i64 a, .int .i64 b, .int .i64 c, .int .i64 d, .int .i64 e]
theorem Mtr.mk {w : World} {m : Nat} {a b c d e : Int} {L : List HP} (h : Sat w (blk m [.int .i64 a, .int .i64 b, .int .i64 c, .int .i64 d, .int .i64 e] :: L)) : Sat w (Mtr m () :: L) :=
  Sat.ex.2 ⟨a, Sat.ex.2 ⟨b, Sat.ex.2 ⟨c, Sat.ex.2 ⟨d, Sat.ex.2 ⟨e, h⟩⟩⟩⟩⟩
theorem Mtr.un {w : World} {m : Nat} {L : List HP} (h : Sat w (Mtr m () :: L)) : ∃ a b c d e, Sat w (blk m [.int .i64 a, .int .i64 b, .int .i64 c, .int .i64 d, .int .i64 e] :: L) := by
  obtain ⟨a, h⟩ := Sat.ex.1 h; obtain ⟨b, h⟩ := Sat.ex.1 h; obtain ⟨c, h⟩ := Sat.ex.1 h; obtain ⟨d, h⟩ := Sat.ex.1 h; obtain ⟨e, h⟩ := Sat.ex.1 h
  exact ⟨a, b, c, d, e, h⟩

theorem count_New_spec {w : World} {L : List HP} {K : Option Addr → World → Prop} (h : Sat w L) (k : ∀ m w', Sat w' (Mtr m () :: L) → K (some ⟨m, 0, none⟩) w') : count_New.C w K := by
  apply count_New.ok
  refine alP.of h fun r w h => ?_
  exact k _ _ (Mtr.mk h)
section
variable {w : World} {L : List HP} {m : Nat} {F : HP → List HP} [i : Foc Mtr m () L F] {K : World → Prop}
include i
theorem count_Start_spec (h : Sat w L) (k : ∀ w', Sat w' L → K w') : count_Meter_Start.C (some ⟨m, 0, none⟩) w K := by
  apply count_Meter_Start.ok
  obtain ⟨M, h, hb, _⟩ := i.back h
  obtain ⟨a, b, c, d, e, h⟩ := Mtr.un h
  refine stP.of h (by simp) fun w h => ?_
  refine lI64.of h (by rfl) ?_
  refine stP.of h (by simp) fun w h => ?_
  exact k _ (hb (Mtr.mk h))
theorem count_step_spec (h : Sat w L) (k : ∀ w', Sat w' L → K w') : count_Meter_step.C (some ⟨m, 0, none⟩) w K := by
  apply count_Meter_step.ok
  obtain ⟨M, h, hb, _⟩ := i.back h
  obtain ⟨a, b, c, d, e, h⟩ := Mtr.un h
  repeat' first
    | refine lI64.of h (by rfl) ?_
    | (refine stP.of h (by simp) ?_; intro w h)
    | (refine drP.of h ?_; intro w h)
  exact k _ (hb (Mtr.mk h))
theorem count_Read_spec (h : Sat w L) (k : ∀ w', Sat w' L → K w') : count_Meter_Read.C (some ⟨m, 0, none⟩) w K := by
  apply count_Meter_Read.ok
  obtain ⟨M, h, hb, _⟩ := i.back h
  obtain ⟨a, b, c, d, e, h⟩ := Mtr.un h
  refine lI64.of h (by rfl) ?_
  refine stP.of h (by simp) fun w h => ?_
  exact count_step_spec (Mtr.mk h) fun w h => k _ (hb h)
theorem count_Call_spec (h : Sat w L) (k : ∀ w', Sat w' L → K w') : count_Meter_Call.C (some ⟨m, 0, none⟩) w K := by
  apply count_Meter_Call.ok
  obtain ⟨M, h, hb, _⟩ := i.back h
  obtain ⟨a, b, c, d, e, h⟩ := Mtr.un h
  refine lI64.of h (by rfl) ?_
  refine stP.of h (by simp) fun w h => ?_
  exact count_step_spec (Mtr.mk h) fun w h => k _ (hb h)
end
end Go.St
