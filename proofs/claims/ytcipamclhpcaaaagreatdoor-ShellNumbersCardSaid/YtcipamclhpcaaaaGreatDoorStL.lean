import Derived.Test.YtcipamclhpcaaaaGreatDoorStK
/- St core, part L: all of it is monotone. -/
namespace Go.St
open Go
theorem cond_imp {b : Bool} {A A' B B' : Prop} (h1 : A → A') (h2 : B → B') (h : cond b A B) : cond b A' B' := by
  cases b
  · exact h2 h
  · exact h1 h
theorem dvP.mono {b : Int} {K K' : Prop} (h : dvP b K) (hk : K → K') : dvP b K' := by
  revert h; unfold dvP
  repeat' first | exact id | exact hk | split
theorem shP.mono {b : Int} {K K' : Nat → Prop} (h : shP b K) (hk : ∀ n, K n → K' n) : shP b K' := by
  revert h; unfold shP
  repeat' first | exact id | exact hk _ | split
theorem nn.mono {p : Option Addr} {K K' : Nat → Nat → Prop} (h : nn p K) (hk : ∀ b o, K b o → K' b o) : nn p K' := by
  revert h; unfold nn
  repeat' first | exact id | exact hk _ _ | split
theorem nnVal.mono {v : Value} {K K' : Value → Prop} (h : nnVal v K) (hk : ∀ v, K v → K' v) : nnVal v K' := by
  revert h; unfold nnVal
  repeat' first | exact id | exact hk _ | exact fun h => nn.mono h fun _ _ => hk _ | split
theorem atP.mono {p : Value} {K K' : Nat → Nat → Prop} (h : atP p K) (hk : ∀ b o, K b o → K' b o) : atP p K' := by
  revert h; unfold atP
  repeat' first | exact id | exact fun h => nn.mono h hk | split
theorem sizeP.mono {P : Program} {t : TypeId} {K K' : Nat → Prop} (h : sizeP P t K) (hk : ∀ n, K n → K' n) : sizeP P t K' := by
  revert h; unfold sizeP
  repeat' first | exact id | exact hk _ | split
theorem intBin.mono {op : BinOp} {k : IntKind} {a b : Int} {K K' : Value → Prop} (h : intBin op k a b K) (hk : ∀ v, K v → K' v) : intBin op k a b K' := by
  revert h; unfold intBin
  repeat' first | exact id | exact hk _ | exact fun h => dvP.mono h (hk _) | split
theorem strBin.mono {op : BinOp} {a b : ByteArray} {K K' : Value → Prop} (h : strBin op a b K) (hk : ∀ v, K v → K' v) : strBin op a b K' := by
  revert h; unfold strBin
  repeat' first | exact id | exact hk _ | exact fun h => ⟨h.1, hk _ h.2⟩ | split
theorem eqn.mono {op : BinOp} {r : Bool} {K K' : Value → Prop} (h : eqn op r K) (hk : ∀ v, K v → K' v) : eqn op r K' := by
  revert h; unfold eqn
  repeat' first | exact id | exact hk _ | split
theorem nilIf.mono {v : Value} {K K' : Bool → Prop} (h : nilIf v K) (hk : ∀ v, K v → K' v) : nilIf v K' := by
  revert h; unfold nilIf
  repeat' first | exact id | exact hk _ | split
theorem nilFn.mono {v : Value} {K K' : Bool → Prop} (h : nilFn v K) (hk : ∀ v, K v → K' v) : nilFn v K' := by
  revert h; unfold nilFn
  repeat' first | exact id | exact hk _ | split
theorem binP.mono {P : Program} {op : BinOp} {t : TypeId} {y : Operand} {a b : Value} {K K' : Value → Prop} (h : binP P op t y a b K) (hk : ∀ v, K v → K' v) : binP P op t y a b K' := by
  revert h; unfold binP
  repeat' first
    | exact id
    | exact fun h => eqn.mono h hk
    | exact fun h => nilIf.mono h fun _ h => eqn.mono h hk
    | exact fun h => nilFn.mono h fun _ h => eqn.mono h hk
    | exact fun h => shP.mono h fun _ => hk _
    | exact fun h => strBin.mono h hk
    | exact fun h => cond_imp (fun h => intBin.mono h hk) id h
    | split

section
variable {P : Program} {K K' : Value → Prop}
theorem idxP.mono {t : TypeId} {x i : Value} (h : idxP P t x i K) (hk : ∀ v, K v → K' v) : idxP P t x i K' := by
  revert h; unfold idxP
  repeat' first
    | exact id
    | exact fun h => sizeP.mono h fun _ h => nn.mono h fun _ _ h => ⟨h.1, h.2.1, hk _ h.2.2⟩
    | exact fun h => sizeP.mono h fun _ h => atP.mono h fun _ _ h => ⟨h.1, h.2.1, hk _ h.2.2⟩
    | split
theorem indP.mono {t : TypeId} {x i : Value} (h : indP P t x i K) (hk : ∀ v, K v → K' v) : indP P t x i K' := by
  revert h; unfold indP
  repeat' first
    | exact id
    | exact fun h => ⟨h.1, h.2.1, hk _ h.2.2⟩
    | (refine fun h => ⟨h.1, h.2.1, sizeP.mono h.2.2 fun sz => ?_⟩; split <;> first | exact hk _ | exact id)
    | split
theorem bdP.mono {x : Option Value} {d y : Nat} {F G : Nat → Prop} (h : bdP x d y F) (hk : ∀ n, F n → G n) : bdP x d y G := by
  revert h; unfold bdP
  repeat' first | exact id | exact hk _ | exact fun h => ⟨h.1, h.2.1, hk _ h.2.2⟩ | split
theorem slcP.mono {t : TypeId} {x : Value} {lo hi mx : Option Value} (h : slcP P t x lo hi mx K) (hk : ∀ v, K v → K' v) : slcP P t x lo hi mx K' := by
  revert h; unfold slcP
  repeat' first
    | exact id
    | (refine fun h => sizeP.mono h fun sz => ?_
       repeat' first
         | exact id
         | exact fun h => bdP.mono h fun _ h => bdP.mono h fun _ => hk _
         | exact fun h => bdP.mono h fun _ h => bdP.mono h fun _ h => bdP.mono h fun _ => hk _
         | split)
    | exact fun h => bdP.mono h fun _ h => bdP.mono h fun _ => hk _
    | split
theorem fldP.mono {t : TypeId} {x : Value} {f : Nat} (h : fldP P t x f K) (hk : ∀ v, K v → K' v) : fldP P t x f K' := by
  revert h; unfold fldP
  repeat' first | exact id | exact hk _ | split
theorem extP.mono {x : Value} {i : Nat} (h : extP x i K) (hk : ∀ v, K v → K' v) : extP x i K' := by
  revert h; unfold extP
  repeat' first | exact id | exact hk _ | split
theorem unP.mono {op : UnOp} {x : Value} (h : unP op x K) (hk : ∀ v, K v → K' v) : unP op x K' := by
  revert h; unfold unP
  repeat' first | exact id | exact hk _ | split
theorem cvP.mono {s d : TypeId} {x : Value} (h : cvP P s d x K) (hk : ∀ v, K v → K' v) : cvP P s d x K' := by
  revert h; unfold cvP
  repeat' first | exact id | exact hk _ | split
theorem mkiP.mono {t : TypeId} {x : Value} (h : mkiP P t x K) (hk : ∀ v, K v → K' v) : mkiP P t x K' := by
  revert h; unfold mkiP
  repeat' first | exact id | exact hk _ | split
theorem lenP.mono {t : TypeId} {x : Value} (h : lenP P t x K) (hk : ∀ v, K v → K' v) : lenP P t x K' := by
  revert h; unfold lenP
  repeat' first | exact id | exact hk _ | split
theorem capP.mono {t : TypeId} {x : Value} (h : capP P t x K) (hk : ∀ v, K v → K' v) : capP P t x K' := by
  revert h; unfold capP
  repeat' first | exact id | exact hk _ | split
theorem mmP.mono {m : Bool} {xs : List Value} (h : mmP m xs K) (hk : ∀ v, K v → K' v) : mmP m xs K' := by
  revert h; unfold mmP
  repeat' first | exact id | exact hk _ | split
theorem stOne.mono {v : Value} {A B : Prop} (h : stOne v A) (hk : A → B) : stOne v B := by
  revert h; unfold stOne
  repeat' first | exact id | exact hk | split
theorem cellsP.mono {t : TypeId} {v : Value} {F G : List Value → Prop} (h : cellsP P t v F) (hk : ∀ l, F l → G l) : cellsP P t v G := by
  revert h; unfold cellsP
  repeat' first | exact id | exact hk _ | exact fun h => stOne.mono h (hk _) | split
theorem fillT.mono {place : Nat → Option (Nat × TypeId)} : ∀ {ps : List (Nat × Value)} {cs : List Value} {F G : List Value → Prop}, fillT P place ps cs F → (∀ l, F l → G l) → fillT P place ps cs G
  | [], cs, F, G, h, hk => hk _ h
  | (i, v) :: rest, cs, F, G, h, hk => by
    revert h; unfold fillT
    repeat' first
      | exact id
      | (refine fun h => cellsP.mono h fun l => ?_
         split <;> first | exact id | exact fun h => fillT.mono h hk)
      | split
theorem bldT.mono {t : TypeId} {ps : List (Nat × Value)} (h : bldT P t ps K) (hk : ∀ v, K v → K' v) : bldT P t ps K' := by
  revert h; unfold bldT
  repeat' first
    | exact id
    | exact fun h => fillT.mono h fun _ => hk _
    | exact fun h => sizeP.mono h fun _ h => fillT.mono h fun _ => hk _
    | split
theorem ldT.mono {t : TypeId} {w : World} {b o : Nat} {F G : KV} (h : ldT P t w b o F) (hk : ∀ v C, F v C → G v C) : ldT P t w b o G := by
  revert h; unfold ldT
  repeat' first
    | exact id
    | exact fun h => exTy.mono h fun _ h => ⟨h.1, hk _ _ h.2⟩
    | exact fun h => exTys.mono h fun _ h => ⟨h.1, hk _ _ h.2⟩
    | split
theorem rdOp.mono {o : Op} {fr : Fr} {w : World} {F G : KV} (h : rdOp P o fr w F) (hk : ∀ v C, F v C → G v C) : rdOp P o fr w G := by
  have hp : ∀ v, pv F v → pv G v := fun v => hk v none
  cases o <;> simp only [rdOp] at h ⊢ <;> first
    | exact h.elim
    | exact hk _ _ h
    | exact nnVal.mono h hp
    | exact binP.mono h hp
    | exact unP.mono h hp
    | exact cvP.mono h hp
    | exact mkiP.mono h hp
    | exact slcP.mono h hp
    | exact fldP.mono h hp
    | exact idxP.mono h hp
    | exact indP.mono h hp
    | exact extP.mono h hp
    | exact bldT.mono h hp
    | exact atP.mono h fun _ _ h => ldT.mono h hk
    | (revert h; split <;> first | exact id | exact fun h => cond_imp (hk _ _) (hk _ _) h)
    | (refine atP.mono h fun b o => ?_; split <;> first | exact id | exact hk _ _)
    | (revert h
       repeat' first
         | exact id
         | exact fun h => lenP.mono h hp
         | exact fun h => capP.mono h hp
         | exact fun h => mmP.mono h hp
         | split)
end
section
variable {P : Program} {K K' : Value → World → Prop}
theorem stCs.mono {b : Nat} : ∀ {vs : List Value} {o : Nat} {w : World} {F G : World → Prop}, stCs b o vs w F → (∀ w, F w → G w) → stCs b o vs w G
  | [], _, _, _, _, h, hk => hk _ h
  | _ :: _, _, _, _, _, h, hk => stOne.mono h fun h => ⟨h.1, stCs.mono h.2 hk⟩
theorem stT.mono {t : TypeId} {w : World} {b o : Nat} {v : Value} {F G : World → Prop} (h : stT P t w b o v F) (hk : ∀ w, F w → G w) : stT P t w b o v G := by
  revert h; unfold stT
  repeat' first | exact id | exact fun h => stOne.mono h fun h => ⟨h.1, hk _ h.2⟩ | exact fun h => stCs.mono h hk | split
theorem bslT.mono {t : TypeId} {n : Nat} {ps : List (Nat × Value)} {w : World} (h : bslT P t n ps w K) (hk : ∀ v w, K v w → K' v w) : bslT P t n ps w K' := by
  revert h; unfold bslT
  repeat' first | exact id | exact fun h => fillT.mono h fun _ => hk _ _ | split
theorem mkS.mono {t : TypeId} {l c : Value} {w : World} (h : mkS P t l c w K) (hk : ∀ v w, K v w → K' v w) : mkS P t l c w K' := by
  revert h; unfold mkS
  repeat' first | exact id | exact fun h => ⟨h.1, hk _ _ h.2⟩ | split
theorem efOp.mono {o : Op} {ty : TypeId} {fr : Fr} {w : World} (h : efOp P o ty fr w K) (hk : ∀ v w, K v w → K' v w) : efOp P o ty fr w K' := by
  have ho : ∀ v w, outK P ty K v w → outK P ty K' v w := fun v w h => outK.mono h hk
  cases o <;> simp only [efOp] at h ⊢ <;> first
    | exact h.elim
    | exact atP.mono h fun _ _ h => stT.mono h fun _ => hk _ _
    | exact cellsP.mono h fun _ => hk _ _
    | exact bslT.mono h hk
    | exact mkS.mono h hk
    | exact runV.mono h ho
    | exact runV.mono h fun _ _ h => tasK.mono h hk
    | (revert h
       repeat' first
         | exact id
         | exact hk _ _
         | exact fun h => CallsV.mono h ho
         | exact fun h => upV.mono h ho
         | exact fun h => runV.mono h ho
         | exact fun h => runV.mono h hk
         | split)
theorem shOp.mono {o : Oper} {fr : Fr} {w : World} (h : shOp P o fr w K) (hk : ∀ v w, K v w → K' v w) : shOp P o fr w K' := by
  revert h; unfold shOp
  split
  · exact fun h => rdOp.mono h fun v _ => hk v w
  · exact fun h => efOp.mono h hk
end
theorem gdP.mono {ops : Array Oper} {o : Oper} {fr : Fr} {F G : Fr → Bool → Prop} (h : gdP ops o fr F) (hk : ∀ fr b, F fr b → G fr b) : gdP ops o fr G := by
  revert h; unfold gdP
  repeat' first | exact id | exact hk _ _ | exact fun h => cond_imp (hk _ _) (hk _ _) h | split
theorem shL.mono {P : Program} {ops : Array Oper} : ∀ {l : List Oper} {fr : Fr} {w : World} {F G : Fr → World → Prop}, shL P ops l fr w F → (∀ fr w, F fr w → G fr w) → shL P ops l fr w G
  | [], _, _, _, _, h, hk => hk _ _ h
  | o :: rest, fr, w, F, G, h, hk => by
    refine gdP.mono h fun fr b => ?_
    cases b
    · exact fun h => shL.mono h hk
    · exact fun h => shOp.mono h fun v w' h => shL.mono h hk
theorem allL.mono {F G : Nat → Prop} : ∀ {l : List Nat}, allL l F → (∀ i, F i → G i) → allL l G
  | [], _, _ => trivial
  | [i], h, hk => hk i h
  | i :: j :: rest, h, hk => ⟨hk i h.1, allL.mono (l := j :: rest) h.2 hk⟩
theorem shD.mono {P : Program} {ops : Array Oper} : ∀ {fuel : Nat} {listed : Array Bool} {H : Hs} {fr : Fr} {w : World} {F G : Fr → World → Prop}, shD P ops fuel listed H fr w F → (∀ fr w, F fr w → G fr w) → shD P ops fuel listed H fr w G
  | 0, listed, H, fr, w, F, G, h, hk => by
    revert h; unfold shD
    split
    · exact hk _ _
    · exact id
  | fuel + 1, listed, H, fr, w, F, G, h, hk => by
    revert h; unfold shD
    split
    · exact hk _ _
    · split
      · split
        · exact id
        · refine fun h => gdP.mono h fun fr b => ?_
          cases b
          · exact fun h => shD.mono h hk
          · exact fun h => rdOp.mono h fun v C h => shD.mono h hk
      · refine fun h => allL.mono h fun j => ?_
        split
        · exact id
        · refine fun h => gdP.mono h fun fr b => ?_
          cases b
          · exact fun h => shD.mono h hk
          · exact fun h => shOp.mono h fun v w' h => heldP.mono h fun H' _ _ h => shD.mono h hk
end Go.St

