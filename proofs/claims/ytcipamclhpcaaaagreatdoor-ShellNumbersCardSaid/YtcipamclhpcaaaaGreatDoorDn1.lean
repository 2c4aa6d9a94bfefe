import Derived.Test.YtcipamclhpcaaaaGreatDoorDn0
set_option linter.unusedVariables false
set_option linter.unusedSimpArgs false
/- Plain: numbers, as they are told. -/
namespace Go.St
open Go Go.Lib
def isD (c : UInt8) : Prop := 48 ≤ c.toNat ∧ c.toNat ≤ 57
instance (c : UInt8) : Decidable (isD c) := inferInstanceAs (Decidable (_ ∧ _))
/-- what digits spell -/
def valD : Nat → List UInt8 → Nat
  | a, [] => a
  | a, c :: r => valD (a * 10 + (c.toNat - 48)) r
theorem valD_app : ∀ (l : List UInt8) (a : Nat) (m : List UInt8), valD a (l ++ m) = valD (valD a l) m
  | [], _, _ => rfl
  | _ :: l, _, m => valD_app l _ m
theorem valD_le : ∀ (l : List UInt8) (a : Nat), a ≤ valD a l
  | [], _ => Nat.le_refl _
  | _ :: l, a => Nat.le_trans (by omega) (valD_le l _)
theorem dig {n : Nat} (h : n < 10) : (UInt8.ofNat (48 + n)).toNat = 48 + n := by
  rw [UInt8.toNat_ofNat']; omega
theorem dec_one {u : Nat} (h : u < 10) : decDigits u = [UInt8.ofNat (48 + u)] := by rw [decDigits, dif_pos h]
theorem dec_more {u : Nat} (h : ¬ u < 10) : decDigits u = decDigits (u / 10) ++ [UInt8.ofNat (48 + u % 10)] := by rw [decDigits, dif_neg h]
theorem dec_ne (u : Nat) : decDigits u ≠ [] := by
  by_cases h : u < 10
  · rw [dec_one h]; simp
  · rw [dec_more h]; simp
theorem dec_all (u : Nat) : ∀ c ∈ decDigits u, isD c := by
  induction u using Nat.strongRecOn with
  | _ u ih =>
    by_cases h : u < 10
    · rw [dec_one h]
      intro c hc
      rw [List.mem_singleton] at hc
      subst hc
      unfold isD; rw [dig h]; omega
    · rw [dec_more h]
      intro c hc
      rcases List.mem_append.1 hc with hc | hc
      · exact ih _ (by omega) c hc
      · rw [List.mem_singleton] at hc
        subst hc
        unfold isD; rw [dig (by omega)]; omega
theorem val_dec (u : Nat) : valD 0 (decDigits u) = u := by
  induction u using Nat.strongRecOn with
  | _ u ih =>
    by_cases h : u < 10
    · rw [dec_one h]; show 0 * 10 + ((UInt8.ofNat (48 + u)).toNat - 48) = u; rw [dig h]; omega
    · rw [dec_more h, valD_app, ih _ (by omega)]
      show u / 10 * 10 + ((UInt8.ofNat (48 + u % 10)).toNat - 48) = u
      rw [dig (by omega)]; omega
theorem dec_len : ∀ (n u : Nat), u < 10 ^ (n + 1) → (decDigits u).length ≤ n + 1
  | 0, u, h => by rw [dec_one (by simpa using h)]; simp
  | n + 1, u, h => by
    by_cases h1 : u < 10
    · rw [dec_one h1]; simp
    · rw [dec_more h1, List.length_append]
      have := dec_len n (u / 10) (by rw [Nat.pow_succ] at h; omega)
      simp; omega
theorem dec_len20 {u : Nat} (h : u < 18446744073709551616) : (decDigits u).length ≤ 20 := dec_len 19 u (Nat.lt_of_lt_of_le h (by decide))
theorem dec_lead (u : Nat) : ∀ t, decDigits u = 48 :: t → t = [] := by
  induction u using Nat.strongRecOn with
  | _ u ih =>
    intro t e
    by_cases h : u < 10
    · rw [dec_one h] at e; exact (List.cons.inj e).2.symm
    · rw [dec_more h] at e
      cases e1 : decDigits (u / 10) with
      | nil => exact absurd e1 (dec_ne _)
      | cons c r =>
        rw [e1] at e
        obtain ⟨rfl, -⟩ := List.cons.inj e
        have h2 := ih _ (by omega) r e1
        subst h2
        have := val_dec (u / 10)
        rw [e1] at this
        have h3 : valD 0 [48] = 0 := by decide
        omega
theorem parseM_ok {M : Nat} (hM : M = 18446744073709551615) : ∀ (l : List UInt8) (a : Nat), (∀ c ∈ l, isD c) → valD a l ≤ M → parseUintM M a l = .ok (valD a l)
  | [], _, _, _ => rfl
  | c :: l, a, h, hv => by
    have hc := h c (by simp)
    have h1 := valD_le l (a * 10 + (c.toNat - 48))
    have h2 : valD a (c :: l) = valD (a * 10 + (c.toNat - 48)) l := rfl
    rw [h2] at hv ⊢
    unfold parseUintM
    rw [if_pos (show 48 ≤ c.toNat ∧ c.toNat ≤ 57 from hc), if_neg (by omega), if_neg (by omega)]
    exact parseM_ok hM l _ (fun c hc => h c (by simp [hc])) hv
theorem parseM_inv {M : Nat} : ∀ (l : List UInt8) (a u : Nat), a ≤ M → parseUintM M a l = .ok u → u ≤ M ∧ (∀ c ∈ l, isD c) ∧ u = valD a l
  | [], a, u, ha, h => by cases h; exact ⟨ha, by simp, rfl⟩
  | c :: l, a, u, ha, h => by
    unfold parseUintM at h
    split at h
    · rename_i hc
      split at h
      · cases h
      split at h
      · cases h
      · rename_i h1 h2
        obtain ⟨h3, h4, h5⟩ := parseM_inv l _ u (by omega) h
        refine ⟨h3, ?_, h5⟩
        intro d hd
        rcases List.mem_cons.1 hd with rfl | hd
        · exact hc
        · exact h4 d hd
    · cases h
theorem parse_inv {y : List UInt8} {u : Nat} (h : parseUintB 64 y = .ok u) : u < 18446744073709551616 ∧ (∀ c ∈ y, isD c) ∧ u = valD 0 y := by
  unfold parseUintB at h
  split at h
  · cases h
  · obtain ⟨h1, h2, h3⟩ := parseM_inv y 0 u (by omega) h
    exact ⟨by omega, h2, h3⟩
theorem parse_lt {y : List UInt8} : ∀ u, parseUintB 64 y = .ok u → u < 18446744073709551616 := fun _ h => (parse_inv h).1
theorem Dec.dec {u : Nat} (h : u < 18446744073709551616) : Dec (decDigits u) u := by
  refine ⟨?_, rfl, h⟩
  unfold parseUintB
  rw [if_neg (dec_ne u)]
  have e64 : (2 ^ 64 - 1 : Nat) = 18446744073709551615 := by decide
  rw [e64]
  have := parseM_ok (M := 18446744073709551615) rfl (decDigits u) 0 (dec_all u) (by rw [val_dec]; omega)
  rw [this, val_dec]
theorem Dec.no_lead {t : List UInt8} (h : t ≠ []) (u : Nat) : ¬ Dec (48 :: t) u := by
  intro d
  exact h (dec_lead u t d.d)
theorem Dec.no_odd {y : List UInt8} {c : UInt8} (hc : c ∈ y) (h : ¬ isD c) (u : Nat) : ¬ Dec y u := by
  intro d
  exact h (dec_all u c (by rw [d.d]; exact hc))
def n20 : List UInt8 := [48, 48, 48, 48, 48, 48, 48, 48, 48, 48, 48, 48, 48, 48, 48, 48, 48, 48, 48, 48]
theorem val_n20 (a : Nat) : valD a n20 = a * 100000000000000000000 := by
  have z : ∀ (a : Nat) (r : List UInt8), valD a (48 :: r) = valD (a * 10) r := fun _ _ => rfl
  unfold n20
  iterate 20 rw [z]
  unfold valD
  simp only [Nat.mul_assoc]
theorem Dec.no_big (k u : Nat) : ¬ Dec (decDigits k ++ n20) u := by
  intro d
  have h := (parse_inv d.p).2.2
  rw [valD_app, val_dec, val_n20] at h
  have hl := d.lt
  have hk : k = 0 := by omega
  subst hk
  have e : decDigits 0 = [48] := by decide +kernel
  rw [e] at d
  exact Dec.no_lead (by decide) u d
end Go.St

/- The shell's laws: numbers. -/
namespace Go.St
open Go Go.Proofs Go.Lib
attribute [local irreducible] stP alP drP stCs lI64 lU64 lU8 lU16 lB lP lL lR lS AppV ClrV InvV DynV
theorem inv_roar_Insert {p : Option Addr} {n : Int} {w : World} {K : Value → World → Prop} (h : CallsV prog 514 #[.pointer p, .int .u64 n] w K) : InvV prog (.iface 269 (.pointer p)) "Insert" #[.int .u64 n] w K := by
  unfold InvV
  have e : (callMethod (.iface 269 (.pointer p)) "Insert" #[.int .u64 n]).run prog w = .ok (.enter 514 #[.pointer p, .int .u64 n]) w := by kernel_rfl
  rw [e]
  exact h
theorem inv_roar_Len {p : Option Addr} {w : World} {K : Value → World → Prop} (h : CallsV prog 515 #[.pointer p] w K) : InvV prog (.iface 269 (.pointer p)) "Len" #[] w K := by
  unfold InvV
  have e : (callMethod (.iface 269 (.pointer p)) "Len" #[]).run prog w = .ok (.enter 515 #[.pointer p]) w := by kernel_rfl
  rw [e]
  exact h
theorem inv_roar_Next {p : Option Addr} {n : Int} {w : World} {K : Value → World → Prop} (h : CallsV prog 519 #[.pointer p, .int .u64 n] w K) : InvV prog (.iface 269 (.pointer p)) "Next" #[.int .u64 n] w K := by
  unfold InvV
  have e : (callMethod (.iface 269 (.pointer p)) "Next" #[.int .u64 n]).run prog w = .ok (.enter 519 #[.pointer p, .int .u64 n]) w := by kernel_rfl
  rw [e]
  exact h
def RoS (lim : Nat) (v : Value) : HP := ex fun (t : Nat) => sp (pur (v = .iface 269 (.pointer (some ⟨t, 0, none⟩)))) (RoarE t lim)
def RoO (lim k : Nat) (v : Value) : HP := ex fun (t : Nat) => sp (pur (v = .iface 269 (.pointer (some ⟨t, 0, none⟩)))) (RoarO t lim k)
theorem makes_roar {seed : Int} {lim : Nat} (h : lim ≤ 1048576) : Makes 5 seed (lim : Int) (RoS lim) := by
  intro w N K hs q
  apply face_New.ok
  refine cond_f rfl (cond_f rfl (cond_f rfl (cond_f rfl (cond_t rfl ?_))))
  refine roar_New_spec h hs fun t w hs => ?_
  apply face_made_roar_Roar.ok
  unfold face_made_roar_Roar.F face_New.T1
  refine cond_f rfl ?_
  exact q _ _ _ (Sat.ex.2 ⟨t, Sat.sep.2 (Sat.pur.2 ⟨rfl, hs⟩)⟩)
theorem does_roar_Insert {lim k : Nat} (h1 : 2 ≤ lim) (h2 : lim ≤ 1048576) : Does "Insert" #[.int .u64 k] (RoS lim) (RoO lim k) (.int .i64 0) := by
  intro w N t u K hs q
  obtain ⟨a, hs1⟩ := Sat.ex.1 hs
  obtain ⟨e, hs2⟩ := Sat.pur.1 (Sat.sep.1 hs1)
  clear hs hs1
  cases e
  refine inv_roar_Insert ?_
  refine CallsV.mono (roar_Insert_first (K := fun n w => n = 0 ∧ Sat w (RoarO a lim k :: N)) h1 h2 hs2 fun w h => ⟨rfl, h⟩) ?_
  rintro v w ⟨n, rfl, rfl, h⟩
  exact q w (Sat.ex.2 ⟨a, Sat.sep.2 (Sat.pur.2 ⟨rfl, h⟩)⟩)
theorem does_roar_Len {lim k : Nat} : Does "Len" #[] (RoO lim k) (RoO lim k) (.int .i64 1) := by
  intro w N t u K hs q
  obtain ⟨a, hs1⟩ := Sat.ex.1 hs
  obtain ⟨e, hs2⟩ := Sat.pur.1 (Sat.sep.1 hs1)
  clear hs hs1
  cases e
  refine inv_roar_Len ?_
  refine CallsV.mono (roar_Len_one (K := fun n w => n = 1 ∧ Sat w (RoarO a lim k :: N)) hs2 fun w h => ⟨rfl, h⟩) ?_
  rintro v w ⟨n, rfl, rfl, h⟩
  exact q w (Sat.ex.2 ⟨a, Sat.sep.2 (Sat.pur.2 ⟨rfl, h⟩)⟩)
theorem does_roar_Next {lim k : Nat} (hk : k < 18446744073709551616) : Does "Next" #[.int .u64 0] (RoO lim k) (RoO lim k) (.tuple #[.int .u64 k, .bool true]) := by
  intro w N t u K hs z
  obtain ⟨a, hs1⟩ := Sat.ex.1 hs
  obtain ⟨e, hs2⟩ := Sat.pur.1 (Sat.sep.1 hs1)
  clear hs hs1
  cases e
  refine inv_roar_Next ?_
  refine CallsV.mono (roar_Next_zero (K := fun x b w => x = (k : Int) ∧ b = true ∧ Sat w (RoarO a lim k :: N)) hk hs2 fun w h => ⟨rfl, rfl, h⟩) ?_
  rintro v w ⟨x, b, rfl, rfl, rfl, h⟩
  exact z w (Sat.ex.2 ⟨a, Sat.sep.2 (Sat.pur.2 ⟨rfl, h⟩)⟩)
/-! ### the script of numbers -/
def nuX (k s : Nat) : Nat → HP
  | 0 => blk s nil8
  | 1 => One s 5 0 1000 (RoS 1000)
  | _ => One s 5 0 1000 (RoO 1000 k)
def nuD : Nat → Int
  | 0 => 0
  | 1 => 1
  | 2 => 2
  | 7 => 4
  | _ => 3
def nuS (k p s i : Nat) : HP := sp (blk p (Pc s (nuD i) 0)) (nuX k s i)
def nu0 (t : Nat) : List UInt8 := parts 32 [[111, 112, 101, 110], [48], [115, 101, 116], tagN t, [48], [49, 48, 48, 48]]
def nuI (y : List UInt8) : List UInt8 := parts 32 [[105, 110, 115, 101, 114, 116], [48], y]
def nuN : List UInt8 := parts 32 [[110, 101, 120, 116], [48], [48]]
def nuL : List UInt8 := parts 32 [[108, 101, 110], [48]]
theorem dec1000 : Dec [49, 48, 48, 48] 1000 := ⟨by decide +kernel, by decide +kernel, by decide⟩
theorem no32 {k : Nat} : (32 : UInt8) ∉ decDigits k := fun h => absurd (dec_all k _ h) (by decide)
theorem no10 {k : Nat} : (10 : UInt8) ∉ decDigits k := fun h => absurd (dec_all k _ h) (by decide)
section
variable {w : World} {M : List HP} {D : HP} {k : Nat}
theorem nu_line0 {p s : Nat} {K : ByteArray → World → Prop} (h : Sat w (nuS k p s 0 :: M)) (ga : GA M) (q : ∀ w', Sat w' (nuS k p s 1 :: M) → K (strB [111, 107]) w') : shell_line.C (some ⟨p, 0, none⟩) (strB (nu0 5)) w K := by
  refine line_ok (x := [111, 112, 101, 110]) (t := parts 32 [[48], [115, 101, 116], tagN 5, [48], [49, 48, 48, 48]]) (p := p) (s := s) (X := nuX k s 0) (Y := nuX k s 1) (d0 := 0) (d1 := 1) (f := 0) (a1 := 0) (a2 := 0) (a4 := 0) (a6 := false) (a7 := 5) (a8 := 0) (a9 := 1000) (k := 0) (n := 0) (y := false) (out := [111, 107]) (by decide) (by decide +kernel) (by decide) ?_ ?_ ?_ (Sat.sep.1 h) ga fun w h => q w (Sat.sep.2 h)
  · intro w N K' h ga k
    exact read_open (t := 5) (sd := 0) (lm := 1000) (xs := [48]) (xl := [49, 48, 48, 48]) h ga (by decide) (by decide) (by decide +kernel) (by decide) dec0 (by decide) dec1000 (by decide) (by decide) k
  · exact play_Do_change rfl (play_change_open fun w N K h q => shelf_Open_one (makes_roar (lim := 1000) (by decide)) h q)
  · exact fun w N K' h ga k => told_open h k
theorem len_nuI {y : List UInt8} : (nuI y).length = 9 + y.length := by
  show ([105, 110, 115, 101, 114, 116] ++ 32 :: ([48] ++ 32 :: y) : List UInt8).length = _
  simp; omega
theorem nu_line1 {p s : Nat} {K : ByteArray → World → Prop} (hk : k < 18446744073709551616) (h : Sat w (nuS k p s 1 :: M)) (ga : GA M) (q : ∀ w', Sat w' (nuS k p s 2 :: M) → K (strB [111, 107]) w') : shell_line.C (some ⟨p, 0, none⟩) (strB (nuI (decDigits k))) w K := by
  have hlen := dec_len20 hk
  have hl : ([105, 110, 115, 101, 114, 116] ++ 32 :: parts 32 [[48], decDigits k] : List UInt8).length < 4294967281 := by
    have := len_nuI (y := decDigits k)
    have e : nuI (decDigits k) = [105, 110, 115, 101, 114, 116] ++ 32 :: parts 32 [[48], decDigits k] := rfl
    rw [e] at this
    omega
  refine line_ok (x := [105, 110, 115, 101, 114, 116]) (t := parts 32 [[48], decDigits k]) (p := p) (s := s) (X := nuX k s 1) (Y := nuX k s 2) (d0 := 1) (d1 := 2) (f := 0) (a1 := 2) (a2 := 0) (a4 := k) (a6 := false) (a7 := 0) (a8 := 0) (a9 := 0) (k := 0) (n := 0) (y := false) (out := [111, 107]) (by decide) hl (by decide) ?_ ?_ ?_ (Sat.sep.1 h) ga fun w h => q w (Sat.sep.2 h)
  · intro w N K' h ga z
    exact read_insert_ok (y := decDigits k) (u := k) h ga (by omega) no32 (Dec.dec hk) z
  · exact play_Do_change rfl (play_change_insert fun w N K h q => shelf_Insert_one (does_roar_Insert (lim := 1000) (by decide) (by decide)) h q)
  · exact fun w N K' h ga k => told_insert h k
theorem nu_line2 {p s : Nat} {K : ByteArray → World → Prop} (hk : k < 18446744073709551616) (h : Sat w (nuS k p s 2 :: M)) (ga : GA M) (q : ∀ w', Sat w' (nuS k p s 3 :: M) → K (strB (decDigits k)) w') : shell_line.C (some ⟨p, 0, none⟩) (strB nuN) w K := by
  refine line_ok (x := [110, 101, 120, 116]) (t := parts 32 [[48], [48]]) (p := p) (s := s) (X := nuX k s 2) (Y := nuX k s 3) (d0 := 2) (d1 := 3) (f := 0) (a1 := 7) (a2 := 0) (a4 := 0) (a6 := false) (a7 := 0) (a8 := 0) (a9 := 0) (k := k) (n := 0) (y := false) (out := decDigits k) (by decide) (by decide +kernel) (by decide) ?_ ?_ ?_ (Sat.sep.1 h) ga fun w h => q w (Sat.sep.2 h)
  · intro w N K' h ga k
    exact read_next_ok (y := [48]) (u := 0) h ga (by decide) (by decide) dec0 k
  · exact play_Do_look rfl (.inl rfl) (play_look_next fun w N K h q => shelf_Next_one (does_roar_Next hk) h q)
  · intro w N K' h ga z
    exact told_next (u := k) h ga hk z
theorem nu_bad {p s i : Nat} {y : List UInt8} {K : ByteArray → World → Prop} (hy : ∀ u, ¬ Dec y u) (hl : y.length < 1000) (h32 : (32 : UInt8) ∉ y) (h : Sat w (nuS k p s i :: M)) (ga : GA M) (he : nuS k p s (i + 1) = nuS k p s i) (q : ∀ w', Sat w' (nuS k p s (i + 1) :: M) → K (strB err12) w') : shell_line.C (some ⟨p, 0, none⟩) (strB (nuI y)) w K := by
  rw [he] at q
  exact line_bad h (fun K' kk => read_insert_bad (y := y) h ga.cons (by omega) h32 hy parse_lt fun n w h => kk _ _ _ _ _ _ _ _ _ _ w h) q
theorem nu_line6 {p s : Nat} {K : ByteArray → World → Prop} (h : Sat w (nuS k p s 6 :: M)) (ga : GA M) (q : ∀ w', Sat w' (nuS k p s 7 :: M) → K (strB [49]) w') : shell_line.C (some ⟨p, 0, none⟩) (strB nuL) w K := by
  refine line_ok (x := [108, 101, 110]) (t := parts 32 [[48]]) (p := p) (s := s) (X := nuX k s 6) (Y := nuX k s 7) (d0 := 3) (d1 := 4) (f := 0) (a1 := 9) (a2 := 0) (a4 := 0) (a6 := false) (a7 := 0) (a8 := 0) (a9 := 0) (k := 0) (n := 1) (y := false) (out := [49]) (by decide) (by decide +kernel) (by decide) ?_ ?_ ?_ (Sat.sep.1 h) ga fun w h => q w (Sat.sep.2 h)
  · intro w N K' h ga k
    exact read_len h ga k
  · exact play_Do_look rfl (.inr rfl) (play_look_len fun w N K h q => shelf_Len_one does_roar_Len h q)
  · intro w N K' h ga z
    have e : decDigits 1 = [49] := by decide +kernel
    refine told_len (n := 1) h (by decide) fun w h => ?_
    rw [e]; exact z w h
def nuW (k : Nat) : List (List UInt8) := [nu0 5, nuI (decDigits k), nuN, nuI (48 :: decDigits k), nuI (43 :: decDigits k), nuI (decDigits k ++ n20), nuL]
def nuY (k : Nat) : List (List UInt8) := [[111, 107], [111, 107], decDigits k, err12, err12, err12, [49]]
theorem nu_run {K : ByteArray → Int → World → Prop} (hk : k < 18446744073709551616) (gD : ∀ w, Sat w [D] → GF w) (h : Sat w (D :: M)) (q : ∀ w', Sat w' (D :: M) → K (strB (outOf (nuY k))) 0 w') : shell_Run.C (strB (parts 10 (nuW k))) w K := by
  have hlen := dec_len20 hk
  have h0 : (nu0 5).length = 22 := by decide +kernel
  have hN : nuN.length = 8 := by decide +kernel
  have hL : nuL.length = 5 := by decide +kernel
  have ne := dec_ne k
  have h32 := no32 (k := k)
  have h10 := no10 (k := k)
  refine run_spec (ws := nuW k) (ys := nuY k) gD (nuS k) h (by simp [nuW]) ?_ ?_ rfl ?_ ?_ (fun p s w N h => Sat.sep.2 h) ?_ q
  · intro z hz
    have : z = nuL := by
      simp only [nuW, List.getLast?, Option.some.injEq] at hz
      exact hz.symm
    subst this; decide +kernel
  · have hI : ∀ y : List UInt8, (10 : UInt8) ∉ y → (10 : UInt8) ∉ nuI y := by
      intro y hy
      show (10 : UInt8) ∉ ([105, 110, 115, 101, 114, 116] ++ 32 :: ([48] ++ 32 :: y) : List UInt8)
      simp [hy]
    intro z hz
    simp only [nuW, List.mem_cons, List.not_mem_nil, or_false] at hz
    rcases hz with rfl | rfl | rfl | rfl | rfl | rfl | rfl
    · decide +kernel
    · exact hI _ h10
    · decide +kernel
    · exact hI _ (by simp [h10])
    · exact hI _ (by simp [h10])
    · exact hI _ (by simp only [List.mem_append, not_or]; exact ⟨h10, by decide⟩)
    · decide +kernel
  · simp only [nuW, parts, List.length_append, List.length_cons, len_nuI, h0, hN, hL]
    have : n20.length = 20 := rfl
    omega
  · simp [outOf, nuY]
    omega
  intro p s i l y hl hy w N K h ga z
  match i, hl, hy with
  | 0, hl, hy => cases hl; cases hy; exact nu_line0 h ga z
  | 1, hl, hy => cases hl; cases hy; exact nu_line1 hk h ga z
  | 2, hl, hy => cases hl; cases hy; exact nu_line2 hk h ga z
  | 3, hl, hy => cases hl; cases hy; exact nu_bad (Dec.no_lead ne) (by simp; omega) (by simp [h32]) h ga rfl z
  | 4, hl, hy => cases hl; cases hy; exact nu_bad (Dec.no_odd (c := 43) (by simp) (by decide)) (by simp; omega) (by simp [h32]) h ga rfl z
  | 5, hl, hy => cases hl; cases hy; exact nu_bad (Dec.no_big k) (by rw [List.length_append]; have : n20.length = 20 := rfl; omega) (by simp only [List.mem_append, not_or]; exact ⟨h32, by decide⟩) h ga rfl z
  | 6, hl, hy => cases hl; cases hy; exact nu_line6 h ga z
end
end Go.St

/- The shell's laws: numbers, on the whole. -/
namespace Go.St
open Go Go.Proofs Go.Lib
attribute [local irreducible] stP alP drP stCs lI64 lU64 lU8 lU16 lB lP lL lR lS AppV ClrV InvV DynV
section
variable {w : World} {M : List HP} {D : HP}
theorem r1_Dec_spec : ∀ (u : Nat), u < 18446744073709551616 → ∀ (w : World) (K : ByteArray → World → Prop), K (strB (decDigits u)) w → stepstoneref01_Dec.C (u : Int) w K := by
  intro u
  induction u using Nat.strongRecOn with
  | _ u ih =>
    intro hu w K k
    apply stepstoneref01_Dec.ok
    unfold stepstoneref01_Dec.F
    refine cond_c (fun hc => ?_) fun hc => ?_
    · have hc : u < 10 := by simp at hc; omega
      have e1 : wu64 ((u : Int) + 1) = ((u + 1 : Nat) : Int) := by rw [wu64_id (by omega) (by omega)]; rfl
      rw [e1, Int.toNat_natCast, Int.toNat_natCast]
      have hs : (⟨#[48, 49, 50, 51, 52, 53, 54, 55, 56, 57]⟩ : ByteArray).size = 10 := rfl
      rw [hs]
      refine ⟨by omega, by omega, by omega, by omega, ?_⟩
      have : ∀ u, u < 10 → (⟨#[48, 49, 50, 51, 52, 53, 54, 55, 56, 57]⟩ : ByteArray).extract u (u + 1) = strB (decDigits u) := by decide +kernel
      rw [this u hc]; exact k
    · have hc : ¬ u < 10 := by simp at hc; omega
      have e1 : wu64 (Int.tdiv (u : Int) 10) = ((u / 10 : Nat) : Int) := by
        rw [show Int.tdiv (u : Int) 10 = ((u / 10 : Nat) : Int) from rfl, wu64_id (by omega) (by omega)]
      have e2 : Int.tmod (u : Int) 10 = ((u % 10 : Nat) : Int) := rfl
      rw [e1, e2]
      refine ih _ (by omega) (by omega) _ _ ?_
      refine ih _ (by omega) (by omega) _ _ ?_
      refine ⟨?_, ?_⟩
      · have h1 := dec_len20 (u := u / 10) (by omega)
        have h2 := dec_len20 (u := u % 10) (by omega)
        have : (IntKind.i64.max : Int) = 9223372036854775807 := by decide
        rw [this, strB_size, strB_size]
        omega
      · rw [strB_app, dec_one (u := u % 10) (by omega), ← dec_more hc]
        exact k
theorem r1_Text_spec {s : ByteArray} {n : Nat} {K : ByteArray → World → Prop} (k : ∀ s', s'.size ≤ n → K s' w) : stepstoneref01_Text.C s (n : Int) w K := by
  apply stepstoneref01_Text.ok
  unfold stepstoneref01_Text.F
  have h : mnI ((s.size : Nat) : Int) (n : Int) = ((min s.size n : Nat) : Int) := by
    unfold mnI; split <;> omega
  rw [h, Int.toNat_natCast]
  refine ⟨by omega, by omega, k _ ?_⟩
  rw [ByteArray.size_extract]; omega
def odX (s : Nat) : Nat → HP
  | 0 => blk s nil8
  | _ => One s 4 0 1000 (TrS 1000)
def odS (p s i : Nat) : HP := sp (blk p (Pc s (if i = 0 then 0 else 1) 0)) (odX s i)
def odH (y : List UInt8) : List UInt8 := parts 32 [[104, 97, 115], [48], y]
theorem od_line0 {p s : Nat} {K : ByteArray → World → Prop} (h : Sat w (odS p s 0 :: M)) (ga : GA M) (q : ∀ w', Sat w' (odS p s 1 :: M) → K (strB [111, 107]) w') : shell_line.C (some ⟨p, 0, none⟩) (strB (nu0 4)) w K := by
  refine line_ok (x := [111, 112, 101, 110]) (t := parts 32 [[48], [115, 101, 116], tagN 4, [48], [49, 48, 48, 48]]) (p := p) (s := s) (X := odX s 0) (Y := odX s 1) (d0 := 0) (d1 := 1) (f := 0) (a1 := 0) (a2 := 0) (a4 := 0) (a6 := false) (a7 := 4) (a8 := 0) (a9 := 1000) (k := 0) (n := 0) (y := false) (out := [111, 107]) (by decide) (by decide +kernel) (by decide) ?_ ?_ ?_ (Sat.sep.1 h) ga fun w h => q w (Sat.sep.2 h)
  · intro w N K' h ga k
    exact read_open (t := 4) (sd := 0) (lm := 1000) (xs := [48]) (xl := [49, 48, 48, 48]) h ga (by decide) (by decide) (by decide +kernel) (by decide) dec0 (by decide) dec1000 (by decide) (by decide) k
  · exact play_Do_change rfl (play_change_open fun w N K h q => shelf_Open_one (makes_trie (lim := 1000) (by decide)) h q)
  · exact fun w N K' h ga k => told_open h k
theorem od_run {y : List UInt8} {K : ByteArray → Int → World → Prop} (hy : ∀ u, ¬ Dec y u) (hl : y.length ≤ 30) (h32 : (32 : UInt8) ∉ y) (h10 : (10 : UInt8) ∉ y) (gD : ∀ w, Sat w [D] → GF w) (h : Sat w (D :: M))
    (q : ∀ w', Sat w' (D :: M) → K (strB [111, 107, 10, 101, 114, 114, 111, 114, 32, 49, 50, 10]) 0 w') : shell_Run.C (strB (parts 10 [nu0 4, odH y])) w K := by
  have h0 : (nu0 4).length = 22 := by decide +kernel
  have hH : odH y = [104, 97, 115, 32, 48, 32] ++ y := rfl
  refine run_spec (ws := [nu0 4, odH y]) (ys := [[111, 107], err12]) gD odS h (by simp) ?_ ?_ rfl ?_ (by decide +kernel) (fun p s w N h => Sat.sep.2 h) ?_ q
  · intro z hz
    have : z = odH y := by
      simp only [List.getLast?, Option.some.injEq] at hz
      exact hz.symm
    subst this; rw [hH]; simp
  · intro z hz
    simp only [List.mem_cons, List.not_mem_nil, or_false] at hz
    rcases hz with rfl | rfl
    · decide +kernel
    · rw [hH]; simp [h10]
  · simp only [parts, List.length_append, List.length_cons, h0, hH, List.length_nil]
    omega
  intro p s i l z hl2 hz w N K h ga k
  match i, hl2, hz with
  | 0, hl2, hz => cases hl2; cases hz; exact od_line0 h ga k
  | 1, hl2, hz =>
    cases hl2; cases hz
    refine line_bad h (fun K' kk => read_has_bad (y := y) h ga.cons (by omega) h32 hy parse_lt fun n w h => kk _ _ _ _ _ _ _ _ _ _ w h) ?_
    exact k
theorem numbers_T1 {K : Bool → World → Prop} {s : ByteArray} {b : Bool} (gD : ∀ w, Sat w [D] → GF w) (h : Sat w (D :: M)) (hs : s.size ≤ 30) (hb : b = false → ∃ c ∈ s.data.toList, ¬ isD c) (h10 : (10 : UInt8) ∉ s.data.toList) (h32 : (32 : UInt8) ∉ s.data.toList)
    (q : ∀ w', Sat w' (D :: M) → K true w') : stepstonelaw27_ShellNumbers.T1 K s b w := by
  unfold stepstonelaw27_ShellNumbers.T1
  refine cond_c (fun _ => q _ h) fun e => ?_
  obtain ⟨c, hc, hd⟩ := hb e
  have es : (⟨#[111, 112, 101, 110, 32, 48, 32, 115, 101, 116, 32, 116, 114, 105, 101, 32, 48, 32, 49, 48, 48, 48, 10, 104, 97, 115, 32, 48, 32]⟩ : ByteArray) ++ s = strB (parts 10 [nu0 4, odH s.data.toList]) := by
    have e1 : (⟨#[111, 112, 101, 110, 32, 48, 32, 115, 101, 116, 32, 116, 114, 105, 101, 32, 48, 32, 49, 48, 48, 48, 10, 104, 97, 115, 32, 48, 32]⟩ : ByteArray) = strB [111, 112, 101, 110, 32, 48, 32, 115, 101, 116, 32, 116, 114, 105, 101, 32, 48, 32, 49, 48, 48, 48, 10, 104, 97, 115, 32, 48, 32] := rfl
    rw [e1]
    conv => lhs; rw [← strB_eta s]
    rw [strB_app]
    rfl
  refine ⟨?_, ?_⟩
  · have : (IntKind.i64.max : Int) = 9223372036854775807 := by decide
    rw [this]
    have : (⟨#[111, 112, 101, 110, 32, 48, 32, 115, 101, 116, 32, 116, 114, 105, 101, 32, 48, 32, 49, 48, 48, 48, 10, 104, 97, 115, 32, 48, 32]⟩ : ByteArray).size = 29 := rfl
    rw [this]; omega
  · rw [es]
    refine od_run (Dec.no_odd hc hd) (by rw [Array.length_toList]; exact hs) h32 h10 gD h fun w h => ?_
    refine cond_t rfl ?_
    have e : ((strB [111, 107, 10, 101, 114, 114, 111, 114, 32, 49, 50, 10]).toList == (⟨#[111, 107, 10, 101, 114, 114, 111, 114, 32, 49, 50, 10]⟩ : ByteArray).toList) = true := eq_lit
    rw [e]
    exact q w h
theorem bt_at {s : ByteArray} {i : Nat} {c : UInt8} (h : s.data.toList[i]? = some c) : bt s (i : Int) = (c.toNat : Int) := by
  unfold bt
  rw [Int.toNat_natCast]
  have e : s[i]? = some c := by
    have hi := (List.getElem?_eq_some_iff.1 h)
    obtain ⟨hi, hv⟩ := hi
    have hi' : i < s.size := by simpa using hi
    rw [getElem?_pos s i hi']
    congr 1
  rw [e]; rfl
theorem numbers_T2 {K : Bool → World → Prop} {s : ByteArray} (gD : ∀ w, Sat w [D] → GF w) (h : Sat w (D :: M)) (hs : s.size ≤ 30)
    (q : ∀ w', Sat w' (D :: M) → K true w') : stepstonelaw27_ShellNumbers.T2 K s true 0 w := by
  unfold stepstonelaw27_ShellNumbers.T2
  have hlen : s.data.toList.length = s.size := by rw [Array.length_toList]; rfl
  refine LoopT.of (fun x w' => ∃ (i : Nat) (b : Bool), x = (b, (i : Int)) ∧ i ≤ s.size ∧ w' = w ∧ (b = false → ∃ c ∈ s.data.toList, ¬ isD c) ∧ ∀ j c, j < i → s.data.toList[j]? = some c → c ≠ 10 ∧ c ≠ 32) (fun x => s.size - x.2.toNat) ⟨0, true, rfl, Nat.zero_le _, rfl, (fun e => by cases e), fun j c hj => by omega⟩ ?_
  rintro _ _ ⟨i, b, rfl, hi, rfl, hb, hj⟩
  unfold stepstonelaw27_ShellNumbers.B2
  dsimp only
  refine cond_c (fun hc => ?_) fun hc => ?_
  · have hc : i < s.size := by simp at hc; omega
    have hx : s.data.toList[i]? = some (s.data.toList[i]'(by omega)) := List.getElem?_eq_getElem (by omega)
    generalize s.data.toList[i]'(by omega) = c at hx
    rw [bt_at hx]
    have hcm := List.mem_of_getElem? hx
    refine ⟨by omega, by omega, ?_⟩
    refine cond_c (fun _ => q _ h) fun h1 => ?_
    refine ⟨by omega, by omega, ?_⟩
    refine cond_c (fun _ => q _ h) fun h2 => ?_
    have h1 : c ≠ 10 := by rintro rfl; exact absurd h1 (by decide)
    have h2 : c ≠ 32 := by rintro rfl; exact absurd h2 (by decide)
    have hj' : ∀ j d, j < i + 1 → s.data.toList[j]? = some d → d ≠ 10 ∧ d ≠ 32 := by
      intro j d hj1 hd
      rcases Nat.lt_or_ge j i with h3 | h3
      · exact hj j d h3 hd
      · obtain rfl : j = i := by omega
        rw [hx] at hd; cases hd; exact ⟨h1, h2⟩
    rw [w64_id (x := (i : Int) + 1) (by omega) (by omega)]
    refine cond_c (fun hb1 => ?_) fun hb1 => ?_
    · refine ⟨by omega, by omega, ?_⟩
      refine cond_c (fun h3 => ?_) fun h3 => ?_
      · refine ⟨by omega, by omega, ?_⟩
        refine ⟨⟨i + 1, _, rfl, by omega, rfl, ?_, hj'⟩, by simp; omega⟩
        intro h4
        refine ⟨c, hcm, fun h5 => ?_⟩
        unfold isD at h5
        simp at h4
        omega
      · refine ⟨⟨i + 1, _, rfl, by omega, rfl, ?_, hj'⟩, by simp; omega⟩
        intro _
        refine ⟨c, hcm, fun h5 => ?_⟩
        unfold isD at h5
        simp at h3
        omega
    · refine ⟨⟨i + 1, _, rfl, by omega, rfl, fun _ => hb hb1, hj'⟩, by simp; omega⟩
  · have hc : i = s.size := by simp at hc; omega
    have hn : ∀ d, (d = 10 ∨ d = 32) → d ∉ s.data.toList := by
      intro d hd hm
      obtain ⟨j, hj1⟩ := List.getElem?_of_mem hm
      have := (List.getElem?_eq_some_iff.1 hj1).1
      have := hj j d (by omega) hj1
      rcases hd with rfl | rfl
      · exact this.1 rfl
      · exact this.2 rfl
    exact numbers_T1 gD h hs hb (hn 10 (.inl rfl)) (hn 32 (.inr rfl)) q
theorem law27_ShellNumbers_spec {n : Nat} {s : ByteArray} {K : Bool → World → Prop} (gD : ∀ w, Sat w [D] → GF w) (h : Sat w (D :: M)) (hn : n < 18446744073709551616) (q : ∀ w', Sat w' (D :: M) → K true w') : stepstonelaw27_ShellNumbers.C (n : Int) s w K := by
  apply stepstonelaw27_ShellNumbers.ok
  unfold stepstonelaw27_ShellNumbers.F
  refine law27_awake_spec gD h fun w h => ?_
  refine cond_f rfl ?_
  refine r1_Text_spec (n := 30) fun s5 hs5 => ?_
  have hlen := dec_len20 hn
  have hmax : (IntKind.i64.max : Int) = 9223372036854775807 := by decide
  have fits : ∀ l : List UInt8, l.length ≤ 1000000 → (((strB l).size : Nat) : Int) ≤ IntKind.i64.max := by
    intro l hl
    rw [hmax, strB_size]; omega
  have fit2 : ∀ a b : ByteArray, a.size ≤ 1000 → b.size ≤ 1000 → (((a.size + b.size : Nat)) : Int) ≤ IntKind.i64.max := by
    intro a b ha hb
    rw [hmax]; omega
  have e7 : (⟨#[111, 112, 101, 110, 32, 48, 32, 115, 101, 116, 32, 114, 111, 97, 114, 32, 48, 32, 49, 48, 48, 48, 10, 105, 110, 115, 101, 114, 116, 32, 48, 32]⟩ : ByteArray) = strB [111, 112, 101, 110, 32, 48, 32, 115, 101, 116, 32, 114, 111, 97, 114, 32, 48, 32, 49, 48, 48, 48, 10, 105, 110, 115, 101, 114, 116, 32, 48, 32] := rfl
  have eB' : (⟨#[10, 110, 101, 120, 116, 32, 48, 32, 48, 10, 105, 110, 115, 101, 114, 116, 32, 48, 32, 48]⟩ : ByteArray) = strB [10, 110, 101, 120, 116, 32, 48, 32, 48, 10, 105, 110, 115, 101, 114, 116, 32, 48, 32, 48] := rfl
  have eC : (⟨#[10, 105, 110, 115, 101, 114, 116, 32, 48, 32, 43]⟩ : ByteArray) = strB [10, 105, 110, 115, 101, 114, 116, 32, 48, 32, 43] := rfl
  have eDd : (⟨#[10, 105, 110, 115, 101, 114, 116, 32, 48, 32]⟩ : ByteArray) = strB [10, 105, 110, 115, 101, 114, 116, 32, 48, 32] := rfl
  have eE : (⟨#[48, 48, 48, 48, 48, 48, 48, 48, 48, 48, 48, 48, 48, 48, 48, 48, 48, 48, 48, 48, 10, 108, 101, 110, 32, 48]⟩ : ByteArray) = strB [48, 48, 48, 48, 48, 48, 48, 48, 48, 48, 48, 48, 48, 48, 48, 48, 48, 48, 48, 48, 10, 108, 101, 110, 32, 48] := rfl
  rw [e7, eB', eC, eDd, eE]
  refine r1_Dec_spec n hn _ _ ?_
  simp only [strB_app]
  refine ⟨fit2 _ _ (by decide) (by rw [strB_size]; omega), fit2 _ _ (by rw [strB_size, List.length_append]; simp; omega) (by decide), ?_⟩
  refine r1_Dec_spec n hn _ _ ?_
  simp only [strB_app]
  refine ⟨fit2 _ _ (by rw [strB_size]; simp; omega) (by rw [strB_size]; omega), fit2 _ _ (by rw [strB_size]; simp; omega) (by decide), ?_⟩
  refine r1_Dec_spec n hn _ _ ?_
  simp only [strB_app]
  refine ⟨fit2 _ _ (by rw [strB_size]; simp; omega) (by rw [strB_size]; omega), fit2 _ _ (by rw [strB_size]; simp; omega) (by decide), ?_⟩
  refine r1_Dec_spec n hn _ _ ?_
  simp only [strB_app]
  refine ⟨fit2 _ _ (by rw [strB_size]; simp; omega) (by rw [strB_size]; omega), fit2 _ _ (by rw [strB_size]; simp; omega) (by decide), ?_⟩
  have et : ∀ d : List UInt8, [111, 112, 101, 110, 32, 48, 32, 115, 101, 116, 32, 114, 111, 97, 114, 32, 48, 32, 49, 48, 48, 48, 10, 105, 110, 115, 101, 114, 116, 32, 48, 32] ++ d ++ [10, 110, 101, 120, 116, 32, 48, 32, 48, 10, 105, 110, 115, 101, 114, 116, 32, 48, 32, 48] ++ d ++ [10, 105, 110, 115, 101, 114, 116, 32, 48, 32, 43] ++ d ++ [10, 105, 110, 115, 101, 114, 116, 32, 48, 32] ++ d ++ [48, 48, 48, 48, 48, 48, 48, 48, 48, 48, 48, 48, 48, 48, 48, 48, 48, 48, 48, 48, 10, 108, 101, 110, 32, 48] =
      parts 10 [nu0 5, nuI d, nuN, nuI (48 :: d), nuI (43 :: d), nuI (d ++ n20), nuL] := by
    intro d
    simp [parts, nu0, nuI, nuN, nuL, n20, tagN]
  rw [et]
  refine nu_run hn gD h fun w h => ?_
  refine r1_Dec_spec n hn _ _ ?_
  have eo : (⟨#[111, 107, 10, 111, 107, 10]⟩ : ByteArray) = strB [111, 107, 10, 111, 107, 10] := rfl
  have ep : (⟨#[10, 101, 114, 114, 111, 114, 32, 49, 50, 10, 101, 114, 114, 111, 114, 32, 49, 50, 10, 101, 114, 114, 111, 114, 32, 49, 50, 10, 49, 10]⟩ : ByteArray) = strB [10, 101, 114, 114, 111, 114, 32, 49, 50, 10, 101, 114, 114, 111, 114, 32, 49, 50, 10, 101, 114, 114, 111, 114, 32, 49, 50, 10, 49, 10] := rfl
  rw [eo, ep]
  simp only [strB_app]
  refine ⟨fit2 _ _ (by decide) (by rw [strB_size]; omega), fit2 _ _ (by rw [strB_size]; simp; omega) (by decide), ?_⟩
  refine cond_f rfl ?_
  have ey : outOf (nuY n) = [111, 107, 10, 111, 107, 10] ++ decDigits n ++ [10, 101, 114, 114, 111, 114, 32, 49, 50, 10, 101, 114, 114, 111, 114, 32, 49, 50, 10, 101, 114, 114, 111, 114, 32, 49, 50, 10, 49, 10] := by
    simp [outOf, nuY]
  rw [ey, eq_lit]
  refine cond_f rfl ?_
  exact numbers_T2 gD h hs5 q
end
end Go.St

/- From what a row of the shell lays to what its calls read; the laws on the whole. -/
namespace Go.St
open Go Go.Proofs Go.Lib
theorem gf_start {W : World} (g : GF W) : ∀ w, Sat w [Start W] → GF w := by
  intro w hs
  have hk := (Sat.end hs).2
  obtain ⟨h1, h2, ⟨m, h3⟩, ⟨es, h4, h5⟩, ⟨er, h6, h7⟩⟩ := g
  exact ⟨fun i x hx => cell_keep hk (h1 i x hx), var_keep hk h2, ⟨m, cell_keep hk h3⟩, ⟨es, cell_keep hk h4, h5⟩, ⟨er, cell_keep hk h6, h7⟩⟩
theorem tab_of_reads {P : Program} {W : World} {name : String} {k : IntKind} {zs : List Int} {g t e n : Nat} (hg : P.globalNamed name = some g) (hty : (P.globals[g]?).map (·.type) = some t) (ht : P.underlying t = some (.array n e)) (he : P.underlying e = some (.int k)) (hce : P.cellsOf e = 1) (hct : P.cellsOf t = n)
    (h : VarReads P W name (tabData k zs)) : TabIs P W name k zs := by
  obtain ⟨g', t', cs, fuel, p, h1, h2, h3, h4⟩ := h
  obtain rfl := Option.some.inj (hg.symm.trans h1)
  obtain rfl := Option.some.inj (hty.symm.trans h2)
  have := cells_of_tab ht he hce hct h4
  unfold TabIs
  rw [h3, ← this]
theorem iface_of_reads {P : Program} {W : World} {name nm : String} {d : DataW Unit} {g t : Nat} {ms : Array (String × TypeId)} (hg : P.globalNamed name = some g) (hty : (P.globals[g]?).map (·.type) = some t) (ht : P.underlying t = some (.interface ms))
    (h : VarReads P W name (.iface nm d)) : ∃ ev, W.cell? ⟨g, 0, none⟩ = some ev ∧ (ev = .nilIface ∨ ∃ te pe, ev = .iface te pe) := by
  obtain ⟨g', t', cs, fuel, p, h1, h2, h3, h4⟩ := h
  obtain rfl := Option.some.inj (hg.symm.trans h1)
  obtain rfl := Option.some.inj (hty.symm.trans h2)
  obtain ⟨_, u, v, hcs, _, _⟩ := iface_of_trod ht h4
  refine ⟨.iface u v, ?_, .inr ⟨u, v, rfl⟩⟩
  rw [World.var?_cell hg h3]
  have := congrArg (·[0]?) hcs
  simpa using this
theorem law27_ShellLong_walk {n : Nat} {W : World} (g : GF W) (hn : n < 256) : CallsV prog 5 #[.int .u8 n] W fun v w' => v = .bool true ∧ RelW W w' ∧ ∀ (b : Nat) (o : Obj), W.heap[b]? = some o → w'.heap[b]? = some o := by
  refine (law27_ShellLong_spec (D := Start W) (M := []) (K := fun b w' => b = true ∧ RelW W w' ∧ ∀ (b : Nat) (o : Obj), W.heap[b]? = some o → w'.heap[b]? = some o) (gf_start g) (Sat.start W) hn fun w' h => ⟨rfl, h.end⟩) |> fun z => z.mono ?_
  rintro v w1 ⟨b, rfl, rfl, h⟩
  exact ⟨rfl, h⟩
theorem law27_ShellNumbers_walk {n : Nat} {s : ByteArray} {W : World} (g : GF W) (hn : n < 18446744073709551616) : CallsV prog 4 #[.int .u64 n, .string s] W fun v w' => v = .bool true ∧ RelW W w' ∧ ∀ (b : Nat) (o : Obj), W.heap[b]? = some o → w'.heap[b]? = some o := by
  refine (law27_ShellNumbers_spec (D := Start W) (M := []) (K := fun b w' => b = true ∧ RelW W w' ∧ ∀ (b : Nat) (o : Obj), W.heap[b]? = some o → w'.heap[b]? = some o) (s := s) (gf_start g) (Sat.start W) hn fun w' h => ⟨rfl, h.end⟩) |> fun z => z.mono ?_
  rintro v w1 ⟨b, rfl, rfl, h⟩
  exact ⟨rfl, h⟩
end Go.St

