/- What the functions tell, as plain functions on typed values. -/
import Derived.Test.YtohkehlomnfimaaAvCore28
namespace Go.Av
set_option linter.unusedSimpArgs false
set_option linter.unusedVariables false
structure THold where
  Replica : Int
  Number : Int
  Amount : Int
  Due : Int
  State : Int
  deriving DecidableEq, Inhabited
abbrev E_THold (x : THold) : V := .st [(V.int .i64) x.Replica, (V.int .i64) x.Number, (V.int .i64) x.Amount, (V.int .i64) x.Due, (V.int .i64) x.State]
theorem ty_THold : TyOk E_THold 5 true := ⟨fun x => fl_st (flL_c ((TyOk.int .i64).fl _) (flL_c ((TyOk.int .i64).fl _) (flL_c ((TyOk.int .i64).fl _) (flL_c ((TyOk.int .i64).fl _) (flL_c ((TyOk.int .i64).fl _) flL_nil))))), fun _ => rfl, fun _ => rfl, fun x m => lt_st (ltL_c ((TyOk.int .i64).lt _ _) (ltL_c ((TyOk.int .i64).lt _ _) (ltL_c ((TyOk.int .i64).lt _ _) (ltL_c ((TyOk.int .i64).lt _ _) (ltL_c ((TyOk.int .i64).lt _ _) ltL_nil))))), fun _ => rfl⟩
abbrev E_S_THold (x : List THold) : V := .sl 5 .no (x.map E_THold)
theorem ty_S_THold : TyOk E_S_THold 1 false := TyOk.sl ty_THold
abbrev E_S_S_THold (x : List (List THold)) : V := .sl 1 .no (x.map E_S_THold)
theorem ty_S_S_THold : TyOk E_S_S_THold 1 false := TyOk.sl ty_S_THold
abbrev E_A2_i64 (x : Vector Int 2) : V := .arr 1 (x.toList.map (V.int .i64))
theorem ty_A2_i64 : TyOk E_A2_i64 2 true := TyOk.arr (k := 2) (TyOk.int .i64)
abbrev E_A2_A2_i64 (x : Vector (Vector Int 2) 2) : V := .arr 2 (x.toList.map E_A2_i64)
theorem ty_A2_A2_i64 : TyOk E_A2_A2_i64 4 true := TyOk.arr (k := 2) ty_A2_i64
theorem eqk_THold : EqOk E_THold := ⟨fun x y => eqv_st (eqv_c ((eqk_int _).is _ _) (eqv_c ((eqk_int _).is _ _) (eqv_c ((eqk_int _).is _ _) (eqv_c ((eqk_int _).is _ _) (eqv_c ((eqk_int _).is _ _) eqv_nil))))) (by cases x; cases y; simp [Bool.decide_and])⟩
theorem shk_THold : ShOk E_THold (.st [(0, .int .i64), (1, .int .i64), (2, .int .i64), (3, .int .i64), (4, .int .i64)] 5) := ⟨fun x => hasSh_st (flL_c ((TyOk.int .i64).fl x.Replica) (flL_c ((TyOk.int .i64).fl x.Number) (flL_c ((TyOk.int .i64).fl x.Amount) (flL_c ((TyOk.int .i64).fl x.Due) (flL_c ((TyOk.int .i64).fl x.State) flL_nil))))) (hasShF_c rfl ((shk_int _).is _) ((TyOk.int .i64).fl x.Replica) (hasShF_c rfl ((shk_int _).is _) ((TyOk.int .i64).fl x.Number) (hasShF_c rfl ((shk_int _).is _) ((TyOk.int .i64).fl x.Amount) (hasShF_c rfl ((shk_int _).is _) ((TyOk.int .i64).fl x.Due) (hasShF_c rfl ((shk_int _).is _) ((TyOk.int .i64).fl x.State) hasShF_nil)))))⟩
def usufructlaw06_Few_L1 (a1 : List (List THold)) (s3 : Int) : Option (Int ⊕ (Unit ⊕ Bool)) :=
  if (decide (s3 < (a1.length : Int))) = true then
      Option.bind (six a1 s3) fun j5 =>
      if (decide (40 < ((a1.getD j5 default).length : Int))) = true then
        some (.inr (.inr false))
      else
        some (.inl (wr .i64 (s3 + 1)))
    else
      some (.inr (.inl ()))
def usufructlaw06_Few (a1 : List (List THold)) : Option (Bool) :=
  Option.bind (loopM (usufructlaw06_Few_L1 a1) fuel 0) (onS (fun x4 => some true)
  (fun r => some r))
def num_Is (a1 : Int) : Option (Bool) :=
  letM ((decide ((-1099511627776) ≤ a1)) && (decide (a1 ≤ 1099511627776))) fun v2 =>
  some v2
def hold_count (a1 : Int) : Option (Bool) :=
  Option.bind (gd ((decide (0 ≤ a1)) = true) (num_Is a1)) fun r2 =>
  letM ((decide (0 ≤ a1)) && r2) fun v3 =>
  some v3
def hold_Right (a1 : THold) : Option (Bool) :=
  letM (((decide (0 ≤ a1.Replica)) && (decide (a1.Replica < 16))) && (decide (1 ≤ a1.Number))) fun v2 =>
  Option.bind (gd (v2 = true) (num_Is a1.Number)) fun r3 =>
  Option.bind (gd ((v2 && r3) = true) (hold_count a1.Amount)) fun r4 =>
  Option.bind (gd (((v2 && r3) && r4) = true) (hold_count a1.Due)) fun r5 =>
  letM (((((v2 && r3) && r4) && r5) && (decide (1 ≤ a1.State))) && (decide (a1.State ≤ 3))) fun v6 =>
  some v6
def hold_compare_L1 (a1 : THold) (a2 : THold) (s4 : Int) : Option (Int ⊕ (Unit ⊕ Int)) :=
  if (decide (s4 < 2)) = true then
      Option.bind (fix_ 2 s4) fun k6 =>
      letM ((#v[(#v[a1.Replica, a2.Replica] : Vector Int 2), (#v[a1.Number, a2.Number] : Vector Int 2)] : Vector (Vector Int 2) 2).get k6) fun v7 =>
      Option.bind (fix_ 2 0) fun k8 =>
      Option.bind (fix_ 2 1) fun k9 =>
      if (!decide ((v7.get k8) = (v7.get k9))) = true then
        Option.bind (fix_ 2 0) fun k10 =>
        Option.bind (fix_ 2 1) fun k11 =>
        if (decide ((v7.get k10) < (v7.get k11))) = true then
          some (.inr (.inr (-1)))
        else
          some (.inr (.inr 1))
      else
        some (.inl (wr .i64 (s4 + 1)))
    else
      some (.inr (.inl ()))
def hold_compare (a1 : THold) (a2 : THold) : Option (Int) :=
  Option.bind (loopM (hold_compare_L1 a1 a2) fuel 0) (onS (fun x5 => some 0)
  (fun r => some r))
def holdCmp (a b : THold) : Int := if a.Replica = b.Replica then (if a.Number = b.Number then 0 else if a.Number < b.Number then -1 else 1) else if a.Replica < b.Replica then -1 else 1
theorem hold_compare_eq (a b : THold) : hold_compare a b = some (holdCmp a b) := by
  have e0 : fix_ 2 0 = some (0 : Fin 2) := rfl
  have e1 : fix_ 2 1 = some (1 : Fin 2) := rfl
  have w0 : wr .i64 1 = 1 := by decide
  have w1 : wr .i64 2 = 2 := by decide
  have v0 : ∀ x y : Int, (#v[x, y] : Vector Int 2).get 0 = x := fun _ _ => rfl
  have v1 : ∀ x y : Int, (#v[x, y] : Vector Int 2).get 1 = y := fun _ _ => rfl
  have u0 : ∀ x y : Vector Int 2, (#v[x, y] : Vector (Vector Int 2) 2).get 0 = x := fun _ _ => rfl
  have u1 : ∀ x y : Vector Int 2, (#v[x, y] : Vector (Vector Int 2) 2).get 1 = y := fun _ _ => rfl
  have h0 : hold_compare_L1 a b 0 = if a.Replica = b.Replica then some (.inl 1) else if a.Replica < b.Replica then some (.inr (.inr (-1))) else some (.inr (.inr 1)) := by
    unfold hold_compare_L1
    simp [e0, e1, letM, w0, v0, v1, u0]
  have h1 : hold_compare_L1 a b 1 = if a.Number = b.Number then some (.inl 2) else if a.Number < b.Number then some (.inr (.inr (-1))) else some (.inr (.inr 1)) := by
    unfold hold_compare_L1
    simp [e0, e1, letM, w1, v0, v1, u1]
  have h2 : hold_compare_L1 a b 2 = some (.inr (.inl ())) := by unfold hold_compare_L1; simp
  unfold hold_compare holdCmp
  have hf : fuel = 1180591620717411303421 + 3 := rfl
  rw [hf]
  by_cases c0 : a.Replica = b.Replica
  · by_cases c1 : a.Number = b.Number
    · simp [loopM, h0, h1, h2, c0, c1, onS]
    · by_cases c2 : a.Number < b.Number <;> simp [loopM, h0, h1, c0, c1, c2, onS]
  · by_cases c2 : a.Replica < b.Replica <;> simp [loopM, h0, c0, c2, onS]
theorem holdCmp_lt (a b : THold) : Go.Proofs.ltOf holdCmp a b = decide (a.Replica < b.Replica ∨ (a.Replica = b.Replica ∧ a.Number < b.Number)) := by
  unfold Go.Proofs.ltOf holdCmp
  by_cases h : a.Replica = b.Replica
  · by_cases h1 : a.Number = b.Number
    · simp [h, h1]
    · by_cases h2 : a.Number < b.Number <;> simp [h, h1, h2]
  · by_cases h2 : a.Replica < b.Replica <;> simp [h, h2]
theorem holdCmp_swo : Go.Sort.SWO (Go.Proofs.ltOf holdCmp) := by
  refine ⟨fun x => ?_, fun x y z h1 h2 => ?_, fun x y z h1 h2 => ?_⟩ <;> simp only [holdCmp_lt, decide_eq_true_eq, decide_eq_false_iff_not] at * <;> omega

def hold_Rights_L1 (a1 : List THold) (s3 : Int) : Option (Int ⊕ (Unit ⊕ Bool)) :=
  if (decide (s3 < (a1.length : Int))) = true then
      Option.bind (six a1 s3) fun j5 =>
      letM (a1.getD j5 default) fun v6 =>
      Option.bind (hold_Right v6) fun r7 =>
      Option.bind (gd (((!r7) = false) ∧ (decide (0 < s3)) = true) (six a1 (wr .i64 (s3 - 1)))) fun j8 =>
      Option.bind (gd (((!r7) = false) ∧ (decide (0 < s3)) = true) (hold_compare (a1.getD j8 default) v6)) fun r9 =>
      if ((!r7) || ((decide (0 < s3)) && (decide (0 ≤ r9)))) = true then
        some (.inr (.inr false))
      else
        some (.inl (wr .i64 (s3 + 1)))
    else
      some (.inr (.inl ()))
def hold_Rights (a1 : List THold) : Option (Bool) :=
  Option.bind (loopM (hold_Rights_L1 a1) fuel 0) (onS (fun x4 => letM (decide ((a1.length : Int) ≤ 16)) fun v10 =>
    some v10)
  (fun r => some r))
def hold_Reserve_L1 (a1 : List THold) (a2 : Int) (s6 : Int × Int) : Option ((Int × Int) ⊕ Int) :=
  if (decide (s6.1 < (a1.length : Int))) = true then
      Option.bind (six a1 s6.1) fun j8 =>
      letM (a1.getD j8 default) fun v9 =>
      if (decide (v9.Replica = a2)) = true then
        letM (max s6.2 (wr .i64 (v9.Number + 1))) fun v10 =>
        some (.inl ((wr .i64 (s6.1 + 1)), v10))
      else
        some (.inl ((wr .i64 (s6.1 + 1)), s6.2))
    else
      some (.inr s6.2)
def hold_Reserve (a1 : List THold) (a2 : Int) (a3 : Int) (a4 : Int) : Option ((List THold) × Int × Int) :=
  Option.bind (loopM (hold_Reserve_L1 a1 a2) fuel (0, 1)) fun x7 =>
  letM (⟨a2, x7, a3, a4, 1⟩ : THold) fun v11 =>
    Option.bind (hold_Rights a1) fun r12 =>
    Option.bind (gd ((!r12) = false) (hold_Right v11)) fun r13 =>
    if ((!r12) || (!r13)) = true then
      some (([] : List THold), 0, 1)
    else
      letM (decide ((a1.length : Int) = 16)) fun v14 =>
      if v14 = true then
        some (([] : List THold), 0, 7)
      else
        Option.bind (app 40 [] a1) fun l15 =>
        Option.bind (app 40 l15 [v11]) fun l16 =>
        Option.bind (sortM holdCmp l16) fun l17 =>
        some (l17, x7, 0)
def hold_Expire_L1 (a2 : Int) (a3 : Int) (l4 : List THold) (s7 : Int × (List THold) × Int) : Option ((Int × (List THold) × Int) ⊕ (Int × (List THold))) :=
  if (decide (s7.1 < ((l4.length : Nat) : Int))) = true then
        Option.bind (six s7.2.1 s7.1) fun j9 =>
        letM (s7.2.1.getD j9 default) fun v10 =>
        letM (((decide (v10.Replica = a2)) && (decide (v10.State = 1))) && (decide (v10.Due < a3))) fun v11 =>
        if v11 = true then
          Option.bind (six s7.2.1 s7.1) fun j12 =>
          letM (s7.2.1.set j12 ({ (s7.2.1.getD j12 default) with State := 3 })) fun v13 =>
          some (.inl ((wr .i64 (s7.1 + 1)), v13, (wr .i64 (s7.2.2 + 1))))
        else
          some (.inl ((wr .i64 (s7.1 + 1)), s7.2.1, s7.2.2))
      else
        some (.inr (s7.2.2, s7.2.1))
def hold_Expire (a1 : List THold) (a2 : Int) (a3 : Int) : Option ((List THold) × Int) :=
  Option.bind (app 40 [] a1) fun l4 =>
  Option.bind (hold_Rights a1) fun r5 =>
  if (!r5) = true then
    some (l4, 0)
  else
    Option.bind (loopM (hold_Expire_L1 a2 a3 l4) fuel (0, l4, 0)) fun x8 =>
    some (x8.2, x8.1)
def hold_Sum_L1 (a1 : List THold) (a2 : Int) (s4 : Int × Int) : Option ((Int × Int) ⊕ Int) :=
  if (decide (s4.1 < (a1.length : Int))) = true then
      Option.bind (six a1 s4.1) fun j6 =>
      letM (a1.getD j6 default) fun v7 =>
      if ((decide (v7.Replica = a2)) && (decide (v7.State = 1))) = true then
        letM (min (wr .i64 (s4.2 + v7.Amount)) 1099511627776) fun v8 =>
        some (.inl ((wr .i64 (s4.1 + 1)), v8))
      else
        some (.inl ((wr .i64 (s4.1 + 1)), s4.2))
    else
      some (.inr s4.2)
def hold_Sum (a1 : List THold) (a2 : Int) : Option (Int) :=
  Option.bind (loopM (hold_Sum_L1 a1 a2) fuel (0, 0)) fun x5 =>
  some x5
def usufructlaw06_awake  : Option (Bool) :=
  Option.bind (hold_Reserve ([] : List THold) 2 5 9) fun r1 =>
  Option.bind (hold_Expire r1.1 2 9) fun r2 =>
  Option.bind (hold_Expire r1.1 2 10) fun r3 =>
  letM (((decide (r1.2.2 = 0)) && (decide (r1.2.1 = 1))) && (decide (r2.2 = 0))) fun v4 =>
  Option.bind (gd (((v4 && (decide (r3.2 = 1))) && (decide ((r3.1.length : Int) = 1))) = true) (six r3.1 0)) fun j5 =>
  letM (((v4 && (decide (r3.2 = 1))) && (decide ((r3.1.length : Int) = 1))) && (decide ((r3.1.getD j5 default).State = 3))) fun v6 =>
  Option.bind (gd (v6 = true) (hold_Sum r1.1 2)) fun r7 =>
  letM (v6 && (decide (r7 = 5))) fun v8 =>
  some v8
def usufructlaw06_Same_L1 (a1 : List THold) (a2 : List THold) (s4 : Int) : Option (Int ⊕ (Unit ⊕ Bool)) :=
  if (decide (s4 < (a1.length : Int))) = true then
        Option.bind (six a1 s4) fun j6 =>
        letM (a1.getD j6 default) fun v7 =>
        Option.bind (six a2 s4) fun j8 =>
        letM (a2.getD j8 default) fun v9 =>
        if (!decide (v7 = v9)) = true then
          some (.inr (.inr false))
        else
          some (.inl (wr .i64 (s4 + 1)))
      else
        some (.inr (.inl ()))
def usufructlaw06_Same (a1 : List THold) (a2 : List THold) : Option (Bool) :=
  if (!decide ((a1.length : Int) = (a2.length : Int))) = true then
    some false
  else
    Option.bind (loopM (usufructlaw06_Same_L1 a1 a2) fuel 0) (onS (fun x5 => some true)
    (fun r => some r))
def usufructlaw06_HoldTime_L1 (a1 : List THold) (a2 : Int) (a3 : Int) (r7 : (List THold) × Int) (s13 : Int) : Option (Int ⊕ (Unit ⊕ Bool)) :=
  if (decide (s13 < (a1.length : Int))) = true then
          Option.bind (six a1 s13) fun j15 =>
          letM (a1.getD j15 default) fun v16 =>
          Option.bind (six r7.1 s13) fun j17 =>
          letM (r7.1.getD j17 default) fun v18 =>
          letM ((!decide (v18 = v16)) && (((!decide (v16.State = 1)) || (decide (a3 ≤ v16.Due))) || (!decide (v16.Replica = a2)))) fun v19 =>
          if v19 = true then
            some (.inr (.inr false))
          else
            some (.inl (wr .i64 (s13 + 1)))
        else
          some (.inr (.inl ()))
def usufructlaw06_HoldTime (a1 : List THold) (a2 : Int) (a3 : Int) (a4 : Int) : Option (Bool) :=
  Option.bind (usufructlaw06_Few [a1]) fun r5 =>
  if ((!r5) || (decide (a4 < a3))) = true then
    Option.bind (usufructlaw06_awake) fun r6 =>
    some r6
  else
    Option.bind (hold_Expire a1 a2 a3) fun r7 =>
    Option.bind (hold_Expire r7.1 a2 a4) fun r8 =>
    Option.bind (hold_Expire a1 a2 a4) fun r9 =>
    letM ((!decide ((r7.1.length : Int) = (a1.length : Int))) || (!decide ((wr .i64 (r7.2 + r8.2)) = r9.2))) fun v10 =>
    Option.bind (gd (v10 = false) (usufructlaw06_Same r8.1 r9.1)) fun r11 =>
    if (v10 || (!r11)) = true then
      some false
    else
      Option.bind (loopM (usufructlaw06_HoldTime_L1 a1 a2 a3 r7) fuel 0) (onS (fun x14 => Option.bind (usufructlaw06_awake) fun r20 =>
        some r20)
      (fun r => some r))
def usufructref01_Is (a1 : Int) : Option (Bool) :=
  letM ((decide (a1 ≤ 1099511627776)) && (decide ((-1099511627776) ≤ a1))) fun v2 =>
  some v2
def usufructref06_counts (a1 : Int) : Option (Bool) :=
  Option.bind (gd ((decide (0 ≤ a1)) = true) (usufructref01_Is a1)) fun r2 =>
  letM ((decide (0 ≤ a1)) && r2) fun v3 =>
  some v3
def usufructref06_Right (a1 : THold) : Option (Bool) :=
  letM (((decide (0 ≤ a1.Replica)) && (decide (a1.Replica ≤ 15))) && (decide (0 < a1.Number))) fun v2 =>
  Option.bind (gd (v2 = true) (usufructref06_counts a1.Number)) fun r3 =>
  Option.bind (gd ((v2 && r3) = true) (usufructref06_counts a1.Amount)) fun r4 =>
  Option.bind (gd (((v2 && r3) && r4) = true) (usufructref06_counts a1.Due)) fun r5 =>
  letM (((((v2 && r3) && r4) && r5) && (decide (1 ≤ a1.State))) && (decide (a1.State ≤ 3))) fun v6 =>
  some v6
def hold_place_1 (a1 : THold) (a2 : Int) (a3 : Int) : Option (Bool) :=
  letM ((decide (a1.Replica = a2)) && (decide (a1.Number = a3))) fun v4 =>
  some v4
def slices_IndexFunc_Hold_place_1_L1 (a1 : List THold) (a2 : Int) (a3 : Int) (s5 : Int) : Option (Int ⊕ (Unit ⊕ Int)) :=
  if (decide (s5 < (a1.length : Int))) = true then
      Option.bind (six a1 s5) fun j7 =>
      letM (a1.getD j7 default) fun v8 =>
      Option.bind (hold_place_1 v8 a2 a3) fun r9 =>
      if r9 = true then
        some (.inr (.inr s5))
      else
        some (.inl (wr .i64 (s5 + 1)))
    else
      some (.inr (.inl ()))
def slices_IndexFunc_Hold_place_1 (a1 : List THold) (a2 : Int) (a3 : Int) : Option (Int) :=
  Option.bind (loopM (slices_IndexFunc_Hold_place_1_L1 a1 a2 a3) fuel 0) (onS (fun x6 => some (-1))
  (fun r => some r))
def hold_place (a1 : List THold) (a2 : Int) (a3 : Int) : Option (Int) :=
  Option.bind (slices_IndexFunc_Hold_place_1 a1 a2 a3) fun r4 =>
  some r4
def hold_Find (a1 : List THold) (a2 : Int) (a3 : Int) : Option (THold × Bool) :=
  Option.bind (hold_place a1 a2 a3) fun r4 =>
  if (decide (r4 < 0)) = true then
    letM (⟨0, 0, 0, 0, 0⟩ : THold) fun v5 =>
    some (v5, false)
  else
    Option.bind (six a1 r4) fun j6 =>
    letM (a1.getD j6 default) fun v7 =>
    some (v7, true)
def usufructref06_Ahead (a1 : THold) (a2 : THold) : Option (Bool) :=
  letM ((decide (a1.Replica < a2.Replica)) || ((decide (a1.Replica = a2.Replica)) && (decide (a1.Number < a2.Number)))) fun v3 =>
  some v3
def usufructref06_Rights_L1 (a1 : List THold) (s3 : Int) : Option (Int ⊕ (Unit ⊕ Bool)) :=
  if (decide (s3 < (a1.length : Int))) = true then
      Option.bind (six a1 s3) fun j5 =>
      letM (a1.getD j5 default) fun v6 =>
      Option.bind (usufructref06_Right v6) fun r7 =>
      Option.bind (gd (((!r7) = false) ∧ (decide (0 < s3)) = true) (six a1 (wr .i64 (s3 - 1)))) fun j8 =>
      Option.bind (gd (((!r7) = false) ∧ (decide (0 < s3)) = true) (six a1 s3)) fun j9 =>
      Option.bind (gd (((!r7) = false) ∧ (decide (0 < s3)) = true) (usufructref06_Ahead (a1.getD j8 default) (a1.getD j9 default))) fun r10 =>
      if ((!r7) || ((decide (0 < s3)) && (!r10))) = true then
        some (.inr (.inr false))
      else
        some (.inl (wr .i64 (s3 + 1)))
    else
      some (.inr (.inl ()))
def usufructref06_Rights (a1 : List THold) : Option (Bool) :=
  Option.bind (loopM (usufructref06_Rights_L1 a1) fuel 0) (onS (fun x4 => letM (decide ((a1.length : Int) ≤ 16)) fun v11 =>
    some v11)
  (fun r => some r))
def usufructref06_Sum_L1 (a1 : List THold) (a2 : Int) (s4 : Int × Int) : Option ((Int × Int) ⊕ Int) :=
  if (decide (s4.1 < (a1.length : Int))) = true then
      Option.bind (six a1 s4.1) fun j6 =>
      Option.bind (gd ((decide ((a1.getD j6 default).Replica = a2)) = true) (six a1 s4.1)) fun j7 =>
      letM ((decide ((a1.getD j6 default).Replica = a2)) && (decide ((a1.getD j7 default).State = 1))) fun v8 =>
      if v8 = true then
        Option.bind (six a1 s4.1) fun j9 =>
        letM (min (wr .i64 (s4.2 + (a1.getD j9 default).Amount)) 1099511627776) fun v10 =>
        some (.inl ((wr .i64 (s4.1 + 1)), v10))
      else
        some (.inl ((wr .i64 (s4.1 + 1)), s4.2))
    else
      some (.inr s4.2)
def usufructref06_Sum (a1 : List THold) (a2 : Int) : Option (Int) :=
  Option.bind (loopM (usufructref06_Sum_L1 a1 a2) fuel (0, 0)) fun x5 =>
  some x5
def usufructlaw06_HoldTells_L1 (a1 : List THold) (a2 : Int) (a3 : Int) (s7 : Int × Bool × THold) : Option ((Int × Bool × THold) ⊕ ((Bool × THold) ⊕ Bool)) :=
  if (decide (s7.1 < (a1.length : Int))) = true then
        Option.bind (six a1 s7.1) fun j9 =>
        letM (a1.getD j9 default) fun v10 =>
        Option.bind (hold_Right v10) fun r11 =>
        Option.bind (usufructref06_Right v10) fun r12 =>
        if (!(r11 == r12)) = true then
          some (.inr (.inr false))
        else
          letM (((!s7.2.1) && (decide (v10.Replica = a2))) && (decide (v10.Number = a3))) fun v13 =>
          if v13 = true then
            some (.inl ((wr .i64 (s7.1 + 1)), true, v10))
          else
            some (.inl ((wr .i64 (s7.1 + 1)), s7.2.1, s7.2.2))
      else
        some (.inr (.inl (s7.2.1, s7.2.2)))
def usufructlaw06_HoldTells (a1 : List THold) (a2 : Int) (a3 : Int) : Option (Bool) :=
  Option.bind (usufructlaw06_Few [a1]) fun r4 =>
  if (!r4) = true then
    Option.bind (usufructlaw06_awake) fun r5 =>
    some r5
  else
    Option.bind (loopM (usufructlaw06_HoldTells_L1 a1 a2 a3) fuel (0, false, (default : THold))) (onS (fun x8 => Option.bind (hold_Find a1 a2 a3) fun r14 =>
      Option.bind (hold_Rights a1) fun r15 =>
      Option.bind (usufructref06_Rights a1) fun r16 =>
      Option.bind (gd ((((r15 == r16) && (decide (r14.1 = x8.2))) && (r14.2 == x8.1)) = true) (usufructref06_Rights a1)) fun r17 =>
      Option.bind (gd (((((r15 == r16) && (decide (r14.1 = x8.2))) && (r14.2 == x8.1)) = true) ∧ (!r17) = false) (hold_Sum a1 a2)) fun r18 =>
      Option.bind (gd (((((r15 == r16) && (decide (r14.1 = x8.2))) && (r14.2 == x8.1)) = true) ∧ (!r17) = false) (usufructref06_Sum a1 a2)) fun r19 =>
      letM ((((r15 == r16) && (decide (r14.1 = x8.2))) && (r14.2 == x8.1)) && ((!r17) || (decide (r18 = r19)))) fun v20 =>
      Option.bind (gd (v20 = true) (usufructlaw06_awake)) fun r21 =>
      some (v20 && r21))
    (fun r => some r))
def usufructref06_Put_L1 (a1 : List THold) (a2 : THold) (s4 : Int) : Option (Int ⊕ Int) :=
  Option.bind (gd ((decide (s4 < (a1.length : Int))) = true) (six a1 s4)) fun j6 =>
    Option.bind (gd ((decide (s4 < (a1.length : Int))) = true) (usufructref06_Ahead (a1.getD j6 default) a2)) fun r7 =>
    if ((decide (s4 < (a1.length : Int))) && r7) = true then
      some (.inl (wr .i64 (s4 + 1)))
    else
      some (.inr s4)
def usufructref06_Put (a1 : List THold) (a2 : THold) : Option ((List THold)) :=
  Option.bind (loopM (usufructref06_Put_L1 a1 a2) fuel 0) fun x5 =>
  Option.bind (ssl a1 0 x5) fun l8 =>
    Option.bind (app 40 ([] : List THold) l8) fun l9 =>
    Option.bind (app 40 l9 [a2]) fun l10 =>
    Option.bind (ssl a1 x5 (a1.length : Int)) fun l11 =>
    Option.bind (app 40 l10 l11) fun l12 =>
    some l12
def usufructref06_Reserve_L1 (a1 : List THold) (a2 : Int) (s7 : Int × Int) : Option ((Int × Int) ⊕ Int) :=
  if (decide (s7.1 < (a1.length : Int))) = true then
        Option.bind (six a1 s7.1) fun j9 =>
        Option.bind (gd ((decide ((a1.getD j9 default).Replica = a2)) = true) (six a1 s7.1)) fun j10 =>
        letM ((decide ((a1.getD j9 default).Replica = a2)) && (decide (s7.2 < (a1.getD j10 default).Number))) fun v11 =>
        if v11 = true then
          Option.bind (six a1 s7.1) fun j12 =>
          letM ((a1.getD j12 default).Number) fun v13 =>
          some (.inl ((wr .i64 (s7.1 + 1)), v13))
        else
          some (.inl ((wr .i64 (s7.1 + 1)), s7.2))
      else
        some (.inr s7.2)
def usufructref06_Reserve (a1 : List THold) (a2 : Int) (a3 : Int) (a4 : Int) : Option ((List THold) × Int × Int) :=
  Option.bind (usufructref06_Rights a1) fun r5 =>
  if (!r5) = true then
    some (([] : List THold), 0, 1)
  else
    Option.bind (loopM (usufructref06_Reserve_L1 a1 a2) fuel (0, 0)) fun x8 =>
    letM (⟨a2, (wr .i64 (x8 + 1)), a3, a4, 1⟩ : THold) fun v14 =>
      Option.bind (usufructref06_Right v14) fun r15 =>
      if (!r15) = true then
        some (([] : List THold), 0, 1)
      else
        if (decide (16 ≤ (a1.length : Int))) = true then
          some (([] : List THold), 0, 7)
        else
          Option.bind (usufructref06_Put a1 v14) fun r16 =>
          some (r16, (wr .i64 (x8 + 1)), 0)
def hold_End (a1 : List THold) (a2 : Int) (a3 : Int) (a4 : Int) : Option ((List THold) × Int × Int) :=
  Option.bind (hold_place a1 a2 a3) fun r5 =>
  Option.bind (hold_Rights a1) fun r6 =>
  letM ((!r6) || ((!decide (a4 = 2)) && (!decide (a4 = 3)))) fun v7 =>
  if v7 = true then
    some (([] : List THold), 0, 1)
  else
    if (decide (r5 < 0)) = true then
      some (([] : List THold), 0, 10)
    else
      Option.bind (six a1 r5) fun j8 =>
      letM (!decide ((a1.getD j8 default).State = 1)) fun v9 =>
      if v9 = true then
        some (([] : List THold), 0, 12)
      else
        Option.bind (app 40 [] a1) fun l10 =>
        Option.bind (six l10 r5) fun j11 =>
        letM (l10.set j11 ({ (l10.getD j11 default) with State := a4 })) fun v12 =>
        Option.bind (six v12 r5) fun j13 =>
        letM ((v12.getD j13 default).Amount) fun v14 =>
        some (v12, v14, 0)
def usufructref06_End_L1 (a1 : List THold) (a2 : Int) (a3 : Int) (a4 : Int) (s7 : Int) : Option (Int ⊕ (Unit ⊕ ((List THold) × Int × Int))) :=
  if (decide (s7 < (a1.length : Int))) = true then
        Option.bind (six a1 s7) fun j9 =>
        Option.bind (gd ((decide ((a1.getD j9 default).Replica = a2)) = true) (six a1 s7)) fun j10 =>
        letM ((decide ((a1.getD j9 default).Replica = a2)) && (decide ((a1.getD j10 default).Number = a3))) fun v11 =>
        if v11 = true then
          Option.bind (six a1 s7) fun j12 =>
          if (!decide ((a1.getD j12 default).State = 1)) = true then
            some (.inr (.inr (([] : List THold), 0, 12)))
          else
            Option.bind (app 40 ([] : List THold) a1) fun l13 =>
            Option.bind (six l13 s7) fun j14 =>
            letM (l13.set j14 ({ (l13.getD j14 default) with State := a4 })) fun v15 =>
            Option.bind (six a1 s7) fun j16 =>
            letM ((a1.getD j16 default).Amount) fun v17 =>
            some (.inr (.inr (v15, v17, 0)))
        else
          some (.inl (wr .i64 (s7 + 1)))
      else
        some (.inr (.inl ()))
def usufructref06_End (a1 : List THold) (a2 : Int) (a3 : Int) (a4 : Int) : Option ((List THold) × Int × Int) :=
  Option.bind (usufructref06_Rights a1) fun r5 =>
  if (((!r5) || (decide (a4 < 2))) || (decide (3 < a4))) = true then
    some (([] : List THold), 0, 1)
  else
    Option.bind (loopM (usufructref06_End_L1 a1 a2 a3 a4) fuel 0) (onS (fun x8 => some (([] : List THold), 0, 10))
    (fun r => some r))
def usufructref06_Expire_L1 (a1 : List THold) (a2 : Int) (a3 : Int) (s6 : Int × Int × (List THold)) : Option ((Int × Int × (List THold)) ⊕ (Int × (List THold))) :=
  Option.bind (gd ((decide (s6.1 < (a1.length : Int))) = true) (usufructref06_Rights a1)) fun r8 =>
    if ((decide (s6.1 < (a1.length : Int))) && r8) = true then
      Option.bind (six a1 s6.1) fun j9 =>
      Option.bind (gd ((decide ((a1.getD j9 default).Replica = a2)) = true) (six a1 s6.1)) fun j10 =>
      letM ((decide ((a1.getD j9 default).Replica = a2)) && (decide ((a1.getD j10 default).State = 1))) fun v11 =>
      Option.bind (gd (v11 = true) (six a1 s6.1)) fun j12 =>
      if (v11 && (decide ((a1.getD j12 default).Due < a3))) = true then
        Option.bind (six s6.2.2 s6.1) fun j13 =>
        letM (s6.2.2.set j13 ({ (s6.2.2.getD j13 default) with State := 3 })) fun v14 =>
        some (.inl ((wr .i64 (s6.1 + 1)), (wr .i64 (s6.2.1 + 1)), v14))
      else
        some (.inl ((wr .i64 (s6.1 + 1)), s6.2.1, s6.2.2))
    else
      some (.inr (s6.2.1, s6.2.2))
def usufructref06_Expire (a1 : List THold) (a2 : Int) (a3 : Int) : Option ((List THold) × Int) :=
  Option.bind (app 40 ([] : List THold) a1) fun l4 =>
  Option.bind (loopM (usufructref06_Expire_L1 a1 a2 a3) fuel (0, 0, l4)) fun x7 =>
  some (x7.2, x7.1)
def usufructlaw06_HoldDoes (a1 : List THold) (a2 : Int) (a3 : Int) (a4 : Int) : Option (Bool) :=
  Option.bind (usufructlaw06_Few [a1]) fun r5 =>
  if (!r5) = true then
    Option.bind (usufructlaw06_awake) fun r6 =>
    some r6
  else
    Option.bind (app 40 ([] : List THold) a1) fun l7 =>
    Option.bind (hold_Reserve l7 a2 a3 a4) fun r8 =>
    Option.bind (usufructref06_Reserve a1 a2 a3 a4) fun r9 =>
    Option.bind (hold_End l7 a2 a3 a4) fun r10 =>
    Option.bind (usufructref06_End a1 a2 a3 a4) fun r11 =>
    Option.bind (hold_Expire l7 a2 a4) fun r12 =>
    Option.bind (usufructref06_Expire a1 a2 a4) fun r13 =>
    Option.bind (usufructlaw06_Same r8.1 r9.1) fun r14 =>
    Option.bind (gd (((r14 && (decide (r8.2.1 = r9.2.1))) && (decide (r8.2.2 = r9.2.2))) = true) (usufructlaw06_Same r10.1 r11.1)) fun r15 =>
    letM (((r14 && (decide (r8.2.1 = r9.2.1))) && (decide (r8.2.2 = r9.2.2))) && r15) fun v16 =>
    letM ((v16 && (decide (r10.2.1 = r11.2.1))) && (decide (r10.2.2 = r11.2.2))) fun v17 =>
    Option.bind (gd (v17 = true) (usufructlaw06_Same r12.1 r13.1)) fun r18 =>
    Option.bind (gd (((v17 && r18) && (decide (r12.2 = r13.2))) = true) (usufructlaw06_Same l7 a1)) fun r19 =>
    Option.bind (gd ((((v17 && r18) && (decide (r12.2 = r13.2))) && r19) = true) (usufructlaw06_awake)) fun r20 =>
    letM ((((v17 && r18) && (decide (r12.2 = r13.2))) && r19) && r20) fun v21 =>
    some v21
def hold_Join_L1 (a1 : List THold) (s7 : Int × (AMap (Vector Int 2) Int okInts)) : Option ((Int × (AMap (Vector Int 2) Int okInts)) ⊕ ((AMap (Vector Int 2) Int okInts))) :=
  if (decide (s7.1 < (a1.length : Int))) = true then
        Option.bind (six a1 s7.1) fun j9 =>
        letM (a1.getD j9 default) fun v10 =>
        Option.bind (AMap.put s7.2 (#v[v10.Replica, v10.Number] : Vector Int 2) s7.1) fun p11 =>
        some (.inl ((wr .i64 (s7.1 + 1)), p11))
      else
        some (.inr s7.2)
def hold_Join_L2 (a2 : List THold) (x8 : (AMap (Vector Int 2) Int okInts)) (s13 : Int × (List THold)) : Option ((Int × (List THold)) ⊕ (((List THold)) ⊕ ((List THold) × Int))) :=
  if (decide (s13.1 < (a2.length : Int))) = true then
          Option.bind (six a2 s13.1) fun j15 =>
          letM (a2.getD j15 default) fun v16 =>
          Option.bind (AMap.get x8 (#v[v16.Replica, v16.Number] : Vector Int 2)) fun o17 =>
          if (!o17.isSome) = true then
            Option.bind (app 40 s13.2 [v16]) fun l18 =>
            some (.inl ((wr .i64 (s13.1 + 1)), l18))
          else
            Option.bind (six s13.2 (o17.getD default)) fun j19 =>
            Option.bind (gd ((!decide ((s13.2.getD j19 default).Amount = v16.Amount)) = false) (six s13.2 (o17.getD default))) fun j20 =>
            letM ((!decide ((s13.2.getD j19 default).Amount = v16.Amount)) || (!decide ((s13.2.getD j20 default).Due = v16.Due))) fun v21 =>
            if v21 = true then
              some (.inr (.inr (([] : List THold), 1)))
            else
              Option.bind (six s13.2 (o17.getD default)) fun j22 =>
              Option.bind (six s13.2 (o17.getD default)) fun j23 =>
              letM (s13.2.set j23 ({ (s13.2.getD j23 default) with State := (max ((s13.2.getD j22 default).State) v16.State) })) fun v24 =>
              some (.inl ((wr .i64 (s13.1 + 1)), v24))
        else
          some (.inr (.inl s13.2))
def hold_Join (a1 : List THold) (a2 : List THold) : Option ((List THold) × Int) :=
  Option.bind (hold_Rights a1) fun r3 =>
  Option.bind (gd ((!r3) = false) (hold_Rights a2)) fun r4 =>
  if ((!r3) || (!r4)) = true then
    some (([] : List THold), 1)
  else
    Option.bind (app 40 [] a1) fun l5 =>
    Option.bind (loopM (hold_Join_L1 a1) fuel (0, (AMap.empty : AMap (Vector Int 2) Int okInts))) fun x8 =>
    Option.bind (loopM (hold_Join_L2 a2 x8) fuel (0, l5)) (onS (fun x14 => if (decide (16 < ((x14.length : Nat) : Int))) = true then
          some (([] : List THold), 7)
        else
          Option.bind (sortM holdCmp x14) fun l25 =>
          some (l25, 0))
      (fun r => some r))
def usufructref06_Put_own_L1 (a1 : List THold) (a2 : THold) (s4 : Int) : Option (Int ⊕ Int) :=
  Option.bind (gd ((decide (s4 < (a1.length : Int))) = true) (six a1 s4)) fun j6 =>
    Option.bind (gd ((decide (s4 < (a1.length : Int))) = true) (usufructref06_Ahead (a1.getD j6 default) a2)) fun r7 =>
    if ((decide (s4 < (a1.length : Int))) && r7) = true then
      some (.inl (wr .i64 (s4 + 1)))
    else
      some (.inr s4)
def usufructref06_Put_own (a1 : List THold) (a2 : THold) : Option ((List THold)) :=
  Option.bind (loopM (usufructref06_Put_own_L1 a1 a2) fuel 0) fun x5 =>
  Option.bind (ssl a1 0 x5) fun l8 =>
    Option.bind (app 40 ([] : List THold) l8) fun l9 =>
    Option.bind (app 40 l9 [a2]) fun l10 =>
    Option.bind (ssl a1 x5 (a1.length : Int)) fun l11 =>
    Option.bind (app 40 l10 l11) fun l12 =>
    some l12
def usufructref06_Join_L2 (a2 : List THold) (s7 : Int × (List THold)) (s10 : Int × Int) : Option ((Int × Int) ⊕ (Bool × Int × Int × Int)) :=
  if (decide (s10.1 < ((s7.2.length : Nat) : Int))) = true then
            Option.bind (six s7.2 s10.1) fun j12 =>
            Option.bind (six a2 s7.1) fun j13 =>
            Option.bind (gd ((decide ((s7.2.getD j12 default).Replica = (a2.getD j13 default).Replica)) = true) (six s7.2 s10.1)) fun j14 =>
            Option.bind (gd ((decide ((s7.2.getD j12 default).Replica = (a2.getD j13 default).Replica)) = true) (six a2 s7.1)) fun j15 =>
            letM ((decide ((s7.2.getD j12 default).Replica = (a2.getD j13 default).Replica)) && (decide ((s7.2.getD j14 default).Number = (a2.getD j15 default).Number))) fun v16 =>
            if v16 = true then
              some (.inl ((wr .i64 (s10.1 + 1)), s10.1))
            else
              some (.inl ((wr .i64 (s10.1 + 1)), s10.2))
          else
            some (.inr ((decide (s10.1 < ((s7.2.length : Nat) : Int))), s10.1, s10.1, s10.2))
def usufructref06_Join_L1 (a2 : List THold) (s7 : Int × (List THold)) : Option ((Int × (List THold)) ⊕ (((List THold)) ⊕ ((List THold) × Int))) :=
  if (decide (s7.1 < (a2.length : Int))) = true then
        Option.bind (loopM (usufructref06_Join_L2 a2 s7) fuel (0, (-1))) fun x11 =>
        if (decide (x11.2.2.2 < 0)) = true then
            Option.bind (six a2 s7.1) fun j17 =>
            letM (a2.getD j17 default) fun v18 =>
            Option.bind (usufructref06_Put_own s7.2 v18) fun r19 =>
            some (.inl ((wr .i64 (s7.1 + 1)), r19))
          else
            Option.bind (six s7.2 x11.2.2.2) fun j20 =>
            Option.bind (six a2 s7.1) fun j21 =>
            Option.bind (gd ((!decide ((s7.2.getD j20 default).Amount = (a2.getD j21 default).Amount)) = false) (six s7.2 x11.2.2.2)) fun j22 =>
            Option.bind (gd ((!decide ((s7.2.getD j20 default).Amount = (a2.getD j21 default).Amount)) = false) (six a2 s7.1)) fun j23 =>
            letM ((!decide ((s7.2.getD j20 default).Amount = (a2.getD j21 default).Amount)) || (!decide ((s7.2.getD j22 default).Due = (a2.getD j23 default).Due))) fun v24 =>
            if v24 = true then
              some (.inr (.inr (([] : List THold), 1)))
            else
              Option.bind (six s7.2 x11.2.2.2) fun j25 =>
              Option.bind (six a2 s7.1) fun j26 =>
              Option.bind (six s7.2 x11.2.2.2) fun j27 =>
              letM (s7.2.set j27 ({ (s7.2.getD j27 default) with State := (max ((s7.2.getD j25 default).State) ((a2.getD j26 default).State)) })) fun v28 =>
              some (.inl ((wr .i64 (s7.1 + 1)), v28))
      else
        some (.inr (.inl s7.2))
def usufructref06_Join (a1 : List THold) (a2 : List THold) : Option ((List THold) × Int) :=
  Option.bind (usufructref06_Rights a1) fun r3 =>
  Option.bind (gd ((!r3) = false) (usufructref06_Rights a2)) fun r4 =>
  if ((!r3) || (!r4)) = true then
    some (([] : List THold), 1)
  else
    Option.bind (app 40 ([] : List THold) a1) fun l5 =>
    Option.bind (loopM (usufructref06_Join_L1 a2) fuel (0, l5)) (onS (fun x8 => if (decide (16 < ((x8.length : Nat) : Int))) = true then
        some (([] : List THold), 7)
      else
        some (x8, 0))
    (fun r => some r))
def usufructlaw06_HoldJoins (a1 : List THold) (a2 : List THold) : Option (Bool) :=
  Option.bind (usufructlaw06_Few [a1, a2]) fun r3 =>
  if (!r3) = true then
    Option.bind (usufructlaw06_awake) fun r4 =>
    some r4
  else
    Option.bind (hold_Join a1 a2) fun r5 =>
    Option.bind (usufructref06_Join a1 a2) fun r6 =>
    Option.bind (usufructlaw06_Same r5.1 r6.1) fun r7 =>
    Option.bind (gd ((r7 && (decide (r5.2 = r6.2))) = true) (usufructlaw06_awake)) fun r8 =>
    letM ((r7 && (decide (r5.2 = r6.2))) && r8) fun v9 =>
    some v9
def usufructlaw06_HoldLaws (a1 : List THold) (a2 : List THold) (a3 : List THold) : Option (Bool) :=
  Option.bind (usufructlaw06_Few [a1, a2, a3]) fun r4 =>
  if (!r4) = true then
    Option.bind (usufructlaw06_awake) fun r5 =>
    some r5
  else
    Option.bind (hold_Join a1 a2) fun r6 =>
    Option.bind (hold_Join a2 a1) fun r7 =>
    Option.bind (hold_Join a1 a1) fun r8 =>
    Option.bind (usufructlaw06_Same r6.1 r7.1) fun r9 =>
    Option.bind (gd ((((!r9) || (!decide (r6.2 = r7.2))) = false) ∧ (decide (r8.2 = 0)) = true) (usufructlaw06_Same r8.1 a1)) fun r10 =>
    letM (((!r9) || (!decide (r6.2 = r7.2))) || ((decide (r8.2 = 0)) && (!r10))) fun v11 =>
    Option.bind (gd (v11 = false) (usufructref06_Rights a1)) fun r12 =>
    if (v11 || (!((decide (r8.2 = 0)) == r12))) = true then
      some false
    else
      if (!decide (r6.2 = 0)) = true then
        Option.bind (gd ((decide ((r6.1.length : Int) = 0)) = true) (usufructlaw06_awake)) fun r13 =>
        letM ((decide ((r6.1.length : Int) = 0)) && r13) fun v14 =>
        some v14
      else
        Option.bind (hold_Join r6.1 a3) fun r15 =>
        Option.bind (hold_Join a2 a3) fun r16 =>
        if (!decide (r16.2 = 0)) = true then
          Option.bind (gd ((!decide (r15.2 = 0)) = true) (usufructlaw06_awake)) fun r17 =>
          letM ((!decide (r15.2 = 0)) && r17) fun v18 =>
          some v18
        else
          Option.bind (hold_Join a1 r16.1) fun r19 =>
          Option.bind (usufructlaw06_Same r15.1 r19.1) fun r20 =>
          Option.bind (gd ((r20 && (decide (r15.2 = r19.2))) = true) (hold_Rights r6.1)) fun r21 =>
          Option.bind (gd (((r20 && (decide (r15.2 = r19.2))) && r21) = true) (usufructlaw06_awake)) fun r22 =>
          letM (((r20 && (decide (r15.2 = r19.2))) && r21) && r22) fun v23 =>
          some v23
def usufructlaw06_HoldStays (a1 : List THold) (a2 : Int) (a3 : Int) (a4 : Int) : Option (Bool) :=
  Option.bind (usufructlaw06_Few [a1]) fun r5 =>
  Option.bind (gd ((!r5) = false) (usufructref06_Rights a1)) fun r6 =>
  if ((!r5) || (!r6)) = true then
    Option.bind (usufructlaw06_awake) fun r7 =>
    some r7
  else
    Option.bind (hold_Find a1 a2 a3) fun r8 =>
    if ((!r8.2) || (decide (r8.1.State = 1))) = true then
      Option.bind (usufructlaw06_awake) fun r9 =>
      some r9
    else
      Option.bind (hold_End a1 a2 a3 2) fun r10 =>
      Option.bind (hold_End a1 a2 a3 3) fun r11 =>
      Option.bind (hold_Expire a1 a2 a4) fun r12 =>
      Option.bind (hold_Find r12.1 a2 a3) fun r13 =>
      letM (((decide (r10.2.2 = 12)) && (decide (r11.2.2 = 12))) && (decide (r13.1 = r8.1))) fun v14 =>
      Option.bind (gd ((v14 && r13.2) = true) (usufructlaw06_awake)) fun r15 =>
      some ((v14 && r13.2) && r15)
def usufructlaw06_HoldNew_L1 (a1 : List THold) (s10 : Int) : Option (Int ⊕ (Unit ⊕ Bool)) :=
  if (decide (s10 < (a1.length : Int))) = true then
        Option.bind (six a1 s10) fun j12 =>
        letM (a1.getD j12 default) fun v13 =>
        if (decide (1073741824 < v13.Amount)) = true then
          Option.bind (usufructlaw06_awake) fun r14 =>
          some (.inr (.inr r14))
        else
          some (.inl (wr .i64 (s10 + 1)))
      else
        some (.inr (.inl ()))
def usufructlaw06_HoldNew (a1 : List THold) (a2 : Int) (a3 : Int) (a4 : Int) (a5 : Bool) : Option (Bool) :=
  Option.bind (usufructlaw06_Few [a1]) fun r6 =>
  Option.bind (gd ((!r6) = false) (usufructref06_Rights a1)) fun r7 =>
  if (((!r6) || (!r7)) || (decide (1073741824 < a3))) = true then
    Option.bind (usufructlaw06_awake) fun r8 =>
    some r8
  else
    Option.bind (loopM (usufructlaw06_HoldNew_L1 a1) fuel 0) (onS (fun x11 => Option.bind (hold_Reserve a1 a2 a3 a4) fun r15 =>
      if (!decide (r15.2.2 = 0)) = true then
        Option.bind (gd (((decide ((r15.1.length : Int) = 0)) && (decide (r15.2.1 = 0))) = true) (usufructlaw06_awake)) fun r16 =>
        letM (((decide ((r15.1.length : Int) = 0)) && (decide (r15.2.1 = 0))) && r16) fun v17 =>
        some v17
      else
        Option.bind (hold_Find a1 a2 r15.2.1) fun r18 =>
        Option.bind (hold_Find r15.1 a2 r15.2.1) fun r19 =>
        if a5 = true then
          Option.bind (hold_End r15.1 a2 r15.2.1 2) fun r20 =>
          letM (((!r18.2) && r19.2) && (decide (r19.1 = (⟨a2, r15.2.1, a3, a4, 1⟩ : THold)))) fun v21 =>
          letM (v21 && (decide ((r15.1.length : Int) = (wr .i64 ((a1.length : Int) + 1))))) fun v22 =>
          Option.bind (gd (v22 = true) (hold_Sum r15.1 a2)) fun r23 =>
          Option.bind (gd (v22 = true) (hold_Sum a1 a2)) fun r24 =>
          letM ((v22 && (decide (r23 = (wr .i64 (r24 + a3))))) && (decide (r20.2.2 = 0))) fun v25 =>
          Option.bind (gd ((v25 && (decide (r20.2.1 = a3))) = true) (hold_Sum r20.1 a2)) fun r26 =>
          Option.bind (gd ((v25 && (decide (r20.2.1 = a3))) = true) (hold_Sum a1 a2)) fun r27 =>
          Option.bind (gd (((v25 && (decide (r20.2.1 = a3))) && (decide (r26 = r27))) = true) (hold_Rights r15.1)) fun r28 =>
          Option.bind (gd ((((v25 && (decide (r20.2.1 = a3))) && (decide (r26 = r27))) && r28) = true) (hold_Rights r20.1)) fun r29 =>
          letM ((((v25 && (decide (r20.2.1 = a3))) && (decide (r26 = r27))) && r28) && r29) fun v30 =>
          Option.bind (gd (v30 = true) (usufructlaw06_awake)) fun r31 =>
          some (v30 && r31)
        else
          Option.bind (hold_End r15.1 a2 r15.2.1 3) fun r32 =>
          letM (((!r18.2) && r19.2) && (decide (r19.1 = (⟨a2, r15.2.1, a3, a4, 1⟩ : THold)))) fun v33 =>
          letM (v33 && (decide ((r15.1.length : Int) = (wr .i64 ((a1.length : Int) + 1))))) fun v34 =>
          Option.bind (gd (v34 = true) (hold_Sum r15.1 a2)) fun r35 =>
          Option.bind (gd (v34 = true) (hold_Sum a1 a2)) fun r36 =>
          letM ((v34 && (decide (r35 = (wr .i64 (r36 + a3))))) && (decide (r32.2.2 = 0))) fun v37 =>
          Option.bind (gd ((v37 && (decide (r32.2.1 = a3))) = true) (hold_Sum r32.1 a2)) fun r38 =>
          Option.bind (gd ((v37 && (decide (r32.2.1 = a3))) = true) (hold_Sum a1 a2)) fun r39 =>
          Option.bind (gd (((v37 && (decide (r32.2.1 = a3))) && (decide (r38 = r39))) = true) (hold_Rights r15.1)) fun r40 =>
          Option.bind (gd ((((v37 && (decide (r32.2.1 = a3))) && (decide (r38 = r39))) && r40) = true) (hold_Rights r32.1)) fun r41 =>
          letM ((((v37 && (decide (r32.2.1 = a3))) && (decide (r38 = r39))) && r40) && r41) fun v42 =>
          Option.bind (gd (v42 = true) (usufructlaw06_awake)) fun r43 =>
          some (v42 && r43))
    (fun r => some r))
end Go.Av
