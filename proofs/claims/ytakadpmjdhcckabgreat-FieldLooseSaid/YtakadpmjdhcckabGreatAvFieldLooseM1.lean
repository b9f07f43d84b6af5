/- What the functions tell, as plain functions on typed values. -/
import Derived.Test.YtakadpmjdhcckabGreatAvFieldLooseK2
namespace Go.Av
set_option linter.unusedSectionVars false
set_option linter.unusedSimpArgs false
set_option linter.unusedVariables false
structure Tusufructlaw07_Do where
  Verb : Int
  I : Int
  K : Int
  N : Int
  M : Int
  deriving DecidableEq, Inhabited
abbrev E_Tusufructlaw07_Do (x : Tusufructlaw07_Do) : V := .st [(V.int .i64) x.Verb, (V.int .i64) x.I, (V.int .i64) x.K, (V.int .i64) x.N, (V.int .i64) x.M]
theorem ty_Tusufructlaw07_Do : TyOk E_Tusufructlaw07_Do 5 true := ⟨fun x => fl_st (flL_c ((TyOk.int .i64).fl _) (flL_c ((TyOk.int .i64).fl _) (flL_c ((TyOk.int .i64).fl _) (flL_c ((TyOk.int .i64).fl _) (flL_c ((TyOk.int .i64).fl _) flL_nil))))), fun _ => rfl, fun _ => rfl, fun x m => lt_st (ltL_c ((TyOk.int .i64).lt _ _) (ltL_c ((TyOk.int .i64).lt _ _) (ltL_c ((TyOk.int .i64).lt _ _) (ltL_c ((TyOk.int .i64).lt _ _) (ltL_c ((TyOk.int .i64).lt _ _) ltL_nil))))), fun _ => rfl⟩
abbrev E_A16_i64 (x : Vector Int 16) : V := .arr 1 (x.toList.map (V.int .i64))
theorem ty_A16_i64 : TyOk E_A16_i64 16 true := TyOk.arr (k := 16) (TyOk.int .i64)
abbrev E_A16_A16_i64 (x : Vector (Vector Int 16) 16) : V := .arr 16 (x.toList.map E_A16_i64)
theorem ty_A16_A16_i64 : TyOk E_A16_A16_i64 256 true := TyOk.arr (k := 16) ty_A16_i64
structure TRights where
  Given : Vector Int 16
  Used : Vector Int 16
  Moved : Vector (Vector Int 16) 16
  deriving DecidableEq, Inhabited
abbrev E_TRights (x : TRights) : V := .st [E_A16_i64 x.Given, E_A16_i64 x.Used, E_A16_A16_i64 x.Moved]
theorem ty_TRights : TyOk E_TRights 288 true := ⟨fun x => fl_st (flL_c (ty_A16_i64.fl _) (flL_c (ty_A16_i64.fl _) (flL_c (ty_A16_A16_i64.fl _) flL_nil))), fun _ => rfl, fun _ => rfl, fun x m => lt_st (ltL_c (ty_A16_i64.lt _ _) (ltL_c (ty_A16_i64.lt _ _) (ltL_c (ty_A16_A16_i64.lt _ _) ltL_nil))), fun _ => rfl⟩
structure TCounter where
  Init : Int
  Low : Int
  High : Int
  Down : TRights
  Up : TRights
  deriving DecidableEq, Inhabited
abbrev E_TCounter (x : TCounter) : V := .st [(V.int .i64) x.Init, (V.int .i64) x.Low, (V.int .i64) x.High, E_TRights x.Down, E_TRights x.Up]
theorem ty_TCounter : TyOk E_TCounter 579 true := ⟨fun x => fl_st (flL_c ((TyOk.int .i64).fl _) (flL_c ((TyOk.int .i64).fl _) (flL_c ((TyOk.int .i64).fl _) (flL_c (ty_TRights.fl _) (flL_c (ty_TRights.fl _) flL_nil))))), fun _ => rfl, fun _ => rfl, fun x m => lt_st (ltL_c ((TyOk.int .i64).lt _ _) (ltL_c ((TyOk.int .i64).lt _ _) (ltL_c ((TyOk.int .i64).lt _ _) (ltL_c (ty_TRights.lt _ _) (ltL_c (ty_TRights.lt _ _) ltL_nil))))), fun _ => rfl⟩
structure TLock where
  Seq : Int
  Ver : Int
  Holder : Int
  Value : Int
  deriving DecidableEq, Inhabited
abbrev E_TLock (x : TLock) : V := .st [(V.int .i64) x.Seq, (V.int .i64) x.Ver, (V.int .i64) x.Holder, (V.int .i64) x.Value]
theorem ty_TLock : TyOk E_TLock 4 true := ⟨fun x => fl_st (flL_c ((TyOk.int .i64).fl _) (flL_c ((TyOk.int .i64).fl _) (flL_c ((TyOk.int .i64).fl _) (flL_c ((TyOk.int .i64).fl _) flL_nil)))), fun _ => rfl, fun _ => rfl, fun x m => lt_st (ltL_c ((TyOk.int .i64).lt _ _) (ltL_c ((TyOk.int .i64).lt _ _) (ltL_c ((TyOk.int .i64).lt _ _) (ltL_c ((TyOk.int .i64).lt _ _) ltL_nil)))), fun _ => rfl⟩
structure THold where
  Replica : Int
  Number : Int
  Amount : Int
  Due : Int
  State : Int
  deriving DecidableEq, Inhabited
abbrev E_THold (x : THold) : V := .st [(V.int .i64) x.Replica, (V.int .i64) x.Number, (V.int .i64) x.Amount, (V.int .i64) x.Due, (V.int .i64) x.State]
theorem ty_THold : TyOk E_THold 5 true := ⟨fun x => fl_st (flL_c ((TyOk.int .i64).fl _) (flL_c ((TyOk.int .i64).fl _) (flL_c ((TyOk.int .i64).fl _) (flL_c ((TyOk.int .i64).fl _) (flL_c ((TyOk.int .i64).fl _) flL_nil))))), fun _ => rfl, fun _ => rfl, fun x m => lt_st (ltL_c ((TyOk.int .i64).lt _ _) (ltL_c ((TyOk.int .i64).lt _ _) (ltL_c ((TyOk.int .i64).lt _ _) (ltL_c ((TyOk.int .i64).lt _ _) (ltL_c ((TyOk.int .i64).lt _ _) ltL_nil))))), fun _ => rfl⟩
abbrev E_S_THold (x : List THold) : V := .sl 5 .no (x.map E_THold)
theorem ty_S_THold : TyOk E_S_THold 1 false := TyOk.sl ty_THold
structure TField where
  Name : ByteArray
  Kind : Int
  Epoch : Int
  Counter : TCounter
  Lock : TLock
  Holds : List THold
  deriving DecidableEq, Inhabited
abbrev E_TField (x : TField) : V := .st [V.str x.Name, (V.int .i64) x.Kind, (V.int .i64) x.Epoch, E_TCounter x.Counter, E_TLock x.Lock, E_S_THold x.Holds]
theorem ty_TField : TyOk E_TField 587 true := ⟨fun x => fl_st (flL_c (TyOk.str.fl _) (flL_c ((TyOk.int .i64).fl _) (flL_c ((TyOk.int .i64).fl _) (flL_c (ty_TCounter.fl _) (flL_c (ty_TLock.fl _) (flL_c (ty_S_THold.fl _) flL_nil)))))), fun _ => rfl, fun _ => rfl, fun x m => lt_st (ltL_c (TyOk.str.lt _ _) (ltL_c ((TyOk.int .i64).lt _ _) (ltL_c ((TyOk.int .i64).lt _ _) (ltL_c (ty_TCounter.lt _ _) (ltL_c (ty_TLock.lt _ _) (ltL_c (ty_S_THold.lt _ _) ltL_nil)))))), fun _ => rfl⟩
abbrev E_S_i64 (x : List Int) : V := .sl 1 .no (x.map (V.int .i64))
theorem ty_S_i64 : TyOk E_S_i64 1 false := TyOk.sl (TyOk.int .i64)
abbrev E_A2_i64 (x : Vector Int 2) : V := .arr 1 (x.toList.map (V.int .i64))
theorem ty_A2_i64 : TyOk E_A2_i64 2 true := TyOk.arr (k := 2) (TyOk.int .i64)
abbrev E_A2_A2_i64 (x : Vector (Vector Int 2) 2) : V := .arr 2 (x.toList.map E_A2_i64)
theorem ty_A2_A2_i64 : TyOk E_A2_A2_i64 4 true := TyOk.arr (k := 2) ty_A2_i64
theorem eqk_TLock : EqOk E_TLock := ⟨fun x y => eqv_st (eqv_c ((eqk_int _).is _ _) (eqv_c ((eqk_int _).is _ _) (eqv_c ((eqk_int _).is _ _) (eqv_c ((eqk_int _).is _ _) eqv_nil)))) (by cases x; cases y; simp [Bool.decide_and])⟩
theorem shk_TLock : ShOk E_TLock (.st [(0, .int .i64), (1, .int .i64), (2, .int .i64), (3, .int .i64)] 4) := ⟨fun x => hasSh_st (flL_c ((TyOk.int .i64).fl x.Seq) (flL_c ((TyOk.int .i64).fl x.Ver) (flL_c ((TyOk.int .i64).fl x.Holder) (flL_c ((TyOk.int .i64).fl x.Value) flL_nil)))) (hasShF_c rfl ((shk_int _).is _) ((TyOk.int .i64).fl x.Seq) (hasShF_c rfl ((shk_int _).is _) ((TyOk.int .i64).fl x.Ver) (hasShF_c rfl ((shk_int _).is _) ((TyOk.int .i64).fl x.Holder) (hasShF_c rfl ((shk_int _).is _) ((TyOk.int .i64).fl x.Value) hasShF_nil))))⟩
theorem eqk_A16_i64 : EqOk E_A16_i64 := eqk_arr (eqk_int _)
theorem shk_A16_i64 : ShOk E_A16_i64 (.arr 16 1 (.int .i64)) := shk_arr (shk_int _)
theorem eqk_A16_A16_i64 : EqOk E_A16_A16_i64 := eqk_arr eqk_A16_i64
theorem shk_A16_A16_i64 : ShOk E_A16_A16_i64 (.arr 16 16 (.arr 16 1 (.int .i64))) := shk_arr shk_A16_i64
theorem eqk_TRights : EqOk E_TRights := ⟨fun x y => eqv_st (eqv_c (eqk_A16_i64.is _ _) (eqv_c (eqk_A16_i64.is _ _) (eqv_c (eqk_A16_A16_i64.is _ _) eqv_nil))) (by cases x; cases y; simp [Bool.decide_and])⟩
theorem shk_TRights : ShOk E_TRights (.st [(0, .arr 16 1 (.int .i64)), (16, .arr 16 1 (.int .i64)), (32, .arr 16 16 (.arr 16 1 (.int .i64)))] 288) := ⟨fun x => hasSh_st (flL_c (ty_A16_i64.fl x.Given) (flL_c (ty_A16_i64.fl x.Used) (flL_c (ty_A16_A16_i64.fl x.Moved) flL_nil))) (hasShF_c rfl (shk_A16_i64.is _) (ty_A16_i64.fl x.Given) (hasShF_c rfl (shk_A16_i64.is _) (ty_A16_i64.fl x.Used) (hasShF_c rfl (shk_A16_A16_i64.is _) (ty_A16_A16_i64.fl x.Moved) hasShF_nil)))⟩
theorem eqk_TCounter : EqOk E_TCounter := ⟨fun x y => eqv_st (eqv_c ((eqk_int _).is _ _) (eqv_c ((eqk_int _).is _ _) (eqv_c ((eqk_int _).is _ _) (eqv_c (eqk_TRights.is _ _) (eqv_c (eqk_TRights.is _ _) eqv_nil))))) (by cases x; cases y; simp [Bool.decide_and])⟩
theorem shk_TCounter : ShOk E_TCounter (.st [(0, .int .i64), (1, .int .i64), (2, .int .i64), (3, .st [(0, .arr 16 1 (.int .i64)), (16, .arr 16 1 (.int .i64)), (32, .arr 16 16 (.arr 16 1 (.int .i64)))] 288), (291, .st [(0, .arr 16 1 (.int .i64)), (16, .arr 16 1 (.int .i64)), (32, .arr 16 16 (.arr 16 1 (.int .i64)))] 288)] 579) := ⟨fun x => hasSh_st (flL_c ((TyOk.int .i64).fl x.Init) (flL_c ((TyOk.int .i64).fl x.Low) (flL_c ((TyOk.int .i64).fl x.High) (flL_c (ty_TRights.fl x.Down) (flL_c (ty_TRights.fl x.Up) flL_nil))))) (hasShF_c rfl ((shk_int _).is _) ((TyOk.int .i64).fl x.Init) (hasShF_c rfl ((shk_int _).is _) ((TyOk.int .i64).fl x.Low) (hasShF_c rfl ((shk_int _).is _) ((TyOk.int .i64).fl x.High) (hasShF_c rfl (shk_TRights.is _) (ty_TRights.fl x.Down) (hasShF_c rfl (shk_TRights.is _) (ty_TRights.fl x.Up) hasShF_nil)))))⟩
abbrev E_A16_TField (x : Vector TField 16) : V := .arr 587 (x.toList.map E_TField)
theorem ty_A16_TField : TyOk E_A16_TField 9392 true := TyOk.arr (k := 16) ty_TField
abbrev E_A4_A2_i64 (x : Vector (Vector Int 2) 4) : V := .arr 2 (x.toList.map E_A2_i64)
theorem ty_A4_A2_i64 : TyOk E_A4_A2_i64 8 true := TyOk.arr (k := 4) ty_A2_i64
def num_Is (a1 : Int) : Option (Bool) :=
  letM ((decide ((-1099511627776) ≤ a1)) && (decide (a1 ≤ 1099511627776))) fun v2 =>
  some v2
def num_checked_L1 (l3 : List Int) (s5 : Int) : Option (Int ⊕ (Unit ⊕ (Int × Int))) :=
  if (decide (s5 < (l3.length : Int))) = true then
      Option.bind (six l3 s5) fun j7 =>
      Option.bind (num_Is (l3.getD j7 default)) fun r8 =>
      if (!r8) = true then
        some (.inr (.inr (0, 2)))
      else
        some (.inl (wr .i64 (s5 + 1)))
    else
      some (.inr (.inl ()))
def num_checked (a1 : Int) (a2 : List Int) : Option (Int × Int) :=
  Option.bind (app 8 a2 [a1]) fun l3 =>
  Option.bind (loopM (num_checked_L1 l3) fuel 0) (onS (fun x6 => some (a1, 0))
  (fun r => some r))
def num_Sub (a1 : Int) (a2 : Int) : Option (Int × Int) :=
  Option.bind (num_checked (wr .i64 (a1 - a2)) [a1, a2]) fun r3 =>
  some (r3.1, r3.2)
def counter_New (a1 : Int) (a2 : Int) (a3 : Int) : Option (TCounter × Int) :=
  letM (⟨a1, a2, a3, (default : TRights), (default : TRights)⟩ : TCounter) fun v4 =>
  Option.bind (num_Sub a1 a2) fun r5 =>
  Option.bind (num_Sub a3 a1) fun r6 =>
  Option.bind (num_Sub a3 a2) fun r7 =>
  letM (((!decide (r5.2 = 0)) || (!decide (r6.2 = 0))) || (!decide (r7.2 = 0))) fun v8 =>
  if ((v8 || (decide (r5.1 < 0))) || (decide (r6.1 < 0))) = true then
    letM (⟨0, 0, 0, (default : TRights), (default : TRights)⟩ : TCounter) fun v9 =>
    some (v9, 2)
  else
    Option.bind (fix_ 16 0) fun k10 =>
    letM ({ v4 with Down := { v4.Down with Given := (v4.Down.Given.set k10.val r5.1) } }) fun v11 =>
    Option.bind (fix_ 16 0) fun k12 =>
    letM ({ v11 with Up := { v11.Up with Given := (v11.Up.Given.set k12.val r6.1) } }) fun v13 =>
    some (v13, 0)
def field_Name_L1 (a1 : ByteArray) (s3 : Int) : Option (Int ⊕ (Unit ⊕ Bool)) :=
  if (decide (s3 < (a1.size : Int))) = true then
      Option.bind (bix a1 s3) fun n5 =>
      Option.bind (gd ((decide (n5 < 33)) = false) (bix a1 s3)) fun n6 =>
      if ((decide (n5 < 33)) || (decide (126 < n6))) = true then
        some (.inr (.inr false))
      else
        some (.inl (wr .i64 (s3 + 1)))
    else
      some (.inr (.inl ()))
def field_Name (a1 : ByteArray) : Option (Bool) :=
  Option.bind (loopM (field_Name_L1 a1) fuel 0) (onS (fun x4 => letM ((decide (1 ≤ (a1.size : Int))) && (decide ((a1.size : Int) ≤ 8))) fun v7 =>
    some v7)
  (fun r => some r))
def field_done (a1 : TField) (a2 : Int) : Option (TField × Int) :=
  if (!decide (a2 = 0)) = true then
    letM (⟨(default : ByteArray), 0, 0, (default : TCounter), (default : TLock), ([] : List THold)⟩ : TField) fun v3 =>
    some (v3, a2)
  else
    Option.bind (app 40 [] a1.Holds) fun r4 =>
    letM ({ a1 with Holds := r4 }) fun v5 =>
    some (v5, 0)
def field_Counter (a1 : ByteArray) (a2 : Int) (a3 : Int) (a4 : Int) : Option (TField × Int) :=
  Option.bind (counter_New a2 a3 a4) fun r5 =>
  Option.bind (field_Name a1) fun r6 =>
  if (!r6) = true then
    letM (⟨a1, 1, 0, r5.1, (default : TLock), ([] : List THold)⟩ : TField) fun v7 =>
    Option.bind (field_done v7 1) fun r8 =>
    some (r8.1, r8.2)
  else
    letM (⟨a1, 1, 0, r5.1, (default : TLock), ([] : List THold)⟩ : TField) fun v9 =>
    Option.bind (field_done v9 r5.2) fun r10 =>
    some (r10.1, r10.2)
def rights_is (a1 : Int) : Option (Bool) :=
  letM ((decide (0 ≤ a1)) && (decide (a1 < 16))) fun v2 =>
  some v2
def rights_less_L1 (a1 : Vector Int 16) (s3 : Int × (List Int)) : Option ((Int × (List Int)) ⊕ ((List Int))) :=
  if (decide (s3.1 < 16)) = true then
      Option.bind (fix_ 16 s3.1) fun k5 =>
      Option.bind (app 8 s3.2 [(wr .i64 (0 - (a1.get k5)))]) fun l6 =>
      some (.inl ((wr .i64 (s3.1 + 1)), l6))
    else
      some (.inr s3.2)
def rights_less (a1 : Vector Int 16) : Option ((List Int)) :=
  Option.bind (loopM (rights_less_L1 a1) fuel (0, ([] : List Int))) fun x4 =>
  some x4
def num_Add (a1 : Int) (a2 : Int) : Option (Int × Int) :=
  Option.bind (num_checked (wr .i64 (a1 + a2)) [a1, a2]) fun r3 =>
  some (r3.1, r3.2)
def num_Must (a1 : Int) (a2 : Int) : Option (Int) :=
  if (!decide (a2 = 0)) = true then
    none
  else
    some a1
def num_Sum_1_L1 (a1 : List Int) (s3 : Int × Int) : Option ((Int × Int) ⊕ Int) :=
  if (decide (s3.1 < (a1.length : Int))) = true then
      Option.bind (six a1 s3.1) fun j5 =>
      Option.bind (num_Add s3.2 (a1.getD j5 default)) fun r6 =>
      Option.bind (num_Must r6.1 r6.2) fun r7 =>
      some (.inl ((wr .i64 (s3.1 + 1)), r7))
    else
      some (.inr s3.2)
def num_Sum_1 (a1 : List Int) : Option (Int) :=
  Option.bind (loopM (num_Sum_1_L1 a1) fuel (0, 0)) fun x4 =>
  some x4
def num_Sum_P_L1 (a1 : List Int) (s3 : Int × Int) : Option ((Int × Int) ⊕ Int) :=
  if (decide (s3.1 < (a1.length : Int))) = true then
      Option.bind (six a1 s3.1) fun j5 =>
      Option.bind (num_Add s3.2 (a1.getD j5 default)) fun r6 =>
      if (decide (r6.2 = 0)) = true then some (.inl ((wr .i64 (s3.1 + 1)), r6.1)) else some (.inr r6.2)
    else
      none
def num_Sum_P (a1 : List Int) : Option Int := loopM (num_Sum_P_L1 a1) fuel (0, 0)
def num_Sum (a1 : List Int) : Option (Int × Int) :=
  Option.bind (tryM (num_Sum_1 a1) (num_Sum_P a1)) fun r2 =>
  some (r2.1, r2.2)
def rights_Free_L1 (a1 : TRights) (a2 : Int) (s6 : Int × (List Int)) : Option ((Int × (List Int)) ⊕ ((List Int))) :=
  if (decide (s6.1 < 16)) = true then
        Option.bind (fix_ 16 s6.1) fun k8 =>
        letM (a1.Moved.get k8) fun v9 =>
        Option.bind (fix_ 16 a2) fun k10 =>
        Option.bind (app 8 s6.2 [(v9.get k10)]) fun l11 =>
        some (.inl ((wr .i64 (s6.1 + 1)), l11))
      else
        some (.inr s6.2)
def rights_Free (a1 : TRights) (a2 : Int) : Option (Int × Int) :=
  Option.bind (rights_is a2) fun r3 =>
  if (!r3) = true then
    some (0, 1)
  else
    Option.bind (fix_ 16 a2) fun k4 =>
    Option.bind (loopM (rights_Free_L1 a1 a2) fuel (0, [(a1.Given.get k4)])) fun x7 =>
    Option.bind (fix_ 16 a2) fun k12 =>
      Option.bind (app 8 x7 [(wr .i64 (0 - (a1.Used.get k12)))]) fun l13 =>
      Option.bind (fix_ 16 a2) fun k14 =>
      letM (a1.Moved.get k14) fun v15 =>
      Option.bind (rights_less v15) fun r16 =>
      Option.bind (app 8 l13 r16) fun l17 =>
      Option.bind (num_Sum l17) fun r18 =>
      some (r18.1, r18.2)
def counter_Room (a1 : TCounter) (a2 : Int) : Option (Int × Int) :=
  Option.bind (rights_Free a1.Down a2) fun r3 =>
  Option.bind (rights_Free a1.Up a2) fun r4 =>
  some (r3.1, r4.1)
def hold_Sum_L1 (a1 : List THold) (a2 : Int) (s4 : Int × Int) : Option ((Int × Int) ⊕ Int) :=
  if (decide (s4.1 < (a1.length : Int))) = true then
      Option.bind (six a1 s4.1) fun j6 =>
      letM (a1.getD j6 default) fun v7 =>
      if ((decide (v7.Replica = a2)) && (decide (v7.State = 1))) = true then
        letM (min (wr .i64 (s4.2 + v7.Amount)) 1099511627776) fun v8 =>
        some (.inl ((wr .i64 (s4.1 + 1)), v8))
      else
        some (.inl ((wr .i64 (s4.1 + 1)), s4.2))
    else
      some (.inr s4.2)
def hold_Sum (a1 : List THold) (a2 : Int) : Option (Int) :=
  Option.bind (loopM (hold_Sum_L1 a1 a2) fuel (0, 0)) fun x5 =>
  some x5
def field_Loose (a1 : TField) (a2 : Int) : Option (Int × Int) :=
  if (!decide (a1.Kind = 1)) = true then
    some (0, 0)
  else
    Option.bind (counter_Room a1.Counter a2) fun r3 =>
    Option.bind (hold_Sum a1.Holds a2) fun r4 =>
    some ((wr .i64 (r3.1 - r4)), r3.2)
def field_lacks (a1 : TField) (a2 : Int) (a3 : Int) : Option (Int) :=
  Option.bind (field_Loose a1 a2) fun r4 =>
  if (!decide (a1.Kind = 1)) = true then
    some 17
  else
    if (decide (r4.1 < a3)) = true then
      some 8
    else
      some 0
def hold_count (a1 : Int) : Option (Bool) :=
  Option.bind (gd ((decide (0 ≤ a1)) = true) (num_Is a1)) fun r2 =>
  letM ((decide (0 ≤ a1)) && r2) fun v3 =>
  some v3
def hold_Right (a1 : THold) : Option (Bool) :=
  letM (((decide (0 ≤ a1.Replica)) && (decide (a1.Replica < 16))) && (decide (1 ≤ a1.Number))) fun v2 =>
  Option.bind (gd (v2 = true) (num_Is a1.Number)) fun r3 =>
  Option.bind (gd ((v2 && r3) = true) (hold_count a1.Amount)) fun r4 =>
  Option.bind (gd (((v2 && r3) && r4) = true) (hold_count a1.Due)) fun r5 =>
  letM (((((v2 && r3) && r4) && r5) && (decide (1 ≤ a1.State))) && (decide (a1.State ≤ 3))) fun v6 =>
  some v6
def hold_compare_L1 (a1 : THold) (a2 : THold) (s4 : Int) : Option (Int ⊕ (Unit ⊕ Int)) :=
  if (decide (s4 < 2)) = true then
      Option.bind (fix_ 2 s4) fun k6 =>
      letM ((#v[(#v[a1.Replica, a2.Replica] : Vector Int 2), (#v[a1.Number, a2.Number] : Vector Int 2)] : Vector (Vector Int 2) 2).get k6) fun v7 =>
      Option.bind (fix_ 2 0) fun k8 =>
      Option.bind (fix_ 2 1) fun k9 =>
      if (!decide ((v7.get k8) = (v7.get k9))) = true then
        Option.bind (fix_ 2 0) fun k10 =>
        Option.bind (fix_ 2 1) fun k11 =>
        if (decide ((v7.get k10) < (v7.get k11))) = true then
          some (.inr (.inr (-1)))
        else
          some (.inr (.inr 1))
      else
        some (.inl (wr .i64 (s4 + 1)))
    else
      some (.inr (.inl ()))
def hold_compare (a1 : THold) (a2 : THold) : Option (Int) :=
  Option.bind (loopM (hold_compare_L1 a1 a2) fuel 0) (onS (fun x5 => some 0)
  (fun r => some r))
def holdCmp (a b : THold) : Int := if a.Replica = b.Replica then (if a.Number = b.Number then 0 else if a.Number < b.Number then -1 else 1) else if a.Replica < b.Replica then -1 else 1
theorem hold_compare_eq (a b : THold) : hold_compare a b = some (holdCmp a b) := by
  have e0 : fix_ 2 0 = some (0 : Fin 2) := rfl
  have e1 : fix_ 2 1 = some (1 : Fin 2) := rfl
  have w0 : wr .i64 1 = 1 := by decide
  have w1 : wr .i64 2 = 2 := by decide
  have v0 : ∀ x y : Int, (#v[x, y] : Vector Int 2).get 0 = x := fun _ _ => rfl
  have v1 : ∀ x y : Int, (#v[x, y] : Vector Int 2).get 1 = y := fun _ _ => rfl
  have u0 : ∀ x y : Vector Int 2, (#v[x, y] : Vector (Vector Int 2) 2).get 0 = x := fun _ _ => rfl
  have u1 : ∀ x y : Vector Int 2, (#v[x, y] : Vector (Vector Int 2) 2).get 1 = y := fun _ _ => rfl
  have h0 : hold_compare_L1 a b 0 = if a.Replica = b.Replica then some (.inl 1) else if a.Replica < b.Replica then some (.inr (.inr (-1))) else some (.inr (.inr 1)) := by
    unfold hold_compare_L1
    simp [e0, e1, letM, w0, v0, v1, u0]
  have h1 : hold_compare_L1 a b 1 = if a.Number = b.Number then some (.inl 2) else if a.Number < b.Number then some (.inr (.inr (-1))) else some (.inr (.inr 1)) := by
    unfold hold_compare_L1
    simp [e0, e1, letM, w1, v0, v1, u1]
  have h2 : hold_compare_L1 a b 2 = some (.inr (.inl ())) := by unfold hold_compare_L1; simp
  unfold hold_compare holdCmp
  have hf : fuel = 1180591620717411303421 + 3 := rfl
  rw [hf]
  by_cases c0 : a.Replica = b.Replica
  · by_cases c1 : a.Number = b.Number
    · simp [loopM, h0, h1, h2, c0, c1, onS]
    · by_cases c2 : a.Number < b.Number <;> simp [loopM, h0, h1, c0, c1, c2, onS]
  · by_cases c2 : a.Replica < b.Replica <;> simp [loopM, h0, c0, c2, onS]
theorem holdCmp_lt (a b : THold) : Go.Proofs.ltOf holdCmp a b = decide (a.Replica < b.Replica ∨ (a.Replica = b.Replica ∧ a.Number < b.Number)) := by
  unfold Go.Proofs.ltOf holdCmp
  by_cases h : a.Replica = b.Replica
  · by_cases h1 : a.Number = b.Number
    · simp [h, h1]
    · by_cases h2 : a.Number < b.Number <;> simp [h, h1, h2]
  · by_cases h2 : a.Replica < b.Replica <;> simp [h, h2]
theorem holdCmp_swo : Go.Sort.SWO (Go.Proofs.ltOf holdCmp) := by
  refine ⟨fun x => ?_, fun x y z h1 h2 => ?_, fun x y z h1 h2 => ?_⟩ <;> simp only [holdCmp_lt, decide_eq_true_eq, decide_eq_false_iff_not] at * <;> omega

def hold_Rights_L1 (a1 : List THold) (s3 : Int) : Option (Int ⊕ (Unit ⊕ Bool)) :=
  if (decide (s3 < (a1.length : Int))) = true then
      Option.bind (six a1 s3) fun j5 =>
      letM (a1.getD j5 default) fun v6 =>
      Option.bind (hold_Right v6) fun r7 =>
      Option.bind (gd (((!r7) = false) ∧ (decide (0 < s3)) = true) (six a1 (wr .i64 (s3 - 1)))) fun j8 =>
      Option.bind (gd (((!r7) = false) ∧ (decide (0 < s3)) = true) (hold_compare (a1.getD j8 default) v6)) fun r9 =>
      if ((!r7) || ((decide (0 < s3)) && (decide (0 ≤ r9)))) = true then
        some (.inr (.inr false))
      else
        some (.inl (wr .i64 (s3 + 1)))
    else
      some (.inr (.inl ()))
def hold_Rights (a1 : List THold) : Option (Bool) :=
  Option.bind (loopM (hold_Rights_L1 a1) fuel 0) (onS (fun x4 => letM (decide ((a1.length : Int) ≤ 16)) fun v10 =>
    some v10)
  (fun r => some r))
def hold_Reserve_L1 (a1 : List THold) (a2 : Int) (s6 : Int × Int) : Option ((Int × Int) ⊕ Int) :=
  if (decide (s6.1 < (a1.length : Int))) = true then
      Option.bind (six a1 s6.1) fun j8 =>
      letM (a1.getD j8 default) fun v9 =>
      if (decide (v9.Replica = a2)) = true then
        letM (max s6.2 (wr .i64 (v9.Number + 1))) fun v10 =>
        some (.inl ((wr .i64 (s6.1 + 1)), v10))
      else
        some (.inl ((wr .i64 (s6.1 + 1)), s6.2))
    else
      some (.inr s6.2)
def hold_Reserve (a1 : List THold) (a2 : Int) (a3 : Int) (a4 : Int) : Option ((List THold) × Int × Int) :=
  Option.bind (loopM (hold_Reserve_L1 a1 a2) fuel (0, 1)) fun x7 =>
  letM (⟨a2, x7, a3, a4, 1⟩ : THold) fun v11 =>
    Option.bind (hold_Rights a1) fun r12 =>
    Option.bind (gd ((!r12) = false) (hold_Right v11)) fun r13 =>
    if ((!r12) || (!r13)) = true then
      some (([] : List THold), 0, 1)
    else
      letM (decide ((a1.length : Int) = 16)) fun v14 =>
      if v14 = true then
        some (([] : List THold), 0, 7)
      else
        Option.bind (app 40 [] a1) fun l15 =>
        Option.bind (app 40 l15 [v11]) fun l16 =>
        Option.bind (sortM holdCmp l16) fun l17 =>
        some (l17, x7, 0)
def field_Reserve (a1 : TField) (a2 : Int) (a3 : Int) (a4 : Int) : Option (TField × Int × Int) :=
  Option.bind (field_lacks a1 a2 a3) fun r5 =>
  if (!decide (r5 = 0)) = true then
    letM (⟨(default : ByteArray), 0, 0, (default : TCounter), (default : TLock), ([] : List THold)⟩ : TField) fun v6 =>
    some (v6, 0, r5)
  else
    Option.bind (hold_Reserve a1.Holds a2 a3 a4) fun r7 =>
    if (!decide (r7.2.2 = 0)) = true then
      letM (⟨(default : ByteArray), 0, 0, (default : TCounter), (default : TLock), ([] : List THold)⟩ : TField) fun v8 =>
      some (v8, 0, r7.2.2)
    else
      letM ({ a1 with Holds := r7.1 }) fun v9 =>
      some (v9, r7.2.1, 0)
def rights_enough (a1 : TRights) (a2 : Int) (a3 : Int) : Option (Int) :=
  if (decide (a3 < 0)) = true then
    some 1
  else
    Option.bind (rights_Free a1 a2) fun r4 =>
    if (!decide (r4.2 = 0)) = true then
      some r4.2
    else
      if (decide (r4.1 < a3)) = true then
        some 8
      else
        some 0
def vec_Grow (a1 : Vector Int 16) (a2 : Int) (a3 : Int) : Option ((Vector Int 16) × Int) :=
  if (((decide (a2 < 0)) || (decide (16 ≤ a2))) || (decide (a3 < 0))) = true then
    letM (default : Vector Int 16) fun v4 =>
    some (v4, 1)
  else
    Option.bind (fix_ 16 a2) fun k5 =>
    Option.bind (num_Add (a1.get k5) a3) fun r6 =>
    if (!decide (r6.2 = 0)) = true then
      letM (default : Vector Int 16) fun v7 =>
      some (v7, r6.2)
    else
      Option.bind (fix_ 16 a2) fun k8 =>
      letM (a1.set k8.val r6.1) fun v9 =>
      some (v9, 0)
def rights_Use (a1 : TRights) (a2 : Int) (a3 : Int) : Option (TRights × Int) :=
  Option.bind (rights_enough a1 a2 a3) fun r4 =>
  if (decide (r4 = 0)) = true then
    Option.bind (vec_Grow a1.Used a2 a3) fun r5 =>
    if (!decide (r5.2 = 0)) = true then
      letM (⟨(default : Vector Int 16), (default : Vector Int 16), (default : Vector (Vector Int 16) 16)⟩ : TRights) fun v6 =>
      some (v6, r5.2)
    else
      letM ({ a1 with Used := r5.1 }) fun v7 =>
      some (v7, 0)
  else
    if (!decide (r4 = 0)) = true then
      letM (⟨(default : Vector Int 16), (default : Vector Int 16), (default : Vector (Vector Int 16) 16)⟩ : TRights) fun v8 =>
      some (v8, r4)
    else
      letM ({ a1 with Used := (default : Vector Int 16) }) fun v9 =>
      some (v9, 0)
def counter_Inc_1 (a1 : Int) (a2 : Int) (b3 : TCounter) : Option (TRights × Int × TCounter) :=
  Option.bind (rights_Use b3.Up a1 a2) fun r4 =>
  some (r4.1, r4.2, b3)
def rights_Give (a1 : TRights) (a2 : Int) (a3 : Int) : Option (TRights × Int) :=
  Option.bind (vec_Grow a1.Given a2 a3) fun r4 =>
  if (!decide (r4.2 = 0)) = true then
    letM (⟨(default : Vector Int 16), (default : Vector Int 16), (default : Vector (Vector Int 16) 16)⟩ : TRights) fun v5 =>
    some (v5, r4.2)
  else
    letM ({ a1 with Given := r4.1 }) fun v6 =>
    some (v6, 0)
def counter_Inc_2 (a1 : Int) (a2 : Int) (b3 : TCounter) : Option (TRights × Int × TCounter) :=
  Option.bind (rights_Give b3.Down a1 a2) fun r4 =>
  some (r4.1, r4.2, b3)
def counter_Inc_3 (a1 : TRights) (a2 : TRights) (b3 : TCounter) : Option (TCounter) :=
  letM ({ b3 with Up := a1 }) fun v4 =>
  letM ({ v4 with Down := a2 }) fun v5 =>
  some v5
def counter_both_Inc_1_Inc_2_Inc_3 (a1 : TCounter) (a2 : Int) (a3 : Int) (a4 : Int) (a5 : Int) (b6 : TCounter) : Option (Int × TCounter) :=
  Option.bind (counter_Inc_1 a2 a3 b6) fun r7 =>
  if (!decide (r7.2.1 = 0)) = true then
    some (r7.2.1, r7.2.2)
  else
    Option.bind (counter_Inc_2 a4 a5 r7.2.2) fun r8 =>
    if (decide (r8.2.1 = 0)) = true then
      Option.bind (counter_Inc_3 r7.1 r8.1 r8.2.2) fun r9 =>
      some (r8.2.1, r9)
    else
      some (r8.2.1, r8.2.2)
def counter_done (a1 : TCounter) (a2 : Int) : Option (TCounter × Int) :=
  if (!decide (a2 = 0)) = true then
    letM (⟨0, 0, 0, (default : TRights), (default : TRights)⟩ : TCounter) fun v3 =>
    some (v3, a2)
  else
    some (a1, 0)
def counter_Inc (a1 : TCounter) (a2 : Int) (a3 : Int) : Option (TCounter × Int) :=
  Option.bind (counter_both_Inc_1_Inc_2_Inc_3 a1 a2 a3 a2 a3 a1) fun r4 =>
  Option.bind (counter_done r4.2 r4.1) fun r5 =>
  some (r5.1, r5.2)
def field_changed (a1 : TField) (a2 : TCounter) (a3 : Int) : Option (TField × Int) :=
  letM ({ a1 with Counter := a2 }) fun v4 =>
  Option.bind (field_done v4 a3) fun r5 =>
  some (r5.1, r5.2)
def counter_Dec_1 (a1 : Int) (a2 : Int) (b3 : TCounter) : Option (TRights × Int × TCounter) :=
  Option.bind (rights_Use b3.Down a1 a2) fun r4 =>
  some (r4.1, r4.2, b3)
def counter_Dec_2 (a1 : Int) (a2 : Int) (b3 : TCounter) : Option (TRights × Int × TCounter) :=
  Option.bind (rights_Give b3.Up a1 a2) fun r4 =>
  some (r4.1, r4.2, b3)
def counter_Dec_3 (a1 : TRights) (a2 : TRights) (b3 : TCounter) : Option (TCounter) :=
  letM ({ b3 with Down := a1 }) fun v4 =>
  letM ({ v4 with Up := a2 }) fun v5 =>
  some v5
def counter_both_Dec_1_Dec_2_Dec_3 (a1 : TCounter) (a2 : Int) (a3 : Int) (a4 : Int) (a5 : Int) (b6 : TCounter) : Option (Int × TCounter) :=
  Option.bind (counter_Dec_1 a2 a3 b6) fun r7 =>
  if (!decide (r7.2.1 = 0)) = true then
    some (r7.2.1, r7.2.2)
  else
    Option.bind (counter_Dec_2 a4 a5 r7.2.2) fun r8 =>
    if (decide (r8.2.1 = 0)) = true then
      Option.bind (counter_Dec_3 r7.1 r8.1 r8.2.2) fun r9 =>
      some (r8.2.1, r9)
    else
      some (r8.2.1, r8.2.2)
def counter_Dec (a1 : TCounter) (a2 : Int) (a3 : Int) : Option (TCounter × Int) :=
  Option.bind (counter_both_Dec_1_Dec_2_Dec_3 a1 a2 a3 a2 a3 a1) fun r4 =>
  Option.bind (counter_done r4.2 r4.1) fun r5 =>
  some (r5.1, r5.2)
def field_Add (a1 : TField) (a2 : Int) (a3 : Int) : Option (TField × Int) :=
  if (decide (0 ≤ a3)) = true then
    if (!decide (a1.Kind = 1)) = true then
      letM (⟨(default : ByteArray), 0, 0, (default : TCounter), (default : TLock), ([] : List THold)⟩ : TField) fun v4 =>
      some (v4, 17)
    else
      Option.bind (counter_Inc a1.Counter a2 a3) fun r5 =>
      Option.bind (field_changed a1 r5.1 r5.2) fun r6 =>
      some (r6.1, r6.2)
  else
    Option.bind (gd ((decide (a1.Kind = 1)) = true) (num_Is a3)) fun r7 =>
    if ((decide (a1.Kind = 1)) && (!r7)) = true then
      letM (⟨(default : ByteArray), 0, 0, (default : TCounter), (default : TLock), ([] : List THold)⟩ : TField) fun v8 =>
      some (v8, 8)
    else
      Option.bind (field_lacks a1 a2 (wr .i64 (0 - a3))) fun r9 =>
      if (!decide (r9 = 0)) = true then
        letM (⟨(default : ByteArray), 0, 0, (default : TCounter), (default : TLock), ([] : List THold)⟩ : TField) fun v10 =>
        some (v10, r9)
      else
        Option.bind (counter_Dec a1.Counter a2 (wr .i64 (0 - a3))) fun r11 =>
        Option.bind (field_changed a1 r11.1 r11.2) fun r12 =>
        some (r12.1, r12.2)
def hold_place_1 (a1 : THold) (a2 : Int) (a3 : Int) : Option (Bool) :=
  letM ((decide (a1.Replica = a2)) && (decide (a1.Number = a3))) fun v4 =>
  some v4
def slices_IndexFunc_Hold_place_1_L1 (a1 : List THold) (a2 : Int) (a3 : Int) (s5 : Int) : Option (Int ⊕ (Unit ⊕ Int)) :=
  if (decide (s5 < (a1.length : Int))) = true then
      Option.bind (six a1 s5) fun j7 =>
      letM (a1.getD j7 default) fun v8 =>
      Option.bind (hold_place_1 v8 a2 a3) fun r9 =>
      if r9 = true then
        some (.inr (.inr s5))
      else
        some (.inl (wr .i64 (s5 + 1)))
    else
      some (.inr (.inl ()))
def slices_IndexFunc_Hold_place_1 (a1 : List THold) (a2 : Int) (a3 : Int) : Option (Int) :=
  Option.bind (loopM (slices_IndexFunc_Hold_place_1_L1 a1 a2 a3) fuel 0) (onS (fun x6 => some (-1))
  (fun r => some r))
def hold_place (a1 : List THold) (a2 : Int) (a3 : Int) : Option (Int) :=
  Option.bind (slices_IndexFunc_Hold_place_1 a1 a2 a3) fun r4 =>
  some r4
def hold_End (a1 : List THold) (a2 : Int) (a3 : Int) (a4 : Int) : Option ((List THold) × Int × Int) :=
  Option.bind (hold_place a1 a2 a3) fun r5 =>
  Option.bind (hold_Rights a1) fun r6 =>
  letM ((!r6) || ((!decide (a4 = 2)) && (!decide (a4 = 3)))) fun v7 =>
  if v7 = true then
    some (([] : List THold), 0, 1)
  else
    if (decide (r5 < 0)) = true then
      some (([] : List THold), 0, 10)
    else
      Option.bind (six a1 r5) fun j8 =>
      letM (!decide ((a1.getD j8 default).State = 1)) fun v9 =>
      if v9 = true then
        some (([] : List THold), 0, 12)
      else
        Option.bind (app 40 [] a1) fun l10 =>
        Option.bind (six l10 r5) fun j11 =>
        letM (l10.set j11 ({ (l10.getD j11 default) with State := a4 })) fun v12 =>
        Option.bind (six v12 r5) fun j13 =>
        letM ((v12.getD j13 default).Amount) fun v14 =>
        some (v12, v14, 0)
def field_End (a1 : TField) (a2 : Int) (a3 : Int) (a4 : Int) : Option (TField × Int) :=
  if (!decide (a1.Kind = 1)) = true then
    letM (⟨(default : ByteArray), 0, 0, (default : TCounter), (default : TLock), ([] : List THold)⟩ : TField) fun v5 =>
    some (v5, 17)
  else
    Option.bind (hold_End a1.Holds a2 a3 a4) fun r6 =>
    if ((decide (r6.2.2 = 0)) && (decide (a4 = 2))) = true then
      Option.bind (counter_Dec a1.Counter a2 r6.2.1) fun r7 =>
      letM ({ a1 with Counter := r7.1 }) fun v8 =>
      letM ({ v8 with Holds := r6.1 }) fun v9 =>
      Option.bind (field_done v9 r7.2) fun r10 =>
      some (r10.1, r10.2)
    else
      letM ({ a1 with Holds := r6.1 }) fun v11 =>
      Option.bind (field_done v11 r6.2.2) fun r12 =>
      some (r12.1, r12.2)
def counter_Value_L1 (a1 : TCounter) (s4 : Int × (List Int)) : Option ((Int × (List Int)) ⊕ ((List Int))) :=
  if (decide (s4.1 < 16)) = true then
      Option.bind (fix_ 16 s4.1) fun k6 =>
      Option.bind (app 8 s4.2 [(wr .i64 (0 - (a1.Down.Used.get k6)))]) fun l7 =>
      some (.inl ((wr .i64 (s4.1 + 1)), l7))
    else
      some (.inr s4.2)
def counter_Value (a1 : TCounter) : Option (Int × Int) :=
  Option.bind (app 8 [a1.Init] a1.Up.Used.toList) fun l2 =>
  Option.bind (loopM (counter_Value_L1 a1) fuel (0, l2)) fun x5 =>
  Option.bind (num_Sum x5) fun r8 =>
    some (r8.1, r8.2)
def field_View (a1 : TField) : Option (Int × Int) :=
  if (decide (a1.Kind = 1)) = true then
    Option.bind (counter_Value a1.Counter) fun r2 =>
    some (r2.1, r2.2)
  else
    if (decide (a1.Kind = 2)) = true then
      some (a1.Lock.Value, 0)
    else
      some (0, 17)
def vec_Right_L1 (a1 : Vector Int 16) (s3 : Int) : Option (Int ⊕ (Unit ⊕ Bool)) :=
  if (decide (s3 < 16)) = true then
      Option.bind (fix_ 16 s3) fun k5 =>
      Option.bind (gd ((decide ((a1.get k5) < 0)) = false) (num_Is (a1.get k5))) fun r6 =>
      if ((decide ((a1.get k5) < 0)) || (!r6)) = true then
        some (.inr (.inr false))
      else
        some (.inl (wr .i64 (s3 + 1)))
    else
      some (.inr (.inl ()))
def vec_Right (a1 : Vector Int 16) : Option (Bool) :=
  Option.bind (loopM (vec_Right_L1 a1) fuel 0) (onS (fun x4 => some true)
  (fun r => some r))
def rights_Right_L1 (a1 : TRights) (s5 : Int) : Option (Int ⊕ (Unit ⊕ Bool)) :=
  if (decide (s5 < 16)) = true then
        Option.bind (fix_ 16 s5) fun k7 =>
        letM (a1.Moved.get k7) fun v8 =>
        Option.bind (vec_Right v8) fun r9 =>
        Option.bind (gd ((!r9) = false) (fix_ 16 s5)) fun k10 =>
        if ((!r9) || (!decide ((v8.get k10) = 0))) = true then
          some (.inr (.inr false))
        else
          some (.inl (wr .i64 (s5 + 1)))
      else
        some (.inr (.inl ()))
def rights_Right (a1 : TRights) : Option (Bool) :=
  Option.bind (vec_Right a1.Given) fun r2 =>
  Option.bind (gd ((!r2) = false) (vec_Right a1.Used)) fun r3 =>
  if ((!r2) || (!r3)) = true then
    some false
  else
    Option.bind (loopM (rights_Right_L1 a1) fuel 0) (onS (fun x6 => some true)
    (fun r => some r))
def vec_Sum (a1 : Vector Int 16) : Option (Int × Int) :=
  Option.bind (num_Sum a1.toList) fun r2 =>
  some (r2.1, r2.2)
def counter_given (a1 : TRights) (a2 : TRights) (a3 : Int) : Option (Bool) :=
  Option.bind (vec_Sum a1.Given) fun r4 =>
  Option.bind (vec_Sum a2.Used) fun r5 =>
  Option.bind (num_Add a3 r5.1) fun r6 =>
  letM ((((decide (r4.2 = 0)) && (decide (r5.2 = 0))) && (decide (r6.2 = 0))) && (decide (r4.1 = r6.1))) fun v7 =>
  some v7
def counter_Right (a1 : TCounter) : Option (Bool) :=
  Option.bind (num_Is a1.Init) fun r2 =>
  Option.bind (gd ((!r2) = false) (num_Is a1.Low)) fun r3 =>
  Option.bind (gd (((!r2) || (!r3)) = false) (num_Is a1.High)) fun r4 =>
  letM (((((!r2) || (!r3)) || (!r4)) || (decide (a1.Init < a1.Low))) || (decide (a1.High < a1.Init))) fun v5 =>
  if v5 = true then
    some false
  else
    Option.bind (rights_Right a1.Down) fun r6 =>
    Option.bind (gd (r6 = true) (rights_Right a1.Up)) fun r7 =>
    Option.bind (gd ((r6 && r7) = true) (counter_given a1.Down a1.Up (wr .i64 (a1.Init - a1.Low)))) fun r8 =>
    Option.bind (gd (((r6 && r7) && r8) = true) (counter_given a1.Up a1.Down (wr .i64 (a1.High - a1.Init)))) fun r9 =>
    letM (((r6 && r7) && r8) && r9) fun v10 =>
    some v10
def lock_Right_1 (a1 : Int) : Option (Bool) :=
  Option.bind (gd ((decide (0 ≤ a1)) = true) (num_Is a1)) fun r2 =>
  letM ((decide (0 ≤ a1)) && r2) fun v3 =>
  some v3
def lock_is (a1 : Int) : Option (Bool) :=
  letM ((decide (0 ≤ a1)) && (decide (a1 < 16))) fun v2 =>
  some v2
def lock_Right (a1 : TLock) : Option (Bool) :=
  Option.bind (lock_Right_1 a1.Seq) fun r2 =>
  Option.bind (gd (r2 = true) (lock_Right_1 a1.Ver)) fun r3 =>
  Option.bind (gd ((r2 && r3) = true) (lock_is a1.Holder)) fun r4 =>
  Option.bind (gd (((r2 && r3) && r4) = true) (num_Is a1.Value)) fun r5 =>
  letM (((r2 && r3) && r4) && r5) fun v6 =>
  some v6
def field_Right (a1 : TField) : Option (Bool) :=
  Option.bind (field_Name a1.Name) fun r2 =>
  Option.bind (gd (((!r2) || (decide (a1.Epoch < 0))) = false) (num_Is a1.Epoch)) fun r3 =>
  if (((!r2) || (decide (a1.Epoch < 0))) || (!r3)) = true then
    some false
  else
    if (decide (a1.Kind = 1)) = true then
      Option.bind (counter_Right a1.Counter) fun r4 =>
      Option.bind (gd (r4 = true) (hold_Rights a1.Holds)) fun r5 =>
      letM ((r4 && r5) && (decide (a1.Lock = (⟨0, 0, 0, 0⟩ : TLock)))) fun v6 =>
      some v6
    else
      if (decide (a1.Kind = 2)) = true then
        Option.bind (lock_Right a1.Lock) fun r7 =>
        letM ((r7 && (decide ((a1.Holds.length : Int) = 0))) && (decide (a1.Counter = (⟨0, 0, 0, (default : TRights), (default : TRights)⟩ : TCounter)))) fun v8 =>
        some v8
      else
        some false
def usufructlaw07_awake  : Option (Bool) :=
  Option.bind (field_Counter (⟨#[97]⟩ : ByteArray) 5 0 10) fun r1 =>
  Option.bind (field_Reserve r1.1 0 3 9) fun r2 =>
  Option.bind (field_Add r2.1 0 (-3)) fun r3 =>
  Option.bind (field_Add r2.1 0 (-2)) fun r4 =>
  Option.bind (field_End r4.1 0 r2.2.1 2) fun r5 =>
  Option.bind (field_View r5.1) fun r6 =>
  letM (((decide (r1.2 = 0)) && (decide (r2.2.2 = 0))) && (decide (r3.2 = 8))) fun v7 =>
  letM (((v7 && (decide (r4.2 = 0))) && (decide (r5.2 = 0))) && (decide (r6.1 = 0))) fun v8 =>
  Option.bind (gd ((v8 && (decide (r6.2 = 0))) = true) (field_Right r5.1)) fun r9 =>
  letM ((v8 && (decide (r6.2 = 0))) && r9) fun v10 =>
  some v10
def rights_Move (a1 : TRights) (a2 : Int) (a3 : Int) (a4 : Int) : Option (TRights × Int) :=
  Option.bind (rights_is a2) fun r5 =>
  Option.bind (gd ((!r5) = false) (rights_is a3)) fun r6 =>
  if (((!r5) || (!r6)) || (decide (a2 = a3))) = true then
    letM (⟨(default : Vector Int 16), (default : Vector Int 16), (default : Vector (Vector Int 16) 16)⟩ : TRights) fun v7 =>
    some (v7, 1)
  else
    Option.bind (rights_enough a1 a2 a4) fun r8 =>
    if (decide (r8 = 0)) = true then
      Option.bind (fix_ 16 a2) fun k9 =>
      letM (a1.Moved.get k9) fun v10 =>
      Option.bind (vec_Grow v10 a3 a4) fun r11 =>
      if (!decide (r11.2 = 0)) = true then
        letM (⟨(default : Vector Int 16), (default : Vector Int 16), (default : Vector (Vector Int 16) 16)⟩ : TRights) fun v12 =>
        some (v12, r11.2)
      else
        Option.bind (fix_ 16 a2) fun k13 =>
        letM ({ a1 with Moved := (a1.Moved.set k13.val r11.1) }) fun v14 =>
        some (v14, 0)
    else
      if (!decide (r8 = 0)) = true then
        letM (⟨(default : Vector Int 16), (default : Vector Int 16), (default : Vector (Vector Int 16) 16)⟩ : TRights) fun v15 =>
        some (v15, r8)
      else
        Option.bind (fix_ 16 a2) fun k16 =>
        letM ({ a1 with Moved := (a1.Moved.set k16.val (default : Vector Int 16)) }) fun v17 =>
        some (v17, 0)
def counter_Hand_1 (a1 : Int) (a2 : Int) (a3 : Int) (b4 : TCounter) : Option (TRights × Int × TCounter) :=
  Option.bind (rights_Move b4.Down a1 a2 a3) fun r5 =>
  some (r5.1, r5.2, b4)
def counter_Hand_2 (a1 : Int) (a2 : Int) (a3 : Int) (b4 : TCounter) : Option (TRights × Int × TCounter) :=
  Option.bind (rights_Move b4.Up a1 a2 a3) fun r5 =>
  some (r5.1, r5.2, b4)
def counter_Hand_3 (a1 : TRights) (a2 : TRights) (b3 : TCounter) : Option (TCounter) :=
  letM ({ b3 with Down := a1 }) fun v4 =>
  letM ({ v4 with Up := a2 }) fun v5 =>
  some v5
def counter_both_Hand_1_Hand_2_Hand_3 (a1 : TCounter) (a2 : Int) (a3 : Int) (a4 : Int) (a5 : Int) (a6 : Int) (a7 : Int) (b8 : TCounter) : Option (Int × TCounter) :=
  Option.bind (counter_Hand_1 a2 a3 a4 b8) fun r9 =>
  if (!decide (r9.2.1 = 0)) = true then
    some (r9.2.1, r9.2.2)
  else
    Option.bind (counter_Hand_2 a5 a6 a7 r9.2.2) fun r10 =>
    if (decide (r10.2.1 = 0)) = true then
      Option.bind (counter_Hand_3 r9.1 r10.1 r10.2.2) fun r11 =>
      some (r10.2.1, r11)
    else
      some (r10.2.1, r10.2.2)
def counter_Hand (a1 : TCounter) (a2 : Int) (a3 : Int) (a4 : Int) (a5 : Int) : Option (TCounter × Int) :=
  Option.bind (counter_both_Hand_1_Hand_2_Hand_3 a1 a2 a3 a4 a2 a3 a5 a1) fun r6 =>
  Option.bind (counter_done r6.2 r6.1) fun r7 =>
  some (r7.1, r7.2)
def field_Hand (a1 : TField) (a2 : Int) (a3 : Int) (a4 : Int) (a5 : Int) : Option (TField × Int) :=
  Option.bind (field_lacks a1 a2 a4) fun r6 =>
  if (!decide (r6 = 0)) = true then
    letM (⟨(default : ByteArray), 0, 0, (default : TCounter), (default : TLock), ([] : List THold)⟩ : TField) fun v7 =>
    some (v7, r6)
  else
    Option.bind (counter_Hand a1.Counter a2 a3 a4 a5) fun r8 =>
    Option.bind (field_changed a1 r8.1 r8.2) fun r9 =>
    some (r9.1, r9.2)
def hold_Expire_L1 (a2 : Int) (a3 : Int) (l4 : List THold) (s7 : Int × (List THold) × Int) : Option ((Int × (List THold) × Int) ⊕ (Int × (List THold))) :=
  if (decide (s7.1 < ((l4.length : Nat) : Int))) = true then
        Option.bind (six s7.2.1 s7.1) fun j9 =>
        letM (s7.2.1.getD j9 default) fun v10 =>
        letM (((decide (v10.Replica = a2)) && (decide (v10.State = 1))) && (decide (v10.Due < a3))) fun v11 =>
        if v11 = true then
          Option.bind (six s7.2.1 s7.1) fun j12 =>
          letM (s7.2.1.set j12 ({ (s7.2.1.getD j12 default) with State := 3 })) fun v13 =>
          some (.inl ((wr .i64 (s7.1 + 1)), v13, (wr .i64 (s7.2.2 + 1))))
        else
          some (.inl ((wr .i64 (s7.1 + 1)), s7.2.1, s7.2.2))
      else
        some (.inr (s7.2.2, s7.2.1))
def hold_Expire (a1 : List THold) (a2 : Int) (a3 : Int) : Option ((List THold) × Int) :=
  Option.bind (app 40 [] a1) fun l4 =>
  Option.bind (hold_Rights a1) fun r5 =>
  if (!r5) = true then
    some (l4, 0)
  else
    Option.bind (loopM (hold_Expire_L1 a2 a3 l4) fuel (0, l4, 0)) fun x8 =>
    some (x8.2, x8.1)
def field_Expire (a1 : TField) (a2 : Int) (a3 : Int) : Option (TField × Int) :=
  if (decide (a1.Kind = 1)) = true then
    Option.bind (hold_Expire a1.Holds a2 a3) fun r4 =>
    letM ({ a1 with Holds := r4.1 }) fun v5 =>
    some (v5, r4.2)
  else
    Option.bind (app 40 [] a1.Holds) fun r6 =>
    letM ({ a1 with Holds := r6 }) fun v7 =>
    some (v7, 0)
def lock_Write (a1 : TLock) (a2 : Int) (a3 : Int) : Option (TLock × Int) :=
  if (!decide (a2 = a1.Holder)) = true then
    letM (⟨0, 0, 0, 0⟩ : TLock) fun v4 =>
    some (v4, 9)
  else
    Option.bind (num_Add a1.Ver 1) fun r5 =>
    Option.bind (gd ((!decide (r5.2 = 0)) = false) (num_Is a3)) fun r6 =>
    if ((!decide (r5.2 = 0)) || (!r6)) = true then
      letM (⟨0, 0, 0, 0⟩ : TLock) fun v7 =>
      some (v7, 2)
    else
      letM ({ a1 with Ver := r5.1 }) fun v8 =>
      letM ({ v8 with Value := a3 }) fun v9 =>
      some (v9, 0)
def field_Write_1 (a1 : TLock) (a2 : Int) (a3 : Int) : Option (TLock × Int) :=
  Option.bind (lock_Write a1 a2 a3) fun r4 =>
  some (r4.1, r4.2)
def field_locked_Write_1 (a1 : TField) (a2 : Int) (a3 : Int) : Option (TField × Int) :=
  if (!decide (a1.Kind = 2)) = true then
    letM (⟨(default : ByteArray), 0, 0, (default : TCounter), (default : TLock), ([] : List THold)⟩ : TField) fun v4 =>
    some (v4, 17)
  else
    Option.bind (field_Write_1 a1.Lock a2 a3) fun r5 =>
    letM ({ a1 with Lock := r5.1 }) fun v6 =>
    Option.bind (field_done v6 r5.2) fun r7 =>
    some (r7.1, r7.2)
def field_Write (a1 : TField) (a2 : Int) (a3 : Int) : Option (TField × Int) :=
  Option.bind (field_locked_Write_1 a1 a2 a3) fun r4 =>
  some (r4.1, r4.2)
def lock_Pass (a1 : TLock) (a2 : Int) (a3 : Int) : Option (TLock × Int) :=
  letM (!decide (a2 = a1.Holder)) fun v4 =>
  if v4 = true then
    letM (⟨0, 0, 0, 0⟩ : TLock) fun v5 =>
    some (v5, 9)
  else
    Option.bind (lock_is a3) fun r6 =>
    if (!r6) = true then
      letM (⟨0, 0, 0, 0⟩ : TLock) fun v7 =>
      some (v7, 1)
    else
      Option.bind (num_Add a1.Seq 1) fun r8 =>
      if (!decide (r8.2 = 0)) = true then
        letM (⟨0, 0, 0, 0⟩ : TLock) fun v9 =>
        some (v9, r8.2)
      else
        letM ({ a1 with Seq := r8.1 }) fun v10 =>
        letM ({ v10 with Ver := 0 }) fun v11 =>
        letM ({ v11 with Holder := a3 }) fun v12 =>
        some (v12, 0)
def field_Pass_1 (a1 : TLock) (a2 : Int) (a3 : Int) : Option (TLock × Int) :=
  Option.bind (lock_Pass a1 a2 a3) fun r4 =>
  some (r4.1, r4.2)
def field_locked_Pass_1 (a1 : TField) (a2 : Int) (a3 : Int) : Option (TField × Int) :=
  if (!decide (a1.Kind = 2)) = true then
    letM (⟨(default : ByteArray), 0, 0, (default : TCounter), (default : TLock), ([] : List THold)⟩ : TField) fun v4 =>
    some (v4, 17)
  else
    Option.bind (field_Pass_1 a1.Lock a2 a3) fun r5 =>
    letM ({ a1 with Lock := r5.1 }) fun v6 =>
    Option.bind (field_done v6 r5.2) fun r7 =>
    some (r7.1, r7.2)
def field_Pass (a1 : TField) (a2 : Int) (a3 : Int) : Option (TField × Int) :=
  Option.bind (field_locked_Pass_1 a1 a2 a3) fun r4 =>
  some (r4.1, r4.2)
def vec_Join_L1 (a2 : Vector Int 16) (s4 : Int × (Vector Int 16)) : Option ((Int × (Vector Int 16)) ⊕ ((Vector Int 16))) :=
  if (decide (s4.1 < 16)) = true then
      Option.bind (fix_ 16 s4.1) fun k6 =>
      Option.bind (fix_ 16 s4.1) fun k7 =>
      Option.bind (fix_ 16 s4.1) fun k8 =>
      letM (s4.2.set k8.val (max (s4.2.get k6) (a2.get k7))) fun v9 =>
      some (.inl ((wr .i64 (s4.1 + 1)), v9))
    else
      some (.inr s4.2)
def vec_Join (a1 : Vector Int 16) (a2 : Vector Int 16) : Option ((Vector Int 16)) :=
  Option.bind (loopM (vec_Join_L1 a2) fuel (0, a1)) fun x5 =>
  some x5
def rights_Join_1 (a1 : Vector Int 16) (b2 : TRights) : Option (TRights) :=
  Option.bind (vec_Join b2.Given a1) fun r3 =>
  letM ({ b2 with Given := r3 }) fun v4 =>
  some v4
def rights_Join_1_2 (a1 : Vector Int 16) (b2 : TRights) : Option (TRights) :=
  Option.bind (vec_Join b2.Used a1) fun r3 =>
  letM ({ b2 with Used := r3 }) fun v4 =>
  some v4
def rights_Join_1_3 (k1 : Fin 16) (a2 : Vector Int 16) (b3 : TRights) : Option (TRights) :=
  letM (b3.Moved.get k1) fun v4 =>
  Option.bind (vec_Join v4 a2) fun r5 =>
  letM ({ b3 with Moved := (b3.Moved.set k1.val r5) }) fun v6 =>
  some v6
def rights_Join_L1 (a2 : TRights) (s6 : Int × TRights) : Option ((Int × TRights) ⊕ TRights) :=
  if (decide (s6.1 < 16)) = true then
      Option.bind (fix_ 16 s6.1) fun k8 =>
      Option.bind (fix_ 16 s6.1) fun k9 =>
      letM (a2.Moved.get k9) fun v10 =>
      Option.bind (rights_Join_1_3 k8 v10 s6.2) fun r11 =>
      some (.inl ((wr .i64 (s6.1 + 1)), r11))
    else
      some (.inr s6.2)
def rights_Join (a1 : TRights) (a2 : TRights) : Option (TRights) :=
  Option.bind (rights_Join_1 a2.Given a1) fun r3 =>
  Option.bind (rights_Join_1_2 a2.Used r3) fun r4 =>
  Option.bind (loopM (rights_Join_L1 a2) fuel (0, r4)) fun x7 =>
  some x7
def counter_Join (a1 : TCounter) (a2 : TCounter) : Option (TCounter × Int) :=
  letM (((!decide (a1.Init = a2.Init)) || (!decide (a1.Low = a2.Low))) || (!decide (a1.High = a2.High))) fun v3 =>
  if v3 = true then
    letM (⟨0, 0, 0, (default : TRights), (default : TRights)⟩ : TCounter) fun v4 =>
    some (v4, 1)
  else
    Option.bind (rights_Join a1.Down a2.Down) fun r5 =>
    Option.bind (rights_Join a1.Up a2.Up) fun r6 =>
    letM ({ a1 with Down := r5 }) fun v7 =>
    letM ({ v7 with Up := r6 }) fun v8 =>
    some (v8, 0)
def hold_Join_L1 (a1 : List THold) (s7 : Int × (AMap (Vector Int 2) Int okInts)) : Option ((Int × (AMap (Vector Int 2) Int okInts)) ⊕ ((AMap (Vector Int 2) Int okInts))) :=
  if (decide (s7.1 < (a1.length : Int))) = true then
        Option.bind (six a1 s7.1) fun j9 =>
        letM (a1.getD j9 default) fun v10 =>
        Option.bind (AMap.put s7.2 (#v[v10.Replica, v10.Number] : Vector Int 2) s7.1) fun p11 =>
        some (.inl ((wr .i64 (s7.1 + 1)), p11))
      else
        some (.inr s7.2)
def hold_Join_L2 (a2 : List THold) (x8 : (AMap (Vector Int 2) Int okInts)) (s13 : Int × (List THold)) : Option ((Int × (List THold)) ⊕ (((List THold)) ⊕ ((List THold) × Int))) :=
  if (decide (s13.1 < (a2.length : Int))) = true then
          Option.bind (six a2 s13.1) fun j15 =>
          letM (a2.getD j15 default) fun v16 =>
          Option.bind (AMap.get x8 (#v[v16.Replica, v16.Number] : Vector Int 2)) fun o17 =>
          if (!o17.isSome) = true then
            Option.bind (app 40 s13.2 [v16]) fun l18 =>
            some (.inl ((wr .i64 (s13.1 + 1)), l18))
          else
            Option.bind (six s13.2 (o17.getD default)) fun j19 =>
            Option.bind (gd ((!decide ((s13.2.getD j19 default).Amount = v16.Amount)) = false) (six s13.2 (o17.getD default))) fun j20 =>
            letM ((!decide ((s13.2.getD j19 default).Amount = v16.Amount)) || (!decide ((s13.2.getD j20 default).Due = v16.Due))) fun v21 =>
            if v21 = true then
              some (.inr (.inr (([] : List THold), 1)))
            else
              Option.bind (six s13.2 (o17.getD default)) fun j22 =>
              Option.bind (six s13.2 (o17.getD default)) fun j23 =>
              letM (s13.2.set j23 ({ (s13.2.getD j23 default) with State := (max ((s13.2.getD j22 default).State) v16.State) })) fun v24 =>
              some (.inl ((wr .i64 (s13.1 + 1)), v24))
        else
          some (.inr (.inl s13.2))
def hold_Join (a1 : List THold) (a2 : List THold) : Option ((List THold) × Int) :=
  Option.bind (hold_Rights a1) fun r3 =>
  Option.bind (gd ((!r3) = false) (hold_Rights a2)) fun r4 =>
  if ((!r3) || (!r4)) = true then
    some (([] : List THold), 1)
  else
    Option.bind (app 40 [] a1) fun l5 =>
    Option.bind (loopM (hold_Join_L1 a1) fuel (0, (AMap.empty : AMap (Vector Int 2) Int okInts))) fun x8 =>
    Option.bind (loopM (hold_Join_L2 a2 x8) fuel (0, l5)) (onS (fun x14 => if (decide (16 < ((x14.length : Nat) : Int))) = true then
          some (([] : List THold), 7)
        else
          Option.bind (sortM holdCmp x14) fun l25 =>
          some (l25, 0))
      (fun r => some r))
def lock_Compare_L1 (a1 : TLock) (a2 : TLock) (s4 : Int) : Option (Int ⊕ (Unit ⊕ Int)) :=
  if (decide (s4 < 4)) = true then
      Option.bind (fix_ 4 s4) fun k6 =>
      letM ((#v[(#v[a1.Seq, a2.Seq] : Vector Int 2), (#v[a1.Ver, a2.Ver] : Vector Int 2), (#v[a1.Holder, a2.Holder] : Vector Int 2), (#v[a1.Value, a2.Value] : Vector Int 2)] : Vector (Vector Int 2) 4).get k6) fun v7 =>
      Option.bind (fix_ 2 0) fun k8 =>
      Option.bind (fix_ 2 1) fun k9 =>
      if (!decide ((v7.get k8) = (v7.get k9))) = true then
        Option.bind (fix_ 2 0) fun k10 =>
        Option.bind (fix_ 2 1) fun k11 =>
        if (decide ((v7.get k11) < (v7.get k10))) = true then
          some (.inr (.inr 1))
        else
          some (.inr (.inr (-1)))
      else
        some (.inl (wr .i64 (s4 + 1)))
    else
      some (.inr (.inl ()))
def lock_Compare (a1 : TLock) (a2 : TLock) : Option (Int) :=
  Option.bind (loopM (lock_Compare_L1 a1 a2) fuel 0) (onS (fun x5 => some 0)
  (fun r => some r))
def lock_Join (a1 : TLock) (a2 : TLock) : Option (TLock) :=
  Option.bind (lock_Compare a1 a2) fun r3 =>
  if (decide (r3 < 0)) = true then
    some a2
  else
    some a1
def field_Join (a1 : TField) (a2 : TField) : Option (TField × Int) :=
  letM (((!decide (a1.Name = a2.Name)) || (!decide (a1.Kind = a2.Kind))) || (!decide (a1.Epoch = a2.Epoch))) fun v3 =>
  if v3 = true then
    letM (⟨(default : ByteArray), 0, 0, (default : TCounter), (default : TLock), ([] : List THold)⟩ : TField) fun v4 =>
    some (v4, 1)
  else
    Option.bind (counter_Join a1.Counter a2.Counter) fun r5 =>
    if (!decide (r5.2 = 0)) = true then
      letM (⟨(default : ByteArray), 0, 0, (default : TCounter), (default : TLock), ([] : List THold)⟩ : TField) fun v6 =>
      some (v6, r5.2)
    else
      Option.bind (hold_Join a1.Holds a2.Holds) fun r7 =>
      if (!decide (r7.2 = 0)) = true then
        letM (⟨(default : ByteArray), 0, 0, (default : TCounter), (default : TLock), ([] : List THold)⟩ : TField) fun v8 =>
        some (v8, r7.2)
      else
        Option.bind (lock_Join a1.Lock a2.Lock) fun r9 =>
        letM ({ a1 with Counter := r5.1 }) fun v10 =>
        letM ({ v10 with Holds := r7.1 }) fun v11 =>
        letM ({ v11 with Lock := r9 }) fun v12 =>
        some (v12, 0)
def usufructlaw07_Step (a1 : Tusufructlaw07_Do) (b2 : Vector TField 16) : Option (Int × (Vector TField 16)) :=
  if ((decide (a1.I < 0)) || (decide (15 < a1.I))) = true then
    some (1, b2)
  else
    Option.bind (fix_ 16 a1.I) fun k3 =>
    letM (b2.get k3) fun v4 =>
    if (decide (a1.Verb = 0)) = true then
      Option.bind (field_Add v4 a1.I a1.N) fun r5 =>
      if (decide (r5.2 = 0)) = true then
        Option.bind (fix_ 16 a1.I) fun k6 =>
        letM (b2.set k6.val r5.1) fun v7 =>
        some (r5.2, v7)
      else
        some (r5.2, b2)
    else
      if (decide (a1.Verb = 1)) = true then
        Option.bind (field_Hand v4 a1.I a1.K a1.N a1.M) fun r8 =>
        if (decide (r8.2 = 0)) = true then
          Option.bind (fix_ 16 a1.I) fun k9 =>
          letM (b2.set k9.val r8.1) fun v10 =>
          some (r8.2, v10)
        else
          some (r8.2, b2)
      else
        if (decide (a1.Verb = 2)) = true then
          Option.bind (field_Reserve v4 a1.I a1.N a1.M) fun r11 =>
          if (decide (r11.2.2 = 0)) = true then
            Option.bind (fix_ 16 a1.I) fun k12 =>
            letM (b2.set k12.val r11.1) fun v13 =>
            some (r11.2.2, v13)
          else
            some (r11.2.2, b2)
        else
          if (decide (a1.Verb = 3)) = true then
            Option.bind (field_End v4 a1.I a1.N a1.M) fun r14 =>
            if (decide (r14.2 = 0)) = true then
              Option.bind (fix_ 16 a1.I) fun k15 =>
              letM (b2.set k15.val r14.1) fun v16 =>
              some (r14.2, v16)
            else
              some (r14.2, b2)
          else
            if (decide (a1.Verb = 4)) = true then
              Option.bind (field_Expire v4 a1.I a1.M) fun r17 =>
              if (decide (0 = 0)) = true then
                Option.bind (fix_ 16 a1.I) fun k18 =>
                letM (b2.set k18.val r17.1) fun v19 =>
                some (0, v19)
              else
                some (0, b2)
            else
              if (decide (a1.Verb = 5)) = true then
                Option.bind (field_Write v4 a1.I a1.N) fun r20 =>
                if (decide (r20.2 = 0)) = true then
                  Option.bind (fix_ 16 a1.I) fun k21 =>
                  letM (b2.set k21.val r20.1) fun v22 =>
                  some (r20.2, v22)
                else
                  some (r20.2, b2)
              else
                if (decide (a1.Verb = 6)) = true then
                  Option.bind (field_Pass v4 a1.I a1.K) fun r23 =>
                  if (decide (r23.2 = 0)) = true then
                    Option.bind (fix_ 16 a1.I) fun k24 =>
                    letM (b2.set k24.val r23.1) fun v25 =>
                    some (r23.2, v25)
                  else
                    some (r23.2, b2)
                else
                  if (decide (a1.Verb = 7)) = true then
                    if ((decide (0 ≤ a1.K)) && (decide (a1.K ≤ 15))) = true then
                      Option.bind (fix_ 16 a1.K) fun k26 =>
                      letM (b2.get k26) fun v27 =>
                      Option.bind (field_Join v4 v27) fun r28 =>
                      if (decide (r28.2 = 0)) = true then
                        Option.bind (fix_ 16 a1.I) fun k29 =>
                        letM (b2.set k29.val r28.1) fun v30 =>
                        some (r28.2, v30)
                      else
                        some (r28.2, b2)
                    else
                      if (decide (1 = 0)) = true then
                        Option.bind (fix_ 16 a1.I) fun k31 =>
                        letM (b2.set k31.val v4) fun v32 =>
                        some (1, v32)
                      else
                        some (1, b2)
                  else
                    if (decide (1 = 0)) = true then
                      Option.bind (fix_ 16 a1.I) fun k33 =>
                      letM (b2.set k33.val v4) fun v34 =>
                      some (1, v34)
                    else
                      some (1, b2)
def usufructlaw07_FieldLoose_L1 (r7 : TField × Int) (s12 : Int × (Vector TField 16)) : Option ((Int × (Vector TField 16)) ⊕ ((Vector TField 16))) :=
  if (decide (s12.1 < 16)) = true then
        Option.bind (fix_ 16 s12.1) fun k14 =>
        letM (s12.2.set k14.val r7.1) fun v15 =>
        some (.inl ((wr .i64 (s12.1 + 1)), v15))
      else
        some (.inr s12.2)
def usufructlaw07_FieldLoose_L2 (a4 : List Tusufructlaw07_Do) (s17 : Int × (Vector TField 16)) : Option ((Int × (Vector TField 16)) ⊕ (((Vector TField 16)) ⊕ Bool)) :=
  if (decide (s17.1 < (a4.length : Int))) = true then
          Option.bind (six a4 s17.1) fun j19 =>
          letM (a4.getD j19 default) fun v20 =>
          letM (((decide (v20.N ≤ 3000)) && (decide (v20.M ≤ 3000))) && (decide ((-3000) ≤ v20.N))) fun v21 =>
          if (!(v21 && (decide ((-3000) ≤ v20.M)))) = true then
            Option.bind (usufructlaw07_awake) fun r22 =>
            some (.inr (.inr r22))
          else
            Option.bind (usufructlaw07_Step v20 s17.2) fun r23 =>
            some (.inl ((wr .i64 (s17.1 + 1)), r23.2))
        else
          some (.inr (.inl s17.2))
def usufructlaw07_FieldLoose (a1 : Int) (a2 : Int) (a3 : Int) (a4 : List Tusufructlaw07_Do) (a5 : Int) (a6 : Int) : Option (Bool) :=
  Option.bind (field_Counter (⟨#[97]⟩ : ByteArray) a1 a2 a3) fun r7 =>
  letM (((!decide (r7.2 = 0)) || (decide (a2 < (-1000)))) || (decide (1000 < a3))) fun v8 =>
  letM (((v8 || (decide (60 < (a4.length : Int)))) || (decide (a5 < 0))) || (decide (15 < a5))) fun v9 =>
  if v9 = true then
    Option.bind (usufructlaw07_awake) fun r10 =>
    some r10
  else
    Option.bind (loopM (usufructlaw07_FieldLoose_L1 r7) fuel (0, (default : Vector TField 16))) fun x13 =>
    Option.bind (loopM (usufructlaw07_FieldLoose_L2 a4) fuel (0, x13)) (onS (fun x18 => Option.bind (fix_ 16 a5) fun k24 =>
        letM (x18.get k24) fun v25 =>
        Option.bind (field_Loose v25 a5) fun r26 =>
        Option.bind (field_Reserve v25 a5 a6 9) fun r27 =>
        if (!decide (r27.2.2 = 0)) = true then
          letM (((decide (a6 < 0)) || (decide (r26.1 < a6))) || (decide ((v25.Holds.length : Int) = 16))) fun v28 =>
          Option.bind (gd (v28 = true) (usufructlaw07_awake)) fun r29 =>
          some (v28 && r29)
        else
          Option.bind (field_Loose r27.1 a5) fun r30 =>
          Option.bind (field_End r27.1 a5 r27.2.1 3) fun r31 =>
          Option.bind (field_End r27.1 a5 r27.2.1 2) fun r32 =>
          Option.bind (field_Loose r31.1 a5) fun r33 =>
          Option.bind (field_View v25) fun r34 =>
          Option.bind (field_View r32.1) fun r35 =>
          Option.bind (field_Loose r32.1 a5) fun r36 =>
          letM (((decide (r31.2 = 0)) && (decide (r32.2 = 0))) && (decide (r30.1 = (wr .i64 (r26.1 - a6))))) fun v37 =>
          letM (((v37 && (decide (r30.2 = r26.2))) && (decide (r33.1 = r26.1))) && (decide (r35.1 = (wr .i64 (r34.1 - a6))))) fun v38 =>
          Option.bind (gd ((v38 && (decide (r36.1 = (wr .i64 (r26.1 - a6))))) = true) (usufructlaw07_awake)) fun r39 =>
          letM ((v38 && (decide (r36.1 = (wr .i64 (r26.1 - a6))))) && r39) fun v40 =>
          some v40)
      (fun r => some r))
end Go.Av
